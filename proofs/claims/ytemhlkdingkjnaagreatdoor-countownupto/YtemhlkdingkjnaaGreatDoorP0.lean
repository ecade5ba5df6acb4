/-
  The plain laws.
-/
import Derived.Test.YtemhlkdingkjnaaGreatDoorF1
import Derived.Test.YtemhlkdingkjnaaGreatDoorVaTab
import Derived.Lib.MapLaws
import Derived.Test.YtemhlkdingkjnaaGreatDoorRows
import Derived.Test.YtemhlkdingkjnaaGreatDoorCards
import Derived.Test.YtemhlkdingkjnaaGreatDoorTie
import Derived.JoinedCond
import Derived.ChangeCalls
import Derived.Lib.LaidIn
import Derived.Lib.LaidU8T
import Derived.Deep.DeepHandedRow
import Derived.ProofKit
import Derived.HandedShaped
import Derived.Shelf.Vars
import Derived.Test.YtemhlkdingkjnaaGreatDoorVaSort
set_option linter.unusedVariables false
set_option linter.unusedSimpArgs false
namespace Go.Proofs.YtemhlkdingkjnaaGreatDoor
open Go Go.Va Go.Proofs
def ok32 (b:UInt8):Bool:=decide (32≤b.toNat)&&decide (b.toNat≠127)
def cleanB (s:ByteArray):Bool:=s.data.toList.all ok32&&Lib.validD s.data.toList
theorem bnd_some {α β:Type}(a:α)(f:α→Option β):bnd (some a) f=f a:=rfl
theorem all_drop (l:List UInt8)(k:Nat)(h:k<l.length):(l.drop k).all ok32=(ok32 (l.getD k 0)&&(l.drop (k+1)).all ok32):=by
  rw[List.drop_eq_getElem_cons h,List.all_cons,List.getD_eq_getElem?_getD,List.getElem?_eq_getElem h]
  rfl
theorem bt_nat (s:ByteArray)(k:Nat):bt s (k:Int)=((s.data.toList.getD k 0).toNat:Int):=rfl
theorem clean42_J (n:Nat) (s:ByteArray) (hs:s.size≤1073741824):∀ (m k:Nat),k≤s.size→s.size-k<m →
    F_label_Clean.J1 n m (s,ofBytes s,(((ofBytes s).length:Nat):Int),(k:Int),())=some ((s.data.toList.drop k).all ok32&&Lib.validD s.data.toList,())
  | 0,k,_,h=>by omega
  | m + 1,k,hk,h=>by
    have hsz:=size_eq s
    have hl:=size_of s
    rw[F_label_Clean.e1]
    simp only[hide_eq,bIf_eq,gIf_eq,Nat.zero_add]
    by_cases hlt:k<s.size
    · rw[if_pos (decide_eq_true (by omega)),if_pos ⟨by omega,by omega⟩,all_drop _ _ (by omega),wrap_i64 (by omega)]
      have hb:(ofBytes s).getD (k:Int).toNat 0=((s.data.toList.getD k 0).toNat:Int):=by rw[← bt_getD];rfl
      rw[hb]
      have ih:=clean42_J n s hs m (k+1) (by omega) (by omega)
      rw[show (((k+1:Nat):Int))=(k:Int)+1 by omega]at ih
      rw[ih]
      generalize s.data.toList.getD k 0=b
      unfold ok32
      by_cases h1:b.toNat<32
      · rw[if_pos (decide_eq_true (by omega)),decide_eq_false (by omega)];rfl
      · rw[if_neg (by simp;omega),decide_eq_true (by omega)]
        by_cases h2:b.toNat=127
        · rw[if_pos (by rw[beq_iff_eq];omega),decide_eq_false (by omega)];rfl
        · rw[if_neg (by rw[beq_iff_eq];omega),decide_eq_true (by omega)];simp
    · rw[if_neg (by simp;omega)]
      have hkk:k=s.size:=by omega
      subst hkk
      rw[hsz,List.drop_length]
      rw[F_label_Clean.e2]
      unfold F_unicode_utf8_ValidString.f
      rw[if_pos (by omega),bnd_some]
      rfl
theorem clean42 {n:Nat}{s:ByteArray}(hs:s.size≤1073741824)(hn:s.size<n):F_label_Clean.f n s=some (cleanB s,()):=by
  rw[F_label_Clean.e0]
  change F_label_Clean.J1 n n (s,ofBytes s,(((ofBytes s).length:Nat):Int),((0:Nat):Int),())=_
  rw[clean42_J n s hs n 0 (by omega) (by omega)]
  rfl
end Go.Proofs.YtemhlkdingkjnaaGreatDoor
namespace Go.Proofs.YtemhlkdingkjnaaGreatDoor
open Go Go.Va Go.Proofs
theorem ba_beq (a b:ByteArray):(a==b)=decide (a=b):=by
  change (a.data==b.data)=_
  by_cases h:a=b
  · subst h;simp
  · rw[decide_eq_false h]
    exact beq_false_of_ne (λe=>h (by cases a;cases b;exact congrArg _ e))
theorem eqS_eq (a b:ByteArray):eqS a b=(a==b):=by
  unfold eqS
  rw[Lib.toList_data,Lib.toList_data,ba_beq]
  by_cases h:a=b
  · subst h;simp
  · rw[decide_eq_false h]
    exact beq_false_of_ne (λe=>h (by cases a;cases b;simp at e;rw[e]))
def clampI (t:Int):Int:=if t < -62135596800 then -62135596800 else if t>253402300799 then 253402300799 else t
theorem clamp33 (n:Nat)(t:Int):F_when_Clamp.f n t=some (clampI t,()):=by
  rw[F_when_Clamp.e0]
  unfold clampI maxI minI
  congr 2
  repeat' split
  all_goals omega
def lockB (l:D_api_Lock):Bool:=
  if l.1=0 then l.2.1==0 else if l.1=1∨l.1=2 then l.2.1==clampI l.2.1 else false
theorem lock34 (n:Nat)(l:D_api_Lock):F_mode_Sound.f n l=some (lockB l,()):=by
  rw[F_mode_Sound.e0]
  unfold lockB
  simp only[hide_eq,bIf_eq,F_mode_Sound.e1,clamp33,bnd_some,beq_iff_eq]
  by_cases h0:l.1=0
  · rw[if_pos h0,if_pos h0]
  · rw[if_neg h0,if_neg h0]
    by_cases h1:l.1=1
    · rw[if_pos h1,if_pos (c:=l.1=1∨l.1=2) (.inl h1)];rfl
    · rw[if_neg h1]
      by_cases h2:l.1=2
      · rw[if_pos h2,if_pos (c:=l.1=1∨l.1=2) (.inr h2)]
      · rw[if_neg h2,if_neg (c:=l.1=1∨l.1=2) (not_or.2 ⟨h1,h2⟩)]
theorem size0 (s:ByteArray):eqS s ⟨#[]⟩=decide (s.size=0):=by
  rw[eqS_eq,ba_beq]
  by_cases h:s=⟨#[]⟩
  · subst h;rfl
  · rw[decide_eq_false h,decide_eq_false]
    intro h2
    apply h
    cases s with | mk d=>
    have:d = #[]:=Array.eq_empty_of_size_eq_zero h2
    rw[this]
def tagB (t:D_api_Tag):Bool:=decide (1≤t.1.size)&&(decide (t.1.size≤64)&&(decide (t.2.1.size≤64)&&(cleanB t.1&&cleanB t.2.1)))
def TB (n:Nat)(t:D_api_Tag):Prop:=t.1.size<n∧t.2.1.size<n
theorem tag47 {n:Nat}{t:D_api_Tag}(h:TB n t)(hn:n≤536870912):F_tags_good.f n t=some (tagB t,()):=by
  rw[F_tags_good.e0]
  unfold tagB
  rw[clean42 (by have:=h.1;omega) h.1,clean42 (by have:=h.2;omega) h.2,size0]
  simp only[hide_eq,bIf_eq,bnd_some]
  have e1:decide ((t.1.size:Int)≤64)=decide (t.1.size≤64):=decide_eq_decide.2 (by omega)
  have e2:decide ((t.2.1.size:Int)≤64)=decide (t.2.1.size≤64):=decide_eq_decide.2 (by omega)
  have e0:(!decide (t.1.size=0))=decide (1≤t.1.size):=by
    by_cases h0:t.1.size=0
    · rw[decide_eq_true h0,decide_eq_false (by omega)];rfl
    · rw[decide_eq_false h0,decide_eq_true (by omega)];rfl
  rw[e0,e1,e2]
  cases decide (1≤t.1.size)<;>cases decide (t.1.size≤64)<;>cases decide (t.2.1.size≤64)<;>cases cleanB t.1<;>simp
def chk {α:Type}(p:α→Bool)(q:α→α→Bool):Option α→List α→Bool
  | _,[]=>true
  | none,x::l=>p x&&chk p q (some x) l
  | some y,x::l=>p x&&(q y x&&chk p q (some x) l)
def prev {α:Type}(l:List α)(k:Nat):Option α:=if k=0 then none else l[k-1]?
theorem chk_zero {α:Type}{p:α→Bool}{q:α→α→Bool}{l:List α}{d:α}(h:0<l.length):chk p q (prev l 0) (l.drop 0)=(p (l.getD 0 d)&&chk p q (prev l 1) (l.drop 1)):=by
  cases l with
  | nil=>simp at h
  | cons x r=>rfl
theorem chk_succ {α:Type}{p:α→Bool}{q:α→α→Bool}{l:List α}{d:α}{k:Nat}(h0:0<k)(h:k<l.length):chk p q (prev l k) (l.drop k)=(p (l.getD k d)&&(q (l.getD (k-1) d) (l.getD k d)&&chk p q (prev l (k+1)) (l.drop (k+1)))):=by
  rw[List.drop_eq_getElem_cons h]
  unfold prev
  rw[if_neg (by omega),if_neg (by omega),List.getElem?_eq_getElem (by omega),Nat.add_sub_cancel,List.getElem?_eq_getElem h]
  rw[List.getD_eq_getElem?_getD,List.getD_eq_getElem?_getD,List.getElem?_eq_getElem h,List.getElem?_eq_getElem (by omega)]
  rfl
theorem chk_end {α:Type}{p:α→Bool}{q:α→α→Bool}{l:List α}{k:Nat}(h:l.length≤k)(o:Option α):chk p q o (l.drop k)=true:=by
  rw[List.drop_eq_nil_of_le h];cases o<;>rfl
theorem getD_memA {α:Type}{l:List α}{k:Nat}{d:α}(h:k<l.length):l.getD k d∈l:=by
  rw[List.getD_eq_getElem?_getD,List.getElem?_eq_getElem h];exact List.getElem_mem h
def tagsB (l:List (D_api_Tag)):Bool:=decide (l.length≤8)&&chk tagB (λa b=>ltS a.1 b.1) none l
def TsB (n:Nat)(l:List (D_api_Tag)):Prop:=l.length<n∧∀ t∈l,TB n t
theorem tags35_J (n:Nat) (hn:n≤536870912) (l:List (D_api_Tag)) (hl:TsB n l):∀ (m k:Nat),k≤l.length→l.length-k<m →
    F_tags_Sound.J1 n m (l,l,((l.length:Nat):Int),(k:Int),())=some (chk tagB (λa b=>ltS a.1 b.1) (prev l k) (l.drop k),())
  | 0,k,_,h=>by omega
  | m + 1,k,hk,h=>by
    have hl1:=hl.1
    rw[F_tags_Sound.e1]
    simp only[hide_eq,bIf_eq,gIf_eq]
    by_cases hlt:k<l.length
    · have ih:=tags35_J n hn l hl m (k+1) (by omega) (by omega)
      rw[if_pos (decide_eq_true (by omega)),if_pos ⟨by omega,by omega⟩,Int.toNat_natCast,tag47 (hl.2 _ (getD_memA hlt)) hn,bnd_some,wrap_i64 (x:=(k:Int)+1) (by omega),show ((k:Int)+1)=((k+1:Nat):Int) by omega,ih]
      by_cases h0:k=0
      · subst h0
        rw[chk_zero (d:=Va.dflt T_api_Tag) (by omega),if_neg (c:=decide (((0:Nat):Int)>0)=true) (by simp)]
        cases tagB (l.getD 0 (Va.dflt T_api_Tag))<;>simp
      · rw[chk_succ (d:=Va.dflt T_api_Tag) (by omega) hlt,if_pos (c:=decide ((k:Int)>0)=true) (decide_eq_true (by omega)),wrap_i64 (by omega),if_pos (show 0≤(k:Int)-1∧(k:Int)-1<((l.length:Nat):Int) from ⟨by omega,by omega⟩),show ((k:Int)-1).toNat=k-1 by omega]
        cases tagB (l.getD k (Va.dflt T_api_Tag))<;>cases ltS (l.getD (k-1) (Va.dflt T_api_Tag)).1 (l.getD k (Va.dflt T_api_Tag)).1<;>simp
    · rw[if_neg (by simp;omega),chk_end (by omega)]
      rw[F_tags_Sound.e2]
theorem tags35 {n:Nat}(hn:n≤536870912){l:List (D_api_Tag)}(hl:TsB n l):F_tags_Sound.f n l=some (tagsB l,()):=by
  have h:=tags35_J n hn l hl n 0 (by omega) (by have:=hl.1;omega)
  rw[F_tags_Sound.e0]
  unfold tagsB
  simp only[hide_eq,bIf_eq]
  by_cases h8:l.length≤8
  · rw[if_neg (by simp;omega),decide_eq_true h8]
    exact h
  · rw[if_pos (decide_eq_true (by omega)),decide_eq_false h8];rfl
def keyB (s:ByteArray):Bool:=decide (1≤s.size)&&(decide (s.size≤200)&&cleanB s)
theorem key24 {n:Nat}{s:ByteArray}(hs:s.size<n)(hn:n≤536870912):F_label_Key.f n s=some (keyB s,()):=by
  rw[F_label_Key.e0]
  unfold keyB
  rw[clean42 (by omega) hs,size0]
  simp only[hide_eq,bIf_eq,bnd_some]
  have e1:decide ((s.size:Int)≤200)=decide (s.size≤200):=decide_eq_decide.2 (by omega)
  have e0:(!decide (s.size=0))=decide (1≤s.size):=by
    by_cases h0:s.size=0
    · rw[decide_eq_true h0,decide_eq_false (by omega)];rfl
    · rw[decide_eq_false h0,decide_eq_true (by omega)];rfl
  rw[e0,e1]
  cases decide (1≤s.size)<;>cases decide (s.size≤200)<;>simp
end Go.Proofs.YtemhlkdingkjnaaGreatDoor
namespace Go.Proofs.YtemhlkdingkjnaaGreatDoor
open Go Go.Va Go.Proofs
abbrev Ver:Type:=D_api_Version
def mark (v:Ver):Bool:=v.2.1
def vsize (v:Ver):Int:=v.2.2.1
def blob (v:Ver):Int:=v.2.2.2.1
def dig (v:Ver):List Int:=v.2.2.2.2.1
def made (v:Ver):Int:=v.2.2.2.2.2.1
def lock (v:Ver):D_api_Lock:=v.2.2.2.2.2.2.1
def tags (v:Ver):List (D_api_Tag):=v.2.2.2.2.2.2.2.1
theorem z_pos (z:Int):decide (z>0)=decide (1≤z):=decide_eq_decide.2 (by omega)
theorem z_eq (z:Int)(h:0≤z):(z==0)=!decide (1≤z):=by
  by_cases h1:z=0
  · subst h1;rfl
  · rw[decide_eq_true (by omega),beq_false_of_ne h1];rfl
def verB (v:Ver):Bool:=
  decide (1≤v.1)&&(decide (made v=clampI (made v)) &&
    if mark v=true then (vsize v==0)&&((blob v==0)&&((dig v).all (· == 0)&&(((lock v).1==0&&((lock v).2.1==0&&!(lock v).2.2.1))&&decide ((tags v).length=0))))
    else decide (0≤vsize v)&&(decide (vsize v≤16384)&&(decide (1≤blob v)&&(lockB (lock v)&&tagsB (tags v)))))
structure VB (n:Nat)(v:Ver):Prop where
  id:0≤v.1
  blob:0≤blob v
  dig:(dig v).length=32
  tags:TsB n (tags v)
theorem zeroD:∀ (k:Nat) (d:List Int),d.length=k→eqD (.arr k (.int .u8)) d (List.replicate k 0)=d.all (· == 0)
  | 0,[],_=>rfl
  | k+1,x::d,h=>by
    have ih:=zeroD k d (by simpa using h)
    change (decide (x=0)&&eqD (.arr k (.int .u8)) d (List.replicate k 0))=((x==0)&&d.all (· == 0))
    rw[ih];rfl
theorem ver18 {n:Nat} (hn:n≤536870912) {v:Ver} (hv:VB n v):F_object_Good.f n v=some (verB v,()):=by
  rw[F_object_Good.e0]
  simp only[hide_eq,bIf_eq,clamp33,bnd_some]
  rw[F_object_Good.e1]
  have ht:=tags35 hn hv.tags
  unfold tags at ht
  rw[lock34,ht]
  simp only[hide_eq,bIf_eq,bnd_some]
  have hz:eqD (.arr 32 (.int .u8)) v.2.2.2.2.1 ([]++List.replicate (32-([]:List Int).length) 0)=(dig v).all (· == 0):=zeroD 32 _ hv.dig
  rw[hz]
  have hl:eqD T_api_Lock v.2.2.2.2.2.2.1 (0,(0,(false,())))=((lock v).1==0&&((lock v).2.1==0&&!(lock v).2.2.1)):=by
    change (decide ((lock v).1=0)&&(decide ((lock v).2.1=0)&&(((lock v).2.2.1==false)&&true)))=_
    cases (lock v).2.2.1<;>rfl
  rw[hl]
  have h0:=hv.id
  have hb:=hv.blob
  have e2:(((v.2.2.2.2.2.2.2.1.length:Nat):Int)==0)=decide ((tags v).length=0):=by
    change (((tags v).length:Int)==0)=_
    cases (tags v).length<;>rfl
  rw[e2]
  have e3:decide (v.2.2.2.1>0)=decide (1≤blob v):=z_pos (blob v)
  have e4:(v.1==0)=!decide (1≤v.1):=z_eq v.1 h0
  have e5:(v.2.2.2.2.2.1 != clampI v.2.2.2.2.2.1)=!decide (made v=clampI (made v)):=rfl
  simp only[e3,e4,e5]
  unfold verB
  change (if (!decide (1≤v.1))=true then _ else if (!decide (made v=clampI (made v)))=true then _ else if mark v=true then _ else _)=_
  cases decide (1≤v.1)
  · rfl
  · cases decide (made v=clampI (made v))
    · rfl
    · cases hm:mark v
      · change (if decide (0≤vsize v)=true then if decide (vsize v≤16384)=true then _ else _ else _)=_
        change (if decide (0≤vsize v)=true then if decide (vsize v≤16384)=true then if decide (1≤blob v)=true then if lockB (lock v)=true then some (tagsB (tags v),()) else some (false,()) else some (false,()) else some (false,()) else (some (false,()):Option F_object_Good.R))=_
        cases decide (0≤vsize v)<;>cases decide (vsize v≤16384)<;>cases decide (1≤blob v)<;>cases lockB (lock v)<;>rfl
      · change (if (vsize v==0)=true then if (blob v==0)=true then if (dig v).all (· == 0)=true then if ((lock v).1==0&&((lock v).2.1==0&&!(lock v).2.2.1))=true then some (decide ((tags v).length=0),()) else some (false,()) else some (false,()) else some (false,()) else (some (false,()):Option F_object_Good.R))=_
        cases (vsize v==0)<;>cases (blob v==0)<;>cases (dig v).all (· == 0)<;>cases ((lock v).1==0&&((lock v).2.1==0&&!(lock v).2.2.1))<;>rfl
end Go.Proofs.YtemhlkdingkjnaaGreatDoor
namespace Go.Proofs.YtemhlkdingkjnaaGreatDoor
open Go Go.Va Go.Proofs
theorem bIf_true {α:Type}(x y:α):bIf true x y=x:=rfl
theorem bIf_false {α:Type}(x y:α):bIf false x y=y:=rfl
theorem bIf_and (a b:Bool):bIf a (some (b,())) (some (false,()))=some (a&&b,()):=by cases a<;>rfl
theorem bIf_bool (a:Bool):bIf a (some (true,())) (some (false,()))=some (a,()):=by cases a<;>rfl
theorem all_loop {α R:Type}{l:List α}(d:α)(p:α→Bool)(J:Nat→Int→Option R)(yes no:Option R)
    (hs:∀ m (k:Nat),k<l.length→J (m+1) (k:Int)=bIf (p (l.getD k d)) (J m ((k+1:Nat):Int)) no) (he:∀ m,J (m+1) ((l.length:Nat):Int)=yes) :
    ∀ (m k:Nat),k≤l.length→l.length-k<m→J m (k:Int)=bIf ((l.drop k).all p) yes no
  | 0,k,_,h=>by omega
  | m + 1,k,hk,h=>by
    by_cases hlt:k<l.length
    · rw[hs m k hlt,all_loop d p J yes no hs he m (k+1) (by omega) (by omega),List.drop_eq_getElem_cons hlt,List.all_cons,List.getD_eq_getElem?_getD,List.getElem?_eq_getElem hlt]
      simp only[Option.getD_some]
      cases p l[k]<;>rfl
    · have:k=l.length:=by omega
      subst this
      rw[he,List.drop_length];rfl
theorem idx_loop {α:Type}{l:List α}(d:α)(p:α→Bool)(J:Nat→Int→Option (Int×Unit))
    (hs:∀ m (k:Nat),k<l.length→J (m+1) (k:Int)=bIf (p (l.getD k d)) (some ((k:Int),())) (J m ((k+1:Nat):Int))) (he:∀ m,J (m+1) ((l.length:Nat):Int)=some (-1,())) :
    ∀ (m k:Nat),k≤l.length→l.length-k<m→∃ i,J m (k:Int)=some (i,())∧decide (i≥0)=(l.drop k).any p
  | 0,k,_,h=>by omega
  | m + 1,k,hk,h=>by
    by_cases hlt:k<l.length
    · obtain⟨i,h1,h2⟩:=idx_loop d p J hs he m (k+1) (by omega) (by omega)
      rw[hs m k hlt,List.drop_eq_getElem_cons hlt,List.any_cons,List.getD_eq_getElem?_getD,List.getElem?_eq_getElem hlt]
      simp only[Option.getD_some]
      cases p l[k]
      · exact⟨i,h1,by rw[h2];rfl⟩
      · exact⟨_,rfl,by simp⟩
    · have:k=l.length:=by omega
      subst this
      rw[he,List.drop_length]
      exact⟨_,rfl,rfl⟩
theorem cast_up (k:Nat)(h:k<4611686018427387904):IntKind.i64.wrap ((k:Int)+1)=((k+1:Nat):Int):=by rw[wrap_i64 (by omega)];omega
theorem dec_not {p q:Prop} [Decidable p] [Decidable q](h:p↔¬ q):decide p=!decide q:=by rw[← decide_not];exact decide_eq_decide.2 h
def modeB (d:D_api_Default):Bool:=if d.1=0 then d.2.1==0 else (d.1==1||d.1==2)&&(decide (d.2.1≥1)&&decide (d.2.1≤36500))
theorem mode_Good (n:Nat)(d:D_api_Default):F_mode_Good.f n d=some (modeB d,()):=by
  rw[F_mode_Good.e0]
  simp only[F_mode_Good.e1,hide_eq,bIf_and]
  unfold modeB
  by_cases h0:d.1=0
  · simp[h0,bIf_true]
  · rw[beq_false_of_ne h0,bIf_false,if_neg h0]
    cases (d.1==1)<;>rfl
def globL:List UInt8→Bool
  | []=>true
  | c::r=>if c=92 then match r with
    | []=>false
    | _::r'=>globL r'
    else globL r
def globB (p:ByteArray):Bool:=decide (p.size≤200)&&globL p.data.toList
theorem globL_cons {c:UInt8}{r:List UInt8}(h:c≠92):globL (c::r)=globL r:=by rw[globL.eq_def];simp only[if_neg h]
theorem globL_q (b:UInt8)(r:List UInt8):globL (92::b::r)=globL r:=by rw[globL.eq_def];simp
theorem globL_end:globL [92]=false:=by rw[globL.eq_def];simp
theorem drop_getD (l:List UInt8){k:Nat}(h:k<l.length):l.drop k=l.getD k 0::l.drop (k+1):=by
  rw[List.drop_eq_getElem_cons h,List.getD_eq_getElem?_getD,List.getElem?_eq_getElem h];rfl
theorem u8_eq {b:UInt8}{c:Nat}(hc:c<256):((b.toNat:Int)==(c:Int))=decide (b=UInt8.ofNat c):=by
  have:=b.toNat_lt
  by_cases h:b=UInt8.ofNat c
  · subst h;rw[decide_eq_true rfl];simp[UInt8.toNat_ofNat'];omega
  · rw[decide_eq_false h]
    refine beq_false_of_ne (λe=>h ?_)
    apply UInt8.toNat_inj.1
    simp[UInt8.toNat_ofNat']
    omega
theorem glob_J (n:Nat) (p:ByteArray) (hp:p.size≤200):∀ (m k:Nat) (out:List D_glob_piece),k≤p.size→p.size-k<m→out.length≤k →
    ∃ o,F_glob_pieces.J1 n m (p,out,(k:Int),())=some (o,globL (p.data.toList.drop k),())
  | 0,k,out,_,h,_=>by omega
  | m + 1, k, out,hk,h,ho=>by
    have hsz:=size_eq p
    rw[F_glob_pieces.e1]
    simp only[hide_eq]
    by_cases hlt:k<p.size
    · have hd := drop_getD p.data.toList (k:=k) (by omega)
      rw[decide_eq_true (by omega),bIf_true,gIf_pos ⟨by omega,by omega⟩,bt_nat,hd]
      have hg:∀ o:List D_glob_piece,o.length≤k+1→(o.length+1)*16≤70368744177664:=λo h'=>by omega
      have e1:(((p.data.toList.getD k 0).toNat:Int)==42)=decide (p.data.toList.getD k 0=42):=u8_eq (c:=42) (by decide)
      have e2:(((p.data.toList.getD k 0).toNat:Int)==63)=decide (p.data.toList.getD k 0=63):=u8_eq (c:=63) (by decide)
      have e3:(((p.data.toList.getD k 0).toNat:Int)==92)=decide (p.data.toList.getD k 0=92):=u8_eq (c:=92) (by decide)
      rw[e1,e2,e3]
      generalize p.data.toList.getD k 0=c
      have st:∀ o:List D_glob_piece,o.length≤k+1→∃ o',F_glob_pieces.J3 n m (p,o,(k:Int),())=some (o',globL (p.data.toList.drop (k+1)),()):=λo h'=>by
        rw[F_glob_pieces.e3,cast_up k (by omega)]
        exact glob_J n p hp m (k+1) o (by omega) (by omega) h'
      by_cases h1:c=42
      · rw[decide_eq_true h1,bIf_true,gIf_pos (hg out (by omega)),globL_cons (by rw[h1];decide)]
        exact st _ (by simp;omega)
      · rw[decide_eq_false h1,bIf_false]
        by_cases h2:c=63
        · rw[decide_eq_true h2,bIf_true,gIf_pos (hg out (by omega)),globL_cons (by rw[h2];decide)]
          exact st _ (by simp;omega)
        · rw[decide_eq_false h2,bIf_false]
          by_cases h3:c=92
          · rw[decide_eq_true h3,bIf_true,cast_up k (by omega),h3]
            by_cases h4:k+1=p.size
            · rw[beq_iff_eq.2 (by omega),bIf_true,List.drop_eq_nil_of_le (by omega),globL_end]
              exact⟨_,rfl⟩
            · rw[beq_false_of_ne (by omega),bIf_false,F_glob_pieces.e2,gIf_pos ⟨by omega,by omega⟩,gIf_pos (hg out (by omega)),F_glob_pieces.e3,cast_up (k+1) (by omega),drop_getD p.data.toList (k:=k+1) (by omega),globL_q]
              exact glob_J n p hp m (k+1+1) _ (by omega) (by omega) (by simp;omega)
          · rw[decide_eq_false h3,bIf_false,F_glob_pieces.e2,gIf_pos ⟨by omega,by omega⟩,gIf_pos (hg out (by omega)),globL_cons h3]
            exact st _ (by simp;omega)
    · have hkk:k=p.size:=by omega
      subst hkk
      rw[decide_eq_false (by omega),bIf_false,F_glob_pieces.e4,hsz,List.drop_length]
      exact⟨_,rfl⟩
theorem glob_Sound {n:Nat}{p:ByteArray}(hp:p.size<n):F_glob_Sound.f n p=some (globB p,()):=by
  rw[F_glob_Sound.e0,F_glob_pieces.e0]
  simp only[hide_eq]
  unfold globB
  by_cases h:p.size≤200
  · rw[decide_eq_false (by omega),bIf_false,decide_eq_true h]
    obtain⟨o,ho⟩:=glob_J n p h n 0 [] (by omega) (by omega) (by simp)
    rw[show ((0:Nat):Int)=0 from rfl]at ho
    rw[ho];rfl
  · rw[decide_eq_true (by omega),decide_eq_false h];rfl
def partB (p:D_api_Part):Bool:=decide (p.1≥1)&&(decide (p.1≤10000)&&(decide (p.2.1≥0)&&(decide (p.2.1≤1024)&&decide (p.2.2.1≥1))))
theorem entry_Part (n:Nat)(p:D_api_Part):F_entry_Part.f n p=some (partB p,()):=by
  rw[F_entry_Part.e0];simp only[hide_eq,bIf_and];rfl
def ruleB (r:D_api_Rule):Bool:=decide (r.1.size≤200)&&(cleanB r.1&&(tagsB r.2.1&&(decide (r.2.2.1≥0)&&(decide (r.2.2.1≤36500)&&(decide (r.2.2.2.1≥0)&&decide (r.2.2.2.1≤36500))))))
structure RuB (n:Nat)(r:D_api_Rule):Prop where
  pre:r.1.size<n
  tags:TsB n r.2.1
theorem dec_cast (a b:Nat):decide ((a:Int)≤(b:Int))=decide (a≤b):=decide_eq_decide.2 (by omega)
theorem entry_Rule {n:Nat}(hn:n≤536870912){r:D_api_Rule}(hr:RuB n r):F_entry_Rule.f n r=some (ruleB r,()):=by
  have h1:=hr.pre
  rw[F_entry_Rule.e0,clean42 (by omega) h1,tags35 hn hr.tags]
  simp only[hide_eq,bnd_some,bIf_and]
  rw[show (200:Int)=((200:Nat):Int) from rfl,dec_cast];rfl
def rulesB (l:List D_api_Rule):Bool:=decide (l.length≤8)&&l.all ruleB
structure RusB (n:Nat)(l:List D_api_Rule):Prop where
  len:l.length<n
  all:∀ r∈l,RuB n r
theorem any_not {α:Type}(p:α→Bool):∀ l:List α,(!l.any λx=>!p x)=l.all p
  | []=>rfl
  | x::l=>by
    have:=any_not p l
    simp only[List.any_cons,List.all_cons,Bool.not_or,Bool.not_not,this]
theorem entry_Rules {n:Nat}(hn:n≤536870912){l:List D_api_Rule}(hl:RusB n l):F_entry_Rules.f n l=some (rulesB l,()):=by
  have hlen:=hl.len
  obtain⟨i,h1,h2⟩:=idx_loop (l:=l) (Va.dflt T_api_Rule) (λr=>!ruleB r) (λm k=>F_slices_IndexFunc_Rule.J1 n m (l,((l.length:Nat):Int),k,()))
    (λm k hk=>by
      try dsimp only
      rw[F_slices_IndexFunc_Rule.e1,hide_eq,decide_eq_true (by omega),bIf_true,gIf_pos ⟨by omega,by omega⟩,Int.toNat_natCast,F_entry_Rules_1.e0,entry_Rule hn (hl.all _ (getD_memA hk)),cast_up k (by omega)];rfl)
    (λm=>by
      try dsimp only
      rw[F_slices_IndexFunc_Rule.e1,hide_eq,decide_eq_false (by omega),bIf_false,F_slices_IndexFunc_Rule.e2]) n 0 (by omega) (by omega)
  rw[F_entry_Rules.e0,F_slices_ContainsFunc_Rule.e0,F_slices_IndexFunc_Rule.e0]
  try dsimp only at h1
  rw[show ((0:Nat):Int)=0 from rfl]at h1
  rw[h1]
  simp only[hide_eq,bnd_some,bIf_and]
  rw[h2,List.drop_zero,any_not,show (8:Int)=((8:Nat):Int) from rfl,dec_cast];rfl
def grantB (g:D_api_Grant):Bool:=globB g.2.1&&(globB g.2.2.1&&globB g.2.2.2.1)
structure GrB (n:Nat)(g:D_api_Grant):Prop where
  a:g.2.1.size<n
  b:g.2.2.1.size<n
  c:g.2.2.2.1.size<n
def grantsB (l:List D_api_Grant):Bool:=decide (l.length≤8)&&l.all grantB
structure GrsB (n:Nat)(l:List D_api_Grant):Prop where
  len:l.length<n
  all:∀ r∈l,GrB n r
theorem entry_Grants {n:Nat}(hn:n≤536870912){l:List D_api_Grant}(hl:GrsB n l):F_entry_Grants.f n l=some (grantsB l,()):=by
  have hlen:=hl.len
  obtain⟨i,h1,h2⟩:=idx_loop (l:=l) (Va.dflt T_api_Grant) (λr=>!grantB r) (λm k=>F_slices_IndexFunc_Grant.J1 n m (l,((l.length:Nat):Int),k,()))
    (λm k hk=>by
      have hr:=hl.all _ (getD_memA (d:=Va.dflt T_api_Grant) hk)
      try dsimp only
      rw[F_slices_IndexFunc_Grant.e1,hide_eq,decide_eq_true (by omega),bIf_true,gIf_pos ⟨by omega,by omega⟩,Int.toNat_natCast,F_entry_Grants_1.e0]
      generalize hx:l.getD k (Va.dflt T_api_Grant)=r at hr
      rw[glob_Sound hr.a,glob_Sound hr.b,glob_Sound hr.c,cast_up k (by omega)]
      simp only[bnd_some]
      unfold grantB
      cases globB r.2.1<;>cases globB r.2.2.1<;>cases globB r.2.2.2.1<;>rfl)
    (λm=>by
      try dsimp only
      rw[F_slices_IndexFunc_Grant.e1,hide_eq,decide_eq_false (by omega),bIf_false,F_slices_IndexFunc_Grant.e2]) n 0 (by omega) (by omega)
  rw[F_entry_Grants.e0,F_slices_ContainsFunc_Grant.e0,F_slices_IndexFunc_Grant.e0]
  try dsimp only at h1
  rw[show ((0:Nat):Int)=0 from rfl]at h1
  rw[h1]
  simp only[hide_eq,bnd_some,bIf_and]
  rw[h2,List.drop_zero,any_not,show (8:Int)=((8:Nat):Int) from rfl,dec_cast];rfl
end Go.Proofs.YtemhlkdingkjnaaGreatDoor
namespace Go.Proofs.YtemhlkdingkjnaaGreatDoor
open Go Go.Va Go.Proofs
def lowB (b:UInt8):Bool:=(decide (97≤b.toNat)&&decide (b.toNat≤122))||(decide (48≤b.toNat)&&decide (b.toNat≤57))
def digB (b:UInt8):Bool:=decide (48≤b.toNat)&&decide (b.toNat≤57)
def lowT:List UInt8:=[97,98,99,100,101,102,103,104,105,106,107,108,109,110,111,112,113,114,115,116,117,118,119,120,121,122,48,49,50,51,52,53,54,55,56,57]
def digT:List UInt8:=[48,49,50,51,52,53,54,55,56,57]
theorem low_all:∀ n,n<256→(decide (Lib.indexByte lowT (UInt8.ofNat n)≥0)=lowB (UInt8.ofNat n)∧digT.contains (UInt8.ofNat n)=digB (UInt8.ofNat n)):=by decide +kernel
theorem ofNat_toNat (b:UInt8):UInt8.ofNat b.toNat=b:=by simp
theorem low_idx (b:UInt8):decide (Lib.indexByte lowT b≥0)=lowB b:=by
  have:=(low_all b.toNat b.toNat_lt).1;rwa [ofNat_toNat]at this
theorem dig_has (b:UInt8):digT.contains b=digB b:=by
  have:=(low_all b.toNat b.toNat_lt).2;rwa [ofNat_toNat]at this
theorem among_low (n:Nat)(b:UInt8):F_label_among.f n ⟨#[97,98,99,100,101,102,103,104,105,106,107,108,109,110,111,112,113,114,115,116,117,118,119,120,121,122,48,49,50,51,52,53,54,55,56,57]⟩ (b.toNat:Int)=some (lowB b,()):=by
  rw[F_label_among.e0]
  unfold F_strings_IndexByte.f
  rw[bnd_some,hide_eq]
  have e:((b.toNat:Int)).toNat.toUInt8=b:=by
    rw[Int.toNat_natCast]
    exact ofNat_toNat b
  rw[e]
  exact congrArg (λx=>some (x,())) (low_idx b)
def spl (c:UInt8):List UInt8→List (List UInt8)
  | []=>[[]]
  | b::r=>if b=c then []::spl c r else match spl c r with
    | []=>[[b]]
    | p::ps=>(b::p)::ps
theorem index_cons (b c:UInt8)(l:List UInt8):Lib.index (b::l) [c]=if b=c then 0 else if Lib.index l [c] = -1 then -1 else Lib.index l [c]+1:=by
  rw[Lib.index]
  by_cases h:b=c
  · subst h;simp[List.isPrefixOf]
  · rw[if_neg h]
    have hp:([c]:List UInt8).isPrefixOf (b::l)=false:=by simp[List.isPrefixOf,Ne.symm h]
    rw[hp]
    simp
theorem splitK_spl (c:UInt8):∀ l:List UInt8,Lib.splitK [c] 0 (Lib.count l [c]) l=spl c l
  | []=>by rw[Lib.count_one];rfl
  | b :: l=>by
    have ih:=splitK_spl c l
    by_cases h:b=c
    · subst h
      rw[Lib.count_cons_eq,Nat.add_comm,Lib.splitK,index_cons,if_pos rfl,if_neg (by decide)]
      unfold spl
      rw[if_pos rfl]
      change List.take 0 (b::l)::Lib.splitK [b] 0 (Lib.count l [b]) (List.drop 1 (b::l))=_
      rw[List.take_zero,List.drop_one,List.tail_cons,ih]
    · rw[Lib.count_cons_ne b c l h]
      unfold spl
      rw[if_neg h,← ih]
      cases hk:Lib.count l [c] with
      | zero=>rfl
      | succ k=>
        rw[Lib.splitK,Lib.splitK,index_cons,if_neg h]
        by_cases hm:Lib.index l [c] = -1
        · rw[if_pos hm,if_pos (by decide),if_pos (by rw[hm];decide)]
        · have hge:=Lib.index_ge l [c]
          obtain⟨j,hj⟩:∃ j:Nat,Lib.index l [c]=j:=⟨(Lib.index l [c]).toNat,by omega⟩
          rw[if_neg hm,hj,if_neg (by rw[beq_iff_eq];omega),if_neg (by rw[beq_iff_eq];omega),show ((j:Int)+1).toNat=j+1 by omega,show ((j:Int)).toNat=j by omega]
          rfl
def okP (p:List UInt8):Bool:=decide (1≤p.length)&&(decide (p.length≤3)&&p.all digB)
def addrL (l:List UInt8):Bool:=decide ((spl 46 l).length=4)&&(spl 46 l).all okP
theorem dropWhile_nil {α:Type}(p:α→Bool):∀ l:List α,(l.dropWhile p=[])↔l.all p=true
  | []=>by simp
  | x::l=>by
    rw[List.dropWhile_cons,List.all_cons]
    cases h:p x
    · simp
    · simp[dropWhile_nil p l]
theorem trimS_nil (l:List UInt8):(Lib.trimS l digT=[])↔l.all digB=true:=by
  have hd:(digT.contains ·)=digB:=funext dig_has
  unfold Lib.trimS Lib.trimLeftS Lib.trimRightS
  rw[hd,dropWhile_nil,List.all_reverse]
  constructor
  · intro h
    have:l.reverse.dropWhile digB=[]:=by
      cases hc:l.reverse.dropWhile digB with
      | nil=>rfl
      | cons x r=>
        have h1:=List.head?_dropWhile_not digB l.reverse
        rw[hc]at h1 h
        simp only[List.all_cons,Bool.and_eq_true]at h
        simp[h.1]at h1
    rw[dropWhile_nil,List.all_reverse]at this
    exact this
  · intro h
    have:l.reverse.dropWhile digB=[]:=by rw[dropWhile_nil,List.all_reverse];exact h
    rw[this];rfl
theorem all_map {α β:Type}(f:α→β)(p:β→Bool):∀ l:List α,(l.map f).all p=l.all λx=>p (f x)
  | []=>rfl
  | x::l=>by simp only[List.map_cons,List.all_cons,all_map f p l]
theorem label_address {n:Nat} (hn:300≤n) {s:ByteArray} (hs:s.size≤63):F_label_address.f n s=some (addrL s.data.toList,()):=by
  rw[F_label_address.e0]
  unfold F_strings_Split.f
  rw[if_pos ⟨by omega,by decide⟩,bnd_some]
  have hmap:=Lib.splitB_data ⟨#[46]⟩ 0 (Lib.countB s ⟨#[46]⟩) s
  have hlen:=Lib.splitB_all ⟨#[46]⟩ (by decide) 0 _ s rfl
  have hcl:=Lib.countB_le ⟨#[46]⟩ (by decide) s.size s (Nat.le_refl _)
  have hspl:(Lib.splitB ⟨#[46]⟩ 0 (Lib.countB s ⟨#[46]⟩) s).map (·.data.toList)=spl 46 s.data.toList:=hmap.trans (splitK_spl 46 s.data.toList)
  simp only[hide_eq]
  generalize Lib.splitB ⟨#[46]⟩ 0 (Lib.countB s ⟨#[46]⟩) s=t at hspl hlen
  unfold addrL
  rw[← hspl,List.length_map,all_map]
  have h1 := all_loop (l:=t) (⟨#[]⟩:ByteArray) (λx=>okP x.data.toList) (λm k=>F_label_address.J1 n m (t,((t.length:Nat):Int),k,())) (some (true,())) (some (false,()))
    (λm k hk=>by
      try dsimp only
      rw[F_label_address.e1,hide_eq,decide_eq_true (by omega),bIf_true,gIf_pos ⟨by omega,by omega⟩,Int.toNat_natCast,Nat.zero_add,cast_up k (by omega)]
      generalize t.getD k ⟨#[]⟩=x
      simp only[hide_eq]
      rw[size0]
      unfold okP
      have hx:=size_eq x
      have e1:decide (x.size=0)=!decide (1≤x.data.toList.length):=dec_not (by omega)
      have e2:decide ((x.size:Int)>3)=!decide (x.data.toList.length≤3):=dec_not (by omega)
      rw[e1,e2]
      by_cases h3:x.data.toList.length≤3
      · unfold F_strings_Trim.f
        rw[if_pos ⟨by omega,by decide,by decide⟩,bnd_some,decide_eq_true h3]
        have e3:eqS (⟨(Lib.trimS x.data.toList digT).toArray⟩:ByteArray) ⟨#[]⟩=x.data.toList.all digB:=by
          rw[size0]
          have hz:((⟨(Lib.trimS x.data.toList digT).toArray⟩:ByteArray).size=0)↔x.data.toList.all digB=true:=by
            rw[← trimS_nil]
            simp[ByteArray.size]
          by_cases h:x.data.toList.all digB=true
          · rw[h,decide_eq_true (hz.2 h)]
          · rw[decide_eq_false (λh'=>h (hz.1 h'))];simpa using h
        rw[show (#[48,49,50,51,52,53,54,55,56,57]:Array UInt8).toList=digT from rfl,e3]
        cases decide (1≤x.data.toList.length)<;>cases x.data.toList.all digB<;>rfl
      · rw[decide_eq_false h3]
        cases decide (1≤x.data.toList.length)<;>rfl)
    (λm=>by
      try dsimp only
      rw[F_label_address.e1,hide_eq,decide_eq_false (by omega),bIf_false,F_label_address.e2]) n 0 (by omega) (by omega)
  try dsimp only at h1
  rw[show ((0:Nat):Int)=0 from rfl]at h1
  by_cases h4:t.length=4
  · rw[show (((t.length:Nat):Int) != 4)=false by rw[h4];rfl,bIf_false,h1,decide_eq_true h4,List.drop_zero,bIf_bool];rfl
  · rw[show (((t.length:Nat):Int) != 4)=true by rw[bne_iff_ne];omega,bIf_true,decide_eq_false h4];rfl
def badN (c d:UInt8):Bool:=(decide (d=46)||decide (d=45))&&(decide (c=46)||decide (d=46))
def mid (c:UInt8):Bool:=decide (c=45)||decide (c=46)
def nxt (c:UInt8):List UInt8→Bool
  | []=>false
  | d::_=>!badN c d
def lab:Bool→List UInt8→Bool
  | _,[]=>true
  | first,c::r=>(lowB c||(mid c&&(!first&&nxt c r)))&&lab false r
def bucketB (s:ByteArray):Bool:=decide (3≤s.size)&&(decide (s.size≤63)&&(!addrL s.data.toList&&lab true s.data.toList))
theorem u8_ne {b:UInt8}{c:Nat}(hc:c<256):((b.toNat:Int) != (c:Int))=!decide (b=UInt8.ofNat c):=by rw[← u8_eq hc];rfl
theorem bucket_J (n:Nat) (s:ByteArray) (hs:s.size≤63):∀ (m k:Nat),k≤s.size→s.size-k<m →
    F_label_Bucket.J2 n m (s,(s.size:Int),(k:Int),())=some (lab (decide (k=0)) (s.data.toList.drop k),())
  | 0,k,_,h=>by omega
  | m + 1,k,hk,h=>by
    have hsz:=size_eq s
    rw[F_label_Bucket.e2]
    simp only[hide_eq]
    by_cases hlt:k<s.size
    · have ih:=bucket_J n s hs m (k+1) (by omega) (by omega)
      rw[decide_eq_false (show ¬ (k+1=0) by omega)]at ih
      have hg:(0≤(k:Int)∧(k:Int)<(s.size:Int)):=⟨by omega,by omega⟩
      simp only[gIf_pos hg]
      rw[decide_eq_true (by omega),bIf_true,bt_nat,among_low,bnd_some,cast_up k (by omega),ih,wrap_i64 (x:=(s.size:Int)-1) (by omega)]
      rw[drop_getD s.data.toList (k:=k) (by omega)]
      have e1:(((s.data.toList.getD k 0).toNat:Int) != 45)=!decide (s.data.toList.getD k 0=45):=u8_ne (c:=45) (by decide)
      have e2:(((s.data.toList.getD k 0).toNat:Int) != 46)=!decide (s.data.toList.getD k 0=46):=u8_ne (c:=46) (by decide)
      rw[e1,e2]
      generalize hc:s.data.toList.getD k 0=c
      conv=>rhs;unfold lab
      have e3:((k:Int)==0)=decide (k=0):=by
        by_cases h0:k=0
        · subst h0;rfl
        · rw[decide_eq_false h0];exact beq_false_of_ne (by omega)
      have e4:((k:Int)==(s.size:Int)-1)=decide (k+1=s.size):=by
        by_cases h0:k+1=s.size
        · rw[decide_eq_true h0];exact beq_iff_eq.2 (by omega)
        · rw[decide_eq_false h0];exact beq_false_of_ne (by omega)
      rw[e3,e4]
      cases hl:lowB c
      · simp only[bIf_false]
        unfold mid
        by_cases hend:k+1=s.size
        · rw[decide_eq_true hend,show s.data.toList.drop (k+1)=[] from List.drop_eq_nil_of_le (by omega)]
          cases decide (c=45)<;>cases decide (c=46)<;>cases decide (k=0)<;>rfl
        · rw[decide_eq_false hend]
          have hJ3:F_label_Bucket.J3 n m (s,(k:Int),(s.size:Int),(k:Int),())=some (!badN c (s.data.toList.getD (k+1) 0)&&lab false (s.data.toList.drop (k+1)),()):=by
            rw[F_label_Bucket.e3,cast_up k (by omega),gIf_pos ⟨by omega,by omega⟩,bt_nat,bt_nat,hc,ih]
            simp only[hide_eq,gIf_pos hg]
            have f1:(((s.data.toList.getD (k+1) 0).toNat:Int)==46)=decide (s.data.toList.getD (k+1) 0=46):=u8_eq (c:=46) (by decide)
            have f2:(((s.data.toList.getD (k+1) 0).toNat:Int)==45)=decide (s.data.toList.getD (k+1) 0=45):=u8_eq (c:=45) (by decide)
            have f3:((c.toNat:Int)==46)=decide (c=46):=u8_eq (c:=46) (by decide)
            rw[f1,f2,f3]
            unfold badN
            cases decide (s.data.toList.getD (k+1) 0=46)<;>cases decide (s.data.toList.getD (k+1) 0=45)<;>cases decide (c=46)<;>rfl
          rw[hJ3]
          have hm:nxt c (s.data.toList.drop (k+1))=!badN c (s.data.toList.getD (k+1) 0):=by
            rw[drop_getD s.data.toList (k:=k+1) (by omega)];rfl
          rw[hm]
          cases decide (c=45)<;>cases decide (c=46)<;>cases decide (k=0)<;>simp[bIf_true,bIf_false]
      · simp only[bIf_true,Bool.true_or,Bool.true_and]
    · have hkk:k=s.size:=by omega
      subst hkk
      rw[decide_eq_false (by omega),bIf_false,F_label_Bucket.e4,hsz,List.drop_length]
      rfl
theorem label_Bucket {n:Nat}(hn:300≤n)(s:ByteArray):F_label_Bucket.f n s=some (bucketB s,()):=by
  rw[F_label_Bucket.e0]
  simp only[hide_eq]
  unfold bucketB
  have e1:decide ((s.size:Int)<3)=!decide (3≤s.size):=dec_not (by omega)
  have e2:decide ((s.size:Int)>63)=!decide (s.size≤63):=dec_not (by omega)
  rw[e1,e2]
  by_cases h:s.size≤63
  · rw[label_address hn h,bnd_some,decide_eq_true h,F_label_Bucket.e1]
    have:=bucket_J n s h n 0 (by omega) (by omega)
    rw[show ((0:Nat):Int)=0 from rfl,List.drop_zero]at this
    rw[this]
    cases decide (3≤s.size)<;>cases addrL s.data.toList<;>simp[bIf_true,bIf_false]
  · rw[decide_eq_false h]
    cases decide (3≤s.size)<;>rfl
end Go.Proofs.YtemhlkdingkjnaaGreatDoor
namespace Go.Proofs.YtemhlkdingkjnaaGreatDoor
open Go Go.Va Go.Proofs
theorem hide_n (x:Bool):hide x=x:=by cases x<;>rw[hide_eq]
def behB (last v:Ver):Bool:=decide (v.1>last.1)&&decide (made v≥made last)
theorem object_behind (n:Nat)(v last:Ver):F_object_behind.f n v last=some (behB last v,()):=by
  rw[F_object_behind.e0]
  simp only[hide_n]
  exact bIf_and _ _
def risB (l:List Ver):Bool:=chk verB behB none l
structure LB (n:Nat)(l:List Ver):Prop where
  len:l.length<n
  all:∀ v∈l,VB n v
theorem rising_J (n:Nat) (hn:n≤536870912) (l:List Ver) (hl:LB n l):∀ (m k:Nat),k≤l.length→l.length-k<m →
    F_object_rising.J1 n m (l,l,((l.length:Nat):Int),(k:Int),())=some (chk verB behB (prev l k) (l.drop k),())
  | 0,k,_,h=>by omega
  | m + 1,k,hk,h=>by
    have hl1:=hl.len
    rw[F_object_rising.e1]
    simp only[hide_n]
    by_cases hlt:k<l.length
    · have ih:=rising_J n hn l hl m (k+1) (by omega) (by omega)
      rw[decide_eq_true (by omega),bIf_true,gIf_pos ⟨by omega,by omega⟩,Int.toNat_natCast,ver18 hn (hl.all _ (getD_memA hlt)),bnd_some,cast_up k (by omega),ih]
      by_cases h0:k=0
      · subst h0
        rw[chk_zero (d:=Va.dflt T_api_Version) (by omega),decide_eq_false (show ¬ (((0:Nat):Int)>0) by simp),bIf_false]
        cases verB (l.getD 0 (Va.dflt T_api_Version))<;>rfl
      · rw[chk_succ (d:=Va.dflt T_api_Version) (by omega) hlt,decide_eq_true (show (k:Int)>0 by omega),bIf_true,wrap_i64 (x:=(k:Int)-1) (by omega),gIf_pos ⟨by omega,by omega⟩,show ((k:Int)-1).toNat=k-1 by omega,object_behind,bnd_some]
        dsimp only
        cases verB (l.getD k (Va.dflt T_api_Version))<;>cases behB (l.getD (k-1) (Va.dflt T_api_Version)) (l.getD k (Va.dflt T_api_Version))<;>rfl
    · rw[decide_eq_false (by omega),bIf_false,F_object_rising.e2,chk_end (by omega)]
theorem object_rising {n:Nat}(hn:n≤536870912){l:List Ver}(hl:LB n l):F_object_rising.f n l=some (risB l,()):=by
  rw[F_object_rising.e0]
  exact rising_J n hn l hl n 0 (by omega) (by have:=hl.len;omega)
def soundB (o:D_api_Object):Bool:=keyB o.1&&(decide (1≤o.2.1.length)&&risB o.2.1)
structure OB (n:Nat)(o:D_api_Object):Prop where
  key:o.1.size<n
  list:LB n o.2.1
theorem object_Sound {n:Nat}(hn:n≤536870912){o:D_api_Object}(ho:OB n o):F_object_Sound.f n o=some (soundB o,()):=by
  rw[F_object_Sound.e0,key24 ho.key hn,object_rising hn ho.list]
  simp only[hide_n,bnd_some]
  unfold soundB
  rw[show decide (((o.2.1.length:Nat):Int)>0)=decide (1≤o.2.1.length) from decide_eq_decide.2 (by omega)]
  cases keyB o.1<;>cases decide (1≤o.2.1.length)<;>rfl
end Go.Proofs.YtemhlkdingkjnaaGreatDoor
namespace Go.Proofs.YtemhlkdingkjnaaGreatDoor
open Go Go.Va Go.Proofs
abbrev Ce:Type:=D_meta_census
abbrev Seen:Type:=List (Int×Bool)
def got (seen:Seen)(x:Int):Bool:=(mGet (.int .u64) .bool seen x).1
def setS (seen:Seen)(x:Int):Seen:=mSet (.int .u64) .bool seen x true
def idOk (hi:Int)(seen:Seen)(x:Int):Bool:=!decide (x<1)&&(!decide (x≥hi)&&!got seen x)
def addIds (hi:Int):Seen→List Int→Option Seen
  | seen,[]=>some seen
  | seen,x::l=>if idOk hi seen x=true then addIds hi (setS seen x) l else none
theorem addIds_app (hi:Int):∀ (a:List Int) (seen:Seen) (b:List Int),addIds hi seen (a++b)=(addIds hi seen a).bind λs=>addIds hi s b
  | [],_,_=>rfl
  | x::a,seen,b=>by
    simp only[List.cons_append,addIds]
    split
    · exact addIds_app hi a _ b
    · rfl
def Step (c:Ce)(r:Bool×Ce)(ok:Bool)(ids:List Int)(add:Int):Prop:=
  r.1=(ok&&(addIds c.1.2.1 c.2.2.1 ids).isSome)∧∀ s',addIds c.1.2.1 c.2.2.1 ids=some s'→ok=true→r.2=(c.1,(c.2.1+add,(s',())))
theorem Step.fail {c:Ce}{r:Bool×Ce}{ids:List Int}{add:Int}(h:r.1=false):Step c r false ids add:=⟨by rw[h,Bool.false_and],λ_ _ h=>nomatch h⟩
theorem Step.pure (c:Ce)(b:Bool):Step c (b,c) b [] 0:=⟨by simp[addIds],λs' h _=>by
  simp only[addIds,Option.some.injEq]at h
  subst h
  rw[Int.add_zero]⟩
theorem Step.yes {c:Ce}{b:Bool}{c':Ce}{ok:Bool}{ids:List Int}{add:Int}(h:Step c (b,c') ok ids add)(hb:b=true):ok=true∧∃ s',addIds c.1.2.1 c.2.2.1 ids=some s'∧c'=(c.1,(c.2.1+add,(s',()))):=by
  have h1:=h.1
  rw[hb]at h1
  have h2:=Bool.and_eq_true _ _ ▸ h1.symm
  obtain⟨h3,h4⟩:=h2
  obtain⟨s',h5⟩:=Option.isSome_iff_exists.1 h4
  exact⟨h3,s',h5,h.2 s' h5 h3⟩
theorem Step.seq {c c1:Ce}{b1:Bool}{r r2:Bool×Ce}{ok1 ok2:Bool}{i1 i2:List Int}{a1 a2:Int}(h1:Step c (b1,c1) ok1 i1 a1)(h2:b1=true→Step c1 r2 ok2 i2 a2)(hr:b1=true→r=r2)(hf:b1=false→r.1=false) :
    Step c r (ok1&&ok2) (i1++i2) (a1+a2):=by
  cases hb:b1 with
  | true=>
    obtain⟨k1,s1,k2,k3⟩:=h1.yes hb
    have h3:=h2 hb
    rw[hr hb]
    subst k3 k1
    obtain⟨m1,m2⟩:=h3
    unfold Step
    rw[addIds_app,k2,Bool.true_and]
    refine⟨m1,λs' hs hok => ?_⟩
    rw[m2 s' hs hok]
    simp only[Int.add_assoc]
  | false=>
    have h3:=h1.1
    rw[hb]at h3
    unfold Step
    rw[hf hb,addIds_app]
    cases hk:ok1 with
    | false=>exact⟨by simp,λ_ _ h=>by simp at h⟩
    | true=>
      rw[hk,Bool.true_and]at h3
      cases hi:addIds c.1.2.1 c.2.2.1 i1 with
      | none=>exact⟨by simp,λ_ h=>by simp at h⟩
      | some s=>rw[hi]at h3;exact absurd h3 (by simp)
theorem id_is (n:Nat) (c:Ce) (x:Int):∃ b c',F_meta_census_id.f n c x=some (b,c',())∧Step c (b,c') true [x] 0:=by
  rw[F_meta_census_id.e0]
  simp only[hide_n]
  change ∃ b c',bIf (decide (x<1)) (some (false,c,())) (bIf (decide (x≥c.1.2.1)) (some (false,c,())) (bIf (got c.2.2.1 x) (some (false,c,())) (F_meta_census_id.J1 n (x,c,()))))=some (b,c',())∧_
  rw[F_meta_census_id.e1]
  change ∃ b c',bIf (decide (x<1)) (some (false,c,())) (bIf (decide (x≥c.1.2.1)) (some (false,c,())) (bIf (got c.2.2.1 x) (some (false,c,())) (some (true,(c.1,(c.2.1,(setS c.2.2.1 x,()))),()))))=some (b,c',())∧_
  have ha:addIds c.1.2.1 c.2.2.1 [x]=if (!decide (x<1)&&(!decide (x≥c.1.2.1)&&!got c.2.2.1 x))=true then some (setS c.2.2.1 x) else none:=rfl
  unfold Step
  rw[ha]
  cases decide (x<1)
  · cases decide (x≥c.1.2.1)
    · cases got c.2.2.1 x
      · refine⟨true,_,rfl,rfl,λs' h _ => ?_⟩
        injection h with h
        subst h
        rw[Int.add_zero]
      · exact⟨false,c,rfl,rfl,λs' h=>nomatch h⟩
    · exact⟨false,c,rfl,rfl,λs' h=>nomatch h⟩
  · exact⟨false,c,rfl,rfl,λs' h=>nomatch h⟩
theorem drop_cons {α:Type}{l:List α}{k:Nat}(d:α)(h:k<l.length):l.drop k=l.getD k d::l.drop (k+1):=by
  rw[List.drop_eq_getElem_cons h]
  simp[h]
def sumI {α:Type}(f:α→Int)(l:List α):Int:=(l.map f).sum
theorem sumI_cons {α:Type}(f:α→Int)(x:α)(l:List α):sumI f (x::l)=f x+sumI f l:=by unfold sumI;rw[List.map_cons,List.sum_cons]
theorem sumI_nn {α:Type}{f:α→Int}:∀ {l:List α},(∀ x∈l,0≤f x)→0≤sumI f l
  | [],_=>by simp[sumI]
  | x::l,h=>by
    rw[sumI_cons]
    have h1:=h x (by simp)
    have h2:=sumI_nn (l:=l) λy hy=>h y (by simp[hy])
    omega
abbrev Lim:Int:=1152921504606846976
theorem index_loop {α:Type} (s:D_api_State) (d:α) (l:List α) (J:Nat→Int→Ce→Option (Int×Ce×Unit)) (g:α→Ce→Option (Bool×Ce×Unit)) (ok:α→Bool) (ids:α→List Int) (add:α→Int) (hadd:∀ x∈l,0≤add x)
    (hg:∀ x∈l,∀ c:Ce,c.1=s→0≤c.2.1→c.2.1+add x≤Lim→∃ b c',g x c=some (b,c',())∧Step c (b,c') (ok x) (ids x) (add x))
    (hJ:∀ m (k:Nat) (c:Ce),k<l.length→J (m+1) (k:Int) c=bnd (g (l.getD k d) c) λu=>bIf (!u.1) (some ((k:Int),u.2.1,())) (J m ((k+1:Nat):Int) u.2.1))
    (hE:∀ m (c:Ce),J (m+1) ((l.length:Nat):Int) c=some (-1,c,())) :
    ∀ (m k:Nat) (c:Ce),k≤l.length→l.length-k<m→c.1=s→0≤c.2.1→c.2.1+sumI add (l.drop k)≤Lim→∃ i c',J m (k:Int) c=some (i,c',())∧Step c (!decide (i≥0),c') ((l.drop k).all ok) ((l.drop k).flatMap ids) (sumI add (l.drop k))
  | 0,k,_,_,h,_,_,_=>by omega
  | m + 1,k,c,hk,h,hs,h0,h1=>by
    by_cases hlt:k<l.length
    · have hx:=getD_memA (d:=d) hlt
      have hnn:0≤sumI add (l.drop (k+1)):=sumI_nn λy hy=>hadd y (List.mem_of_mem_drop hy)
      have ha:=hadd _ hx
      rw[drop_cons d hlt,sumI_cons]at h1 ⊢
      obtain⟨b,c1,k1,k2⟩:=hg _ hx c hs h0 (by omega)
      rw[hJ m k c hlt,k1,bnd_some,List.all_cons,List.flatMap_cons]
      cases hb:b with
      | true=>
        obtain⟨q1,s1,q2,q3⟩:=k2.yes hb
        have e1:c1.1=c.1:=by rw[q3]
        have e2:c1.2.1=c.2.1+add (l.getD k d):=by rw[q3]
        obtain⟨i,c',g1,g2⟩:=index_loop s d l J g ok ids add hadd hg hJ hE m (k+1) c1 (by omega) (by omega) (e1.trans hs) (by omega) (by omega)
        exact⟨i,c',g1,k2.seq (λ_=>g2) (λ_=>rfl) (λh=>nomatch hb.symm.trans h)⟩
      | false=>
        exact⟨k,c1,rfl,k2.seq (r2:=(false,c1)) (λh=>nomatch hb.symm.trans h) (λh=>nomatch hb.symm.trans h) (λ_=>by simp)⟩
    · have e:k=l.length:=by omega
      subst e
      rw[hE,List.drop_length]
      exact⟨-1,c,rfl,Step.pure c true⟩
theorem nan_string (n:Nat)(a:ByteArray):F_cmp_isNaN_string.f n a=some (false,()):=by
  rw[F_cmp_isNaN_string.e0];simp only[hide_n];rw[eqS_self];rfl
theorem cmp_string (n:Nat)(a b:ByteArray):∃ z,F_cmp_Compare_string.f n a b=some (z,())∧decide (z≥0)=!ltS a b:=by
  rw[F_cmp_Compare_string.e0,nan_string,nan_string]
  simp only[hide_n,bnd_some,bIf_false]
  cases h:ltS a b
  · cases eqS a b
    · exact⟨1,rfl,rfl⟩
    · exact⟨0,rfl,rfl⟩
  · exact⟨-1,rfl,rfl⟩
theorem nan_int (n:Nat)(a:Int):F_cmp_isNaN_int.f n a=some (false,()):=by
  rw[F_cmp_isNaN_int.e0];simp only[hide_n];rw[bne_self_eq_false]
theorem cmp_int (n:Nat)(a b:Int):∃ z,F_cmp_Compare_int.f n a b=some (z,())∧decide (z≥0)=!decide (a<b):=by
  rw[F_cmp_Compare_int.e0,nan_int,nan_int]
  simp only[hide_n,bnd_some,bIf_false]
  cases h:decide (a<b)
  · cases decide (a>b)
    · exact⟨0,rfl,rfl⟩
    · exact⟨1,rfl,rfl⟩
  · exact⟨-1,rfl,rfl⟩
theorem nan_uint64 (n:Nat)(a:Int):F_cmp_isNaN_uint64.f n a=some (false,()):=by
  rw[F_cmp_isNaN_uint64.e0];simp only[hide_n];rw[bne_self_eq_false]
theorem cmp_uint64 (n:Nat)(a b:Int):∃ z,F_cmp_Compare_uint64.f n a b=some (z,())∧decide (z≥0)=!decide (a<b):=by
  rw[F_cmp_Compare_uint64.e0,nan_uint64,nan_uint64]
  simp only[hide_n,bnd_some,bIf_false]
  cases h:decide (a<b)
  · cases decide (a>b)
    · exact⟨0,rfl,rfl⟩
    · exact⟨1,rfl,rfl⟩
  · exact⟨-1,rfl,rfl⟩
def upB {α:Type}(lt:α→α→Bool)(l:List α):Bool:=chk (λ_=>true) lt none l
theorem up_loop {α:Type}{l:List α}(d:α)(lt:α→α→Bool)(J:Nat→Int→Option (Bool×Unit))(hl:l.length<536870912)
    (hs:∀ m (k:Nat),0<k→k<l.length→J (m+1) (k:Int)=bIf (!lt (l.getD (k-1) d) (l.getD k d)) (some (false,())) (J m ((k+1:Nat):Int)))
    (he:∀ m (k:Nat),l.length≤k→J (m+1) (k:Int)=some (true,())) :
    ∀ (m k:Nat),0<k→l.length+1-k<m→J m (k:Int)=some (chk (λ_=>true) lt (prev l k) (l.drop k),())
  | 0,k,_,h=>by omega
  | m + 1,k,hk,h=>by
    by_cases hlt:k<l.length
    · rw[hs m k hk hlt,up_loop d lt J hl hs he m (k+1) (by omega) (by omega),chk_succ (d:=d) hk hlt]
      cases lt (l.getD (k-1) d) (l.getD k d)<;>rfl
    · rw[he m k (by omega),chk_end (by omega)]
theorem up_all {α:Type}{l:List α}(d:α)(lt:α→α→Bool):chk (λ_=>true) lt (prev l 1) (l.drop 1)=upB lt l:=by
  unfold upB
  cases l with
  | nil=>rfl
  | cons x l=>
    have:=chk_zero (p:=λ_=>true) (q:=lt) (l:=x::l) (d:=d) (by simp)
    rw[Bool.true_and]at this
    exact this.symm
def ltBucket (a b:D_api_Bucket):Bool:=ltS a.1 b.1
theorem meta_up_Bucket {n:Nat}(hn:n≤536870912){l:List D_api_Bucket}(hl:l.length+1<n):F_meta_up_Bucket.f n l=some (upB ltBucket l,()):=by
  rw[F_meta_up_Bucket.e0,← up_all (Va.dflt T_api_Bucket)]
  exact up_loop (Va.dflt T_api_Bucket) ltBucket (λm k=>F_meta_up_Bucket.J1 n m (l,k,())) (by omega)
    (λm k h0 hk=>by
      try dsimp only
      obtain⟨z,h1,h2⟩:=cmp_string n (l.getD (k-1) (Va.dflt T_api_Bucket)).1 (l.getD k (Va.dflt T_api_Bucket)).1
      rw[F_meta_up_Bucket.e1,hide_n,decide_eq_true (by omega),bIf_true,wrap_i64 (x:=(k:Int)-1) (by omega),show ((k:Int)-1)=((k-1:Nat):Int) by omega,gIf_pos ⟨by omega,by omega⟩,gIf_pos ⟨by omega,by omega⟩,Int.toNat_natCast,Int.toNat_natCast,F_meta_byName.e0,h1,cast_up k (by omega)]
      simp only[bnd_some,hide_n]
      rw[h2];rfl)
    (λm k hk=>by
      try dsimp only
      rw[F_meta_up_Bucket.e1,hide_n,decide_eq_false (by omega),bIf_false,F_meta_up_Bucket.e2]) n 1 (by omega) (by omega)
def ltObject (a b:D_api_Object):Bool:=ltS a.1 b.1
theorem meta_up_Object {n:Nat}(hn:n≤536870912){l:List D_api_Object}(hl:l.length+1<n):F_meta_up_Object.f n l=some (upB ltObject l,()):=by
  rw[F_meta_up_Object.e0,← up_all (Va.dflt T_api_Object)]
  exact up_loop (Va.dflt T_api_Object) ltObject (λm k=>F_meta_up_Object.J1 n m (l,k,())) (by omega)
    (λm k h0 hk=>by
      try dsimp only
      obtain⟨z,h1,h2⟩:=cmp_string n (l.getD (k-1) (Va.dflt T_api_Object)).1 (l.getD k (Va.dflt T_api_Object)).1
      rw[F_meta_up_Object.e1,hide_n,decide_eq_true (by omega),bIf_true,wrap_i64 (x:=(k:Int)-1) (by omega),show ((k:Int)-1)=((k-1:Nat):Int) by omega,gIf_pos ⟨by omega,by omega⟩,gIf_pos ⟨by omega,by omega⟩,Int.toNat_natCast,Int.toNat_natCast,F_meta_byKey.e0,h1,cast_up k (by omega)]
      simp only[bnd_some,hide_n]
      rw[h2];rfl)
    (λm k hk=>by
      try dsimp only
      rw[F_meta_up_Object.e1,hide_n,decide_eq_false (by omega),bIf_false,F_meta_up_Object.e2]) n 1 (by omega) (by omega)
def ltUpload (a b:D_api_Upload):Bool:=decide (a.1<b.1)
theorem meta_up_Upload {n:Nat}(hn:n≤536870912){l:List D_api_Upload}(hl:l.length+1<n):F_meta_up_Upload.f n l=some (upB ltUpload l,()):=by
  rw[F_meta_up_Upload.e0,← up_all (Va.dflt T_api_Upload)]
  exact up_loop (Va.dflt T_api_Upload) ltUpload (λm k=>F_meta_up_Upload.J1 n m (l,k,())) (by omega)
    (λm k h0 hk=>by
      try dsimp only
      obtain⟨z,h1,h2⟩:=cmp_uint64 n (l.getD (k-1) (Va.dflt T_api_Upload)).1 (l.getD k (Va.dflt T_api_Upload)).1
      rw[F_meta_up_Upload.e1,hide_n,decide_eq_true (by omega),bIf_true,wrap_i64 (x:=(k:Int)-1) (by omega),show ((k:Int)-1)=((k-1:Nat):Int) by omega,gIf_pos ⟨by omega,by omega⟩,gIf_pos ⟨by omega,by omega⟩,Int.toNat_natCast,Int.toNat_natCast,F_meta_byID.e0,h1,cast_up k (by omega)]
      simp only[bnd_some,hide_n]
      rw[h2];rfl)
    (λm k hk=>by
      try dsimp only
      rw[F_meta_up_Upload.e1,hide_n,decide_eq_false (by omega),bIf_false,F_meta_up_Upload.e2]) n 1 (by omega) (by omega)
def ltPart (a b:D_api_Part):Bool:=decide (a.1<b.1)
theorem meta_up_Part {n:Nat}(hn:n≤536870912){l:List D_api_Part}(hl:l.length+1<n):F_meta_up_Part.f n l=some (upB ltPart l,()):=by
  rw[F_meta_up_Part.e0,← up_all (Va.dflt T_api_Part)]
  exact up_loop (Va.dflt T_api_Part) ltPart (λm k=>F_meta_up_Part.J1 n m (l,k,())) (by omega)
    (λm k h0 hk=>by
      try dsimp only
      obtain⟨z,h1,h2⟩:=cmp_int n (l.getD (k-1) (Va.dflt T_api_Part)).1 (l.getD k (Va.dflt T_api_Part)).1
      rw[F_meta_up_Part.e1,hide_n,decide_eq_true (by omega),bIf_true,wrap_i64 (x:=(k:Int)-1) (by omega),show ((k:Int)-1)=((k-1:Nat):Int) by omega,gIf_pos ⟨by omega,by omega⟩,gIf_pos ⟨by omega,by omega⟩,Int.toNat_natCast,Int.toNat_natCast,F_meta_byNumber.e0,h1,cast_up k (by omega)]
      simp only[bnd_some,hide_n]
      rw[h2];rfl)
    (λm k hk=>by
      try dsimp only
      rw[F_meta_up_Part.e1,hide_n,decide_eq_false (by omega),bIf_false,F_meta_up_Part.e2]) n 1 (by omega) (by omega)
def verS (s:D_api_State)(v:Ver):Bool:=!decide (made v>s.1)&&!decide (blob v≥s.2.2.1)
theorem obj_loop {n:Nat} {s:D_api_State} (o:D_api_Object) (hl:o.2.1.length<536870912):∀ (m k:Nat) (c:Ce),k≤o.2.1.length→o.2.1.length-k<m→c.1=s→0≤c.2.1→c.2.1+(o.2.1.length:Int)≤Lim →
    ∃ b c',F_meta_census_object.J1 n m (o.2.1,((o.2.1.length:Nat):Int),(k:Int),o,c,())=some (b,c',())∧Step c (b,c') ((o.2.1.drop k).all (verS s)) ((o.2.1.drop k).map λv=>v.1) (o.2.1.length:Int)
  | 0,k,_,_,h,_,_,_=>by omega
  | m + 1,k,c,hk,h,hs,h0,h1=>by
    rw[F_meta_census_object.e1,hide_n]
    by_cases hlt:k<o.2.1.length
    · obtain⟨b,c1,k1,k2⟩:=id_is n c (o.2.1.getD k (Va.dflt T_api_Version)).1
      rw[decide_eq_true (by omega),bIf_true,gIf_pos ⟨by omega,by omega⟩,Int.toNat_natCast,cast_up k (by omega)]
      change ∃ b c',(bnd (F_meta_census_id.f n c (o.2.1.getD k (Va.dflt T_api_Version)).1) _)=some (b,c',())∧_
      rw[k1,bnd_some,drop_cons (Va.dflt T_api_Version) hlt,List.map_cons,List.all_cons]
      generalize o.2.1.getD k (Va.dflt T_api_Version)=v at k1 k2 ⊢
      simp only[hide_n]
      cases hb:b with
      | false=>
        refine⟨false,c1,rfl,?_⟩
        have:=k2.seq (r:=(false,c1)) (r2:=(false,c1)) (ok2:=verS s v&&((o.2.1.drop (k+1)).all (verS s))) (i2:=(o.2.1.drop (k+1)).map λv=>v.1) (a2:=(o.2.1.length:Int)) (λh=>nomatch hb.symm.trans h) (λh=>nomatch hb.symm.trans h) (λ_=>rfl)
        rw[Bool.true_and,Int.zero_add]at this
        exact this
      | true=>
        obtain⟨q1,s1,q2,q3⟩:=k2.yes hb
        have e1:c1.1=c.1:=by rw[q3]
        have e2:c1.2.1=c.2.1:=by rw[q3];exact Int.add_zero _
        have fin:∀ b' c',Step c1 (b',c') (verS s v&&((o.2.1.drop (k+1)).all (verS s))) ((o.2.1.drop (k+1)).map λv=>v.1) (o.2.1.length:Int)→Step c (b',c') (verS s v&&((o.2.1.drop (k+1)).all (verS s))) (v.1::(o.2.1.drop (k+1)).map λv=>v.1) (o.2.1.length:Int):=λb' c' hh=>by
          have:=k2.seq (r:=(b',c')) (λ_=>hh) (λ_=>rfl) (λh=>nomatch hb.symm.trans h)
          rw[Bool.true_and,Int.zero_add]at this
          exact this
        rw[Bool.not_true,bIf_false]
        change ∃ b c',bIf (decide (made v>c1.1.1)) (some (false,c1,())) (bIf (decide (blob v≥c1.1.2.2.1)) (some (false,c1,())) (F_meta_census_object.J1 n m (o.2.1,((o.2.1.length:Nat):Int),((k+1:Nat):Int),o,c1,())))=some (b,c',())∧_
        rw[e1,hs]
        cases hm:decide (made v>s.1) with
        | true=>exact⟨false,c1,rfl,fin _ _ (by unfold verS;rw[hm];exact .fail rfl)⟩
        | false=>
          cases hq:decide (blob v≥s.2.2.1) with
          | true=>exact⟨false,c1,rfl,fin _ _ (by unfold verS;rw[hm,hq];exact .fail rfl)⟩
          | false=>
            obtain⟨b',c',g1,g2⟩:=obj_loop (n:=n) o hl m (k+1) c1 (by omega) (by omega) (e1.trans hs) (by rw[e2];exact h0) (by rw[e2];exact h1)
            refine⟨b',c',g1,fin _ _ ?_⟩
            have:verS s v=true:=by unfold verS;rw[hm,hq];rfl
            rw[this,Bool.true_and];exact g2
    · have e:k=o.2.1.length:=by omega
      subst e
      have hLim:Lim=1152921504606846976:=rfl
      rw[decide_eq_false (by omega),bIf_false,F_meta_census_object.e2,List.drop_length]
      dsimp only
      rw[wrap_i64 (x:=c.2.1+(o.2.1.length:Int)) (by omega)]
      exact⟨true,_,rfl,rfl,λs' hs' _=>by
        injection hs' with hs'
        subst hs'; rfl⟩
def okO (s:D_api_State)(o:D_api_Object):Bool:=soundB o&&o.2.1.all (verS s)
def idsO (o:D_api_Object):List Int:=o.2.1.map λv=>v.1
def lenO (o:D_api_Object):Int:=(o.2.1.length:Int)
theorem census_object {n:Nat}(hn:n≤536870912){s:D_api_State}{o:D_api_Object}(ho:OB n o){c:Ce}(hs:c.1=s)(h0:0≤c.2.1)(h1:c.2.1+lenO o≤Lim) :
    ∃ b c',F_meta_census_object.f n c o=some (b,c',())∧Step c (b,c') (okO s o) (idsO o) (lenO o):=by
  have hl:=ho.list.len
  rw[F_meta_census_object.e0,object_Sound hn ho,bnd_some]
  unfold okO
  cases hb:soundB o with
  | false=>exact⟨false,c,rfl,.fail rfl⟩
  | true=>
    obtain⟨b,c',k1,k2⟩:=obj_loop (n:=n) o (by omega) n 0 c (by omega) (by omega) hs h0 h1
    exact⟨b,c',k1,k2⟩
def okP' (s:D_api_State)(p:D_api_Part):Bool:=partB p&&!decide (p.2.2.1≥s.2.2.1)
def okU' (s:D_api_State)(u:D_api_Upload):Bool:=keyB u.2.1&&(tagsB u.2.2.1&&(!decide ((u.2.2.2.1.length:Int)>16)&&(upB ltPart u.2.2.2.1&&u.2.2.2.1.all (okP' s))))
structure UpS (n:Nat)(u:D_api_Upload):Prop where
  key:u.2.1.size<n
  tg:TsB n u.2.2.1
  ps:u.2.2.2.1.length+1<n
theorem parts_is {n:Nat}(hn:n≤536870912){s:D_api_State}{l:List D_api_Part}(hl:l.length<n){c:Ce}(hs:c.1=s)(h0:0≤c.2.1)(h1:c.2.1≤Lim):∃ b c',bnd (F_slices_ContainsFunc_Part.f n l c) (λu=>some ((!u.1),u.2.1,()))=some (b,c',())∧Step c (b,c') (l.all (okP' s)) [] 0:=by
  have hz:∀ k,sumI (λ_:D_api_Part=>(0:Int)) (l.drop k)=0:=λk=>by
    generalize l.drop k=l
    induction l with
    | nil=>rfl
    | cons x l ih=>rw[sumI_cons,ih];rfl
  obtain⟨i,c',k1,k2⟩:=index_loop s (Va.dflt T_api_Part) l (λm k c=>F_slices_IndexFunc_Part.J1 n m (l,((l.length:Nat):Int),k,c,())) (λx c=>some (okP' c.1 x,c,())) (okP' s) (λ_=>[]) (λ_=>0) (λ_ _=>Int.le_refl 0)
    (λx _ c hc _ _=>⟨_,c,rfl,by rw[hc];exact Step.pure c _⟩)
    (λm k c hk=>by
      try dsimp only
      rw[F_slices_IndexFunc_Part.e1,hide_n,decide_eq_true (by omega),bIf_true,gIf_pos ⟨by omega,by omega⟩,Int.toNat_natCast,F_meta_census_upload_1.e0,entry_Part,cast_up k (by omega)]
      simp only[bnd_some,hide_n]
      unfold okP'
      cases partB (l.getD k (Va.dflt T_api_Part))<;>cases decide ((l.getD k (Va.dflt T_api_Part)).2.2.1≥c.1.2.2.1)<;>rfl)
    (λm c=>by
      try dsimp only
      rw[F_slices_IndexFunc_Part.e1,hide_n,decide_eq_false (by omega),bIf_false,F_slices_IndexFunc_Part.e2]) n 0 c (by omega) (by omega) hs h0 (by rw[hz];omega)
  rw[hz,List.drop_zero,show (l.flatMap λ_=>([]:List Int))=[] by simp]at k2
  refine⟨_,c',?_,k2⟩
  rw[F_slices_ContainsFunc_Part.e0,F_slices_IndexFunc_Part.e0]
  change bnd (bnd (F_slices_IndexFunc_Part.J1 n n (l,((l.length:Nat):Int),((0:Nat):Int),c,())) _) _=_
  try dsimp only at k1
  rw[k1]
  simp only[bnd_some,hide_n]
theorem census_upload {n:Nat} (hn:n≤536870912) {s:D_api_State} {u:D_api_Upload} (hu:UpS n u) {c:Ce} (hs:c.1=s) (h0:0≤c.2.1) (h1:c.2.1+0≤Lim) :
    ∃ b c',F_meta_census_upload.f n c u=some (b,c',())∧Step c (b,c') (okU' s u) [u.1] 0:=by
  obtain⟨b,c1,k1,k2⟩:=id_is n c u.1
  rw[F_meta_census_upload.e0]
  change ∃ b c',(bnd (F_meta_census_id.f n c u.1) _)=some (b,c',())∧_
  rw[k1,bnd_some,key24 hu.key hn,tags35 hn hu.tg,meta_up_Part hn hu.ps]
  simp only[bnd_some,hide_n]
  cases hb:b with
  | false=>
    refine⟨false,c1,rfl,?_⟩
    have:=k2.seq (r:=(false,c1)) (r2:=(false,c1)) (ok2:=okU' s u) (i2:=[]) (a2:=0) (λh=>nomatch hb.symm.trans h) (λh=>nomatch hb.symm.trans h) (λ_=>rfl)
    rw[Bool.true_and]at this
    exact this
  | true=>
    obtain⟨q1,s1,q2,q3⟩:=k2.yes hb
    have e1:c1.1=c.1:=by rw[q3]
    have e2:c1.2.1=c.2.1:=by rw[q3];exact Int.add_zero _
    have fin:∀ b' c',Step c1 (b',c') (okU' s u) [] 0→Step c (b',c') (okU' s u) [u.1] 0:=λb' c' hh=>by
      have:=k2.seq (r:=(b',c')) (λ_=>hh) (λ_=>rfl) (λh=>nomatch hb.symm.trans h)
      rw[Bool.true_and]at this
      exact this
    obtain⟨b2,c2,g1,g2⟩:=parts_is hn (l:=u.2.2.2.1) (by have:=hu.ps;omega) (e1.trans hs) (by rw[e2];exact h0) (by rw[e2];rw[Int.add_zero]at h1;exact h1)
    have hj:F_meta_census_upload.J1 n ((),u,c1,())=some (b2,c2,()):=by
      rw[F_meta_census_upload.e1];exact g1
    rw[Bool.not_true,bIf_false]
    change ∃ b c',bIf (!keyB u.2.1) (some (false,c1,())) (bIf (!tagsB u.2.2.1) (some (false,c1,())) (bIf (decide (((u.2.2.2.1.length:Nat):Int)>16)) (some (false,c1,())) (bIf (!upB ltPart u.2.2.2.1) (some (false,c1,())) (F_meta_census_upload.J1 n ((),u,c1,())))))=some (b,c',())∧_
    rw[hj]
    unfold okU' at fin ⊢
    revert fin
    cases keyB u.2.1
    · intro fin;exact⟨false,c1,rfl,fin _ _ (.fail rfl)⟩
    · cases tagsB u.2.2.1
      · intro fin;exact⟨false,c1,rfl,fin _ _ (.fail rfl)⟩
      · cases decide (((u.2.2.2.1.length:Nat):Int)>16)
        · cases upB ltPart u.2.2.2.1
          · intro fin;exact⟨false,c1,rfl,fin _ _ (.fail rfl)⟩
          · intro fin;exact⟨b2,c2,rfl,fin _ _ g2⟩
        · intro fin;exact⟨false,c1,rfl,fin _ _ (.fail rfl)⟩
theorem every_Object {n:Nat}(hn:n≤536870912){l:List D_api_Object}(hl:l.length<n){s:D_api_State}{ok:D_api_Object→Bool}{ids:D_api_Object→List Int}{add:D_api_Object→Int}(hadd:∀ x∈l,0≤add x)
    (hg:∀ x∈l,∀ c:Ce,c.1=s→0≤c.2.1→c.2.1+add x≤Lim→∃ b c',F_meta_census_object.f n c x=some (b,c',())∧Step c (b,c') (ok x) (ids x) (add x))
    {c:Ce} (hs:c.1=s) (h0:0≤c.2.1) (h1:c.2.1+sumI add l≤Lim):∃ b c',F_meta_every_Object.f n l c=some (b,c',())∧Step c (b,c') (l.all ok) (l.flatMap ids) (sumI add l):=by
  obtain⟨i,c',k1,k2⟩:=index_loop s (Va.dflt T_api_Object) l (λm k c=>F_slices_IndexFunc_Object.J1 n m (l,((l.length:Nat):Int),k,c,())) (λx c=>F_meta_census_object.f n c x) ok ids add hadd hg
    (λm k c hk=>by
      try dsimp only
      rw[F_slices_IndexFunc_Object.e1,hide_n,decide_eq_true (by omega),bIf_true,gIf_pos ⟨by omega,by omega⟩,Int.toNat_natCast,F_meta_every_Object_1.e0,cast_up k (by omega)]
      change bnd (bnd (F_meta_census_object.f n c (l.getD k (Va.dflt T_api_Object))) λu=>some ((!u.1),u.2.1,())) (λu=>bIf u.1 (some ((k:Int),u.2.1,())) (F_slices_IndexFunc_Object.J1 n m (l,((l.length:Nat):Int),((k+1:Nat):Int),u.2.1,())))=_
      cases F_meta_census_object.f n c (l.getD k (Va.dflt T_api_Object))<;>rfl)
    (λm c=>by
      try dsimp only
      rw[F_slices_IndexFunc_Object.e1,hide_n,decide_eq_false (by omega),bIf_false,F_slices_IndexFunc_Object.e2]) n 0 c (by omega) (by omega) hs h0 (by rw[List.drop_zero];exact h1)
  rw[List.drop_zero]at k2
  refine⟨_,c',?_,k2⟩
  rw[F_meta_every_Object.e0,F_slices_ContainsFunc_Object.e0,F_slices_IndexFunc_Object.e0]
  change bnd (bnd (F_slices_IndexFunc_Object.J1 n n (l,((l.length:Nat):Int),((0:Nat):Int),c,())) _) _=_
  try dsimp only at k1
  rw[k1]
  simp only[bnd_some,hide_n]
theorem every_Upload {n:Nat}(hn:n≤536870912){l:List D_api_Upload}(hl:l.length<n){s:D_api_State}{ok:D_api_Upload→Bool}{ids:D_api_Upload→List Int}{add:D_api_Upload→Int}(hadd:∀ x∈l,0≤add x)
    (hg:∀ x∈l,∀ c:Ce,c.1=s→0≤c.2.1→c.2.1+add x≤Lim→∃ b c',F_meta_census_upload.f n c x=some (b,c',())∧Step c (b,c') (ok x) (ids x) (add x))
    {c:Ce} (hs:c.1=s) (h0:0≤c.2.1) (h1:c.2.1+sumI add l≤Lim):∃ b c',F_meta_every_Upload.f n l c=some (b,c',())∧Step c (b,c') (l.all ok) (l.flatMap ids) (sumI add l):=by
  obtain⟨i,c',k1,k2⟩:=index_loop s (Va.dflt T_api_Upload) l (λm k c=>F_slices_IndexFunc_Upload.J1 n m (l,((l.length:Nat):Int),k,c,())) (λx c=>F_meta_census_upload.f n c x) ok ids add hadd hg
    (λm k c hk=>by
      try dsimp only
      rw[F_slices_IndexFunc_Upload.e1,hide_n,decide_eq_true (by omega),bIf_true,gIf_pos ⟨by omega,by omega⟩,Int.toNat_natCast,F_meta_every_Upload_1.e0,cast_up k (by omega)]
      change bnd (bnd (F_meta_census_upload.f n c (l.getD k (Va.dflt T_api_Upload))) λu=>some ((!u.1),u.2.1,())) (λu=>bIf u.1 (some ((k:Int),u.2.1,())) (F_slices_IndexFunc_Upload.J1 n m (l,((l.length:Nat):Int),((k+1:Nat):Int),u.2.1,())))=_
      cases F_meta_census_upload.f n c (l.getD k (Va.dflt T_api_Upload))<;>rfl)
    (λm c=>by
      try dsimp only
      rw[F_slices_IndexFunc_Upload.e1,hide_n,decide_eq_false (by omega),bIf_false,F_slices_IndexFunc_Upload.e2]) n 0 c (by omega) (by omega) hs h0 (by rw[List.drop_zero];exact h1)
  rw[List.drop_zero]at k2
  refine⟨_,c',?_,k2⟩
  rw[F_meta_every_Upload.e0,F_slices_ContainsFunc_Upload.e0,F_slices_IndexFunc_Upload.e0]
  change bnd (bnd (F_slices_IndexFunc_Upload.J1 n n (l,((l.length:Nat):Int),((0:Nat):Int),c,())) _) _=_
  try dsimp only at k1
  rw[k1]
  simp only[bnd_some,hide_n]
structure BkS (n:Nat)(b:D_api_Bucket):Prop where
  ru:RusB n b.2.2.1
  gr:GrsB n b.2.2.2.1
  ol:b.2.2.2.2.1.length+1<n
  ob:∀ o∈b.2.2.2.2.1,OB n o
  ul:b.2.2.2.2.2.1.length+1<n
  up:∀ u∈b.2.2.2.2.2.1,UpS n u
def okT (b:D_api_Bucket):Bool:=bucketB b.1&&(modeB b.2.1&&(rulesB b.2.2.1&&(grantsB b.2.2.2.1&&(!decide ((b.2.2.2.2.2.1.length:Int)>4)&&(upB ltObject b.2.2.2.2.1&&upB ltUpload b.2.2.2.2.2.1)))))
def okB (s:D_api_State)(b:D_api_Bucket):Bool:=okT b&&(b.2.2.2.2.1.all (okO s)&&b.2.2.2.2.2.1.all (okU' s))
def idsB (b:D_api_Bucket):List Int:=b.2.2.2.2.1.flatMap idsO++b.2.2.2.2.2.1.flatMap λu=>[u.1]
def lenB (b:D_api_Bucket):Int:=sumI lenO b.2.2.2.2.1+sumI (λ_=>0) b.2.2.2.2.2.1
theorem lenO_nn (o:D_api_Object):0≤lenO o:=Int.natCast_nonneg _
theorem census_bucket {n:Nat}(h3:300≤n)(hn:n≤536870912){s:D_api_State}{b:D_api_Bucket}(hb:BkS n b){c:Ce}(hs:c.1=s)(h0:0≤c.2.1)(h1:c.2.1+lenB b≤Lim) :
    ∃ r c',F_meta_census_bucket.f n c b=some (r,c',())∧Step c (r,c') (okB s b) (idsB b) (lenB b):=by
  have hn1:0≤sumI lenO b.2.2.2.2.1:=sumI_nn λo _=>lenO_nn o
  have hn2:0≤sumI (λ_:D_api_Upload=>(0:Int)) b.2.2.2.2.2.1:=sumI_nn λ_ _=>Int.le_refl 0
  unfold lenB at h1
  have hol:=hb.ol
  have hul:=hb.ul
  obtain⟨r1,c1,k1,k2⟩:=every_Object hn (by omega) (s:=s) (ok:=okO s) (ids:=idsO) (add:=lenO) (λo _=>lenO_nn o) (λo ho c hc g0 g1=>census_object hn (hb.ob o ho) hc g0 g1) hs h0 (l:=b.2.2.2.2.1) (by omega)
  have hj:∃ r c',F_meta_census_bucket.J2 n (b,c,())=some (r,c',())∧Step c (r,c') (b.2.2.2.2.1.all (okO s)&&b.2.2.2.2.2.1.all (okU' s)) (idsB b) (lenB b):=by
    rw[F_meta_census_bucket.e2]
    change ∃ r c',bnd (F_meta_every_Object.f n b.2.2.2.2.1 c) _=some (r,c',())∧_
    rw[k1,bnd_some]
    cases hr:r1 with
    | false=>exact⟨false,c1,rfl,k2.seq (r2:=(false,c1)) (λh=>nomatch hr.symm.trans h) (λh=>nomatch hr.symm.trans h) (λ_=>rfl)⟩
    | true=>
      obtain⟨q1,s1,q2,q3⟩:=k2.yes hr
      have e1:c1.1=c.1:=by rw[q3]
      have e2:c1.2.1=c.2.1+sumI lenO b.2.2.2.2.1:=by rw[q3]
      obtain⟨r2,c2,g1,g2⟩:=every_Upload hn (by omega) (s:=s) (ok:=okU' s) (ids:=λu=>[u.1]) (add:=λ_=>0) (λ_ _=>Int.le_refl 0) (λu hu c hc g0 g1=>census_upload hn (hb.up u hu) hc g0 g1) (e1.trans hs) (by rw[e2];omega) (l:=b.2.2.2.2.2.1) (by rw[e2];omega)
      refine⟨r2,c2,?_,k2.seq (λ_=>g2) (λ_=>rfl) (λh=>nomatch hr.symm.trans h)⟩
      rw[bIf_true]
      change bnd (F_meta_every_Upload.f n b.2.2.2.2.2.1 c1) _=_
      rw[g1];rfl
  obtain⟨r,c',g1,g2⟩:=hj
  rw[F_meta_census_bucket.e0,label_Bucket h3,mode_Good,entry_Rules hn hb.ru,entry_Grants hn hb.gr]
  simp only[bnd_some]
  change ∃ r c',bIf (!bucketB b.1) (some (false,c,())) (bIf (!modeB b.2.1) (some (false,c,())) (bIf (!rulesB b.2.2.1) (some (false,c,())) (bIf (!grantsB b.2.2.2.1) (some (false,c,())) (F_meta_census_bucket.J1 n (b,c,())))))=some (r,c',())∧_
  rw[F_meta_census_bucket.e1,meta_up_Object hn hb.ol,meta_up_Upload hn hb.ul]
  simp only[bnd_some,hide_n]
  change ∃ r c',bIf (!bucketB b.1) (some (false,c,())) (bIf (!modeB b.2.1) (some (false,c,())) (bIf (!rulesB b.2.2.1) (some (false,c,())) (bIf (!grantsB b.2.2.2.1) (some (false,c,())) (bIf (decide (((b.2.2.2.2.2.1.length:Nat):Int)>4)) (some (false,c,())) (bIf (!upB ltObject b.2.2.2.2.1) (some (false,c,())) (bIf (!upB ltUpload b.2.2.2.2.2.1) (some (false,c,())) (F_meta_census_bucket.J2 n (b,c,()))))))))=some (r,c',())∧_
  rw[g1]
  unfold okB okT
  cases bucketB b.1
  · exact⟨false,c,rfl,.fail rfl⟩
  cases modeB b.2.1
  · exact⟨false,c,rfl,.fail rfl⟩
  cases rulesB b.2.2.1
  · exact⟨false,c,rfl,.fail rfl⟩
  cases grantsB b.2.2.2.1
  · exact⟨false,c,rfl,.fail rfl⟩
  cases decide (((b.2.2.2.2.2.1.length:Nat):Int)>4)
  · cases upB ltObject b.2.2.2.2.1
    · exact⟨false,c,rfl,.fail rfl⟩
    cases upB ltUpload b.2.2.2.2.2.1
    · exact⟨false,c,rfl,.fail rfl⟩
    exact⟨r,c',rfl,g2⟩
  · exact⟨false,c,rfl,.fail rfl⟩
theorem every_Bucket {n:Nat}(hn:n≤536870912){l:List D_api_Bucket}(hl:l.length<n){s:D_api_State}{ok:D_api_Bucket→Bool}{ids:D_api_Bucket→List Int}{add:D_api_Bucket→Int}(hadd:∀ x∈l,0≤add x)
    (hg:∀ x∈l,∀ c:Ce,c.1=s→0≤c.2.1→c.2.1+add x≤Lim→∃ b c',F_meta_census_bucket.f n c x=some (b,c',())∧Step c (b,c') (ok x) (ids x) (add x))
    {c:Ce} (hs:c.1=s) (h0:0≤c.2.1) (h1:c.2.1+sumI add l≤Lim):∃ b c',F_meta_every_Bucket.f n l c=some (b,c',())∧Step c (b,c') (l.all ok) (l.flatMap ids) (sumI add l):=by
  obtain⟨i,c',k1,k2⟩:=index_loop s (Va.dflt T_api_Bucket) l (λm k c=>F_slices_IndexFunc_Bucket.J1 n m (l,((l.length:Nat):Int),k,c,())) (λx c=>F_meta_census_bucket.f n c x) ok ids add hadd hg
    (λm k c hk=>by
      try dsimp only
      rw[F_slices_IndexFunc_Bucket.e1,hide_n,decide_eq_true (by omega),bIf_true,gIf_pos ⟨by omega,by omega⟩,Int.toNat_natCast,F_meta_every_Bucket_1.e0,cast_up k (by omega)]
      change bnd (bnd (F_meta_census_bucket.f n c (l.getD k (Va.dflt T_api_Bucket))) λu=>some ((!u.1),u.2.1,())) (λu=>bIf u.1 (some ((k:Int),u.2.1,())) (F_slices_IndexFunc_Bucket.J1 n m (l,((l.length:Nat):Int),((k+1:Nat):Int),u.2.1,())))=_
      cases F_meta_census_bucket.f n c (l.getD k (Va.dflt T_api_Bucket))<;>rfl)
    (λm c=>by
      try dsimp only
      rw[F_slices_IndexFunc_Bucket.e1,hide_n,decide_eq_false (by omega),bIf_false,F_slices_IndexFunc_Bucket.e2]) n 0 c (by omega) (by omega) hs h0 (by rw[List.drop_zero];exact h1)
  rw[List.drop_zero]at k2
  refine⟨_,c',?_,k2⟩
  rw[F_meta_every_Bucket.e0,F_slices_ContainsFunc_Bucket.e0,F_slices_IndexFunc_Bucket.e0]
  change bnd (bnd (F_slices_IndexFunc_Bucket.J1 n n (l,((l.length:Nat):Int),((0:Nat):Int),c,())) _) _=_
  try dsimp only at k1
  rw[k1]
  simp only[bnd_some,hide_n]
structure StS (n:Nat)(s:D_api_State):Prop where
  len:s.2.2.2.1.length+1<n
  bk:∀ b∈s.2.2.2.1,BkS n b
  lim:sumI lenB s.2.2.2.1≤Lim
  few:(s.2.2.2.1.flatMap idsB).length<n
def topB (s:D_api_State):Bool:=(s.1==clampI s.1)&&(!decide (s.2.1<1)&&(!decide (s.2.1>4611686018427387904)&&(!decide (s.2.2.1<1)&&!decide (s.2.2.1>4611686018427387904))))
def idsS (s:D_api_State):List Int:=s.2.2.2.1.flatMap idsB
def stateB (s:D_api_State):Bool:=topB s&&(!decide ((s.2.2.2.1.length:Int)>16)&&(upB ltBucket s.2.2.2.1&&(s.2.2.2.1.all (okB s)&&((addIds s.2.1 [] (idsS s)).isSome&&decide (sumI lenB s.2.2.2.1≤256)))))
theorem lenB_nn (b:D_api_Bucket):0≤lenB b:=by
  have h1:0≤sumI lenO b.2.2.2.2.1:=sumI_nn λo _=>lenO_nn o
  have h2:0≤sumI (λ_:D_api_Upload=>(0:Int)) b.2.2.2.2.2.1:=sumI_nn λ_ _=>Int.le_refl 0
  unfold lenB;omega
theorem meta_Sound {n:Nat} (h3:300≤n) (hn:n≤536870912) {s:D_api_State} (hs:StS n s):F_meta_Sound.f n s=some (stateB s,()):=by
  have hl:=hs.len
  obtain⟨r,c',k1,k2⟩:=every_Bucket hn (by omega) (s:=s) (ok:=okB s) (ids:=idsB) (add:=lenB) (λb _=>lenB_nn b) (λb hb c hc g0 g1=>census_bucket h3 hn (hs.bk b hb) hc g0 g1) (c:=(s,(0,([],())))) rfl (Int.le_refl 0) (l:=s.2.2.2.1) (by rw[Int.zero_add];exact hs.lim)
  rw[F_meta_Sound.e0,clamp33,bnd_some,F_meta_Sound.e1,meta_up_Bucket hn hs.len,bnd_some,F_meta_Sound.e2,k1,bnd_some]
  simp only[hide_n]
  have h2:bIf r (some (decide (c'.2.1≤256),())) (some (false,()))=some (s.2.2.2.1.all (okB s)&&((addIds s.2.1 [] (idsS s)).isSome&&decide (sumI lenB s.2.2.2.1≤256)),()):=by
    have q:=k2.1
    cases hr:r with
    | true=>
      obtain⟨q1,s1,q2,q3⟩:=k2.yes hr
      have q2:addIds s.2.1 [] (idsS s)=some s1:=q2
      rw[q1,q2,q3,bIf_true]
      change some (decide (0+sumI lenB s.2.2.2.1≤256),())=some (decide (sumI lenB s.2.2.2.1≤256),())
      rw[Int.zero_add]
    | false=>
      rw[hr]at q
      have q:false=(s.2.2.2.1.all (okB s)&&(addIds s.2.1 [] (idsS s)).isSome):=q
      rw[bIf_false,← Bool.and_assoc,← q];rfl
  rw[h2]
  unfold stateB topB
  change bIf (!(s.1==clampI s.1)) _ _=_
  cases (s.1==clampI s.1)
  · rfl
  cases decide (s.2.1<1)
  · cases decide (s.2.1>4611686018427387904)
    · cases decide (s.2.2.1<1)
      · cases decide (s.2.2.1>4611686018427387904)
        · cases decide ((s.2.2.2.1.length:Int)>16)
          · cases upB ltBucket s.2.2.2.1<;>rfl
          · rfl
        · rfl
      · rfl
    · rfl
  · rfl
end Go.Proofs.YtemhlkdingkjnaaGreatDoor
namespace Go.Proofs.YtemhlkdingkjnaaGreatDoor
open Go Go.Va Go.Proofs
theorem got_set:∀ (seen:Seen) (x y:Int),got (setS seen x) y=((y==x)||got seen y)
  | [],x,y=>by
    change (mGet (.int .u64) .bool [(x,true)] y).1=_
    unfold mGet
    change (if decide (y=x)=true then ((true:Bool),true) else mGet (.int .u64) .bool [] y).1=((y==x)||(mGet (.int .u64) .bool [] y).1)
    by_cases h:y=x
    · subst h;simp
    · rw[decide_eq_false h,show (y==x)=false from beq_eq_false_iff_ne.2 h];rfl
  | (k, v)::l,x,y=>by
    have ih:=got_set l x y
    unfold got setS at ih ⊢
    unfold mSet
    change (mGet (.int .u64) .bool (if decide (x=k)=true then (x,true)::l else (k,v)::mSet (.int .u64) .bool l x true) y).1=_
    by_cases hk:x=k
    · subst hk
      rw[decide_eq_true rfl,if_pos rfl]
      unfold mGet
      change (if decide (y=x)=true then ((true:Bool),true) else mGet (.int .u64) .bool l y).1=((y==x)||(if decide (y=x)=true then (v,true) else mGet (.int .u64) .bool l y).1)
      by_cases h:y=x
      · subst h;simp
      · rw[decide_eq_false h,show (y==x)=false from beq_eq_false_iff_ne.2 h];rfl
    · rw[decide_eq_false hk,if_neg (by decide)]
      unfold mGet
      change (if decide (y=k)=true then (v,true) else mGet (.int .u64) .bool (mSet (.int .u64) .bool l x true) y).1=((y==x)||(if decide (y=k)=true then (v,true) else mGet (.int .u64) .bool l y).1)
      by_cases h:y=k
      · subst h
        rw[decide_eq_true rfl,if_pos rfl,if_pos rfl,show (y==x)=false from beq_eq_false_iff_ne.2 (λe=>hk e.symm)];rfl
      · rw[decide_eq_false h,if_neg (by decide),if_neg (by decide)];exact ih
end Go.Proofs.YtemhlkdingkjnaaGreatDoor
namespace Go.Proofs.YtemhlkdingkjnaaGreatDoor
open Go Go.Va Go.Proofs
theorem lenB_is (b:D_api_Bucket):lenB b=sumI lenO b.2.2.2.2.1:=by
  have:∀ l:List D_api_Upload,sumI (λ_=>(0:Int)) l=0:=λl=>by
    induction l with
    | nil=>rfl
    | cons x l ih=>rw[sumI_cons,ih];rfl
  unfold lenB;rw[this,Int.add_zero]
end Go.Proofs.YtemhlkdingkjnaaGreatDoor
namespace Go.Proofs.YtemhlkdingkjnaaGreatDoor
open Go Go.Va Go.Proofs
end Go.Proofs.YtemhlkdingkjnaaGreatDoor
namespace Go.Proofs.YtemhlkdingkjnaaGreatDoor
open Go Go.Va Go.Proofs Go.ChangeShapes Go.WideShapes Go.ChangeAt Go.RowKit
theorem kids:Kids Tryz.prog (· < Tryz.prog.types.size):=kids_rows (by kernel_rfl) (by kernel_rfl)
theorem full:∀ t e,t<Tryz.prog.types.size→Tryz.prog.underlying t=some (.slice e)→0<Tryz.prog.cellsOf e:=slices_full_of Tryz.prog (by kernel_rfl)
theorem own:ownKnob Tryz.prog.godebug=none:=by kernel_rfl
mutual
theorem bulk_eq {H:Type}:∀ (d:DataW H),Rows.uptoBulk d=bulk d
  | .lit l=>by cases l<;>simp[Rows.uptoBulk,bulk]
  | .nil=>by simp[Rows.uptoBulk,bulk]
  | .ptr d=>by simp[Rows.uptoBulk,bulk,bulk_eq d]
  | .slice elems spare=>by simp[Rows.uptoBulk,bulk,bulkL_eq elems,bulkL_eq spare]
  | .agg parts=>by simp[Rows.uptoBulk,bulk,bulkL_eq parts]
  | .iface _ d=>by simp[Rows.uptoBulk,bulk,bulk_eq d]
  | .map entries=>by simp[Rows.uptoBulk,bulk,bulkE_eq entries]
  | .held _=>by simp[Rows.uptoBulk,bulk]
theorem bulkL_eq {H:Type}:∀ (l:List (DataW H)),Rows.uptoBulkAll l=bulkL l
  | []=>by simp[Rows.uptoBulkAll,bulkL]
  | d::r=>by simp[Rows.uptoBulkAll,bulkL,bulk_eq d,bulkL_eq r]
theorem bulkE_eq {H:Type}:∀ (l:List (Lit×DataW H)),Rows.uptoBulkEntries l=bulkE l
  | []=>by simp[Rows.uptoBulkEntries,bulkE]
  | x::r=>by simp[Rows.uptoBulkEntries,bulkE,bulkX_eq x,bulkE_eq r]
theorem bulkX_eq {H:Type}:∀ (x:Lit×DataW H),Rows.uptoBulkEntry x=bulkX x
  | (l,d)=>by cases l<;>simp[Rows.uptoBulkEntry,bulkX,bulk_eq d]
end
theorem small_of {H:Type}{ds gs:List (DataW H)}(h:Rows.uptoSmall H (ds++gs)=true):bulkL ds≤1048576:=by
  have h:=of_decide_eq_true h
  rw[bulkL_eq,bulkL_append]at h
  omega
theorem vol_mem {e:Ty}{l:List (Den e)}{x:Den e}(h:x∈l):vol e x≤(l.map (vol e)).sum:=by
  induction l with
  | nil=>simp at h
  | cons y l ih=>
    rw[List.map_cons,List.sum_cons]
    rcases List.mem_cons.1 h with rfl | h
    · omega
    · have:=ih h;omega
theorem vol_len {e:Ty}{l:List (Den e)}(h:∀ x∈l,1≤vol e x):l.length≤(l.map (vol e)).sum:=by
  induction l with
  | nil=>simp
  | cons y l ih=>
    rw[List.map_cons,List.sum_cons,List.length_cons]
    have h1:=h y List.mem_cons_self
    have h2:=ih (λx hx=>h x (List.mem_cons_of_mem _ hx))
    omega
theorem vol_Tag (t:D_api_Tag):vol T_api_Tag t=t.1.size+1+(t.2.1.size+1):=rfl
theorem vol_Ver (v:Ver):vol T_api_Version v=1+(1+(1+(1+((((dig v).map (vol (.int .u8))).sum+1)+(1+(vol T_api_Lock (lock v)+((((tags v).map (vol T_api_Tag)).sum+1)+0))))))):=rfl
theorem vol_Rule (r:D_api_Rule):vol T_api_Rule r=r.1.size+1+(((r.2.1.map (vol T_api_Tag)).sum+1)+vol T_api_Lock r.2.2):=rfl
theorem vol_Grant (g:D_api_Grant):vol T_api_Grant g=1+(g.2.1.size+1+(g.2.2.1.size+1+(g.2.2.2.1.size+1))):=rfl
theorem Ts_of {n:Nat}{l:List D_api_Tag}(h:(l.map (vol T_api_Tag)).sum<n):TsB n l:=by
  have hl:=vol_len (e:=T_api_Tag) (l:=l) (λx _=>by rw[vol_Tag];omega)
  exact⟨by omega,λt ht=>by have:=vol_mem (e:=T_api_Tag) ht;rw[vol_Tag]at this;exact⟨by omega,by omega⟩⟩
theorem vol_Part (p:D_api_Part):1≤vol T_api_Part p:=by
  change 1≤1+_
  omega
theorem vol_Up (u:D_api_Upload):vol T_api_Upload u=1+(u.2.1.size+1+(((u.2.2.1.map (vol T_api_Tag)).sum+1)+(((u.2.2.2.1.map (vol T_api_Part)).sum+1)+0))):=rfl
theorem vol_Ob (o:D_api_Object):vol T_api_Object o=o.1.size+1+(((o.2.1.map (vol T_api_Version)).sum+1)+0):=rfl
theorem vol_Bk (b:D_api_Bucket):vol T_api_Bucket b=b.1.size+1+(vol T_api_Default b.2.1+(((b.2.2.1.map (vol T_api_Rule)).sum+1)+(((b.2.2.2.1.map (vol T_api_Grant)).sum+1)+(((b.2.2.2.2.1.map (vol T_api_Object)).sum+1)+(((b.2.2.2.2.2.1.map (vol T_api_Upload)).sum+1)+0))))):=rfl
theorem vol_St (s:D_api_State):vol T_api_State s=1+(1+(1+(((s.2.2.2.1.map (vol T_api_Bucket)).sum+1)+0))):=rfl
theorem u64nn {x:Int}(h:IntKind.u64.min≤x∧x≤IntKind.u64.max):0≤x:=h.1
theorem VB_of {n:Nat}{v:Ver}(hw:Wf T_api_Version v)(h:vol T_api_Version v<n):VB n v:=by
  rw[vol_Ver]at h
  exact⟨u64nn hw.1,u64nn hw.2.2.2.1,hw.2.2.2.2.1.1,Ts_of (by omega)⟩
theorem OB_of {n:Nat}{o:D_api_Object}(hw:Wf T_api_Object o)(h:vol T_api_Object o<n):OB n o:=by
  rw[vol_Ob]at h
  have l1:=vol_len (e:=T_api_Version) (l:=o.2.1) (λx _=>by rw[vol_Ver];omega)
  refine⟨by omega,by omega,λv hv=>VB_of (hw.2.1.2 v hv) ?_⟩
  have:=vol_mem (e:=T_api_Version) hv
  omega
theorem US_of {n:Nat}{u:D_api_Upload}(h:vol T_api_Upload u<n):UpS n u:=by
  rw[vol_Up]at h
  have l2:=vol_len (e:=T_api_Part) (l:=u.2.2.2.1) (λx _=>vol_Part x)
  exact⟨by omega,Ts_of (by omega),by omega⟩
theorem BS_of {n:Nat}{b:D_api_Bucket}(hw:Wf T_api_Bucket b)(h:vol T_api_Bucket b<n):BkS n b:=by
  rw[vol_Bk]at h
  have l1:=vol_len (e:=T_api_Rule) (l:=b.2.2.1) (λx _=>by rw[vol_Rule];omega)
  have l2:=vol_len (e:=T_api_Grant) (l:=b.2.2.2.1) (λx _=>by rw[vol_Grant];omega)
  have l3:=vol_len (e:=T_api_Object) (l:=b.2.2.2.2.1) (λx _=>by rw[vol_Ob];omega)
  have l4:=vol_len (e:=T_api_Upload) (l:=b.2.2.2.2.2.1) (λx _=>by rw[vol_Up];omega)
  refine⟨⟨by omega,λr hr => ?_⟩,⟨by omega,λg hg => ?_⟩,by omega,λo ho=>OB_of (hw.2.2.2.2.1.2 o ho) ?_,by omega,λu hu=>US_of ?_⟩
  · have:=vol_mem (e:=T_api_Rule) hr
    rw[vol_Rule]at this
    exact⟨by omega,Ts_of (by omega)⟩
  · have:=vol_mem (e:=T_api_Grant) hg
    rw[vol_Grant]at this
    exact⟨by omega,by omega,by omega⟩
  · have:=vol_mem (e:=T_api_Object) ho
    omega
  · have:=vol_mem (e:=T_api_Upload) hu
    omega
theorem sum_le {α:Type}{f g:α→Nat}:∀ {l:List α},(∀ x∈l,f x≤g x)→(l.map f).sum≤(l.map g).sum
  | [],_=>by simp
  | x::l,h=>by
    rw[List.map_cons,List.map_cons,List.sum_cons,List.sum_cons]
    have h1:=h x (by simp)
    have h2:=sum_le (l:=l) λy hy=>h y (by simp[hy])
    omega
theorem sumI_le {α:Type}{f:α→Int}{g:α→Nat}:∀ {l:List α},(∀ x∈l,f x≤(g x:Int))→sumI f l≤(((l.map g).sum:Nat):Int)
  | [],_=>by simp[sumI]
  | x::l,h=>by
    rw[sumI_cons,List.map_cons,List.sum_cons]
    have h1:=h x (by simp)
    have h2:=sumI_le (l:=l) λy hy=>h y (by simp[hy])
    omega
theorem lenB_le (b:D_api_Bucket):lenB b≤(vol T_api_Bucket b:Int):=by
  rw[vol_Bk,lenB_is]
  have h1:sumI lenO b.2.2.2.2.1≤(((b.2.2.2.2.1.map (vol T_api_Object)).sum:Nat):Int):=sumI_le λo _=>by
    rw[vol_Ob]
    have l1:=vol_len (e:=T_api_Version) (l:=o.2.1) (λx _=>by rw[vol_Ver];omega)
    unfold lenO;omega
  omega
theorem flat_le {α β:Type}{f:α→List β}{g:α→Nat}:∀ {l:List α},(∀ x∈l,(f x).length≤g x)→(l.flatMap f).length≤(l.map g).sum
  | [],_=>by simp
  | x::l,h=>by
    rw[List.flatMap_cons,List.length_append,List.map_cons,List.sum_cons]
    have h1:=h x (by simp)
    have h2:=flat_le (l:=l) λy hy=>h y (by simp[hy])
    omega
theorem idsB_le (b:D_api_Bucket):(idsB b).length≤vol T_api_Bucket b:=by
  rw[vol_Bk]
  unfold idsB
  rw[List.length_append]
  have h1:(b.2.2.2.2.1.flatMap idsO).length≤(b.2.2.2.2.1.map (vol T_api_Object)).sum:=flat_le λo _=>by
    rw[vol_Ob]
    have l1:=vol_len (e:=T_api_Version) (l:=o.2.1) (λx _=>by rw[vol_Ver];omega)
    unfold idsO;rw[List.length_map];omega
  have h2:(b.2.2.2.2.2.1.flatMap λu=>[u.1]).length≤(b.2.2.2.2.2.1.map (vol T_api_Upload)).sum:=flat_le λu _=>by
    rw[vol_Up,List.length_singleton];omega
  omega
theorem S_of {s:D_api_State}(h:vol T_api_State s<2097152)(hw:Wf T_api_State s):StS 2097152 s:=by
  rw[vol_St]at h
  have l1:=vol_len (e:=T_api_Bucket) (l:=s.2.2.2.1) (λx _=>by rw[vol_Bk];omega)
  refine⟨by omega,λb hb=>BS_of (hw.2.2.2.1.2 b hb) ?_,?_,?_⟩
  · have:=vol_mem (e:=T_api_Bucket) hb
    omega
  · have:sumI lenB s.2.2.2.1≤(((s.2.2.2.1.map (vol T_api_Bucket)).sum:Nat):Int):=sumI_le λb _=>lenB_le b
    have:((2097152:Nat):Int)≤Lim:=by decide
    omega
  · have:(s.2.2.2.1.flatMap idsB).length≤(s.2.2.2.1.map (vol T_api_Bucket)).sum:=flat_le λb _=>idsB_le b
    omega
theorem acc_eq:(Rows.laid_unicode_utf8_acceptRanges:DataW Unit)=Lib.acceptData:=by kernel_rfl
theorem fst_eq:Rows.laid_unicode_utf8_first=Lib.firstData:=by kernel_rfl
theorem tabs_of {W : World} (h3 : Lib.VarReads Tryz.prog W "unicode/utf8.first" Lib.firstData) (h4 : Lib.VarReads Tryz.prog W "unicode/utf8.acceptRanges" Lib.acceptData) : Lib.Utf8Tabs 0 1 W :=
  utf8Tabs_of_readsT (U8Types.of196 Tryz.l196) ⟨by kernel_rfl,by kernel_rfl,by kernel_rfl,by kernel_rfl,by kernel_rfl,by kernel_rfl,by kernel_rfl⟩ h3 h4
theorem live_of {W:World}{b o:Nat}{v:Value}(h:W.cell? ⟨b,o,none⟩=some v):b<W.heap.size:=by
  rcases Nat.lt_or_ge b W.heap.size with hb | hb
  · exact hb
  · have:W.heap[b]?=none:=Array.getElem?_eq_none hb
    simp[World.cell?,this]at h
theorem gl_tab {W:World}(h:Lib.Utf8Tabs 0 1 W)(hsh:W.ShapedOpen Tryz.prog):∀ p∈Gl.tab,p.1<W.heap.size∧∃ cs,p.2 cs∧At W ⟨p.1,0,none⟩ cs:=by
  obtain⟨h0,h1⟩:=h
  intro p hp
  have hp:p=(0,λcs=>cs=firstCells)∨p=(1,λcs=>cs=acceptCells)∨p=(2,λcs=>∃ m,cs=[.int .i64 m]):=by simpa[Gl.tab]using hp
  rcases hp with rfl | rfl | rfl
  · refine⟨live_of (h0 0 (by omega)),_,rfl,rfl,λj hj => ?_⟩
    have hj2:j<256:=by simpa[firstCells,Lib.firstTab]using hj
    simp only[Nat.zero_add]
    rw[h0 j hj2]
    simp[firstCells,Lib.firstTab]
  · refine⟨live_of (h1 0 (by omega)).1,_,rfl,rfl,λj hj => ?_⟩
    have hl:acceptCells.length=32:=by kernel_rfl
    have hj2:j<32:=by rw[← hl];exact hj
    simp only[Nat.zero_add]
    obtain⟨e0,e1⟩:=acc_get (j/2) (by omega)
    obtain⟨c0,c1⟩:=h1 (j/2) (by omega)
    rcases Nat.mod_two_eq_zero_or_one j with hm | hm
    · have ej:j=2*(j/2):=by omega
      rw[show (⟨1,j,none⟩:Addr)=⟨1,2*(j/2),none⟩ by rw[← ej],c0,← e0,← ej,List.getElem?_eq_getElem hj]
    · have ej:j=2*(j/2)+1:=by omega
      rw[show (⟨1,j,none⟩:Addr)=⟨1,2*(j/2)+1,none⟩ by rw[← ej],c1,← e1,← ej,List.getElem?_eq_getElem hj]
  · obtain⟨m,hm⟩:=cell_of_shapedOpen_int (P:=Tryz.prog) (g:=2) (t:=3) (zero := #[.int .i64 0]) hsh (of_decide_eq_true (by kernel_rfl)) (by kernel_rfl) rfl (by kernel_rfl) (by kernel_rfl) Tryz.underlying3
    refine⟨live_of hm,_,⟨m,rfl⟩,rfl,λj hj => ?_⟩
    obtain rfl:j=0:=by simpa using hj
    simpa using hm
abbrev laidAll : List (String × DataW Unit) := [("unicode/utf8.acceptRanges", Rows.laid_unicode_utf8_acceptRanges), ("unicode/utf8.first", Rows.laid_unicode_utf8_first)]
theorem noHandle {W:World}(h:laidMetH Tryz.prog laidAll W):laidMet Tryz.prog laidAll W:=by
  have e:(laidAll.filter λx=>x.2.handleName?.isSome)=[]:=by kernel_rfl
  unfold laidMetH at h
  rw[e]at h
  exact h
theorem gl_of {W:World}(hL:laidMet Tryz.prog laidAll W)(hsh:W.ShapedOpen Tryz.prog):(∀ p∈Gl.tab,p.1<W.heap.size∧∃ cs,p.2 cs∧At W ⟨p.1,0,none⟩ cs)∧∀ p∈Gl.ex,∃ o,W.heap[p.1]?=some o∧p.2 o:=
  ⟨gl_tab (tabs_of (fst_eq ▸ Lib.laidMet.reads hL (.tail _ (.head _))) (acc_eq ▸ Lib.laidMet.reads hL (.head _))) hsh,λp hp=>by simp[Gl.ex]at hp⟩
noncomputable def laidWorld (os:Os):World:=
  let w0:=World.holding Tryz.prog os ⟨#[],#[],[]⟩
  let put (h:Array Obj) (g:Nat) (cs:Array Value):Array Obj:=h.modify g fun
    | .cells _ t frozen => .cells cs t frozen
    | o=>o
  let h1:=put w0.heap 0 firstCells.toArray
  let h2:=put h1 1 acceptCells.toArray
  { w0 with heap:=h2 }
set_option maxRecDepth 100000 in
theorem laid_met (os:Os)(args:Array Value):laidMet Tryz.prog Rows.countOwnUptoRow.laid ((laidWorld os).forCall (λ_ _=>0) ⟨#[],args,[]⟩).memory:=
  (LaidIn.of_run (l := [("unicode/utf8.acceptRanges", Lib.acceptData), ("unicode/utf8.first", Lib.firstData)]) [0, 1] 8 (by kernel_rfl) (by kernel_rfl) (by kernel_rfl) (by kernel_rfl)).met
def zS:Array Value := #[Value.int IntKind.i64 0,Value.int IntKind.u64 0,Value.int IntKind.u64 0,Value.slice none 0 0]
def dS {H:Type}:DataW H := .agg [.lit (.int .i64 0),.lit (.int .u64 0),.lit (.int .u64 0),.nil]
theorem getL {α:Type}{a:Array α}{i:Nat}{x:α}(h:a.toList[i]?=some x):a[i]?=some x:=by simpa using h
theorem and_i {a b:Bool}(ha:a=true)(hb:b=true):(a&&b)=true:=by rw[ha,hb];rfl
theorem factLaid:laidOutB Tryz.pinned.checked.prog=true:=by kernel_rfl
theorem factMaps:mapsRowed Tryz.pinned.checked.prog=true:=by kernel_rfl
theorem factHeard:Tryz.pinned.checked.prog.stopsHeard=true:=by kernel_rfl
theorem factEnter:Tryz.pinned.checked.prog.mayEnter=true:=by kernel_rfl
end Go.Proofs.YtemhlkdingkjnaaGreatDoor
namespace Go.Proofs.YtemhlkdingkjnaaGreatDoor
open Go Go.Va Go.Proofs
abbrev Says:Type:=D_count_says
end Go.Proofs.YtemhlkdingkjnaaGreatDoor
namespace Go.Proofs.YtemhlkdingkjnaaGreatDoor
open Go Go.Va Go.Proofs
abbrev Mny:Nat:=1073741824
def sayV (v:Ver):Says:=(blob v,(vsize v,(dig v,())))
def sayP (p:D_api_Part):Says:=(p.2.2.1,(p.2.1,(p.2.2.2.1,())))
def vsSay (l:List Ver):List Says:=l.flatMap λv=>if mark v=true then [] else [sayV v]
def upSay (u:D_api_Upload):List Says:=u.2.2.2.1.map sayP
def bkSay (b:D_api_Bucket):List Says:=(b.2.2.2.2.1.flatMap λo=>vsSay o.2.1)++b.2.2.2.2.2.1.flatMap upSay
def allSay (s:D_api_State):List Says:=s.2.2.2.1.flatMap bkSay
theorem vsSay_cons (v:Ver)(l:List Ver):vsSay (v::l)=(if mark v=true then [] else [sayV v])++vsSay l:=by unfold vsSay;rw[List.flatMap_cons]
section
variable {n:Nat}
theorem all_vers (p q:Nat)(B:List D_api_Bucket)(x1 x2:Int)(O:List D_api_Object)(y1 y2:Int)(vs:List Ver)(b:D_api_Bucket)(hl:vs.length<536870912):∀ (m k:Nat) (out:List Says),k≤vs.length→vs.length-k<m→out.length+(vs.drop k).length<Mny →
    F_count_all.J3 n p q m (out,B,x1,x2,O,y1,y2,vs,((vs.length:Nat):Int),(k:Int),b,())=F_count_all.J4 n p q (out++vsSay (vs.drop k),B,x1,x2,O,y1,y2,b,())
  | 0,k,_,_,h,_=>by omega
  | m + 1,k,out,hk,h,ho=>by
    rw[F_count_all.e3]
    simp only[hide_n]
    by_cases hlt:k<vs.length
    · rw[drop_cons (Va.dflt T_api_Version) hlt]at ho ⊢
      rw[List.length_cons]at ho
      have ho:out.length+((vs.drop (k+1)).length+1)<1073741824:=ho
      rw[decide_eq_true (show (k:Int)<((vs.length:Nat):Int) by omega),bIf_true,gIf_pos ⟨by omega,by omega⟩,Int.toNat_natCast,cast_up k (by omega),vsSay_cons]
      generalize vs.getD k (Va.dflt T_api_Version)=v
      rw[gIf_pos (by omega)]
      have i1:=all_vers p q B x1 x2 O y1 y2 vs b hl m (k+1) (out++[sayV v]) (by omega) (by omega) (by rw[List.length_append,List.length_singleton];show _<1073741824;omega)
      have i2:=all_vers p q B x1 x2 O y1 y2 vs b hl m (k+1) out (by omega) (by omega) (by show _<1073741824;omega)
      change bIf (!mark v) (F_count_all.J3 n p q m (out++[sayV v],B,x1,x2,O,y1,y2,vs,((vs.length:Nat):Int),((k+1:Nat):Int),b,())) _=_
      rw[i1,i2]
      cases mark v
      · rw[if_neg (by decide),← List.append_assoc];rfl
      · rw[if_pos rfl,List.nil_append];rfl
    · rw[decide_eq_false (show ¬ (k:Int)<((vs.length:Nat):Int) by omega),bIf_false,List.drop_eq_nil_of_le (by omega)]
      rw[show vsSay []=[] from rfl,List.append_nil]
theorem vsSay_len (l:List Ver):(vsSay l).length≤l.length:=by
  induction l with
  | nil=>exact Nat.le_refl _
  | cons v l ih=>
    rw[vsSay_cons,List.length_append,List.length_cons]
    cases mark v
    · rw[if_neg (by decide),List.length_singleton];omega
    · rw[if_pos rfl,List.length_nil];omega
theorem all_objs (p:Nat)(B:List D_api_Bucket)(x1 x2:Int)(b:D_api_Bucket)(O:List D_api_Object)(hl:O.length<536870912)(hO:∀ o∈O,o.2.1.length<n∧o.2.1.length<536870912):∀ (m k:Nat) (out:List Says),k≤O.length→O.length-k<m→out.length+((O.drop k).flatMap λo=>o.2.1).length<Mny →
    F_count_all.J2 n p m (out,B,x1,x2,O,((O.length:Nat):Int),(k:Int),b,())=F_count_all.J5 n p (out++(O.drop k).flatMap (λo=>vsSay o.2.1),B,x1,x2,b,())
  | 0,k,_,_,h,_=>by omega
  | m + 1,k,out,hk,h,ho=>by
    rw[F_count_all.e2]
    simp only[hide_n]
    by_cases hlt:k<O.length
    · have hx:=hO _ (getD_memA (d:=Va.dflt T_api_Object) hlt)
      rw[drop_cons (Va.dflt T_api_Object) hlt]at ho ⊢
      rw[List.flatMap_cons,List.length_append]at ho
      have ho:out.length+((O.getD k (Va.dflt T_api_Object)).2.1.length+((O.drop (k+1)).flatMap λo=>o.2.1).length)<1073741824:=ho
      rw[decide_eq_true (show (k:Int)<((O.length:Nat):Int) by omega),bIf_true,gIf_pos ⟨by omega,by omega⟩,Int.toNat_natCast,List.flatMap_cons]
      generalize O.getD k (Va.dflt T_api_Object)=o at hx ho
      have h3:=all_vers (n:=n) p m B x1 x2 O ((O.length:Nat):Int) (k:Int) o.2.1 b hx.2 n 0 out (by omega) (by omega) (by rw[List.drop_zero];show _<1073741824;omega)
      rw[show ((0:Nat):Int)=0 from rfl,List.drop_zero]at h3
      have hv:=vsSay_len o.2.1
      rw[h3,F_count_all.e4,cast_up k (by omega),all_objs p B x1 x2 b O hl hO m (k+1) _ (by omega) (by omega) (by rw[List.length_append];show _<1073741824;omega),List.append_assoc]
    · rw[decide_eq_false (show ¬ (k:Int)<((O.length:Nat):Int) by omega),bIf_false,List.drop_eq_nil_of_le (by omega),List.flatMap_nil,List.append_nil]
theorem all_parts (p q:Nat)(B:List D_api_Bucket)(x1 x2:Int)(U:List D_api_Upload)(y1 y2:Int)(ps:List D_api_Part)(hl:ps.length<536870912):∀ (m k:Nat) (out:List Says),k≤ps.length→ps.length-k<m→out.length+(ps.drop k).length<Mny →
    F_count_all.J7 n p q m (out,B,x1,x2,U,y1,y2,ps,((ps.length:Nat):Int),(k:Int),())=F_count_all.J8 n p q (out++(ps.drop k).map sayP,B,x1,x2,U,y1,y2,())
  | 0,k,_,_,h,_=>by omega
  | m + 1,k,out,hk,h,ho=>by
    rw[F_count_all.e7]
    simp only[hide_n]
    by_cases hlt:k<ps.length
    · rw[drop_cons (Va.dflt T_api_Part) hlt]at ho ⊢
      rw[List.length_cons]at ho
      have ho:out.length+((ps.drop (k+1)).length+1)<1073741824:=ho
      rw[decide_eq_true (show (k:Int)<((ps.length:Nat):Int) by omega),bIf_true,gIf_pos ⟨by omega,by omega⟩,Int.toNat_natCast,cast_up k (by omega),List.map_cons]
      generalize ps.getD k (Va.dflt T_api_Part)=v
      rw[gIf_pos (by omega)]
      have i1:=all_parts p q B x1 x2 U y1 y2 ps hl m (k+1) (out++[sayP v]) (by omega) (by omega) (by rw[List.length_append,List.length_singleton];show _<1073741824;omega)
      rw[List.append_assoc,List.singleton_append]at i1
      exact i1
    · rw[decide_eq_false (show ¬ (k:Int)<((ps.length:Nat):Int) by omega),bIf_false,List.drop_eq_nil_of_le (by omega),List.map_nil,List.append_nil]
theorem all_ups (p:Nat)(B:List D_api_Bucket)(x1 x2:Int)(U:List D_api_Upload)(hl:U.length<536870912)(hU:∀ u∈U,u.2.2.2.1.length<n∧u.2.2.2.1.length<536870912):∀ (m k:Nat) (out:List Says),k≤U.length→U.length-k<m→out.length+((U.drop k).flatMap λu=>u.2.2.2.1).length<Mny →
    F_count_all.J6 n p m (out,B,x1,x2,U,((U.length:Nat):Int),(k:Int),())=F_count_all.J9 n p (out++(U.drop k).flatMap upSay,B,x1,x2,())
  | 0,k,_,_,h,_=>by omega
  | m + 1,k,out,hk,h,ho=>by
    rw[F_count_all.e6]
    simp only[hide_n]
    by_cases hlt:k<U.length
    · have hx:=hU _ (getD_memA (d:=Va.dflt T_api_Upload) hlt)
      rw[drop_cons (Va.dflt T_api_Upload) hlt]at ho ⊢
      rw[List.flatMap_cons,List.length_append]at ho
      have ho:out.length+((U.getD k (Va.dflt T_api_Upload)).2.2.2.1.length+((U.drop (k+1)).flatMap λu=>u.2.2.2.1).length)<1073741824:=ho
      rw[decide_eq_true (show (k:Int)<((U.length:Nat):Int) by omega),bIf_true,gIf_pos ⟨by omega,by omega⟩,Int.toNat_natCast,List.flatMap_cons]
      generalize U.getD k (Va.dflt T_api_Upload)=u at hx ho
      have h3:=all_parts (n:=n) p m B x1 x2 U ((U.length:Nat):Int) (k:Int) u.2.2.2.1 hx.2 n 0 out (by omega) (by omega) (by rw[List.drop_zero];show _<1073741824;omega)
      rw[show ((0:Nat):Int)=0 from rfl,List.drop_zero]at h3
      have hv:(upSay u).length=u.2.2.2.1.length:=by unfold upSay;rw[List.length_map]
      have h3:F_count_all.J7 n p m n (out,B,x1,x2,U,((U.length:Nat):Int),(k:Int),u.2.2.2.1,((u.2.2.2.1.length:Nat):Int),0,())=F_count_all.J8 n p m (out++upSay u,B,x1,x2,U,((U.length:Nat):Int),(k:Int),()):=h3
      rw[h3,F_count_all.e8,cast_up k (by omega),all_ups p B x1 x2 U hl hU m (k+1) _ (by omega) (by omega) (by rw[List.length_append];show _<1073741824;omega),List.append_assoc]
    · rw[decide_eq_false (show ¬ (k:Int)<((U.length:Nat):Int) by omega),bIf_false,List.drop_eq_nil_of_le (by omega),List.flatMap_nil,List.append_nil]
def rawB (b:D_api_Bucket):Nat:=(b.2.2.2.2.1.flatMap λo=>o.2.1).length+(b.2.2.2.2.2.1.flatMap λu=>u.2.2.2.1).length
def rawS (l:List D_api_Bucket):Nat:=(l.map rawB).sum
theorem rawS_cons (b:D_api_Bucket)(l:List D_api_Bucket):rawS (b::l)=rawB b+rawS l:=by unfold rawS;rw[List.map_cons,List.sum_cons]
theorem objSay_len (l:List D_api_Object):(l.flatMap λo=>vsSay o.2.1).length≤(l.flatMap λo=>o.2.1).length:=by
  induction l with
  | nil=>exact Nat.le_refl _
  | cons o l ih=>
    rw[List.flatMap_cons,List.flatMap_cons,List.length_append,List.length_append]
    have:=vsSay_len o.2.1
    omega
theorem upSay_len (l:List D_api_Upload):(l.flatMap upSay).length=(l.flatMap λu=>u.2.2.2.1).length:=by
  induction l with
  | nil=>rfl
  | cons u l ih=>
    rw[List.flatMap_cons,List.flatMap_cons,List.length_append,List.length_append,ih]
    unfold upSay;rw[List.length_map]
theorem bkSay_len (b:D_api_Bucket):(bkSay b).length≤rawB b:=by
  unfold bkSay rawB
  rw[List.length_append,upSay_len]
  have:=objSay_len b.2.2.2.2.1
  omega
structure Fit (n:Nat)(b:D_api_Bucket):Prop where
  ol:b.2.2.2.2.1.length<n∧b.2.2.2.2.1.length<536870912
  ob:∀ o∈b.2.2.2.2.1,o.2.1.length<n∧o.2.1.length<536870912
  ul:b.2.2.2.2.2.1.length<n∧b.2.2.2.2.2.1.length<536870912
  up:∀ u∈b.2.2.2.2.2.1,u.2.2.2.1.length<n∧u.2.2.2.1.length<536870912
theorem fit_of (hn:n≤536870912){b:D_api_Bucket}(h:BkS n b):Fit n b:=by
  have h1:=h.ol
  have h2:=h.ul
  exact⟨⟨by omega,by omega⟩,λo ho=>by have:=(h.ob o ho).list.len;exact⟨by omega,by omega⟩,⟨by omega,by omega⟩,λu hu=>by have:=(h.up u hu).ps;exact⟨by omega,by omega⟩⟩
theorem all_bks (B:List D_api_Bucket)(hl:B.length<536870912)(hB:∀ b∈B,Fit n b):∀ (m k:Nat) (out:List Says),k≤B.length→B.length-k<m→out.length+rawS (B.drop k)<Mny →
    F_count_all.J1 n m (out,B,((B.length:Nat):Int),(k:Int),())=some (out++(B.drop k).flatMap bkSay,())
  | 0,k,_,_,h,_=>by omega
  | m + 1,k,out,hk,h,ho=>by
    rw[F_count_all.e1]
    simp only[hide_n]
    by_cases hlt:k<B.length
    · have hx:=hB _ (getD_memA (d:=Va.dflt T_api_Bucket) hlt)
      rw[drop_cons (Va.dflt T_api_Bucket) hlt]at ho ⊢
      rw[rawS_cons]at ho
      have ho:out.length+(rawB (B.getD k (Va.dflt T_api_Bucket))+rawS (B.drop (k+1)))<1073741824:=ho
      rw[decide_eq_true (show (k:Int)<((B.length:Nat):Int) by omega),bIf_true,gIf_pos ⟨by omega,by omega⟩,Int.toNat_natCast,List.flatMap_cons]
      generalize B.getD k (Va.dflt T_api_Bucket)=b at hx ho
      have hb:=bkSay_len b
      have hrb:rawB b=(b.2.2.2.2.1.flatMap λo=>o.2.1).length+(b.2.2.2.2.2.1.flatMap λu=>u.2.2.2.1).length:=rfl
      have hol:=objSay_len b.2.2.2.2.1
      have h2:=all_objs (n:=n) m B ((B.length:Nat):Int) (k:Int) b b.2.2.2.2.1 hx.ol.2 hx.ob n 0 out (by omega) (by have:=hx.ol.1;omega) (by rw[List.drop_zero];show _<1073741824;omega)
      have h6:=all_ups (n:=n) m B ((B.length:Nat):Int) (k:Int) b.2.2.2.2.2.1 hx.ul.2 hx.up n 0 (out++b.2.2.2.2.1.flatMap λo=>vsSay o.2.1) (by omega) (by have:=hx.ul.1;omega) (by rw[List.drop_zero,List.length_append];show _<1073741824;omega)
      rw[show ((0:Nat):Int)=0 from rfl,List.drop_zero]at h2 h6
      have e:out++(b.2.2.2.2.1.flatMap λo=>vsSay o.2.1)++b.2.2.2.2.2.1.flatMap upSay=out++bkSay b:=by unfold bkSay;rw[List.append_assoc]
      rw[h2,F_count_all.e5,h6,F_count_all.e9,e,cast_up k (by omega),all_bks B hl hB m (k+1) _ (by omega) (by omega) (by rw[List.length_append];show _<1073741824;omega),List.append_assoc]
    · rw[decide_eq_false (show ¬ (k:Int)<((B.length:Nat):Int) by omega),bIf_false,F_count_all.e10,List.drop_eq_nil_of_le (by omega),List.flatMap_nil,List.append_nil]
structure CoS (n:Nat)(s:D_api_State):Prop extends StS n s where
  raw:rawS s.2.2.2.1<n
  pd:∀ b∈s.2.2.2.1,∀ u∈b.2.2.2.2.2.1,∀ p∈u.2.2.2.1,p.2.2.2.1.length=32
def saysOf (s:D_api_State):List Says:=if stateB s=true then allSay s else []
theorem count_all (h3:300≤n)(hn:n≤536870912){s:D_api_State}(hs:CoS n s):F_count_all.f n s=some (saysOf s,()):=by
  have hl:=hs.len
  have hr:=hs.raw
  have h1:=all_bks (n:=n) s.2.2.2.1 (by omega) (λb hb=>fit_of hn (hs.bk b hb)) n 0 [] (by omega) (by omega) (by rw[List.drop_zero];change 0+rawS _<1073741824;omega)
  rw[show ((0:Nat):Int)=0 from rfl,List.drop_zero,List.nil_append]at h1
  rw[F_count_all.e0,meta_Sound h3 hn hs.toStS,bnd_some,h1]
  unfold saysOf
  cases stateB s<;>rfl
theorem allSay_len (l:List D_api_Bucket):(l.flatMap bkSay).length≤rawS l:=by
  induction l with
  | nil=>exact Nat.le_refl _
  | cons b l ih=>
    rw[List.flatMap_cons,List.length_append,rawS_cons]
    have:=bkSay_len b
    omega
theorem says_len {s:D_api_State}(hs:CoS n s):(saysOf s).length<n:=by
  have h1:=hs.raw
  have h2:=allSay_len s.2.2.2.1
  unfold saysOf
  split
  · exact Nat.lt_of_le_of_lt h2 h1
  · show 0<n;omega
def bare (b:D_api_Bucket):D_api_Bucket:=(b.1,(b.2.1,(b.2.2.1,(b.2.2.2.1,([],([],()))))))
end
end Go.Proofs.YtemhlkdingkjnaaGreatDoor
namespace Go.Proofs.YtemhlkdingkjnaaGreatDoor
open Go Go.Va Go.Proofs
abbrev Use:Type:=D_count_Use
section
variable {n:Nat}
end
end Go.Proofs.YtemhlkdingkjnaaGreatDoor
namespace Go.Proofs.YtemhlkdingkjnaaGreatDoor
open Go Go.Va Go.Proofs Go.ChangeShapes Go.WideShapes Go.ChangeAt Go.RowKit
theorem rawB_le (b:D_api_Bucket):rawB b≤vol T_api_Bucket b:=by
  rw[vol_Bk]
  unfold rawB
  have h1:(b.2.2.2.2.1.flatMap λo=>o.2.1).length≤(b.2.2.2.2.1.map (vol T_api_Object)).sum:=flat_le λo _=>by
    rw[vol_Ob]
    have l1:=vol_len (e:=T_api_Version) (l:=o.2.1) (λx _=>by rw[vol_Ver];omega)
    omega
  have h2:(b.2.2.2.2.2.1.flatMap λu=>u.2.2.2.1).length≤(b.2.2.2.2.2.1.map (vol T_api_Upload)).sum:=flat_le λu _=>by
    rw[vol_Up]
    have l1:=vol_len (e:=T_api_Part) (l:=u.2.2.2.1) (λx _=>vol_Part x)
    omega
  omega
theorem CS_of {s:D_api_State}(h:vol T_api_State s<2097152)(hw:Wf T_api_State s):CoS 2097152 s:=by
  have hs:=S_of h hw
  rw[vol_St]at h
  refine⟨hs,?_,λb hb u hu p hp => ?_⟩
  · have:rawS s.2.2.2.1≤(s.2.2.2.1.map (vol T_api_Bucket)).sum:=by
      unfold rawS;exact sum_le λb _=>rawB_le b
    omega
  · have wb:=hw.2.2.2.1.2 b hb
    have wu:=wb.2.2.2.2.2.1.2 u hu
    have wp:=wu.2.2.2.1.2 p hp
    exact wp.2.2.2.1.1
end Go.Proofs.YtemhlkdingkjnaaGreatDoor
namespace Go.Proofs.YtemhlkdingkjnaaGreatDoor
open Go Go.Va Go.Proofs Go.Sort
def ltU (x y:Use):Bool:=decide (x.1<y.1)
def incU (u:Use):Use:=(u.1,(u.2.1+1,u.2.2))
def newU (x:Says):Use:=(x.1,(1,x.2))
def incB (b:Int)(O:List Use):List Use:=O.map λu=>if u.1=b then incU u else u
def has (b:Int)(O:List Use):Bool:=O.any λu=>u.1==b
def keysU (O:List Use):List Int:=O.map λu=>u.1
def progStep (O:List Use)(x:Says):List Use:=if has x.1 O=true then incB x.1 O else O++[newU x]
def insU (u:Use):List Use→List Use
  | []=>[u]
  | v::l=>if v.1<u.1 then v::insU u l else u::v::l
def refStep (O:List Use)(x:Says):List Use:=if has x.1 O=true then incB x.1 O else insU (newU x) O
theorem keys_inc (b:Int)(O:List Use):keysU (incB b O)=keysU O:=by
  unfold keysU incB
  rw[List.map_map]
  refine List.map_congr_left λu _ => ?_
  simp only[Function.comp]
  split<;>rfl
theorem has_iff {b:Int}{O:List Use}:has b O=true↔b∈keysU O:=by
  unfold has keysU
  rw[List.any_eq_true,List.mem_map]
  exact⟨λ⟨u,h,e⟩=>⟨u,h,beq_iff_eq.1 e⟩,λ⟨u,h,e⟩=>⟨u,h,beq_iff_eq.2 e⟩⟩
theorem inc_none {b:Int}{O:List Use}(h:has b O=false):incB b O=O:=by
  unfold incB
  conv=>rhs;rw[← List.map_id' O]
  refine List.map_congr_left λu hu => ?_
  rw[if_neg]
  intro e
  have:=List.any_eq_false.1 h u hu
  exact this (beq_iff_eq.2 e)
theorem ins_perm (u:Use):∀ l,(insU u l).Perm (u::l)
  | [] => .refl _
  | v::l=>by
    unfold insU
    split
    · exact ((ins_perm u l).cons v).trans (.swap u v l)
    · exact .refl _
def Up (O:List Use):Prop:=O.Pairwise λx y=>x.1<y.1
theorem up_ins {u:Use}:∀ {l:List Use},Up l→u.1 ∉ keysU l→Up (insU u l)
  | [],_,_ => .cons (λ_ h=>nomatch h) .nil
  | v :: l,h,hn=>by
    unfold insU
    have hn1:u.1≠v.1:=λe=>hn (by unfold keysU;simp[e])
    have hn2:u.1 ∉ keysU l:=λe=>hn (by unfold keysU at e ⊢; simp only[List.map_cons,List.mem_cons];exact .inr e)
    cases h with
    | cons h1 h2=>
      split
      · next hlt=>
        refine .cons (λy hy => ?_) (up_ins h2 hn2)
        rcases List.mem_cons.1 ((ins_perm u l).mem_iff.1 hy) with rfl | hy
        · exact hlt
        · exact h1 y hy
      · next hlt=>
        refine .cons (λy hy => ?_) (.cons h1 h2)
        rcases List.mem_cons.1 hy with rfl | hy
        · omega
        · have:=h1 y hy;omega
theorem up_inc {b:Int}{O:List Use}(h:Up O):Up (incB b O):=by
  unfold Up at h ⊢
  have e:∀ l:List Use,l.Pairwise (λx y=>x.1<y.1)↔(keysU l).Pairwise (· < ·):=λl=>by
    unfold keysU;rw[List.pairwise_map]
  rw[e]at h ⊢
  rw[keys_inc];exact h
theorem up_step {O:List Use}(h:Up O)(x:Says):Up (refStep O x):=by
  unfold refStep
  split
  · exact up_inc h
  · next hn=>exact up_ins h λe=>hn (has_iff.2 e)
theorem perm_has {b:Int}{P R:List Use}(h:P.Perm R):has b P=has b R:=by
  rw[Bool.eq_iff_iff,has_iff,has_iff]
  unfold keysU
  exact (h.map _).mem_iff
theorem perm_step {P R:List Use}(h:P.Perm R)(x:Says):(progStep P x).Perm (refStep R x):=by
  unfold progStep refStep
  rw[perm_has h]
  split
  · exact h.map _
  · exact ((h.append_right _).trans (List.perm_append_comm (l₁:=R) (l₂:=[newU x]))).trans (ins_perm _ _).symm
theorem both_ways:∀ (l:List Says) {P R:List Use},P.Perm R→Up R→(l.foldl progStep P).Perm (l.foldl refStep R)∧Up (l.foldl refStep R)
  | [],_,_,h,u=>⟨h,u⟩
  | x::l,_,_,h,u=>both_ways l (perm_step h x) (up_step u x)
theorem swo_ltU:SWO ltU:=by
  refine⟨λx => ?_,λx y z h1 h2 => ?_,λx y z h1 h2 => ?_⟩
  · unfold ltU;exact decide_eq_false (by omega)
  · unfold ltU at *
    have h1:=of_decide_eq_true h1;have h2:=of_decide_eq_true h2
    exact decide_eq_true (by omega)
  · unfold ltU at *
    have h1:=of_decide_eq_false h1;have h2:=of_decide_eq_false h2
    exact decide_eq_false (by omega)
theorem part_perm {P R:List Use}(h:P.Perm R)(u:Up R):Part ltU P:=by
  unfold Part
  refine (h.pairwise_iff (fun {x y} e=>Or.symm e)).2 (u.imp fun {x y} e => .inl ?_)
  unfold ltU;exact decide_eq_true e
theorem sort_prog (l:List Says):Part ltU (l.foldl progStep [])∧sortD ltU (l.foldl progStep [])=l.foldl refStep []:=by
  obtain⟨h,u⟩:=both_ways l (.refl _) (R:=[]) .nil
  have hp:=part_perm h u
  refine⟨hp,(sortD_is swo_ltU hp h.symm (u.imp fun {x y} e => ?_)).symm⟩
  unfold ltU;exact decide_eq_false (by omega)
theorem up_ref (l:List Says):Up (l.foldl refStep []):=(both_ways l (.refl _) (R:=[]) .nil).2
theorem len_prog:∀ (l:List Says) (P:List Use),(l.foldl progStep P).length≤P.length+l.length
  | [],P=>by simp
  | x :: l,P=>by
    have h:=len_prog l (progStep P x)
    have h1:(progStep P x).length≤P.length+1:=by
      unfold progStep;split
      · unfold incB;rw[List.length_map];omega
      · simp
    rw[List.foldl_cons,List.length_cons];omega
theorem len_ins (u:Use)(l:List Use):(insU u l).length=l.length+1:=by rw[(ins_perm u l).length_eq];rfl
theorem len_ref:∀ (l:List Says) (P:List Use),(l.foldl refStep P).length≤P.length+l.length
  | [],P=>by simp
  | x :: l,P=>by
    have h:=len_ref l (refStep P x)
    have h1:(refStep P x).length≤P.length+1:=by
      unfold refStep;split
      · unfold incB;rw[List.length_map];omega
      · rw[len_ins];omega
    rw[List.foldl_cons,List.length_cons];omega
def cntLe (m:Int)(O:List Use):Prop:=∀ u∈O,0≤u.2.1∧u.2.1≤m
theorem cnt_inc {m b:Int}{O:List Use}(h:cntLe m O):cntLe (m+1) (incB b O):=λu hu=>by
  obtain⟨v,hv,rfl⟩:=List.mem_map.1 hu
  have:=h v hv
  split
  · unfold incU;dsimp only;omega
  · omega
theorem cnt_prog {m:Int}{O:List Use}(h0:0≤m)(h:cntLe m O)(x:Says):cntLe (m+1) (progStep O x):=by
  unfold progStep;split
  · exact cnt_inc h
  · intro u hu
    rcases List.mem_append.1 hu with hu | hu
    · have:=h u hu;omega
    · rw[show u=newU x by simpa using hu];unfold newU;dsimp only;omega
end Go.Proofs.YtemhlkdingkjnaaGreatDoor
namespace Go.Proofs.YtemhlkdingkjnaaGreatDoor
open Go Go.Va Go.Proofs
abbrev At64:Type:=List (Int×Int)
def gotA (f:At64)(b:Int):Int×Bool:=mGet (.int .u64) (.int .i64) f b
def setA (f:At64)(b x:Int):At64:=mSet (.int .u64) (.int .i64) f b x
theorem gotA_set:∀ (f:At64) (b c x:Int),gotA (setA f b x) c=if c=b then (x,true) else gotA f c
  | [],b,c,x=>by
    change (if decide (c=b)=true then (x,true) else gotA [] c)=_
    by_cases h:c=b
    · rw[decide_eq_true h,if_pos rfl,if_pos h]
    · rw[decide_eq_false h,if_neg (by decide),if_neg h]
  | (k, v)::l,b,c,x=>by
    have ih:=gotA_set l b c x
    unfold gotA setA at ih ⊢
    unfold mSet
    change mGet (.int .u64) (.int .i64) (if decide (b=k)=true then (b,x)::l else (k,v)::mSet (.int .u64) (.int .i64) l b x) c=_
    by_cases hk:b=k
    · subst hk
      rw[decide_eq_true rfl,if_pos rfl]
      unfold mGet
      change (if decide (c=b)=true then (x,true) else mGet (.int .u64) (.int .i64) l c)=if c=b then (x,true) else (if decide (c=b)=true then (v,true) else mGet (.int .u64) (.int .i64) l c)
      by_cases h:c=b
      · rw[decide_eq_true h,if_pos rfl,if_pos h]
      · rw[decide_eq_false h,if_neg (by decide),if_neg h,if_neg (by decide)]
    · rw[decide_eq_false hk,if_neg (by decide)]
      unfold mGet
      change (if decide (c=k)=true then (v,true) else mGet (.int .u64) (.int .i64) (mSet (.int .u64) (.int .i64) l b x) c)=if c=b then (x,true) else (if decide (c=k)=true then (v,true) else mGet (.int .u64) (.int .i64) l c)
      by_cases h:c=k
      · subst h
        rw[decide_eq_true rfl,if_pos rfl,if_neg (λe=>hk e.symm),if_pos rfl]
      · rw[decide_eq_false h];exact ih
def InvP (f:At64)(O:List Use):Prop:=∀ b,(gotA f b).2=has b O∧(has b O=true→∃ i:Nat,i<O.length∧(gotA f b).1=(i:Int)∧(O.getD i (Va.dflt T_count_Use)).1=b)
def Uniq (O:List Use):Prop:=(keysU O).Nodup
theorem uniq_prog {O:List Use}(h:Uniq O)(x:Says):Uniq (progStep O x):=by
  unfold progStep Uniq at *
  split
  · rw[keys_inc];exact h
  · next hn=>
    unfold keysU at *
    rw[List.map_append,List.nodup_append]
    refine⟨h,List.nodup_cons.2 ⟨by simp,List.nodup_nil⟩,λa ha b hb e=>hn (has_iff.2 ?_)⟩
    have hb:b=(newU x).1:=by simpa using hb
    rw[e,hb]at ha
    exact ha
theorem set_inc {b:Int}:∀ (O:List Use) (i:Nat),i<O.length→Uniq O→(O.getD i (Va.dflt T_count_Use)).1=b→O.set i (incU (O.getD i (Va.dflt T_count_Use)))=incB b O
  | [],i,h,_,_=>by simp at h
  | u :: l,0,_,hu,hb=>by
    unfold Uniq keysU at hu
    rw[List.map_cons,List.nodup_cons]at hu
    have hb:u.1=b:=hb
    have hn:has b l=false:=by
      cases hh:has b l with
      | false=>rfl
      | true=>exact absurd (has_iff.1 hh) (by rw[← hb];exact hu.1)
    show incU u::l=(if u.1=b then incU u else u)::incB b l
    rw[if_pos hb,inc_none hn]
  | u :: l,i+1,h,hu,hb=>by
    have h':i<l.length:=by simpa using h
    unfold Uniq keysU at hu
    rw[List.map_cons,List.nodup_cons]at hu
    have hb:(l.getD i (Va.dflt T_count_Use)).1=b:=hb
    have hne:u.1≠b:=λe=>hu.1 (by
      rw[e,← hb]
      exact List.mem_map.2 ⟨_,getD_memA h',rfl⟩)
    show u::l.set i (incU (l.getD i (Va.dflt T_count_Use)))=(if u.1=b then incU u else u)::incB b l
    rw[if_neg hne,set_inc l i h' hu.2 hb]
theorem set_last (O:List Use)(u v:Use):(O++[u]).set O.length v=O++[v]:=by
  rw[List.set_append_right _ _ (Nat.le_refl _),Nat.sub_self];rfl
theorem getD_last (O:List Use)(u d:Use):(O++[u]).getD O.length d=u:=by
  rw[List.getD_eq_getElem?_getD,List.getElem?_append_right (Nat.le_refl _),Nat.sub_self];rfl
theorem has_inc {b c:Int}{O:List Use}:has c (incB b O)=has c O:=by
  rw[Bool.eq_iff_iff,has_iff,has_iff,keys_inc]
theorem has_app {c:Int}{O:List Use}{u:Use}:has c (O++[u])=(has c O||(u.1==c)):=by
  unfold has;rw[List.any_append,List.any_cons,List.any_nil,Bool.or_false]
theorem getD_key {b:Int}{O:List Use}{i:Nat}(h:i<O.length):((incB b O).getD i (Va.dflt T_count_Use)).1=(O.getD i (Va.dflt T_count_Use)).1:=by
  unfold incB
  rw[List.getD_eq_getElem?_getD,List.getD_eq_getElem?_getD,List.getElem?_map,List.getElem?_eq_getElem h]
  show (if (O[i]).1=b then incU O[i] else O[i]).1=(O[i]).1
  split<;>rfl
theorem inv_there {f:At64}{O:List Use}(h:InvP f O){b:Int}:InvP f (incB b O):=λc=>by
  obtain⟨h1,h2⟩:=h c
  rw[has_inc]
  refine⟨h1,λhc => ?_⟩
  obtain⟨i,g1,g2,g3⟩:=h2 hc
  exact⟨i,by unfold incB;rw[List.length_map];exact g1,g2,(getD_key g1).trans g3⟩
theorem inv_new {f:At64}{O:List Use}(h:InvP f O){u:Use}(hn:has u.1 O=false):InvP (setA f u.1 (O.length:Int)) (O++[u]):=λc=>by
  obtain⟨h1,h2⟩:=h c
  rw[gotA_set,has_app]
  by_cases hc:c=u.1
  · subst hc
    rw[if_pos rfl,hn]
    refine⟨by simp,λ_=>⟨O.length,by simp,rfl,by rw[getD_last]⟩⟩
  · rw[if_neg hc,show (u.1==c)=false from beq_eq_false_iff_ne.2 (Ne.symm hc),Bool.or_false]
    refine⟨h1,λhh => ?_⟩
    obtain⟨i,g1,g2,g3⟩:=h2 hh
    refine⟨i,by rw[List.length_append];omega,g2,?_⟩
    rw[List.getD_eq_getElem?_getD,List.getElem?_append_left g1,← List.getD_eq_getElem?_getD]
    exact g3
section
variable {n:Nat}
def usesOf (s:D_api_State):List Use:=(saysOf s).foldl refStep []
theorem uses_J (l:List Says) (hl:l.length<536870912):∀ (m k:Nat) (f:At64) (O:List Use),k≤l.length→l.length-k<m→InvP f O→Uniq O→cntLe (k:Int) O→O.length≤k →
    F_count_Uses.J1 n m (f,O,l,((l.length:Nat):Int),(k:Int),())=F_count_Uses.J3 n ((l.drop k).foldl progStep O,())
  | 0,k,_,_,_,h,_,_,_,_=>by omega
  | m + 1,k,f,O,hk,h,hI,hU,hC,hO=>by
    rw[F_count_Uses.e1]
    simp only[hide_n]
    by_cases hlt:k<l.length
    · rw[drop_cons (Va.dflt T_count_says) hlt,List.foldl_cons,decide_eq_true (show (k:Int)<((l.length:Nat):Int) by omega),bIf_true,gIf_pos ⟨by omega,by omega⟩,Int.toNat_natCast,Nat.zero_add]
      generalize l.getD k (Va.dflt T_count_says)=x
      have hC2:=cnt_prog (by omega) hC x
      have hU2:=uniq_prog hU x
      obtain⟨g1,g2⟩:=hI x.1
      have e2:∀ (f':At64) (O':List Use) (i:Nat),i<O'.length→(O'.getD i (Va.dflt T_count_Use)).2.1<1073741824→0≤(O'.getD i (Va.dflt T_count_Use)).2.1→F_count_Uses.J2 n m (f',O',(i:Int),l,((l.length:Nat):Int),(k:Int),())=F_count_Uses.J1 n m (f',O'.set i (incU (O'.getD i (Va.dflt T_count_Use))),l,((l.length:Nat):Int),((k+1:Nat):Int),()):=λf' O' i hi hc hc0=>by
        rw[F_count_Uses.e2,gIf_pos ⟨by omega,by omega⟩,gIf_pos ⟨by omega,by omega⟩,cast_up k (by omega),Int.toNat_natCast,Nat.zero_add,wrap_i64 (by omega)]
        rfl
      have g1':(mGet (.int .u64) (.int .i64) f x.1).2=has x.1 O:=g1
      cases hh:has x.1 O with
      | true=>
        obtain⟨i,k1,k2,k3⟩:=g2 hh
        have k2':(mGet (.int .u64) (.int .i64) f x.1).1=(i:Int):=k2
        rw[hh]at g1'
        have hm:=hC _ (getD_memA (d:=Va.dflt T_count_Use) k1)
        rw[g1',Bool.not_true,bIf_false,k2',e2 f O i k1 (by omega) hm.1,set_inc O i k1 hU k3]
        have hp:progStep O x=incB x.1 O:=by unfold progStep;rw[hh,if_pos rfl]
        rw[hp]at hC2 hU2 ⊢
        exact uses_J l hl m (k+1) f _ (by omega) (by omega) (inv_there hI) hU2 hC2 (by unfold incB;rw[List.length_map];omega)
      | false=>
        rw[hh]at g1'
        have hp:progStep O x=O++[newU x]:=by unfold progStep;rw[hh,if_neg (by decide)]
        rw[g1',Bool.not_false,bIf_true,gIf_pos (by omega)]
        change F_count_Uses.J2 n m (setA f x.1 ((O.length:Nat):Int),O++[(x.1,(0,x.2))],((O.length:Nat):Int),l,((l.length:Nat):Int),(k:Int),())=_
        rw[e2 _ _ O.length (by simp) (by rw[getD_last];show (0:Int)<1073741824;omega) (by rw[getD_last];show (0:Int)≤0;omega),getD_last,set_last]
        change F_count_Uses.J1 n m (setA f x.1 ((O.length:Nat):Int),O++[newU x],l,((l.length:Nat):Int),((k+1:Nat):Int),())=_
        rw[hp]at hC2 hU2 ⊢
        exact uses_J l hl m (k+1) _ _ (by omega) (by omega) (inv_new (u:=newU x) hI hh) hU2 hC2 (by rw[List.length_append,List.length_singleton];omega)
    · rw[decide_eq_false (show ¬ (k:Int)<((l.length:Nat):Int) by omega),bIf_false,List.drop_eq_nil_of_le (by omega)]
      rfl
theorem clip_Use (l:List Use):F_slices_Clip_Use.f n l=some (l,()):=by
  rw[F_slices_Clip_Use.e0,gIf_pos ⟨by omega,by omega⟩,gIf_pos ⟨by omega,by omega⟩,gIf_pos ⟨by omega,by omega,rfl⟩]
  simp
theorem count_Uses (h3:300≤n)(hn:n≤4194304){s:D_api_State}(hs:CoS n s):F_count_Uses.f n s=some (usesOf s,()):=by
  have hl:=says_len hs
  rw[F_count_Uses.e0,count_all h3 (by omega) hs,bnd_some]
  have:=uses_J (n:=n) (saysOf s) (by omega) n 0 [] [] (by omega) (by omega) (λb=>⟨rfl,λh=>nomatch h⟩) List.nodup_nil (λu hu=>nomatch hu) (Nat.le_refl _)
  rw[show ((0:Nat):Int)=0 from rfl,List.drop_zero]at this
  rw[this,F_count_Uses.e3]
  obtain⟨p1,p2⟩:=sort_prog (saysOf s)
  have hlen:=len_prog (saysOf s) []
  have hlen:((saysOf s).foldl progStep []).length≤0+(saysOf s).length:=hlen
  rw[gIf_pos ⟨by omega,p1⟩]
  change bnd (F_slices_Clip_Use.f n (sortD ltU ((saysOf s).foldl progStep []))) _=_
  rw[p2,clip_Use,bnd_some]
  rfl
def addS (a:Int)(u:Use):Int:=IntKind.i64.wrap (a+u.2.2.1)
theorem uses_len {s:D_api_State}(hs:CoS n s):(usesOf s).length<n:=by
  have h1:=says_len hs
  have h2:(usesOf s).length≤0+(saysOf s).length:=len_ref (saysOf s) []
  omega
end
end Go.Proofs.YtemhlkdingkjnaaGreatDoor
namespace Go.Proofs.YtemhlkdingkjnaaGreatDoor
open Go Go.Va Go.Proofs
def heldL (U:List Use)(d:List Int):List Int:=(U.filter λu=>decide (u.2.2.2.1=d)).map λu=>u.1
theorem getG_addG (G:Grp)(d e:Dig)(b:Int):getG (addG G d b) e=if d=e then getG G e++[b] else getG G e:=by
  induction G with
  | nil=>
    unfold addG getG
    by_cases h:d=e
    · rw[if_pos h,if_pos h];rfl
    · rw[if_neg h,if_neg h];unfold getG;rfl
  | cons p l ih=>
    unfold addG
    by_cases hp:p.1=d
    · rw[if_pos hp]
      unfold getG
      by_cases he:p.1=e
      · rw[if_pos he,if_pos he,if_pos (hp.symm.trans he)]
      · rw[if_neg he,if_neg he,if_neg (λh=>he (hp.trans h))]
    · rw[if_neg hp]
      unfold getG
      by_cases he:p.1=e
      · rw[if_pos he,if_pos he,if_neg (λh=>hp (he.trans h.symm))]
      · rw[if_neg he,if_neg he];exact ih
theorem getG_grp (U:List Use)(d:Dig):getG (grpOf U) d=heldL U d:=by
  have:∀ (U:List Use) (G:Grp),getG (U.foldl (λG u=>addG G u.2.2.2.1 u.1) G) d=getG G d++heldL U d:=by
    intro U
    induction U with
    | nil=>intro G;unfold heldL;simp
    | cons u U ih=>
      intro G
      rw[List.foldl_cons,ih,getG_addG]
      unfold heldL
      by_cases h:u.2.2.2.1=d
      · rw[if_pos h,List.filter_cons,if_pos (decide_eq_true h),List.map_cons,List.append_assoc];rfl
      · rw[if_neg h,List.filter_cons,if_neg (by simp[h])]
  have h:=this U []
  exact h
section
variable {n:Nat}
theorem clip_u64 (l:List Int):F_slices_Clip_uint64.f n l=some (l,()):=by
  rw[F_slices_Clip_uint64.e0,gIf_pos ⟨by omega,by omega⟩,gIf_pos ⟨by omega,by omega⟩,gIf_pos ⟨by omega,by omega,rfl⟩]
  simp
def heldAll (S:List Says)(f:Seen):Seen:=S.foldl (λf y=>setS f y.1) f
theorem got_all (x:Int):∀ (S:List Says) (f:Seen),got (heldAll S f) x=(got f x||S.any λy=>y.1==x)
  | [],f=>by unfold heldAll;simp
  | y::S,f=>by
    have:=got_all x S (setS f y.1)
    unfold heldAll at this ⊢
    rw[List.foldl_cons,this,got_set,List.any_cons]
    rw[show (x==y.1)=(y.1==x) from by rw[Bool.eq_iff_iff,beq_iff_eq,beq_iff_eq];exact eq_comm]
    cases (y.1==x)<;>cases got f x<;>simp
theorem orph_J1 (list:List Int)(S:List Says)(hS:S.length<16777216):∀ (m k:Nat) (f:Seen),k≤S.length→S.length-k<m→F_count_Orphans.J1 n m (list,f,S,((S.length:Nat):Int),(k:Int),())=F_count_Orphans.J2 n (list,heldAll (S.drop k) f,())
  | 0,k,_,_,h=>by omega
  | m + 1,k,f,hk,h=>by
    rw[F_count_Orphans.e1]
    simp only[hide_n]
    by_cases hlt:k<S.length
    · rw[drop_cons (Va.dflt T_count_says) hlt,decide_eq_true (show (k:Int)<((S.length:Nat):Int) by omega),bIf_true,gIf_pos ⟨by omega,by omega⟩,Int.toNat_natCast,Nat.zero_add,cast_up k (by omega)]
      exact orph_J1 list S hS m (k+1) _ (by omega) (by omega)
    · rw[decide_eq_false (show ¬ (k:Int)<((S.length:Nat):Int) by omega),bIf_false,List.drop_eq_nil_of_le (by omega)]
      rfl
theorem orph_J3 (f:Seen) (list:List Int) (hl:list.length<16777216):∀ (m k:Nat) (out:List Int),k≤list.length→list.length-k<m→out.length≤k→F_count_Orphans.J3 n m (f,out,list,((list.length:Nat):Int),(k:Int),())=F_count_Orphans.J4 n (out++(list.drop k).filter (λx=>!got f x),())
  | 0,k,_,_,h,_=>by omega
  | m + 1,k,out,hk,h,ho=>by
    rw[F_count_Orphans.e3]
    simp only[hide_n]
    by_cases hlt:k<list.length
    · rw[drop_cons (0:Int) hlt,decide_eq_true (show (k:Int)<((list.length:Nat):Int) by omega),bIf_true,gIf_pos ⟨by omega,by omega⟩,Int.toNat_natCast,cast_up k (by omega),List.filter_cons]
      change bIf (!got f (list.getD k 0)) _ _=_
      cases got f (list.getD k 0) with
      | false=>
        rw[Bool.not_false,bIf_true,gIf_pos (by omega),if_pos rfl,orph_J3 f list hl m (k+1) _ (by omega) (by omega) (by rw[List.length_append,List.length_singleton];omega),List.append_assoc]
        rfl
      | true=>
        rw[Bool.not_true,bIf_false,if_neg (by decide)]
        exact orph_J3 f list hl m (k+1) _ (by omega) (by omega) (by omega)
    · rw[decide_eq_false (show ¬ (k:Int)<((list.length:Nat):Int) by omega),bIf_false,List.drop_eq_nil_of_le (by omega),List.filter_nil,List.append_nil]
def freeL (S:List Says)(list:List Int):List Int:=list.filter λx=>!(S.any λy=>y.1==x)
theorem count_Orphans (h3:300≤n)(hn:n≤4194304){s:D_api_State}(hs:CoS n s){list:List Int}(hl:list.length<n):F_count_Orphans.f n s list=some (freeL (saysOf s) list,()):=by
  have hsl:=says_len hs
  rw[F_count_Orphans.e0,count_all h3 (by omega) hs,bnd_some]
  have h1:=orph_J1 (n:=n) list (saysOf s) (by omega) n 0 [] (by omega) (by omega)
  rw[show ((0:Nat):Int)=0 from rfl,List.drop_zero]at h1
  rw[h1,F_count_Orphans.e2]
  have h2:=orph_J3 (n:=n) (heldAll (saysOf s) []) list (by omega) n 0 [] (by omega) (by omega) (Nat.le_refl _)
  rw[show ((0:Nat):Int)=0 from rfl,List.drop_zero,List.nil_append]at h2
  rw[h2,F_count_Orphans.e4,clip_u64,bnd_some]
  have:(λx=>!got (heldAll (saysOf s) []) x)=λx=>!((saysOf s).any λy=>y.1==x):=by
    funext x
    rw[got_all]
    rfl
  rw[this]
  rfl
theorem has_step (O:List Use)(y:Says)(x:Int):has x (refStep O y)=(has x O||(y.1==x)):=by
  unfold refStep
  cases hy:has y.1 O with
  | true=>
    rw[if_pos rfl,has_inc]
    by_cases h:y.1=x
    · rw[← h,hy];rfl
    · rw[show (y.1==x)=false from beq_eq_false_iff_ne.2 h,Bool.or_false]
  | false=>
    rw[if_neg (by decide),perm_has (ins_perm (newU y) O)]
    show ((y.1==x)||has x O)=_
    rw[Bool.or_comm]
theorem has_fold (x:Int):∀ (S:List Says) (O:List Use),has x (S.foldl refStep O)=(has x O||S.any λy=>y.1==x)
  | [],O=>by simp
  | y::S,O=>by
    rw[List.foldl_cons,has_fold x S,has_step,List.any_cons,Bool.or_assoc]
theorem has_uses (s:D_api_State)(x:Int):has x (usesOf s)=(saysOf s).any λy=>y.1==x:=by
  have h:=has_fold x (saysOf s) []
  exact h
theorem fold_all {Q:Use→Prop}(hi:∀ u,Q u→Q (incU u)):∀ (S:List Says) (O:List Use),(∀ y∈S,Q (newU y))→(∀ u∈O,Q u)→∀ u∈S.foldl refStep O,Q u
  | [],_,_,h=>h
  | y :: S,O,hS,h=>by
    refine fold_all hi S _ (λz hz=>hS z (by simp[hz])) λu hu => ?_
    unfold refStep at hu
    split at hu
    · obtain⟨v,hv,rfl⟩:=List.mem_map.1 hu
      split
      · exact hi v (h v hv)
      · exact h v hv
    · rcases List.mem_cons.1 ((ins_perm _ _).mem_iff.1 hu) with rfl | hu
      · exact hS y (by simp)
      · exact h u hu
theorem count_Holders (h3:300≤n)(hn:n≤4194304){s:D_api_State}(hs:CoS n s)(d:List Int):F_count_Holders.f n s d=some (heldL (usesOf s) d,()):=by
  have hl:=uses_len hs
  unfold F_count_Holders.f
  rw[count_Uses h3 hn hs,bnd_some,gIf_pos (by show (usesOf s).length≤16777216;omega),getG_grp]
theorem held_len (U:List Use)(d:List Int):(heldL U d).length≤U.length:=by
  unfold heldL;rw[List.length_map];exact List.length_filter_le _ _
theorem chk_mem {α:Type}{p:α→Bool}{q:α→α→Bool}:∀ (l:List α) (o:Option α),chk p q o l=true→∀ x∈l,p x=true
  | [],_,_,x,h=>nomatch h
  | y :: l,o,h,x,hx=>by
    have h1:p y=true∧chk p q (some y) l=true:=by
      cases o with
      | none=>simp only[chk,Bool.and_eq_true]at h;exact h
      | some z=>simp only[chk,Bool.and_eq_true]at h;exact⟨h.1,h.2.2⟩
    rcases List.mem_cons.1 hx with rfl | hx
    · exact h1.1
    · exact chk_mem l _ h1.2 x hx
theorem ver_blob {v:Ver}(h:verB v=true)(hm:mark v=false):1≤blob v:=by
  unfold verB at h
  rw[hm,if_neg (by decide)]at h
  simp only[Bool.and_eq_true,decide_eq_true_eq]at h
  exact h.2.2.2.2.1
theorem says_pos (s:D_api_State):∀ y∈saysOf s,1≤y.1∧y.1<s.2.2.1:=by
  intro y hy
  unfold saysOf at hy
  split at hy
  case isFalse=>exact nomatch hy
  rename_i hst
  unfold stateB at hst
  simp only[Bool.and_eq_true]at hst
  have hB:=hst.2.2.2.1
  obtain⟨b,hb,hy⟩:=List.mem_flatMap.1 hy
  have hb:=List.all_eq_true.1 hB b hb
  unfold okB at hb
  simp only[Bool.and_eq_true]at hb
  unfold bkSay at hy
  rcases List.mem_append.1 hy with hy | hy
  · obtain⟨o,ho,hy⟩:=List.mem_flatMap.1 hy
    have ho:=List.all_eq_true.1 hb.2.1 o ho
    unfold okO soundB risB at ho
    simp only[Bool.and_eq_true]at ho
    obtain⟨v,hv,hy⟩:=List.mem_flatMap.1 hy
    have h1:=chk_mem _ _ ho.1.2.2 v hv
    have h2:=List.all_eq_true.1 ho.2 v hv
    split at hy
    · exact nomatch hy
    · next hm=>
      have:y=sayV v:=by simpa using hy
      rw[this]
      unfold verS at h2
      simp only[Bool.and_eq_true,Bool.not_eq_true',decide_eq_false_iff_not]at h2
      refine⟨?_,by show blob v<s.2.2.1;omega⟩
      show 1≤blob v
      exact ver_blob h1 (by simpa using hm)
  · obtain⟨u,hu,hy⟩:=List.mem_flatMap.1 hy
    have hu:=List.all_eq_true.1 hb.2.2 u hu
    unfold okU' at hu
    simp only[Bool.and_eq_true]at hu
    obtain⟨p,hp,e⟩:=List.mem_map.1 hy
    have hp:=List.all_eq_true.1 hu.2.2.2.2 p hp
    unfold okP' partB at hp
    simp only[Bool.and_eq_true,Bool.not_eq_true',decide_eq_false_iff_not,decide_eq_true_eq]at hp
    rw[← e]
    refine⟨?_,?_⟩
    · show 1≤p.2.2.1;omega
    · show p.2.2.1<s.2.2.1;omega
theorem up_get:∀ (l:List Use),Up l→∀ k,0<k→k<l.length→(l.getD (k-1) (Va.dflt T_count_Use)).1<(l.getD k (Va.dflt T_count_Use)).1:=by
  intro l h k h0 hk
  have:=List.pairwise_iff_getElem.1 h (k-1) k (by omega) hk (by omega)
  rw[List.getD_eq_getElem?_getD,List.getD_eq_getElem?_getD,List.getElem?_eq_getElem (by omega),List.getElem?_eq_getElem hk]
  exact this
theorem own_J1 (s:D_api_State) (d:List Int) (U:List Use) (hU:U.length<16777216) (h1:∀ u∈U,u.1<s.2.2.1) (h2:∀ u∈U,1≤u.2.1) (h3:Up U):∀ (m k:Nat),k≤U.length→U.length-k<m→F_law16_CountOwn.J1 n m (U,(k:Int),s,d,())=F_law16_CountOwn.J3 n (s,d,())
  | 0,k,_,h=>by omega
  | m + 1,k,hk,h=>by
    rw[F_law16_CountOwn.e1]
    simp only[hide_n]
    by_cases hlt:k<U.length
    · have hg:(0≤(k:Int)∧(k:Int)<((U.length:Nat):Int)):=by omega
      have hm:=getD_memA (d:=Va.dflt T_count_Use) hlt
      have e2:F_law16_CountOwn.J2 n m (U,(k:Int),s,d,())=F_law16_CountOwn.J3 n (s,d,()):=by
        rw[F_law16_CountOwn.e2,cast_up k (by omega)]
        exact own_J1 s d U hU h1 h2 h3 m (k+1) (by omega) (by omega)
      have q1:=h1 _ hm
      have q2:=h2 _ hm
      rw[decide_eq_true hg.2,bIf_true,gIf_pos hg,Int.toNat_natCast,decide_eq_false (by omega),bIf_false,gIf_pos hg,decide_eq_false (by omega),bIf_false]
      by_cases h0:0<k
      · have q3:=up_get U h3 k h0 hlt
        rw[decide_eq_true (show (k:Int)>0 by omega),bIf_true,gIf_pos hg,wrap_i64 (x:=(k:Int)-1) (by omega),gIf_pos ⟨by omega,by omega⟩,show ((k:Int)-1).toNat=k-1 by omega,decide_eq_false (by omega),bIf_false,e2]
      · rw[decide_eq_false (show ¬ (k:Int)>0 by omega),bIf_false,e2]
    · rw[decide_eq_false (show ¬ (k:Int)<((U.length:Nat):Int) by omega),bIf_false]
theorem lawOwn (h3:300≤n)(hn:n≤4194304){s:D_api_State}(hs:CoS n s){d:List Int}:F_law16_CountOwn.f n s d=some (true,()):=by
  have hul:=uses_len hs
  have hhl:=held_len (usesOf s) d
  have key:∀ u∈usesOf s,∃ y∈saysOf s,y.1=u.1:=λu hu=>by
    have h:=has_uses s u.1
    rw[show has u.1 (usesOf s)=true from List.any_eq_true.2 ⟨u,hu,beq_self_eq_true _⟩]at h
    obtain⟨y,hy,e⟩:=List.any_eq_true.1 h.symm
    exact⟨y,hy,beq_iff_eq.1 e⟩
  rw[F_law16_CountOwn.e0,count_Uses h3 hn hs,bnd_some]
  have h1:=own_J1 (n:=n) s d (usesOf s) (by omega) (λu hu=>by obtain⟨y,hy,e⟩:=key u hu;rw[← e];exact (says_pos s y hy).2)
    (fold_all (Q:=λu=>1≤u.2.1) (λu h=>by show 1≤u.2.1+1;omega) _ _ (λy _=>by show (1:Int)≤1;omega) (λu hu=>nomatch hu)) (up_ref (saysOf s)) n 0 (by omega) (by omega)
  rw[show ((0:Nat):Int)=0 from rfl]at h1
  rw[h1,F_law16_CountOwn.e3]
  have ha:F_law16_awake.f=some (true,()):=rfl
  rw[ha,bnd_some]
  dsimp only
  rw[bIf_true,count_Holders h3 hn hs,bnd_some,count_Orphans h3 hn hs (by show (heldL (usesOf s) d).length<n;omega),bnd_some]
  have e1:freeL (saysOf s) (heldL (usesOf s) d)=[]:=by
    unfold freeL
    rw[List.filter_eq_nil_iff]
    intro x hx
    obtain⟨u,hu,rfl⟩:=List.mem_map.1 hx
    obtain⟨y,hy,e⟩:=key u (List.mem_filter.1 hu).1
    simp only[Bool.not_eq_true,Bool.not_eq_false']
    exact List.any_eq_true.2 ⟨y,hy,beq_iff_eq.2 e⟩
  have e2:freeL (saysOf s) [0]=[0]:=by
    unfold freeL
    rw[List.filter_cons,if_pos]
    · rfl
    · rw[Bool.not_eq_true',List.any_eq_false]
      intro y hy e
      have:=(says_pos s y hy).1
      have e:=beq_iff_eq.1 e
      omega
  simp only[hide_n]
  rw[e1]
  change bIf (decide ((0:Int)=0)) _ _=_
  rw[decide_eq_true rfl,bIf_true,count_Orphans h3 hn hs (by show 1<n;omega),bnd_some]
  dsimp only
  rw[e2]
  rfl
end
end Go.Proofs.YtemhlkdingkjnaaGreatDoor
namespace Go.Proofs.YtemhlkdingkjnaaGreatDoor
open Go Go.Va Go.Proofs Go.ChangeShapes Go.WideShapes Go.ChangeAt Go.RowKit
def zG:Array Value := #[Value.int IntKind.u8 0,Value.int IntKind.u8 0,Value.int IntKind.u8 0,Value.int IntKind.u8 0,Value.int IntKind.u8 0,Value.int IntKind.u8 0,Value.int IntKind.u8 0,Value.int IntKind.u8 0,Value.int IntKind.u8 0,Value.int IntKind.u8 0,Value.int IntKind.u8 0,Value.int IntKind.u8 0,Value.int IntKind.u8 0,Value.int IntKind.u8 0,Value.int IntKind.u8 0,Value.int IntKind.u8 0,Value.int IntKind.u8 0,Value.int IntKind.u8 0,Value.int IntKind.u8 0,Value.int IntKind.u8 0,Value.int IntKind.u8 0,Value.int IntKind.u8 0,Value.int IntKind.u8 0,Value.int IntKind.u8 0,Value.int IntKind.u8 0,Value.int IntKind.u8 0,Value.int IntKind.u8 0,Value.int IntKind.u8 0,Value.int IntKind.u8 0,Value.int IntKind.u8 0,Value.int IntKind.u8 0,Value.int IntKind.u8 0]
def dG {H:Type}:DataW H := .agg (List.replicate 32 (.lit (.int .u8 0)))
end Go.Proofs.YtemhlkdingkjnaaGreatDoor
