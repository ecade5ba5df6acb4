/-
  The table of types as it is asked; functions by their runs; leaves.
-/
import Derived.Test.YtemhlkdingkjnaaGreatDoorVaLaw
import Derived.Lib.Bytealg
set_option linter.unusedVariables false
set_option linter.unusedSimpArgs false
namespace Go.Va
open Go
def isZ:Value→Value→Bool
  | .int k n,.int k' n'=>decide (k=k')&&decide (n=n')
  | .bool a,.bool b=>a==b
  | .string s,.string t=>(s.data.toList.isEmpty&&t.data.toList.isEmpty)
  | .slice none n m,.slice none n' m'=>n==n'&&m==m'
  | .pointer none,.pointer none=>true
  | .nilFunc,.nilFunc=>true
  | .map none,.map none=>true
  | .nilIface,.nilIface=>true
  | _,_=>false
def isZL:List Value→List Value→Bool
  | [],[]=>true
  | a::l,b::m=>isZ a b&&isZL l m
  | _,_=>false
theorem isZ_eq:∀ {a b:Value},isZ a b=true→a=b
  | .int k n,.int k' n',h=>by simp[isZ]at h;rw[h.1,h.2]
  | .bool a,.bool b,h=>by simp[isZ]at h;rw[h]
  | .string ⟨⟨s⟩⟩,.string ⟨⟨t⟩⟩,h=>by simp[isZ]at h;rw[h.1,h.2]
  | .slice none n m,.slice none n' m',h=>by simp[isZ]at h;rw[h.1,h.2]
  | .pointer none,.pointer none,h=>rfl
  | .nilFunc,.nilFunc,h=>rfl
  | .map none,.map none,h=>rfl
  | .nilIface,.nilIface,h=>rfl
theorem isZL_eq:∀ {a b:List Value},isZL a b=true→a=b
  | [],[],_=>rfl
  | a::l,b::m,h=>by simp only[isZL,Bool.and_eq_true]at h;rw[isZ_eq h.1,isZL_eq h.2]
  | [],_::_,h=>by simp[isZL]at h
  | _::_,[],h=>by simp[isZL]at h
def infoB (P:Program) (T:Ty) (t:TypeId):Bool:=
  match P.info? t with
  | none=>false
  | some i=>i.size==T.sz&&match i.zero with
    | none=>false
    | some z=>isZL z.cells.toList (zc T)&&(!T.agg||match z with | .agg _=>true | _=>false)
theorem infoB_ok {P:Program}{T:Ty}{t:TypeId}(h:infoB P T t=true):InfoIs P T t:=by
  unfold infoB at h
  split at h
  · exact absurd h (by simp)
  · rename_i i hi
    rw[Bool.and_eq_true]at h
    obtain⟨h1,h2⟩:=h
    split at h2
    · exact absurd h2 (by simp)
    · rename_i z hz
      rw[Bool.and_eq_true]at h2
      refine⟨i,hi,by simpa using h1,z,hz,isZL_eq h2.1,λha => ?_⟩
      have:=h2.2
      rw[ha]at this
      cases z<;>simp at this
      rename_i cs;exact⟨cs,rfl⟩
def zOne:Ty→Value→Bool
  | .bool,.bool b=>!b
  | .int k,.int k' n=>decide (k'=k)&&decide (n=0)
  | .str,.string s=>decide (s=⟨#[]⟩)
  | .slice _,.slice none 0 0=>true
  | _,_=>false
theorem zOne_ok {T:Ty}{z:Value}(h:zOne T z=true):zc T=[z]:=by
  unfold zOne at h
  split at h
  · rename_i b;cases b<;>simp at h;rfl
  · rename_i k k' n
    rw[Bool.and_eq_true]at h
    rw[of_decide_eq_true h.1,of_decide_eq_true h.2];rfl
  · rw[of_decide_eq_true h];rfl
  · rfl
  · exact absurd h (by simp)
def tyB (P:Program):Ty→(TypeId→Bool)×(List Field→Nat→Bool)
  | .int k=>(λt=>(match P.underlying t with | some (.int k')=>decide (k'=k) | _=>false)&&infoB P (.int k) t,λ_ _=>false)
  | .bool=>(λt=>(match P.underlying t with | some .bool=>true | _=>false)&&infoB P .bool t,λ_ _=>false)
  | .str=>(λt=>(match P.underlying t with | some .string=>true | _=>false)&&infoB P .str t,λ_ _=>false)
  | .slice e=>(λt=>(match P.underlying t with | some (.slice u)=>(tyB P e).1 u | _=>false)&&infoB P (.slice e) t,λ_ _=>false)
  | .arr n e=>(λt=>(match P.underlying t with | some (.array m u)=>m==n&&(tyB P e).1 u | _=>false)&&infoB P (.arr n e) t,λ_ _=>false)
  | .pair a b=>
    let F:List Field→Nat→Bool:=λfs off=>match fs with
      | f :: r => f.offset == off && (f.name != "_" && ((tyB P a).1 f.type && (tyB P b).2 r (off + a.sz)))
      | []=>false
    (λt=>(match P.underlying t with | some (.struct fs)=>F fs.toList 0&&!P.stoodInHeld t | _=>false)&&infoB P (.pair a b) t,F)
  | .unit=>
    let F:List Field→Nat→Bool:=λfs _=>match fs with | []=>true | _=>false
    (λt=>(match P.underlying t with | some (.struct fs)=>F fs.toList 0&&!P.stoodInHeld t | _=>false)&&infoB P .unit t,F)
  | .opq k=>(λt=>(match P.underlying t with
      | some (.pointer _)=>k==0
      | some (.func _ _ _)=>k==1
      | some (.map _ _)=>k==2
      | some (.interface _)=>k==3
      | _=>false)&&infoB P (.opq k) t,λ_ _=>false)
  | .smap=>(λt=>(match P.underlying t with
      | some (.map k v)=>(match P.underlying k with | some .string=>true | _=>false)&&(match P.info? v with | some i=>(match i.zero with | some (.int .i64 n)=>decide (n=0) | _=>false) | none=>false)
      | _=>false)&&infoB P .smap t,λ_ _=>false)
  | .mapT K V=>(λt=>(match P.underlying t with
      | some (.map k v)=>(tyB P K).1 k&&((tyB P V).1 v&&(V.agg||(match P.info? v with | some i=>(match i.zero with | some z=>zOne V z | none=>false) | none=>false)))
      | _=>false)&&infoB P (.mapT K V) t,λ_ _=>false)
theorem tyB_ok (P:Program):∀ T,(∀ t,(tyB P T).1 t=true→TyIs P T t)∧∀ fs off,(tyB P T).2 fs off=true→(TF P T).2 fs off
  | .int k=>⟨λt h=>by
      simp only[tyB,Bool.and_eq_true]at h
      obtain⟨h1,h2⟩:=h
      refine⟨?_,infoB_ok h2⟩
      split at h1
      · rename_i k' hk;rw[hk,of_decide_eq_true h1]
      · exact absurd h1 (by simp),λ_ _ h=>by simp[tyB]at h⟩
  | .bool=>⟨λt h=>by
      simp only[tyB,Bool.and_eq_true]at h
      obtain⟨h1,h2⟩:=h
      refine⟨?_,infoB_ok h2⟩
      split at h1
      · rename_i hk;rw[hk]
      · exact absurd h1 (by simp),λ_ _ h=>by simp[tyB]at h⟩
  | .str=>⟨λt h=>by
      simp only[tyB,Bool.and_eq_true]at h
      obtain⟨h1,h2⟩:=h
      refine⟨?_,infoB_ok h2⟩
      split at h1
      · rename_i hk;rw[hk]
      · exact absurd h1 (by simp),λ_ _ h=>by simp[tyB]at h⟩
  | .slice e=>⟨λt h=>by
      simp only[tyB,Bool.and_eq_true]at h
      obtain⟨h1,h2⟩:=h
      refine⟨?_,infoB_ok h2⟩
      split at h1
      · rename_i u hk;exact⟨u,hk,(tyB_ok P e).1 u h1⟩
      · exact absurd h1 (by simp),λ_ _ h=>by simp[tyB]at h⟩
  | .arr n e=>⟨λt h=>by
      simp only[tyB,Bool.and_eq_true]at h
      obtain⟨h1,h2⟩:=h
      refine⟨?_,infoB_ok h2⟩
      split at h1
      · rename_i m u hk
        rw[Bool.and_eq_true]at h1
        have hm:m=n:=by simpa using h1.1
        subst hm
        exact⟨u,hk,(tyB_ok P e).1 u h1.2⟩
      · exact absurd h1 (by simp),λ_ _ h=>by simp[tyB]at h⟩
  | .pair a b=>by
    have key:∀ fs off,(tyB P (.pair a b)).2 fs off=true→(TF P (.pair a b)).2 fs off:=by
      intro fs off h
      cases fs with
      | nil=>simp[tyB]at h
      | cons f r=>
        simp only[tyB,Bool.and_eq_true]at h
        obtain⟨h1,h2,h3,h4⟩:=h
        exact⟨by simpa using h1,by simpa using h2,(tyB_ok P a).1 _ h3,(tyB_ok P b).2 _ _ h4⟩
    refine⟨λt h => ?_,key⟩
    have h':((match P.underlying t with | some (.struct fs)=>(tyB P (.pair a b)).2 fs.toList 0&&!P.stoodInHeld t | _=>false)&&infoB P (.pair a b) t)=true:=h
    rw[Bool.and_eq_true]at h'
    obtain⟨h1,h2⟩:=h'
    refine⟨?_,infoB_ok h2⟩
    split at h1
    · rename_i fs hk
      rw[Bool.and_eq_true]at h1
      exact⟨fs,hk,key _ _ h1.1,by simpa using h1.2⟩
    · exact absurd h1 (by simp)
  | .unit=>by
    have key:∀ fs off,(tyB P .unit).2 fs off=true→(TF P .unit).2 fs off:=by
      intro fs off h
      cases fs with
      | nil=>rfl
      | cons f r=>simp[tyB]at h
    refine⟨λt h => ?_,key⟩
    have h':((match P.underlying t with | some (.struct fs)=>(tyB P .unit).2 fs.toList 0&&!P.stoodInHeld t | _=>false)&&infoB P .unit t)=true:=h
    rw[Bool.and_eq_true]at h'
    obtain⟨h1,h2⟩:=h'
    refine⟨?_,infoB_ok h2⟩
    split at h1
    · rename_i fs hk
      rw[Bool.and_eq_true]at h1
      exact⟨fs,hk,key _ _ h1.1,by simpa using h1.2⟩
    · exact absurd h1 (by simp)
  | .opq k=>⟨λt h=>by
      simp only[tyB,Bool.and_eq_true]at h
      obtain⟨h1,h2⟩:=h
      refine⟨?_,infoB_ok h2⟩
      cases hu:P.underlying t with
      | none=>rw[hu]at h1;simp at h1
      | some d=>rw[hu]at h1;cases d<;>simp at h1 ⊢<;>exact h1,λ_ _ h=>by simp[tyB]at h⟩
  | .mapT K V=>⟨λt h=>by
      simp only[tyB,Bool.and_eq_true]at h
      obtain⟨h1,h2⟩:=h
      refine⟨?_,infoB_ok h2⟩
      split at h1
      · rename_i k v hu
        simp only[Bool.and_eq_true,Bool.or_eq_true]at h1
        obtain⟨k1,k2,k3⟩:=h1
        refine⟨k,v,hu,(tyB_ok P K).1 _ k1,(tyB_ok P V).1 _ k2,λha => ?_⟩
        rcases k3 with k3 | k3
        · rw[ha]at k3;exact absurd k3 (by simp)
        · split at k3
          · rename_i i hi
            split at k3
            · rename_i z hz;exact⟨i,hi,z,hz,zOne_ok k3⟩
            · exact absurd k3 (by simp)
          · exact absurd k3 (by simp)
      · exact absurd h1 (by simp),λ_ _ h=>by simp[tyB]at h⟩
  | .smap => ⟨λt h=>by
      simp only[tyB,Bool.and_eq_true]at h
      obtain⟨h1,h2⟩:=h
      refine⟨?_,infoB_ok h2⟩
      split at h1
      · rename_i k v hu
        simp only[Bool.and_eq_true]at h1
        obtain⟨k1,k2⟩:=h1
        refine⟨k,v,hu,?_,?_⟩
        · split at k1
          · assumption
          · exact absurd k1 (by simp)
        · split at k2
          · rename_i i hi
            refine⟨i,hi,?_⟩
            split at k2
            · rename_i n hz;rw[hz,of_decide_eq_true k2]
            · exact absurd k2 (by simp)
          · exact absurd k2 (by simp)
      · exact absurd h1 (by simp),λ_ _ h=>by simp[tyB]at h⟩
def rowB (P:Program) (t:Nat) (te:TE):Bool:=
  (tyB P te.T).1 t&&match te.T with
    | .slice e=>match P.underlying t with
      | some (.slice u)=>(tyB P e).1 u&&match P.info? u with
        | some i=>i.bytes==te.bytes
        | none=>false
      | _=>false
    | _=>true
def tabB (P:Program):List (Nat×TE)→Bool
  | []=>true
  | (t,te)::r=>rowB P t te&&tabB P r
theorem tabB_ok {P:Program}:∀ {tab:List (Nat×TE)},tabB P tab=true→TabOk P tab
  | [],_,t,te,h=>by simp[findT]at h
  | (u, e)::r,hb,t,te,h=>by
    unfold tabB at hb
    rw[Bool.and_eq_true]at hb
    simp only[findT]at h
    split at h
    · rename_i hu
      have hu:u=t:=by simpa using hu
      injection h with h;subst h hu
      have h1:=hb.1
      unfold rowB at h1
      rw[Bool.and_eq_true]at h1
      refine⟨(tyB_ok P _).1 _ h1.1,λe' he => ?_⟩
      have h2:=h1.2
      rw[he]at h2
      simp only at h2
      split at h2
      · rename_i v hv
        rw[Bool.and_eq_true]at h2
        have h3:=h2.2
        split at h3
        · rename_i i hi
          exact⟨v,i,hv,(tyB_ok P _).1 _ h2.1,hi,by simpa using h3⟩
        · exact absurd h3 (by simp)
      · exact absurd h2 (by simp)
    · exact tabB_ok hb.2 t te h
def tysB (P:Program):List Ty→List TypeId→Bool
  | [],[]=>true
  | T::Ts,t::ts=>(tyB P T).1 t&&tysB P Ts ts
  | _,_=>false
theorem tysB_ok {P:Program}:∀ {Ts:List Ty} {ts:List TypeId},tysB P Ts ts=true→TysAre P Ts ts
  | [],[],_=>trivial
  | T::Ts,t::ts,h=>by
    unfold tysB at h
    rw[Bool.and_eq_true]at h
    exact⟨(tyB_ok P _).1 _ h.1,tysB_ok h.2⟩
  | [],_::_,h=>by simp[tysB]at h
  | _::_,[],h=>by simp[tysB]at h
theorem yas [Gl]{P:Program}:∀ e∈([]:List Entry),EntryOk P e:=λe h=>by simp at h
theorem yaj [Gl]{P:Program}{e0:Entry}{l:List Entry}(h:EntryOk P e0)(k:∀ e∈l,EntryOk P e):∀ e∈e0::l,EntryOk P e:=λe he=>by
  rcases List.mem_cons.1 he with rfl | he
  · exact h
  · exact k e he
theorem leaf_ok [Gl] {P : Program} {fid : Nat} {as : List Ai} {os : List (Nat × Oi)} {f : DIn as → Option (DOut as os)} (hfn : ∃ fn, P.funcs[fid]? = some fn ∧ (fn.name == "runtime.NumGoroutine") = false ∧ fn.body.isNone = false)
    (hbn:bnOf 0 as=[]) (hheap:∀ v,ybT (inSig 0 as) v=[]) (hout:∀ u,ybT (gOut as os) u=[])
    (h:∀ v u,f v=some u→∀ E w vals,GlOk E w→C E w (ycn (ydp 0 as v)) vals→Calls P fid vals.toArray w λen w'=>∃ x,en = .returned x∧Grow w w'∧∀ E,V E w' (oneAV (outAVs id id 0 os (boxSig 0 as) u)) x):FnOk P fid as os f:=by
  refine⟨hfn,λv u hv P0 S0 E w vals hh hc=>(h v u hv E w vals hh.gl hc).mono ?_⟩
  rintro en w' ⟨x,rfl,hg,hx⟩
  refine⟨E,x,rfl,?_,(Ext.grow (P0:=P0) hg).pub,hx E⟩
  have e1:ydh (inSig 0 as) v=ydh (gOut as os) u:=by unfold ydh;rw[hheap,hout]
  rw[← e1];exact hh.grow hg
end Go.Va
namespace Go.Va
open Go
theorem ybn {x:Int}(h : -9223372036854775808≤x∧x≤9223372036854775807):IntKind.i64.wrap x=x:=by
  simp[IntKind.wrap,IntKind.bits,IntKind.signed];omega
theorem wrap_u64 {x:Int}(h:0≤x∧x≤18446744073709551615):IntKind.u64.wrap x=x:=by
  simp[IntKind.wrap,IntKind.bits,IntKind.signed];omega
theorem size_eq (s:ByteArray):s.size=s.data.toList.length:=by
  cases s;rfl
theorem size_of (s:ByteArray):s.size=(ycW s).length:=by
  unfold ycW;rw[List.length_map];exact size_eq s
theorem bt_getD (s:ByteArray)(i:Int):bt s i=(ycW s).getD i.toNat 0:=by
  unfold bt ycW
  rw[List.getD_eq_getElem?_getD,List.getD_eq_getElem?_getD,List.getElem?_map]
  cases s.data.toList[i.toNat]?<;>rfl
theorem ycV (s:ByteArray):eqS s s=true:=by unfold eqS;exact beq_self_eq_true _
end Go.Va
namespace Go.Va
open Go
theorem shr_eq {k:IntKind}{x:Int}{y:Nat}(hy:y≤k.bits):shrI k x (y:Int)=x/2 ^ y:=by
  unfold shrI
  rw[Int.toNat_natCast,Nat.min_eq_left hy]
  exact Int.fdiv_eq_ediv_of_nonneg _ (Int.le_of_lt (Int.pow_pos (by decide)))
end Go.Va
namespace Go.Va
open Go
end Go.Va
namespace Go.Va
open Go
end Go.Va
namespace Go.Va
open Go
inductive CT where
  | o
  | s (a b:CT)
  | c (a b:CT)
  | b (a:CT)
  | r (g:List Si) (t:CT)
  | l (g:List Si) (t:CT)
def plainC:Code→Bool
  | .skip | .region _ _ _ | .exit _ | .ret=>true
  | .seq a b=>plainC a&&plainC b
  | .cond _ a b=>plainC a&&plainC b
  | .block _ b=>plainC b
  | _=>false
noncomputable def acOf {R:Type}(x:Ctx)(n:Nat):CT→Code→AC R
  | .o,c=>oc R c
  | .s t u,.seq a b => .seq (acOf x n t a) (acOf x n u b)
  | .c t u,.cond o a b => .cond o (acOf x n t a) (acOf x n u b)
  | .b t,.block id a => .block id (acOf x n t a)
  | .r g t,c => .cut c g (λv k=>hideF (runR x (acOf x n t c) g v k))
  | .l g t,.loop c => .cut (.loop c) g (λv k=>hideF (runL x (acOf x n t c) g n v k))
  | _,_ => .ret
def fits:CT→Code→Bool
  | .o,c=>plainC c
  | .s t u,.seq a b=>fits t a&&fits u b
  | .c t u,.cond _ a b=>fits t a&&fits u b
  | .b t,.block _ a=>fits t a
  | .r _ t,c=>fits t c
  | .l _ t,.loop c=>fits t c
  | _,_=>false
theorem oc_code {R:Type}:∀ (c:Code),plainC c=true→(oc R c).code=c
  | .skip,_=>rfl
  | .region _ _ _,_=>rfl
  | .exit _,_=>rfl
  | .ret,_=>rfl
  | .seq a b,h=>by
    simp only[plainC,Bool.and_eq_true]at h
    simp only[oc,AC.code,oc_code a h.1,oc_code b h.2]
  | .cond _ a b,h=>by
    simp only[plainC,Bool.and_eq_true]at h
    simp only[oc,AC.code,oc_code a h.1,oc_code b h.2]
  | .block _ b,h=>by
    simp only[plainC]at h
    simp only[oc,AC.code,oc_code b h]
  | .loop _,h=>by simp[plainC]at h
  | .goto _,h=>by simp[plainC]at h
  | .rangeFunc _ _ _ _,h=>by simp[plainC]at h
  | .scope _,h=>by simp[plainC]at h
  | .label _,h=>by simp[plainC]at h
  | .refuse _,h=>by simp[plainC]at h
theorem acOf_ok [Gl]{R:Type}{P:Program}{x:Ctx}(hm:P.follows .mixedOrders=true)(hT:TabOk P x.c.tab)(hΦ:∀ e∈x.c.Φ,EntryOk P e)(n:Nat) :
    ∀ (t:CT) (c:Code),fits t c=true→(acOf (R:=R) x n t c).code=c∧(acOf (R:=R) x n t c).Ok P x
  | .o,c,h=>by simp only[acOf];exact⟨oc_code c h,oc_ok c⟩
  | .s t u,.seq a b,h=>by
    simp only[fits,Bool.and_eq_true]at h
    obtain⟨h1,h2⟩:=acOf_ok hm hT hΦ n t a h.1
    obtain⟨h3,h4⟩:=acOf_ok hm hT hΦ n u b h.2
    simp only[acOf]
    exact⟨by simp only[AC.code,h1,h3],h2,h4⟩
  | .c t u,.cond o a b,h=>by
    simp only[fits,Bool.and_eq_true]at h
    obtain⟨h1,h2⟩:=acOf_ok hm hT hΦ n t a h.1
    obtain⟨h3,h4⟩:=acOf_ok hm hT hΦ n u b h.2
    simp only[acOf]
    exact⟨by simp only[AC.code,h1,h3],h2,h4⟩
  | .b t,.block id a,h=>by
    simp only[fits]at h
    obtain⟨h1,h2⟩:=acOf_ok hm hT hΦ n t a h
    simp only[acOf]
    exact⟨by simp only[AC.code,h1],h2⟩
  | .r g t,c,h=>by
    simp only[fits]at h
    obtain⟨h1,h2⟩:=acOf_ok hm hT hΦ n t c h
    have e:acOf (R:=R) x n (.r g t) c = .cut c g (λv k=>hideF (runR x (acOf x n t c) g v k)):=by cases c<;>rfl
    rw[e]
    exact⟨rfl,runR_ok hm hT hΦ h2 h1⟩
  | .l g t,.loop c,h=>by
    simp only[fits]at h
    obtain⟨h1,h2⟩:=acOf_ok hm hT hΦ n t c h
    simp only[acOf]
    exact⟨rfl,runL_ok hm hT hΦ h2 (by rw[h1]) n⟩
def tsub:CT→List Nat→CT
  | .s a _,0::p=>tsub a p
  | .s _ b,_::p=>tsub b p
  | .c a _,0::p=>tsub a p
  | .c _ b,_::p=>tsub b p
  | .b a,_::p=>tsub a p
  | .r g t,p=>match p with
    | [] => .r g t
    | q::p=>tsub t (q::p)
  | .l _ t,_::p=>tsub t p
  | t,_=>t
def tin:CT→CT
  | .r _ t=>t
  | .l _ t=>t
  | t=>t
def lin:Code→Code
  | .loop c=>c
  | c=>c
noncomputable def kOf {R:Type}(x:Ctx)(n:Nat):CT→Code→List Nat→List Nat→KK R→KK R
  | _,_,[],_,k=>k
  | .s t u,.seq a b,i::p,ms,k=>match i with
    | 0=>kOf x n t a p ms (seqK (λs=>acRun x (acOf x n u b) s k) k)
    | _=>kOf x n u b p ms k
  | .c t u,.cond _ a b,i::p,ms,k=>match i with
    | 0=>kOf x n t a p ms k
    | _=>kOf x n u b p ms k
  | .b t,.block id a,_::p,ms,k=>kOf x n t a p ms (blockK id k)
  | .r _ t,c,i::p,ms,k=>kOf x n t c (i::p) ms k
  | .l g t,.loop c,_::p,m::ms,k=>kOf x n t c p ms (loopK x.bn g (λv=>hideF (runL x (acOf x n t c) g m v k)) k)
  | _,_,_::_,_,k=>k
noncomputable def jR {R:Type}(x:Ctx)(n:Nat)(t:CT)(c:Code)(K:KK R)(g:List Si)(p ms:List Nat)(v:Dens g):Option R:=
  hideF (runR x (acOf x n (tin (tsub t p)) (sub c p)) g v (kOf x n t c p ms K))
noncomputable def jL {R:Type}(x:Ctx)(n:Nat)(t:CT)(c:Code)(K:KK R)(g:List Si)(p ms:List Nat)(m:Nat)(v:Dens g):Option R:=
  hideF (runL x (acOf x n (tin (tsub t p)) (lin (sub c p))) g m v (kOf x n t c p ms K))
def yau (fn:Func):Code:=fn.body.getD .skip
noncomputable def fRun (x:Ctx)(n:Nat)(t:CT)(fn:Func)(as:List Ai)(os:List (Nat×Oi))(v:DIn as):Option (DOut as os):=
  hideF (acRun x (acOf x n t (yau fn)) (frameOf x.len (inSig 0 as) v) (endK as os))
def treeOk (x:Ctx)(t:CT)(fn:Func)(as:List Ai)(os:List (Nat×Oi)):Bool:=fn.body.isSome&&fits t (yau fn)&&fnFits x.c.tab fn x.len as os
theorem yaA [Gl]{P:Program}{x:Ctx}{n fid:Nat}{t:CT}{fn:Func}{as:List Ai}{os:List (Nat×Oi)}(hm:P.follows .mixedOrders=true)(hT:TabOk P x.c.tab)(hΦ:∀ e∈x.c.Φ,EntryOk P e)
    (hf:P.funcs[fid]?=some fn) (h:treeOk x t fn as os=true) (hbn:x.bn=bnOf 0 as):FnOk P fid as os (fRun x n t fn as os):=by
  unfold treeOk at h
  simp only[Bool.and_eq_true]at h
  obtain⟨h1,h2⟩:=acOf_ok (R:=DOut as os) hm hT hΦ n t _ h.1.2
  refine fn_ok hm hT hΦ hf (A:=acOf x n t (yau fn)) ?_ h.2 hbn h2 (λv u hu => ?_)
  · rw[h1]
    unfold yau
    have:=h.1.1
    cases hb:fn.body with
    | none=>rw[hb]at this;simp at this
    | some c=>rfl
  · unfold fRun at hu;rw[yac]at hu;exact hu
end Go.Va
namespace Go.Va
open Go
theorem Grow.alloc (w:World)(o:Obj):Grow w (w.alloc o):=Grow.push w o
theorem leaf_row_ok [Gl] {P : Program} {fid t : Nat} {e : Ty} {as : List Ai} {f : DIn as → Option (DOut as [(t, .val (.r 0 e))])} (hfn : ∃ fn, P.funcs[fid]? = some fn ∧ (fn.name == "runtime.NumGoroutine") = false ∧ fn.body.isNone = false)
    (hbn:boxSig 0 as=[]) (hheap:∀ v,ybT (inSig 0 as) v=[])
    (h:∀ v u,f v=some u→∀ E w vals,GlOk E w→C E w (ycn (ydp 0 as v)) vals→Calls P fid vals.toArray w λen w'=>
      ∃ (cs:Array Value) (ty:TypeId),en = .returned (.slice (some ⟨w.heap.size,0,none⟩) (List.length (α:=Den e) u.1) (List.length (α:=Den e) u.1))∧w'=w.alloc (.cells cs ty)∧∀ S w',RdL (Rd S w' e) u.1 cs.toList):FnOk P fid as [(t,.val (.r 0 e))] f:=by
  refine⟨hfn,λv u hv P0 S0 E w vals hh hc=>(h v u hv E w vals hh.gl hc).mono ?_⟩
  rintro en w' ⟨cs,ty,rfl,rfl,hr⟩
  have e1:ydh (inSig 0 as) v=λ_ => .un:=by unfold ydh;rw[hheap];rfl
  rw[e1]at hh
  have hblk:(w.alloc (.cells cs ty)).heap[w.heap.size]?=some (.cells cs ty):=by
    show (w.heap.push _)[w.heap.size]?=_
    simp
  have ho:OREL (E.new (nmO 0) (some w.heap.size) ⟨.row e,cs.size,List.length (α:=Den e) u.1⟩) (w.alloc (.cells cs ty)) (nmO 0) (.row e u.1):=by
    refine⟨cs.size,by simp[Env.new],?_⟩
    simp only[Env.new,if_true]
    exact⟨cs,ty,(0,0),cs.toList,[],hblk,.inl rfl,rfl,by simp,hr _ _⟩
  obtain⟨g1,g2⟩:=hh.new (q:=nmO 0) (b:=some w.heap.size) rfl (Grow.alloc w _) (λx hx=>by injection hx with hx;omega) ho
  refine⟨_,_,rfl,?_,g2.pub,?_⟩
  · have e2:ydh (gOut as [(t,.val (.r 0 e))]) u=upd1 (nmO 0) (.live (.row e u.1)) (λ_ => .un):=by
      have:∀ (g:List Si),g=[]→∀ (z:Den (Ty.slice e)) (y:Dens g),ydh (.val t (Sh.nm (.r 0 e) (nmO 0))::g) (z,y)=upd1 (nmO 0) (.live (.row e z)) (λ_ => .un):=by
        intro g hg;subst hg;intro z y;rfl
      exact this _ hbn u.1 u.2
    rw[e2];exact g1
  · have:oneAV (outAVs id id 0 [(t,.val (.r 0 e))] (boxSig 0 as) u) = .ow (nmO 0) e none:=rfl
    rw[this,V_one rfl]
    have hl:cs.size=List.length (α:=Den e) u.1*e.sz:=by
      rw[← Array.length_toList,RdL.length (λx c=>Rd.length (λ_=>True) w e x c) u.1 cs.toList (hr _ _)]
    refine⟨some ⟨w.heap.size,0,none⟩,_,_,rfl,.inl rfl,λL hL => ?_⟩
    simp only[Env.new,if_true]at hL
    injection hL with hL
    subst hL
    refine⟨rfl,0,⟨rfl,rfl⟩,by simp,?_⟩
    simp only[Env.new,if_true]
    exact⟨.inr (by simp),Nat.le_refl _,by simp[hl],by simp⟩
end Go.Va
