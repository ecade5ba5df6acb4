/-
  Va, part 29: where the cuts are, as a tree; code with cuts, and what is behind each, reckoned from it.
-/
import Derived.Test.YtnejdhgbpefanaaGreatDoorVaPlain
set_option linter.unusedVariables false
set_option linter.unusedSimpArgs false
namespace Go.Va
open Go
inductive CT where
  | o
  | s (a b:CT)
  | c (a b:CT)
  | b (a:CT)
  | r (g:List Si) (t:CT)
  | l (g:List Si) (t:CT)
def plainC:Code→Bool
  | .skip | .region _ _ _ | .exit _ | .ret=>true
  | .seq a b=>plainC a&&plainC b
  | .cond _ a b=>plainC a&&plainC b
  | .block _ b=>plainC b
  | _=>false
noncomputable def acOf {R:Type}(x:Ctx)(n:Nat):CT→Code→AC R
  | .o,c=>oc R c
  | .s t u,.seq a b => .seq (acOf x n t a) (acOf x n u b)
  | .c t u,.cond o a b => .cond o (acOf x n t a) (acOf x n u b)
  | .b t,.block id a => .block id (acOf x n t a)
  | .r g t,c => .cut c g (λv k=>hideF (runR x (acOf x n t c) g v k))
  | .l g t,.loop c => .cut (.loop c) g (λv k=>hideF (runL x (acOf x n t c) g n v k))
  | _,_ => .ret
def fits:CT→Code→Bool
  | .o,c=>plainC c
  | .s t u,.seq a b=>fits t a&&fits u b
  | .c t u,.cond _ a b=>fits t a&&fits u b
  | .b t,.block _ a=>fits t a
  | .r _ t,c=>fits t c
  | .l _ t,.loop c=>fits t c
  | _,_=>false
theorem oc_code {R:Type}:∀ (c:Code),plainC c=true→(oc R c).code=c
  | .skip,_=>rfl
  | .region _ _ _,_=>rfl
  | .exit _,_=>rfl
  | .ret,_=>rfl
  | .seq a b,h=>by
    simp only[plainC,Bool.and_eq_true]at h
    simp only[oc,AC.code,oc_code a h.1,oc_code b h.2]
  | .cond _ a b,h=>by
    simp only[plainC,Bool.and_eq_true]at h
    simp only[oc,AC.code,oc_code a h.1,oc_code b h.2]
  | .block _ b,h=>by
    simp only[plainC]at h
    simp only[oc,AC.code,oc_code b h]
  | .loop _,h=>by simp[plainC]at h
  | .goto _,h=>by simp[plainC]at h
  | .rangeFunc _ _ _ _,h=>by simp[plainC]at h
  | .scope _,h=>by simp[plainC]at h
  | .label _,h=>by simp[plainC]at h
  | .refuse _,h=>by simp[plainC]at h
theorem acOf_ok [Gl]{R:Type}{P:Program}{x:Ctx}(hm:P.follows .mixedOrders=true)(hT:TabOk P x.c.tab)(hΦ:∀ e∈x.c.Φ,EntryOk P e)(n:Nat) :
    ∀ (t:CT) (c:Code),fits t c=true→(acOf (R:=R) x n t c).code=c∧(acOf (R:=R) x n t c).Ok P x
  | .o,c,h=>by simp only[acOf];exact⟨oc_code c h,oc_ok c⟩
  | .s t u,.seq a b,h=>by
    simp only[fits,Bool.and_eq_true]at h
    obtain⟨h1,h2⟩:=acOf_ok hm hT hΦ n t a h.1
    obtain⟨h3,h4⟩:=acOf_ok hm hT hΦ n u b h.2
    simp only[acOf]
    exact⟨by simp only[AC.code,h1,h3],h2,h4⟩
  | .c t u,.cond o a b,h=>by
    simp only[fits,Bool.and_eq_true]at h
    obtain⟨h1,h2⟩:=acOf_ok hm hT hΦ n t a h.1
    obtain⟨h3,h4⟩:=acOf_ok hm hT hΦ n u b h.2
    simp only[acOf]
    exact⟨by simp only[AC.code,h1,h3],h2,h4⟩
  | .b t,.block id a,h=>by
    simp only[fits]at h
    obtain⟨h1,h2⟩:=acOf_ok hm hT hΦ n t a h
    simp only[acOf]
    exact⟨by simp only[AC.code,h1],h2⟩
  | .r g t,c,h=>by
    simp only[fits]at h
    obtain⟨h1,h2⟩:=acOf_ok hm hT hΦ n t c h
    have e:acOf (R:=R) x n (.r g t) c = .cut c g (λv k=>hideF (runR x (acOf x n t c) g v k)):=by cases c<;>rfl
    rw[e]
    exact⟨rfl,runR_ok hm hT hΦ h2 h1⟩
  | .l g t,.loop c,h=>by
    simp only[fits]at h
    obtain⟨h1,h2⟩:=acOf_ok hm hT hΦ n t c h
    simp only[acOf]
    exact⟨rfl,runL_ok hm hT hΦ h2 (by rw[h1]) n⟩
def tsub:CT→List Nat→CT
  | .s a _,0::p=>tsub a p
  | .s _ b,_::p=>tsub b p
  | .c a _,0::p=>tsub a p
  | .c _ b,_::p=>tsub b p
  | .b a,_::p=>tsub a p
  | .r g t,p=>match p with
    | [] => .r g t
    | q::p=>tsub t (q::p)
  | .l _ t,_::p=>tsub t p
  | t,_=>t
def tin:CT→CT
  | .r _ t=>t
  | .l _ t=>t
  | t=>t
def lin:Code→Code
  | .loop c=>c
  | c=>c
noncomputable def kOf {R:Type}(x:Ctx)(n:Nat):CT→Code→List Nat→List Nat→KK R→KK R
  | _,_,[],_,k=>k
  | .s t u,.seq a b,i::p,ms,k=>match i with
    | 0=>kOf x n t a p ms (seqK (λs=>acRun x (acOf x n u b) s k) k)
    | _=>kOf x n u b p ms k
  | .c t u,.cond _ a b,i::p,ms,k=>match i with
    | 0=>kOf x n t a p ms k
    | _=>kOf x n u b p ms k
  | .b t,.block id a,_::p,ms,k=>kOf x n t a p ms (blockK id k)
  | .r _ t,c,i::p,ms,k=>kOf x n t c (i::p) ms k
  | .l g t,.loop c,_::p,m::ms,k=>kOf x n t c p ms (loopK x.bn g (λv=>hideF (runL x (acOf x n t c) g m v k)) k)
  | _,_,_::_,_,k=>k
noncomputable def jR {R:Type}(x:Ctx)(n:Nat)(t:CT)(c:Code)(K:KK R)(g:List Si)(p ms:List Nat)(v:Dens g):Option R:=
  hideF (runR x (acOf x n (tin (tsub t p)) (sub c p)) g v (kOf x n t c p ms K))
noncomputable def jL {R:Type}(x:Ctx)(n:Nat)(t:CT)(c:Code)(K:KK R)(g:List Si)(p ms:List Nat)(m:Nat)(v:Dens g):Option R:=
  hideF (runL x (acOf x n (tin (tsub t p)) (lin (sub c p))) g m v (kOf x n t c p ms K))
def bodyOf (fn:Func):Code:=fn.body.getD .skip
noncomputable def fRun (x:Ctx)(n:Nat)(t:CT)(fn:Func)(as:List Ai)(os:List (Nat×Oi))(v:DIn as):Option (DOut as os):=
  hideF (acRun x (acOf x n t (bodyOf fn)) (frameOf x.len (inSig 0 as) v) (endK as os))
def treeOk (x:Ctx)(t:CT)(fn:Func)(as:List Ai)(os:List (Nat×Oi)):Bool:=fn.body.isSome&&fits t (bodyOf fn)&&fnFits x.c.tab fn x.len as os
theorem tree_ok [Gl]{P:Program}{x:Ctx}{n fid:Nat}{t:CT}{fn:Func}{as:List Ai}{os:List (Nat×Oi)}(hm:P.follows .mixedOrders=true)(hT:TabOk P x.c.tab)(hΦ:∀ e∈x.c.Φ,EntryOk P e)
    (hf:P.funcs[fid]?=some fn) (h:treeOk x t fn as os=true) (hbn:x.bn=bnOf 0 as):FnOk P fid as os (fRun x n t fn as os):=by
  unfold treeOk at h
  simp only[Bool.and_eq_true]at h
  obtain⟨h1,h2⟩:=acOf_ok (R:=DOut as os) hm hT hΦ n t _ h.1.2
  refine fn_ok hm hT hΦ hf (A:=acOf x n t (bodyOf fn)) ?_ h.2 hbn h2 (λv u hu => ?_)
  · rw[h1]
    unfold bodyOf
    have:=h.1.1
    cases hb:fn.body with
    | none=>rw[hb]at this;simp at this
    | some c=>rfl
  · unfold fRun at hu;rw[hideF_eq]at hu;exact hu
end Go.Va
