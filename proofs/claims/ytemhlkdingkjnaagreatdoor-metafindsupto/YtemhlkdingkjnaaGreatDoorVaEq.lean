/-
  Va, part 11: == on numbers, bools, texts, structs and arrays of these.
-/
import Derived.Test.YtemhlkdingkjnaaGreatDoorVaOps2
set_option linter.unusedVariables false
set_option linter.unusedSimpArgs false
namespace Go.Va
open Go
section
variable {P:Program} {S:Nat→Prop} {w:World}
theorem forIn_eq {α:Type} (f:α→Option Bool×PUnit→Sem (ForInStep (Option Bool×PUnit))) :
    ∀ (l:List α) (bs:List Bool),l.length=bs.length →
      (∀ i (h:i<l.length) (h':i<bs.length),(f l[i] (none,())).run P w = .ok (if bs[i] then .yield (none,()) else .done (some false,())) w) →
      (forIn l (none,()) f).run P w = .ok (if bs.all id then (none,()) else (some false,())) w
  | [],bs,hl,_=>by
    have:bs=[]:=by simpa using hl.symm
    subst this;simp
  | a::l,[],hl,_=>by simp at hl
  | a :: l,b::bs,hl,h=>by
    have h0:=h 0 (by simp) (by simp)
    simp only[List.getElem_cons_zero]at h0
    rw[List.forIn_cons]
    simp only[Sem.run_bind,h0,Result.andThen_ok]
    cases b with
    | false=>simp
    | true=>
      simp only[if_true]
      rw[forIn_eq f l bs (by simpa using hl) (λi hi hi'=>by
        have:=h (i+1) (by simpa using hi) (by simpa using hi')
        simpa using this)]
      simp
def bsOf:(T:Ty)→Den T→Den T→List Bool
  | .pair a b,x,y=>eqD a x.1 y.1::bsOf b x.2 y.2
  | _,_,_=>[]
theorem bsOf_all:∀ (n:Nat) (T:Ty) (x y:Den T),cmpT n T=true→(∀ fs off,(TF P T).2 fs off→(bsOf T x y).all id=eqD T x y):=by
  intro n T
  induction T generalizing n with
  | pair a b iha ihb=>
    intro x y hc fs off hf
    cases n with
    | zero=>simp[cmpT]at hc
    | succ n=>
      simp only[cmpT,Bool.and_eq_true]at hc
      cases fs with
      | nil=>exact hf.elim
      | cons f fs=>
        obtain⟨_,_,_,h3⟩:=hf
        simp only[bsOf,List.all_cons,id,eqD]
        rw[ihb n x.2 y.2 hc.2 fs _ h3]
  | unit=>intro x y hc fs off hf;rfl
  | _=>intro x y hc fs off hf;exact hf.elim
theorem eqL_all {α:Type}(f:α→α→Bool):∀ (l m:List α),l.length=m.length→((l.zip m).map λp=>f p.1 p.2).all id=eqL f l m
  | [],[],_=>rfl
  | [],_::_,h=>by simp at h
  | _::_,[],h=>by simp at h
  | x::l,y::m,h=>by simp[eqL,← eqL_all f l m (by simpa using h)]
theorem equal_main [Gl]:∀ (T:Ty),
    (∀ (n d:Nat) (t:TypeId) (x y:Den T) (cs ds:List Value),TyIs P T t→cmpT n T=true→n≤d→Rd S w T x cs→Rd S w T y ds →
      (Op.equalIn d t (ybl T cs) (ybl T ds)).run P w = .ok (eqD T x y) w∧(Op.eqGuardIn d t (ybl T cs) (ybl T ds)).run P w = .ok false w) ∧
    (∀ (n d:Nat) (fs:List Field) (off:Nat) (x y:Den T) (cs ds X Y:List Value),(TF P T).2 fs off→cmpT n T=true→n≤d+1→Rd S w T x cs→Rd S w T y ds →
      X.length=off→Y.length=off →
      fs.length = (bsOf T x y).length ∧ ∀ i (h : i < fs.length) (h' : i < (bsOf T x y).length), fs[i].name ≠ "_" ∧ ∃ u v, (part fs[i].type (X ++ cs).toArray fs[i].offset).run P w = .ok u w ∧ (part fs[i].type (Y ++ ds).toArray fs[i].offset).run P w = .ok v w ∧
        (Op.equalIn d fs[i].type u v).run P w = .ok (bsOf T x y)[i] w∧(Op.eqGuardIn d fs[i].type u v).run P w = .ok false w):=by
  intro T
  induction T with
  | int k=>
    refine⟨?_,λn d fs off x y cs ds X Y hf=>hf.elim⟩
    intro n d t x y cs ds hT hc hd hx hy
    simp only[Rd]at hx hy;subst hx hy
    cases d with
    | zero => have:n=0:=by omega
              subst this;simp[cmpT]at hc
    | succ d=>
      refine⟨?_,?_⟩
      · unfold Op.equalIn
        simp only[ybl,Ty.agg,Bool.false_eq_true,if_false,List.headD_cons,Sem.run_bind,run_underlying hT.1,Result.andThen_ok,if_true,Sem.run_pure]
        rfl
      · unfold Op.eqGuardIn
        simp only[ybl,Ty.agg,Bool.false_eq_true,if_false,List.headD_cons,Sem.run_bind,run_underlying hT.1,Result.andThen_ok,Sem.run_pure]
  | bool=>
    refine⟨?_,λn d fs off x y cs ds X Y hf=>hf.elim⟩
    intro n d t x y cs ds hT hc hd hx hy
    simp only[Rd]at hx hy;subst hx hy
    cases d with
    | zero => have:n=0:=by omega
              subst this;simp[cmpT]at hc
    | succ d=>
      refine⟨?_,?_⟩
      · unfold Op.equalIn
        simp only[ybl,Ty.agg,Bool.false_eq_true,if_false,List.headD_cons,Sem.run_bind,run_underlying hT.1,Result.andThen_ok,Sem.run_pure]
        rfl
      · unfold Op.eqGuardIn
        simp only[ybl,Ty.agg,Bool.false_eq_true,if_false,List.headD_cons,Sem.run_bind,run_underlying hT.1,Result.andThen_ok,Sem.run_pure]
  | str =>
    refine⟨?_,λn d fs off x y cs ds X Y hf=>hf.elim⟩
    intro n d t x y cs ds hT hc hd hx hy
    simp only[Rd]at hx hy;subst hx hy
    cases d with
    | zero => have:n=0:=by omega
              subst this;simp[cmpT]at hc
    | succ d=>
      refine⟨?_,?_⟩
      · unfold Op.equalIn
        simp only[ybl,Ty.agg,Bool.false_eq_true,if_false,List.headD_cons,Sem.run_bind,run_underlying hT.1,Result.andThen_ok,Sem.run_pure]
        rfl
      · unfold Op.eqGuardIn
        simp only[ybl,Ty.agg,Bool.false_eq_true,if_false,List.headD_cons,Sem.run_bind,run_underlying hT.1,Result.andThen_ok,Sem.run_pure]
  | slice e _=>exact⟨λn d t x y cs ds hT hc=>by cases n<;>simp[cmpT]at hc,λn d fs off x y cs ds X Y hf=>hf.elim⟩
  | opq k=>exact⟨λn d t x y cs ds hT hc=>by cases n<;>simp[cmpT]at hc,λn d fs off x y cs ds X Y hf=>hf.elim⟩
  | smap=>exact⟨λn d t x y cs ds hT hc=>by cases n<;>simp[cmpT]at hc,λn d fs off x y cs ds X Y hf=>hf.elim⟩
  | mapT k v=>exact⟨λn d t x y cs ds hT hc=>by cases n<;>simp[cmpT]at hc,λn d fs off x y cs ds X Y hf=>hf.elim⟩
  | arr k e ih=>
    refine⟨?_,λn d fs off x y cs ds X Y hf=>hf.elim⟩
    intro n d t x y cs ds hT hc hd hx hy
    obtain⟨⟨u,hu,huT⟩,_⟩:=hT
    obtain⟨hlx,hrx⟩:=hx
    obtain⟨hly,hry⟩:=hy
    cases n with
    | zero=>simp[cmpT]at hc
    | succ n=>
    simp only[cmpT]at hc
    cases d with
    | zero=>omega
    | succ d=>
      have hstep:∀ i (hi:i<k),∃ u1 v1,(part u cs.toArray (i*e.sz)).run P w = .ok u1 w∧(part u ds.toArray (i*e.sz)).run P w = .ok v1 w ∧
          (Op.equalIn d u u1 v1).run P w = .ok (eqD e (List.getD x i (dflt e)) (List.getD y i (dflt e))) w∧(Op.eqGuardIn d u u1 v1).run P w = .ok false w:=by
        intro i hi
        obtain⟨c1,c',c2,m1,m2,m3,_,_⟩:=RdL.get (λx c=>Rd.length S w e x c) x cs hrx i (by rw[hlx];exact hi)
        obtain⟨d1,d',d2,n1,n2,n3,_,_⟩:=RdL.get (λx c=>Rd.length S w e x c) y ds hry i (by rw[hly];exact hi)
        obtain⟨q1,q2⟩:=ih.1 n d u _ _ c' d' huT hc (by omega) m3 n3
        refine⟨ybl e c',ybl e d',?_,?_,?_,q2⟩
        · rw[m1,← m2];exact run_part huT (Rd.length _ _ _ _ _ m3)
        · rw[n1,← n2];exact run_part huT (Rd.length _ _ _ _ _ n3)
        · rw[getD_eq _ _ _ (by rw[hlx];exact hi),getD_eq _ _ _ (by rw[hly];exact hi)];exact q1
      refine⟨?_,?_⟩
      · unfold Op.equalIn
        simp only[ybl,Ty.agg,if_true,Sem.run_bind,run_underlying hu,Result.andThen_ok,run_sizeOf huT]
        rw[Std.Legacy.Range.forIn_eq_forIn_range']
        rw[forIn_eq _ _ ((List.range k).map λi=>eqD e (List.getD x i (dflt e)) (List.getD y i (dflt e))) (by simp[Std.Legacy.Range.size]) (λi hi hi'=>by
          have hik:i<k:=by simpa using hi'
          obtain⟨u1,v1,g1,g2,g3,_⟩:=hstep i hik
          simp only[List.getElem_range',Nat.zero_add,Nat.one_mul,Sem.run_bind,g1,g2,g3,Result.andThen_ok,List.getElem_map,List.getElem_range]
          cases eqD e (List.getD x i (dflt e)) (List.getD y i (dflt e))<;>simp)]
        simp only[Result.andThen_ok]
        have:((List.range k).map λi=>eqD e (List.getD x i (dflt e)) (List.getD y i (dflt e)))=((x.zip y).map λp=>eqD e p.1 p.2):=by
          apply List.ext_getElem
          · simp[hlx,hly]
          · intro i h1 h2
            have hik:i<k:=by simpa using h1
            simp only[List.getElem_map,List.getElem_range,List.getElem_zip]
            rw[getD_eq _ _ _ (by rw[hlx];exact hik),getD_eq _ _ _ (by rw[hly];exact hik)]
        rw[this,eqL_all _ _ _ (by rw[hlx,hly])]
        simp only[eqD]
        cases eqL (eqD e) x y<;>rfl
      · unfold Op.eqGuardIn
        simp only[ybl,Ty.agg,if_true,Sem.run_bind,run_underlying hu,Result.andThen_ok,run_sizeOf huT]
        rw[Std.Legacy.Range.forIn_eq_forIn_range']
        rw[forIn_eq _ _ (List.replicate k true) (by simp[Std.Legacy.Range.size]) (λi hi hi'=>by
          have hik:i<k:=by simpa using hi'
          obtain⟨u1,v1,g1,g2,_,g4⟩:=hstep i hik
          simp only[List.getElem_range',Nat.zero_add,Nat.one_mul,Sem.run_bind,g1,g2,g4,Result.andThen_ok,List.getElem_replicate]
          simp)]
        simp
  | unit=>
    refine⟨?_,?_⟩
    · intro n d t x y cs ds hT hc hd hx hy
      obtain⟨⟨fs,h1,h2,h3⟩,_⟩:=hT
      simp only[Rd]at hx hy;subst hx hy
      cases d with
      | zero => have:n=0:=by omega
                subst this;simp[cmpT]at hc
      | succ d=>
        have hfs:fs = #[]:=by simpa using h2
        subst hfs
        refine⟨?_,?_⟩
        · unfold Op.equalIn
          simp[ybl,Ty.agg,run_underlying h1,h3,eqD]
        · unfold Op.eqGuardIn
          simp[ybl,Ty.agg,run_underlying h1]
    · intro n d fs off x y cs ds X Y hf hc hd hx hy hX hY
      have hfs:fs=[]:=hf
      subst hfs
      exact⟨rfl,λi h=>by simp at h⟩
  | pair a b iha ihb=>
    have chain:∀ (n d:Nat) (fs:List Field) (off:Nat) (x y:Den (.pair a b)) (cs ds X Y:List Value),(TF P (.pair a b)).2 fs off→cmpT n (.pair a b)=true→n≤d+1→Rd S w (.pair a b) x cs→Rd S w (.pair a b) y ds →
      X.length=off→Y.length=off →
      fs.length = (bsOf (.pair a b) x y).length ∧ ∀ i (h : i < fs.length) (h' : i < (bsOf (.pair a b) x y).length), fs[i].name ≠ "_" ∧ ∃ u v, (part fs[i].type (X ++ cs).toArray fs[i].offset).run P w = .ok u w ∧ (part fs[i].type (Y ++ ds).toArray fs[i].offset).run P w = .ok v w ∧
        (Op.equalIn d fs[i].type u v).run P w = .ok (bsOf (.pair a b) x y)[i] w∧(Op.eqGuardIn d fs[i].type u v).run P w = .ok false w:=by
      intro n d fs off x y cs ds X Y hf hc hd hx hy hX hY
      cases n with
      | zero=>simp[cmpT]at hc
      | succ n=>
      simp only[cmpT,Bool.and_eq_true]at hc
      cases fs with
      | nil=>exact hf.elim
      | cons f fs=>
        obtain⟨h1,h2,h3,h4⟩:=hf
        obtain⟨c1,c2,rfl,g1,g2⟩:=hx
        obtain⟨d1,d2,rfl,k1,k2⟩:=hy
        have lc:=Rd.length _ _ _ _ _ g1
        have ld:=Rd.length _ _ _ _ _ k1
        obtain⟨q1,q2⟩:=ihb.2 n d fs (off+a.sz) x.2 y.2 c2 d2 (X++c1) (Y++d1) h4 hc.2 (by omega) g2 k2 (by simp[hX,lc]) (by simp[hY,ld])
        refine⟨by simp[bsOf,q1],λi h h' => ?_⟩
        cases i with
        | zero=>
          refine⟨h2,ybl a c1,ybl a d1,?_,?_,?_⟩
          · simp only[List.getElem_cons_zero]
            rw[h1,← hX,← List.append_assoc];exact run_part h3 lc
          · simp only[List.getElem_cons_zero]
            rw[h1,← hY,← List.append_assoc];exact run_part h3 ld
          · simp only[List.getElem_cons_zero,bsOf]
            exact iha.1 n d f.type x.1 y.1 c1 d1 h3 hc.1 (by omega) g1 k1
        | succ i=>
          have:=q2 i (by simpa using h) (by simpa[bsOf]using h')
          simpa[bsOf]using this
    refine⟨?_,chain⟩
    intro n d t x y cs ds hT hc hd hx hy
    obtain⟨⟨fs,h1,h2,h3⟩,_⟩:=hT
    cases d with
    | zero => have:n=0:=by omega
              subst this;simp[cmpT]at hc
    | succ d=>
      obtain⟨q1,q2⟩:=chain n d fs.toList 0 x y cs ds [] [] h2 hc (by omega) hx hy rfl rfl
      refine⟨?_,?_⟩
      · unfold Op.equalIn
        simp only[ybl,Ty.agg,if_true,Sem.run_bind,run_underlying h1,Result.andThen_ok,run_program,h3,Bool.false_eq_true,if_false]
        rw[← Array.forIn_toList]
        rw[forIn_eq _ _ (bsOf (.pair a b) x y) q1 (λi hi hi'=>by
          obtain⟨g0,u,v,g1,g2,g3,_⟩:=q2 i hi hi'
          simp only[List.nil_append]at g1 g2
          simp only[if_pos g0,Sem.run_bind,g1,g2,g3,Result.andThen_ok]
          cases (bsOf (.pair a b) x y)[i]<;>simp)]
        simp only[Result.andThen_ok]
        rw[bsOf_all n _ x y hc _ _ h2]
        cases eqD (.pair a b) x y<;>rfl
      · unfold Op.eqGuardIn
        simp only[ybl,Ty.agg,if_true,Sem.run_bind,run_underlying h1,Result.andThen_ok]
        rw[← Array.forIn_toList]
        rw[forIn_eq _ _ (List.replicate fs.toList.length true) (by simp) (λi hi hi'=>by
          obtain⟨g0,u,v,g1,g2,_,g4⟩:=q2 i hi (by rw[← q1];exact hi)
          simp only[List.nil_append]at g1 g2
          simp only[if_pos g0,Sem.run_bind,g1,g2,g4,Result.andThen_ok]
          simp)]
        simp
end
end Go.Va
