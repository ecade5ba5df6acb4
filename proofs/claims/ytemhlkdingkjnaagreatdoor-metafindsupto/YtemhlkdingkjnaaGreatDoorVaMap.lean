/-
  Va, part 20b: own maps.
-/
import Derived.Test.YtemhlkdingkjnaaGreatDoorVaOps11b
set_option linter.unusedVariables false
set_option linter.unusedSimpArgs false
namespace Go.Va
open Go
section
variable {P:Program} {c:Cfg} {o:Oper} {op:Operand→AV} {look:Nat→Ent} {R:Type} {k:Kont R} {r:R}
def atomT:Ty→Bool
  | .int _=>true
  | .bool=>true
  | .str=>true
  | _=>false
theorem atom_key {K:Ty}(h:atomT K=true):keyT K=true:=by cases K<;>simp_all [atomT,keyT]
theorem sameNow_own {E:Env}{w:World}{K:Ty}{kt:TypeId}{kind:TypeDesc}{a b:Den K}{x y:Value}(hK:atomT K=true)(ht:TyIs P K kt)(hk:P.underlying kt=some kind)(hx:V E w (.data K a) x)(hy:V E w (.data K b) y) :
    Instr.sameNow kind x y=some (eqD K a b):=by
  cases K with
  | int kd=>
    have h1:=ht.1
    rw[hk]at h1
    injection h1 with h1
    subst h1
    rw[V_int.1 hx,V_int.1 hy]
    simp only[Instr.sameNow,if_pos,eqD]
    refine congrArg some ?_
    by_cases h:(a:Int)=b
    · rw[decide_eq_true h];exact beq_iff_eq.2 h
    · rw[decide_eq_false h];exact beq_eq_false_iff_ne.2 h
  | bool=>
    have h1:=ht.1
    rw[hk]at h1
    injection h1 with h1
    subst h1
    rw[ycY.1 hx,ycY.1 hy]
    rfl
  | str=>
    have h1:=ht.1
    rw[hk]at h1
    injection h1 with h1
    subst h1
    rw[V_str.1 hx,V_str.1 hy]
    rfl
  | _=>simp[atomT]at hK
theorem forIn_unit {α:Type}(f:α→PUnit→Sem (ForInStep PUnit)){w:World} :
    ∀ (l:List α),(∀ i (h:i<l.length),(f l[i] ()).run P w = .ok (.yield ()) w)→(forIn l () f).run P w = .ok () w
  | [],_=>by simp
  | a::l,h=>by
    have h0:=h 0 (by simp)
    simp only[List.getElem_cons_zero]at h0
    rw[List.forIn_cons]
    simp only[Sem.run_bind,h0,Result.andThen_ok]
    exact forIn_unit f l λi hi=>h (i+1) (Nat.succ_lt_succ hi)
theorem check_main {S:Nat→Prop} {w:World} (em:Bool):∀ (T:Ty),
    (∀ (n d:Nat) (t:TypeId) (x:Den T) (cs:List Value),TyIs P T t→keyP T=true→cmpT n T=true→n≤d→Rd S w T x cs→(Instr.checkKey em d t (ybl T cs)).run P w = .ok () w) ∧
    (∀ (n d:Nat) (fs:List Field) (off:Nat) (x:Den T) (cs X:List Value),(TF P T).2 fs off→keyP T=true→cmpT n T=true→n≤d+1→Rd S w T x cs→X.length=off →
      ∀ i (h : i < fs.length), fs[i].name ≠ "_" ∧ ∃ u, (part fs[i].type (X ++ cs).toArray fs[i].offset).run P w = .ok u w ∧ (Instr.checkKey em d fs[i].type u).run P w = .ok () w) := by
  intro T
  induction T with
  | int k=>
    refine⟨?_,λn d fs off x cs X hf=>hf.elim⟩
    intro n d t x cs hT _ hc hd hx
    cases d with
    | zero => have:n=0:=by omega
              subst this;simp[cmpT]at hc
    | succ d=>unfold Instr.checkKey;simp only[Sem.run_bind,run_underlying hT.1,Result.andThen_ok,Sem.run_pure]
  | bool=>
    refine⟨?_,λn d fs off x cs X hf=>hf.elim⟩
    intro n d t x cs hT _ hc hd hx
    cases d with
    | zero => have:n=0:=by omega
              subst this;simp[cmpT]at hc
    | succ d=>unfold Instr.checkKey;simp only[Sem.run_bind,run_underlying hT.1,Result.andThen_ok,Sem.run_pure]
  | str=>
    refine⟨?_,λn d fs off x cs X hf=>hf.elim⟩
    intro n d t x cs hT _ hc hd hx
    cases d with
    | zero => have:n=0:=by omega
              subst this;simp[cmpT]at hc
    | succ d=>unfold Instr.checkKey;simp only[Sem.run_bind,run_underlying hT.1,Result.andThen_ok,Sem.run_pure]
  | unit=>
    have chain:∀ (n d:Nat) (fs:List Field) (off:Nat) (x:Den .unit) (cs X:List Value),(TF P .unit).2 fs off→keyP .unit=true→cmpT n .unit=true→n≤d+1→Rd S w .unit x cs→X.length=off →
        ∀ i (h : i < fs.length), fs[i].name ≠ "_" ∧ ∃ u, (part fs[i].type (X ++ cs).toArray fs[i].offset).run P w = .ok u w ∧ (Instr.checkKey em d fs[i].type u).run P w = .ok () w := by
      intro n d fs off x cs X hf _ _ _ _ _ i h
      have hf:fs=[]:=hf
      subst hf
      exact absurd h (by simp)
    refine⟨?_,chain⟩
    intro n d t x cs hT hk hc hd hx
    obtain⟨⟨fs,h1,h2,h3⟩,_⟩:=hT
    cases d with
    | zero => have:n=0:=by omega
              subst this;simp[cmpT]at hc
    | succ d=>
      unfold Instr.checkKey
      simp only[ybl,Ty.agg,if_true,Sem.run_bind,run_underlying h1,Result.andThen_ok]
      rw[← Array.forIn_toList]
      have h2:fs.toList=[]:=h2
      rw[h2]
      simp
  | pair a b iha ihb=>
    have chain:∀ (n d:Nat) (fs:List Field) (off:Nat) (x:Den (.pair a b)) (cs X:List Value),(TF P (.pair a b)).2 fs off→keyP (.pair a b)=true→cmpT n (.pair a b)=true→n≤d+1→Rd S w (.pair a b) x cs→X.length=off →
        ∀ i (h : i < fs.length), fs[i].name ≠ "_" ∧ ∃ u, (part fs[i].type (X ++ cs).toArray fs[i].offset).run P w = .ok u w ∧ (Instr.checkKey em d fs[i].type u).run P w = .ok () w := by
      intro n d fs off x cs X hf hk hc hd hx hX
      cases n with
      | zero=>simp[cmpT]at hc
      | succ n=>
      simp only[cmpT,Bool.and_eq_true]at hc
      simp only[keyP,Bool.and_eq_true]at hk
      cases fs with
      | nil=>exact hf.elim
      | cons f fs=>
        obtain⟨h1,h2,h3,h4⟩:=hf
        obtain⟨c1,c2,rfl,g1,g2⟩:=hx
        have lc:=Rd.length _ _ _ _ _ g1
        have q2:=ihb.2 n d fs (off+a.sz) x.2 c2 (X++c1) h4 hk.2 hc.2 (by omega) g2 (by simp[hX,lc])
        intro i h
        cases i with
        | zero=>
          refine⟨h2,ybl a c1,?_,?_⟩
          · simp only[List.getElem_cons_zero]
            rw[h1,← hX,← List.append_assoc];exact run_part h3 lc
          · simp only[List.getElem_cons_zero]
            exact iha.1 n d f.type x.1 c1 h3 hk.1 hc.1 (by omega) g1
        | succ i=>
          have:=q2 i (by simpa using h)
          simpa using this
    refine⟨?_,chain⟩
    intro n d t x cs hT hk hc hd hx
    obtain⟨⟨fs,h1,h2,h3⟩,_⟩:=hT
    cases d with
    | zero => have:n=0:=by omega
              subst this;simp[cmpT]at hc
    | succ d=>
      have q2:=chain n d fs.toList 0 x cs [] h2 hk hc (by omega) hx rfl
      unfold Instr.checkKey
      simp only[ybl,Ty.agg,if_true,Sem.run_bind,run_underlying h1,Result.andThen_ok]
      rw[← Array.forIn_toList]
      rw[forIn_unit _ fs.toList λi hi => ?_]
      · simp only[Result.andThen_ok,Sem.run_pure]
      · obtain⟨g0,u,g1,g2⟩:=q2 i hi
        simp only[List.nil_append]at g1
        simp only[if_pos g0,Sem.run_bind,g1,g2,Result.andThen_ok,Sem.run_pure]
  | _=>exact⟨λn d t x cs hT hk=>by simp[keyP]at hk,λn d fs off x cs X hf=>hf.elim⟩
theorem data_cells {E:Env}{w:World}{K:Ty}{a:Den K}{x:Value}(hx:V E w (.data K a) x):∃ cs,x=ybl K cs∧Rd E.S w K a cs:=by
  unfold V at hx
  change (if K.agg=true then _ else _) at hx
  split at hx
  · rename_i ha
    obtain⟨c,rfl,h⟩:=hx
    exact⟨c.toList,by simp[ybl,ha],h⟩
  · rename_i ha
    exact⟨[x],by simp[ybl,ha],hx⟩
theorem checkKey_own {E:Env}{w:World}{K:Ty}{kt:TypeId}{a:Den K}{x:Value}(hK:keyT K=true)(ht:TyIs P K kt)(hx:V E w (.data K a) x)(b:Bool):(Instr.checkKey b 10000 kt x).run P w = .ok () w:=by
  obtain⟨cs,rfl,hr⟩:=data_cells hx
  cases K with
  | int kd=>exact (check_main b (.int kd)).1 1 10000 kt a cs ht rfl rfl (by decide) hr
  | bool=>exact (check_main b .bool).1 1 10000 kt a cs ht rfl rfl (by decide) hr
  | str=>exact (check_main b .str).1 1 10000 kt a cs ht rfl rfl (by decide) hr
  | pair A B=>
    simp only[keyT,Bool.and_eq_true]at hK
    exact (check_main b (.pair A B)).1 200 10000 kt a cs ht hK.1 hK.2 (by decide) hr
  | _=>simp[keyT]at hK
theorem zip_all {f:Value→Value→Bool}:∀ {a b c d:List Value},a.length=c.length→((a++b).zip (c++d)).all (λp=>f p.1 p.2)=((a.zip c).all (λp=>f p.1 p.2)&&(b.zip d).all λp=>f p.1 p.2)
  | [],b,[],d,_=>rfl
  | [],_,_::_,_,h=>absurd h (by simp)
  | _::_,_,[],_,h=>absurd h (by simp)
  | x::a,b,y::c,d,h=>by
    have ih:=zip_all (f:=f) (a:=a) (b:=b) (c:=c) (d:=d) (by simpa using h)
    rw[List.cons_append,List.cons_append,List.zip_cons_cons,List.zip_cons_cons,List.all_cons,List.all_cons,ih,Bool.and_assoc]
theorem bits_main {S:Nat→Prop}{w:World}(n:Nat):∀ (T:Ty) (x y:Den T) (cs ds:List Value),keyP T=true→Rd S w T x cs→Rd S w T y ds→eqD T x y=true→cs.length=ds.length∧(cs.zip ds).all (λp=>Instr.sameBits n p.1 p.2)=true:=by
  intro T
  induction T with
  | int k=>
    intro x y cs ds _ hx hy h
    have hx:cs=[.int k x]:=hx
    have hy:ds=[.int k y]:=hy
    have h:x=y:=of_decide_eq_true h
    subst hx;subst hy;subst h
    refine⟨rfl,?_⟩
    unfold Instr.sameBits
    simp
  | bool=>
    intro x y cs ds _ hx hy h
    have hx:cs=[.bool x]:=hx
    have hy:ds=[.bool y]:=hy
    have h:x=y:=beq_iff_eq.1 h
    subst hx;subst hy;subst h
    refine⟨rfl,?_⟩
    unfold Instr.sameBits
    simp
  | str=>
    intro x y cs ds _ hx hy h
    have hx:cs=[.string x]:=hx
    have hy:ds=[.string y]:=hy
    have h:((x:ByteArray)==y)=true:=h
    have h:(x:ByteArray)=y:=by rw[ba_eqB]at h;exact of_decide_eq_true h
    subst hx;subst hy;subst h
    refine⟨rfl,?_⟩
    have hb:Instr.sameBits n (.string x) (.string x)=true:=by
      unfold Instr.sameBits
      cases n<;>exact h
    rw[List.zip_cons_cons,List.all_cons,hb];rfl
  | unit=>
    intro x y cs ds _ hx hy h
    have hx:cs=[]:=hx
    have hy:ds=[]:=hy
    subst hx;subst hy
    exact⟨rfl,rfl⟩
  | pair a b iha ihb=>
    intro x y cs ds hk hx hy h
    simp only[keyP,Bool.and_eq_true]at hk
    obtain⟨c1,c2,rfl,g1,g2⟩:=hx
    obtain⟨d1,d2,rfl,k1,k2⟩:=hy
    have h:(eqD a x.1 y.1&&eqD b x.2 y.2)=true:=h
    rw[Bool.and_eq_true]at h
    obtain⟨p1,p2⟩:=iha x.1 y.1 c1 d1 hk.1 g1 k1 h.1
    obtain⟨q1,q2⟩:=ihb x.2 y.2 c2 d2 hk.2 g2 k2 h.2
    refine⟨by rw[List.length_append,List.length_append,p1,q1],?_⟩
    rw[zip_all (f:=Instr.sameBits n) p1,p2,q2];rfl
  | _=>intro x y cs ds hk;simp[keyP]at hk
theorem sameBits_own {E:Env} {w:World} {K:Ty} {a b:Den K} {x y:Value} (hK:keyT K=true) (hx:V E w (.data K a) x) (hy:V E w (.data K b) y) (h:eqD K a b=true):Instr.sameBits 10000 y x=true:=by
  cases K with
  | int kd=>
    rw[V_int.1 hx,V_int.1 hy]
    have h:(a:Int)=b:=of_decide_eq_true h
    unfold Instr.sameBits
    simp only[beq_self_eq_true,Bool.true_and]
    exact beq_iff_eq.2 h.symm
  | bool=>
    rw[ycY.1 hx,ycY.1 hy]
    have h:(a:Bool)=b:=beq_iff_eq.1 h
    unfold Instr.sameBits
    exact beq_iff_eq.2 h.symm
  | str=>
    rw[V_str.1 hx,V_str.1 hy]
    have h:((a:ByteArray)==b)=true:=h
    have h2:(a:ByteArray)=b:=by rw[ba_eqB]at h;exact of_decide_eq_true h
    unfold Instr.sameBits
    rw[h2]
    rw[ba_eqB];exact decide_eq_true rfl
  | pair A B=>
    simp only[keyT,Bool.and_eq_true]at hK
    obtain⟨cs,rfl,hr⟩:=data_cells hx
    obtain⟨ds,rfl,hs⟩:=data_cells hy
    have key:∀ (T:Ty) (x y:Den T),keyP T=true→eqD T x y=true→eqD T y x=true:=by
      intro T
      induction T with
      | int k=>intro x y _ h;exact decide_eq_true (of_decide_eq_true h).symm
      | bool=>intro x y _ h;exact beq_iff_eq.2 (beq_iff_eq.1 h).symm
      | str=>
        intro x y _ h
        have h:((x:ByteArray)==y)=true:=h
        rw[ba_eqB]at h
        show ((y:ByteArray)==x)=true
        rw[ba_eqB];exact decide_eq_true (of_decide_eq_true h).symm
      | unit=>intro x y _ _;rfl
      | pair a b iha ihb=>
        intro x y hk h
        simp only[keyP,Bool.and_eq_true]at hk
        have h:(eqD a x.1 y.1&&eqD b x.2 y.2)=true:=h
        rw[Bool.and_eq_true]at h
        show (eqD a y.1 x.1&&eqD b y.2 x.2)=true
        rw[iha _ _ hk.1 h.1,ihb _ _ hk.2 h.2];rfl
      | _=>intro x y hk;simp[keyP]at hk
    obtain⟨p1,p2⟩:=bits_main 9999 (.pair A B) b a ds cs hK.1 hs hr (key _ _ _ hK.1 h)
    unfold Instr.sameBits
    simp only[ybl,Ty.agg,if_true,List.size_toArray,p1,beq_self_eq_true,Bool.true_and]
    exact p2
  | _=>simp[keyT]at hK
theorem findNow_own {E:Env} {w:World} {K V':Ty} {kt:TypeId} {kind:TypeDesc} {key:Den K} {kx:Value} (hK:atomT K=true) (ht:TyIs P K kt) (hk:P.underlying kt=some kind) (hx:V E w (.data K key) kx) :
    ∀ (l:List (Den K×Den V')) (es:List MapEntry) (j:Nat),MpL E w K V' l es →
      (Instr.findNow kind kx es j=some none∧mGet K V' l key=(dflt V',false)∧(∀ v,mSet K V' l key v=l++[(key,v)])) ∨
      ∃ j' v e,Instr.findNow kind kx es j=some (some (j+j',v))∧V E w (.data V' (mGet K V' l key).1) v∧(mGet K V' l key).2=true∧es[j']?=some e∧Instr.sameBits 10000 e.key kx=true ∧
        (∀ (v2:Den V') (x2:Value),V E w (.data V' v2) x2→MpL E w K V' (mSet K V' l key v2) (es.modify j' λe=>{ e with key:=kx,val:=x2 }))
  | [],es,j,h=>by
    rw[show es=[] from h]
    exact .inl ⟨rfl,rfl,λ_=>rfl⟩
  | p :: l,es,j,⟨e,r,h1,h2,h3,h4⟩=>by
    subst h1
    have hs:=sameNow_own hK ht hk hx h2
    unfold Instr.findNow mGet
    rw[hs]
    cases he:eqD K key p.1 with
    | true=>
      refine .inr ⟨0,e.val,e,rfl,?_,rfl,rfl,sameBits_own (atom_key hK) hx h2 he,λv2 x2 hv2 => ?_⟩
      · rw[if_pos rfl];exact h3
      · unfold mSet
        rw[he,if_pos rfl]
        exact⟨_,r,rfl,hx,hv2,h4⟩
    | false=>
      rcases findNow_own hK ht hk hx l r (j+1) h4 with ⟨g1,g2,g3⟩ | ⟨j',v,e',g1,g2,g3,g4,g5,g6⟩
      · refine .inl ⟨g1,?_,λv => ?_⟩
        · rw[if_neg (by decide)];exact g2
        · unfold mSet;rw[he,if_neg (by decide),g3];rfl
      · refine .inr ⟨j'+1,v,e',?_,?_,?_,by simpa using g4,g5,λv2 x2 hv2 => ?_⟩
        · rw[show j+(j'+1)=j+1+j' by omega];exact g1
        · rw[if_neg (by decide)];exact g2
        · rw[if_neg (by decide)];exact g3
        · unfold mSet
          rw[he,if_neg (by decide)]
          exact⟨e,_,rfl,h2,h3,g6 v2 x2 hv2⟩
theorem findAsk_own [Gl] {E:Env} {w:World} {K V':Ty} {kt:TypeId} {key:Den K} {kx:Value} (hK:keyT K=true) (hc:cmpT 200 K=true) (ht:TyIs P K kt) (hx:V E w (.data K key) kx) :
    ∀ (l:List (Den K×Den V')) (es:List MapEntry) (j:Nat),MpL E w K V' l es →
      ((Instr.findAsking kt kx es j).run P w = .ok none w∧mGet K V' l key=(dflt V',false)∧(∀ v,mSet K V' l key v=l++[(key,v)])) ∨
      ∃ j' v e,(Instr.findAsking kt kx es j).run P w = .ok (some (j+j',v)) w∧V E w (.data V' (mGet K V' l key).1) v∧(mGet K V' l key).2=true∧es[j']?=some e∧Instr.sameBits 10000 e.key kx=true ∧
        (∀ (v2:Den V') (x2:Value),V E w (.data V' v2) x2→MpL E w K V' (mSet K V' l key v2) (es.modify j' λe=>{ e with key:=kx,val:=x2 }))
  | [],es,j,h=>by
    rw[show es=[] from h]
    exact .inl ⟨rfl,rfl,λ_=>rfl⟩
  | p :: l,es,j,⟨e,r,h1,h2,h3,h4⟩=>by
    subst h1
    have hs:(Op.equal kt kx e.key).run P w = .ok (eqD K key p.1) w:=by
      obtain⟨cs,e1,g1⟩:=data_cells hx
      obtain⟨ds,e2,g2⟩:=data_cells h2
      rw[e1,e2]
      exact ((equal_main (P:=P) (S:=E.S) (w:=w) K).1 200 10000 kt key p.1 cs ds ht hc (by decide) g1 g2).1
    unfold Instr.findAsking mGet
    rw[Sem.run_bind,hs,Result.andThen_ok]
    cases he:eqD K key p.1 with
    | true=>
      refine .inr ⟨0,e.val,e,rfl,?_,rfl,rfl,sameBits_own hK hx h2 he,λv2 x2 hv2 => ?_⟩
      · rw[if_pos rfl];exact h3
      · unfold mSet
        rw[he,if_pos rfl]
        exact⟨_,r,rfl,hx,hv2,h4⟩
    | false=>
      rcases findAsk_own hK hc ht hx l r (j+1) h4 with ⟨g1,g2,g3⟩ | ⟨j',v,e',g1,g2,g3,g4,g5,g6⟩
      · refine .inl ⟨g1,?_,λv => ?_⟩
        · rw[if_neg (by decide)];exact g2
        · unfold mSet;rw[he,if_neg (by decide),g3];rfl
      · refine .inr ⟨j'+1,v,e',?_,?_,?_,by simpa using g4,g5,λv2 x2 hv2 => ?_⟩
        · rw[show j+(j'+1)=j+1+j' by omega];exact g1
        · rw[if_neg (by decide)];exact g2
        · rw[if_neg (by decide)];exact g3
        · unfold mSet
          rw[he,if_neg (by decide)]
          exact⟨e,_,rfl,h2,h3,g6 v2 x2 hv2⟩
def Found (P:Program) (E:Env) (w:World) (K V':Ty) (kt:TypeId) (key:Den K) (kx:Value) (l:List (Den K×Den V')) (es:List MapEntry):Prop:=
  ((Instr.findKey kt kx es).run P w = .ok none w∧mGet K V' l key=(dflt V',false)∧(∀ v,mSet K V' l key v=l++[(key,v)])) ∨
  ∃ j' v e,(Instr.findKey kt kx es).run P w = .ok (some (j',v)) w∧V E w (.data V' (mGet K V' l key).1) v∧(mGet K V' l key).2=true∧es[j']?=some e∧Instr.sameBits 10000 e.key kx=true ∧
    (∀ (v2:Den V') (x2:Value),V E w (.data V' v2) x2→MpL E w K V' (mSet K V' l key v2) (es.modify j' λe=>{ e with key:=kx,val:=x2 }))
theorem findAtom_own {E:Env}{w:World}{K V':Ty}{kt:TypeId}{kind:TypeDesc}{key:Den K}{kx:Value}(ha:atomT K=true)(ht:TyIs P K kt)(hk:P.underlying kt=some kind)(hx:V E w (.data K key) kx)(l:List (Den K×Den V'))(es:List MapEntry)(h:MpL E w K V' l es):Found P E w K V' kt key kx l es:=by
  rcases findNow_own ha ht hk hx l es 0 h with ⟨m1,m2,m3⟩ | ⟨j',v,e,m1,m2,m3,m4,m5,m6⟩
  · refine .inl ⟨?_,m2,m3⟩
    unfold Instr.findKey
    simp only[Sem.run_bind,run_underlying hk,Result.andThen_ok,m1,Sem.run_pure]
  · refine .inr ⟨j',v,e,?_,m2,m3,m4,m5,m6⟩
    unfold Instr.findKey
    simp only[Sem.run_bind,run_underlying hk,Result.andThen_ok,m1,Sem.run_pure,Nat.zero_add]
theorem findKey_own [Gl] {E:Env} {w:World} {K V':Ty} {kt:TypeId} {key:Den K} {kx:Value} (hK:keyT K=true) (ht:TyIs P K kt) (hx:V E w (.data K key) kx) (l:List (Den K×Den V')) (es:List MapEntry) (h:MpL E w K V' l es):Found P E w K V' kt key kx l es:=by
  obtain⟨kind,hk⟩:=und ht
  cases K with
  | int kd=>exact findAtom_own rfl ht hk hx l es h
  | bool=>exact findAtom_own rfl ht hk hx l es h
  | str=>exact findAtom_own rfl ht hk hx l es h
  | pair A B=>
    have hK2:=hK
    simp only[keyT,Bool.and_eq_true]at hK2
    have hz:=findAsk_own (V':=V') hK hK2.2 ht hx l es 0 h
    simp only[Nat.zero_add]at hz
    have hf:(Instr.findKey kt kx es).run P w=(Instr.findAsking kt kx es).run P w:=by
      unfold Instr.findKey
      cases es with
      | nil=>simp only[Sem.run_bind,run_underlying hk,Result.andThen_ok,Instr.findNow,Sem.run_pure];rfl
      | cons e es=>
        have hn:Instr.findNow kind kx (e::es) 0=none:=by
          obtain⟨cs,e1,_⟩:=data_cells hx
          obtain⟨⟨fs,h1,_⟩,_⟩:=ht
          rw[hk]at h1
          injection h1 with h1
          subst h1
          unfold Instr.findNow
          have:Instr.sameNow (.struct fs) kx e.key=none:=by unfold Instr.sameNow;rfl
          rw[this]
        simp only[Sem.run_bind,run_underlying hk,Result.andThen_ok,hn]
    unfold Found
    rw[hf]
    exact hz
  | _=>simp[keyT]at hK
theorem keyD_rd {E:Env} {w:World}:∀ (T:Ty) (v:AV) (x:Den T) (cs:List Value),keyD T v=some x→C E w v cs→Rd E.S w T x cs
  | .pair a b,.pr u v,x,cs,h,⟨c1,c2,e,h1,h2⟩=>by
    unfold keyD at h
    cases hu:keyD a u with
    | none=>rw[hu]at h;exact nomatch h
    | some x1=>
      cases hv:keyD b v with
      | none=>rw[hu,hv]at h;exact nomatch h
      | some x2=>
        rw[hu,hv]at h
        injection h with h
        subst h
        exact⟨c1,c2,e,keyD_rd a u x1 c1 hu h1,keyD_rd b v x2 c2 hv h2⟩
  | T,.data T' y,x,cs,h,hc=>by
    have h:(if h:T'=T then some (h ▸ y) else none)=some x:=by
      cases T<;>exact h
    split at h
    · rename_i e
      subst e
      injection h with h
      subst h
      exact hc
    · exact nomatch h
theorem keyD_agg:∀ (T:Ty) (v:AV) (x:Den T),keyD T v=some x→v.isAgg=T.agg
  | .pair a b,.pr u v,x,h=>rfl
  | T,.data T' y,x,h=>by
    have h:(if h:T'=T then some (h ▸ y) else none)=some x:=by
      cases T<;>exact h
    split at h
    · rename_i e;subst e;rfl
    · exact nomatch h
theorem keyD_V {E:Env}{w:World}{T:Ty}{v:AV}{x:Den T}{y:Value}(h:keyD T v=some x)(hv:V E w v y):V E w (.data T x) y:=by
  unfold V at hv ⊢
  rw[keyD_agg T v x h]at hv
  change (if T.agg=true then _ else _)
  split at hv
  · rename_i ha
    rw[if_pos ha]
    obtain⟨c,e,hc⟩:=hv
    exact⟨c,e,keyD_rd T v x _ h hc⟩
  · rename_i ha
    rw[if_neg ha]
    exact keyD_rd T v x _ h hv
theorem MpL.push {E:Env}{w:World}{K V':Ty}{kx vx:Value}{key:Den K}{v:Den V'}{n:Nat}(hx:V E w (.data K key) kx)(hv:V E w (.data V' v) vx):∀ (l:List (Den K×Den V')) (es:List MapEntry),MpL E w K V' l es→MpL E w K V' (l++[(key,v)]) (es++[{ key:=kx,val:=vx,born:=n }])
  | [],es,h=>by rw[show es=[] from h];exact⟨_,[],rfl,hx,hv,rfl⟩
  | _::l,_,⟨e,r,h1,h2,h3,h4⟩=>by subst h1;exact⟨e,_,rfl,h2,h3,MpL.push hx hv l r h4⟩
theorem stamp_push {es:List MapEntry}{ck:Nat}{a b:Value}(h:StampL es ck):StampL (es++[{ key:=a,val:=b,born:=ck }]) (ck+1):=by
  refine⟨λe he => ?_,?_⟩
  · rcases List.mem_append.1 he with he | he
    · have:=h.1 e he;omega
    · rw[show e=_ by simpa using he];exact Nat.lt_succ_self _
  · rw[List.pairwise_append]
    refine⟨h.2,List.pairwise_singleton _ _,λx hx y hy => ?_⟩
    rw[show y=_ by simpa using hy]
    have:=h.1 x hx
    show x.born≠ck
    omega
theorem stamp_modify {es:List MapEntry}{ck:Nat}{a b:Value}(h:StampL es ck)(j:Nat):StampL (es.modify j λe=>{ e with key:=a,val:=b }) ck:=by
  have hb:(es.modify j λe=>{ e with key:=a,val:=b }).map (λe=>e.born)=es.map λe=>e.born:=by
    apply List.ext_getElem?
    intro i
    rw[List.getElem?_map,List.getElem?_map,List.getElem?_modify]
    cases es[i]? with
    | none=>rfl
    | some e=>by_cases hij:j=i<;>simp[hij]
  have hm:∀ e∈es.modify j (λe=>{ e with key:=a,val:=b }),∃ x∈es,x.born=e.born:=λe he=>by
    have:e.born∈(es.modify j λe=>{ e with key:=a,val:=b }).map (λe=>e.born):=List.mem_map.2 ⟨e,he,rfl⟩
    rw[hb]at this
    exact List.mem_map.1 this
  refine⟨λe he => ?_,?_⟩
  · obtain⟨x,hx,e1⟩:=hm e he
    rw[← e1];exact h.1 x hx
  · have:=h.2
    have k:(es.map λe=>e.born).Pairwise (· ≠ ·):=List.pairwise_map.2 this
    rw[← hb]at k
    exact List.pairwise_map.1 k
theorem ydi {w:World}{b ck:Nat}{en:Array MapEntry}(h:w.heap[b]?=some (.map en ck)):(getObj b).run P w = .ok (.map en ck) w:=by
  simp[getObj,Sem.run,h]
theorem yd2 {w:World}{b ck:Nat}{en:Array MapEntry}(ob:Obj)(h:w.heap[b]?=some (.map en ck)):(setObj b ob).run P w = .ok () { w with heap:=w.heap.setIfInBounds b ob }:=by
  simp[setObj,Sem.run,h]
theorem wrMap {w:World}{b:Nat}{ob:Obj}:Wr w { w with heap:=w.heap.setIfInBounds b ob } b:=⟨rfl,rfl,rfl,rfl,by simp,λk hk=>by
  show (w.heap.setIfInBounds b ob)[k]?=_
  rw[Array.getElem?_setIfInBounds,if_neg (λe=>hk e.symm)]⟩
theorem mp_obj [Gl]{P0 S0:Nat→Prop}{E:Env}{w:World}{q:Nat}{K V':Ty}{l:List (Den K×Den V')}{x:Value}(hh:HREL P0 S0 E look w)(hl:look q = .live (.mp K V' l))(hx:V E w (.mp q K V') x) :
    ∃ b es ck,x = .map (some b)∧E.β q=some b∧E.L q=some ⟨.mp K V',0,0⟩∧w.heap[b]?=some (.map es ck)∧MpL E w K V' l es.toList∧StampL es.toList ck:=by
  have hent:=hh.ent q
  rw[hl]at hent
  obtain⟨_,b,es,ck,h1,h2,h3,h4⟩:=hent
  rw[V_one rfl]at hx
  obtain⟨a,e,hu,hL⟩:=hx
  injection e with e
  obtain⟨_,h5⟩:=hL _ h2
  rw[h1]at h5;injection h5 with h5;subst h5
  exact⟨b,es,ck,e,h1,h2,h3,h4⟩
theorem res_isAgg {look:Nat→Ent}{T:Ty}{v:AV}{x:Den T}{rs:List Nat}(h:res look T v=some (x,rs)):v.isAgg=T.agg:=by
  cases v with
  | data T' y=>
    simp only[res]at h
    split at h
    · rename_i e;subst e;rfl
    · exact absurd h (by simp)
  | nils e=>cases T with
    | slice e'=>rfl
    | _=>simp[res]at h
  | ow r e g=>cases T with
    | slice e'=>rfl
    | _=>simp[res]at h
  | pr a b=>cases T with
    | pair A B=>rfl
    | _=>simp[res]at h
  | _=>cases T<;>simp[res]at h
theorem ok_makeMap [Gl] {t:TypeId} {rs:Option Operand} (hT:TabOk P c.tab) (ho:o.op = .makeMap t rs) (h:aOp c o op look k=some r):∃ v RN WN,k v RN WN=some r∧Ok P c o op look v RN WN:=by
  cases rs with
  | some _=>exact absurd h (by unfold aOp;rw[ho];simp)
  | none=>
  have e:∀ (look:Nat→Ent) (R:Type) (k:Kont R),aOp c o op look k=match findT c.tab t with
    | some ⟨.mapT K V,_⟩=>fresh look o.dst λq=>k (.mp q K V) [] [(q,.live (.mp K V []))]
    | _=>none:=by
    intro look R k;unfold aOp;rw[ho];rfl
  rw[e]at h
  split at h
  · rename_i K V' eb ht
    obtain⟨q,hd,hq,h⟩:=ydZ h
    refine⟨_,_,_,h,⟨λP0 S0 E w ρ hh hv => ?_,λlook' hk R' k' => ?_⟩⟩
    · have g:Grow w { w with heap:=w.heap.push (.map #[] 0) } := .push _ _
      have hnew:=hh.new (q:=q) (b:=some w.heap.size) (L:=⟨.mp K V',0,0⟩) (o := .mp K V' []) hq g (λx hx=>by injection hx with hx;omega) ⟨w.heap.size,#[],0,by simp[Env.new],by simp[Env.new],by simp,rfl,λe he=>by simp at he,.nil⟩
      refine .inl ⟨.map (some w.heap.size),{ w with heap:=w.heap.push (.map #[] 0) },?_,_,hnew.1,hnew.2,?_⟩
      · unfold execOp;rw[ho]
        simp only[Option.map_none,Instr.makeMap,Sem.run_bind,Sem.run_pure,Result.andThen_ok,run_newObj]
      · rw[V_one rfl]
        exact⟨_,rfl,.inl rfl,λL hL=>by simp[Env.new]at hL;subst hL;exact⟨rfl,by simp[Env.new]⟩⟩
    · rw[e,ht]
      exact fresh_eq hd ((hk q (.inr (by simp))).trans hq)
  · exact absurd h (by simp)
theorem ok_lookupM [Gl] {t:TypeId} {x i:Operand} {ok:Bool} {q:Nat} {K0 V0:Ty} (hm:op x = .mp q K0 V0) (hT:TabOk P c.tab) (ho:o.op = .lookup t x i ok) (h:aOp c o op look k=some r):∃ v RN WN,k v RN WN=some r∧Ok P c o op look v RN WN:=by
  have e:∀ (look:Nat→Ent) (R:Type) (k:Kont R),aOp c o op look k=aLookupM c t q K0 V0 (op i) ok look k:=by
    intro look R k;unfold aOp;rw[ho];simp only[hm]
  rw[e]at h
  unfold aLookupM at h
  split at h
  · rename_i te ht
    obtain⟨htT,_⟩:=hT t te ht
    split at h
    · rename_i K2 V1 l hl
      split at h
      · rename_i hh0
        obtain⟨e0,e1⟩:=hh0
        subst e0;subst e1
        split at h
        · rename_i hTe
          split at h
          case h_2=>exact absurd h (by simp)
          rename_i key hkd
          obtain⟨hTe,hK⟩:=hTe
          rw[hTe]at htT
          obtain⟨⟨kt,vt,h1,h2,h3,h3z⟩,_⟩:=htT
          have main:∀ P0 S0 E w (ρ:Operand→Value),HREL P0 S0 E look w→(∀ x,V E w (op x) (ρ x))→∃ y,V E w (.data V1 (mGet K2 V1 l key).1) y∧(execOp ρ o).run P w = .ok (.value (if ok=true then .tuple #[y,.bool (mGet K2 V1 l key).2] else y)) w:=by
            intro P0 S0 E w ρ hh hv
            have hx:=hv x
            rw[hm]at hx
            obtain⟨b,es,ck,g1,g2,g3,g4,g5,_⟩:=mp_obj hh hl hx
            have hi':=keyD_V hkd (hv i)
            have hck:=checkKey_own (P:=P) hK h2 hi' es.isEmpty
            obtain⟨z,z1,z2,z3⟩:=run_zero (P:=P) (w:=w) h3
            have hz:V E w (.data V1 (dflt V1)) z:=by
              unfold V
              have hd:=Rd.dflt E.S w V1
              split
              · rename_i ha
                obtain⟨cs,rfl⟩:=z3 ha
                exact⟨cs,rfl,by rw[show cs.toList=zc V1 from z2];exact hd⟩
              · rename_i ha
                obtain⟨i0,i1,z',i2,i3⟩:=h3z (by simpa[AV.isAgg]using ha)
                have ez:z=z':=by
                  have:(zeroValue vt).run P w = .ok z' w:=by simp[zeroValue,run_typeInfo i1,i2]
                  rw[this]at z1
                  injection z1 with z1
                  exact z1.symm
                rw[ez]
                change Rd E.S w V1 (dflt V1) [z']
                rw[← i3];exact hd
            unfold execOp;rw[ho]
            rcases findKey_own (P:=P) hK h2 hi' l es.toList g5 with ⟨k1,k2,_⟩ | ⟨j',v,e',k1,k2,k3,_⟩
            · refine⟨z,by rw[k2];exact hz,?_⟩
              simp only[Instr.lookup,Sem.run_bind,run_underlying h1,Result.andThen_ok,g1,ydi g4,Sem.run_pure,hck,k1,z1,k2]
              try (cases ok<;>rfl)
            · refine⟨v,k2,?_⟩
              simp only[Instr.lookup,Sem.run_bind,run_underlying h1,Result.andThen_ok,g1,ydi g4,Sem.run_pure,hck,k1,k3]
              try (cases ok<;>rfl)
          cases ok with
          | true=>
            refine⟨_,_,_,h,.pure (λP0 S0 E w ρ hh hv => ?_) (λlook' hk R' k'=>by rw[e];unfold aLookupM;rw[ht];simp only[hk q (by simp),hl];simp[hTe,hK,hkd])⟩
            obtain⟨y,y1,y2⟩:=main P0 S0 E w ρ hh hv
            refine⟨_,y2,?_⟩
            rw[if_pos rfl,V_one rfl]
            refine⟨_,rfl,_,_,rfl,?_,_,_,rfl,?_,rfl⟩
            · exact y1
            · rw[if_neg (by simp[AV.isAgg,Ty.agg])];rfl
          | false=>
            refine⟨_,_,_,h,.pure (λP0 S0 E w ρ hh hv => ?_) (λlook' hk R' k'=>by rw[e];unfold aLookupM;rw[ht];simp only[hk q (by simp),hl];simp[hTe,hK,hkd])⟩
            obtain⟨y,y1,y2⟩:=main P0 S0 E w ρ hh hv
            exact⟨_,y2,y1⟩
        · exact absurd h (by simp)
      · exact absurd h (by simp)
    · exact absurd h (by simp)
  · exact absurd h (by simp)
theorem ok_update [Gl] {t:TypeId} {x i v:Operand} (hT:TabOk P c.tab) (ho:o.op = .mapUpdate t x i v∨o.op = .insert t x i v) (h:aOp c o op look k=some r):∃ v RN WN,k v RN WN=some r∧Ok P c o op look v RN WN:=by
  have e:∀ (look:Nat→Ent) (R:Type) (k:Kont R),aOp c o op look k=aUpdate c t (op x) (op i) (op v) look k:=by
    intro look R k
    rcases ho with ho | ho<;>(unfold aOp;rw[ho])
  have hexec:∀ {ρ:Operand→Value} {w w':World},(Instr.mapUpdate t (ρ x) (ρ i) (ρ v)).run P w = .ok () w'→(execOp ρ o).run P w = .ok .skip w':=by
    intro ρ w w' h1
    unfold execOp
    rcases ho with ho | ho<;>(rw[ho];simp only[Sem.run_bind,h1,Result.andThen_ok,Sem.run_pure])
  rw[e]at h
  unfold aUpdate at h
  split at h
  · rename_i te q K0 V0 ht hx
    obtain⟨htT,_⟩:=hT t te ht
    split at h
    · rename_i K2 V1 l hl
      split at h
      · rename_i hh0
        obtain⟨e0,e1⟩:=hh0
        subst e0;subst e1
        split at h
        · rename_i hTe
          split at h
          case h_2=>exact absurd h (by simp)
          rename_i key hkd
          obtain⟨hTe,hK⟩:=hTe
          rw[hTe]at htT
          obtain⟨⟨kt,vt,h1,h2,h3,h3z⟩,_⟩:=htT
          split at h
          · rename_i y rs hr
            refine⟨_,_,_,h,⟨λP0 S0 E w ρ hh hv => ?_,λlook' hk R' k' => ?_⟩⟩
            · obtain⟨E1,k1,k2,k3,k4,k5⟩:=HREL.shuts (look:=look) rs E look hh (λr _ => .inl rfl)
              have hq1:updL (Va.shut look rs) look q = .live (.mp K2 V1 l):=by
                have:∀ rs,updL (Va.shut look rs) look q=look q:=by
                  intro rs
                  induction rs with
                  | nil=>rfl
                  | cons a t ih=>
                    unfold Va.shut
                    split
                    · rename_i T l' hl'
                      rw[ycy,ycd _ _ (λhqa=>by rw[hqa,hl']at hl;exact absurd hl (by simp))];exact ih
                    · exact ih
                rw[this,hl]
              have hxv:=hv x
              rw[hx]at hxv
              have hiv:=keyD_V hkd (hv i)
              have hvv:=fixN_ok (T:=V1) (hv v)
              obtain⟨b,es,ck,g1,g2,g3,g4,g5,gs⟩:=mp_obj k1 hq1 (Va.V.ext k2 _ _ hxv)
              have hiv1:V E1 w (.data K2 key) (ρ i):=Va.V.ext k2 _ _ hiv
              have hval:V E1 w (.data V1 y) (ρ v):=by
                have hag:=res_isAgg hr
                unfold V at hvv ⊢
                rw[hag]at hvv
                change (if V1.agg=true then _ else _)
                split at hvv
                · rename_i ha
                  rw[if_pos ha]
                  obtain⟨cs,h5,h6⟩:=hvv
                  exact⟨cs,h5,res_rd V1 _ y rs _ E1 hh hr h6 k2 k5⟩
                · rename_i ha
                  rw[if_neg ha]
                  exact res_rd V1 _ y rs _ E1 hh hr hvv k2 k5
              have hck:=checkKey_own (P:=P) hK h2 hiv1 false
              have hlive:(updL (Va.shut look rs) look q).isLive=true:=by rw[hq1];rfl
              have hb:b<w.heap.size:=by
                rcases Nat.lt_or_ge b w.heap.size with hb | hb
                · exact hb
                · rw[Array.getElem?_eq_none hb]at g4;exact absurd g4 (by simp)
              rcases findKey_own (P:=P) hK h2 hiv1 l es.toList g5 with ⟨m1,m2,m3⟩ | ⟨j',v',e',m1,m2,m3,m4,m5,m6⟩
              · let w':World:={ w with heap:=w.heap.setIfInBounds b (.map (es.push { key:=ρ i,val:=ρ v,born:=ck }) (ck+1)) }
                have hw':w'.heap[b]?=some (.map (es.push { key:=ρ i,val:=ρ v,born:=ck }) (ck+1)):=by simp[w',hb]
                have hx':Ext P0 E1 w E1 w' := .wr wrMap (k1.sep q b hlive g2).1 (k1.sep q b hlive g2).2
                obtain⟨n1,n2⟩:=k1.write (w':=w') (o := .mp K2 V1 (mSet K2 V1 l key y)) hlive g2 wrMap ⟨b,_,_,g2,g3,hw',by
                  rw[m3,Array.toList_push]
                  exact⟨MpL.ext hx' _ _ (MpL.push hiv1 hval l _ g5),stamp_push gs⟩⟩
                refine .inr (.inl ⟨w',hexec ?_,E1,by rw[ycy];exact n1,k2.trans n2,.bad⟩)
                simp only[Instr.mapUpdate,Sem.run_bind,run_underlying h1,Result.andThen_ok,g1,ydi g4,hck,m1,Sem.run_pure]
                exact yd2 _ g4
              · let w':World:={ w with heap:=w.heap.setIfInBounds b (.map (es.modify j' λe=>{ e with key:=ρ i,val:=ρ v }) ck) }
                have hw':w'.heap[b]?=some (.map (es.modify j' λe=>{ e with key:=ρ i,val:=ρ v }) ck):=by simp[w',hb]
                have hx':Ext P0 E1 w E1 w' := .wr wrMap (k1.sep q b hlive g2).1 (k1.sep q b hlive g2).2
                obtain⟨n1,n2⟩:=k1.write (w':=w') (o := .mp K2 V1 (mSet K2 V1 l key y)) hlive g2 wrMap ⟨b,_,_,g2,g3,hw',by
                  rw[Array.toList_modify]
                  exact⟨MpL.ext hx' _ _ (m6 y (ρ v) hval),stamp_modify gs j'⟩⟩
                refine .inr (.inl ⟨w',hexec ?_,E1,by rw[ycy];exact n1,k2.trans n2,.bad⟩)
                have hget:((es[j']?).map (·.key)).getD (ρ i)=e'.key:=by
                  rw[← Array.getElem?_toList,m4];rfl
                simp only[Instr.mapUpdate,Sem.run_bind,run_underlying h1,Result.andThen_ok,g1,ydi g4,hck,m1,Sem.run_pure,Nat.zero_add,hget,Instr.keyThatStays,m5,if_true]
                exact yd2 _ g4
            · rw[e];unfold aUpdate;rw[ht,hx]
              simp only[hk q (.inl (by simp)),hl]
              have hr':=res_loc V1 _ y rs hr (look':=look') (λq' hq'=>hk q' (.inl (by simp[hq'])))
              have hs:=shut_loc (look:=look) (look':=look') rs (λq' hq'=>hk q' (.inl (by simp[hq'])))
              simp[hTe,hK,hkd,hr',hs]
          · exact absurd h (by simp)
        · exact absurd h (by simp)
      · exact absurd h (by simp)
    · exact absurd h (by simp)
  · exact absurd h (by simp)
end
end Go.Va
