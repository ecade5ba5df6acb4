/-
  Va, part 26: code.
-/
import Derived.Test.YtemhlkdingkjnaaGreatDoorVaCut
import Derived.LoopN
set_option linter.unusedVariables false
set_option linter.unusedSimpArgs false
namespace Go.Va
open Go
def cvt:Ex→Exit
  | .nrm => .normal
  | .ex id => .exit id
  | .ret => .ret
def Holds [Gl] {R:Type} (P:Program) (x:Ctx) (code:Code) (s:St) (k:KK R) (r:R):Prop:=
  ∀ P0 S0 E w a (Q:Exit→Act→World→Prop),REL P0 S0 E s a w→s.sl.length=x.len →
    (∀ e s' E' a' w',k e s'=some r→REL P0 S0 E' s' a' w'→s'.sl.length=x.len→Pub x.bn P0 E w E' w'→Q (cvt e) a' w')→code.wp P Q a w
def AC.Ok [Gl]{R:Type}(P:Program)(x:Ctx):AC R→Prop
  | .seq a b=>a.Ok P x∧b.Ok P x
  | .cond _ a b=>a.Ok P x∧b.Ok P x
  | .block _ b=>b.Ok P x
  | .cut c g run=>∀ v k r,run v k=some r→Holds P x c (frameOf x.len g v) k r
  | _=>True
section
variable {P:Program} {x:Ctx} {R:Type} {r:R}
theorem region_ok [Gl] (hm:P.follows .mixedOrders=true) (hT:TabOk P x.c.tab) (hΦ:∀ e∈x.c.Φ,EntryOk P e) {id:Nat} {ops:Array Oper} {d:Bool} {s:St} {k:KK R}
    (h:acRun x (.region id ops d) s k=some r):Holds P x (.region id ops d) s k r:=by
  intro P0 S0 E w a Q hr hl hQ
  simp only[acRun,force_eq]at h
  obtain⟨acs,s',h1,h2⟩:=aOps_chain hT hΦ _ _ _ h
  obtain⟨_,_,_,_,hlen⟩:=h1.at
  cases d with
  | false=>
    simp only[]at h2
    refine wp_region ?_
    rw[List.range_eq_range']
    refine chain_wp ops.toList 0 s acs s' E a w h1 (λj=>by rw[Nat.zero_add,Array.getElem?_toList]) hr (λE' a' w' hr' hx => ?_)
    exact hQ .nrm s' E' a' w' h2 hr' (hlen.trans hl) hx.pub
  | true=>
    simp only[]at h2
    split at h2
    · rename_i hc
      rw[Bool.and_eq_true]at hc
      refine wp_region_any hm ?_
      have hg:=Grow.draw w (w.drawn+1)
      refine any_wp (E0:=E) (w0:=w) hT hΦ h1 hc.1 (by simpa using hc.2) (λE' a' w' hr' hx=>hQ .nrm s' E' a' w' h2 hr' (hlen.trans hl) hx.pub) ops.size _ E a _ (by simp) ?_ ?_ ?_ (.grow hg)
      · unfold open_
        exact Nat.le_trans (List.length_filter_le _ _) (by simp)
      · intro i o ho hi
        have:(Array.replicate ops.size false).getD i false=false:=by
          rw[Array.getD_eq_getD_getElem?,Array.getElem?_replicate];split<;>rfl
        simp only[this]at hi;exact absurd hi (by simp)
      · have ez:∀ i,(Array.replicate ops.size false).getD i false=false:=λi=>by
          rw[Array.getD_eq_getD_getElem?,Array.getElem?_replicate];split<;>rfl
        have hnone:∀ {α:Type} (wr:Nat→Option α) (x0:α) (n:Nat),lastW wr (λi=>(Array.replicate ops.size false).getD i false) x0 n=x0:=by
          intro α wr x0 n
          induction n with
          | zero=>rfl
          | succ n ih=>
            simp only[lastW]
            rw[if_neg (by rw[ez];simp),ih]
        refine⟨?_,hr.s.len,?_,hr.d⟩
        · have:(λr=>lastW (wHl acs r) (λi=>(Array.replicate ops.size false).getD i false) (s.look r) ops.size)=s.look:=funext λr=>hnone _ _ _
          rw[this];exact hr.h.grow hg
        · intro t
          rw[hnone]
          exact V.ext (.grow (P0:=P0) hg) _ _ (hr.s.val t)
    · exact absurd h2 (by simp)
theorem acRun_ok [Gl] (hm:P.follows .mixedOrders=true) (hT:TabOk P x.c.tab) (hΦ:∀ e∈x.c.Φ,EntryOk P e):∀ (A:AC R),A.Ok P x→∀ (s:St) (k:KK R) (r:R),s.sl.length=x.len→acRun x A s k=some r→Holds P x A.code s k r
  | .skip,_,s,k,r,_,h=>λP0 S0 E w a Q hr hl hQ=>wp_skip (hQ .nrm s E a w (by simpa[acRun]using h) hr hl (.refl _ _ _ _))
  | .region id ops d,_,s,k,r,_,h=>region_ok hm hT hΦ h
  | .ret,_,s,k,r,hl,h=>λP0 S0 E w a Q hr _ hQ=>by
    simp only[acRun]at h
    exact wp_ret (hQ .ret s E a w h hr hl (.refl _ _ _ _))
  | .exit id,_,s,k,r,hl,h=>λP0 S0 E w a Q hr _ hQ=>by
    simp only[acRun]at h
    exact wp_exit (hQ (.ex id) s E a w h hr hl (.refl _ _ _ _))
  | .cut c g run,hk,s,k,r,hl,h=>λP0 S0 E w a Q hr _ hQ=>by
    simp only[acRun]at h
    obtain⟨v,h1,h2⟩:=cut_ok h
    rw[hl]at h2
    obtain⟨E',h3,h4⟩:=h2 P0 S0 E a w hr
    exact hk v k r h1 P0 S0 E' w a Q h3 (frame_len _ _ _) (λe s' E'' a' w' g1 g2 g3 g4=>hQ e s' E'' a' w' g1 g2 g3 (h4.trans g4))
  | .seq a b,⟨ka,kb⟩,s,k,r,hl,h=>λP0 S0 E w ac Q hr _ hQ=>by
    simp only[acRun]at h
    refine wp_seq (acRun_ok hm hT hΦ a ka s _ r hl h P0 S0 E w ac _ hr hl (λe s' E' a' w' g1 g2 g3 g4 => ?_))
    cases e with
    | nrm=>
      exact acRun_ok hm hT hΦ b kb s' k r g3 g1 P0 S0 E' w' a' Q g2 g3 (λe s' E'' a'' w'' m1 m2 m3 m4=>hQ e s' E'' a'' w'' m1 m2 m3 (g4.trans m4))
    | ex id=>exact hQ (.ex id) s' E' a' w' g1 g2 g3 g4
    | ret=>exact hQ .ret s' E' a' w' g1 g2 g3 g4
  | .cond (.tmp t) a b,⟨ka,kb⟩,s,k,r,hl,h=>λP0 S0 E w ac Q hr _ hQ=>by
    simp only[acRun]at h
    have known:branch s t (λs=>acRun x a s k) (λs=>acRun x b s k)=some r→(Code.cond (.tmp t) a.code b.code).wp P Q ac w:=by
      intro h
      obtain⟨bb,h1,h2⟩:=branch_some h
      have hv:=hr.s.val t
      rw[h1]at hv
      have hv:=ycY.1 hv
      have hev:ac.eval (.tmp t) = .bool bb:=by
        simp only[Act.eval]
        exact hv
      refine wp_cond hev ?_
      rcases h2 with ⟨rfl,h2⟩ | ⟨rfl,h2⟩
      · exact acRun_ok hm hT hΦ a ka s k r hl h2 P0 S0 E w ac Q hr hl hQ
      · exact acRun_ok hm hT hΦ b kb s k r hl h2 P0 S0 E w ac Q hr hl hQ
    unfold branchU at h
    simp only[ycN]at h
    split at h
    · rename_i cc neg h1
      have hv:=hr.s.val t
      rw[h1]at hv
      obtain⟨bb,hv,hbb⟩:=V_unk.1 hv
      have hev:ac.eval (.tmp t) = .bool bb:=by
        simp only[Act.eval]
        exact hv
      have hgo:(bb=true→acRun x a s k=some r)∧(bb=false→acRun x b s k=some r):=by
        split at h
        · obtain⟨g1,g2⟩:=bothC_some h
          exact⟨λ_=>g1,λ_=>g2⟩
        · rename_i hcc
          have hb:bb=neg:=hbb.resolve_right hcc
          subst hb
          split at h
          · rename_i hn;exact⟨λ_=>h,λhf=>by rw[hf]at hn;exact absurd hn (by simp)⟩
          · rename_i hn;exact⟨λhf=>absurd hf hn,λ_=>h⟩
      refine wp_cond hev ?_
      cases bb with
      | true=>exact acRun_ok hm hT hΦ a ka s k r hl (hgo.1 rfl) P0 S0 E w ac Q hr hl hQ
      | false=>exact acRun_ok hm hT hΦ b kb s k r hl (hgo.2 rfl) P0 S0 E w ac Q hr hl hQ
    · exact known h
  | .cond (.const _) a b,_,s,k,r,hl,h=>by simp[acRun]at h
  | .cond (.func _) a b,_,s,k,r,hl,h=>by simp[acRun]at h
  | .cond (.global _) a b,_,s,k,r,hl,h=>by simp[acRun]at h
  | .block id b,kb,s,k,r,hl,h=>λP0 S0 E w ac Q hr _ hQ=>by
    simp only[acRun]at h
    refine wp_block (acRun_ok hm hT hΦ b kb s _ r hl h P0 S0 E w ac _ hr hl (λe s' E' a' w' g1 g2 g3 g4 => ?_))
    cases e with
    | nrm=>exact hQ .nrm s' E' a' w' g1 g2 g3 g4
    | ret=>exact hQ .ret s' E' a' w' g1 g2 g3 g4
    | ex j=>
      simp only[blockK]at g1
      simp only[cvt,Exit.inBlock]
      split at g1
      · rename_i hj;rw[if_pos (by simpa using hj)];exact hQ .nrm s' E' a' w' g1 g2 g3 g4
      · rename_i hj;rw[if_neg (by simpa using hj)];exact hQ (.ex j) s' E' a' w' g1 g2 g3 g4
theorem runR_ok [Gl](hm:P.follows .mixedOrders=true)(hT:TabOk P x.c.tab)(hΦ:∀ e∈x.c.Φ,EntryOk P e){A:AC R}(hA:A.Ok P x){c:Code}(hc:A.code=c){g:List Si}:(AC.cut c g (λv k=>hideF (runR x A g v k))).Ok P x:=by
  intro v k r h
  simp only[yac]at h
  rw[← hc]
  exact acRun_ok hm hT hΦ A hA _ k r (frame_len _ _ _) h
theorem runL_ok [Gl] (hm:P.follows .mixedOrders=true) (hT:TabOk P x.c.tab) (hΦ:∀ e∈x.c.Φ,EntryOk P e) {A:AC R} (hA:A.Ok P x) {c:Code} (hc:Code.loop A.code=c) {g:List Si} (m:Nat):(AC.cut c g (λv k=>hideF (runL x A g m v k))).Ok P x:=by
  intro v k r h
  simp only[yac]at h
  revert h
  intro h P0 S0 E w a Q hr hl hQ
  rw[← hc]
  refine wp_loop_rounds m ?_
  have key:∀ m v E' w' a',runL x A g m v k=some r→REL P0 S0 E' (frameOf x.len g v) a' w'→Pub x.bn P0 E w E' w'→Code.rounds P A.code Q m a' w':=by
    intro m
    induction m with
    | zero=>intro v E' w' a' h;exact absurd h (by simp[runL])
    | succ m ih=>
      intro v E' w' a' h hr' hp
      rw[rounds_succ]
      refine acRun_ok hm hT hΦ A hA _ _ r (frame_len _ _ _) h P0 S0 E' w' a' _ hr' (frame_len _ _ _) (λe s' E'' a'' w'' g1 g2 g3 g4 => ?_)
      cases e with
      | nrm=>
        simp only[loopK]at g1
        obtain⟨v2,h1,h2⟩:=cut_ok g1
        rw[yac]at h1
        rw[g3]at h2
        obtain⟨E2,h3,h4⟩:=h2 P0 S0 E'' a'' w'' g2
        exact ih v2 E2 w'' a'' h1 h3 ((hp.trans g4).trans h4)
      | ex id=>exact hQ (.ex id) s' E'' a'' w'' g1 g2 g3 (hp.trans g4)
      | ret=>exact hQ .ret s' E'' a'' w'' g1 g2 g3 (hp.trans g4)
  exact key m v E w a h hr (.refl _ _ _ _)
theorem oc_ok [Gl]:∀ (c:Code),(oc R c).Ok P x
  | .skip=>trivial
  | .region _ _ _=>trivial
  | .seq a b=>⟨oc_ok a,oc_ok b⟩
  | .cond _ a b=>⟨oc_ok a,oc_ok b⟩
  | .block _ b=>oc_ok b
  | .exit _=>trivial
  | .ret=>trivial
  | .loop _=>trivial
  | .rangeFunc _ _ _ _=>trivial
  | .scope _=>trivial
  | .label _=>trivial
  | .goto _=>trivial
  | .refuse _=>trivial
end
end Go.Va
