/-
  Va, part 20b: own maps.
-/
import Derived.Test.YtemhlkdingkjnaaGreatDoorVaOps11b
set_option linter.unusedVariables false
set_option linter.unusedSimpArgs false
namespace Go.Va
open Go
section
variable {P:Program} {c:Cfg} {o:Oper} {op:Operand→AV} {look:Nat→Ent} {R:Type} {k:Kont R} {r:R}
theorem sameNow_own {E:Env}{w:World}{K:Ty}{kt:TypeId}{kind:TypeDesc}{a b:Den K}{x y:Value}(hK:keyT K=true)(ht:TyIs P K kt)(hk:P.underlying kt=some kind)(hx:V E w (.data K a) x)(hy:V E w (.data K b) y) :
    Instr.sameNow kind x y=some (eqD K a b):=by
  cases K with
  | int kd=>
    have h1:=ht.1
    rw[hk]at h1
    injection h1 with h1
    subst h1
    rw[V_int.1 hx,V_int.1 hy]
    simp only[Instr.sameNow,if_pos,eqD]
    refine congrArg some ?_
    by_cases h:(a:Int)=b
    · rw[decide_eq_true h];exact beq_iff_eq.2 h
    · rw[decide_eq_false h];exact beq_eq_false_iff_ne.2 h
  | bool=>
    have h1:=ht.1
    rw[hk]at h1
    injection h1 with h1
    subst h1
    rw[V_bool.1 hx,V_bool.1 hy]
    rfl
  | str=>
    have h1:=ht.1
    rw[hk]at h1
    injection h1 with h1
    subst h1
    rw[V_str.1 hx,V_str.1 hy]
    rfl
  | _=>simp[keyT]at hK
theorem checkKey_own {E:Env}{w:World}{K:Ty}{kt:TypeId}{a:Den K}{x:Value}(hK:keyT K=true)(ht:TyIs P K kt)(hx:V E w (.data K a) x)(b:Bool):(Instr.checkKey b 10000 kt x).run P w = .ok () w:=by
  unfold Instr.checkKey
  cases K with
  | int kd=>simp only[Sem.run_bind,run_underlying ht.1,Result.andThen_ok,Sem.run_pure]
  | bool=>simp only[Sem.run_bind,run_underlying ht.1,Result.andThen_ok,Sem.run_pure]
  | str=>simp only[Sem.run_bind,run_underlying ht.1,Result.andThen_ok,Sem.run_pure]
  | _=>simp[keyT]at hK
theorem sameBits_own {E:Env}{w:World}{K:Ty}{a b:Den K}{x y:Value}(hK:keyT K=true)(hx:V E w (.data K a) x)(hy:V E w (.data K b) y)(h:eqD K a b=true):Instr.sameBits 10000 y x=true:=by
  cases K with
  | int kd=>
    rw[V_int.1 hx,V_int.1 hy]
    have h:(a:Int)=b:=of_decide_eq_true h
    unfold Instr.sameBits
    simp only[beq_self_eq_true,Bool.true_and]
    exact beq_iff_eq.2 h.symm
  | bool=>
    rw[V_bool.1 hx,V_bool.1 hy]
    have h:(a:Bool)=b:=beq_iff_eq.1 h
    unfold Instr.sameBits
    exact beq_iff_eq.2 h.symm
  | str=>
    rw[V_str.1 hx,V_str.1 hy]
    have h:((a:ByteArray)==b)=true:=h
    have h2:(a:ByteArray)=b:=by rw[ba_eqB]at h;exact of_decide_eq_true h
    unfold Instr.sameBits
    rw[h2]
    rw[ba_eqB];exact decide_eq_true rfl
  | _=>simp[keyT]at hK
theorem findNow_own {E:Env} {w:World} {K V':Ty} {kt:TypeId} {kind:TypeDesc} {key:Den K} {kx:Value} (hK:keyT K=true) (ht:TyIs P K kt) (hk:P.underlying kt=some kind) (hx:V E w (.data K key) kx) :
    ∀ (l:List (Den K×Den V')) (es:List MapEntry) (j:Nat),MpL E w K V' l es →
      (Instr.findNow kind kx es j=some none∧mGet K V' l key=(dflt V',false)∧(∀ v,mSet K V' l key v=l++[(key,v)])) ∨
      ∃ j' v e,Instr.findNow kind kx es j=some (some (j+j',v))∧V E w (.data V' (mGet K V' l key).1) v∧(mGet K V' l key).2=true∧es[j']?=some e∧Instr.sameBits 10000 e.key kx=true ∧
        (∀ (v2:Den V') (x2:Value),V E w (.data V' v2) x2→MpL E w K V' (mSet K V' l key v2) (es.modify j' λe=>{ e with key:=kx,val:=x2 }))
  | [],es,j,h=>by
    rw[show es=[] from h]
    exact .inl ⟨rfl,rfl,λ_=>rfl⟩
  | p :: l,es,j,⟨e,r,h1,h2,h3,h4⟩=>by
    subst h1
    have hs:=sameNow_own hK ht hk hx h2
    unfold Instr.findNow mGet
    rw[hs]
    cases he:eqD K key p.1 with
    | true=>
      refine .inr ⟨0,e.val,e,rfl,?_,rfl,rfl,sameBits_own hK hx h2 he,λv2 x2 hv2 => ?_⟩
      · rw[if_pos rfl];exact h3
      · unfold mSet
        rw[he,if_pos rfl]
        exact⟨_,r,rfl,hx,hv2,h4⟩
    | false=>
      rcases findNow_own hK ht hk hx l r (j+1) h4 with ⟨g1,g2,g3⟩ | ⟨j',v,e',g1,g2,g3,g4,g5,g6⟩
      · refine .inl ⟨g1,?_,λv => ?_⟩
        · rw[if_neg (by decide)];exact g2
        · unfold mSet;rw[he,if_neg (by decide),g3];rfl
      · refine .inr ⟨j'+1,v,e',?_,?_,?_,by simpa using g4,g5,λv2 x2 hv2 => ?_⟩
        · rw[show j+(j'+1)=j+1+j' by omega];exact g1
        · rw[if_neg (by decide)];exact g2
        · rw[if_neg (by decide)];exact g3
        · unfold mSet
          rw[he,if_neg (by decide)]
          exact⟨e,_,rfl,h2,h3,g6 v2 x2 hv2⟩
theorem MpL.push {E:Env}{w:World}{K V':Ty}{kx vx:Value}{key:Den K}{v:Den V'}{n:Nat}(hx:V E w (.data K key) kx)(hv:V E w (.data V' v) vx):∀ (l:List (Den K×Den V')) (es:List MapEntry),MpL E w K V' l es→MpL E w K V' (l++[(key,v)]) (es++[{ key:=kx,val:=vx,born:=n }])
  | [],es,h=>by rw[show es=[] from h];exact⟨_,[],rfl,hx,hv,rfl⟩
  | _::l,_,⟨e,r,h1,h2,h3,h4⟩=>by subst h1;exact⟨e,_,rfl,h2,h3,MpL.push hx hv l r h4⟩
theorem run_getMap {w:World}{b ck:Nat}{en:Array MapEntry}(h:w.heap[b]?=some (.map en ck)):(getObj b).run P w = .ok (.map en ck) w:=by
  simp[getObj,Sem.run,h]
theorem run_setMap {w:World}{b ck:Nat}{en:Array MapEntry}(ob:Obj)(h:w.heap[b]?=some (.map en ck)):(setObj b ob).run P w = .ok () { w with heap:=w.heap.setIfInBounds b ob }:=by
  simp[setObj,Sem.run,h]
theorem wrMap {w:World}{b:Nat}{ob:Obj}:Wr w { w with heap:=w.heap.setIfInBounds b ob } b:=⟨rfl,rfl,rfl,rfl,by simp,λk hk=>by
  show (w.heap.setIfInBounds b ob)[k]?=_
  rw[Array.getElem?_setIfInBounds,if_neg (λe=>hk e.symm)]⟩
theorem mp_obj [Gl]{P0 S0:Nat→Prop}{E:Env}{w:World}{q:Nat}{K V':Ty}{l:List (Den K×Den V')}{x:Value}(hh:HREL P0 S0 E look w)(hl:look q = .live (.mp K V' l))(hx:V E w (.mp q K V') x) :
    ∃ b es ck,x = .map (some b)∧E.β q=some b∧E.L q=some ⟨.mp K V',0,0⟩∧w.heap[b]?=some (.map es ck)∧MpL E w K V' l es.toList:=by
  have hent:=hh.ent q
  rw[hl]at hent
  obtain⟨_,b,es,ck,h1,h2,h3,h4⟩:=hent
  rw[V_one rfl]at hx
  obtain⟨a,e,hu,hL⟩:=hx
  injection e with e
  obtain⟨_,h5⟩:=hL _ h2
  rw[h1]at h5;injection h5 with h5;subst h5
  exact⟨b,es,ck,e,h1,h2,h3,h4⟩
theorem res_isAgg {look:Nat→Ent}{T:Ty}{v:AV}{x:Den T}{rs:List Nat}(h:res look T v=some (x,rs)):v.isAgg=T.agg:=by
  cases v with
  | data T' y=>
    simp only[res]at h
    split at h
    · rename_i e;subst e;rfl
    · exact absurd h (by simp)
  | nils e=>cases T with
    | slice e'=>rfl
    | _=>simp[res]at h
  | ow r e g=>cases T with
    | slice e'=>rfl
    | _=>simp[res]at h
  | pr a b=>cases T with
    | pair A B=>rfl
    | _=>simp[res]at h
  | _=>cases T<;>simp[res]at h
theorem ok_makeMap [Gl] {t:TypeId} {rs:Option Operand} (hT:TabOk P c.tab) (ho:o.op = .makeMap t rs) (h:aOp c o op look k=some r):∃ v RN WN,k v RN WN=some r∧Ok P c o op look v RN WN:=by
  cases rs with
  | some _=>exact absurd h (by unfold aOp;rw[ho];simp)
  | none=>
  have e:∀ (look:Nat→Ent) (R:Type) (k:Kont R),aOp c o op look k=match findT c.tab t with
    | some ⟨.mapT K V,_⟩=>fresh look o.dst λq=>k (.mp q K V) [] [(q,.live (.mp K V []))]
    | _=>none:=by
    intro look R k;unfold aOp;rw[ho];rfl
  rw[e]at h
  split at h
  · rename_i K V' eb ht
    obtain⟨q,hd,hq,h⟩:=fresh_some h
    refine⟨_,_,_,h,⟨λP0 S0 E w ρ hh hv => ?_,λlook' hk R' k' => ?_⟩⟩
    · have g:Grow w { w with heap:=w.heap.push (.map #[] 0) } := .push _ _
      have hnew:=hh.new (q:=q) (b:=some w.heap.size) (L:=⟨.mp K V',0,0⟩) (o := .mp K V' []) hq g (λx hx=>by injection hx with hx;omega) ⟨w.heap.size,#[],0,by simp[Env.new],by simp[Env.new],by simp,rfl⟩
      refine .inl ⟨.map (some w.heap.size),{ w with heap:=w.heap.push (.map #[] 0) },?_,_,hnew.1,hnew.2,?_⟩
      · unfold execOp;rw[ho]
        simp only[Option.map_none,Instr.makeMap,Sem.run_bind,Sem.run_pure,Result.andThen_ok,run_newObj]
      · rw[V_one rfl]
        exact⟨_,rfl,.inl rfl,λL hL=>by simp[Env.new]at hL;subst hL;exact⟨rfl,by simp[Env.new]⟩⟩
    · rw[e,ht]
      exact fresh_eq hd ((hk q (.inr (by simp))).trans hq)
  · exact absurd h (by simp)
theorem ok_lookupM [Gl] {t:TypeId} {x i:Operand} {ok:Bool} {q:Nat} {K0 V0:Ty} (hm:op x = .mp q K0 V0) (hT:TabOk P c.tab) (ho:o.op = .lookup t x i ok) (h:aOp c o op look k=some r):∃ v RN WN,k v RN WN=some r∧Ok P c o op look v RN WN:=by
  have e:∀ (look:Nat→Ent) (R:Type) (k:Kont R),aOp c o op look k=aLookupM c t q K0 V0 (op i) ok look k:=by
    intro look R k;unfold aOp;rw[ho];simp only[hm]
  rw[e]at h
  unfold aLookupM at h
  split at h
  · rename_i te K2 key ht hi
    obtain⟨htT,_⟩:=hT t te ht
    split at h
    · rename_i K1 V1 l hl
      split at h
      · rename_i hh0
        obtain⟨⟨rfl,rfl⟩,rfl⟩:=hh0
        split at h
        · rename_i hTe
          obtain⟨hTe,hK⟩:=hTe
          rw[hTe]at htT
          obtain⟨⟨kt,vt,h1,h2,h3,h3z⟩,_⟩:=htT
          obtain⟨kind,hkind⟩:=und h2
          have main:∀ P0 S0 E w (ρ:Operand→Value),HREL P0 S0 E look w→(∀ x,V E w (op x) (ρ x))→∃ y,V E w (.data V1 (mGet K2 V1 l key).1) y∧(execOp ρ o).run P w = .ok (.value (if ok=true then .tuple #[y,.bool (mGet K2 V1 l key).2] else y)) w:=by
            intro P0 S0 E w ρ hh hv
            have hx:=hv x
            rw[hm]at hx
            obtain⟨b,es,ck,g1,g2,g3,g4,g5⟩:=mp_obj hh hl hx
            have hi':=hv i
            rw[hi]at hi'
            have hck:=checkKey_own (P:=P) hK h2 hi' es.isEmpty
            obtain⟨z,z1,z2,z3⟩:=run_zero (P:=P) (w:=w) h3
            have hz:V E w (.data V1 (dflt V1)) z:=by
              unfold V
              have hd:=Rd.dflt E.S w V1
              split
              · rename_i ha
                obtain⟨cs,rfl⟩:=z3 ha
                exact⟨cs,rfl,by rw[show cs.toList=zc V1 from z2];exact hd⟩
              · rename_i ha
                obtain⟨i0,i1,z',i2,i3⟩:=h3z (by simpa[AV.isAgg]using ha)
                have ez:z=z':=by
                  have:(zeroValue vt).run P w = .ok z' w:=by simp[zeroValue,run_typeInfo i1,i2]
                  rw[this]at z1
                  injection z1 with z1
                  exact z1.symm
                rw[ez]
                change Rd E.S w V1 (dflt V1) [z']
                rw[← i3];exact hd
            unfold execOp;rw[ho]
            rcases findNow_own (P:=P) hK h2 hkind hi' l es.toList 0 g5 with ⟨k1,k2,_⟩ | ⟨j',v,e',k1,k2,k3,_⟩
            · refine⟨z,by rw[k2];exact hz,?_⟩
              simp only[Instr.lookup,Sem.run_bind,run_underlying h1,Result.andThen_ok,g1,run_getMap g4,Sem.run_pure,hck,Instr.findKey,run_underlying hkind,k1,z1,k2]
              try (cases ok<;>rfl)
            · refine⟨v,k2,?_⟩
              simp only[Instr.lookup,Sem.run_bind,run_underlying h1,Result.andThen_ok,g1,run_getMap g4,Sem.run_pure,hck,Instr.findKey,run_underlying hkind,k1,k3]
              try (cases ok<;>rfl)
          cases ok with
          | true=>
            refine⟨_,_,_,h,.pure (λP0 S0 E w ρ hh hv => ?_) (λlook' hk R' k'=>by rw[e];unfold aLookupM;rw[ht,hi];simp only[hk q (by simp),hl];simp[hTe,hK])⟩
            obtain⟨y,y1,y2⟩:=main P0 S0 E w ρ hh hv
            refine⟨_,y2,?_⟩
            rw[if_pos rfl,V_one rfl]
            refine⟨_,rfl,_,_,rfl,?_,_,_,rfl,?_,rfl⟩
            · exact y1
            · rw[if_neg (by simp[AV.isAgg,Ty.agg])];rfl
          | false=>
            refine⟨_,_,_,h,.pure (λP0 S0 E w ρ hh hv => ?_) (λlook' hk R' k'=>by rw[e];unfold aLookupM;rw[ht,hi];simp only[hk q (by simp),hl];simp[hTe,hK])⟩
            obtain⟨y,y1,y2⟩:=main P0 S0 E w ρ hh hv
            exact⟨_,y2,y1⟩
        · exact absurd h (by simp)
      · exact absurd h (by simp)
    · exact absurd h (by simp)
  · exact absurd h (by simp)
theorem ok_update [Gl] {t:TypeId} {x i v:Operand} (hT:TabOk P c.tab) (ho:o.op = .mapUpdate t x i v∨o.op = .insert t x i v) (h:aOp c o op look k=some r):∃ v RN WN,k v RN WN=some r∧Ok P c o op look v RN WN:=by
  have e:∀ (look:Nat→Ent) (R:Type) (k:Kont R),aOp c o op look k=aUpdate c t (op x) (op i) (op v) look k:=by
    intro look R k
    rcases ho with ho | ho<;>(unfold aOp;rw[ho])
  have hexec:∀ {ρ:Operand→Value} {w w':World},(Instr.mapUpdate t (ρ x) (ρ i) (ρ v)).run P w = .ok () w'→(execOp ρ o).run P w = .ok .skip w':=by
    intro ρ w w' h1
    unfold execOp
    rcases ho with ho | ho<;>(rw[ho];simp only[Sem.run_bind,h1,Result.andThen_ok,Sem.run_pure])
  rw[e]at h
  unfold aUpdate at h
  split at h
  · rename_i te q K0 V0 K2 key ht hx hi
    obtain⟨htT,_⟩:=hT t te ht
    split at h
    · rename_i K1 V1 l hl
      split at h
      · rename_i hh0
        obtain⟨⟨rfl,rfl⟩,rfl⟩:=hh0
        split at h
        · rename_i hTe
          obtain⟨hTe,hK⟩:=hTe
          rw[hTe]at htT
          obtain⟨⟨kt,vt,h1,h2,h3,h3z⟩,_⟩:=htT
          obtain⟨kind,hkind⟩:=und h2
          split at h
          · rename_i y rs hr
            refine⟨_,_,_,h,⟨λP0 S0 E w ρ hh hv => ?_,λlook' hk R' k' => ?_⟩⟩
            · obtain⟨E1,k1,k2,k3,k4,k5⟩:=HREL.shuts (look:=look) rs E look hh (λr _ => .inl rfl)
              have hq1:updL (Va.shut look rs) look q = .live (.mp K2 V1 l):=by
                have:∀ rs,updL (Va.shut look rs) look q=look q:=by
                  intro rs
                  induction rs with
                  | nil=>rfl
                  | cons a t ih=>
                    unfold Va.shut
                    split
                    · rename_i T l' hl'
                      rw[updL_cons,upd1_ne _ _ (λhqa=>by rw[hqa,hl']at hl;exact absurd hl (by simp))];exact ih
                    · exact ih
                rw[this,hl]
              have hxv:=hv x
              rw[hx]at hxv
              have hiv:=hv i
              rw[hi]at hiv
              have hvv:=fixN_ok (T:=V1) (hv v)
              obtain⟨b,es,ck,g1,g2,g3,g4,g5⟩:=mp_obj k1 hq1 (Va.V.ext k2 _ _ hxv)
              have hiv1:V E1 w (.data K2 key) (ρ i):=Va.V.ext k2 _ _ hiv
              have hval:V E1 w (.data V1 y) (ρ v):=by
                have hag:=res_isAgg hr
                unfold V at hvv ⊢
                rw[hag]at hvv
                change (if V1.agg=true then _ else _)
                split at hvv
                · rename_i ha
                  rw[if_pos ha]
                  obtain⟨cs,h5,h6⟩:=hvv
                  exact⟨cs,h5,res_rd V1 _ y rs _ E1 hh hr h6 k2 k5⟩
                · rename_i ha
                  rw[if_neg ha]
                  exact res_rd V1 _ y rs _ E1 hh hr hvv k2 k5
              have hck:=checkKey_own (P:=P) hK h2 hiv1 false
              have hlive:(updL (Va.shut look rs) look q).isLive=true:=by rw[hq1];rfl
              have hb:b<w.heap.size:=by
                rcases Nat.lt_or_ge b w.heap.size with hb | hb
                · exact hb
                · rw[Array.getElem?_eq_none hb]at g4;exact absurd g4 (by simp)
              rcases findNow_own (P:=P) hK h2 hkind hiv1 l es.toList 0 g5 with ⟨m1,m2,m3⟩ | ⟨j',v',e',m1,m2,m3,m4,m5,m6⟩
              · let w':World:={ w with heap:=w.heap.setIfInBounds b (.map (es.push { key:=ρ i,val:=ρ v,born:=ck }) (ck+1)) }
                have hw':w'.heap[b]?=some (.map (es.push { key:=ρ i,val:=ρ v,born:=ck }) (ck+1)):=by simp[w',hb]
                have hx':Ext P0 E1 w E1 w' := .wr wrMap (k1.sep q b hlive g2).1 (k1.sep q b hlive g2).2
                obtain⟨n1,n2⟩:=k1.write (w':=w') (o := .mp K2 V1 (mSet K2 V1 l key y)) hlive g2 wrMap ⟨b,_,_,g2,g3,hw',by
                  rw[m3,Array.toList_push]
                  exact MpL.ext hx' _ _ (MpL.push hiv1 hval l _ g5)⟩
                refine .inr (.inl ⟨w',hexec ?_,E1,by rw[updL_cons];exact n1,k2.trans n2,.bad⟩)
                simp only[Instr.mapUpdate,Sem.run_bind,run_underlying h1,Result.andThen_ok,g1,run_getMap g4,hck,Instr.findKey,run_underlying hkind,m1,Sem.run_pure]
                exact run_setMap _ g4
              · let w':World:={ w with heap:=w.heap.setIfInBounds b (.map (es.modify j' λe=>{ e with key:=ρ i,val:=ρ v }) ck) }
                have hw':w'.heap[b]?=some (.map (es.modify j' λe=>{ e with key:=ρ i,val:=ρ v }) ck):=by simp[w',hb]
                have hx':Ext P0 E1 w E1 w' := .wr wrMap (k1.sep q b hlive g2).1 (k1.sep q b hlive g2).2
                obtain⟨n1,n2⟩:=k1.write (w':=w') (o := .mp K2 V1 (mSet K2 V1 l key y)) hlive g2 wrMap ⟨b,_,_,g2,g3,hw',by
                  rw[Array.toList_modify]
                  exact MpL.ext hx' _ _ (m6 y (ρ v) hval)⟩
                refine .inr (.inl ⟨w',hexec ?_,E1,by rw[updL_cons];exact n1,k2.trans n2,.bad⟩)
                have hget:((es[j']?).map (·.key)).getD (ρ i)=e'.key:=by
                  rw[← Array.getElem?_toList,m4];rfl
                simp only[Instr.mapUpdate,Sem.run_bind,run_underlying h1,Result.andThen_ok,g1,run_getMap g4,hck,Instr.findKey,run_underlying hkind,m1,Sem.run_pure,Nat.zero_add,hget,Instr.keyThatStays,m5,if_true]
                exact run_setMap _ g4
            · rw[e];unfold aUpdate;rw[ht,hx,hi]
              simp only[hk q (.inl (by simp)),hl]
              have hr':=res_loc V1 _ y rs hr (look':=look') (λq' hq'=>hk q' (.inl (by simp[hq'])))
              have hs:=shut_loc (look:=look) (look':=look') rs (λq' hq'=>hk q' (.inl (by simp[hq'])))
              simp[hTe,hK,hr',hs]
          · exact absurd h (by simp)
        · exact absurd h (by simp)
      · exact absurd h (by simp)
    · exact absurd h (by simp)
  · exact absurd h (by simp)
end
end Go.Va
