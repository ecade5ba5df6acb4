/-
  Va, part 21: structs and arrays built of parts; calls; all operations.
-/
import Derived.Test.YtemhlkdingkjnaaGreatDoorVaMap
set_option linter.unusedVariables false
set_option linter.unusedSimpArgs false
namespace Go.Va
open Go
section
variable {P:Program} {c:Cfg} {o:Oper} {op:Operand→AV} {look:Nat→Ent} {R:Type} {k:Kont R} {r:R}
theorem fields_ty:∀ (T:Ty) (fs:List Field) (off:Nat),(TF P T).2 fs off→∀ f∈fs,∃ T',TyIs P T' f.type:=by
  intro T
  induction T with
  | pair a b _ ihb=>
    intro fs off h f hf
    cases fs with
    | nil=>simp at hf
    | cons g fs=>
      obtain⟨_,_,h2,h3⟩:=h
      rcases List.mem_cons.1 hf with rfl | hf
      · exact⟨a,h2⟩
      · exact ihb fs _ h3 f hf
  | unit=>intro fs off h f hf;rw[show fs=[] from h]at hf;simp at hf
  | _=>intro fs off h;exact h.elim
theorem run_places {w:World}:∀ (fs:List Field),(∀ f∈fs,∃ T',TyIs P T' f.type) →
    ∃ ps:List (Nat×Nat),(fs.mapM (m:=Sem) λf=>do pure (f.offset,← sizeOf f.type)).run P w = .ok ps w∧ps.length=fs.length ∧
      ∀ (j:Nat) (f:Field) (T':Ty),fs[j]?=some f→TyIs P T' f.type→ps[j]?=some (f.offset,T'.sz)
  | [],_=>⟨[],rfl,rfl,by simp⟩
  | f :: fs,h=>by
    obtain⟨T',hT'⟩:=h f (by simp)
    obtain⟨ps,h1,h2,h3⟩:=run_places (w:=w) fs (λg hg=>h g (by simp[hg]))
    refine⟨(f.offset,T'.sz)::ps,?_,by simp[h2],?_⟩
    · rw[List.mapM_cons]
      simp only[Sem.run_bind,run_sizeOf hT',Sem.run_pure,Result.andThen_ok,h1]
    · intro j g T'' hg hT''
      cases j with
      | zero=>
        simp only[List.getElem?_cons_zero]at hg ⊢
        injection hg with hg;subst hg
        have e1:=run_sizeOf (P:=P) (w:=default) hT'
        have e2:=run_sizeOf (P:=P) (w:=default) hT''
        rw[e1]at e2
        injection e2 with e2
        rw[e2]
      | succ j=>simpa using h3 j g T'' (by simpa using hg) hT''
theorem fieldsTo_ok [Gl] {E:Env} {w:World} {ρ:Operand→Value} {T:Ty} {t:TypeId} {place:Nat→Option (Nat×Nat)} (htT:TyIs P T t) (hv:∀ x,V E w (op x) (ρ x))
    (hpl:∀ j T',tyT T [.f j]=some T'→∃ off,offT T [.f j]=some off∧place j=some (off,T'.sz)) :
    ∀ (ps:List (Nat×Operand)) (cv cv':AV) (cells:Array Value),fieldsTo op cv ps=some cv'→C E w cv cells.toList→cv.ty=some T →
      (∀ j x,(j,x)∈ps→∃ T',tyT T [.f j]=some T') →
      ∃ cells':Array Value,Instr.fill place cells (ps.map λp=>(p.1,ρ p.2))=some cells'∧C E w cv' cells'.toList∧cv'.ty=some T
  | [],cv,cv',cells,h,hc,ht,_=>by
    simp only[fieldsTo]at h;injection h with h;subst h
    exact⟨cells,rfl,hc,ht⟩
  | (j, x)::ps,cv,cv',cells,h,hc,ht,hty=>by
    obtain⟨T',hT'⟩:=hty j x (by simp)
    obtain⟨off,ho,hp⟩:=hpl j T' hT'
    simp only[fieldsTo]at h
    obtain⟨c1,c',c2,m1,m2,m3,m4,m5⟩:=focusA cv cells.toList [.f j] T off T' hc ht ho hT'
    split at h
    · rename_i old hold
      obtain⟨_,q2⟩:=m4 old hold
      rw[q2]at h
      simp only[]at h
      split at h
      · rename_i hvt
        split at h
        · rename_i cv1 hs
          have hvx:=fixN_ok (T:=T') (hv x)
          have hcx:=V_cells hvx hvt
          obtain⟨g1,g2⟩:=m5 _ _ _ hs hvt hcx
          have hsz:(ρ x).cells.size=T'.sz:=by rw[← Array.length_toList];exact C.length _ _ _ hcx hvt
          obtain⟨cells1,f1,f2⟩:=fill_one (place:=place) (rest:=ps.map λp=>(p.1,ρ p.2)) (cells:=cells) (v:=ρ x) hp hsz m1 m2 m3
          obtain⟨cells2,e1,e2,e3⟩:=fieldsTo_ok htT hv hpl ps cv1 cv' cells1 h (by rw[f2];exact g1) g2 (λj x hx=>hty j x (by simp[hx]))
          exact⟨cells2,by rw[List.map_cons,f1];exact e1,e2,e3⟩
        · exact absurd h (by simp)
      · exact absurd h (by simp)
    · exact absurd h (by simp)
theorem build_exec {t:TypeId}{ps:Array (Nat×Operand)}{ρ:Operand→Value}{w:World}{y:Value}(ho:o.op = .build t ps)(h:(Instr.build t (ps.map λ(i,x)=>(i,ρ x))).run P w = .ok y w) :
    (execOp ρ o).run P w = .ok (.value y) w:=by
  unfold execOp;rw[ho]
  simp only[Sem.run_bind,h,Result.andThen_ok,Sem.run_pure]
theorem ok_build [Gl] {t:TypeId} {ps:Array (Nat×Operand)} (hT:TabOk P c.tab) (ho:o.op = .build t ps) (h:aOp c o op look k=some r):∃ v RN WN,k v RN WN=some r∧Ok P c o op look v RN WN:=by
  have e:∀ (look:Nat→Ent) (R:Type) (k:Kont R),aOp c o op look k=match findT c.tab t with
    | some te=>match te.T with
      | .pair a b=>if (ps.toList.all λp=>(tyT (.pair a b) [.f p.1]).isSome)=true then
          match fieldsTo op (zeroAV (.pair a b)) ps.toList with
          | some v=>k v [] []
          | none=>none
        else none
      | .arr n e=>match parts look e op 0 ps.toList with
        | some (l,rs)=>if l.length≤n then k (.data (.arr n e) (l++List.replicate (n-l.length) (dflt e))) rs (shut look rs) else none
        | none=>none
      | _=>none
    | none=>none:=by
    intro look R k;unfold aOp;rw[ho];rfl
  have hmap:∀ ρ:Operand→Value,(ps.map λ(i,x)=>(i,ρ x)).toList=ps.toList.map λp=>(p.1,ρ p.2):=λρ=>by rw[Array.toList_map]
  rw[e]at h
  split at h
  · rename_i te ht
    obtain⟨htT,_⟩:=hT t _ ht
    split at h
    · rename_i a b hTe
      split at h
      · rename_i hall
        split at h
        · rename_i v hf
          refine⟨_,_,_,h,.pure (λP0 S0 E w ρ hh hv => ?_) (λlook' _ R' k'=>by rw[e,ht];simp only[hTe,if_pos hall,hf])⟩
          rw[hTe]at htT
          obtain⟨z,z1,z2,_⟩:=run_zero (P:=P) (w:=w) htT
          obtain⟨⟨fs,h1,h2,_⟩,_⟩:=id htT
          obtain⟨pl,p1,p2,p3⟩:=run_places (P:=P) (w:=w) fs.toList (fields_ty (.pair a b) _ 0 h2)
          have hpl:∀ j T',tyT (.pair a b) [.f j]=some T'→∃ off,offT (.pair a b) [.f j]=some off∧pl.toArray[j]?=some (off,T'.sz):=by
            intro j T' hj
            obtain⟨fs',f,off,q1,q2,q3,q4,q5⟩:=tyIs_struct htT hj
            rw[h1]at q1;injection q1 with q1;injection q1 with q1;subst q1
            refine⟨off,q3,?_⟩
            rw[List.getElem?_toArray,p3 j f T' (by simpa using q2) q5,q4]
          obtain⟨cells',f1,f2,f3⟩:=fieldsTo_ok (place:=(pl.toArray[·]?)) htT hv hpl ps.toList (zeroAV (.pair a b)) v z.cells hf (by rw[z2];exact (C.zero E w _).1) (C.zero E w _).2
            (λj x hx=>by
              have:=List.all_eq_true.1 hall (j,x) hx
              exact Option.isSome_iff_exists.1 this)
          refine⟨.agg cells',build_exec ho ?_,?_⟩
          · unfold Instr.build
            have hm:(fs.mapM (m:=Sem) λf=>do pure (f.offset,← sizeOf f.type)).run P w = .ok pl.toArray w:=by
              rw[Array.mapM_eq_mapM_toList]
              simp only[Sem.run_map,p1,Result.andThen_ok]
            simp only[Sem.run_bind,z1,Result.andThen_ok,run_underlying h1,hm,hmap,f1,Sem.run_pure]
          · rw[V_agg (by rw[isAgg_ty f3];rfl)]
            exact⟨cells',rfl,f2⟩
        · exact absurd h (by simp)
      · exact absurd h (by simp)
    · rename_i n ee hTe
      split at h
      · rename_i l rs hp
        split at h
        · rename_i hn
          refine⟨_,_,_,h,⟨λP0 S0 E w ρ hh hv => ?_,λlook' hk R' k' => ?_⟩⟩
          · rw[hTe]at htT
            obtain⟨z,z1,z2,_⟩:=run_zero (P:=P) (w:=w) htT
            obtain⟨⟨u,hu,huT⟩,_⟩:=id htT
            obtain⟨E1,k1,k2,_,_,k5⟩:=HREL.shuts (look:=look) rs E look hh (λr _ => .inl rfl)
            have hzl:(zc ee).length=ee.sz:=Rd.length (λ_=>True) w ee (Va.dflt ee) (zc ee) (Rd.dflt _ _ _)
            have hsplit:z.cells.toList=[]++(List.replicate l.length (zc ee)).flatten++(List.replicate (n-l.length) (zc ee)).flatten:=by
              rw[z2]
              simp only[zc,List.nil_append]
              rw[← List.flatten_append,List.replicate_append_replicate,Nat.add_sub_cancel' hn]
            obtain⟨cs,cells',g1,g2,g3⟩:=parts_ok hh hv k2 ps.toList 0 l rs z.cells [] _ _ hp k5 hsplit (by simp) (by simp[hzl])
            refine .inl ⟨.agg cells',w,build_exec ho ?_,E1,k1,k2,?_⟩
            · unfold Instr.build
              simp only[Sem.run_bind,z1,Result.andThen_ok,run_underlying hu,run_sizeOf huT,hmap,g2,Sem.run_pure]
            · rw[V_agg rfl]
              refine⟨cells',rfl,?_⟩
              rw[g3]
              refine⟨by simp;omega,?_⟩
              simp only[List.nil_append]
              exact RdL.append _ _ _ _ g1 (RdL.replicate (Rd.dflt _ _ _) _)
          · rw[e,ht]
            simp only[hTe,parts_loc _ _ _ _ hp (λq hq=>hk q (.inl hq)),if_pos hn,shut_loc _ (λq hq=>hk q (.inl hq))]
        · exact absurd h (by simp)
      · exact absurd h (by simp)
    · exact absurd h (by simp)
  · exact absurd h (by simp)
structure EntryOk [Gl](P:Program)(e:Entry):Prop where
  fn : ∃ f, P.funcs[e.fid]? = some f ∧ (f.name == "runtime.NumGoroutine") = false ∧ f.body.isNone = false
  run:∀ (R:Type) (n dst:Nat) (args:List AV) (look:Nat→Ent) (k:Kont R) (r:R),e.run n dst args look k=some r→∃ v RN WN,k v RN WN=some r ∧
    (∀ P0 S0 E w vals,HREL P0 S0 E look w→C E w (ycn args) vals→Calls P e.fid vals.toArray w λen w'=>∃ x,en = .returned x∧OpPost P0 S0 E look w v WN x w') ∧
    ∀ look',(∀ q,q∈RN∨q∈WN.map Prod.fst→look' q=look q)→∀ (R':Type) (k':Kont R'),e.run n dst args look' k'=k' v RN WN
theorem findE_mem {n dst f:Nat}{args:List AV}:∀ (Φ:List Entry),findE n dst f args look k Φ=some r→∃ e∈Φ,e.fid=f∧e.run n dst args look k=some r ∧
    ∀ (look':Nat→Ent) (R':Type) (k':Kont R'),findE n dst f args look' k' Φ=e.run n dst args look' k'
  | [],h=>by simp[findE]at h
  | e :: Φ,h=>by
    simp only[findE]at h
    split at h
    · rename_i he
      exact⟨e,by simp,by simpa using he,h,λlook' R' k'=>by simp only[findE,if_pos he]⟩
    · rename_i he
      obtain⟨e',h1,h2,h3,h4⟩:=findE_mem Φ h
      exact⟨e',by simp[h1],h2,h3,λlook' R' k'=>by simp only[findE,if_neg he];exact h4 look' R' k'⟩
theorem listAV_append {E:Env}{w:World}:∀ (l:List AV) (m:AV) (vs ms:List Value),C E w (ycn l) vs→C E w m ms→(∃ m',m=ycn m')→C E w (ycn (l++avList m)) (vs++ms)
  | [],m,vs,ms,h1,h2,⟨m',hm⟩=>by
    simp only[ycn,C]at h1;subst h1 hm
    have:∀ m':List AV,ycn (avList (ycn m'))=ycn m':=by
      intro m'
      induction m' with
      | nil=>rfl
      | cons a m' ih=>simp only[ycn,avList,ih]
    simpa[this]using h2
  | a::l,m,vs,ms,⟨x,vs',e,g1,g2⟩,h2,hm=>⟨x,vs'++ms,by simp[e],g1,listAV_append l m vs' ms g2 h2 hm⟩
theorem isList_eq:∀ (m:AV),ydN m=true→∃ m',m=ycn m'
  | .done,_=>⟨[],rfl⟩
  | .cons a b,h=>by
    obtain⟨m',rfl⟩:=isList_eq b h
    exact⟨a::m',rfl⟩
  | .bad,h=>by simp[ydN]at h
  | .data _ _,h=>by simp[ydN]at h
  | .nils _,h=>by simp[ydN]at h
  | .rp _ _,h=>by simp[ydN]at h
  | .cp _,h=>by simp[ydN]at h
  | .po _ _ _,h=>by simp[ydN]at h
  | .ow _ _ _,h=>by simp[ydN]at h
  | .oa _ _ _,h=>by simp[ydN]at h
  | .pr _ _,h=>by simp[ydN]at h
  | .fn _ _,h=>by simp[ydN]at h
  | .tup _,h=>by simp[ydN]at h
  | .unk _ _,h=>by simp[ydN]at h
  | .mp _ _ _,h=>by simp[ydN]at h
  | .fb _ _,h=>by simp[ydN]at h
theorem ok_call [Gl] {q:Call} {fo:Operand} (hΦ:∀ e∈c.Φ,EntryOk P e) (ho:o.op = .call q) (hq:q.callee = .value fo) (h:aOp c o op look k=some r):∃ v RN WN,k v RN WN=some r∧Ok P c o op look v RN WN:=by
  have e:∀ (look:Nat→Ent) (R:Type) (k:Kont R),aOp c o op look k=match op fo with
      | .fn f cs=>if ydN cs=true then findE c.n (o.dst.getD 0) f (q.args.toList.map op++avList cs) look k c.Φ else none
      | .fb f fi=>if ydN fi=true then findE c.n (o.dst.getD 0) f (avList fi++q.args.toList.map op) look k c.Φ else none
      | _=>none:=by
    intro look R k;unfold aOp;rw[ho];simp only[hq];rfl
  rw[e]at h
  split at h
  · rename_i f cs hf
    split at h
    · rename_i hil
      obtain⟨en,h1,h2,h3,h4⟩:=findE_mem c.Φ h
      obtain⟨⟨fn,f1,f2,f3⟩,hrun⟩:=hΦ en h1
      obtain⟨v,RN,WN,g1,g2,g3⟩:=hrun _ _ _ _ _ _ _ h3
      refine⟨v,RN,WN,g1,⟨λP0 S0 E w ρ hh hv => ?_,λlook' hk R' k' => ?_⟩⟩
      · have hfo:=hv fo
        rw[hf,V_one rfl]at hfo
        obtain⟨vs,he,hcs⟩:=hfo
        injection he with he _
        have hargs:=listAV_append _ cs _ _ (args_list hv q.args.toList) hcs (isList_eq cs hil)
        refine .inr (.inr ⟨f,(q.args.map ρ)++vs,w,?_,?_⟩)
        · unfold execOp;rw[ho]
          simp only[resolve,hq,Sem.run_bind,he,Deferred.ofValue,Sem.run_pure,Result.andThen_ok,invoke,callFunc,run_program]
          rw[← h2,f1]
          simp only[f2,f3,Bool.false_eq_true,if_false,Sem.run_pure]
          simp
        · have:=g2 P0 S0 E w _ hh hargs
          rw[h2]at this
          have ea:(q.args.toList.map ρ++vs.toList).toArray=q.args.map ρ++vs:=by
            apply Array.toList_inj.1;simp
          rw[ea]at this
          exact this
      · rw[e,hf]
        simp only[if_pos hil]
        rw[h4]
        exact g3 look' hk R' k'
    · exact absurd h (by simp)
  · rename_i f fi hf
    split at h
    · rename_i hil
      obtain⟨en,h1,h2,h3,h4⟩:=findE_mem c.Φ h
      obtain⟨⟨fn,f1,f2,f3⟩,hrun⟩:=hΦ en h1
      obtain⟨v,RN,WN,g1,g2,g3⟩:=hrun _ _ _ _ _ _ _ h3
      refine⟨v,RN,WN,g1,⟨λP0 S0 E w ρ hh hv => ?_,λlook' hk R' k' => ?_⟩⟩
      · have hfo:=hv fo
        rw[hf,V_one rfl]at hfo
        obtain⟨vs,he,hcs⟩:=hfo
        injection he with he _
        obtain⟨l,rfl⟩:=isList_eq fi hil
        have hlav:∀ l:List AV,avList (ycn l)=l:=by
          intro l
          induction l with
          | nil=>rfl
          | cons a l ih=>simp only[ycn,avList,ih]
        have hargs:=listAV_append l (ycn (q.args.toList.map op)) _ _ hcs (args_list hv q.args.toList) ⟨_,rfl⟩
        rw[hlav]at hargs
        rw[hlav]at g2
        refine .inr (.inr ⟨f,vs++(q.args.map ρ),w,?_,?_⟩)
        · unfold execOp;rw[ho]
          simp only[resolve,hq,Sem.run_bind,he,Deferred.ofValue,Sem.run_pure,Result.andThen_ok,invoke,callFunc,run_program]
          rw[← h2,f1]
          simp only[f2,f3,Bool.false_eq_true,if_false,Sem.run_pure]
          simp
        · have:=g2 P0 S0 E w _ hh hargs
          rw[h2]at this
          have ea:(vs.toList++q.args.toList.map ρ).toArray=vs++q.args.map ρ:=by
            apply Array.toList_inj.1;simp
          rw[ea]at this
          exact this
      · rw[e,hf]
        simp only[if_pos hil]
        rw[h4]
        exact g3 look' hk R' k'
    · exact absurd h (by simp)
  · exact absurd h (by simp)
theorem aOp_ok [Gl](hT:TabOk P c.tab)(hΦ:∀ e∈c.Φ,EntryOk P e)(h:aOp c o op look k=some r):∃ v RN WN,k v RN WN=some r∧Ok P c o op look v RN WN:=by
  cases ho:o.op with
  | move x=>exact ok_move (.inl ho) h
  | assign x=>exact ok_move (.inr ho) h
  | pick a b d=>exact ok_pick ho h
  | alloc t=>exact ok_alloc hT ho h
  | box t x=>exact ok_box hT ho h
  | build t ps=>exact ok_build hT ho h
  | buildSlice t n ps=>exact ok_buildSlice hT ho h
  | load t a=>exact ok_load hT ho h
  | store t a x=>exact ok_store hT ho h
  | nilCheck x=>exact ok_nilCheck ho h
  | binOp bo t x y t'=>exact ok_binOp hT ho h
  | unOp u t x=>exact ok_unOp ho h
  | convert s d x=>exact ok_convert hT ho h
  | makeFunc f fi ca=>exact ok_makeFunc ho h
  | makeSlice t l m=>exact ok_makeSlice hT ho h
  | slice t x lo hi mx=>
    cases hf:c.frz.elem (o.dst.getD 0) with
    | true=>exact ok_frz hT ho hf h
    | false=>exact ok_slice hT ho hf h
  | fieldAddr t x j=>exact ok_fieldAddr hT ho h
  | field t x j=>exact ok_field hT ho h
  | indexAddr t x i=>exact ok_indexAddr hT ho h
  | index t x i=>exact ok_index hT ho h
  | lookup t x i q=>
    by_cases hm:∃ r K V,op x = .mp r K V
    · obtain⟨r0,K0,V0,hm⟩:=hm
      exact ok_lookupM hm hT ho h
    · exact ok_lookup (λr K V hx=>hm ⟨r,K,V,hx⟩) hT ho h
  | makeMap t rs=>exact ok_makeMap hT ho h
  | mapUpdate t x i v=>exact ok_update hT (.inl ho) h
  | insert t x i v=>exact ok_update hT (.inr ho) h
  | extract x i=>exact ok_extract ho h
  | call q=>
    cases hq:q.callee with
    | value fo=>exact ok_call hΦ ho hq h
    | invoke rv m=>exact absurd h (by unfold aOp;rw[ho];simp[hq])
    | builtin b=>
      have e:aOp c o op look k=aBuiltin c b q.argTypes.toList o (q.args.toList.map op) look k:=by unfold aOp;rw[ho];simp only[hq]
      have h':=h
      rw[e]at h'
      unfold aBuiltin at h'
      split at h'
      · rename_i t t2 d s hts hargs;exact ok_append hT ho hq hargs hts h
      · rename_i t v hts hargs;exact ok_len hT ho hq hargs hts h
      · rename_i t q0 e0 x0 y0 hts hargs;exact ok_clear hT ho hq hargs hts h
      · rename_i t t2 q0 T p s hts hargs;exact ok_copy hT ho hq hargs hts h
      · rename_i ts kd x l hargs;exact ok_minmax (.inl rfl) ho hq hargs h
      · rename_i ts kd x l hargs;exact ok_minmax (.inr rfl) ho hq hargs h
      · exact absurd h' (by simp)
  | _=>exact absurd h (by unfold aOp;rw[ho];simp)
end
end Go.Va
