/-
  Va, part 10: operations (2: places of fields and elements, values out of them, numbers and texts).
-/
import Derived.Test.YtemhlkdingkjnaaGreatDoorVaOps1
import Derived.Lib.Strings
set_option linter.unusedVariables false
set_option linter.unusedSimpArgs false
namespace Go.Va
open Go
section
variable {P:Program} {c:Cfg} {o:Oper} {op:Operand→AV} {look:Nat→Ent} {R:Type} {k:Kont R} {r:R}
theorem getD_ty:∀ (T:Ty) (x:Den T) (p:List Stp) (v:AV),getD T x p=some v→∃ T' y,v = .data T' y∧tyT T p=some T':=by
  intro T
  induction T with
  | arr k e ih=>
    intro x p v h
    match p with
    | []=>rw[getD_nil]at h;injection h with h;exact⟨_,_,h.symm,tyT_nil _⟩
    | .f j::p=>simp[getD]at h
    | .i n::p=>simp only[getD]at h;simpa[tyT]using ih _ p v h
  | pair a b iha ihb=>
    intro x p v h
    match p with
    | []=>rw[getD_nil]at h;injection h with h;exact⟨_,_,h.symm,tyT_nil _⟩
    | .i n::p=>simp[getD]at h
    | .f 0::p=>simp only[getD]at h;simpa[tyT]using iha _ p v h
    | .f (j+1)::p=>simp only[getD]at h;simpa[tyT]using ihb _ (.f j::p) v h
  | _=>
    intro x p v h
    match p with
    | []=>rw[getD_nil]at h;injection h with h;exact⟨_,_,h.symm,tyT_nil _⟩
    | s::p=>simp[getD]at h
theorem run_fieldAt {t:TypeId}{j:Nat}{fs:Array Field}{f:Field}{T':Ty}{a:Addr}{w:World}(h1:P.underlying t=some (.struct fs))(h2:fs[j]?=some f)
    (h3:TyIs P T' f.type) (h4:T'.sz≠0):(Instr.fieldAt t (.pointer (some a)) j).run P w = .ok (.pointer (some (a.add f.offset))) w:=by
  unfold Instr.fieldAt
  rw[Sem.run_bind,run_underlying h1,Result.andThen_ok]
  simp only[h2]
  simp[Instr.sureAddr,fieldPlace,run_sizeOf h3,h4]
theorem ok_fieldAddr [Gl] {t:TypeId} {x:Operand} {j:Nat} (hT:TabOk P c.tab) (ho:o.op = .fieldAddr t x j) (h:aOp c o op look k=some r):∃ v RN WN,k v RN WN=some r∧Ok P c o op look v RN WN:=by
  have e:∀ (look:Nat→Ent) (R:Type) (k:Kont R),aOp c o op look k=match findT c.tab t with
    | some te=>match op x with
      | .po r l p=>if tyL l p=some te.T then match tyT te.T [.f j] with
          | some T'=>if T'.sz=0 then none else k (.po r l (p++[.f j])) [] []
          | none=>none
        else none
      | .rp T x=>if T=te.T then match getD T x [.f j] with
          | some (.data T' y)=>if T'.sz=0 then none else k (.rp T' y) [] []
          | _=>none
        else none
      | _=>none
    | none=>none:=by
    intro look R k;unfold aOp;rw[ho];rfl
  have er:∀ (ρ:Operand→Value) (w:World) (y:Value),(Instr.fieldAt t (ρ x) j).run P w = .ok y w→(execOp ρ o).run P w = .ok (.value y) w:=by
    intro ρ w y hy;unfold execOp;rw[ho];simp[hy]
  rw[e]at h
  split at h
  · rename_i te ht
    obtain⟨htT,_⟩:=hT t te ht
    split at h
    · rename_i q l p hx
      split at h
      · rename_i hty
        split at h
        · rename_i T' hT'
          split at h
          · exact absurd h (by simp)
          · rename_i hsz
            refine⟨_,_,_,h,.pure (λP0 S0 E w ρ hh hv => ?_) (λlook' _ R' k'=>by rw[e,ht];simp[hx,hty,hT',hsz])⟩
            have h1:=hv x
            rw[hx,V_one rfl]at h1
            obtain⟨a,he,hu,hk⟩:=h1
            injection he with he _
            obtain⟨fs,f,off,k1,k2,k3,k4,k5⟩:=tyIs_struct htT hT'
            refine⟨_,er ρ w _ (by rw[he];exact run_fieldAt k1 k2 k5 hsz),?_⟩
            rw[V_one rfl]
            refine⟨_,rfl,hu,λL hL => ?_⟩
            obtain⟨g1,b,off',g2,g3,g4⟩:=hk L hL
            refine⟨g1,b,off'+off,g2,offL_append hty g3 k3,?_⟩
            rw[g4,Addr.add_eq rfl,k4]
        · exact absurd h (by simp)
      · exact absurd h (by simp)
    · rename_i T d hx
      split at h
      · rename_i hTe;subst hTe
        split at h
        · rename_i T' y hg
          split at h
          · exact absurd h (by simp)
          · rename_i hsz
            refine⟨_,_,_,h,.pure (λP0 S0 E w ρ hh hv => ?_) (λlook' _ R' k'=>by rw[e,ht];simp[hx,hg,hsz])⟩
            have h1:=hv x
            rw[hx,V_one rfl]at h1
            obtain⟨ad,cells,he,hb,g1,g2⟩:=h1
            injection he with he _
            obtain⟨T2,y2,q1,hT'⟩:=getD_ty _ _ _ _ hg
            injection q1 with q1 q2;subst q1
            obtain⟨fs,f,off,k1,k2,k3,k4,k5⟩:=tyIs_struct htT hT'
            obtain⟨c1,c',c2,m1,m2,m3,m4,_⟩:=focusD (E:=E) (w:=w) te.T d cells [.f j] off T' g1 k3 hT'
            obtain⟨y',q3,q4⟩:=m4 _ hg
            refine⟨_,er ρ w _ (by rw[he];exact run_fieldAt k1 k2 k5 hsz),?_⟩
            rw[V_one rfl]
            injection q3 with _ q3
            rw[q3]
            rw[m1]at g2
            refine⟨_,c',rfl,by rw[Addr.add_eq g2.1];exact hb,q4,?_⟩
            rw[Addr.add_eq g2.1,k4,← m2]
            exact g2.part
        · exact absurd h (by simp)
      · exact absurd h (by simp)
    · exact absurd h (by simp)
  · exact absurd h (by simp)
theorem run_part {T':Ty}{u:TypeId}{c1 c' c2:List Value}{w:World}(h:TyIs P T' u)(hl:c'.length=T'.sz) :
    (part u (c1++c'++c2).toArray c1.length).run P w = .ok (ybl T' c') w:=by
  unfold part ybl
  rw[Sem.run_bind,run_isAgg h,Result.andThen_ok]
  cases ha:T'.agg with
  | true=>
    simp only[if_true]
    rw[Sem.run_bind,run_sizeOf h,Result.andThen_ok,← hl]
    simp
  | false=>
    have h1:=Ty.sz_one ha
    rw[h1]at hl
    match c',hl with
    | [x],_=>simp
theorem ok_field [Gl] {t:TypeId} {x:Operand} {j:Nat} (hT:TabOk P c.tab) (ho:o.op = .field t x j) (h:aOp c o op look k=some r):∃ v RN WN,k v RN WN=some r∧Ok P c o op look v RN WN:=by
  have e:∀ (look:Nat→Ent) (R:Type) (k:Kont R),aOp c o op look k=match findT c.tab t with
    | some te=>if (op x).ty=some te.T then match getA (op x) [.f j] with
        | some v=>match tyT te.T [.f j] with
          | some _=>k v [] []
          | none=>none
        | none=>none
      else none
    | none=>none:=by
    intro look R k;unfold aOp;rw[ho];rfl
  rw[e]at h
  split at h
  · rename_i te ht
    obtain⟨htT,_⟩:=hT t te ht
    split at h
    · rename_i hty
      split at h
      · rename_i v hg
        split at h
        · rename_i T' hT'
          refine⟨_,_,_,h,.pure (λP0 S0 E w ρ hh hv => ?_) (λlook' _ R' k'=>by rw[e,ht];simp[hty,hg,hT'])⟩
          have h1:=hv x
          have hagg:(op x).isAgg=true:=by
            rw[isAgg_ty hty];cases hte:te.T<;>rw[hte]at hT'<;>simp_all [tyT,Ty.agg]
          rw[V_agg hagg]at h1
          obtain⟨cs,he,hc⟩:=h1
          obtain⟨fs,f,off,k1,k2,k3,k4,k5⟩:=tyIs_struct htT hT'
          obtain⟨c1,c',c2,m1,m2,m3,m4,_⟩:=focusA (E:=E) (w:=w) (op x) cs.toList [.f j] te.T off T' hc hty k3 hT'
          obtain⟨q1,q2⟩:=m4 v hg
          refine⟨_,?_,V_ofCells q1 q2⟩
          unfold execOp;rw[ho]
          simp only[Instr.field]
          have ecs:cs=(c1++c'++c2).toArray:=by rw[← m1]
          simp only[Sem.run_bind,run_underlying k1,Result.andThen_ok,k2,he,asAgg,Sem.run_pure]
          rw[ecs,k4,← m2,run_part k5 m3]
          rfl
        · exact absurd h (by simp)
      · exact absurd h (by simp)
    · exact absurd h (by simp)
  · exact absurd h (by simp)
theorem HREL.freeze [Gl]{P0 S0:Nat→Prop}{E:Env}{look:Nat→Ent}{w:World}(h:HREL P0 S0 E look w){q:Nat}{T:Ty}{v:AV}(hq:look q = .live (.box T v)) :
    ∃ E',HREL P0 S0 E' (upd1 q .dead look) w∧Ext P0 E w E' w∧∀ x,V E w (.po q (.box T) []) x→V E' w (.cp v) x:=by
  have hent:=h.ent q
  rw[hq]at hent
  obtain⟨hu,b,cs,t,fr,h1,h2,h3,h4,h5,h6⟩:=hent
  have hlive:(look q).isLive=true:=by rw[hq];rfl
  have k1:=h.kill (q:=q) (by rw[hq];simp)
  obtain⟨k2,x2⟩:=k1.addS (b:=b) (λr hr hβ=>by
    by_cases hrq:r=q
    · subst hrq;rw[ycF]at hr;simp[Ent.isLive]at hr
    · rw[ycd _ _ hrq]at hr
      exact hrq (h.inj r q b hr hlive hβ h1)) (h.sep q b hlive h1).2 (by
    rcases Nat.lt_or_ge b w.heap.size with hh | hh
    · exact hh
    · rw[Array.getElem?_eq_none hh]at h3;exact absurd h3 (by simp))
  have hx:=(Ext.kill (P0:=P0) E w q).trans x2
  refine⟨_,k2,hx,λx hv => ?_⟩
  rw[V_one rfl]at hv ⊢
  obtain⟨a,ea,_,hk⟩:=hv
  obtain⟨_,b',off,g1,g2,g3⟩:=hk _ h2
  rw[h1]at g1
  injection g1 with g1
  simp only[offL,offT]at g2
  injection g2 with g2
  subst g1 g2 g3
  exact⟨_,cs.toList,ea,.inr rfl,C.ext hx _ _ h6,At.block (c1:=[]) (c2:=[]) h3 (by simp)⟩
theorem ok_clo [Gl] {f:FuncId} {first caps:Array Operand} (hf':first = #[]) (hz:c.frz.elem (o.dst.getD 0)=true) (e:∀ (look:Nat→Ent) (R:Type) (k:Kont R),aOp c o op look k=aClo f (caps.toList.map op) look k)
    (ho:o.op = .makeFunc (.func f) first caps) (h:aClo f (caps.toList.map op) look k=some r):∃ v RN WN,k v RN WN=some r∧Ok P c o op look v RN WN:=by
  unfold aClo at h
  split at h
  · rename_i q T hl
    split at h
    · rename_i T' v hq
      split at h
      · rename_i hT
        subst hT
        refine⟨_,_,_,h,⟨λP0 S0 E w ρ hh hv => ?_,λlook' hk R' k' => ?_⟩⟩
        · obtain⟨E',k1,k2,k3⟩:=hh.freeze hq
          have hc:∃ a,caps = #[a]∧op a = .po q (.box T') []:=by
            rcases caps with ⟨l⟩
            match l,hl with
            | [],hl=>simp at hl
            | [a],hl=>exact⟨a,rfl,by simpa using hl⟩
            | _::_::_,hl=>simp at hl
          obtain⟨a,rfl,ha⟩:=hc
          refine .inl ⟨.func (.func f) #[] #[ρ a],w,by unfold execOp;rw[ho];simp[hf',Instr.makeFunc],E',by rw[ycy,ydL];exact k1,k2,?_⟩
          rw[V_one rfl]
          have:=k3 _ (ha ▸ hv a)
          exact⟨#[ρ a],rfl,ρ a,[],rfl,this,rfl⟩
        · rw[e]
          unfold aClo
          rw[hl]
          simp only[hk q (.inr (by simp)),hq,if_pos]
      · exact absurd h (by simp)
    · exact absurd h (by simp)
  · exact absurd h (by simp)
theorem ok_makeFunc [Gl] {f:Fn} {first caps:Array Operand} (ho:o.op = .makeFunc f first caps) (h:aOp c o op look k=some r):∃ v RN WN,k v RN WN=some r∧Ok P c o op look v RN WN:=by
  cases f with
  | func f=>
    have e:∀ (look:Nat→Ent) (R:Type) (k:Kont R),aOp c o op look k=if first.size=0 then (match c.frz.elem (o.dst.getD 0) with | true=>aClo f (caps.toList.map op) look k | false=>k (.fn f (ycn (caps.toList.map op))) [] []) else if caps.size=0 then k (.fb f (ycn (first.toList.map op))) [] [] else none:=by
      intro look R k;unfold aOp;rw[ho];rfl
    rw[e]at h
    split at h
    · rename_i hf
      have hf':first = #[]:=by simpa using hf
      cases hz:c.frz.elem (o.dst.getD 0) with
      | true=>
       rw[hz]at h
       exact ok_clo hf' hz (λlook R k=>by rw[e,if_pos hf,hz]) ho h
      | false=>
      rw[hz]at h
      refine⟨_,_,_,h,.pure (λP0 S0 E w ρ hh hv => ?_) (λlook' _ R' k'=>by rw[e,if_pos hf,hz])⟩
      refine⟨.func (.func f) #[] (caps.map ρ),by unfold execOp;rw[ho];simp[hf',Instr.makeFunc],?_⟩
      rw[V_one rfl]
      refine⟨_,rfl,?_⟩
      rw[Array.toList_map]
      generalize caps.toList=l
      induction l with
      | nil=>rfl
      | cons a l ih=>exact⟨ρ a,l.map ρ,rfl,hv a,ih⟩
    · rename_i hf
      split at h
      · rename_i hc
        have hc':caps = #[]:=by simpa using hc
        refine⟨_,_,_,h,.pure (λP0 S0 E w ρ hh hv => ?_) (λlook' _ R' k'=>by rw[e,if_neg hf,if_pos hc])⟩
        refine⟨.func (.func f) (first.map ρ) #[],by unfold execOp;rw[ho];simp[hc',Instr.makeFunc],?_⟩
        rw[V_one rfl]
        refine⟨_,rfl,?_⟩
        rw[Array.toList_map]
        generalize first.toList=l
        induction l with
        | nil=>rfl
        | cons a l ih=>exact⟨ρ a,l.map ρ,rfl,hv a,ih⟩
      · exact absurd h (by simp)
  | _=>exact absurd h (by unfold aOp;rw[ho];simp)
theorem getD_eq {α:Type}(l:List α)(i:Nat)(d:α)(h:i<l.length):l.getD i d=l[i]:=by simp[List.getD,h]
theorem idx_lt (i:Int)(n:Nat)(h:0≤i∧i<(n:Int)):i.toNat<n:=by omega
theorem bt_eq [Gl](s:ByteArray)(i:Int)(h0:0≤i)(h1:i<(s.size:Int)):∃ b,s[i.toNat]?=some b∧(b.toNat:Int)=bt s i:=by
  have hn:i.toNat<s.size:=by omega
  refine⟨s[i.toNat],?_,?_⟩
  · simp[hn]
  · unfold bt
    have:s.data.toList.getD i.toNat 0=s[i.toNat]:=by
      rw[getD_eq _ _ _ (by simpa using hn)]
      rfl
    rw[this]
theorem ok_index [Gl] {t:TypeId} {x i:Operand} (hT:TabOk P c.tab) (ho:o.op = .index t x i) (h:aOp c o op look k=some r):∃ v RN WN,k v RN WN=some r∧Ok P c o op look v RN WN:=by
  have e:∀ (look:Nat→Ent) (R:Type) (k:Kont R),aOp c o op look k=aIndex c t (op x) (op i) k:=by
    intro look R k;unfold aOp;rw[ho]
  have er:∀ (ρ:Operand→Value) (w:World) (y:Value),(Instr.index t (ρ x) (ρ i)).run P w = .ok y w→(execOp ρ o).run P w = .ok (.value y) w:=by
    intro ρ w y hy;unfold execOp;rw[ho];simp[hy]
  rw[e]at h
  unfold aIndex at h
  split at h
  · rename_i te kd iv ht hi
    obtain⟨htT,_⟩:=hT t te ht
    split at h
    · rename_i s hx
      split at h
      · rename_i hTe
        rw[hTe]at htT
        split at h
        · rename_i hb
          refine⟨_,_,_,h,.pure (λP0 S0 E w ρ hh hv => ?_) (λlook' _ R' k'=>by rw[e];unfold aIndex;rw[ht,hi,hx];simp[hTe,hb])⟩
          have h1:=hv x
          rw[hx]at h1
          have h2:=hv i
          rw[hi]at h2
          rw[V_str]at h1
          rw[V_int]at h2
          obtain⟨b,q1,q2⟩:=bt_eq s iv hb.1 hb.2
          refine⟨.int .u8 (bt s iv),er ρ w _ ?_,V_int.2 rfl⟩
          unfold Instr.index
          rw[h1,h2]
          simp only[asIntOf,Sem.run_bind,Sem.run_pure,Result.andThen_ok,run_underlying htT.1,if_pos hb.1,q1,q2]
        · exact absurd h (by simp)
      · exact absurd h (by simp)
    · rename_i n ee l hx
      split at h
      · rename_i hTe
        rw[hTe]at htT
        split at h
        · rename_i hb
          refine⟨_,_,_,h,.pure (λP0 S0 E w ρ hh hv => ?_) (λlook' _ R' k'=>by rw[e];unfold aIndex;rw[ht,hi,hx];simp[hTe,hb])⟩
          have h1:=hv x
          rw[hx,V_agg rfl]at h1
          have h2:=hv i
          rw[hi,V_int]at h2
          obtain⟨cs,he,hl,hc⟩:=h1
          obtain⟨⟨u,hu,huT⟩,_⟩:=htT
          have hn:iv.toNat<List.length l:=by rw[hl];exact idx_lt _ _ hb
          obtain⟨c1,c',c2,m1,m2,m3,_,_⟩:=RdL.get (λx c=>Rd.length E.S w ee x c) l cs.toList hc iv.toNat hn
          refine⟨_,er ρ w _ ?_,V_ofCells (v := .data ee (List.getD l iv.toNat (dflt ee))) (T:=ee) (cs:=c') (by rw[getD_eq _ _ _ hn];exact m3) rfl⟩
          unfold Instr.index
          rw[he,h2]
          have ecs:cs=(c1++c'++c2).toArray:=by rw[← m1]
          simp only[asIntOf,Sem.run_bind,Sem.run_pure,Result.andThen_ok,run_underlying hu,if_pos hb,run_sizeOf huT]
          rw[ecs,← m2,run_part huT (Rd.length _ _ _ _ _ m3)]
        · exact absurd h (by simp)
      · exact absurd h (by simp)
    · exact absurd h (by simp)
  · exact absurd h (by simp)
theorem ba_eqB (a b:ByteArray):(a==b)=decide (a=b):=by
  change (a.data==b.data)=_
  by_cases h:a=b
  · subst h;simp
  · rw[decide_eq_false h]
    exact beq_false_of_ne (λe=>h (by cases a;cases b;exact congrArg _ e))
theorem eqS_ba (a b:ByteArray):eqS a b=(a==b):=by
  unfold eqS
  rw[Lib.toList_data,Lib.toList_data,ba_eqB]
  by_cases h:a=b
  · subst h;simp
  · rw[decide_eq_false h]
    exact beq_false_of_ne (λe=>h (by cases a;cases b;simp at e;rw[e]))
theorem findNow_str {s:ByteArray}:∀ (es:List MapEntry) (l:List (ByteArray×Int)) (j:Nat),es.map (λe=>(e.key,e.val))=l.map (λp=>(Value.string p.1,Value.int .i64 p.2)) →
    ∃ r,Instr.findNow .string (.string s) es j=some r∧(match r with | none=>smGet l s=(0,false) | some (_,v)=>v = .int .i64 (smGet l s).1∧(smGet l s).2=true)
  | [],[],j,_=>⟨none,rfl,rfl⟩
  | [],_::_,_,h=>by simp at h
  | _::_,[],_,h=>by simp at h
  | e :: es,p::l,j,h=>by
    simp only[List.map_cons,List.cons.injEq,Prod.mk.injEq]at h
    obtain⟨⟨h1,h2⟩,h3⟩:=h
    unfold Instr.findNow
    rw[h1]
    simp only[Instr.sameNow]
    unfold smGet
    have e1:=eqS_ba s p.1
    cases hq:(s==p.1)
    · obtain⟨r,g1,g2⟩:=findNow_str es l (j+1) h3
      rw[e1,hq]
      exact⟨r,g1,g2⟩
    · rw[e1,hq]
      exact⟨some (j,e.val),rfl,h2,rfl⟩
theorem run_lookup {t u v:TypeId}{l:List (ByteArray×Int)}{s:ByteArray}{ok:Bool}{x:Value}{w:World}{S:Nat→Prop}(h1:P.underlying t=some (.map u v))(h2:P.underlying u=some .string)
    (h3:∃ i,P.info? v=some i∧i.zero=some (.int .i64 0)) (hx:Rd S w .smap l [x]) :
    (Instr.lookup t x (.string s) ok).run P w = .ok (if ok=true then .tuple #[.int .i64 (smGet l s).1,.bool (smGet l s).2] else .int .i64 (smGet l s).1) w:=by
  obtain⟨i,h4,h5⟩:=h3
  have hz:(zeroValue v).run P w = .ok (.int .i64 0) w:=by simp[zeroValue,run_typeInfo h4,h5]
  have hck:∀ b,(Instr.checkKey b 10000 u (.string s)).run P w = .ok () w:=by
    intro b
    unfold Instr.checkKey
    simp only[Sem.run_bind,run_underlying h2,Result.andThen_ok,Sem.run_pure]
  have key:∀ es:List MapEntry,es.map (λe=>(e.key,e.val))=l.map (λp=>(Value.string p.1,Value.int .i64 p.2)) →
      ∃ r,(Instr.findKey u (.string s) es).run P w = .ok r w∧(match r with | none=>smGet l s=(0,false) | some (_,v)=>v = .int .i64 (smGet l s).1∧(smGet l s).2=true):=by
    intro es he
    obtain⟨r,g1,g2⟩:=findNow_str (s:=s) es l 0 he
    refine⟨r,?_,g2⟩
    unfold Instr.findKey
    simp only[Sem.run_bind,run_underlying h2,Result.andThen_ok,g1,Sem.run_pure]
  simp only[Rd]at hx
  unfold Instr.lookup
  rcases hx with ⟨rfl,hx⟩ | ⟨b,es,ck,hx,_,hb,he⟩
  · injection hx with hx
    subst hx
    obtain⟨r,g1,g2⟩:=key [] rfl
    simp only[Sem.run_bind,run_underlying h1,Result.andThen_ok,Sem.run_pure,hck]
    have g1':(Instr.findKey u (.string s) (#[]:Array MapEntry).toList).run P w = .ok r w:=g1
    simp only[g1',Result.andThen_ok]
    cases r with
    | none=>simp only[Sem.run_bind,hz,Result.andThen_ok,Sem.run_pure,g2];try cases ok<;>rfl
    | some p=>exact absurd g2.2 (by simp[smGet])
  · injection hx with hx
    subst hx
    obtain⟨r,g1,g2⟩:=key es.toList he
    have ho:(getObj b).run P w = .ok (.map es ck) w:=by
      unfold getObj;simp only[Sem.run,hb]
    simp only[Sem.run_bind,run_underlying h1,Result.andThen_ok,ho,Sem.run_pure,hck,g1]
    cases r with
    | none=>simp only[Sem.run_bind,hz,Result.andThen_ok,Sem.run_pure,g2];try cases ok<;>rfl
    | some p=>obtain⟨g2,g3⟩:=g2;simp only[Sem.run_pure,Result.andThen_ok,g2,g3];cases ok<;>rfl
theorem ok_lookup [Gl] {t:TypeId} {x i:Operand} {q:Bool} (hnm:∀ r K V,op x ≠ .mp r K V) (hT:TabOk P c.tab) (ho:o.op = .lookup t x i q) (h:aOp c o op look k=some r):∃ v RN WN,k v RN WN=some r∧Ok P c o op look v RN WN:=by
  have e:∀ (look:Nat→Ent) (R:Type) (k:Kont R),aOp c o op look k=aLookup c t (op x) (op i) q k:=by
    intro look R k;unfold aOp;rw[ho];simp only
  have er:∀ (ρ:Operand→Value) (w:World) (y:Value),(Instr.lookup t (ρ x) (ρ i) q).run P w = .ok y w→(execOp ρ o).run P w = .ok (.value y) w:=by
    intro ρ w y hy;unfold execOp;rw[ho];simp[hy]
  rw[e]at h
  unfold aLookup at h
  split at h
  · rename_i te l s ht hx hi
    obtain⟨htT,_⟩:=hT t te ht
    split at h
    · rename_i hTe
      rw[hTe]at htT
      obtain⟨⟨u,v,h1,h2,h3⟩,_⟩:=htT
      cases q with
      | true=>
        refine⟨_,_,_,h,.pure (λP0 S0 E w ρ hh hv => ?_) (λlook' _ R' k'=>by rw[e];unfold aLookup;rw[ht,hi,hx];simp[hTe])⟩
        have h4:=hv x
        rw[hx,V_one rfl]at h4
        have h5:=hv i
        rw[hi,V_str]at h5
        have h6:=run_lookup (s:=s) (ok:=true) h1 h2 h3 h4
        rw[← h5]at h6
        refine⟨_,er ρ w _ h6,?_⟩
        rw[if_pos rfl,V_one rfl]
        refine⟨_,rfl,_,_,rfl,?_,_,_,rfl,?_,rfl⟩
        · rw[if_neg (by simp[AV.isAgg,Ty.agg])];rfl
        · rw[if_neg (by simp[AV.isAgg,Ty.agg])];rfl
      | false=>
        refine⟨_,_,_,h,.pure (λP0 S0 E w ρ hh hv => ?_) (λlook' _ R' k'=>by rw[e];unfold aLookup;rw[ht,hi,hx];simp[hTe])⟩
        have h4:=hv x
        rw[hx,V_one rfl]at h4
        have h5:=hv i
        rw[hi,V_str]at h5
        have h6:=run_lookup (s:=s) (ok:=false) h1 h2 h3 h4
        rw[← h5]at h6
        exact⟨_,er ρ w _ h6,V_int.2 rfl⟩
    · exact absurd h (by simp)
  · exact absurd h (by simp)
theorem run_indexAt_slice {t u:TypeId}{e:Ty}{a:Addr}{n cap:Nat}{kd:IntKind}{i:Int}{w:World}(h1:P.underlying t=some (.slice u))(h2:TyIs P e u)(hb:0≤i∧i<(n:Int)) :
    (Instr.indexAt t (.slice (some a) n cap) (.int kd i)).run P w = .ok (.pointer (some (a.add (i.toNat*e.sz)))) w:=by
  unfold Instr.indexAt
  simp only[asIntOf,Sem.run_bind,Sem.run_pure,Result.andThen_ok,run_underlying h1,if_pos hb,run_sizeOf h2]
theorem run_indexAt_arr {t u:TypeId}{e:Ty}{a:Addr}{n:Nat}{kd:IntKind}{i:Int}{w:World}(h1:P.underlying t=some (.array n u))(h2:TyIs P e u)(hb:0≤i∧i<(n:Int)) :
    (Instr.indexAt t (.pointer (some a)) (.int kd i)).run P w = .ok (.pointer (some (a.add (i.toNat*e.sz)))) w:=by
  unfold Instr.indexAt
  simp only[asIntOf,Sem.run_bind,Sem.run_pure,Result.andThen_ok,run_underlying h1,Instr.sureAddr,if_pos hb,run_sizeOf h2]
theorem ok_indexAddr [Gl] {t:TypeId} {x i:Operand} (hT:TabOk P c.tab) (ho:o.op = .indexAddr t x i) (h:aOp c o op look k=some r):∃ v RN WN,k v RN WN=some r∧Ok P c o op look v RN WN:=by
  have e:∀ (look:Nat→Ent) (R:Type) (k:Kont R),aOp c o op look k=ydz c t (op x) (op i) look k:=by
    intro look R k;unfold aOp;rw[ho]
  have er:∀ (ρ:Operand→Value) (w:World) (y:Value),(Instr.indexAt t (ρ x) (ρ i)).run P w = .ok y w→(execOp ρ o).run P w = .ok (.value y) w:=by
    intro ρ w y hy;unfold execOp;rw[ho];simp[hy]
  -- a row's element
  have hrow:∀ (P0 S0:Nat→Prop) (E:Env) (w:World) (ρ:Operand→Value) (te:TE) (q:Nat) (ee:Ty) (l:List (Den ee)) (rng:Option (Nat×Nat)) (kd:IntKind) (iv:Int),
      TyIs P te.T t→te.T = .slice ee→HREL P0 S0 E look w→OREL E w q (.row ee l)→V E w (.ow q ee rng) (ρ x)→V E w (.data (.int kd) iv) (ρ i) →
      0≤iv∧iv<(((rngOf l.length rng).2:Nat):Int) →
      ∃ y,(execOp ρ o).run P w = .ok (.value y) w∧V E w (.po q (.row ee) [.i ((rngOf l.length rng).1+iv.toNat)]) y:=by
    intro P0 S0 E w ρ te q ee l rng kd iv htT hTe hh hO h1 h2 hb
    rw[hTe]at htT
    obtain⟨⟨u,hu,huT⟩,_⟩:=htT
    rw[V_int]at h2
    rw[V_one rfl]at h1
    obtain⟨a,len,cap,he,hU,hk⟩:=h1
    injection he with he _
    obtain⟨N,hL,hO2⟩:=id hO
    obtain⟨g1,lo,g2,g3,g4⟩:=hk _ hL
    have e1:rngOf l.length rng=(lo,len):=by
      cases rng with
      | none=>obtain⟨rfl,rfl⟩:=g2;rfl
      | some p=>obtain⟨rfl,rfl⟩:=g2;rfl
    rw[e1]at hb ⊢
    simp only at hb g3 ⊢
    have hlt:=idx_lt _ _ hb
    cases hβ:E.β q with
    | none=>
      rw[hβ]at hO2
      simp only at hO2
      subst hO2
      simp at g3;omega
    | some b=>
      rw[hβ]at g4
      obtain⟨ha,g5,_⟩:=g4
      have ha:=ha.resolve_left (by omega)
      refine⟨_,er ρ w _ (by rw[he,h2,ha];exact run_indexAt_slice hu huT hb),?_⟩
      rw[V_one rfl]
      refine⟨_,rfl,hU,λL hL' => ?_⟩
      rw[hL]at hL'; injection hL' with hL'; subst hL'
      refine⟨rfl,b,(lo+iv.toNat)*ee.sz,hβ,?_,?_⟩
      · simp only[offL]
        rw[if_pos (by omega),offT_nil]
        simp
      · rw[Addr.add_eq rfl]
        simp[Nat.add_mul]
  rw[e]at h
  unfold ydz at h
  split at h
  · rename_i te kd iv ht hi
    obtain⟨htT,_⟩:=hT t te ht
    split at h
    · rename_i ee l hx
      split at h
      · rename_i hTe
        split at h
        · rename_i hb
          refine⟨_,_,_,h,.pure (λP0 S0 E w ρ hh hv => ?_) (λlook' _ R' k'=>by rw[e];unfold ydz;rw[ht,hi,hx];simp[hTe,hb])⟩
          have h1:=hv x
          rw[hx]at h1
          have h2:=hv i
          rw[hi,V_int]at h2
          rw[V_slice]at h1
          obtain⟨a,cap,he,hcap,hd⟩:=h1
          have hn:=idx_lt _ _ hb
          rcases hd with hd | ⟨ad,rfl,hS,cells,g1,g2⟩
          · rw[hd]at hn;simp at hn
          · rw[hTe]at htT
            obtain⟨⟨u,hu,huT⟩,_⟩:=htT
            obtain⟨c1,c',c2,m1,m2,m3,_,_⟩:=RdL.get (λx c=>Rd.length E.S w ee x c) l cells g1 iv.toNat hn
            refine⟨_,er ρ w _ (by rw[he,h2];exact run_indexAt_slice hu huT hb),?_⟩
            rw[V_one rfl]
            rw[m1]at g2
            refine⟨_,c',rfl,by rw[Addr.add_eq g2.1];exact hS,by rw[getD_eq _ _ _ hn];exact m3,?_⟩
            rw[Addr.add_eq g2.1,← m2]
            exact g2.part
        · exact absurd h (by simp)
      · exact absurd h (by simp)
    · rename_i q ee rng hx
      split at h
      · rename_i e1 l hl
        split at h
        · rename_i hTe
          obtain⟨hTe,he1⟩:=hTe
          subst he1
          split at h
          · rename_i hb
            refine⟨_,_,_,h,.pure (λP0 S0 E w ρ hh hv => ?_) (λlook' hk R' k'=>by rw[e];unfold ydz;rw[ht,hi,hx];simp[hTe,hb,hk q (by simp),hl])⟩
            have h1:=hv x
            rw[hx]at h1
            have h2:=hv i
            rw[hi]at h2
            have hent:=hh.ent q
            rw[hl]at hent
            exact hrow P0 S0 E w ρ te q _ l rng kd iv htT hTe hh hent.2 h1 h2 hb
          · exact absurd h (by simp)
        · exact absurd h (by simp)
      · rename_i e1 l hl
        split at h
        · rename_i hTe
          obtain⟨hTe,he1⟩:=hTe
          subst he1
          split at h
          · rename_i hb
            refine⟨_,_,_,h,.pure (λP0 S0 E w ρ hh hv => ?_) (λlook' hk R' k'=>by rw[e];unfold ydz;rw[ht,hi,hx];simp[hTe,hb,hk q (by simp),hl])⟩
            have h1:=hv x
            rw[hx]at h1
            have h2:=hv i
            rw[hi]at h2
            have hent:=hh.ent q
            rw[hl]at hent
            exact hrow P0 S0 E w ρ te q _ l rng kd iv htT hTe hh hent.2.1 h1 h2 hb
          · exact absurd h (by simp)
        · exact absurd h (by simp)
      · exact absurd h (by simp)
    · rename_i q l p hx
      split at h
      · rename_i n ee hty
        split at h
        · rename_i hTe
          split at h
          · rename_i hb
            refine⟨_,_,_,h,.pure (λP0 S0 E w ρ hh hv => ?_) (λlook' hk R' k'=>by rw[e];unfold ydz;rw[ht,hi,hx];simp[hTe,hb,hty])⟩
            have h1:=hv x
            rw[hx,V_one rfl]at h1
            have h2:=hv i
            rw[hi,V_int]at h2
            rw[hTe]at htT
            obtain⟨⟨u,hu,huT⟩,_⟩:=htT
            obtain⟨a,he,hU,hk⟩:=h1
            injection he with he _
            refine⟨_,er ρ w _ (by rw[he,h2];exact run_indexAt_arr hu huT hb),?_⟩
            rw[V_one rfl]
            refine⟨_,rfl,hU,λL hL => ?_⟩
            obtain⟨g1,b,off',g2,g3,g4⟩:=hk L hL
            have hlt:=idx_lt _ _ hb
            refine⟨g1,b,off'+(iv.toNat*ee.sz+0),g2,offL_append hty g3 (by simp only[offT];rw[if_pos hlt];rfl),?_⟩
            rw[g4,Addr.add_eq rfl]
            rfl
          · exact absurd h (by simp)
        · exact absurd h (by simp)
      · exact absurd h (by simp)
    · rename_i n ee l hx
      split at h
      · rename_i hTe
        split at h
        · rename_i hb
          refine⟨_,_,_,h,.pure (λP0 S0 E w ρ hh hv => ?_) (λlook' _ R' k'=>by rw[e];unfold ydz;rw[ht,hi,hx];simp[hTe,hb])⟩
          have h1:=hv x
          rw[hx,V_one rfl]at h1
          have h2:=hv i
          rw[hi,V_int]at h2
          obtain⟨ad,cells,he,hS,hd,g2⟩:=h1
          injection he with he _
          obtain⟨hl,g1⟩:=hd
          have hn:iv.toNat<List.length l:=by rw[hl];exact idx_lt _ _ hb
          rw[hTe]at htT
          obtain⟨⟨u,hu,huT⟩,_⟩:=htT
          obtain⟨c1,c',c2,m1,m2,m3,_,_⟩:=RdL.get (λx c=>Rd.length E.S w ee x c) l cells g1 iv.toNat hn
          refine⟨_,er ρ w _ (by rw[he,h2];exact run_indexAt_arr hu huT hb),?_⟩
          rw[V_one rfl]
          rw[m1]at g2
          refine⟨_,c',rfl,by rw[Addr.add_eq g2.1];exact hS,by rw[getD_eq _ _ _ hn];exact m3,?_⟩
          rw[Addr.add_eq g2.1,← m2]
          exact g2.part
        · exact absurd h (by simp)
      · exact absurd h (by simp)
    · exact absurd h (by simp)
  · exact absurd h (by simp)
end
end Go.Va
