/-
  Va, part 20: values and rows built of parts; calls; all operations.
-/
import Derived.Test.YtemhlkdingkjnaaGreatDoorVaOps10
set_option linter.unusedVariables false
set_option linter.unusedSimpArgs false
namespace Go.Va
open Go
section
variable {P:Program} {c:Cfg} {o:Oper} {op:Operand→AV} {look:Nat→Ent} {R:Type} {k:Kont R} {r:R}
theorem foldl_set (off:Nat):∀ (vs:List Value) (i:Nat) (cells:Array Value) (A B D:List Value),cells.toList=A++B++D→A.length=off+i→B.length=vs.length →
    ((vs.zipIdx i).foldl (λ(cs:Array Value) (x:Value×Nat)=>cs.setIfInBounds (off+x.2) x.1) cells).toList=A++vs++D
  | [],i,cells,A,B,D,h,hA,hB=>by
    have:B=[]:=List.eq_nil_of_length_eq_zero (by simpa using hB)
    subst this;simpa using h
  | v :: vs,i,cells,A,B,D,h,hA,hB=>by
    match B,hB with
    | b :: B,hB=>
      rw[List.zipIdx_cons,List.foldl_cons,foldl_set off vs (i+1) _ (A++[v]) B D ?_ (by simp[hA];omega) (by simpa using hB)]
      · simp
      · simp only[Array.toList_setIfInBounds]
        rw[h,← hA,List.append_assoc,List.set_append_right _ _ (Nat.le_refl _),Nat.sub_self]
        simp
theorem fill_one [Gl]{place:Nat→Option (Nat×Nat)}{i off size:Nat}{v:Value}{cells:Array Value}{A B D:List Value}{rest:List (Nat×Value)}(hp:place i=some (off,size))(hs:v.cells.size=size)
    (h:cells.toList=A++B++D) (hA:A.length=off) (hB:B.length=size) :
    ∃ cells':Array Value,Instr.fill place cells ((i,v)::rest)=Instr.fill place cells' rest∧cells'.toList=A++v.cells.toList++D:=by
  have hsz:off+size≤cells.size:=by rw[← Array.length_toList,h];simp;omega
  refine⟨v.cells.zipIdx.foldl (λcs x=>cs.setIfInBounds (off+x.2) x.1) cells,?_,?_⟩
  · rw[Instr.fill,hp]
    simp only[]
    rw[if_neg (by simp[hs];omega)]
  · rw[← Array.foldl_toList,Array.toList_zipIdx]
    exact foldl_set off v.cells.toList 0 cells A B D h (by simpa using hA) (by rw[hB,Array.length_toList,hs])
theorem V_cells_res [Gl]{P0 S0:Nat→Prop}{E:Env}{w:World}{T:Ty}{v:AV}{x:Den T}{rs:List Nat}{y:Value}(hr:res look T v=some (x,rs))(hv:V E w v y):C E w v y.cells.toList:=by
  by_cases ha:v.isAgg=true
  · rw[V_agg ha]at hv
    obtain⟨cs,rfl,h⟩:=hv;exact h
  · have ht:∃ T',v.ty=some T':=by
      cases v with
      | data T' z=>exact⟨_,rfl⟩
      | nils e=>exact⟨_,rfl⟩
      | ow q e rng=>exact⟨_,rfl⟩
      | pr a b=>exact absurd rfl ha
      | _=>cases T<;>simp[res]at hr
    obtain⟨T',ht⟩:=ht
    exact V_cells hv ht
theorem parts_ok [Gl] {E E':Env} {P0 S0:Nat→Prop} {w:World} {e:Ty} {ρ:Operand→Value} (h:HREL P0 S0 E look w) (hv:∀ x,V E w (op x) (ρ x)) (hx:Ext P0 E w E' w) :
    ∀ (ps:List (Nat×Operand)) (i:Nat) (l:List (Den e)) (rs:List Nat) (cells:Array Value) (A B D:List Value),parts look e op i ps=some (l,rs) →
      (∀ r∈rs,∀ T l,look r = .live (.row T l)→∀ b,E.β r=some b→E'.S b)→cells.toList=A++B++D→A.length=i*e.sz→B.length=l.length*e.sz →
      ∃ (cs:List Value) (cells':Array Value),RdL (Rd E'.S w e) l cs∧Instr.fill (λi=>some (i*e.sz,e.sz)) cells (ps.map λp=>(p.1,ρ p.2))=some cells' ∧
        cells'.toList=A++cs++D
  | [],i,l,rs,cells,A,B,D,hp,hS,hc,hA,hB=>by
    simp only[parts]at hp
    injection hp with hp;injection hp with h1 h2;subst h1 h2
    have:B=[]:=List.eq_nil_of_length_eq_zero (by simpa using hB)
    subst this
    exact⟨[],cells,rfl,rfl,hc⟩
  | (j, x)::ps,i,l,rs,cells,A,B,D,hp,hS,hc,hA,hB=>by
    simp only[parts]at hp
    split at hp
    · rename_i hij
      have hij:i=j:=by simpa using hij
      subst hij
      split at hp
      · rename_i y s l' s' h1 h2
        injection hp with hp;injection hp with q1 q2;subst q1 q2
        have hcc:=V_cells_res (P0:=P0) (S0:=S0) h1 (hv x)
        have hrd:=res_rd e (op x) y s _ E' h h1 hcc hx (λr hr=>hS r (by simp[hr]))
        have hsz:(ρ x).cells.size=e.sz:=by rw[← Array.length_toList];exact Rd.length _ _ _ _ _ hrd
        have hBl:B.length=e.sz+l'.length*e.sz:=by rw[hB,List.length_cons,Nat.succ_mul];omega
        have hBs:B=B.take e.sz++B.drop e.sz:=by simp
        obtain⟨c1,f1,f2⟩:=fill_one (place:=λi=>some (i*e.sz,e.sz)) (rest:=ps.map λp=>(p.1,ρ p.2)) (cells:=cells) (v:=ρ x) (A:=A) (B:=B.take e.sz) (D:=B.drop e.sz++D) rfl hsz
          (by rw[hc];simp only[List.append_assoc];rw[← List.append_assoc (B.take e.sz),List.take_append_drop]) hA (by rw[List.length_take];omega)
        obtain⟨cs,c2,g1,g2,g3⟩:=parts_ok h hv hx ps (i+1) l' s' c1 (A++(ρ x).cells.toList) (B.drop e.sz) D h2 (λr hr=>hS r (by simp[hr])) (by rw[f2];simp)
          (by rw[List.length_append,hA,Array.length_toList,hsz,Nat.succ_mul]) (by rw[List.length_drop];omega)
        exact⟨(ρ x).cells.toList++cs,c2,⟨_,_,rfl,hrd,g1⟩,by rw[List.map_cons,f1];exact g2,by rw[g3];simp⟩
      · exact absurd hp (by simp)
    · exact absurd hp (by simp)
theorem parts_loc [Gl] {look':Nat→Ent} {e:Ty}:∀ (ps:List (Nat×Operand)) (i:Nat) (l:List (Den e)) (rs:List Nat),parts look e op i ps=some (l,rs)→(∀ q∈rs,look' q=look q) →
    parts look' e op i ps=some (l,rs)
  | [],i,l,rs,hp,hk=>by simpa only[parts]using hp
  | (j, x)::ps,i,l,rs,hp,hk=>by
    simp only[parts]at hp ⊢
    split at hp
    · rename_i hij
      rw[if_pos hij]
      split at hp
      · rename_i y s l' s' h1 h2
        injection hp with hp;injection hp with q1 q2;subst q1 q2
        rw[res_loc _ _ _ _ h1 (λq hq=>hk q (by simp[hq])),parts_loc ps (i+1) l' s' h2 (λq hq=>hk q (by simp[hq]))]
      · exact absurd hp (by simp)
    · exact absurd hp (by simp)
theorem shut_loc {look':Nat→Ent}:∀ (rs:List Nat),(∀ q∈rs,look' q=look q)→Va.shut look' rs=Va.shut look rs
  | [],_=>rfl
  | r::t,hk=>by
    unfold Va.shut
    rw[hk r (by simp),shut_loc t (λq hq=>hk q (by simp[hq]))]
theorem ok_buildSlice [Gl] {t:TypeId} {n:Nat} {ps:Array (Nat×Operand)} (hT:TabOk P c.tab) (ho:o.op = .buildSlice t n ps) (h:aOp c o op look k=some r):∃ v RN WN,k v RN WN=some r∧Ok P c o op look v RN WN:=by
  have e:∀ (look:Nat→Ent) (R:Type) (k:Kont R),aOp c o op look k=match findT c.tab t with
    | some ⟨.slice e,_⟩=>match parts look e op 0 ps.toList with
      | some (l,rs)=>if l.length=n∧n*e.sz≤16777216 then fresh look o.dst λq=>k (.ow q e none) rs ((q,.live (.row e l))::shut look rs) else none
      | none=>none
    | _=>none:=by
    intro look R k;unfold aOp;rw[ho];rfl
  rw[e]at h
  split at h
  · rename_i ee eb ht
    obtain⟨htT,_⟩:=hT t _ ht
    obtain⟨⟨u,hu,huT⟩,_⟩:=htT
    split at h
    · rename_i l rs hp
      split at h
      · rename_i hb
        obtain⟨hb1,hb2⟩:=hb
        obtain⟨q,hd,hq,h⟩:=ydZ h
        refine⟨_,_,_,h,⟨λP0 S0 E w ρ hh hv => ?_,λlook' hk R' k' => ?_⟩⟩
        · obtain⟨E1,k1,k2,_,_,k5⟩:=HREL.shuts (look:=look) rs E look hh (λr _ => .inl rfl)
          obtain⟨z,z1,z2,_⟩:=run_zero (P:=P) (w:=w) huT
          let zero:Array Value:=if n*ee.sz=0 then #[] else z.cells
          let cells0:Array Value:=(Array.range (n*ee.sz)).map (zero[· % zero.size]!)
          have hc0:cells0.toList.length=l.length*ee.sz:=by simp[cells0,hb1]
          obtain⟨cs,cells',g1,g2,g3⟩:=parts_ok hh hv k2 ps.toList 0 l rs cells0 [] cells0.toList [] hp k5 (by simp) (by simp) hc0
          simp only[List.nil_append,List.append_nil]at g3
          have hcs:cs.length=l.length*ee.sz:=RdL.length (λx c=>Rd.length E1.S w ee x c) _ _ g1
          have hrun:(execOp ρ o).run P w = .ok (.value (.slice (some ⟨w.heap.size,0,none⟩) n n)) { w with heap:=w.heap.push (.cells cells' u) }:=by
            unfold execOp;rw[ho]
            unfold Instr.buildSlice
            have hsz:¬ n*ee.sz>2 ^ 24:=by omega
            have hmap:(ps.map λ(i,x)=>(i,ρ x)).toList=ps.toList.map λp=>(p.1,ρ p.2):=by rw[Array.toList_map]
            simp only[Sem.run_bind,run_underlying hu,Result.andThen_ok,run_sizeOf huT,if_neg hsz,Sem.run_pure,hmap]
            by_cases h0:n*ee.sz=0
            · simp only[cells0,zero,if_pos h0]at g2
              simp only[if_pos h0,Sem.run_pure,Result.andThen_ok,g2,newRow,Sem.run_bind,run_newObj]
            · simp only[cells0,zero,if_neg h0]at g2
              simp only[if_neg h0,Sem.run_bind,z1,Sem.run_pure,Result.andThen_ok,g2,newRow,run_newObj]
          refine .inl ⟨_,_,hrun,?_⟩
          have hq1:updL (Va.shut look rs) look q = .un:=by
            have:∀ rs,updL (Va.shut look rs) look q=look q:=by
              intro rs
              induction rs with
              | nil=>rfl
              | cons a t ih=>
                unfold Va.shut
                split
                · rename_i T l' hl'
                  rw[ycy,ycd _ _ (λhqa=>by rw[hqa,hl']at hq;exact absurd hq (by simp))];exact ih
                · exact ih
            rw[this,hq]
          have hlen:cells'.size=n*ee.sz:=by rw[← Array.length_toList,g3,hcs,hb1]
          have hp':=post_row (q:=q) (e:=ee) (l:=l) (cells:=cells') (c1:=cs) (c2:=[]) (t:=u) (fr:=(0,0)) (cap:=n)
            k1 hq1 g1 (by rw[g3];simp) (.push _ _) (NoFr.zero _) (Nat.le_refl _) (push_at w _) (by omega) (by rw[hlen];exact Nat.le_refl _)
          obtain⟨E2,p1,p2,p3⟩:=hp'
          rw[hb1]at p3
          exact⟨E2,by rw[ycy];rw[ycy,ydL]at p1;exact p1,k2.trans p2,p3⟩
        · rw[e,ht]
          simp only[parts_loc _ _ _ _ hp (λq hq=>hk q (.inl hq)),hb1,hb2,and_self,if_true,shut_loc _ (λq hq=>hk q (.inl hq))]
          exact fresh_eq hd ((hk q (.inr (by simp))).trans hq)
      · exact absurd h (by simp)
    · exact absurd h (by simp)
  · exact absurd h (by simp)
end
end Go.Va
