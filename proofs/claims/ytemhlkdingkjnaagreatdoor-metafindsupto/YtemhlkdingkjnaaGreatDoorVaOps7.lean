/-
  Va, part 16: append.
-/
import Derived.Test.YtemhlkdingkjnaaGreatDoorVaOps6
set_option linter.unusedVariables false
set_option linter.unusedSimpArgs false
namespace Go.Va
open Go
section
variable {P:Program} {P0 S0:Nat→Prop} {E:Env} {look:Nat→Ent} {w w':World}
def SrcOk (P:Program)(E:Env)(w:World)(e:Ty)(l:List (Den e))(x:Value):Prop:=
  ∃ cs,RdL (Rd E.S w e) l cs∧(Builtin.lenOf x).run P w = .ok l.length w∧∀ w',(∀ b:Nat,w'.heap[b]?=w.heap[b]?)→(Builtin.firstCells e.sz l.length x).run P w' = .ok cs.toArray w'
theorem At.heap {a:Addr}{cs:List Value}(h:At w a cs)(hw:∀ b:Nat,w'.heap[b]?=w.heap[b]?):At w' a cs:=
  ⟨h.1,λj hj=>by have:=h.2 j hj;unfold World.cell? at this ⊢; rw[hw];exact this⟩
theorem run_loadCells_at {a:Addr}{cs:List Value}(h:At w a cs):(loadCells a cs.length).run P w = .ok cs.toArray w:=by
  refine run_loadCells_list w a cs (λj v hj => ?_)
  rw[Addr.add_eq h.1]
  obtain⟨hj1,hj2⟩:=List.getElem?_eq_some_iff.1 hj
  rw[h.2 j hj1,hj2]
theorem SlRd.src [Gl]{e:Ty}{l:List (Den e)}{x:Value}(h:SlRd E w e l x):SrcOk P E w e l x:=by
  obtain⟨a,cap,cells,rfl,h1,h2,h3⟩:=h
  have hl:cells.length=l.length*e.sz:=RdL.length (λx c=>Rd.length E.S w e x c) _ _ h2
  refine⟨cells,h2,rfl,λw' hw => ?_⟩
  cases a with
  | none=>
    rcases h3 with h3 | ⟨ad,h3,_⟩
    · subst h3
      have:cells=[]:=h2
      subst this;rfl
    · exact absurd h3 (by simp)
  | some ad=>
    simp only[Builtin.firstCells]
    rw[← hl]
    rcases h3 with h3 | ⟨ad',h3,h4⟩
    · subst h3
      have:cells=[]:=h2
      subst this;rfl
    · injection h3 with h3;subst h3
      exact run_loadCells_at (h4.heap hw)
theorem srcOf_ok [Gl] {e:Ty} {v:AV} {l:List (Den e)} {rs:List Nat} (hs:srcOf look e v=some (l,rs)) :
    (∀ P0 S0 E w x,HREL P0 S0 E look w→V E w v x→SrcOk P E w e l x)∧∀ look',(∀ q∈rs,look' q=look q)→srcOf look' e v=some (l,rs):=by
  unfold srcOf at hs
  split at hs
  · rename_i s
    split at hs
    · rename_i he;subst he
      injection hs with hs;injection hs with h1 h2;subst h1 h2
      refine⟨λP0 S0 E w x hh hv => ?_,λlook' _=>rfl⟩
      rw[V_str]at hv;subst hv
      refine⟨(ycW s).map λn=>Value.int .u8 n,RdL.ofInts _,by simp[Builtin.lenOf,ycW],λw' hw => ?_⟩
      have hl:(ycW s).length=ByteArray.size s:=by simp[ycW]
      simp only[Builtin.firstCells,Sem.run_pure]
      congr 1
      rw[hl]
      apply Array.toList_inj.1
      simp[ycW,Function.comp_def]
    · exact absurd hs (by simp)
  · rename_i q T p
    split at hs
    · rename_i T0 b hl
      split at hs
      · rename_i n e' l' hg
        split at hs
        · rename_i he;subst he
          injection hs with hs;injection hs with h1 h2;subst h1 h2
          refine⟨λP0 S0 E w x hh hv => ?_,λlook' hk=>by unfold srcOf;simp[hk q (by simp),hl,hg]⟩
          obtain⟨a,cells,g1,g2,g3⟩:=oa_rd hh hl hg hv
          exact SlRd.src ⟨some a,_,cells,g1,Nat.le_refl _,g2,.inr ⟨a,rfl,g3⟩⟩
        · exact absurd hs (by simp)
      · exact absurd hs (by simp)
    · exact absurd hs (by simp)
  · rename_i hn1 hn2
    refine⟨λP0 S0 E w x hh hv => ?_,λlook' hk => ?_⟩
    · have hagg:v.isAgg=false:=by
        cases v with
        | data T y=>
          simp only[sliceOf,res]at hs
          split at hs
          · rename_i hh;subst hh;rfl
          · exact absurd hs (by simp)
        | pr a b=>simp[sliceOf,res]at hs
        | _=>rfl
      rw[V_one hagg]at hv
      obtain⟨y,g1,g2⟩:=res_slice hh hs hv
      injection g1 with g1 _;subst g1
      exact g2.src
    · have hr':=res_loc (look':=look') _ _ _ _ hs hk
      unfold srcOf
      split
      · exact absurd rfl (hn1 _)
      · exact absurd rfl (hn2 _ _ _)
      · exact hr'
theorem nextcap_le (need cap:Nat)(h:cap<need):Builtin.nextslicecap need cap≤2*need+192:=by
  have hg:∀ n c,c<need∨c≤2*need+192→Builtin.growBy need n c≤2*need+192:=by
    intro n
    induction n with
    | zero=>intro c hc;simp only[Builtin.growBy];omega
    | succ n ih=>
      intro c hc
      simp only[Builtin.growBy]
      split
      · omega
      · exact ih _ (.inr (by omega))
  unfold Builtin.nextslicecap
  split
  · omega
  · split
    · omega
    · exact hg 4 cap (.inl h)
theorem run_append_grow [Gl] {t t2 u:TypeId} {T2:Ty} {e:Ty} {l:List (Den e)} {a:Option Addr} {n cap:Nat} {x:Value} {i:TypeInfo} {old:List Value}
    (h1:P.underlying t=some (.slice u)) (h2:TyIs P e u) (h3:TyIs P T2 t2) (h4:T2.sl=true) (hi:P.info? u=some i) (hb1:1≤i.bytes) (hb2:i.bytes≤1048576)
    (hx:SrcOk P E w e l x) (hbound:(n+l.length)*i.bytes≤70368744177664) (hneed:¬ n+l.length≤cap)
    (hold:∀ w',(∀ b:Nat,w'.heap[b]?=w.heap[b]?)→(Builtin.firstCells e.sz n (.slice a n cap)).run P w' = .ok old.toArray w') (hol:old.length=n*e.sz) :
    ∃ cs newCap w',RdL (Rd E.S w e) l cs∧(Builtin.append_ #[t,t2] t #[.slice a n cap,x]).run P w = .ok (.slice (some ⟨w.heap.size,0,none⟩) (n+l.length) newCap) w'∧Grow w w' ∧
      n+l.length≤newCap∧∃ rest:List Value,w'.heap[w.heap.size]?=some (.cells (old++cs++rest).toArray u (0,0))∧(old++cs++rest).length=newCap*e.sz:=by
  obtain⟨cs,g1,g2,g3⟩:=hx
  have hl:cs.length=l.length*e.sz:=RdL.length (λx c=>Rd.length E.S w e x c) _ _ g1
  obtain⟨ty2,hu2⟩:=und h3
  have hz2:ty2 = .string∨∃ u',ty2 = .slice u':=by
    cases T2 with
    | slice e'=>obtain⟨⟨u',hu',_⟩,_⟩:=h3;rw[hu2]at hu'; injection hu' with hu'; exact .inr ⟨_,hu'⟩
    | str=>have:=h3.1;rw[hu2]at this;injection this with this;exact .inl this
    | _=>simp[Ty.sl]at h4
  obtain⟨z,k1,k2,_⟩:=run_zero (P:=P) (w:={ w with drawn:=w.drawn+1 }) h2
  have hzs:z.cells.size=e.sz:=by
    have:=Rd.length (λ_=>True) w e (Va.dflt e) (zc e) (Rd.dflt _ _ _)
    rw[← Array.length_toList,k2,this]
  let newCap:=(Question.appendCap (n+l.length) cap u).cut (w.tape w.drawn (.appendCap (n+l.length) cap u))
  have hnc:n+l.length≤newCap:=by simp[newCap,Question.cut]
  let rest:=Builtin.zeroCells z.cells (newCap-(n+l.length))
  let w2:World:={ w with drawn:=w.drawn+1,heap:=w.heap.push (.cells (old.toArray++cs.toArray++rest) u) }
  refine⟨cs,newCap,w2,g1,?_,⟨rfl,rfl,rfl,by simp[w2],λb hb=>by simp only[w2,Array.getElem?_push];rw[if_neg (by omega)]⟩,hnc,rest.toList,?_,?_⟩
  · unfold Builtin.append_
    have hint:¬ ((n+l.length:Nat):Int)>IntKind.i64.max:=by
      have e1:IntKind.i64.max=9223372036854775807:=rfl
      rw[e1]
      have:(n+l.length)*1≤(n+l.length)*i.bytes:=Nat.mul_le_mul_left _ hb1
      omega
    have hcapb:¬ Builtin.nextslicecap (n+l.length) cap*i.bytes>2 ^ 48:=by
      have q1:=nextcap_le (n+l.length) cap (by omega)
      have q2:Builtin.nextslicecap (n+l.length) cap*i.bytes≤(2*(n+l.length)+192)*i.bytes:=Nat.mul_le_mul_right _ q1
      have q3:(2*(n+l.length)+192)*i.bytes=2*((n+l.length)*i.bytes)+192*i.bytes:=by rw[Nat.add_mul,Nat.mul_assoc]
      omega
    simp only[List.getElem?_toArray,List.getElem?_cons_zero,List.getElem?_cons_succ,Sem.run_bind,run_underlying h1,Result.andThen_ok,run_sizeOf h2,run_underlying hu2]
    have k1':(zeroValue u).run P { w with drawn:=w.drawn+1 } = .ok z { w with drawn:=w.drawn+1 }:=k1
    rcases hz2 with rfl | ⟨u',rfl⟩
    all_goals
      simp only[Sem.run_pure,Result.andThen_ok,Bool.false_eq_true,if_false,g2,if_neg hneed,Sem.run_bind,run_typeInfo hi,false_or,hint,false_and,if_neg hcapb,
        run_choose,Question.forced,run_askRoom,Bool.not_false,if_true]
      rw[hold { w with drawn:=w.drawn+1 } (λ_=>rfl)]
      simp only[Result.andThen_ok]
      rw[g3 { w with drawn:=w.drawn+1 } (λ_=>rfl)]
      simp only[Result.andThen_ok]
      rw[k1']
      simp only[Result.andThen_ok,newRow,Sem.run_bind,run_newObj,Sem.run_pure]
      rfl
  · simp[w2]
  · rw[List.length_append,List.length_append,hol,hl]
    simp only[rest,Builtin.zeroCells,Array.length_toList,Array.size_map,Array.size_range,hzs]
    rw[← Nat.add_mul,← Nat.add_mul]
    congr 1;omega
end
end Go.Va
