/-
  Va, part 6: what a value reads as, and that rows are shut where it is told as a datum.
-/
import Derived.Test.YtemhlkdingkjnaaGreatDoorVaHeap
set_option linter.unusedVariables false
set_option linter.unusedSimpArgs false
namespace Go.Va
open Go
section
variable {P0 S0:Nat→Prop} {E:Env} {look:Nat→Ent} {w w':World}
theorem RdL.sub {α:Type}{R:α→List Value→Prop}{s:Nat}(hs:∀ x c,R x c→c.length=s){l:List α}{cs:List Value}(h:RdL R l cs)(x y:Nat)(hxy:x+y≤l.length) :
    ∃ c1 c c2,cs=c1++c++c2∧c1.length=x*s∧RdL R ((l.drop x).take y) c∧c.length=y*s∧RdL R (l.take x) c1∧RdL R (l.drop (x+y)) c2:=by
  have e:l=l.take x++((l.drop x).take y++l.drop (x+y)):=by
    rw[← List.drop_drop,List.take_append_drop,List.take_append_drop]
  rw[e]at h
  obtain⟨c1,c',rfl,k1,k2⟩:=RdL.split _ _ _ h
  obtain⟨c,c2,rfl,k3,k4⟩:=RdL.split _ _ _ k2
  refine⟨c1,c,c2,by simp,?_,k3,?_,k1,k4⟩
  · rw[RdL.length hs _ _ k1,List.length_take,Nat.min_eq_left (by omega)]
  · rw[RdL.length hs _ _ k3,List.length_take,List.length_drop,Nat.min_eq_left (by omega)]
theorem At.block {w:World}{b:Nat}{cs:Array Value}{t:TypeId}{fr:Nat×Nat}(h:w.heap[b]?=some (.cells cs t fr)){c1 c c2:List Value}
    (e:cs.toList=c1++c++c2):At w ⟨b,c1.length,none⟩ c:=by
  refine⟨rfl,λj hj => ?_⟩
  have:cs[c1.length+j]?=some c[j]:=by
    rw[← Array.getElem?_toList,e,List.append_assoc,List.getElem?_append_right (by omega),Nat.add_sub_cancel_left,List.getElem?_append_left hj,List.getElem?_eq_getElem hj]
  simp only[World.cell?,h]
  simpa using this
def SlRd (E:Env)(w:World)(e:Ty)(l:List (Den e))(v:Value):Prop:=
  ∃ a cap cells,v = .slice a l.length cap∧l.length≤cap∧RdL (Rd E.S w e) l cells∧(l=[]∨∃ ad,a=some ad∧At w ad cells)
theorem row_sub [Gl]{r:Nat}{e:Ty}{l:List (Den e)}(h:OREL E w r (.row e l)){b:Nat}(hb:E.β r=some b)(x y:Nat)(hxy:x+y≤l.length) :
    ∃ cells,RdL (Rd E.S w e) ((l.drop x).take y) cells∧At w ⟨b,x*e.sz,none⟩ cells:=by
  obtain⟨N,h1,h2⟩:=h
  rw[hb]at h2
  obtain⟨cs,t,fr,c1,c2,g1,g2,g3,g4,g5⟩:=h2
  obtain⟨d1,d,d2,e1,e2,e3,e4,_,_⟩:=RdL.sub (λx c=>Rd.length E.S w e x c) g5 x y hxy
  refine⟨d,e3,?_⟩
  rw[← e2]
  exact At.block g1 (c1:=d1) (c:=d) (c2:=d2++c2) (by rw[g4,e1];simp)
theorem ow_rd [Gl]{r:Nat}{e:Ty}{l:List (Den e)}{rng:Option (Nat×Nat)}{cs:List Value}(ho:OREL E w r (.row e l))(hc:C E w (.ow r e rng) cs) :
    ∃ v,cs=[v]∧SlRd E w e ((l.drop (rngOf l.length rng).1).take (rngOf l.length rng).2) v∧(rngOf l.length rng).1+(rngOf l.length rng).2≤l.length:=by
  obtain⟨a,len,cap,rfl,hu,hk⟩:=hc
  obtain⟨N,h1,h2⟩:=id ho
  obtain⟨_,lo,h3,h4,h5⟩:=hk _ h1
  have e1:rngOf l.length rng=(lo,len):=by
    cases rng with
    | none=>obtain⟨rfl,rfl⟩:=h3;rfl
    | some p=>obtain⟨rfl,rfl⟩:=h3;rfl
  rw[e1]
  simp only at h4 ⊢
  refine⟨_,rfl,?_,h4⟩
  have el:((l.drop lo).take len).length=len:=by rw[List.length_take,List.length_drop];omega
  cases hb:E.β r with
  | none=>
    rw[hb]at h2 h5
    simp only at h2 h5
    subst h2
    have:len=0:=by simp at h4;omega
    subst this
    exact⟨a,cap,[],by simp,by simp,by simp[RdL],.inl (by simp)⟩
  | some b=>
    rw[hb]at h5
    obtain⟨ha,h6,h7⟩:=h5
    obtain⟨cells,g1,g2⟩:=row_sub ho hb lo len h4
    refine⟨a,cap,cells,by rw[el],by rw[el];exact h6,g1,?_⟩
    rcases ha with ha | ha
    · left;apply List.eq_nil_of_length_eq_zero;rw[el];omega
    · exact .inr ⟨_,ha,g2⟩
theorem shut_mem {q:Nat} {e:Ent}:∀ (rs:List Nat),(q,e)∈shut look rs→q∈rs∧∃ T l,look q = .live (.row T l)∧e = .froz T l
  | [],h=>by simp[Va.shut]at h
  | r :: t,h=>by
    unfold Va.shut at h
    split at h
    · rename_i T l hl
      rcases List.mem_cons.1 h with h | h
      · injection h with h1 h2;subst h1 h2
        exact⟨by simp,T,l,hl,rfl⟩
      · obtain⟨h1,h2⟩:=shut_mem t h;exact⟨by simp[h1],h2⟩
    · obtain⟨h1,h2⟩:=shut_mem t h;exact⟨by simp[h1],h2⟩
theorem HREL.shuts [Gl]:∀ (rs:List Nat) (E:Env) (look':Nat→Ent),HREL P0 S0 E look' w →
    (∀ r∈rs,look' r=look r∨∃ T l,look r = .live (.row T l)∧look' r = .froz T l) →
    ∃ E',HREL P0 S0 E' (updL (Va.shut look rs) look') w∧Ext P0 E w E' w∧(∀ r,E'.β r=E.β r)∧(∀ r,E'.L r=E.L r) ∧
      ∀ r∈rs,∀ T l,look r = .live (.row T l)→∀ b,E.β r=some b→E'.S b
  | [],E,look',h,_=>⟨E,h,.refl _ _ _,λ_=>rfl,λ_=>rfl,by simp⟩
  | r :: t, E,look',h,hk=>by
    unfold Va.shut
    obtain⟨E1,h1,x1,b1,l1,s1⟩:=HREL.shuts t E look' h (λq hq=>hk q (by simp[hq]))
    split
    · rename_i T l hl
      rw[ycy]
      -- what stands at r now
      have hr : updL (Va.shut look t) look' r = .live (.row T l)∨updL (Va.shut look t) look' r = .froz T l:=by
        have key:∀ (t:List Nat),updL (Va.shut look t) look' r = .froz T l∨updL (Va.shut look t) look' r=look' r:=by
          intro t
          induction t with
          | nil=>right;rfl
          | cons q t ih=>
            unfold Va.shut
            split
            · rename_i T' l' hl'
              rw[ycy]
              by_cases hq:r=q
              · subst hq
                rw[ycF]
                rw[hl]at hl'
                injection hl' with hl'
                injection hl' with e1 e2
                subst e1
                left;rw[eq_of_heq e2]
              · rw[ycd _ _ hq];exact ih
            · exact ih
        rcases key t with k | k
        · exact .inr k
        · rw[k]
          rcases hk r (by simp) with k' | ⟨T',l',k1,k2⟩
          · exact .inl (k'.trans hl)
          · rw[hl]at k1
            injection k1 with k1
            injection k1 with e1 e2
            subst e1
            right;rw[k2,eq_of_heq e2]
      rcases hr with hr | hr
      · obtain⟨h2,x2⟩:=h1.shut hr
        refine⟨_,h2,x1.trans x2,b1,l1,λq hq T' l' hq' b hb => ?_⟩
        rcases List.mem_cons.1 hq with hq | hq
        · subst hq;exact .inr ((b1 q).trans hb)
        · exact .inl (s1 q hq T' l' hq' b hb)
      · have e0:upd1 r (.froz T l) (updL (Va.shut look t) look')=updL (Va.shut look t) look':=by
          funext q
          by_cases hq:q=r
          · rw[hq,ycF,hr]
          · rw[ycd _ _ hq]
        rw[e0]
        refine⟨E1,h1,x1,b1,l1,λq hq T' l' hq' b hb => ?_⟩
        rcases List.mem_cons.1 hq with hq | hq
        · subst hq
          have:=h1.ent q
          rw[hr]at this
          exact this.2.2 b ((b1 q).trans hb)
        · exact s1 q hq T' l' hq' b hb
    · rename_i hl
      refine⟨E1,h1,x1,b1,l1,λq hq T' l' hq' b hb => ?_⟩
      rcases List.mem_cons.1 hq with hq | hq
      · subst hq;exact absurd hq' (hl _ _)
      · exact s1 q hq T' l' hq' b hb
theorem res_rd [Gl]:∀ (T:Ty) (v:AV) (x:Den T) (rs:List Nat) (cs:List Value) (E':Env),HREL P0 S0 E look w→res look T v=some (x,rs)→C E w v cs →
    Ext P0 E w E' w→(∀ r∈rs,∀ T l,look r = .live (.row T l)→∀ b,E.β r=some b→E'.S b)→Rd E'.S w T x cs:=by
  intro T v
  -- a slice out of a row
  have hrow:∀ (e:Ty) (r:Nat) (l:List (Den e)) (rng:Option (Nat×Nat)) (cs:List Value) (E':Env),HREL P0 S0 E look w→OREL E w r (.row e l)→C E w (.ow r e rng) cs →
      Ext P0 E w E' w→(∀ b,E.β r=some b→E'.S b)→Rd E'.S w (.slice e) ((l.drop (rngOf l.length rng).1).take (rngOf l.length rng).2) cs:=by
    intro e r l rng cs E' h ho hc hx hS
    obtain⟨a,len,cap,rfl,hu,hk⟩:=id hc
    obtain⟨N,h1,h2⟩:=id ho
    obtain⟨_,lo,h3,h4,h5⟩:=hk _ h1
    have e1:rngOf l.length rng=(lo,len):=by
      cases rng with
      | none=>obtain⟨rfl,rfl⟩:=h3;rfl
      | some p=>obtain⟨rfl,rfl⟩:=h3;rfl
    rw[e1]
    simp only at h4 ⊢
    have el:((l.drop lo).take len).length=len:=by rw[List.length_take,List.length_drop];omega
    cases hb:E.β r with
    | none=>
      rw[hb]at h2 h5
      simp only at h2 h5
      subst h2
      have:len=0:=by simp at h4;omega
      subst this
      exact⟨a,cap,by simp,by simp,.inl (by simp)⟩
    | some b=>
      rw[hb]at h5
      obtain⟨ha,h6,h7⟩:=h5
      obtain⟨cells,g1,g2⟩:=row_sub ho hb lo len h4
      refine⟨a,cap,by rw[el],by rw[el];exact h6,?_⟩
      rcases ha with ha | ha
      · left;apply List.eq_nil_of_length_eq_zero;rw[el];omega
      · exact .inr ⟨_,ha,hS b hb,cells,RdL.mono (λx c=>Rd.keep hx.keep hx.s e x c) _ _ g1,g2⟩
  have hsl:∀ (e:Ty) (v:AV) (x:List (Den e)) (rs:List Nat) (cs:List Value) (E':Env),HREL P0 S0 E look w→res look (.slice e) v=some (x,rs)→C E w v cs →
      Ext P0 E w E' w→(∀ r∈rs,∀ T l,look r = .live (.row T l)→∀ b,E.β r=some b→E'.S b)→Rd E'.S w (.slice e) x cs:=by
    intro e v x rs cs E' h hr hc hx hS
    cases v with
    | data T' y=>
      simp only[res]at hr
      split at hr
      · rename_i hT;subst hT
        injection hr with hr;injection hr with h1 h2;subst h1
        exact Rd.keep hx.keep hx.s _ _ _ hc
      · exact absurd hr (by simp)
    | nils e'=>
      simp only[res]at hr
      injection hr with hr;injection hr with h1 h2;subst h1
      simp only[C]at hc;subst hc
      exact⟨none,0,rfl,by simp,.inl rfl⟩
    | ow r e' rng=>
      simp only[res]at hr
      split at hr
      · rename_i he;subst he
        have hent:=h.ent r
        split at hr
        · rename_i e1 l hl
          rw[hl]at hent
          split at hr
          · rename_i h1;subst h1
            have hS':∀ b,E.β r=some b→E'.S b:=by
              intro b hb
              refine hS r ?_ _ l hl b hb
              split at hr<;>(injection hr with hr;injection hr with _ h2;subst h2;simp)
            have:=hrow _ r l rng cs E' h hent.2 hc hx hS'
            split at hr
            · injection hr with hr;injection hr with h1 _;subst h1
              simpa[rngOf]using this
            · injection hr with hr;injection hr with h1 _;subst h1
              simpa[rngOf]using this
          · exact absurd hr (by simp)
        · rename_i e1 l hl
          rw[hl]at hent
          split at hr
          · rename_i h1;subst h1
            have hS':∀ b,E.β r=some b→E'.S b:=λb hb=>hx.s b (hent.2.2 b hb)
            have:=hrow _ r l rng cs E' h hent.2.1 hc hx hS'
            split at hr
            · injection hr with hr;injection hr with h1 _;subst h1
              simpa[rngOf]using this
            · injection hr with hr;injection hr with h1 _;subst h1
              simpa[rngOf]using this
          · exact absurd hr (by simp)
        · exact absurd hr (by simp)
      · exact absurd hr (by simp)
    | _=>simp[res]at hr
  have hdat:∀ (T:Ty) (T':Ty) (y:Den T') (x:Den T) (rs:List Nat) (cs:List Value) (E':Env),res look T (.data T' y)=some (x,rs)→C E w (.data T' y) cs →
      Ext P0 E w E' w→Rd E'.S w T x cs:=by
    intro T T' y x rs cs E' hr hc hx
    simp only[res]at hr
    split at hr
    · rename_i hT;subst hT
      injection hr with hr;injection hr with h1 h2;subst h1
      exact Rd.keep hx.keep hx.s _ _ _ hc
    · exact absurd hr (by simp)
  induction T generalizing v with
  | slice e _=>exact λx rs cs E'=>hsl e v x rs cs E'
  | pair a b iha ihb=>
    intro x rs cs E' h hr hc hx hS
    cases v with
    | data T' y=>exact hdat _ _ _ _ _ _ _ hr hc hx
    | pr u v=>
      simp only[res]at hr
      split at hr
      · rename_i x1 r1 y1 s1 g1 g2
        injection hr with hr;injection hr with h1 h2;subst h1 h2
        obtain⟨c1,c2,rfl,k1,k2⟩:=hc
        exact⟨c1,c2,rfl,iha u _ _ _ _ h g1 k1 hx (λr hr=>hS r (by simp[hr])),ihb v _ _ _ _ h g2 k2 hx (λr hr=>hS r (by simp[hr]))⟩
      · exact absurd hr (by simp)
    | _=>simp[res]at hr
  | _=>
    intro x rs cs E' h hr hc hx hS
    cases v with
    | data T' y=>exact hdat _ _ _ _ _ _ _ hr hc hx
    | _=>simp[res]at hr
theorem res_slice [Gl] {e:Ty} {v:AV} {l:List (Den e)} {rs:List Nat} {cs:List Value} (h:HREL P0 S0 E look w) (hr:res look (.slice e) v=some (l,rs)) (hc:C E w v cs) :
    ∃ x,cs=[x]∧SlRd E w e l x:=by
  cases v with
  | data T' y=>
    simp only[res]at hr
    split at hr
    · rename_i hT;subst hT
      injection hr with hr;injection hr with h1 h2;subst h1
      obtain⟨a,cap,rfl,k1,k2⟩:=hc
      refine⟨_,rfl,?_⟩
      rcases k2 with k2 | ⟨ad,rfl,_,cells,k3,k4⟩
      · exact⟨a,cap,[],rfl,k1,by rw[k2];rfl,.inl k2⟩
      · exact⟨_,cap,cells,rfl,k1,k3,.inr ⟨ad,rfl,k4⟩⟩
    · exact absurd hr (by simp)
  | nils e'=>
    simp only[res]at hr
    injection hr with hr;injection hr with h1 h2;subst h1
    simp only[C]at hc;subst hc
    exact⟨_,rfl,none,0,[],rfl,by simp,rfl,.inl rfl⟩
  | ow r e' rng=>
    simp only[res]at hr
    split at hr
    · rename_i he;subst he
      have hent:=h.ent r
      split at hr
      · rename_i e1 l' hl
        rw[hl]at hent
        split at hr
        · rename_i h1;subst h1
          obtain⟨x,g1,g2,g3⟩:=ow_rd hent.2 hc
          split at hr
          · injection hr with hr;injection hr with h1 _;subst h1
            exact⟨x,g1,by simpa[rngOf]using g2⟩
          · injection hr with hr;injection hr with h1 _;subst h1
            exact⟨x,g1,by simpa[rngOf]using g2⟩
        · exact absurd hr (by simp)
      · rename_i e1 l' hl
        rw[hl]at hent
        split at hr
        · rename_i h1;subst h1
          obtain⟨x,g1,g2,g3⟩:=ow_rd hent.2.1 hc
          split at hr
          · injection hr with hr;injection hr with h1 _;subst h1
            exact⟨x,g1,by simpa[rngOf]using g2⟩
          · injection hr with hr;injection hr with h1 _;subst h1
            exact⟨x,g1,by simpa[rngOf]using g2⟩
        · exact absurd hr (by simp)
      · exact absurd hr (by simp)
    · exact absurd hr (by simp)
  | _=>simp[res]at hr
end
end Go.Va
