/-
  Va, part 5: how the relation between abstract heap and world goes on: a new object, a write, an object given up, a row shut.
-/
import Derived.Test.YtemhlkdingkjnaaGreatDoorVaDef
set_option linter.unusedVariables false
set_option linter.unusedSimpArgs false
namespace Go.Va
open Go
def upd1 (q:Nat)(e:Ent)(look:Nat→Ent):Nat→Ent:=λr=>if r==q then e else look r
theorem ycy (q:Nat)(e:Ent)(t:List (Nat×Ent))(f:Nat→Ent):updL ((q,e)::t) f=upd1 q e (updL t f):=by
  funext r;rfl
theorem ydL (f:Nat→Ent):updL [] f=f:=rfl
theorem ycF (q:Nat)(e:Ent)(f:Nat→Ent):upd1 q e f q=e:=by simp[upd1]
theorem ycd {q r:Nat}(e:Ent)(f:Nat→Ent)(h:r≠q):upd1 q e f r=f r:=by simp[upd1,h]
def Ent.has:Ent→Bool
  | .live _=>true
  | .froz _ _=>true
  | _=>false
structure Grow (w w':World):Prop where
  os:w'.os=w.os
  tape:w'.tape=w.tape
  output:w'.output=w.output
  size:w.heap.size≤w'.heap.size
  block:∀ b,b<w.heap.size→w'.heap[b]?=w.heap[b]?
theorem Grow.refl (w:World):Grow w w:=⟨rfl,rfl,rfl,Nat.le_refl _,λ_ _=>rfl⟩
theorem Grow.trans {a b c:World}(h:Grow a b)(k:Grow b c):Grow a c:=
  ⟨k.os.trans h.os,k.tape.trans h.tape,k.output.trans h.output,Nat.le_trans h.size k.size,λi hi=>(k.block i (Nat.lt_of_lt_of_le hi h.size)).trans (h.block i hi)⟩
theorem Grow.keep {w w':World}(h:Grow w w')(S:Nat→Prop):Keep S w w':=⟨h.os,h.tape,h.output,h.size,λb _ hb=>h.block b hb⟩
theorem Grow.draw (w:World)(n:Nat):Grow w { w with drawn:=n }:=⟨rfl,rfl,rfl,Nat.le_refl _,λ_ _=>rfl⟩
theorem Grow.push (w:World)(o:Obj):Grow w { w with heap:=w.heap.push o }:=
  ⟨rfl,rfl,rfl,by simp,λb hb=>by
    simp only[Array.getElem?_push];rw[if_neg (by omega)]⟩
section
variable {P0 S0:Nat→Prop} {E:Env} {look:Nat→Ent} {w w':World}
theorem HREL.U_iff [Gl](h:HREL P0 S0 E look w)(r:Nat):E.U r↔look r ≠ .un:=by
  have:=h.ent r
  cases hl:look r<;>rw[hl]at this<;>simp_all [EREL]
theorem Ext.grow (h:Grow w w'):Ext P0 E w E w':=⟨λ_ h=>h,h.keep _,h.keep _,λ_ h=>⟨h,.inr ⟨rfl,rfl⟩⟩⟩
theorem OREL.lt {r:Nat}{o:Obj'}{b:Nat}(h:OREL E w r o)(hb:E.β r=some b):b<w.heap.size:=by
  have key:∀ {x:Obj},w.heap[b]?=some x→b<w.heap.size:=fun {x} hx=>by
    rcases Nat.lt_or_ge b w.heap.size with hh | hh
    · exact hh
    · rw[Array.getElem?_eq_none hh]at hx;exact absurd hx (by simp)
  cases o with
  | box T c=>
    obtain⟨b',cs,t,fr,h1,h2,h3,_⟩:=h
    rw[h1]at hb;injection hb with hb;subst hb
    exact key h3
  | mp K V l=>
    obtain⟨b',es,ck,h1,h2,h3,_⟩:=h
    rw[h1]at hb;injection hb with hb;subst hb
    exact key h3
  | row e l=>
    obtain⟨N,h1,h2⟩:=h
    rw[hb]at h2
    obtain⟨cs,t,fr,c1,c2,g1,_⟩:=h2
    exact key g1
theorem EREL.lt [Gl]{r:Nat}{e:Ent}{b:Nat}(h:EREL E w r e)(he:e.has=true)(hb:E.β r=some b):b<w.heap.size:=by
  cases e with
  | un=>simp[Ent.has]at he
  | dead=>simp[Ent.has]at he
  | live o=>exact h.2.lt hb
  | froz e l=>exact h.2.1.lt hb
theorem OREL.ext {E':Env}{r:Nat}{o:Obj'}(h:Ext P0 E w E' w')(hL:E'.L r=E.L r)(hβ:E'.β r=E.β r)
    (hw:∀ b,E.β r=some b→w'.heap[b]?=w.heap[b]?) (k2:OREL E w r o):OREL E' w' r o:=by
  cases o with
  | box T c=>
    obtain⟨b,cs,t,fr,h1,h2,h3,h4,h5,h6⟩:=k2
    exact⟨b,cs,t,fr,hβ.trans h1,hL.trans h2,(hw b h1).trans h3,h4,h5,C.ext h _ _ h6⟩
  | mp K V l=>
    obtain⟨b,es,ck,h1,h2,h3,h4⟩:=k2
    exact⟨b,es,ck,hβ.trans h1,hL.trans h2,(hw b h1).trans h3,MpL.ext h _ _ h4.1,h4.2⟩
  | row e l=>
    obtain⟨N,h1,h2⟩:=k2
    refine⟨N,hL.trans h1,?_⟩
    rw[hβ]
    split at h2
    · rename_i b hb
      obtain⟨cs,t,fr,c1,c2,g1,g2,g3,g4,g5⟩:=h2
      exact⟨cs,t,fr,c1,c2,(hw b hb).trans g1,g2,g3,g4,RdL.mono (λx c=>Rd.keep h.keep h.s e x c) _ _ g5⟩
    · exact h2
theorem EREL.ext' [Gl]{E':Env}{r:Nat}{e:Ent}(h:Ext P0 E w E' w')(hU:E'.U r↔E.U r)(hL:E'.L r=E.L r)(hβ:E'.β r=E.β r)
    (hw:e.has=true→∀ b,E.β r=some b→w'.heap[b]?=w.heap[b]?) (k:EREL E w r e):EREL E' w' r e:=by
  cases e with
  | un=>exact⟨λhu=>k.1 (hU.1 hu),hL.trans k.2⟩
  | dead=>exact⟨hU.2 k.1,hL.trans k.2⟩
  | live o=>exact⟨hU.2 k.1,k.2.ext h hL hβ (hw rfl)⟩
  | froz e l=>exact⟨hU.2 k.1,k.2.1.ext h hL hβ (hw rfl),λb hb=>h.s b (k.2.2 b (hβ ▸ hb))⟩
theorem HREL.grow [Gl](h:HREL P0 S0 E look w)(g:Grow w w'):HREL P0 S0 E look w':=
  ⟨λr=>(h.ent r).ext' (.grow (P0:=P0) g) Iff.rfl rfl rfl (λhe b hb=>g.block b ((h.ent r).lt he hb)),h.inj,h.sep,
    λb hb=>Nat.lt_of_lt_of_le (h.sIn b hb) g.size,λb hb=>Nat.lt_of_lt_of_le (h.pIn b hb) g.size,h.s0,h.gl.ext (.grow (P0:=P0) g)⟩
def Env.new (E:Env)(q:Nat)(b:Option Nat)(L:Lay):Env:=
  { β:=λr=>if r=q then b else E.β r,L:=λr=>if r=q then some L else E.L r,U:=λr=>r=q∨E.U r,S:=E.S }
theorem Ext.new {q:Nat}{b:Option Nat}{L:Lay}(g:Grow w w')(hq:¬ E.U q):Ext P0 E w (E.new q b L) w':=
  ⟨λ_ h=>h,g.keep _,g.keep _,λr hr=>by
    have hne:r≠q:=λe=>hq (e ▸ hr)
    exact⟨.inr hr,.inr ⟨by simp[Env.new,hne],by simp[Env.new,hne]⟩⟩⟩
theorem HREL.new [Gl] (h:HREL P0 S0 E look w) {q:Nat} {b:Option Nat} {L:Lay} {o:Obj'} (hq:look q = .un) (g:Grow w w')
    (hb:∀ x,b=some x→w.heap.size≤x) (ho:OREL (E.new q b L) w' q o) :
    HREL P0 S0 (E.new q b L) (upd1 q (.live o) look) w'∧Ext P0 E w (E.new q b L) w':=by
  have hu:¬ E.U q:=λhu=>(h.U_iff q).1 hu hq
  have hx:Ext P0 E w (E.new q b L) w' := .new g hu
  refine⟨⟨λr => ?_,?_,?_,λx hx=>Nat.lt_of_lt_of_le (h.sIn x hx) g.size,λx hx=>Nat.lt_of_lt_of_le (h.pIn x hx) g.size,h.s0,h.gl.ext hx⟩,hx⟩
  · by_cases hr:r=q
    · subst hr;rw[ycF];exact⟨.inl rfl,ho⟩
    · rw[ycd _ _ hr]
      exact (h.ent r).ext' hx (by simp[Env.new,hr]) (by simp[Env.new,hr]) (by simp[Env.new,hr]) (λhe x hx=>g.block x ((h.ent r).lt he hx))
  · intro r r' x h1 h2 h3 h4
    by_cases hr:r=q
    · by_cases hr':r'=q
      · rw[hr,hr']
      · rw[ycd _ _ hr']at h2
        subst hr
        simp only[Env.new,if_true]at h3
        simp only[Env.new,hr',if_false]at h4
        have:=(h.ent r').lt (by cases hl:look r'<;>simp_all [Ent.isLive,Ent.has]) h4
        have:=hb x h3
        omega
    · by_cases hr':r'=q
      · rw[ycd _ _ hr]at h1
        subst hr'
        simp only[Env.new,if_true]at h4
        simp only[Env.new,hr,if_false]at h3
        have:=(h.ent r).lt (by cases hl:look r<;>simp_all [Ent.isLive,Ent.has]) h3
        have:=hb x h4
        omega
      · rw[ycd _ _ hr]at h1
        rw[ycd _ _ hr']at h2
        simp only[Env.new,hr,hr',if_false]at h3 h4
        exact h.inj r r' x h1 h2 h3 h4
  · intro r x h1 h2
    by_cases hr:r=q
    · subst hr
      simp only[Env.new,if_true]at h2
      have h3:=hb x h2
      exact⟨λhs=>by have:=h.sIn x hs;omega,λhp=>by have:=h.pIn x hp;omega⟩
    · rw[ycd _ _ hr]at h1
      simp only[Env.new,hr,if_false]at h2
      exact h.sep r x h1 h2
theorem Ext.wr {b:Nat}(g:Wr w w' b)(hs:¬ E.S b)(hp:¬ P0 b):Ext P0 E w E w':=
  ⟨λ_ h=>h,g.keep hs,g.keep hp,λ_ h=>⟨h,.inr ⟨rfl,rfl⟩⟩⟩
theorem HREL.notb [Gl](h:HREL P0 S0 E look w){r r' b x:Nat}(hl:(look r).isLive=true)(hβ:E.β r=some b)(hr:r'≠r)(he:(look r').has=true)(hx:E.β r'=some x):x≠b:=by
  intro e;subst e
  cases hl':look r' with
  | un=>rw[hl']at he;simp[Ent.has]at he
  | dead=>rw[hl']at he;simp[Ent.has]at he
  | live o=>exact hr (h.inj r' r x (by rw[hl'];rfl) hl hx hβ)
  | froz e l=>
    have:=h.ent r'
    rw[hl']at this
    exact (h.sep r x hl hβ).1 (this.2.2 x hx)
theorem HREL.write [Gl](h:HREL P0 S0 E look w){r b:Nat}{o:Obj'}(hl:(look r).isLive=true)(hβ:E.β r=some b)(g:Wr w w' b)(ho:OREL E w' r o) :
    HREL P0 S0 E (upd1 r (.live o) look) w'∧Ext P0 E w E w':=by
  obtain⟨hs,hp⟩:=h.sep r b hl hβ
  have hx:Ext P0 E w E w' := .wr g hs hp
  have hu:E.U r:=(h.U_iff r).2 (λe=>by rw[e]at hl;simp[Ent.isLive]at hl)
  refine⟨⟨λq => ?_,?_,?_,λx hx=>g.size ▸ h.sIn x hx,λx hx=>g.size ▸ h.pIn x hx,h.s0,h.gl.ext hx⟩,hx⟩
  · by_cases hr:q=r
    · subst hr;rw[ycF];exact⟨hu,ho⟩
    · rw[ycd _ _ hr]
      exact (h.ent q).ext' hx Iff.rfl rfl rfl (λhe x hx=>g.block x (h.notb hl hβ hr he hx))
  · intro q q' x h1 h2 h3 h4
    refine h.inj q q' x ?_ ?_ h3 h4
    · by_cases hr:q=r
      · rw[hr];exact hl
      · rwa [ycd _ _ hr]at h1
    · by_cases hr:q'=r
      · rw[hr];exact hl
      · rwa [ycd _ _ hr]at h2
  · intro q x h1 h2
    refine h.sep q x ?_ h2
    by_cases hr:q=r
    · rw[hr];exact hl
    · rwa [ycd _ _ hr]at h1
def Env.kill (E:Env)(q:Nat):Env:={ E with L:=λr=>if r=q then none else E.L r }
theorem Ext.kill (E:Env)(w:World)(q:Nat):Ext P0 E w (E.kill q) w:=
  ⟨λ_ h=>h,.refl _ _,.refl _ _,λr hr=>⟨hr,by
    by_cases h:r=q
    · exact .inl (by simp[Env.kill,h])
    · exact .inr ⟨by simp[Env.kill,h],rfl⟩⟩⟩
theorem HREL.kill [Gl] (h:HREL P0 S0 E look w) {q:Nat} (hq:look q ≠ .un):HREL P0 S0 (E.kill q) (upd1 q .dead look) w:=by
  refine⟨λr => ?_,?_,?_,h.sIn,h.pIn,h.s0,h.gl⟩
  · by_cases hr:r=q
    · subst hr;rw[ycF];exact⟨(h.U_iff r).2 hq,by simp[Env.kill]⟩
    · rw[ycd _ _ hr]
      exact (h.ent r).ext' (.kill (P0:=P0) E w q) Iff.rfl (by simp[Env.kill,hr]) rfl (λ_ _ _=>rfl)
  · intro r r' x h1 h2 h3 h4
    by_cases hr:r=q
    · subst hr;rw[ycF]at h1;simp[Ent.isLive]at h1
    · by_cases hr':r'=q
      · subst hr'; rw[ycF]at h2;simp[Ent.isLive]at h2
      · rw[ycd _ _ hr]at h1;rw[ycd _ _ hr']at h2
        exact h.inj r r' x h1 h2 h3 h4
  · intro r x h1 h2
    by_cases hr:r=q
    · subst hr;rw[ycF]at h1;simp[Ent.isLive]at h1
    · rw[ycd _ _ hr]at h1;exact h.sep r x h1 h2
def Env.shut (E:Env)(q:Nat):Env:={ E with S:=λb=>E.S b∨E.β q=some b }
theorem Ext.shut {q:Nat}:Ext P0 E w (E.shut q) w:=⟨λ_ h => .inl h,.refl _ _,.refl _ _,λ_ h=>⟨h,.inr ⟨rfl,rfl⟩⟩⟩
theorem HREL.shut [Gl] (h:HREL P0 S0 E look w) {q:Nat} {e:Ty} {l:List (Den e)} (hq:look q = .live (.row e l)) :
    HREL P0 S0 (E.shut q) (upd1 q (.froz e l) look) w∧Ext P0 E w (E.shut q) w:=by
  have hl:(look q).isLive=true:=by rw[hq];rfl
  refine⟨⟨λr => ?_,?_,?_,?_,h.pIn,?_,h.gl.ext (.shut (P0:=P0))⟩,.shut⟩
  · by_cases hr:r=q
    · subst hr;rw[ycF]
      have:=h.ent r
      rw[hq]at this
      exact⟨this.1,this.2.ext (.shut (P0:=P0)) rfl rfl (λ_ _=>rfl),λb hb => .inr hb⟩
    · rw[ycd _ _ hr]
      exact (h.ent r).ext' (.shut (P0:=P0)) Iff.rfl rfl rfl (λ_ _ _=>rfl)
  · intro r r' x h1 h2 h3 h4
    by_cases hr:r=q
    · subst hr;rw[ycF]at h1;simp[Ent.isLive]at h1
    · by_cases hr':r'=q
      · subst hr'; rw[ycF]at h2;simp[Ent.isLive]at h2
      · rw[ycd _ _ hr]at h1;rw[ycd _ _ hr']at h2
        exact h.inj r r' x h1 h2 h3 h4
  · intro r x h1 h2
    by_cases hr:r=q
    · subst hr;rw[ycF]at h1;simp[Ent.isLive]at h1
    · rw[ycd _ _ hr]at h1
      refine⟨λhs => ?_,(h.sep r x h1 h2).2⟩
      rcases hs with hs | hs
      · exact (h.sep r x h1 h2).1 hs
      · exact hr (h.inj r q x h1 hl h2 hs)
  · intro b hb
    rcases hb with hb | hb
    · exact h.sIn b hb
    · exact (h.ent q).lt (by rw[hq];rfl) hb
  · intro b hb
    rcases hb with hb | hb
    · exact h.s0 b hb
    · exact .inr (h.sep q b hl hb).2
theorem HREL.addS [Gl](h:HREL P0 S0 E look w){b:Nat}(hn:∀ r,(look r).isLive=true→E.β r≠some b)(hp:¬ P0 b)(hb:b<w.heap.size) :
    HREL P0 S0 { E with S:=λx=>E.S x∨x=b } look w∧Ext P0 E w { E with S:=λx=>E.S x∨x=b } w:=by
  have hx:Ext P0 E w { E with S:=λx=>E.S x∨x=b } w:=⟨λ_ h => .inl h,.refl _ _,.refl _ _,λ_ h=>⟨h,.inr ⟨rfl,rfl⟩⟩⟩
  refine⟨⟨λr=>(h.ent r).ext' hx Iff.rfl rfl rfl (λ_ _ _=>rfl),h.inj,λr x h1 h2=>⟨λhs => ?_,(h.sep r x h1 h2).2⟩,λx hs => ?_,h.pIn,λx hs => ?_,h.gl.ext hx⟩,hx⟩
  · rcases hs with hs | hs
    · exact (h.sep r x h1 h2).1 hs
    · exact hn r h1 (hs ▸ h2)
  · rcases hs with hs | hs
    · exact h.sIn x hs
    · exact hs ▸ hb
  · rcases hs with hs | hs
    · exact h.s0 x hs
    · exact .inr (hs ▸ hp)
theorem HREL.adopt [Gl] (h:HREL P0 S0 E look w) {q b:Nat} {L:Lay} {o:Obj'} (hq:look q = .un) (g:Wr w w' b)
    (hs:¬ E.S b) (hp:¬ P0 b) (hn:∀ r,(look r).isLive=true→E.β r≠some b) (ho:OREL (E.new q (some b) L) w' q o) :
    HREL P0 S0 (E.new q (some b) L) (upd1 q (.live o) look) w'∧Ext P0 E w (E.new q (some b) L) w':=by
  have hu:¬ E.U q:=λhu=>(h.U_iff q).1 hu hq
  have hx:Ext P0 E w (E.new q (some b) L) w':=⟨λ_ h=>h,g.keep hs,g.keep hp,λr hr=>by
    have hne:r≠q:=λe=>hu (e ▸ hr)
    exact⟨.inr hr,.inr ⟨by simp[Env.new,hne],by simp[Env.new,hne]⟩⟩⟩
  have hne:∀ r x,(look r).has=true→E.β r=some x→x≠b:=by
    intro r x h1 h2 e;subst e
    cases hl:look r with
    | un=>rw[hl]at h1;simp[Ent.has]at h1
    | dead=>rw[hl]at h1;simp[Ent.has]at h1
    | live o=>exact hn r (by rw[hl];rfl) h2
    | froz e l=>
      have:=h.ent r
      rw[hl]at this
      exact hs (this.2.2 x h2)
  refine⟨⟨λr => ?_,?_,?_,λx hx=>g.size ▸ h.sIn x hx,λx hx=>g.size ▸ h.pIn x hx,h.s0,h.gl.ext hx⟩,hx⟩
  · by_cases hr:r=q
    · subst hr;rw[ycF];exact⟨.inl rfl,ho⟩
    · rw[ycd _ _ hr]
      exact (h.ent r).ext' hx (by simp[Env.new,hr]) (by simp[Env.new,hr]) (by simp[Env.new,hr]) (λhe x hx=>g.block x (hne r x he hx))
  · intro r r' x h1 h2 h3 h4
    by_cases hr:r=q
    · by_cases hr':r'=q
      · rw[hr,hr']
      · rw[ycd _ _ hr']at h2
        subst hr
        simp only[Env.new,if_true]at h3
        simp only[Env.new,hr',if_false]at h4
        injection h3 with h3
        exact absurd h4 (h3 ▸ hn r' h2)
    · by_cases hr':r'=q
      · rw[ycd _ _ hr]at h1
        subst hr'
        simp only[Env.new,if_true]at h4
        simp only[Env.new,hr,if_false]at h3
        injection h4 with h4
        exact absurd h3 (h4 ▸ hn r h1)
      · rw[ycd _ _ hr]at h1
        rw[ycd _ _ hr']at h2
        simp only[Env.new,hr,hr',if_false]at h3 h4
        exact h.inj r r' x h1 h2 h3 h4
  · intro r x h1 h2
    by_cases hr:r=q
    · subst hr
      simp only[Env.new,if_true]at h2
      injection h2 with h2;subst h2
      exact⟨hs,hp⟩
    · rw[ycd _ _ hr]at h1
      simp only[Env.new,hr,if_false]at h2
      exact h.sep r x h1 h2
end
end Go.Va
