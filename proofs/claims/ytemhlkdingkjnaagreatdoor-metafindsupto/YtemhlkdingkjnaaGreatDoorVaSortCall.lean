/- slices.SortFunc over a row that is known cell by cell. -/
import Derived.Test.YtemhlkdingkjnaaGreatDoorVaRange
import Derived.Test.YtemhlkdingkjnaaGreatDoorVaSort
set_option linter.unusedVariables false
set_option linter.unusedSimpArgs false
namespace Go.Va
open Go
def RowAt (w:World)(S:Nat→Prop)(e:Ty)(b:Nat)(l:List (Den e)):Prop:=∃ cs t fr c1 c2,w.heap[b]?=some (.cells cs t fr)∧NoFr cs.size fr∧cs.toList=c1++c2∧RdL (Rd S w e) l c1
theorem sort_calls [Gl] {P:Program} {fid g:Nat} {e:Ty} {lt:Den e→Den e→Bool} (hok:EntryOk P (sortEn fid g e lt)) {l:List (Den e)} (hlen:l.length<4611686018427387904) (hp:Part lt l) {w:World} {S:Nat→Prop} (hS:∀ b,S b→b<w.heap.size)
    (hgl:(∀ p∈Gl.tab,S p.1∧∃ cs,p.2 cs∧At w ⟨p.1,0,none⟩ cs)∧∀ p∈Gl.ex,S p.1∧∃ o,w.heap[p.1]?=some o∧p.2 o) {b cap:Nat} (hb:¬ S b) (h:RowAt w S e b l) (hc:l.length≤cap) (hcs:∀ cs t fr,w.heap[b]?=some (.cells cs t fr)→cap*e.sz≤cs.size) :
    Calls P fid #[.slice (some ⟨b,0,none⟩) l.length cap,.func (.func g) #[] #[]] w λen w'=>en = .returned (.tuple #[])∧w.grownBy w' (some b)∧∃ S',RowAt w' S' e b (sortD lt l):=by
  obtain⟨cs,t,fr,c1,c2,k1,k2,k3,k4⟩:=h
  have hbl:b<w.heap.size:=(Array.getElem?_eq_some_iff.1 k1).1
  let E:Env:=⟨λr=>if r=1 then some b else none,λr=>if r=1 then some ⟨.row e,cs.size,l.length⟩ else none,λr=>r=1,S⟩
  let look:Nat→Ent:=upd1 1 (.live (.row e l)) λ_ => .un
  have hl1:look 1 = .live (.row e l):=rfl
  have hln:∀ r,r≠1→look r = .un:=λr hr=>ycd _ _ hr
  have hh:HREL (λk=>k<w.heap.size∧k≠b) S E look w:=by
    refine⟨λr => ?_,λr r' b' h1 h2 _ _ => ?_,λr b' h1 h2 => ?_,hS,λk hk=>hk.1,λk hk => .inl hk,hgl⟩
    · by_cases hr:r=1
      · subst hr
        rw[hl1]
        exact⟨rfl,cs.size,rfl,(⟨cs,t,fr,c1,c2,k1,k2,rfl,k3,k4⟩:∃ cs' t' fr' c1' c2',w.heap[b]?=some (.cells cs' t' fr')∧NoFr cs'.size fr'∧cs'.size=cs.size∧cs'.toList=c1'++c2'∧RdL (Rd S w e) l c1')⟩
      · rw[hln r hr]
        exact⟨hr,if_neg hr⟩
    · by_cases hr:r=1
      · by_cases hr':r'=1
        · rw[hr,hr']
        · rw[hln r' hr']at h2;exact nomatch h2
      · rw[hln r hr]at h1;exact nomatch h1
    · by_cases hr:r=1
      · subst hr
        have h2:some b=some b':=h2
        injection h2 with h2
        subst h2
        exact⟨hb,λhh=>hh.2 rfl⟩
      · rw[hln r hr]at h1;exact nomatch h1
  have hrun:(sortEn fid g e lt).run 0 0 [.ow 1 e none,.fn g .done] look (λv RN WN=>some (v,RN,WN))=some (AV.tup .done,[1],[(1,Ent.live (.row e (sortD lt l)))]):=by
    unfold sortEn
    simp only[hl1,and_self,dif_pos,beq_self_eq_true,if_true]
    rw[yaq ⟨hlen,hp⟩]
  obtain⟨v,RN,WN,e1,e2,_⟩:=hok.run _ 0 0 [.ow 1 e none,.fn g .done] look (λv RN WN=>some (v,RN,WN)) _ hrun
  injection e1 with e1
  injection e1 with e1 e3
  injection e3 with e3 e4
  subst e1;subst e4
  have hcc:=hcs cs t fr k1
  have hargs:C E w (ycn [.ow 1 e none,.fn g .done]) [.slice (some ⟨b,0,none⟩) l.length cap,.func (.func g) #[] #[]]:=by
    refine⟨_,_,rfl,?_,_,_,rfl,?_,rfl⟩
    · rw[if_neg (by simp[AV.isAgg])]
      refine⟨_,_,_,rfl,rfl,λL hL => ?_⟩
      have hL:some (⟨.row e,cs.size,l.length⟩:Lay)=some L:=hL
      injection hL with hL
      subst hL
      refine⟨rfl,0,⟨rfl,rfl⟩,by simp,?_⟩
      have q:(cap=0∨some (⟨b,0,none⟩:Addr)=some ⟨b,0*e.sz,none⟩)∧l.length≤cap∧(0+cap)*e.sz≤cs.size∧l.length≤0+cap:=⟨.inr (by simp),hc,by simpa using hcc,by simpa using hc⟩
      exact q
    · rw[if_neg (by simp[AV.isAgg])]
      exact⟨#[],rfl,rfl⟩
  refine (e2 _ S E w _ hh hargs).mono ?_
  rintro en w' ⟨x,rfl,E',g1,g2,g3⟩
  have hx:x = .tuple #[]:=by
    rw[V_one rfl]at g3
    obtain⟨vs,q1,q2⟩:=g3
    injection q1 with q1
    have q2:vs.toList=[]:=q2
    rw[q1,Array.toList_eq_nil_iff.1 q2]
  refine⟨by rw[hx],⟨g2.keepP.os,g2.keepP.tape,g2.keepP.output,g2.keepP.size,λk hk hne => ?_⟩,E'.S,?_⟩
  · exact g2.keepP.block k ⟨hk,λe=>hne (by rw[e])⟩ hk
  · have hent:=g1.ent 1
    have hlk:updL [(1,Ent.live (.row e (sortD lt l)))] look 1 = .live (.row e (sortD lt l)):=by
      rw[ycy,ydL];rfl
    rw[hlk]at hent
    obtain⟨_,N,hN,hβ⟩:=hent
    obtain⟨_,ho⟩:=g2.obj 1 rfl
    rcases ho with ho | ⟨_,ho⟩
    · rw[ho]at hN;exact nomatch hN
    · rw[ho]at hβ
      have hβ:∃ cs' t' fr' c1' c2',w'.heap[b]?=some (.cells cs' t' fr')∧NoFr cs'.size fr'∧cs'.size=N∧cs'.toList=c1'++c2'∧RdL (Rd E'.S w' e) (sortD lt l) c1':=hβ
      obtain⟨cs',t',fr',d1,d2,q1,q2,q3,q4,q5⟩:=hβ
      exact⟨cs',t',fr',d1,d2,q1,q2,q4,q5⟩
end Go.Va
