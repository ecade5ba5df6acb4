/-
  Va, part 17: append: the whole.
-/
import Derived.Test.YtemhlkdingkjnaaGreatDoorVaOps7
set_option linter.unusedVariables false
set_option linter.unusedSimpArgs false
namespace Go.Va
open Go
section
variable {P:Program} {P0 S0:Nat→Prop} {E:Env} {look:Nat→Ent} {w w':World}
theorem run_append_fits [Gl]{t t2 u:TypeId}{T2:Ty}{e:Ty}{l:List (Den e)}{a:Option Addr}{n cap:Nat}{x:Value}{cs:List Value}
    (h1:P.underlying t=some (.slice u)) (h2:TyIs P e u) (h3:TyIs P T2 t2) (h4:T2.sl=true)
    (g2:(Builtin.lenOf x).run P w = .ok l.length w) (g3:(Builtin.firstCells e.sz l.length x).run P w = .ok cs.toArray w) (hneed:n+l.length≤cap)
    (hst:match a with | some ad=>(storeCells (ad.add (n*e.sz)) cs).run P w = .ok () w' | none=>w'=w) :
    (Builtin.append_ #[t,t2] t #[.slice a n cap,x]).run P w = .ok (.slice a (n+l.length) cap) w':=by
  obtain⟨ty2,hu2⟩:=und h3
  have hz2:ty2 = .string∨∃ u',ty2 = .slice u':=by
    cases T2 with
    | slice e'=>obtain⟨⟨u',hu',_⟩,_⟩:=h3;rw[hu2]at hu'; injection hu' with hu'; exact .inr ⟨_,hu'⟩
    | str=>have:=h3.1;rw[hu2]at this;injection this with this;exact .inl this
    | _=>simp[Ty.sl]at h4
  unfold Builtin.append_
  simp only[List.getElem?_toArray,List.getElem?_cons_zero,List.getElem?_cons_succ,Sem.run_bind,run_underlying h1,Result.andThen_ok,run_sizeOf h2,run_underlying hu2]
  rcases hz2 with rfl | ⟨u',rfl⟩
  all_goals
    simp only[Sem.run_pure,Result.andThen_ok,Bool.false_eq_true,if_false,g2,if_pos hneed,Sem.run_bind,Bool.not_false,if_true,g3]
    cases a with
    | none=>simp only at hst;subst hst;rfl
    | some ad=>simp only[Sem.run_bind,hst,Result.andThen_ok,Sem.run_pure]
theorem C_ow_ext [Gl] {r:Nat} {e:Ty} {rng:Option (Nat×Nat)} {x:Value} {N M:Nat} (hv:V E w (.ow r e rng) x) (hL:E.L r=some ⟨.row e,N,M⟩) :
    ∃ a lo len cap,x = .slice a len cap∧rngOf M rng=(lo,len)∧lo+len≤M ∧
      (match E.β r with
        | some b=>(cap=0∨a=some ⟨b,lo*e.sz,none⟩)∧len≤cap∧(lo+cap)*e.sz≤N∧M≤lo+cap
        | none=>cap=0):=by
  rw[V_one rfl]at hv
  obtain⟨a,len,cap,he,hU,hk⟩:=hv
  injection he with he _
  obtain⟨_,lo,g1,g2,g3⟩:=hk _ hL
  refine⟨a,lo,len,cap,he,?_,g2,g3⟩
  cases rng with
  | none=>obtain⟨rfl,rfl⟩:=g1;rfl
  | some p=>obtain⟨rfl,rfl⟩:=g1;rfl
theorem append_own [Gl] {q r:Nat} {t t2 u:TypeId} {T2:Ty} {e:Ty} {l l2:List (Den e)} {x y:Value} {i:TypeInfo}
    (h1:P.underlying t=some (.slice u)) (h2:TyIs P e u) (h3:TyIs P T2 t2) (h4:T2.sl=true) (hi:P.info? u=some i) (hb1:1≤i.bytes) (hb2:i.bytes≤1048576)
    (h:HREL P0 S0 E look w) (hl:look r = .live (.row e l)) (hq:look q = .un) (hv:V E w (.ow r e none) x) (hs:SrcOk P E w e l2 y) (hbound:(l.length+l2.length)*i.bytes≤70368744177664) :
    ∃ z w',(Builtin.append_ #[t,t2] t #[x,y]).run P w = .ok z w'∧OpPost P0 S0 E look w (.ow q e none) [(q,.live (.row e (l++l2))),(r,.dead)] z w':=by
  have hent:=h.ent r
  rw[hl]at hent
  obtain⟨hU,N,hL,hO⟩:=hent
  have hqr:q≠r:=λe=>by rw[e,hl]at hq;exact absurd hq (by simp)
  obtain⟨a,lo,len,cap,rfl,e1,g2,g3⟩:=C_ow_ext hv hL
  simp only[rngOf]at e1
  injection e1 with e1 e2;subst e1 e2
  have hk:=h.kill (q:=r) (by rw[hl];simp)
  have hxk:Ext P0 E w (E.kill r) w := .kill E w r
  have hq1:upd1 r .dead look q = .un:=by rw[ycd _ _ hqr];exact hq
  have hun:¬ (E.kill r).U q:=λhu=>(h.U_iff q).1 hu hq
  obtain⟨cs,s1,s2,s3⟩:=hs
  have hlcs:cs.length=l2.length*e.sz:=RdL.length (λx c=>Rd.length E.S w e x c) _ _ s1
  have hupd:updL [(q,.live (.row e (l++l2))),(r,.dead)] look=upd1 q (.live (.row e (l++l2))) (upd1 r .dead look):=by
    rw[ycy,ycy,ydL]
  by_cases hneed:l.length+l2.length≤cap
  · -- within the capacity
    cases hβ:E.β r with
    | none=>
      rw[hβ]at hO g3
      simp only at hO g3
      subst hO g3
      simp only[List.length_nil,Nat.zero_add]at hneed
      have:l2=[]:=by apply List.eq_nil_of_length_eq_zero;omega
      subst this
      have hcs:cs=[]:=s1
      subst hcs
      have hrun:=run_append_fits (l:=([]:List (Den e))) (a:=a) (n:=0) (cap:=0) (w':=w) h1 h2 h3 h4 s2 (s3 w (λ_=>rfl)) (by simp) (by
        cases a with
        | none=>rfl
        | some ad=>rfl)
      refine⟨_,_,hrun,?_⟩
      obtain⟨k1,k2⟩:=hk.new (w':=w) (q:=q) (b:=none) (L:=⟨.row e,0,0⟩) (o := .row e []) hq1 (.refl w) (λx hx=>by simp at hx)
        ⟨0,by simp[Env.new],by simp[Env.new]⟩
      refine⟨_,by rw[hupd];exact k1,hxk.trans k2,?_⟩
      rw[V_one rfl]
      refine⟨a,_,0,rfl,.inl rfl,λL hL' => ?_⟩
      simp only[Env.new,if_true]at hL'
      injection hL' with hL'; subst hL'
      exact⟨rfl,0,⟨rfl,rfl⟩,by simp,by simp[Env.new]⟩
    | some b=>
      rw[hβ]at hO g3
      obtain⟨ha,g4,g5,g6⟩:=g3
      obtain⟨bc,ty,fr,c1,c2,m1,m2,m3,m4,m5⟩:=hO
      have hlc1:c1.length=l.length*e.sz:=RdL.length (λx c=>Rd.length E.S w e x c) _ _ m5
      have hsep:=h.sep r b (by rw[hl];rfl) hβ
      -- the write
      obtain ⟨w', n1,n2,n3⟩:∃ w',(match a with | some ad=>(storeCells (ad.add (l.length*e.sz)) cs).run P w = .ok () w' | none=>w'=w)∧Wr w w' b ∧
          ∃ rest:List Value,w'.heap[b]?=some (.cells (c1++cs++rest).toArray ty fr)∧(c1++cs++rest).length=bc.size:=by
        rcases ha with ha | ha
        · -- no capacity, nothing to write
          have hl0:l=[]:=List.eq_nil_of_length_eq_zero (by omega)
          have hl2:l2=[]:=List.eq_nil_of_length_eq_zero (by omega)
          subst hl0 hl2
          have hcs:cs=[]:=s1
          subst hcs
          refine⟨w,by cases a<;>rfl,.refl w b,c2,?_,?_⟩
          · rw[m1]
            have:bc=(c1++c2).toArray:=by rw[← m4]
            rw[this];simp
          · rw[← Array.length_toList,m4];simp
        · subst ha
          have hsz:(l.length+l2.length)*e.sz≤bc.size:=by
            rw[m3]
            refine Nat.le_trans (Nat.mul_le_mul_right _ hneed) ?_
            simpa using g5
          have hbcl:bc.toList.length=bc.size:=by simp
          obtain⟨w',n1,n2,n3⟩:=run_storeCells (P:=P) cs 0 w b (l.length*e.sz) bc.toList ty fr (by rw[m1]) (by simpa using m2)
            (by rw[hlcs,hbcl,Nat.add_zero,← Nat.add_mul];exact hsz) (λv hv=>by
              have:∀ (l2:List (Den e)) (cs:List Value),RdL (Rd E.S w e) l2 cs→∀ v∈cs,v.oneCell'=true:=by
                intro l2
                induction l2 with
                | nil=>intro cs h v hv;simp only[RdL]at h;subst h;simp at hv
                | cons x l2 ih=>
                  intro cs h v hv
                  obtain⟨d1,d2,rfl,q1,q2⟩:=h
                  rcases List.mem_append.1 hv with hv | hv
                  · exact Rd.one _ _ _ _ _ q1 v hv
                  · exact ih _ q2 v hv
              exact this l2 cs s1 v hv)
          refine⟨w',?_,n2,bc.toList.drop (l.length*e.sz+cs.length),?_,?_⟩
          · simp only[Nat.zero_mul]
            rw[Addr.add_eq rfl,Nat.zero_add];exact n1
          · rw[n3,Nat.add_zero,m4,← hlc1,List.take_left]
          · rw[List.length_append,List.length_append,List.length_drop,hbcl,hlc1,hlcs]
            rw[Nat.add_mul]at hsz
            omega
      obtain⟨rest,n3,n4⟩:=n3
      have hrun:=run_append_fits (l:=l2) (a:=a) (n:=l.length) (cap:=cap) (w':=w') h1 h2 h3 h4 s2 (s3 w (λ_=>rfl)) hneed n1
      refine⟨_,_,hrun,?_⟩
      have hx1:Ext P0 (E.kill r) w ((E.kill r).new q (some b) ⟨.row e,bc.size,(l++l2).length⟩) w':=
        ⟨λ_ h=>h,n2.keep hsep.1,n2.keep hsep.2,λp hp=>by
          have hne:p≠q:=λe=>hun (e ▸ hp)
          exact⟨.inr hp,.inr ⟨by simp[Env.new,hne],by simp[Env.new,hne]⟩⟩⟩
      have hx2:=hxk.trans hx1
      obtain⟨k1,k2⟩:=hk.adopt (w':=w') (q:=q) (b:=b) (L:=⟨.row e,bc.size,(l++l2).length⟩) (o := .row e (l++l2)) hq1 n2 hsep.1 hsep.2 (λp hp hβp=>by
          by_cases hpr:p=r
          · subst hpr;rw[ycF]at hp;simp[Ent.isLive]at hp
          · rw[ycd _ _ hpr]at hp
            exact hpr (h.inj p r b hp (by rw[hl];rfl) hβp hβ))
        ⟨bc.size,by simp[Env.new],by
          simp only[Env.new,if_true]
          refine⟨_,ty,fr,c1++cs,rest,n3,by rw[List.size_toArray,n4];exact m2,by rw[List.size_toArray,n4],by simp,?_⟩
          exact RdL.append _ _ _ _ (RdL.mono (λx c=>Rd.keep hx2.keep hx2.s e x c) _ _ m5) (RdL.mono (λx c=>Rd.keep hx2.keep hx2.s e x c) _ _ s1)⟩
      refine⟨_,by rw[hupd];exact k1,hxk.trans k2,?_⟩
      rw[V_one rfl]
      refine⟨a,_,cap,by rw[← List.length_append],.inl rfl,λL hL' => ?_⟩
      simp only[Env.new,if_true]at hL'
      injection hL' with hL'; subst hL'
      refine⟨rfl,0,⟨rfl,rfl⟩,by simp,?_⟩
      simp only[Env.new,if_true]
      rw[List.length_append]
      exact⟨ha,hneed,by rw[m3];exact g5,by omega⟩
  · -- it grows
    have hold:∃ old:List Value,RdL (Rd E.S w e) l old∧∀ w',(∀ b:Nat,w'.heap[b]?=w.heap[b]?)→(Builtin.firstCells e.sz l.length (.slice a l.length cap)).run P w' = .ok old.toArray w':=by
      have hO':OREL E w r (.row e l):=⟨N,hL,hO⟩
      obtain⟨v,q1,q2,_⟩:=ow_rd hO' (by rw[V_one rfl]at hv;exact hv)
      injection q1 with q1 _;subst q1
      simp only[rngOf,List.drop_zero,List.take_length]at q2
      obtain⟨old,o1,_,o3⟩:=q2.src (P:=P)
      exact⟨old,o1,o3⟩
    obtain⟨old,o1,o2⟩:=hold
    have hol:old.length=l.length*e.sz:=RdL.length (λx c=>Rd.length E.S w e x c) _ _ o1
    obtain⟨cs',newCap,w',r1,r2,r3,r4,rest,r5,r6⟩:=run_append_grow h1 h2 h3 h4 hi hb1 hb2 ⟨cs,s1,s2,s3⟩ hbound hneed o2 hol
    refine⟨_,_,r2,?_⟩
    have hp:=post_row (P0:=P0) (S0:=S0) (look:=upd1 r .dead look) (E:=E.kill r) (w:=w) (w':=w') (q:=q) (e:=e) (l:=l++l2) (cells:=(old++cs'++rest).toArray) (c1:=old++cs') (c2:=rest) (t:=u) (fr:=(0,0)) (cap:=newCap)
      hk hq1 (RdL.append _ _ _ _ o1 r1) (by simp) r3 (NoFr.zero _) (Nat.le_refl _) r5 (by simpa using r4) (by rw[List.size_toArray,r6];exact Nat.le_refl _)
    obtain⟨E',p1,p2,p3⟩:=hp
    rw[List.length_append]at p3
    refine⟨E',?_,hxk.trans p2,p3⟩
    rw[hupd]
    rw[ycy,ydL]at p1
    exact p1
theorem append_nil [Gl]{q:Nat}{t t2 u:TypeId}{T2:Ty}{e:Ty}{l2:List (Den e)}{y:Value}{i:TypeInfo}
    (h1:P.underlying t=some (.slice u)) (h2:TyIs P e u) (h3:TyIs P T2 t2) (h4:T2.sl=true) (hi:P.info? u=some i) (hb1:1≤i.bytes) (hb2:i.bytes≤1048576)
    (h:HREL P0 S0 E look w) (hq:look q = .un) (hs:SrcOk P E w e l2 y) (hbound:l2.length*i.bytes≤70368744177664) :
    ∃ z w',(Builtin.append_ #[t,t2] t #[.slice none 0 0,y]).run P w = .ok z w'∧OpPost P0 S0 E look w (.ow q e none) [(q,.live (.row e l2))] z w':=by
  obtain⟨cs,s1,s2,s3⟩:=hs
  by_cases hneed:0+l2.length≤0
  · have:l2=[]:=by apply List.eq_nil_of_length_eq_zero;omega
    subst this
    have hcs:cs=[]:=s1
    subst hcs
    have hrun:=run_append_fits (l:=([]:List (Den e))) (a:=none) (n:=0) (cap:=0) (w':=w) h1 h2 h3 h4 s2 (s3 w (λ_=>rfl)) (by simp) rfl
    refine⟨_,_,hrun,?_⟩
    obtain⟨k1,k2⟩:=h.new (w':=w) (q:=q) (b:=none) (L:=⟨.row e,0,0⟩) (o := .row e []) hq (.refl w) (λx hx=>by simp at hx)
      ⟨0,by simp[Env.new],by simp[Env.new]⟩
    refine⟨_,k1,k2,?_⟩
    rw[V_one rfl]
    refine⟨none,_,0,rfl,.inl rfl,λL hL' => ?_⟩
    simp only[Env.new,if_true]at hL'
    injection hL' with hL'; subst hL'
    exact⟨rfl,0,⟨rfl,rfl⟩,by simp,by simp[Env.new]⟩
  · obtain⟨cs',newCap,w',r1,r2,r3,r4,rest,r5,r6⟩:=run_append_grow (n:=0) (cap:=0) (a:=none) (old:=[]) h1 h2 h3 h4 hi hb1 hb2 ⟨cs,s1,s2,s3⟩ (by simpa using hbound) hneed (λw' _=>rfl) (by simp)
    refine⟨_,_,r2,?_⟩
    simp only[List.nil_append]at r5 r6
    have hp:=post_row (P0:=P0) (S0:=S0) (look:=look) (E:=E) (w:=w) (w':=w') (q:=q) (e:=e) (l:=l2) (cells:=(cs'++rest).toArray) (c1:=cs') (c2:=rest) (t:=u) (fr:=(0,0)) (cap:=newCap)
      h hq r1 (by simp) r3 (NoFr.zero _) (Nat.le_refl _) r5 (by simpa using r4) (by rw[List.size_toArray,r6];exact Nat.le_refl _)
    rw[Nat.zero_add]
    exact hp
theorem append_over [Gl] {r x0 y0:Nat} {t t2 u:TypeId} {T2:Ty} {e:Ty} {l l2:List (Den e)} {x y:Value}
    (h1:P.underlying t=some (.slice u)) (h2:TyIs P e u) (h3:TyIs P T2 t2) (h4:T2.sl=true)
    (h:HREL P0 S0 E look w) (hl:look r = .live (.row e l)) (hv:V E w (.ow r e (some (x0,y0))) x) (hs:SrcOk P E w e l2 y) (hfit:x0+y0+l2.length≤l.length) :
    ∃ z w',(Builtin.append_ #[t,t2] t #[x,y]).run P w = .ok z w'∧OpPost P0 S0 E look w (.ow r e (some (x0,y0+l2.length))) [(r,.live (.row e (l.take (x0+y0)++l2++l.drop (x0+y0+l2.length))))] z w':=by
  have hent:=h.ent r
  rw[hl]at hent
  obtain⟨hU,N,hL,hO⟩:=hent
  obtain⟨a,lo,len,cap,rfl,e1,g2,g3⟩:=C_ow_ext hv hL
  simp only[rngOf]at e1
  injection e1 with e1 e2;subst e1 e2
  obtain⟨cs,s1,s2,s3⟩:=hs
  have hlcs:cs.length=l2.length*e.sz:=RdL.length (λx c=>Rd.length E.S w e x c) _ _ s1
  cases hβ:E.β r with
  | none=>
    rw[hβ]at hO g3
    simp only at hO g3
    subst hO g3
    simp only[List.length_nil]at hfit
    have hx0:x0=0:=by omega
    have hy0:y0=0:=by omega
    have:l2=[]:=by apply List.eq_nil_of_length_eq_zero;omega
    subst this hx0 hy0
    have hcs:cs=[]:=s1
    subst hcs
    have hrun:=run_append_fits (l:=([]:List (Den e))) (a:=a) (n:=0) (cap:=0) (w':=w) h1 h2 h3 h4 s2 (s3 w (λ_=>rfl)) (by simp) (by cases a<;>rfl)
    refine⟨_,_,hrun,E,?_,.refl _ _ _,hv⟩
    rw[ycy,ydL]
    have:upd1 r (.live (.row e (List.take (0+0) []++[]++List.drop (0+0+([]:List (Den e)).length) []))) look=look:=by
      funext p
      by_cases hp:p=r
      · subst hp;rw[ycF,hl];rfl
      · rw[ycd _ _ hp]
    rw[this];exact h
  | some b=>
    rw[hβ]at hO g3
    obtain⟨ha,g4,g5,g6⟩:=g3
    obtain⟨bc,ty,fr,c1,c2,m1,m2,m3,m4,m5⟩:=hO
    have hsep:=h.sep r b (by rw[hl];rfl) hβ
    have hneed:y0+l2.length≤cap:=by omega
    obtain⟨d1,d,d2,f1,f2,f3,f4,f5,f6⟩:=RdL.sub (λx c=>Rd.length E.S w e x c) m5 (x0+y0) l2.length hfit
    have hbc:bc.toList=d1++d++(d2++c2):=by rw[m4,f1];simp
    obtain ⟨w', n1,n2,n3⟩:∃ w',(match a with | some ad=>(storeCells (ad.add (y0*e.sz)) cs).run P w = .ok () w' | none=>w'=w)∧Wr w w' b ∧
        w'.heap[b]?=some (.cells (d1++cs++(d2++c2)).toArray ty fr):=by
      rcases ha with ha | ha
      · have hl2:l2=[]:=List.eq_nil_of_length_eq_zero (by omega)
        subst hl2
        have hcs:cs=[]:=s1
        subst hcs
        have hd:d=[]:=List.eq_nil_of_length_eq_zero (by rw[f4];simp)
        subst hd
        refine⟨w,by cases a<;>rfl,.refl w b,?_⟩
        rw[m1,← hbc]
      · subst ha
        have hbcl:bc.toList.length=bc.size:=by simp
        have hlen:bc.toList.length=d1.length+d.length+(d2.length+c2.length):=by rw[hbc];simp;omega
        obtain⟨w',n1,n2,n3⟩:=run_storeCells (P:=P) cs 0 w b d1.length bc.toList ty fr (by rw[m1]) (by simpa using m2)
          (by rw[hlcs,hlen,f4];omega) (λv hv=>by
            have:∀ (l2:List (Den e)) (cs:List Value),RdL (Rd E.S w e) l2 cs→∀ v∈cs,v.oneCell'=true:=by
              intro l2
              induction l2 with
              | nil=>intro cs h v hv;simp only[RdL]at h;subst h;simp at hv
              | cons x l2 ih=>
                intro cs h v hv
                obtain⟨d1,d2,rfl,q1,q2⟩:=h
                rcases List.mem_append.1 hv with hv | hv
                · exact Rd.one _ _ _ _ _ q1 v hv
                · exact ih _ q2 v hv
            exact this l2 cs s1 v hv)
        refine⟨w',?_,n2,?_⟩
        · simp only[]
          rw[Addr.add_eq rfl,← Nat.add_mul,← f2];exact n1
        · rw[n3,Nat.add_zero,hbc,hlcs,← f4]
          simp[List.drop_append]
    have hrun:=run_append_fits (l:=l2) (a:=a) (n:=y0) (cap:=cap) (w':=w') h1 h2 h3 h4 s2 (s3 w (λ_=>rfl)) hneed n1
    have hx:Ext P0 E w E w' := .wr n2 hsep.1 hsep.2
    have hlen':(l.take (x0+y0)++l2++l.drop (x0+y0+l2.length)).length=l.length:=by
      simp;omega
    have hsz:(d1++cs++(d2++c2)).length=bc.size:=by
      rw[← Array.length_toList,hbc];simp[hlcs,f4]
    obtain⟨k1,k2⟩:=h.write (w':=w') (o := .row e (l.take (x0+y0)++l2++l.drop (x0+y0+l2.length))) (by rw[hl];rfl) hβ n2
      ⟨N,by rw[hL,hlen'],by
        rw[hβ]
        refine⟨_,ty,fr,d1++cs++d2,c2,n3,by rw[List.size_toArray,hsz];exact m2,by rw[List.size_toArray,hsz];exact m3,by simp,?_⟩
        exact RdL.append _ _ _ _ (RdL.append _ _ _ _ (RdL.mono (λx c=>Rd.keep hx.keep hx.s e x c) _ _ f5) (RdL.mono (λx c=>Rd.keep hx.keep hx.s e x c) _ _ s1)) (RdL.mono (λx c=>Rd.keep hx.keep hx.s e x c) _ _ f6)⟩
    refine⟨_,_,hrun,E,k1,k2,?_⟩
    rw[V_one rfl]
    refine⟨a,_,cap,rfl,hU,λL hL' => ?_⟩
    rw[hL]at hL'
    injection hL' with hL'; subst hL'
    refine⟨rfl,x0,⟨rfl,rfl⟩,by show x0+(y0+l2.length)≤l.length;omega,?_⟩
    rw[hβ]
    exact⟨ha,hneed,g5,g6⟩
end
section
variable {P:Program} {c:Cfg} {o:Oper} {op:Operand→AV} {look:Nat→Ent} {R:Type} {k:Kont R} {r:R}
theorem ok_append [Gl] {q:Call} {t t2:TypeId} {d s:AV} (hT:TabOk P c.tab) (ho:o.op = .call q) (hq:q.callee = .builtin .append) (ha:q.args.toList.map op=[d,s]) (hts:q.argTypes.toList=[t,t2])
    (h:aOp c o op look k=some r):∃ v RN WN,k v RN WN=some r∧Ok P c o op look v RN WN:=by
  have e:∀ (look:Nat→Ent) (R:Type) (k:Kont R),aOp c o op look k=aAppend c t t2 o d s look k:=by
    intro look R k;unfold aOp;rw[ho];simp only[hq,ha,hts];rfl
  obtain⟨x,x',hx,hd0,hs0⟩:=arr_two ha
  have hts':=arr_list hts
  rw[e]at h
  unfold aAppend at h
  split at h
  · rename_i ee eb te2 ht ht2
    obtain⟨htT,hel⟩:=hT t _ ht
    obtain⟨ht2T,_⟩:=hT t2 _ ht2
    obtain⟨u,i,hu,huT,hi,hib⟩:=hel ee rfl
    simp only at hib
    split at h
    · rename_i hc
      obtain⟨hc1,hc2,hc3⟩:=hc
      split at h
      · exact absurd h (by simp)
      · rename_i l2 rs hsrc
        obtain⟨so1,so2⟩:=srcOf_ok (P:=P) hsrc
        -- the builtin's run
        have hexec:∀ (ρ:Operand→Value) (w w':World) (z:Value),(Builtin.append_ #[t,t2] t #[ρ x,ρ x']).run P w = .ok z w'→(execOp ρ o).run P w = .ok (.value z) w':=by
          intro ρ w w' z hz
          refine exec_builtin ho hq ?_
          rw[hts',hx]
          simp only[builtin,Sem.run_bind]
          have:(Builtin.append_ [t,t2].toArray o.type (#[x,x'].map ρ)).run P w = .ok z w':=by
            rw[show Builtin.append_ [t,t2].toArray o.type (#[x,x'].map ρ)=Builtin.append_ #[t,t2] t #[ρ x,ρ x'] from by simp;rfl];exact hz
          rw[this];rfl
        split at h
        · rename_i e0
          split at h
          · rename_i hb
            obtain⟨p,hd,hp,h⟩:=ydZ h
            refine⟨_,_,_,h,⟨λP0 S0 E w ρ hh hv => ?_,λlook' hk R' k' => ?_⟩⟩
            · have h1:=hv x
              rw[hd0,V_one rfl]at h1
              simp only[C]at h1
              injection h1 with h1 _
              have h2:=hv x'
              rw[hs0]at h2
              obtain⟨z,w',g1,g2⟩:=append_nil hu huT ht2T hc1 hi (by omega) (by omega) hh hp (so1 P0 S0 E w _ hh h2) (by rw[hib];exact hb)
              exact .inl ⟨z,w',hexec ρ w w' z (by rw[h1];exact g1),g2⟩
            · rw[e];unfold aAppend;rw[ht,ht2]
              simp only[hc1,hc2,hc3,and_self,if_true,so2 look' (λq hq=>hk q (.inl hq)),if_pos hb]
              exact fresh_eq hd ((hk p (.inr (by simp))).trans hp)
          · exact absurd h (by simp)
        · rename_i q0 e0
          split at h
          · rename_i e1 l hl
            split at h
            · rename_i hee
              obtain⟨he1,he0⟩:=hee
              subst he1
              subst he0
              split at h
              · rename_i hb
                obtain⟨p,hd,hp,h⟩:=ydZ h
                refine⟨_,_,_,h,⟨λP0 S0 E w ρ hh hv => ?_,λlook' hk R' k' => ?_⟩⟩
                · have h1:=hv x
                  rw[hd0]at h1
                  have h2:=hv x'
                  rw[hs0]at h2
                  obtain⟨z,w',g1,g2⟩:=append_own hu huT ht2T hc1 hi (by omega) (by omega) hh hl hp h1 (so1 P0 S0 E w _ hh h2) (by rw[hib];exact hb)
                  exact .inl ⟨z,w',hexec ρ w w' z g1,g2⟩
                · rw[e];unfold aAppend;rw[ht,ht2]
                  simp only[hc1,hc2,hc3,and_self,if_true,so2 look' (λq hq=>hk q (.inl (by simp[hq])))]
                  rw[hk q0 (.inl (by simp)),hl]
                  simp only[and_self,dif_pos,if_pos hb]
                  exact fresh_eq hd ((hk p (.inr (by simp))).trans hp)
              · exact absurd h (by simp)
            · exact absurd h (by simp)
          · exact absurd h (by simp)
        · rename_i q0 e0 x0 y0
          split at h
          · rename_i e1 l hl
            split at h
            · rename_i hee
              obtain⟨he1,he0⟩:=hee
              subst he1
              subst he0
              split at h
              · rename_i hb
                refine⟨_,_,_,h,⟨λP0 S0 E w ρ hh hv => ?_,λlook' hk R' k' => ?_⟩⟩
                · have h1:=hv x
                  rw[hd0]at h1
                  have h2:=hv x'
                  rw[hs0]at h2
                  obtain⟨z,w',g1,g2⟩:=append_over hu huT ht2T hc1 hh hl h1 (so1 P0 S0 E w _ hh h2) hb
                  exact .inl ⟨z,w',hexec ρ w w' z g1,g2⟩
                · rw[e];unfold aAppend;rw[ht,ht2]
                  simp only[hc1,hc2,hc3,and_self,if_true,so2 look' (λq hq=>hk q (.inl (by simp[hq])))]
                  rw[hk q0 (.inl (by simp)),hl]
                  simp only[and_self,dif_pos,if_pos hb]
              · exact absurd h (by simp)
            · exact absurd h (by simp)
          · exact absurd h (by simp)
        · exact absurd h (by simp)
    · exact absurd h (by simp)
  · exact absurd h (by simp)
end
end Go.Va
