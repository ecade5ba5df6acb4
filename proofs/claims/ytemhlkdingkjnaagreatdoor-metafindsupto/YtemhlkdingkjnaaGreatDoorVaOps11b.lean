/-
  Va, part 20b: 'clear' of a part of an own row.
-/
import Derived.Test.YtemhlkdingkjnaaGreatDoorVaOps11
set_option linter.unusedVariables false
set_option linter.unusedSimpArgs false
namespace Go.Va
open Go
section
variable {P:Program} {P0 S0:Nat→Prop} {E:Env} {look:Nat→Ent} {w:World}
theorem zeroCells_eq [Gl]{e:Ty}{z:Value}(hz:z.cells.toList=zc e)(hp:1≤e.sz)(n:Nat):(Builtin.zeroCells z.cells n).toList=(List.replicate n (zc e)).flatten:=by
  have hzs:z.cells.size=e.sz:=by
    have:=Rd.length (λ_=>True) default e (Va.dflt e) (zc e) (Rd.dflt _ _ _)
    rw[← Array.length_toList,hz,this]
  unfold Builtin.zeroCells
  simp only[Array.toList_map,Array.toList_range]
  rw[map_mod z.cells (by rw[hzs];omega),hz]
theorem clear_over [Gl] {r x0 y0:Nat} {t t0 u:TypeId} {e:Ty} {l:List (Den e)} {x:Value}
    (h1:P.underlying t=some (.slice u)) (h2:TyIs P e u) (hsz:1≤e.sz)
    (h:HREL P0 S0 E look w) (hl:look r = .live (.row e l)) (hv:V E w (.ow r e (some (x0,y0))) x) :
    ∃ w',(Builtin.clear_ #[t] t0 #[x]).run P w = .ok (.tuple #[]) w'∧OpPost P0 S0 E look w (.tup .done) [(r,.live (.row e (l.take x0++List.replicate y0 (dflt e)++l.drop (x0+y0))))] (.tuple #[]) w':=by
  have hent:=h.ent r
  rw[hl]at hent
  obtain⟨hU,N,hL,hO⟩:=hent
  obtain⟨a,lo,len,cap,rfl,e1,g2,g3⟩:=C_ow_ext hv hL
  simp only[rngOf]at e1
  injection e1 with e1 e2;subst e1 e2
  have htup:∀ E' w',V E' w' (.tup .done) (.tuple #[]):=λE' w'=>by rw[V_one rfl];exact⟨#[],rfl,rfl⟩
  have hsame:y0=0→upd1 r (.live (.row e (l.take x0++List.replicate y0 (dflt e)++l.drop (x0+y0)))) look=look:=by
    intro h0
    funext p
    by_cases hp:p=r
    · subst hp;rw[ycF,hl,h0];simp
    · rw[ycd _ _ hp]
  by_cases hy:y0=0
  · subst hy
    have hrun:(Builtin.clear_ #[t] t0 #[.slice a 0 cap]).run P w = .ok (.tuple #[]) w:=by
      unfold Builtin.clear_
      cases a<;>simp[run_underlying h1]
    refine⟨w,hrun,E,?_,.refl _ _ _,htup _ _⟩
    rw[ycy,ydL,hsame rfl];exact h
  · cases hβ:E.β r with
    | none=>
      rw[hβ]at hO
      simp only at hO
      subst hO
      simp only[List.length_nil]at g2
      omega
    | some b=>
      rw[hβ]at hO g3
      obtain⟨ha,g4,g5,g6⟩:=g3
      obtain⟨bc,ty,fr,c1,c2,m1,m2,m3,m4,m5⟩:=hO
      have hsep:=h.sep r b (by rw[hl];rfl) hβ
      obtain⟨d1,d,d2,f1,f2,f3,f4,f5,f6⟩:=RdL.sub (λx c=>Rd.length E.S w e x c) m5 x0 y0 g2
      have hbc:bc.toList=d1++d++(d2++c2):=by rw[m4,f1];simp
      have ha':a=some ⟨b,x0*e.sz,none⟩:=by
        rcases ha with ha | ha
        · omega
        · exact ha
      subst ha'
      obtain⟨z,z1,z2,_⟩:=run_zero (P:=P) (w:=w) h2
      have hzc:=zeroCells_eq z2 hsz y0
      have hrd:RdL (Rd E.S w e) (List.replicate y0 (dflt e)) (List.replicate y0 (zc e)).flatten:=RdL.replicate (Rd.dflt _ _ _) _
      have hlcs:(List.replicate y0 (zc e)).flatten.length=y0*e.sz:=by
        have:=RdL.length (λx c=>Rd.length E.S w e x c) _ _ hrd
        rw[this,List.length_replicate]
      have hlen:bc.toList.length=d1.length+d.length+(d2.length+c2.length):=by rw[hbc];simp;omega
      obtain⟨w',n1,n2,n3⟩:=run_storeCells (P:=P) (List.replicate y0 (zc e)).flatten 0 w b d1.length bc.toList ty fr (by rw[m1]) (by simpa using m2)
        (by rw[hlcs,hlen,f4];omega) (λv hv=>by
          have:∀ (l2:List (Den e)) (cs:List Value),RdL (Rd E.S w e) l2 cs→∀ v∈cs,v.oneCell'=true:=by
            intro l2
            induction l2 with
            | nil=>intro cs h v hv;simp only[RdL]at h;subst h;simp at hv
            | cons x l2 ih=>
              intro cs h v hv
              obtain⟨d1,d2,rfl,q1,q2⟩:=h
              rcases List.mem_append.1 hv with hv | hv
              · exact Rd.one _ _ _ _ _ q1 v hv
              · exact ih _ q2 v hv
          exact this _ _ hrd v hv)
      have hrun:(Builtin.clear_ #[t] t0 #[.slice (some ⟨b,x0*e.sz,none⟩) y0 cap]).run P w = .ok (.tuple #[]) w':=by
        obtain⟨y1,rfl⟩:∃ y1,y0=y1+1:=⟨y0-1,by omega⟩
        unfold Builtin.clear_
        simp only[List.getElem?_toArray,List.getElem?_cons_zero,Sem.run_bind,run_underlying h1,Result.andThen_ok,z1,hzc]
        rw[← f2,n1]
        simp
      have hx:Ext P0 E w E w' := .wr n2 hsep.1 hsep.2
      have hlen':(l.take x0++List.replicate y0 (dflt e)++l.drop (x0+y0)).length=l.length:=by
        simp;omega
      have hset:w'.heap[b]?=some (.cells (d1++(List.replicate y0 (zc e)).flatten++(d2++c2)).toArray ty fr):=by
        rw[n3,Nat.add_zero,hbc,hlcs,← f4]
        simp[List.drop_append]
      have hszz:(d1++(List.replicate y0 (zc e)).flatten++(d2++c2)).length=bc.size:=by
        rw[← Array.length_toList,hbc]
        simp only[List.length_append,hlcs,f4]
      obtain⟨k1,k2⟩:=h.write (w':=w') (o := .row e (l.take x0++List.replicate y0 (dflt e)++l.drop (x0+y0))) (by rw[hl];rfl) hβ n2
        ⟨N,by rw[hL,hlen'],by
          rw[hβ]
          refine⟨_,ty,fr,d1++(List.replicate y0 (zc e)).flatten++d2,c2,hset,by rw[List.size_toArray,hszz];exact m2,by rw[List.size_toArray,hszz];exact m3,by simp,?_⟩
          exact RdL.append _ _ _ _ (RdL.append _ _ _ _ (RdL.mono (λx c=>Rd.keep hx.keep hx.s e x c) _ _ f5) (RdL.replicate (Rd.dflt _ _ _) _)) (RdL.mono (λx c=>Rd.keep hx.keep hx.s e x c) _ _ f6)⟩
      exact⟨w',hrun,E,k1,k2,htup _ _⟩
end
section
variable {P:Program} {c:Cfg} {o:Oper} {op:Operand→AV} {look:Nat→Ent} {R:Type} {k:Kont R} {r:R}
theorem ok_clear [Gl]{q:Call}{t:TypeId}{qr x y:Nat}{e:Ty}(hT:TabOk P c.tab)(ho:o.op = .call q)(hq:q.callee = .builtin .clear)(ha:q.args.toList.map op=[.ow qr e (some (x,y))])(hts:q.argTypes.toList=[t])
    (h:aOp c o op look k=some r):∃ v RN WN,k v RN WN=some r∧Ok P c o op look v RN WN:=by
  have ee:∀ (look:Nat→Ent) (R:Type) (k:Kont R),aOp c o op look k=match findT c.tab t,look qr with
    | some te,.live (.row e1 l)=>if te.T = .slice e∧e1=e∧1≤e.sz then k (.tup .done) [qr] [(qr,.live (.row e1 (l.take x++List.replicate y (dflt e1)++l.drop (x+y))))] else none
    | _,_=>none:=by
    intro look R k;unfold aOp;rw[ho];simp only[hq,ha,hts];rfl
  obtain⟨x',hx',hv0⟩:=arr_one ha
  have hts':=arr_list hts
  rw[ee]at h
  split at h
  · rename_i te e1 l ht hl
    obtain⟨htT,_⟩:=hT t te ht
    split at h
    · rename_i hc
      obtain⟨hTe,he1,hsz⟩:=hc
      subst he1
      rw[hTe]at htT
      obtain⟨⟨u,hu,huT⟩,_⟩:=htT
      refine⟨_,_,_,h,⟨λP0 S0 E w ρ hh hv => ?_,λlook' hk R' k'=>by rw[ee,ht,hk qr (by simp),hl];simp only[hTe,hsz,and_self,if_true]⟩⟩
      have h1:=hv x'
      rw[hv0]at h1
      obtain⟨w',g1,g2⟩:=clear_over (P0:=P0) (S0:=S0) (t0:=o.type) hu huT hsz hh hl h1
      refine .inl ⟨_,w',exec_builtin ho hq ?_,g2⟩
      rw[hts',hx']
      simp only[builtin,Sem.run_bind]
      simp[g1]
    · exact absurd h (by simp)
  · exact absurd h (by simp)
theorem copy_over [Gl] {q:Nat} {t t0 u:TypeId} {t2:TypeId} {T:Ty} {p:List Stp} {n:Nat} {e:Ty} {b b':AV} {l l2:List (Den e)} {x y:Value} {P0 S0:Nat→Prop} {E:Env} {w:World}
    (h1:P.underlying t=some (.slice u)) (h2:TyIs P e u) (h:HREL P0 S0 E look w) (hl:look q = .live (.box T b)) (hp:tyT T p=some (.arr n e))
    (hg:getA b p=some (.data (.arr n e) l)) (hs:setA b p (.data (.arr n e) (l2++List.drop l2.length l))=some b') (hn:l2.length≤n) (hv:V E w (.oa q T p) x) (hy:SrcOk P E w e l2 y) :
    ∃ w',(Builtin.copy_ #[t,t2] t0 #[x,y]).run P w = .ok (goInt l2.length) w'∧HREL P0 S0 E (upd1 q (.live (.box T b')) look) w'∧Ext P0 E w E w':=by
  have hent:=h.ent q
  rw[hl]at hent
  have ho:=hent.2
  obtain⟨b0,cs0,t',fr0,hβ,hL,hb0,hfr0,hty0,hC0⟩:=ho
  rw[V_one rfl]at hv
  obtain⟨a,m,ex,hU,hLL⟩:=hv
  injection ex with ex _
  subst ex
  obtain⟨_,b1,off,e',k1,k2,k3,k4⟩:=hLL _ hL
  rw[hp]at k2
  injection k2 with k2
  injection k2 with k2 k2'
  subst k2 k2' k4
  have hbb:b1=b0:=by rw[k1]at hβ;injection hβ
  subst hbb
  obtain⟨cs,t',fr,c1,c',c2,m1,m2,m3,m4,m5,m6,m7⟩:=obj_focus (P0:=P0) (ob := .box T b) (l := .box T) (p:=p) hent.2 hL rfl k1 k3 hp
  obtain⟨q1,q2⟩:=m6 _ hg
  obtain⟨cells2,s1,s2,s3⟩:=hy
  have hll:l.length=n:=q1.1
  obtain⟨d1,d2,e1,r1,r2⟩:=RdL.split (l.take l2.length) (l.drop l2.length) c' (by rw[List.take_append_drop];exact q1.2)
  have hd1:d1.length=l2.length*e.sz:=by
    have:=RdL.length (λx c=>Rd.length E.S w e x c) _ _ r1
    rw[this,List.length_take];congr 1;omega
  have hc2:cells2.length=l2.length*e.sz:=RdL.length (λx c=>Rd.length E.S w e x c) _ _ s1
  obtain⟨w',g1,g2,g3⟩:=run_storeCells (P:=P) cells2 0 w b1 off cs.toList t' fr (by rw[m1]) (by simpa using m2)
    (by rw[m3,e1];simp only[List.length_append,hc2,hd1,m4];omega) (λv hv=>by
      have:∀ (l2:List (Den e)) (cs:List Value),RdL (Rd E.S w e) l2 cs→∀ v∈cs,v.oneCell'=true:=by
        intro l2
        induction l2 with
        | nil=>intro cs h v hv;simp only[RdL]at h;subst h;simp at hv
        | cons x l2 ih=>
          intro cs h v hv
          obtain⟨d1,d2,rfl,q1,q2⟩:=h
          rcases List.mem_append.1 hv with hv | hv
          · exact Rd.one _ _ _ _ _ q1 v hv
          · exact ih _ q2 v hv
      exact this _ _ s1 v hv)
  have g3':w'.heap[b1]?=some (.cells (c1++(cells2++d2)++c2).toArray t' fr):=by
    rw[g3]
    congr 3
    rw[m3,e1,hc2,← hd1,Nat.add_zero,← m4]
    simp[List.drop_append]
  have hlive:(look q).isLive=true:=by rw[hl];rfl
  have hsep:=h.sep q b1 hlive k1
  have hx':Ext P0 E w E w' := .wr g2 hsep.1 hsep.2
  have hset:setO (.box T b) p (.data (.arr n e) (l2++List.drop l2.length l))=some (.box T b'):=by simp only[setO,hs];rfl
  obtain⟨z1,z2⟩:=h.write (w':=w') (o := .box T b') hlive k1 g2 (m7 _ _ (cells2++d2) hset rfl
    (show Rd E.S w (.arr n e) _ _ from ⟨by simp;omega,RdL.append _ _ _ _ s1 r2⟩) w' hx' g3')
  refine⟨w',?_,z1,z2⟩
  unfold Builtin.copy_
  have hmin:Nat.min l2.length n=l2.length:=Nat.min_eq_left hn
  simp only[List.getElem?_toArray,List.getElem?_cons_zero,List.getElem?_cons_succ,Sem.run_bind,run_underlying h1,Result.andThen_ok,s2,hmin,run_sizeOf h2,s3 w (λ_=>rfl),g1,Sem.run_pure]
theorem ok_copy [Gl] {q0:Call} {t t2:TypeId} {q:Nat} {T:Ty} {p:List Stp} {s:AV} (hT:TabOk P c.tab) (ho:o.op = .call q0) (hq:q0.callee = .builtin .copy) (ha:q0.args.toList.map op=[.oa q T p,s]) (hts:q0.argTypes.toList=[t,t2])
    (h:aOp c o op look k=some r):∃ v RN WN,k v RN WN=some r∧Ok P c o op look v RN WN:=by
  have ee : ∀ (look:Nat→Ent) (R:Type) (k:Kont R),aOp c o op look k=match findT c.tab t,look q with
    | some te,.live (.box T1 b)=>match getA b p with
      | some (.data (.arr n e) l)=>if te.T = .slice e∧tyT T p=some (.arr n e)∧T1=T∧1≤e.sz then
          match srcOf look e s with
          | some (l2,rs)=>match setA b p (.data (.arr n e) (l2++List.drop l2.length l)) with
            | some b'=>if l2.length≤n then k (.data (.int .i64) (l2.length:Nat)) (q::rs) [(q,.live (.box T1 b'))] else none
            | none=>none
          | none=>none
        else none
      | _=>none
    | _,_=>none:=by
    intro look R k;unfold aOp;rw[ho];simp only[hq,ha,hts];rfl
  obtain⟨x',y',hx',hv0,hv1⟩:=arr_two ha
  have hts':=arr_list hts
  rw[ee]at h
  split at h
  · rename_i te T1 b ht hl
    obtain⟨htT,_⟩:=hT t te ht
    split at h
    · rename_i n e l hg
      split at h
      · rename_i hc
        obtain⟨hTe,hp,hT1,hsz⟩:=hc
        subst hT1
        rw[hTe]at htT
        obtain⟨⟨u,hu,huT⟩,_⟩:=htT
        split at h
        · rename_i l2 rs hsrc
          split at h
          · rename_i b' hset
            split at h
            · rename_i hn
              obtain⟨so1,so2⟩:=srcOf_ok (P:=P) hsrc
              refine⟨_,_,_,h,⟨λP0 S0 E w ρ hh hv => ?_,λlook' hk R' k' => ?_⟩⟩
              · have h1:=hv x'
                rw[hv0]at h1
                have h2:=hv y'
                rw[hv1]at h2
                obtain⟨w',g1,g2,g3⟩:=copy_over (t0:=o.type) (t2:=t2) hu huT hh hl hp hg hset hn h1 (so1 P0 S0 E w _ hh h2)
                refine .inl ⟨_,w',exec_builtin ho hq ?_,E,by rw[ycy,ydL];exact g2,g3,V_int.2 rfl⟩
                rw[hts',hx']
                simp only[builtin,Sem.run_bind]
                simp[g1]
                rfl
              · rw[ee,ht,hk q (by simp),hl]
                simp only[hg,hTe,hp,hsz,and_self,if_true,so2 look' (λq hq=>hk q (by simp[hq])),hset,hn]
            · exact absurd h (by simp)
          · exact absurd h (by simp)
        · exact absurd h (by simp)
      · exact absurd h (by simp)
    · exact absurd h (by simp)
  · exact absurd h (by simp)
end
end Go.Va
