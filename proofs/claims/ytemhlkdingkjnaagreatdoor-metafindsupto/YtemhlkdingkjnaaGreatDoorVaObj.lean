/-
  Va, part 8: a part of an object in memory: loads and stores through a pointer.
-/
import Derived.Test.YtemhlkdingkjnaaGreatDoorVaFocus
set_option linter.unusedVariables false
set_option linter.unusedSimpArgs false
namespace Go.Va
open Go
section
variable {P:Program} {P0 S0:Nat→Prop} {E:Env} {look:Nat→Ent} {w w':World}
theorem obj_focus {r b off:Nat} {ob:Obj'} {l:Ly} {p:List Stp} {L:Lay} {T':Ty} (ho:OREL E w r ob) (hL:E.L r=some L) (hl:L.ly=l) (hb:E.β r=some b)
    (hoff:offL L.M l p=some off) (hty:tyL l p=some T') :
    ∃ (cs:Array Value) (t:TypeId) (fr:Nat×Nat) (c1 c' c2:List Value),w.heap[b]?=some (.cells cs t fr)∧NoFr cs.size fr∧cs.toList=c1++c'++c2∧c1.length=off∧c'.length=T'.sz ∧
      (∀ v,getO ob p=some v→C E w v c'∧v.ty=some T') ∧
      (∀ u ob' d,setO ob p u=some ob'→u.ty=some T'→C E w u d→∀ w',Ext P0 E w E w'→w'.heap[b]?=some (.cells (c1++d++c2).toArray t fr)→OREL E w' r ob'):=by
  cases ob with
  | box T c=>
    obtain⟨b',cs,t,fr,h1,h2,h3,h4,h5,h6⟩:=ho
    rw[hb]at h1;injection h1 with h1;subst h1
    rw[hL]at h2;injection h2 with h2;subst h2
    subst hl
    simp only[offL]at hoff
    simp only[tyL]at hty
    obtain⟨c1,c',c2,k1,k2,k3,k4,k5⟩:=focusA c cs.toList p T off T' h6 h5 hoff hty
    refine⟨cs,t,fr,c1,c',c2,h3,h4,k1,k2,k3,k4,?_⟩
    intro u ob' d hs hu hd w' hx hw
    simp only[setO]at hs
    obtain⟨z,hz1,hz2⟩:=Option.map_eq_some_iff.1 hs
    subst hz2
    obtain⟨q1,q2⟩:=k5 u z d hz1 hu hd
    have hlen:(c1++d++c2).length=cs.size:=by
      have e1:cs.size=(c1++c'++c2).length:=by rw[← k1];simp
      rw[e1]
      have:=C.length _ _ _ hd hu
      simp[this,k3]
    refine⟨b,_,t,fr,hb,?_,hw,?_,q2,?_⟩
    · rw[hL];congr 1;simp only[List.size_toArray,hlen]
    · rw[List.size_toArray,hlen];exact h4
    · simpa using C.ext hx _ _ q1
  | mp K V l=>
    obtain⟨b',es,ck,h1,h2,_⟩:=ho
    rw[hL]at h2;injection h2 with h2;subst h2
    subst hl
    simp[offL]at hoff
  | row e xs=>
    obtain⟨N,h1,h2⟩:=ho
    rw[hL]at h1;injection h1 with h1;subst h1
    subst hl
    rw[hb]at h2
    obtain⟨cs,t,fr,d1,d2,g1,g2,g3,g4,g5⟩:=h2
    match p with
    | []=>simp[offL]at hoff
    | .f j::p=>simp[offL]at hoff
    | .i n :: p=>
      simp only[offL]at hoff
      simp only[tyL]at hty
      split at hoff
      · rename_i hn
        obtain⟨o1,ho1,ho2⟩:=Option.map_eq_some_iff.1 hoff
        obtain⟨e1,e',e2,k1,k2,k3,k4,k5⟩:=RdL.get (λx c=>Rd.length E.S w e x c) xs d1 g5 n hn
        have hget:List.getD xs n (dflt e)=xs[n]:=by simp[List.getD,hn]
        obtain⟨f1,f',f2,m1,m2,m3,m4,m5,m6⟩:=focusD e xs[n] e' p o1 T' k3 ho1 hty
        refine⟨cs,t,fr,e1++f1,f',f2++e2++d2,g1,g2,by rw[g4,k1,m1];simp,by rw[List.length_append,k2,m2];exact ho2,m3,?_,?_⟩
        · intro v hv
          simp only[getO,hget]at hv
          obtain⟨y,rfl,hy⟩:=m4 v hv
          exact⟨hy,rfl⟩
        · intro u ob' d hs hu hd w' hx hw
          cases u with
          | data T1 y=>
            simp only[AV.ty]at hu
            injection hu with hu;subst hu
            simp only[setO,hget]at hs
            obtain⟨z,hz1,hz2⟩:=Option.map_eq_some_iff.1 hs
            subst hz2
            have q:=m5 y z d hz1 hd
            have hlen:(e1++f1++d++(f2++e2++d2)).length=cs.size:=by
              have e0:cs.size=(e1++f1++f'++(f2++e2++d2)).length:=by rw[← Array.length_toList,g4,k1,m1];simp
              rw[e0]
              have:=Rd.length _ _ _ _ _ hd
              simp[this,m3]
            refine⟨N,by simpa using hL,?_⟩
            rw[hb]
            refine⟨_,t,fr,e1++(f1++d++f2)++e2,d2,hw,by rw[List.size_toArray,hlen];exact g2,by rw[List.size_toArray,hlen];exact g3,by simp,?_⟩
            have es:List.set xs n z=xs.take n++([z]++xs.drop (n+1)):=by
              rw[List.set_eq_take_append_cons_drop,if_pos hn];rfl
            rw[es,List.append_assoc]
            exact RdL.mono (λx c=>Rd.keep hx.keep hx.s e x c) _ _ (RdL.append _ _ _ _ k4 (RdL.append [z] _ _ _ ⟨_,[],by simp,q,rfl⟩ k5))
          | _=>simp[setO]at hs
      · exact absurd hoff (by simp)
theorem ptr_focus [Gl]{r:Nat}{ob:Obj'}{l:Ly}{p:List Stp}{T':Ty}{x:Value}(ho:OREL E w r ob)(hx:V E w (.po r l p) x)(hty:tyL l p=some T') :
    ∃ b off,x = .pointer (some ⟨b,off,none⟩)∧E.β r=some b∧∃ (cs:Array Value) (t:TypeId) (fr:Nat×Nat) (c1 c' c2:List Value),w.heap[b]?=some (.cells cs t fr)∧NoFr cs.size fr ∧
      cs.toList=c1++c'++c2∧c1.length=off∧c'.length=T'.sz ∧
      (∀ v,getO ob p=some v→C E w v c'∧v.ty=some T') ∧
      (∀ u ob' d,setO ob p u=some ob'→u.ty=some T'→C E w u d→∀ w',Ext P0 E w E w'→w'.heap[b]?=some (.cells (c1++d++c2).toArray t fr)→OREL E w' r ob'):=by
  unfold V at hx
  rw[if_neg (by simp[AV.isAgg])]at hx
  obtain⟨a,e,hu,hk⟩:=hx
  injection e with e;subst e
  have hL:∃ L,E.L r=some L:=by
    cases ob with
    | box T c=>obtain⟨b',cs,t,fr,h1,h2,_⟩:=ho;exact⟨_,h2⟩
    | row e xs=>obtain⟨N,h1,_⟩:=ho;exact⟨_,h1⟩
    | mp K V l=>obtain⟨b',es,ck,h1,h2,_⟩:=ho;exact⟨_,h2⟩
  obtain⟨L,hL⟩:=hL
  obtain⟨hl,b,off,hb,hoff,rfl⟩:=hk L hL
  obtain⟨cs,t,fr,c1,c',c2,h⟩:=obj_focus (P0:=P0) ho hL hl hb hoff hty
  exact⟨b,off,rfl,hb,cs,t,fr,c1,c',c2,h⟩
theorem run_load_obj [Gl]{r:Nat}{ob:Obj'}{l:Ly}{p:List Stp}{T':Ty}{x:Value}{v:AV}{t:TypeId}(ho:OREL E w r ob)(hx:V E w (.po r l p) x)(hty:tyL l p=some T')
    (hg:getO ob p=some v) (ht:TyIs P T' t):∃ y,(Instr.loadAt t x).run P w = .ok y w∧V E w v y:=by
  obtain⟨b,off,rfl,hb,cs,t',fr,c1,c',c2,h1,h2,h3,h4,h5,h6,_⟩:=ptr_focus (P0:=λ_=>False) ho hx hty
  obtain⟨q1,q2⟩:=h6 v hg
  refine⟨_,?_,V_ofCells q1 q2⟩
  unfold Instr.loadAt
  simp only[Instr.sureAddr,Sem.run_bind,Sem.run_pure,Result.andThen_ok]
  refine run_loadVar ht h5 ?_
  rw[← h4]
  exact At.block h1 h3
theorem run_load_rp {T:Ty}{d:Den T}{x:Value}{t:TypeId}(hx:V E w (.rp T d) x)(ht:TyIs P T t):∃ y,(Instr.loadAt t x).run P w = .ok y w∧V E w (.data T d) y:=by
  unfold V at hx
  rw[if_neg (by simp[AV.isAgg])]at hx
  obtain⟨ad,cells,e,hb,h1,h2⟩:=hx
  injection e with e;subst e
  refine⟨_,?_,V_ofCells (v := .data T d) (T:=T) (cs:=cells) h1 rfl⟩
  unfold Instr.loadAt
  simp only[Instr.sureAddr,Sem.run_bind,Sem.run_pure,Result.andThen_ok]
  exact run_loadVar ht (Rd.length _ _ _ _ _ h1) h2
theorem run_load_cp {T:Ty}{v:AV}{x:Value}{t:TypeId}(hx:V E w (.cp v) x)(hv:v.ty=some T)(ht:TyIs P T t):∃ y,(Instr.loadAt t x).run P w = .ok y w∧V E w v y:=by
  unfold V at hx
  rw[if_neg (by simp[AV.isAgg])]at hx
  obtain⟨ad,cells,e,hb,h1,h2⟩:=hx
  injection e with e;subst e
  refine⟨_,?_,V_ofCells (v:=v) (T:=T) (cs:=cells) h1 hv⟩
  unfold Instr.loadAt
  simp only[Instr.sureAddr,Sem.run_bind,Sem.run_pure,Result.andThen_ok]
  exact run_loadVar ht (C.length _ _ _ h1 hv) h2
theorem run_store_obj [Gl]{r:Nat}{ob ob':Obj'}{l:Ly}{p:List Stp}{T':Ty}{x y:Value}{u:AV}{t:TypeId}(h:HREL P0 S0 E look w)(hlook:look r = .live ob)(hx:V E w (.po r l p) x)
    (hty:tyL l p=some T') (hs:setO ob p u=some ob') (hu:u.ty=some T') (hy:V E w u y) (ht:TyIs P T' t) :
    ∃ w',(Instr.storeAt t x y).run P w = .ok () w'∧HREL P0 S0 E (upd1 r (.live ob') look) w'∧Ext P0 E w E w':=by
  have hent:=h.ent r
  rw[hlook]at hent
  have ho:=hent.2
  obtain⟨b,off,rfl,hb,cs,t',fr,c1,c',c2,h1,h2,h3,h4,h5,_,h7⟩:=ptr_focus (P0:=P0) ho hx hty
  have hc:=V_cells hy hu
  have hlen:=C.length _ _ _ hc hu
  have hlive:(look r).isLive=true:=by rw[hlook];rfl
  have e1:cs=(c1++c'++c2).toArray:=by rw[← h3]
  obtain⟨w',g1,g2,g3⟩:=run_storeCells (P:=P) y.cells.toList 0 w b off cs.toList t' fr (by rw[h1]) (by simpa using h2)
    (by rw[h3];simp only[List.length_append,hlen,h5];omega) (λv hv=>C.one _ _ _ hc hu v hv)
  have g3':w'.heap[b]?=some (.cells (c1++y.cells.toList++c2).toArray t' fr):=by
    rw[g3]
    congr 3
    rw[h3,hlen,← h5,Nat.add_zero,← h4]
    simp[List.drop_append]
  have hsep:=h.sep r b hlive hb
  have hx':Ext P0 E w E w' := .wr g2 hsep.1 hsep.2
  obtain⟨q1,q2⟩:=h.write (w':=w') (o:=ob') hlive hb g2 (h7 u ob' _ hs hu hc w' hx' g3')
  refine⟨w',?_,q1,q2⟩
  unfold Instr.storeAt
  simp only[Instr.sureAddr,Sem.run_bind,Sem.run_pure,Result.andThen_ok]
  unfold storeVar
  rw[Sem.run_bind,run_sizeOf ht,Result.andThen_ok]
  have:y.cells.size=T'.sz:=by rw[← Array.length_toList,hlen]
  rw[if_neg (by simpa using this)]
  exact g1
end
end Go.Va
