/-
  Va, part 13: operations that make variables, and stores.
-/
import Derived.Test.YtemhlkdingkjnaaGreatDoorVaOps3
set_option linter.unusedVariables false
set_option linter.unusedSimpArgs false
namespace Go.Va
open Go
section
variable {P:Program} {P0 S0:Nat→Prop} {E:Env} {look:Nat→Ent} {w w':World}
theorem RdL.replicate {α:Type}{R:α→List Value→Prop}{x:α}{c:List Value}(h:R x c):∀ n,RdL R (List.replicate n x) (List.replicate n c).flatten
  | 0=>rfl
  | n+1=>⟨c,_,by simp[List.replicate_succ],h,RdL.replicate h n⟩
theorem Rd.dflt [Gl](S:Nat→Prop)(w:World):∀ T,Rd S w T (dflt T) (zc T)
  | .int _=>rfl
  | .bool=>rfl
  | .str=>rfl
  | .slice _=>⟨none,0,rfl,Nat.le_refl _,.inl rfl⟩
  | .arr n e=>⟨by simp[Va.dflt],RdL.replicate (Rd.dflt S w e) n⟩
  | .pair a b=>⟨_,_,rfl,Rd.dflt S w a,Rd.dflt S w b⟩
  | .unit=>rfl
  | .opq _=>rfl
  | .smap=>by simp only[Rd];exact .inl ⟨rfl,rfl⟩
  | .mapT _ _=>by simp only[Rd];exact⟨rfl,rfl⟩
theorem C.zero [Gl](E:Env)(w:World):∀ T,C E w (zeroAV T) (zc T)∧(zeroAV T).ty=some T
  | .int _=>⟨rfl,rfl⟩
  | .bool=>⟨rfl,rfl⟩
  | .str=>⟨rfl,rfl⟩
  | .slice _=>⟨rfl,rfl⟩
  | .arr n e=>⟨Rd.dflt E.S w (.arr n e),rfl⟩
  | .pair a b=>by
    obtain⟨h1,h2⟩:=C.zero E w a
    obtain⟨h3,h4⟩:=C.zero E w b
    exact⟨⟨_,_,rfl,h1,h3⟩,by simp[zeroAV,AV.ty,h2,h4]⟩
  | .unit=>⟨rfl,rfl⟩
  | .opq _=>⟨rfl,rfl⟩
  | .smap=>⟨by simp only[zeroAV,C,Rd];exact .inl ⟨rfl,rfl⟩,rfl⟩
  | .mapT _ _=>⟨by simp only[zeroAV,C,Rd];exact⟨rfl,rfl⟩,rfl⟩
theorem NoFr.zero (n:Nat):NoFr n (0,0) := .inl rfl
theorem NoFr.mark {n lo hi:Nat}(h:NoFr n (lo,hi)):NoFr n (if lo==hi then (n,n+1) else (min lo n,max hi (n+1))):=by
  split
  · exact .inr (Nat.le_refl _)
  · rename_i hne
    rcases h with h | h
    · exact absurd (by simpa using h) hne
    · exact .inr (by simp only at h ⊢; omega)
theorem post_box [Gl]{q:Nat}{v:AV}{T:Ty}{cells:Array Value}{t:TypeId}(h:HREL P0 S0 E look w)(hq:look q = .un)(hc:C E w v cells.toList)(ht:v.ty=some T)(g:Grow w w')
    (hw:w'.heap[w.heap.size]?=some (.cells cells t (0,0))) :
    OpPost P0 S0 E look w (.po q (.box T) []) [(q,.live (.box T v))] (.pointer (some ⟨w.heap.size,0,none⟩)) w':=by
  have hu:¬ E.U q:=λhu=>(h.U_iff q).1 hu hq
  have hx:Ext P0 E w (E.new q (some w.heap.size) ⟨.box T,cells.size,0⟩) w' := .new g hu
  obtain⟨h1,h2⟩:=h.new (w':=w') (q:=q) (b:=some w.heap.size) (L:=⟨.box T,cells.size,0⟩) (o := .box T v) hq g (λx hx=>by injection hx with hx;omega)
    ⟨_,cells,t,(0,0),by simp[Env.new],by simp[Env.new],hw,NoFr.zero _,ht,C.ext hx _ _ hc⟩
  refine⟨_,h1,h2,?_⟩
  rw[V_one rfl]
  refine⟨_,rfl,.inl rfl,λL hL => ?_⟩
  simp only[Env.new,if_true]at hL
  injection hL with hL;subst hL
  exact⟨rfl,w.heap.size,0,by simp[Env.new],offT_nil T,rfl⟩
theorem post_row [Gl]{q:Nat}{e:Ty}{l:List (Den e)}{cells:Array Value}{c1 c2:List Value}{t:TypeId}{fr:Nat×Nat}{cap:Nat}(h:HREL P0 S0 E look w)(hq:look q = .un)
    (hl:RdL (Rd E.S w e) l c1) (hc:cells.toList=c1++c2) (g:Grow w w') (hfr:NoFr cells.size fr) {b:Nat} (hb:w.heap.size≤b)
    (hw:w'.heap[b]?=some (.cells cells t fr)) (h1:l.length≤cap) (h2:cap*e.sz≤cells.size) :
    OpPost P0 S0 E look w (.ow q e none) [(q,.live (.row e l))] (.slice (some ⟨b,0,none⟩) l.length cap) w':=by
  have hu:¬ E.U q:=λhu=>(h.U_iff q).1 hu hq
  have hx:Ext P0 E w (E.new q (some b) ⟨.row e,cells.size,l.length⟩) w' := .new g hu
  obtain⟨k1,k2⟩:=h.new (w':=w') (q:=q) (b:=some b) (L:=⟨.row e,cells.size,l.length⟩) (o := .row e l) hq g (λx hx=>by injection hx with hx;omega)
    ⟨cells.size,by simp[Env.new],by
      simp only[Env.new,if_true]
      exact⟨cells,t,fr,c1,c2,hw,hfr,rfl,hc,RdL.mono (λx c=>Rd.keep hx.keep hx.s e x c) _ _ hl⟩⟩
  refine⟨_,k1,k2,?_⟩
  rw[V_one rfl]
  refine⟨_,_,_,rfl,.inl rfl,λL hL => ?_⟩
  simp only[Env.new,if_true]at hL
  injection hL with hL;subst hL
  refine⟨rfl,0,⟨rfl,rfl⟩,by simp,?_⟩
  simp only[Env.new,if_true]
  exact⟨.inr (by simp),h1,by simpa using h2,by simpa using h1⟩
theorem run_newVar {t:TypeId}{x:Value}{w:World}:(newVar t x).run P w = .ok ⟨w.heap.size,0,none⟩ { w with heap:=w.heap.push (.cells x.cells t) }:=by
  simp[newVar,newRow]
theorem push_at (w:World)(o:Obj):({ w with heap:=w.heap.push o }:World).heap[w.heap.size]?=some o:=by simp
end
section
variable {P:Program} {c:Cfg} {o:Oper} {op:Operand→AV} {look:Nat→Ent} {R:Type} {k:Kont R} {r:R}
theorem ydZ {d:Option Nat}{f:Nat→Option R}(h:fresh look d f=some r):∃ q,d=some q∧look q = .un∧f q=some r:=by
  unfold fresh at h
  split at h
  · exact absurd h (by simp)
  · rename_i q
    split at h
    · rename_i hq;exact⟨q,rfl,hq,h⟩
    · exact absurd h (by simp)
theorem fresh_eq {R':Type}{d:Option Nat}{f:Nat→Option R'}{q:Nat}(h1:d=some q)(h2:look q = .un):fresh look d f=f q:=by
  subst h1;simp[fresh,h2]
theorem ok_alloc [Gl]{t:TypeId}(hT:TabOk P c.tab)(ho:o.op = .alloc t)(h:aOp c o op look k=some r):∃ v RN WN,k v RN WN=some r∧Ok P c o op look v RN WN:=by
  have e:∀ (look:Nat→Ent) (R:Type) (k:Kont R),aOp c o op look k=match findT c.tab t with
    | some te=>fresh look o.dst λq=>k (.po q (.box te.T) []) [] [(q,.live (.box te.T (zeroAV te.T)))]
    | none=>none:=by
    intro look R k;unfold aOp;rw[ho];rfl
  rw[e]at h
  split at h
  · rename_i te ht
    obtain⟨htT,_⟩:=hT t te ht
    obtain⟨q,hd,hq,h⟩:=ydZ h
    refine⟨_,_,_,h,⟨λP0 S0 E w ρ hh hv => ?_,λlook' hk R' k' => ?_⟩⟩
    · obtain⟨z,g1,g2,g3⟩:=run_zero (w:=w) htT
      refine .inl ⟨_,{ w with heap:=w.heap.push (.cells z.cells t) },?_,post_box (cells:=z.cells) (t:=t) hh hq (by rw[g2];exact (C.zero E w te.T).1) (C.zero E w te.T).2 (.push _ _) (push_at _ _)⟩
      unfold execOp;rw[ho]
      simp only[Instr.alloc,Sem.run_bind,g1,Result.andThen_ok,run_newVar,Sem.run_pure]
    · rw[e,ht]
      exact fresh_eq hd ((hk q (.inr (by simp))).trans hq)
  · exact absurd h (by simp)
theorem ok_box [Gl] {t:TypeId} {x:Operand} (hT:TabOk P c.tab) (ho:o.op = .box t x) (h:aOp c o op look k=some r):∃ v RN WN,k v RN WN=some r∧Ok P c o op look v RN WN:=by
  have e:∀ (look:Nat→Ent) (R:Type) (k:Kont R),aOp c o op look k=match findT c.tab t with
    | some te=>if (fixN te.T (op x)).ty=some te.T then
        fresh look o.dst λq=>k (.po q (.box te.T) []) [] [(q,.live (.box te.T (fixN te.T (op x))))]
      else none
    | none=>none:=by
    intro look R k;unfold aOp;rw[ho];rfl
  rw[e]at h
  split at h
  · rename_i te ht
    split at h
    · rename_i hty
      obtain⟨q,hd,hq,h⟩:=ydZ h
      refine⟨_,_,_,h,⟨λP0 S0 E w ρ hh hv => ?_,λlook' hk R' k' => ?_⟩⟩
      · refine .inl ⟨_,{ w with heap:=w.heap.push (.cells (ρ x).cells t) },?_,post_box (cells:=(ρ x).cells) (t:=t) hh hq (V_cells (fixN_ok (hv x)) hty) hty (.push _ _) (push_at _ _)⟩
        unfold execOp;rw[ho]
        simp only[Instr.box,Sem.run_bind,run_newVar,Result.andThen_ok,Sem.run_pure]
      · rw[e,ht]
        simp only[if_pos hty]
        exact fresh_eq hd ((hk q (.inr (by simp))).trans hq)
    · exact absurd h (by simp)
  · exact absurd h (by simp)
theorem ok_store [Gl] {t:TypeId} {a x:Operand} (hT:TabOk P c.tab) (ho:o.op = .store t a x) (h:aOp c o op look k=some r):∃ v RN WN,k v RN WN=some r∧Ok P c o op look v RN WN:=by
  have e:∀ (look:Nat→Ent) (R:Type) (k:Kont R),aOp c o op look k=match findT c.tab t with
    | some te=>match op a with
      | .po r l p=>match look r with
        | .live ob=>if (fixN te.T (op x)).ty=some te.T∧tyL l p=some te.T then
            match setO ob p (fixN te.T (op x)) with
            | some ob'=>k .bad [r] [(r,.live ob')]
            | none=>none
          else none
        | _=>none
      | _=>none
    | none=>none:=by
    intro look R k;unfold aOp;rw[ho];rfl
  rw[e]at h
  split at h
  · rename_i te ht
    obtain⟨htT,_⟩:=hT t te ht
    split at h
    · rename_i q l p hx
      split at h
      · rename_i ob hl
        split at h
        · rename_i hty
          split at h
          · rename_i ob' hs
            refine⟨_,_,_,h,⟨λP0 S0 E w ρ hh hv => ?_,λlook' hk R' k' => ?_⟩⟩
            · have h1:=hv a
              rw[hx]at h1
              obtain⟨w',g1,g2,g3⟩:=run_store_obj (P:=P) (t:=t) hh hl h1 hty.2 hs hty.1 (fixN_ok (hv x)) htT
              refine .inr (.inl ⟨w',?_,E,g2,g3,.bad⟩)
              unfold execOp;rw[ho]
              simp only[Sem.run_bind,g1,Result.andThen_ok,Sem.run_pure]
            · rw[e,ht]
              simp[hx,hk q (by simp),hl,hty,hs]
          · exact absurd h (by simp)
        · exact absurd h (by simp)
      · exact absurd h (by simp)
    · exact absurd h (by simp)
  · exact absurd h (by simp)
theorem foldI_ok [Gl] {f:Value→Value→Sem Value} {g:Int→Int→Int} {kd:IntKind} (hf:∀ x y (w:World),(f (.int kd x) (.int kd y)).run P w = .ok (.int kd (g x y)) w) :
    ∀ (l:List AV) (vs:List Value) (x z:Int) (E:Env) (w:World),C E w (ycn l) vs→foldI g kd x l=some z→(vs.foldlM f (.int kd x)).run P w = .ok (.int kd z) w
  | [],vs,x,z,E,w,hc,h=>by
    simp only[ycn,C]at hc;subst hc
    simp only[foldI]at h;injection h with h;subst h;rfl
  | a :: l,vs,x,z,E,w,hc,h=>by
    obtain⟨y,vs',rfl,g1,g2⟩:=hc
    cases a with
    | data T d=>
      cases T with
      | int kd'=>
        simp only[foldI]at h
        split at h
        · rename_i hk;subst hk
          have:y = .int kd' d:=V_int.1 g1
          subst this
          rw[List.foldlM_cons,Sem.run_bind,hf,Result.andThen_ok]
          exact foldI_ok hf l vs' _ z E w g2 h
        · exact absurd h (by simp)
      | _=>simp[foldI]at h
    | _=>simp[foldI]at h
theorem args_list {E:Env}{w:World}{ρ:Operand→Value}(hv:∀ x,V E w (op x) (ρ x)):∀ (l:List Operand),C E w (ycn (l.map op)) (l.map ρ)
  | []=>rfl
  | a::l=>⟨ρ a,_,rfl,hv a,args_list hv l⟩
theorem exec_builtin {q:Call}{b:Builtin}{ρ:Operand→Value}{w:World}{x:Value}{w':World}(ho:o.op = .call q)(hq:q.callee = .builtin b)
    (h:(builtin b q.argTypes o.type (q.args.map fun | .const _=>true | _=>false) (q.args.map ρ)).run P w = .ok (.value x) w'):(execOp ρ o).run P w = .ok (.value x) w':=by
  unfold execOp;rw[ho]
  simp only[resolve,hq,Sem.run_bind,Sem.run_pure,Result.andThen_ok,invoke]
  exact h
theorem lenAV_ok [Gl]{T:Ty}{v:AV}{n:Int}{rs:List Nat}(h:lenAV look T v=some (n,rs)):(∀ P0 S0 E w x,HREL P0 S0 E look w→V E w v x→(T = .str∧∃ s,x = .string s∧n=(s.size:Int))∨((∃ e,T = .slice e)∧∃ a m cap,x = .slice a m cap∧n=(m:Int))) ∧
    ∀ look',(∀ q∈rs,look' q=look q)→lenAV look' T v=some (n,rs):=by
  unfold lenAV at h
  split at h
  · rename_i s
    injection h with h;injection h with h1 h2;subst h1 h2
    exact⟨λP0 S0 E w x hh hv => .inl ⟨rfl,s,V_str.1 hv,rfl⟩,λlook' _=>rfl⟩
  · rename_i e l
    injection h with h;injection h with h1 h2;subst h1 h2
    refine⟨λP0 S0 E w x hh hv => ?_,λlook' _=>rfl⟩
    obtain⟨a,cap,hx,_⟩:=V_slice.1 hv
    exact .inr ⟨⟨_,rfl⟩,_,_,_,hx,rfl⟩
  · injection h with h;injection h with h1 h2;subst h1 h2
    refine⟨λP0 S0 E w x hh hv => ?_,λlook' _=>rfl⟩
    rw[V_one rfl]at hv
    simp only[C]at hv
    injection hv with hv _
    exact .inr ⟨⟨_,rfl⟩,_,_,_,hv,rfl⟩
  · rename_i ee q e rng
    have key:∀ (E:Env) (w:World) (x:Value) (e1:Ty) (l:List (Den e1)),OREL E w q (.row e1 l)→V E w (.ow q e rng) x→∃ a m cap,x = .slice a m cap∧((rngOf l.length rng).2:Nat)=m:=by
      intro E w x e1 l hO hv
      rw[V_one rfl]at hv
      obtain⟨a,len,cap,he,hu,hk⟩:=hv
      injection he with he _
      obtain⟨N,g1,_⟩:=hO
      obtain⟨_,lo,g2,_⟩:=hk _ g1
      refine⟨_,_,_,he,?_⟩
      cases rng with
      | none=>obtain⟨_,rfl⟩:=g2;rfl
      | some p=>obtain⟨_,rfl⟩:=g2;rfl
    split at h
    · rename_i e1 l hl
      injection h with h;injection h with h1 h2;subst h1 h2
      refine⟨λP0 S0 E w x hh hv => ?_,λlook' hk=>by unfold lenAV;simp[hk q (by simp),hl]⟩
      have hent:=hh.ent q
      rw[hl]at hent
      obtain⟨a,m,cap,g1,g2⟩:=key E w x e1 l hent.2 hv
      exact .inr ⟨⟨_,rfl⟩,a,m,cap,g1,by rw[g2]⟩
    · rename_i e1 l hl
      injection h with h;injection h with h1 h2;subst h1 h2
      refine⟨λP0 S0 E w x hh hv => ?_,λlook' hk=>by unfold lenAV;simp[hk q (by simp),hl]⟩
      have hent:=hh.ent q
      rw[hl]at hent
      obtain⟨a,m,cap,g1,g2⟩:=key E w x e1 l hent.2.1 hv
      exact .inr ⟨⟨_,rfl⟩,a,m,cap,g1,by rw[g2]⟩
    · exact absurd h (by simp)
  · exact absurd h (by simp)
end
end Go.Va
