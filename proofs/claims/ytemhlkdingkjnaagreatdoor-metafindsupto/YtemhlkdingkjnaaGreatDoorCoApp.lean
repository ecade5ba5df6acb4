/-
  Co, part 8: append.
-/
import Derived.Test.YtemhlkdingkjnaaGreatDoorCoSl
set_option linter.unusedVariables false
set_option linter.unusedSimpArgs false
namespace Go.Co
open Go
open Go.Va (Grow getAt setAt NoFr Ty TE findT TabOk TyIs zc ybl Wr At Keep Gl)
theorem HREL.rename {P0:Nat→Prop} {E:Env} {look:Nat→Ent} {w w':World} {q r b n:Nat} {e:Ent} (h:HREL P0 E look w) (hr:(look r).isLive=true) (hE:E r=some (b,n)) (hq:look q = .un) (hw:Wr w w' b)
    (he:EREL (upE E q (b,n)) w' q e):HREL P0 (upE E q (b,n)) (updL [(r,.dead),(q,e)] look) w'∧Ext P0 E w (upE E q (b,n)) w':=by
  have hEq:E q=none:=by have:=h.ent q;rw[hq]at this;exact this
  have hsub:=upE_sub (x:=(b,n)) hEq
  have hb:¬ P0 b:=h.sep r b n hr hE
  have hqr:q≠r:=λe=>by rw[e]at hEq;rw[hE]at hEq;exact nomatch hEq
  have hq1:upE E q (b,n) q=some (b,n):=if_pos rfl
  have hne:∀ {x:Nat},x≠q→upE E q (b,n) x=E x:=λhr=>if_neg hr
  have hl:∀ {x:Nat},x≠q→x≠r→updL [(r,.dead),(q,e)] look x=look x:=fun {x} h1 h2=>by
    simp only[updL];rw[if_neg (by simpa using h2),if_neg (by simpa using h1)]
  have hlr:updL [(r,.dead),(q,e)] look r = .dead:=by simp[updL]
  have hlq:updL [(r,.dead),(q,e)] look q=e:=by simp only[updL];rw[if_neg (by simpa using hqr),if_pos (by simp)]
  have hother:∀ {x:Nat} {b' m:Nat},x≠q→x≠r→(look x).isLive=true→E x=some (b',m)→b'≠b:=fun {x b' m} h1 h2 h3 h4 e5=>by
    subst e5;exact h2 (h.inj x r _ m n h3 hr h4 hE)
  have hlive:∀ {x:Nat},(updL [(r,.dead),(q,e)] look x).isLive=true→x=q∨(x≠q∧x≠r∧(look x).isLive=true):=fun {x} hx=>by
    by_cases h1:x=q
    · exact .inl h1
    · by_cases h2:x=r
      · subst h2;rw[hlr]at hx;exact nomatch hx
      · rw[hl h1 h2]at hx;exact .inr ⟨h1,h2,hx⟩
  refine⟨⟨λx => ?_,λx x' b' m m' h1 h2 h3 h4 => ?_,λx b' m h1 h2 hp => ?_,λx b' m h1 => ?_,λb' hb' => ?_⟩,hsub,hw.keep hb⟩
  · by_cases h1:x=q
    · subst h1;rw[hlq];exact he
    · by_cases h2:x=r
      · subst h2;rw[hlr]
        exact λhn=>by rw[hne h1,hE]at hn;exact nomatch hn
      · rw[hl h1 h2]
        refine (h.ent x).ext hsub (hne h1) (λb' m h3 h4=>hw.block b' (hother h1 h2 h3 h4))
  · rcases hlive h1 with h1 | ⟨k1,k2,k3⟩
    · subst h1
      rw[hq1]at h3;injection h3 with h3;injection h3 with h3 _
      rcases hlive h2 with h2 | ⟨k1,k2,k3⟩
      · exact h2.symm
      · rw[hne k1]at h4;exact absurd h3.symm (hother k1 k2 k3 h4)
    · rw[hne k1]at h3
      rcases hlive h2 with h2 | ⟨j1,j2,j3⟩
      · subst h2
        rw[hq1]at h4;injection h4 with h4;injection h4 with h4 _
        exact absurd h4.symm (hother k1 k2 k3 h3)
      · rw[hne j1]at h4;exact h.inj x x' b' m m' k3 j3 h3 h4
  · rcases hlive h1 with h1 | ⟨k1,k2,k3⟩
    · subst h1
      rw[hq1]at h2;injection h2 with h2;injection h2 with h2 _;subst h2
      exact hb hp
    · rw[hne k1]at h2;exact h.sep x b' m k3 h2 hp
  · rw[hw.size]
    by_cases h2:x=q
    · subst h2
      rw[hq1]at h1;injection h1 with h1;injection h1 with h1 _;subst h1
      exact h.lt r b n hE
    · rw[hne h2]at h1;exact h.lt x b' m h1
  · rw[hw.size];exact h.pIn b' hb'
theorem HREL.kill {P0:Nat→Prop}{E:Env}{look:Nat→Ent}{w:World}{r:Nat}(h:HREL P0 E look w)(hr:E r≠none):HREL P0 E (updL [(r,.dead)] look) w:=by
  have hl:∀ {x:Nat},x≠r→updL [(r,.dead)] look x=look x:=fun {x} h2=>by
    simp only[updL];rw[if_neg (by simpa using h2)]
  have hlr:updL [(r,.dead)] look r = .dead:=by simp[updL]
  have hlive:∀ {x:Nat},(updL [(r,.dead)] look x).isLive=true→(look x).isLive=true:=fun {x} hx=>by
    by_cases h2:x=r
    · subst h2;rw[hlr]at hx;exact nomatch hx
    · rw[hl h2]at hx;exact hx
  refine⟨λx => ?_,λx x' b m m' h1 h2=>h.inj x x' b m m' (hlive h1) (hlive h2),λx b m h1=>h.sep x b m (hlive h1),h.lt,h.pIn⟩
  by_cases h2:x=r
  · subst h2;rw[hlr];exact hr
  · rw[hl h2];exact h.ent x
section
variable {P:Program} {o:Oper} {ev:Operand→AV} {h:Hs} {v:AV}
theorem SOk.reads {rl:List Nat}(H:∀ P0 E look w (ρ:Operand→Value),HREL P0 E look w→(∀ q∈rl,look q=h.look q)→(∀ x∈o.op.operands.toList,V E (ev x) (ρ x))→∃ x,(execOp ρ o).run P w = .ok (.value x) w∧V E v x) :
    SOk P o ev h v ⟨h.H,h.nx,rl++h.rl,h.wl⟩:=
  ⟨rl,[],⟨rfl,rfl,λ_ _=>rfl⟩,λlook' P0 E w ρ hl hh hv=>by
    obtain⟨x,h1,h2⟩:=H P0 E look' w ρ hh (λq hq=>hl q (.inl hq)) hv
    exact .inl ⟨x,w,h1,E,hh,.refl _ _ _,h2⟩⟩
theorem SOk.put2 {q r:Nat}{e:Ent}{nx:Nat}{rl:List Nat}(hqr:q≠r)(H:∀ P0 E look w (ρ:Operand→Value),HREL P0 E look w→look q=h.look q→look r=h.look r→(∀ x∈rl,look x=h.look x)→(∀ x∈o.op.operands.toList,V E (ev x) (ρ x)) →
    Runs P o ρ w (Post P0 E look w v [(r,.dead),(q,e)])):SOk P o ev h v ((h.put q e nx rl).put r .dead nx []):=by
  refine⟨rl,[r,q],⟨rfl,rfl,λx hx => ?_⟩,λlook' P0 E w ρ hl hh hv => ?_⟩
  · have h1:x≠r:=λe=>hx (e ▸ List.mem_cons_self)
    have h2:x≠q:=λe=>hx (by simp[e])
    rw[((h.put q e nx rl).put_stp r .dead nx []).fr x (by simpa using h1),(h.put_stp q e nx rl).fr x (by simpa using h2)]
  · have:=H P0 E look' w ρ hh (hl q (.inr (by simp))) (hl r (.inr (by simp))) (λx hx=>hl x (.inl hx)) hv
    have e1:((h.put q e nx rl).put r .dead nx []).look r = .dead:=(h.put q e nx rl).put_look r .dead nx []
    have e2:((h.put q e nx rl).put r .dead nx []).look q=e:=by
      rw[((h.put q e nx rl).put_stp r .dead nx []).fr q (by simpa using hqr),h.put_look]
    simpa[wnOf,e1,e2]using this
end
section
variable {R:Type} (tab:List (Nat×TE)) (h:Hs) (k:AV→Hs→Option R)
def cApp2 (e:Ty) (bytes:Nat) (l2:AV) (n:Nat) (rs:List Nat) (d:AV):Option R:=match d with
  | .val (.slice none 0 0)=>match n with
    | 0=>k d ⟨h.H,h.nx,rs++h.rl,h.wl⟩
    | n'+1=>match Nat.ble ((n'+1)*bytes) 70368744177664 with
      | true=>newE ⟨h.H,h.nx,rs++h.rl,h.wl⟩ (.cells l2) λq h=>ybL (.sl q 0 (n'+1) (n'+1) e.sz false) λv=>k v h
      | false=>none
  | .sl r off len lo esz ex=>match Nat.beq esz e.sz,h.H.get r with
    | true, .cells l=>match Nat.ble (len+n) lo with
      | true=>match putA l (off+len*esz) l2 with
        | some l'=>putE h r (.cells l') h.nx rs λh=>ybL (.sl r off (len+n) lo esz ex) λv=>k v h
        | none=>none
      | false => match skip l off with
        | some l1=>match takeA l1 (len*esz) with
          | some l0=>match allOne l0&&Nat.ble ((len+n)*bytes) 70368744177664 with
            | true=>match ex with
              | true=>newE ⟨h.H,h.nx,(r::rs)++h.rl,h.wl⟩ (.cells (appA l0 l2)) λq h=>ybL (.sl q 0 (len+n) (len+n) esz false) λv=>k v h
              | false=>match off with
                | 0=>newE ⟨h.H,h.nx,rs++h.rl,h.wl⟩ (.cells (appA l0 l2)) λq h=>putE h r .dead h.nx [] λh=>ybL (.sl q 0 (len+n) (len+n) esz false) λv=>k v h
                | _+1=>none
            | false=>none
          | none=>none
        | none=>none
    | _,_=>none
  | _=>none
def cApp (t t2:TypeId) (d s:AV):Option R:=match findT tab t,findT tab t2 with
  | some te,some te2=>match te.T,te2.T.sl with
    | .slice e,true=>match Nat.ble 1 te.bytes&&Nat.ble te.bytes 1048576,srcA h e.sz s none with
      | true,some (l2,n,rs)=>cApp2 h k e te.bytes l2 n rs d
      | _,_=>none
    | _,_=>none
  | _,_=>none
end
section
variable {P:Program} {R:Type} {r:R} {tab:List (Nat×TE)} {o:Oper} {ev:Operand→AV} {h:Hs} {k:AV→Hs→Option R}
theorem ok_append [Gl] {q : Call} {t t2:TypeId} {x x':Operand} (hT:TabOk P tab) (ho:o.op = .call q) (hq:q.callee = .builtin .append) (ha:q.args.toList=[x,x']) (hts:q.argTypes.toList=[t,t2])
    (hk:cApp tab h k t t2 (ev x) (ev x')=some r):∃ v h',k v h'=some r∧SOk P o ev h v h':=by
  have hmem:∀ y,(y=x∨y=x')→y∈o.op.operands.toList:=λy hy=>opnd ho (by
    simp only[Op.operands,Call.operands,Array.toList_append,List.mem_append,ha]
    rcases hy with rfl | rfl<;>simp)
  have hargs:q.args = #[x,x']:=by apply Array.toList_inj.1;exact ha
  have hts':q.argTypes = #[t,t2]:=by apply Array.toList_inj.1;exact hts
  have hexec:∀ (ρ:Operand→Value) (w w':World) (z:Value),(Builtin.append_ #[t,t2] t #[ρ x,ρ x']).run P w = .ok z w'→(execOp ρ o).run P w = .ok (.value z) w':=by
    intro ρ w w' z hz
    refine Va.exec_builtin ho hq ?_
    rw[hts',hargs]
    simp only[builtin,Sem.run_bind]
    have:(Builtin.append_ #[t,t2] o.type (#[x,x'].map ρ)).run P w = .ok z w':=by
      rw[show Builtin.append_ #[t,t2] o.type (#[x,x'].map ρ)=Builtin.append_ #[t,t2] t #[ρ x,ρ x'] from by simp;rfl];exact hz
    rw[this];rfl
  unfold cApp at hk
  split at hk
  · rename_i te te2 ht ht2
    obtain⟨htT,hel⟩:=hT t te ht
    obtain⟨ht2T,_⟩:=hT t2 te2 ht2
    split at hk
    · rename_i e hTe hsl
      obtain⟨u,i,hu,huT,hi,hib⟩:=hel e hTe
      split at hk
      · rename_i l2 n rs hby hsrc
        rw[Bool.and_eq_true]at hby
        have hb1:1≤i.bytes:=by rw[hib];exact Nat.le_of_ble_eq_true hby.1
        have hb2:i.bytes≤1048576:=by rw[hib];exact Nat.le_of_ble_eq_true hby.2
        unfold cApp2 at hk
        split at hk
        · -- to nil
          rename_i d hd
          have hdv:∀ {E:Env} {ρ:Operand→Value},(∀ x∈o.op.operands.toList,V E (ev x) (ρ x))→ρ x = .slice none 0 0:=λhv=>by
            have:=hv x (hmem x (.inl rfl))
            rw[hd]at this;exact V_val.1 this
          cases n with
          | zero=>
            simp only[]at hk
            refine⟨_,_,hk,SOk.reads (λP0 E look w ρ hh hl hv => ?_)⟩
            obtain⟨cs,s1,s2,s3,s4,s5⟩:=src_ok (P:=P) hsrc hh hl (hv x' (hmem x' (.inr rfl)))
            refine⟨.slice none 0 0,hexec ρ w w _ ?_,by rw[hd];rfl⟩
            rw[hdv hv]
            exact Va.run_append_fits (l:=([]:List (Va.Den e))) hu huT ht2T hsl s4 (s5 w (λ_ _=>rfl)) (Nat.le_refl _) rfl
          | succ n=>
            simp only[]at hk
            split at hk
            · rename_i hbd
              have hbd:=Nat.le_of_ble_eq_true hbd
              obtain⟨hun,hk⟩:=newE_some hk
              rw[yba]at hk
              refine⟨_,_,hk,SOk.put (h:=h) (rl:=rs) (q:=h.nx) (λP0 E look w ρ hh hq0 hl hv => ?_)⟩
              obtain⟨cs,s1,s2,s3,s4,s5⟩:=src_ok (P:=P) hsrc hh hl (hv x' (hmem x' (.inr rfl)))
              obtain⟨nc,w',g1,g2,g3,rest,g4,g5⟩:=run_app_grow (P:=P) (old:=[]) (n:=0) (a:=none) (cap:=0) hu huT ht2T hsl hi hb1 hb2 s4 s5 s2 (by rw[Nat.zero_add,hib];exact hbd) (by omega)
                (λw' _=>rfl) (by simp)
              refine .inl ⟨_,w',hexec ρ w w' _ (by rw[hdv hv];exact g1),?_⟩
              refine post_new (cs:=([]++cs++rest).toArray) (t:=u) (c1:=cs) (c2:=rest) hh (hq0.trans hun) g2 g4 (by simp) s1 (λE' _ hE=>⟨_,_,nc,hE,by rw[Nat.zero_add],Nat.le_refl _,by omega,λe=>(nomatch e),?_⟩)
              rw[List.size_toArray,g5,Nat.zero_add];exact Nat.le_refl _
            · exact nomatch hk
        · -- to a slice
          rename_i d q0 off len lo esz ex hd
          have hdv:∀ {E:Env} {ρ:Operand→Value},(∀ x∈o.op.operands.toList,V E (ev x) (ρ x))→∃ b m c,E q0=some (b,m)∧ρ x = .slice (some ⟨b,off,none⟩) len c∧len≤lo∧lo≤c∧(ex=true→c=lo)∧off+c*esz≤m:=λhv=>by
            have:=hv x (hmem x (.inl rfl))
            rw[hd]at this
            obtain⟨b,m,c,h1,h2,h3⟩:=this
            injection h2 with h2 _
            exact⟨b,m,c,h1,h2,h3⟩
          split at hk
          · rename_i l hes hl0
            have hes:=Nat.eq_of_beq_eq_true hes
            subst hes
            split at hk
            · -- in place
              rename_i hfit
              have hfit:=Nat.le_of_ble_eq_true hfit
              split at hk
              · rename_i l' hp
                rw[putE_eq,yba]at hk
                refine⟨_,_,hk,SOk.put (λP0 E look w ρ hh hq0 hl hv => ?_)⟩
                obtain⟨cs,s1,s2,s3,s4,s5⟩:=src_ok (P:=P) hsrc hh hl (hv x' (hmem x' (.inr rfl)))
                obtain⟨b,m,c,d1,d2,d3,d4,d5,d6⟩:=hdv hv
                obtain⟨w',k1,k2,k3⟩:=store_cells (P:=P) hh (hq0.trans hl0) d1 hp s3 s1
                refine .inl ⟨.slice (some ⟨b,off,none⟩) (len+n) c,w',hexec ρ w w' _ ?_,E,k2,k3,b,m,c,d1,rfl,hfit,d4,d5,d6⟩
                rw[d2]
                have:=Va.run_append_fits (P:=P) (l:=List.replicate n (Va.dflt e)) (x:=ρ x') (cs:=cs) (a:=some ⟨b,off,none⟩) (n:=len) (cap:=c) (w:=w) (w':=w') hu huT ht2T hsl
                  (by rw[List.length_replicate];exact s4) (by rw[List.length_replicate];exact s5 w (λ_ _=>rfl)) (by rw[List.length_replicate];omega) (by simp only[];rw[Va.Addr.add_eq rfl];exact k1)
                rw[List.length_replicate]at this
                exact this
              · exact nomatch hk
            · rename_i hnfit
              have hnfit:¬ len+n≤lo:=λhle=>by rw[Nat.ble_eq_true_of_le hle]at hnfit;exact nomatch hnfit
              split at hk
              · rename_i l1 h1
                split at hk
                · rename_i l0 h0
                  split at hk
                  · rename_i hbd
                    rw[Bool.and_eq_true]at hbd
                    have hbd2:=Nat.le_of_ble_eq_true hbd.2
                    -- what was there
                    have hold:∀ {P0:Nat→Prop} {E:Env} {look:Nat→Ent} {w:World} {b m:Nat} (c:Nat),HREL P0 E look w→look q0=h.look q0→E q0=some (b,m)→∃ cs t fr c1 c2,w.heap[b]?=some (.cells cs t fr)∧NoFr cs.size fr∧cs.size=m∧cs.toList=c1++c2 ∧
                        C E l0 ((c1.drop off).take (len*e.sz))∧((c1.drop off).take (len*e.sz)).length=len*e.sz∧off+len*e.sz≤c1.length∧isL l0=true ∧
                        ∀ w':World,(∀ b:Nat,b<w.heap.size→w'.heap[b]?=w.heap[b]?)→(Builtin.firstCells e.sz len (.slice (some ⟨b,off,none⟩) len c)).run P w' = .ok ((c1.drop off).take (len*e.sz)).toArray w':=by
                      intro P0 E look w b m c hh hq0 hE
                      obtain⟨b',n',cs,t',fr,e1,e2,e3,e4,c1,c2,e5,e6⟩:=ent_cells hh (hq0.trans hl0)
                      rw[hE]at e1;injection e1 with e1;injection e1 with e1 e1'; subst e1 e1'
                      obtain⟨g1,g2,g3,g4,g5⟩:=part_at e2 e5 e6 h1 h0
                      refine⟨cs,t',fr,c1,c2,e2,e3,e4,e5,g1,g2,g3,g5,λw' hw => ?_⟩
                      have hat:At w' ⟨b,off,none⟩ ((c1.drop off).take (len*e.sz)):=⟨g4.1,λj hj=>by
                        have:=g4.2 j hj
                        unfold World.cell? at this ⊢
                        rw[hw b (lt_of_some e2)];exact this⟩
                      have:=Va.run_loadCells_at (P:=P) hat
                      rw[g2]at this;exact this
                    split at hk
                    · -- it grows
                      obtain⟨hun,hk⟩:=newE_some hk
                      rw[yba]at hk
                      refine⟨_,_,hk,SOk.put (h:=h) (rl:=q0::rs) (q:=h.nx) (λP0 E look w ρ hh hq0 hl hv => ?_)⟩
                      obtain⟨cs,s1,s2,s3,s4,s5⟩:=src_ok (P:=P) hsrc hh (λy hy=>hl y (List.mem_cons_of_mem _ hy)) (hv x' (hmem x' (.inr rfl)))
                      obtain⟨b,m,c,d1,d2,d3,d4,d5,d6⟩:=hdv hv
                      obtain⟨bs,t',fr,c1,c2,f1,f2,f3,f4,f5,f6,f7,f8,f9⟩:=hold c hh (hl q0 List.mem_cons_self) d1
                      have hcl:=d5 rfl
                      obtain⟨nc,w',g1,g2,g3,rest,g4,g5⟩:=run_app_grow (P:=P) (a:=some ⟨b,off,none⟩) hu huT ht2T hsl hi hb1 hb2 s4 s5 s2 (by rw[hib];exact hbd2) (by rw[hcl];exact hnfit) f9 f6
                      refine .inl ⟨_,w',hexec ρ w w' _ (by rw[d2];exact g1),?_⟩
                      refine post_new (t:=u) (c2:=rest) hh (hq0.trans hun) g2 g4 rfl (C_app l0 l2 _ _ f8 f5 s1) (λE' _ hE=>⟨_,_,nc,hE,rfl,Nat.le_refl _,g3,λe=>(nomatch e),?_⟩)
                      rw[List.size_toArray,g5,Nat.zero_add];exact Nat.le_refl _
                    · split at hk
                      · -- who knows
                        obtain⟨hun,hk⟩:=newE_some hk
                        rw[putE_eq,yba]at hk
                        have hqr:h.nx≠q0:=λe=>by
                          have:h.look q0 = .cells l:=hl0
                          have hun':h.look h.nx = .un:=hun
                          rw[e,this]at hun'; exact nomatch hun'
                        refine⟨_,_,hk,SOk.put2 (h:=h) (rl:=rs) (q:=h.nx) hqr (λP0 E look w ρ hh hqn hq0 hl hv => ?_)⟩
                        obtain⟨cs,s1,s2,s3,s4,s5⟩:=src_ok (P:=P) hsrc hh hl (hv x' (hmem x' (.inr rfl)))
                        obtain⟨b,m,c,d1,d2,d3,d4,d5,d6⟩:=hdv hv
                        obtain⟨bs,t',fr,c1,c2,f1,f2,f3,f4,f5,f6,f7,f8,f9⟩:=hold c hh hq0 d1
                        rw[List.drop_zero]at f5 f6 f9
                        rw[Nat.zero_add]at f7 d6
                        by_cases hc:len+n≤c
                        · -- it fits
                          have hmul:(len+n)*e.sz≤c*e.sz:=Nat.mul_le_mul_right _ hc
                          have hs2:cs.length=n*e.sz:=s2
                          rw[Nat.add_mul]at hmul
                          have hbl:bs.toList.length=m:=by rw[Array.length_toList,f3]
                          obtain⟨w',k1,k2,k3⟩:=Va.run_storeCells (P:=P) cs 0 w b (len*e.sz) bs.toList t' fr (by rw[Array.toArray_toList];exact f1) (by rw[Array.length_toList];exact f2) (by omega) (allOne_ok l2 cs s1 s3)
                          rw[Nat.add_zero]at k3
                          have hcat:bs.toList.take (len*e.sz)++cs++bs.toList.drop (len*e.sz+cs.length)=((c1.take (len*e.sz))++cs)++bs.toList.drop (len*e.sz+cs.length):=by
                            rw[f4,List.take_append_of_le_length f7]
                          have hEq:E h.nx=none:=by have:=hh.ent h.nx;rw[hqn.trans hun]at this;exact this
                          have hsz:(bs.toList.take (len*e.sz)++cs++bs.toList.drop (len*e.sz+cs.length)).length=m:=by
                            rw[List.length_append,List.length_append,List.length_take,List.length_drop];omega
                          obtain⟨j1,j2⟩:=HREL.rename (q:=h.nx) (e := .cells (appA l0 l2)) hh (by rw[hq0];show (h.look q0).isLive=true;rw[show h.look q0 = .cells l from hl0];rfl) d1 (hqn.trans hun) k2
                            ⟨b,m,_,t',fr,if_pos rfl,k3,by rw[List.size_toArray,hsz,← f3];exact f2,by rw[List.size_toArray,hsz],_,_,hcat,C.ext (upE_sub hEq) _ _ (C_app l0 l2 _ _ f8 f5 s1)⟩
                          refine .inl ⟨.slice (some ⟨b,0,none⟩) (len+n) c,w',hexec ρ w w' _ ?_,_,j1,j2,b,m,c,if_pos rfl,rfl,Nat.le_refl _,hc,λe=>(nomatch e),by omega⟩
                          rw[d2]
                          have:=Va.run_append_fits (P:=P) (l:=List.replicate n (Va.dflt e)) (x:=ρ x') (cs:=cs) (a:=some ⟨b,0,none⟩) (n:=len) (cap:=c) (w:=w) (w':=w') hu huT ht2T hsl
                            (by rw[List.length_replicate];exact s4) (by rw[List.length_replicate];exact s5 w (λ_ _=>rfl)) (by rw[List.length_replicate];omega) (by simp only[];rw[Va.Addr.add_eq rfl,Nat.zero_add];exact k1)
                          rw[List.length_replicate]at this
                          exact this
                        · obtain⟨nc,w',g1,g2,g3,rest,g4,g5⟩:=run_app_grow (P:=P) (a:=some ⟨b,0,none⟩) hu huT ht2T hsl hi hb1 hb2 s4 s5 s2 (by rw[hib];exact hbd2) hc f9 f6
                          refine .inl ⟨_,w',hexec ρ w w' _ (by rw[d2];exact g1),?_⟩
                          obtain⟨E',j1,j2,j3⟩:=post_new (q:=h.nx) (v := .sl h.nx 0 (len+n) (len+n) e.sz false) (x := .slice (some ⟨w.heap.size,0,none⟩) (len+n) nc) (t:=u) (c2:=rest) hh (hqn.trans hun) g2 g4 rfl (C_app l0 l2 _ _ f8 f5 s1)
                            (λE' _ hE=>⟨_,_,nc,hE,rfl,Nat.le_refl _,g3,λe=>(nomatch e),by rw[List.size_toArray,g5,Nat.zero_add];exact Nat.le_refl _⟩)
                          refine⟨E',?_,j2,j3⟩
                          exact HREL.kill j1 (λhn=>by rw[j2.sub q0 _ d1]at hn;exact nomatch hn)
                      · exact nomatch hk
                  · exact nomatch hk
                · exact nomatch hk
              · exact nomatch hk
          · exact nomatch hk
        · exact nomatch hk
      · exact nomatch hk
    · exact nomatch hk
  · exact nomatch hk
end
end Go.Co
