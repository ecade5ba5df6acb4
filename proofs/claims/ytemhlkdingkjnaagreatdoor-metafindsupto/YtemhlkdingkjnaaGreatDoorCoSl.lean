/-
  Co, part 7: slices.
-/
import Derived.Test.YtemhlkdingkjnaaGreatDoorCoMem
set_option linter.unusedVariables false
set_option linter.unusedSimpArgs false
namespace Go.Co
open Go
open Go.Va (Grow getAt setAt NoFr Ty TE findT TabOk TyIs zc ybl Wr At Keep Gl)
def bnd (d:Nat):Option AV→Option Nat
  | none=>some d
  | some (.val (.int _ n))=>(match decide (0≤n) with | true=>some n.toNat | false=>none)
  | _=>none
section
variable {R:Type} (P:Program) (tab:List (Nat×TE)) (h:Hs) (k:AV→Hs→Option R)
def outA (v:AV):Option R:=ybL v λv=>k v h
def tellS (q off l u m esz:Nat) (ex:Bool):Option R:=match l with
  | 0=>outA h k (.sl q off u m esz ex)
  | l'+1=>match Nat.blt (l'+1) m with
    | true=>outA h k (.sl q (off+(l'+1)*esz) (u-(l'+1)) (m-(l'+1)) esz ex)
    | false=>k .es h
def cSlice2 (r off esz:Nat) (ex:Bool) (c l u:Nat) (hi mx:Option AV):Option R:=match mx with
  | none=>match Nat.ble l u&&Nat.ble u c with
    | true=>tellS h k r off l u c esz ex
    | false=>none
  | some m=>match bnd 0 (some m),hi with
    | some m,some _=>match Nat.ble l u&&(Nat.ble u m&&Nat.ble m c) with
      | true=>tellS h k r off l u m esz true
      | false=>none
    | _,_=>none
def cSlice (t:TypeId) (x:AV) (lo hi mx:Option AV):Option R:=match findT tab t with
  | some te=>match te.T,x with
    | .slice e,.sl r off len c esz ex=>match Nat.beq esz e.sz,bnd 0 lo,bnd len hi with
      | true,some l,some u=>cSlice2 h k r off esz ex c l u hi mx
      | _,_,_=>none
    | _,_=>none
  | none=>none
def minO (n:Nat):Option Nat→Nat
  | some m=>min n m
  | none=>n
def srcA (h : Hs) (esz:Nat) (s:AV) (m:Option Nat):Option (AV×Nat×List Nat):=match s with
  | .val (.slice none 0 _)=>some (.done,0,[])
  | .es=>some (.done,0,[])
  | .sl r off len _ e _=>match Nat.beq e esz with
    | true=>match h.H.get r with
      | .cells l=>match skip l off with
        | some l1=>match takeA l1 (minO len m*esz) with
          | some l2=>match allOne l2 with
            | true=>some (l2,len,[r])
            | false=>none
          | none=>none
        | none=>none
      | _=>none
    | false=>none
  | _=>none
def cLen (t:TypeId) (v:AV):Option R:=match findT tab t with
  | some te=>match te.T,v with
    | .slice _,.sl _ _ len _ _ _=>k (.val (.int .i64 len)) h
    | .slice _,.es=>k (.val (.int .i64 0)) h
    | _,_=>none
  | none=>none
end
theorem bnd_ok {E:Env} {ρ:Operand→Value} {ev:Operand→AV} {d l:Nat} {x:Option Operand} (hv:∀ y,x=some y→V E (ev y) (ρ y)) (h:bnd d (x.map ev)=some l):(x=none∧l=d)∨∃ y kd i,x=some y∧ρ y = .int kd i∧0≤i∧i.toNat=l:=by
  cases x with
  | none=>injection h with h;exact .inl ⟨rfl,h.symm⟩
  | some y=>
    refine .inr ⟨y,?_⟩
    have h1:=hv y rfl
    simp only[Option.map_some]at h
    unfold bnd at h
    split at h
    · rename_i e;exact nomatch e
    · rename_i kd n e
      injection e with e
      rw[e]at h1
      split at h
      · rename_i hn
        injection h with h
        exact⟨kd,n,rfl,V_val.1 h1,of_decide_eq_true hn,h⟩
      · exact nomatch h
    · exact nomatch h
theorem run_bnds {P:Program} {isS:Bool} {len cap:Nat} {w:World} {ρ:Operand→Value} {lo hi mx:Option Operand} {l h m:Nat}
    (hl:(lo=none∧l=0)∨∃ y kd i,lo=some y∧ρ y = .int kd i∧0≤i∧i.toNat=l) (hh:(hi=none∧h=len)∨∃ y kd i,hi=some y∧ρ y = .int kd i∧0≤i∧i.toNat=h)
    (hm:h≤m) (hmc:m≤cap) (lh:l≤h)
    (hmx:(mx=none∧m=cap)∨∃ y kd i,mx=some y∧ρ y = .int kd i∧0≤i∧i.toNat=m∧hi≠none) :
    (Instr.sliceBounds isS len cap (lo.map ρ) (hi.map ρ) (mx.map ρ)).run P w = .ok (l,h,m) w:=by
  rcases hl with ⟨rfl,rfl⟩ | ⟨y1,k1,i1,rfl,hy1,hi1,rfl⟩
  · rcases hh with ⟨rfl,rfl⟩ | ⟨z,k2,i2,rfl,hz,hi2,rfl⟩
    · rcases hmx with ⟨rfl,rfl⟩ | ⟨y,kd,i,rfl,hy,hi0,him,hhi⟩
      · simp[Instr.sliceBounds]
      · exact absurd rfl hhi
    · rcases hmx with ⟨rfl,rfl⟩ | ⟨y,kd,i,rfl,hy,hi0,rfl,hhi⟩
      · have H:∀ code,(Instr.sliceBound (.int k2 i2) m code).run P w = .ok i2.toNat w:=λcode=>Va.run_sliceBound ⟨hi2,by omega⟩
        simp[Instr.sliceBounds,hz,H]
      · have M:∀ code,(Instr.sliceBound (.int kd i) cap code).run P w = .ok i.toNat w:=λcode=>Va.run_sliceBound ⟨hi0,by omega⟩
        have H:∀ code,(Instr.sliceBound (.int k2 i2) i.toNat code).run P w = .ok i2.toNat w:=λcode=>Va.run_sliceBound ⟨hi2,by omega⟩
        simp[Instr.sliceBounds,hz,H,hy,M]
  · rcases hh with ⟨rfl,rfl⟩ | ⟨z,k2,i2,rfl,hz,hi2,rfl⟩
    · rcases hmx with ⟨rfl,rfl⟩ | ⟨y,kd,i,rfl,hy,hi0,him,hhi⟩
      · have L:∀ code,(Instr.sliceBound (.int k1 i1) h code).run P w = .ok i1.toNat w:=λcode=>Va.run_sliceBound ⟨hi1,by omega⟩
        simp[Instr.sliceBounds,hy1,L]
      · exact absurd rfl hhi
    · have L:∀ code,(Instr.sliceBound (.int k1 i1) i2.toNat code).run P w = .ok i1.toNat w:=λcode=>Va.run_sliceBound ⟨hi1,by omega⟩
      rcases hmx with ⟨rfl,rfl⟩ | ⟨y,kd,i,rfl,hy,hi0,rfl,hhi⟩
      · have H:∀ code,(Instr.sliceBound (.int k2 i2) m code).run P w = .ok i2.toNat w:=λcode=>Va.run_sliceBound ⟨hi2,by omega⟩
        simp[Instr.sliceBounds,hz,H,hy1,L]
      · have M:∀ code,(Instr.sliceBound (.int kd i) cap code).run P w = .ok i.toNat w:=λcode=>Va.run_sliceBound ⟨hi0,by omega⟩
        have H:∀ code,(Instr.sliceBound (.int k2 i2) i.toNat code).run P w = .ok i2.toNat w:=λcode=>Va.run_sliceBound ⟨hi2,by omega⟩
        simp[Instr.sliceBounds,hz,H,hy,M,hy1,L]
theorem ydl {P:Program}{o:Oper}{t:TypeId}{x:Operand}{lo hi mx:Option Operand}{ρ:Operand→Value}{w:World}{y:Value}(ho:o.op = .slice t x lo hi mx)(h:(Instr.sliceAt t (ρ x) (lo.map ρ) (hi.map ρ) (mx.map ρ)).run P w = .ok y w) :
    (execOp ρ o).run P w = .ok (.value y) w:=by
  unfold execOp;rw[ho]
  simp only[Sem.run_bind,h,Result.andThen_ok,Sem.run_pure]
section
variable {P:Program} {R:Type} {r:R} {tab:List (Nat×TE)} {o:Oper} {ev:Operand→AV} {h:Hs} {k:AV→Hs→Option R}
theorem ok_slice {t:TypeId} {x:Operand} {lo hi mx:Option Operand} (hT:TabOk P tab) (ho:o.op = .slice t x lo hi mx) (hk:cSlice tab h k t (ev x) (lo.map ev) (hi.map ev) (mx.map ev)=some r) :
    ∃ v h',k v h'=some r∧SOk P o ev h v h':=by
  have hops:∀ y,(y=x∨lo=some y∨hi=some y∨mx=some y)→y∈o.op.operands.toList:=λy hy=>opnd ho (by
    simp only[Op.operands,Array.toList_append,List.mem_append]
    rcases hy with rfl | rfl | rfl | rfl<;>simp)
  unfold cSlice at hk
  split at hk
  · rename_i te ht
    obtain⟨htT,_⟩:=hT t te ht
    split at hk
    · rename_i e q off len c esz ex hTe hx
      rw[hTe]at htT
      obtain⟨⟨u0,hu,huT⟩,_⟩:=htT
      split at hk
      · rename_i l u hes hl hu2
        have hes:=Nat.eq_of_beq_eq_true hes
        -- what the run gives
        have main : ∀ (m:Nat),(∀ {E:Env} {ρ:Operand→Value} {c':Nat},(∀ x∈o.op.operands.toList,V E (ev x) (ρ x))→c≤c'→(ex=true→c'=c) →
            ∃ m',(mx=none∧m'=c'∧m=c∨(∃ y kd i,mx=some y∧ρ y = .int kd i∧0≤i∧i.toNat=m'∧hi≠none)∧m'=m))→l≤u→u≤m→m≤c →
            ∀ P0 E look w (ρ:Operand→Value),HREL P0 E look w→(∀ x∈o.op.operands.toList,V E (ev x) (ρ x)) →
            ∃ b n c' m',E q=some (b,n)∧len≤c∧c≤c'∧(ex=true→c'=c)∧off+c'*esz≤n∧m≤m'∧m'≤c'∧(mx.isSome=true→m'=m)∧(mx.isSome=false→m=c∧m'=c') ∧
              (execOp ρ o).run P w = .ok (.value (.slice (if m'=l then some ⟨b,off,none⟩ else some ⟨b,off+l*esz,none⟩) (u-l) (m'-l))) w:=by
          intro m hm h1 h2 h3 P0 E look w ρ hh hv
          have hxv:=hv x (hops x (.inl rfl))
          rw[hx]at hxv
          obtain⟨b,n,c',hE,he,g1,g2,g3,g4⟩:=hxv
          injection he with he _
          obtain⟨m',hm'⟩:=hm hv g2 g3
          have hmm:m≤m'∧m'≤c':=by
            rcases hm' with ⟨_,h5,h6⟩ | ⟨_,h5⟩<;>omega
          refine⟨b,n,c',m',hE,g1,g2,g3,g4,hmm.1,hmm.2,λhs => ?_,λhs => ?_,ydl ho ?_⟩
          · rcases hm' with ⟨h5,_⟩ | ⟨_,h5⟩
            · rw[h5]at hs;exact nomatch hs
            · exact h5
          · rcases hm' with ⟨_,h5,h6⟩ | ⟨⟨y,_,_,h5,_⟩,_⟩
            · exact⟨h6,h5⟩
            · rw[h5]at hs;exact nomatch hs
          · have hb:=run_bnds (P:=P) (isS:=true) (len:=len) (cap:=c') (w:=w) (lo:=lo) (hi:=hi) (mx:=mx) (m:=m')
              (bnd_ok (ρ:=ρ) (λy hy=>hv y (hops y (.inr (.inl hy)))) hl) (bnd_ok (ρ:=ρ) (λy hy=>hv y (hops y (.inr (.inr (.inl hy))))) hu2) (by omega) hmm.2 h1
              (by rcases hm' with ⟨h5,h6,_⟩ | ⟨h5,_⟩
                  · exact .inl ⟨h5,h6⟩
                  · exact .inr h5)
            rw[he,Va.run_slice_slice hu huT hb,hes]
            simp only[Option.map_some,Va.Addr.add_eq]
        -- what is told of it
        have fin:∀ (m:Nat) (exn:Bool),(exn=true→mx.isSome=true∨ex=true)→(mx.isSome=false→m=c)→l≤u→u≤m→m≤c→(∀ {E:Env} {ρ:Operand→Value} {c':Nat},(∀ x∈o.op.operands.toList,V E (ev x) (ρ x))→c≤c'→(ex=true→c'=c) →
            ∃ m',(mx=none∧m'=c'∧m=c∨(∃ y kd i,mx=some y∧ρ y = .int kd i∧0≤i∧i.toNat=m'∧hi≠none)∧m'=m)) →
            tellS h k q off l u m esz exn=some r→∃ v h',k v h'=some r∧SOk P o ev h v h':=by
          intro m exn hexn hmc h1 h2 h3 hm hk
          have M:=main m hm h1 h2 h3
          cases l with
          | zero=>
            simp only[tellS]at hk
            unfold outA at hk;rw[yba]at hk
            refine⟨_,_,hk,SOk.pure (λP0 E look w ρ hh hv => ?_)⟩
            obtain⟨b,n,c',m',hE,g1,g2,g3,g4,g5,g6,g7,g8,g9⟩:=M P0 E look w ρ hh hv
            refine⟨_,g9,b,n,m',hE,?_,h2,g5,?_,?_⟩
            · rw[Nat.zero_mul,Nat.add_zero,ite_self,Nat.sub_zero,Nat.sub_zero]
            · intro he
              cases hs:mx.isSome with
              | true=>exact g7 hs
              | false=>
                obtain⟨k1,k2⟩:=g8 hs
                rcases hexn he with hh' | hh'
                · rw[hs]at hh'; exact nomatch hh'
                · have:=g3 hh'; omega
            · have:m'*esz≤c'*esz:=Nat.mul_le_mul_right _ g6
              omega
          | succ l=>
            simp only[tellS]at hk
            split at hk
            · rename_i hb
              have hlm:l+1<m:=Nat.le_of_ble_eq_true hb
              unfold outA at hk;rw[yba]at hk
              refine⟨_,_,hk,SOk.pure (λP0 E look w ρ hh hv => ?_)⟩
              obtain⟨b,n,c',m',hE,g1,g2,g3,g4,g5,g6,g7,g8,g9⟩:=M P0 E look w ρ hh hv
              rw[if_neg (by omega)]at g9
              refine⟨_,g9,b,n,m'-(l+1),hE,rfl,by omega,by omega,?_,?_⟩
              · intro he
                cases hs:mx.isSome with
                | true=>rw[g7 hs]
                | false=>
                  obtain⟨k1,k2⟩:=g8 hs
                  rcases hexn he with hh' | hh'
                  · rw[hs]at hh'; exact nomatch hh'
                  · have:=g3 hh'; omega
              · have e1:(m'-(l+1))*esz+(l+1)*esz=m'*esz:=by rw[← Nat.add_mul];congr 1;omega
                have:m'*esz≤c'*esz:=Nat.mul_le_mul_right _ g6
                omega
            · rename_i hb
              refine⟨_,_,hk,SOk.pure (λP0 E look w ρ hh hv => ?_)⟩
              obtain⟨b,n,c',m',hE,g1,g2,g3,g4,g5,g6,g7,g8,g9⟩:=M P0 E look w ρ hh hv
              have hlm:¬ l+1<m:=λhlt=>by
                have:Nat.blt (l+1) m=true:=Nat.ble_eq_true_of_le hlt
                rw[this]at hb;exact nomatch hb
              exact⟨_,g9,_,_,by rw[show u-(l+1)=0 by omega]⟩
        unfold cSlice2 at hk
        cases mx with
        | none=>
          simp only[Option.map_none]at hk
          split at hk
          · rename_i hb
            rw[Bool.and_eq_true]at hb
            exact fin c ex (λh => .inr h) (λ_=>rfl) (Nat.le_of_ble_eq_true hb.1) (Nat.le_of_ble_eq_true hb.2) (Nat.le_refl _) (fun {E ρ c'} hv h1 h2=>⟨c',.inl ⟨rfl,rfl,rfl⟩⟩) hk
          · exact nomatch hk
        | some my=>
          simp only[Option.map_some]at hk
          split at hk
          · rename_i m hi0 hm hhi
            split at hk
            · rename_i hb
              rw[Bool.and_eq_true,Bool.and_eq_true]at hb
              refine fin m true (λ_ => .inl rfl) (λhs=>nomatch hs) (Nat.le_of_ble_eq_true hb.1) (Nat.le_of_ble_eq_true hb.2.1) (Nat.le_of_ble_eq_true hb.2.2) (fun {E ρ c'} hv h1 h2=>⟨m,.inr ⟨?_,rfl⟩⟩) hk
              rcases bnd_ok (E:=E) (ρ:=ρ) (ev:=ev) (d:=0) (x:=some my) (λy hy=>hv y (hops y (.inr (.inr (.inr hy))))) hm with ⟨h3,_⟩ | ⟨y,kd,i,h3,h4,h5,h6⟩
              · exact nomatch h3
              · exact⟨y,kd,i,h3,h4,h5,h6,λhn=>by rw[hn]at hhi;exact nomatch hhi⟩
            · exact nomatch hk
          · exact nomatch hk
      · exact nomatch hk
    · exact nomatch hk
  · exact nomatch hk
theorem ok_len {q:Call}{t:TypeId}{x:Operand}(hT:TabOk P tab)(ho:o.op = .call q)(hq:q.callee = .builtin .len)(ha:q.args.toList=[x])(hts:q.argTypes.toList=[t])
    (hk:cLen tab h k t (ev x)=some r):∃ v h',k v h'=some r∧SOk P o ev h v h':=by
  have hx:x∈o.op.operands.toList:=opnd ho (by simp only[Op.operands,Call.operands,Array.toList_append,List.mem_append,ha];exact .inr (List.mem_singleton.2 rfl))
  have hargs:q.args = #[x]:=by apply Array.toList_inj.1;exact ha
  have hts':q.argTypes = #[t]:=by apply Array.toList_inj.1;exact hts
  unfold cLen at hk
  split at hk
  · rename_i te ht
    obtain⟨htT,_⟩:=hT t te ht
    split at hk
    · rename_i e _ _ len _ _ _ hTe hxe
      refine⟨_,_,hk,SOk.pure (λP0 E look w ρ hh hv => ?_)⟩
      have hxv:=hv x hx
      rw[hxe]at hxv
      obtain⟨b,n,c',hE,he,_⟩:=hxv
      injection he with he _
      rw[hTe]at htT
      obtain⟨⟨u,hu,_⟩,_⟩:=htT
      refine⟨.int .i64 len,Va.exec_builtin ho hq ?_,rfl⟩
      rw[hts',hargs]
      simp only[builtin,Sem.run_bind,Builtin.len_]
      simp[he,Va.run_underlying hu,goInt]
    · rename_i e hTe hxe
      refine⟨_,_,hk,SOk.pure (λP0 E look w ρ hh hv => ?_)⟩
      have hxv:=hv x hx
      rw[hxe]at hxv
      obtain⟨a,c,he⟩:=hxv
      injection he with he _
      rw[hTe]at htT
      obtain⟨⟨u,hu,_⟩,_⟩:=htT
      refine⟨.int .i64 0,Va.exec_builtin ho hq ?_,rfl⟩
      rw[hts',hargs]
      simp only[builtin,Sem.run_bind,Builtin.len_]
      simp[he,Va.run_underlying hu,goInt]
    · exact nomatch hk
  · exact nomatch hk
theorem src_ok {P0:Nat→Prop} {E:Env} {look:Nat→Ent} {w:World} {esz n:Nat} {s l2:AV} {m:Option Nat} {rs:List Nat} {y:Value} (hs:srcA h esz s m=some (l2,n,rs)) (hh:HREL P0 E look w) (hl:∀ q∈rs,look q=h.look q) (hv:V E s y) :
    ∃ cs,C E l2 cs∧cs.length=minO n m*esz∧allOne l2=true∧(Builtin.lenOf y).run P w = .ok n w ∧
      ∀ w':World,(∀ b:Nat,b<w.heap.size→w'.heap[b]?=w.heap[b]?)→(Builtin.firstCells esz (minO n m) y).run P w' = .ok cs.toArray w':=by
  unfold srcA at hs
  split at hs
  · rename_i c
    injection hs with hs;injection hs with h1 hs;injection hs with h2 h3;subst h1 h2 h3
    have hy:y = .slice none 0 c:=V_val.1 hv
    subst hy
    have hz:minO 0 m=0:=by cases m<;>simp[minO]
    refine⟨[],rfl,by rw[hz,Nat.zero_mul];rfl,rfl,rfl,λw' _=>by rw[hz];rfl⟩
  · injection hs with hs;injection hs with h1 hs;injection hs with h2 h3;subst h1 h2 h3
    obtain⟨a,c,he⟩:=hv
    injection he with he _
    subst he
    have hz:minO 0 m=0:=by cases m<;>simp[minO]
    refine⟨[],rfl,by rw[hz,Nat.zero_mul];rfl,rfl,rfl,λw' _ => ?_⟩
    rw[hz]
    cases a with
    | none=>rfl
    | some ad=>simp only[Builtin.firstCells,Nat.zero_mul];rfl
  · rename_i q off len lo e ex
    split at hs
    · rename_i hes
      have hes:=Nat.eq_of_beq_eq_true hes
      subst hes
      split at hs
      · rename_i l hl0
        split at hs
        · rename_i l1 h1
          split at hs
          · rename_i l2' h2
            split at hs
            · rename_i ha
              injection hs with hs;injection hs with h3 hs;injection hs with h4 h5;subst h3 h4 h5
              obtain⟨b,n',c,hE,he,_⟩:=hv
              injection he with he _
              subst he
              obtain⟨b',n2,cs,t',fr,e1,e2,e3,e4,c1,c2,e5,e6⟩:=ent_cells hh ((hl q (List.mem_singleton.2 rfl)).trans hl0)
              rw[hE]at e1;injection e1 with e1;injection e1 with e1 e1'; subst e1 e1'
              obtain⟨g1,g2,g3,g4,g5⟩:=part_at e2 e5 e6 h1 h2
              refine⟨_,g1,g2,ha,rfl,λw' hw => ?_⟩
              simp only[Builtin.firstCells]
              have hat:At w' ⟨b,off,none⟩ ((c1.drop off).take (minO len m*e)):=⟨g4.1,λj hj=>by
                have:=g4.2 j hj
                unfold World.cell? at this ⊢
                rw[hw b (lt_of_some e2)];exact this⟩
              have:=Va.run_loadCells_at (P:=P) hat
              rw[g2]at this;exact this
            · exact nomatch hs
          · exact nomatch hs
        · exact nomatch hs
      · exact nomatch hs
    · exact nomatch hs
  · exact nomatch hs
theorem run_app_grow [Gl] {t t2 u:TypeId} {T2 e:Ty} {n n2:Nat} {a:Option Addr} {cap:Nat} {x:Value} {i:TypeInfo} {old cs:List Value} {w:World}
    (h1:P.underlying t=some (.slice u)) (h2:TyIs P e u) (h3:TyIs P T2 t2) (h4:T2.sl=true) (hi:P.info? u=some i) (hb1:1≤i.bytes) (hb2:i.bytes≤1048576)
    (g2:(Builtin.lenOf x).run P w = .ok n2 w) (g3:∀ w':World,(∀ b:Nat,b<w.heap.size→w'.heap[b]?=w.heap[b]?)→(Builtin.firstCells e.sz n2 x).run P w' = .ok cs.toArray w') (hl:cs.length=n2*e.sz)
    (hbound:(n+n2)*i.bytes≤70368744177664) (hneed:¬ n+n2≤cap)
    (hold:∀ w':World,(∀ b:Nat,b<w.heap.size→w'.heap[b]?=w.heap[b]?)→(Builtin.firstCells e.sz n (.slice a n cap)).run P w' = .ok old.toArray w') (hol:old.length=n*e.sz) :
    ∃ newCap w',(Builtin.append_ #[t,t2] t #[.slice a n cap,x]).run P w = .ok (.slice (some ⟨w.heap.size,0,none⟩) (n+n2) newCap) w'∧Grow w w' ∧
      n+n2≤newCap∧∃ rest:List Value,w'.heap[w.heap.size]?=some (.cells (old++cs++rest).toArray u (0,0))∧(old++cs++rest).length=newCap*e.sz:=by
  obtain⟨ty2,hu2⟩:=Va.und h3
  have hz2:ty2 = .string∨∃ u',ty2 = .slice u':=by
    cases T2 with
    | slice e'=>obtain⟨⟨u',hu',_⟩,_⟩:=h3;rw[hu2]at hu'; injection hu' with hu'; exact .inr ⟨_,hu'⟩
    | str=>have:=h3.1;rw[hu2]at this;injection this with this;exact .inl this
    | _=>simp[Ty.sl]at h4
  obtain⟨z,k1,k2,_⟩:=Va.run_zero (P:=P) (w:={ w with drawn:=w.drawn+1 }) h2
  have hzs:z.cells.size=e.sz:=by
    have:=Va.Rd.length (λ_=>True) w e (Va.dflt e) (zc e) (Va.Rd.dflt _ _ _)
    rw[← Array.length_toList,k2,this]
  let newCap:=(Question.appendCap (n+n2) cap u).cut (w.tape w.drawn (.appendCap (n+n2) cap u))
  have hnc:n+n2≤newCap:=by simp[newCap,Question.cut]
  let rest:=Builtin.zeroCells z.cells (newCap-(n+n2))
  let w2:World:={ w with drawn:=w.drawn+1,heap:=w.heap.push (.cells (old.toArray++cs.toArray++rest) u) }
  refine⟨newCap,w2,?_,⟨rfl,rfl,rfl,by simp[w2],λb hb=>by simp only[w2,Array.getElem?_push];rw[if_neg (by omega)]⟩,hnc,rest.toList,?_,?_⟩
  · unfold Builtin.append_
    have hint:¬ ((n+n2:Nat):Int)>IntKind.i64.max:=by
      have e1:IntKind.i64.max=9223372036854775807:=rfl
      rw[e1]
      have:(n+n2)*1≤(n+n2)*i.bytes:=Nat.mul_le_mul_left _ hb1
      omega
    have hcapb:¬ Builtin.nextslicecap (n+n2) cap*i.bytes>2 ^ 48:=by
      have q1:=Va.nextcap_le (n+n2) cap (by omega)
      have q2:Builtin.nextslicecap (n+n2) cap*i.bytes≤(2*(n+n2)+192)*i.bytes:=Nat.mul_le_mul_right _ q1
      have q3:(2*(n+n2)+192)*i.bytes=2*((n+n2)*i.bytes)+192*i.bytes:=by rw[Nat.add_mul,Nat.mul_assoc]
      omega
    simp only[List.getElem?_toArray,List.getElem?_cons_zero,List.getElem?_cons_succ,Sem.run_bind,Va.run_underlying h1,Result.andThen_ok,Va.run_sizeOf h2,Va.run_underlying hu2]
    have k1':(zeroValue u).run P { w with drawn:=w.drawn+1 } = .ok z { w with drawn:=w.drawn+1 }:=k1
    rcases hz2 with rfl | ⟨u',rfl⟩
    all_goals
      simp only[Sem.run_pure,Result.andThen_ok,Bool.false_eq_true,if_false,g2,if_neg hneed,Sem.run_bind,Va.run_typeInfo hi,false_or,hint,false_and,if_neg hcapb,
        run_choose,Question.forced,run_askRoom,Bool.not_false,if_true]
      rw[hold { w with drawn:=w.drawn+1 } (λ_ _=>rfl)]
      simp only[Result.andThen_ok]
      rw[g3 { w with drawn:=w.drawn+1 } (λ_ _=>rfl)]
      simp only[Result.andThen_ok]
      rw[k1']
      simp only[Result.andThen_ok,newRow,Sem.run_bind,run_newObj,Sem.run_pure]
      rfl
  · simp[w2]
  · rw[List.length_append,List.length_append,hol,hl]
    simp only[rest,Builtin.zeroCells,Array.length_toList,Array.size_map,Array.size_range,hzs]
    rw[← Nat.add_mul,← Nat.add_mul]
    congr 1;omega
end
end Go.Co
