/-
  Va, part 18: slices of slices; rows and values built of parts; calls.
-/
import Derived.Test.YtemhlkdingkjnaaGreatDoorVaOps8
set_option linter.unusedVariables false
set_option linter.unusedSimpArgs false
namespace Go.Va
open Go
section
variable {P:Program} {c:Cfg} {o:Oper} {op:Operand→AV} {look:Nat→Ent} {R:Type} {k:Kont R} {r:R}
theorem bound_ok [Gl]{E:Env}{w:World}{ρ:Operand→Value}{d l:Int}{x:Option Operand}(hv:∀ x,V E w (op x) (ρ x))(h:bound d (x.map op)=some l) :
    (x=none∧l=d)∨∃ y kd,x=some y∧ρ y = .int kd l:=by
  cases x with
  | none=>simp only[Option.map_none,bound]at h;injection h with h;exact .inl ⟨rfl,h.symm⟩
  | some y=>
    simp only[Option.map_some]at h
    unfold bound at h
    split at h
    · rename_i hh;exact absurd hh (by simp)
    · rename_i kd i hh
      injection hh with hh
      injection h with h;subst h
      have:=hv y
      rw[hh,V_int]at this
      exact .inr ⟨y,kd,rfl,this⟩
    · exact absurd h (by simp)
theorem run_sliceBound {kd:IntKind}{i:Int}{y:Nat}{code:BoundsCode}{w:World}(h:0≤i∧i≤(y:Int)):(Instr.sliceBound (.int kd i) y code).run P w = .ok i.toNat w:=by
  unfold Instr.sliceBound
  simp only[asIntOf,Sem.run_bind,Sem.run_pure,Result.andThen_ok,if_pos h]
theorem ydY [Gl] {isS:Bool} {len cap:Nat} {E:Env} {w:World} {ρ:Operand→Value} {lo hi mx:Option Operand} {l h:Int} {m:Nat} (hv:∀ x,V E w (op x) (ρ x))
    (hl:bound 0 (lo.map op)=some l) (hh:bound len (hi.map op)=some h) (h0:0≤h) (hm:h≤(m:Int)) (hmc:m≤cap) (l0:0≤l) (lh:l≤h)
    (hmx:(mx=none∧m=cap)∨∃ y kd i,mx=some y∧ρ y = .int kd i∧0≤i∧i.toNat=m∧hi≠none) :
    (Instr.sliceBounds isS len cap (lo.map ρ) (hi.map ρ) (mx.map ρ)).run P w = .ok (l.toNat,h.toNat,m) w:=by
  have L:∀ kd code,(Instr.sliceBound (.int kd l) h.toNat code).run P w = .ok l.toNat w:=λkd code=>run_sliceBound ⟨l0,by omega⟩
  have H:∀ kd code,(Instr.sliceBound (.int kd h) m code).run P w = .ok h.toNat w:=λkd code=>run_sliceBound ⟨h0,hm⟩
  rcases bound_ok hv hl with ⟨rfl,rfl⟩ | ⟨y1,k1,rfl,hy1⟩
  · rcases bound_ok hv hh with ⟨rfl,rfl⟩ | ⟨z,k2,rfl,hz⟩
    · rcases hmx with ⟨rfl,rfl⟩ | ⟨y,kd,i,rfl,hy,hi0,him,hhi⟩
      · simp[Instr.sliceBounds]
      · exact absurd rfl hhi
    · rcases hmx with ⟨rfl,rfl⟩ | ⟨y,kd,i,rfl,hy,hi0,him,hhi⟩
      · simp[Instr.sliceBounds,hz,H]
      · have M:∀ code,(Instr.sliceBound (.int kd i) cap code).run P w = .ok m w:=λcode=>by rw[← him];exact run_sliceBound ⟨hi0,by omega⟩
        simp[Instr.sliceBounds,hz,H,hy,M]
  · rcases bound_ok hv hh with ⟨rfl,rfl⟩ | ⟨z,k2,rfl,hz⟩
    · rcases hmx with ⟨rfl,rfl⟩ | ⟨y,kd,i,rfl,hy,hi0,him,hhi⟩
      · simp only[Int.toNat_natCast]at L
        simp[Instr.sliceBounds,hy1,L]
      · exact absurd rfl hhi
    · rcases hmx with ⟨rfl,rfl⟩ | ⟨y,kd,i,rfl,hy,hi0,him,hhi⟩
      · simp[Instr.sliceBounds,hz,H,hy1,L]
      · have M:∀ code,(Instr.sliceBound (.int kd i) cap code).run P w = .ok m w:=λcode=>by rw[← him];exact run_sliceBound ⟨hi0,by omega⟩
        simp[Instr.sliceBounds,hz,H,hy,M,hy1,L]
theorem ydl {t:TypeId}{x:Operand}{lo hi mx:Option Operand}{ρ:Operand→Value}{w:World}{y:Value}(ho:o.op = .slice t x lo hi mx)(h:(Instr.sliceAt t (ρ x) (lo.map ρ) (hi.map ρ) (mx.map ρ)).run P w = .ok y w) :
    (execOp ρ o).run P w = .ok (.value y) w:=by
  unfold execOp;rw[ho]
  simp only[Sem.run_bind,h,Result.andThen_ok,Sem.run_pure]
theorem run_slice_slice {t u:TypeId}{e:Ty}{a:Option Addr}{n cap:Nat}{lo hi mx:Option Value}{l h m:Nat}{w:World}(h1:P.underlying t=some (.slice u))(h2:TyIs P e u)
    (hb:(Instr.sliceBounds true n cap lo hi mx).run P w = .ok (l,h,m) w) :
    (Instr.sliceAt t (.slice a n cap) lo hi mx).run P w = .ok (.slice (if m=l then a else a.map (·.add (l*e.sz))) (h-l) (m-l)) w:=by
  unfold Instr.sliceAt
  simp only[Sem.run_bind,run_underlying h1,Result.andThen_ok]
  unfold Instr.slice
  simp only[Sem.run_bind,run_underlying h1,Result.andThen_ok,hb,run_sizeOf h2,Sem.run_pure]
theorem mid3 (h m:Int)(n cap:Nat)(a:h≤m)(b:m≤(n:Int))(c:n≤cap)(h0:0≤h):0≤m∧h.toNat≤m.toNat∧m.toNat≤cap∧h≤(m.toNat:Int):=by omega
theorem ok_slice [Gl] {t:TypeId} {x:Operand} {lo hi mx:Option Operand} (hT:TabOk P c.tab) (ho:o.op = .slice t x lo hi mx) (hf:c.frz.elem (o.dst.getD 0)=false) (h:aOp c o op look k=some r):∃ v RN WN,k v RN WN=some r∧Ok P c o op look v RN WN:=by
  have e:∀ (look:Nat→Ent) (R:Type) (k:Kont R),aOp c o op look k=aSlice c t (op x) (lo.map op) (hi.map op) (mx.map op) look k:=by
    intro look R k;unfold aOp;rw[ho];simp only[hf]
  rw[e]at h
  unfold aSlice at h
  split at h
  · rename_i s hx
    split at h
    · rename_i te l hh hmx ht hl hhi
      split at h
      · rename_i hTe
        split at h
        · rename_i hb1
          split at h
          · rename_i hb2
            obtain⟨htT,_⟩:=hT t te ht
            rw[hTe]at htT
            refine⟨_,_,_,h,.pure (λP0 S0 E w ρ hR hv => ?_) (λlook' _ R' k'=>by rw[e,hx];unfold aSlice;simp only[hmx,ht,hl,hhi,if_pos hTe,if_pos hb1,if_pos hb2])⟩
            have h1:=hv x
            rw[hx,V_str]at h1
            have hmx':mx=none:=by cases mx with | none=>rfl | some z=>simp at hmx
            subst hmx'
            have hb:=ydY (P:=P) (isS:=false) (len:=ByteArray.size s) (cap:=ByteArray.size s) (mx:=none) hv hl hhi hb1.1 hb1.2 (Nat.le_refl _) hb2.1 hb2.2 (.inl ⟨rfl,rfl⟩)
            refine⟨_,ydl ho ?_,V_str.2 rfl⟩
            unfold Instr.sliceAt
            simp only[Sem.run_bind,run_underlying htT.1,Result.andThen_ok,h1]
            unfold Instr.slice
            simp only[Option.map_none]at hb ⊢
            simp only[Sem.run_bind,run_underlying htT.1,Result.andThen_ok,Option.isSome_none,Bool.false_eq_true,if_false,hb,Sem.run_pure]
          · exact absurd h (by simp)
        · exact absurd h (by simp)
      · exact absurd h (by simp)
    · exact absurd h (by simp)
  · rename_i ee xs hx
    split at h
    · rename_i te ht
      obtain⟨htT,_⟩:=hT t te ht
      split at h
      · rename_i hTe
        rw[hTe]at htT
        obtain⟨⟨u,hu,huT⟩,_⟩:=htT
        split at h
        · rename_i l hh hl hhi
          split at h
          · rename_i hb1
            split at h
            · rename_i hb2
              -- the value, at whatever bound m of the capacity
              have main:∀ (E:Env) (w:World) (ρ:Operand→Value) (n m:Nat) (a:Option Addr) (cap:Nat),ρ x = .slice a (List.length xs) cap→(hh:Int).toNat≤m→m≤cap →
                  (xs=[]∨∃ ad,a=some ad∧E.S ad.block∧∃ cells,RdL (Rd E.S w ee) xs cells∧At w ad cells) →
                  (Instr.sliceBounds true (List.length xs) cap (lo.map ρ) (hi.map ρ) (mx.map ρ)).run P w = .ok ((l:Int).toNat,(hh:Int).toNat,m) w →
                  ∃ y,(execOp ρ o).run P w = .ok (.value y) w∧V E w (.data (.slice ee) ((List.take (hh:Int).toNat xs).drop (l:Int).toNat)) y:=by
                intro E w ρ n m a cap hρ hm hmc hd hb
                refine⟨_,ydl ho (by rw[hρ];exact run_slice_slice hu huT hb),?_⟩
                rw[V_slice]
                have hhl:(hh:Int).toNat≤List.length xs:=by have:=hb1.2;omega
                have hll:(l:Int).toNat≤(hh:Int).toNat:=by have:=hb2.1;have:=hb2.2;omega
                have hlen:((List.take (hh:Int).toNat xs).drop (l:Int).toNat).length=(hh:Int).toNat-(l:Int).toNat:=by
                  rw[List.length_drop,List.length_take,Nat.min_eq_left hhl]
                refine⟨_,m-(l:Int).toNat,by rw[hlen],by rw[hlen];omega,?_⟩
                rcases hd with hd | ⟨ad,rfl,hS,cells,g1,g2⟩
                · left;subst hd;simp
                · by_cases h0:(hh:Int).toNat-(l:Int).toNat=0
                  · left;apply List.eq_nil_of_length_eq_zero;rw[hlen,h0]
                  · right
                    rw[if_neg (by omega)]
                    have hsub:(List.take (hh:Int).toNat xs).drop (l:Int).toNat=(List.drop (l:Int).toNat xs).take ((hh:Int).toNat-(l:Int).toNat):=by
                      rw[List.drop_take]
                    obtain⟨c1,c',c2,m1,m2,m3,_⟩:=RdL.sub (λx c=>Rd.length E.S w ee x c) g1 (l:Int).toNat ((hh:Int).toNat-(l:Int).toNat) (by omega)
                    rw[m1]at g2
                    refine⟨_,rfl,by show E.S (ad.add _).block;rw[Addr.add_eq g2.1];exact hS,c',by rw[hsub];exact m3,?_⟩
                    show At w (ad.add _) c'
                    rw[Addr.add_eq g2.1,← m2]
                    exact g2.part
              split at h
              · rename_i hmx
                have hmx':mx=none:=by cases mx with | none=>rfl | some z=>simp at hmx
                refine⟨_,_,_,h,.pure (λP0 S0 E w ρ hR hv => ?_) (λlook' _ R' k'=>by rw[e,hx];unfold aSlice;simp only[ht,if_pos hTe,hl,hhi,if_pos hb1,if_pos hb2,hmx])⟩
                have h1:=hv x
                rw[hx,V_slice]at h1
                obtain⟨a,cap,h2,h3,h4⟩:=h1
                subst hmx'
                have hcap:(hh:Int).toNat≤cap:=by have:=hb1.2;omega
                exact main E w ρ 0 cap a cap h2 hcap (Nat.le_refl _) h4 (ydY (P:=P) (isS:=true) (len:=List.length xs) (cap:=cap) (mx:=none) hv hl hhi hb1.1 (by omega) (Nat.le_refl _) hb2.1 hb2.2 (.inl ⟨rfl,rfl⟩))
              · rename_i kd mi hmx
                split at h
                · rename_i hb3
                  refine⟨_,_,_,h,.pure (λP0 S0 E w ρ hR hv => ?_) (λlook' _ R' k'=>by rw[e,hx];unfold aSlice;simp only[ht,if_pos hTe,hl,hhi,if_pos hb1,if_pos hb2,hmx,if_pos hb3])⟩
                  have h1:=hv x
                  rw[hx,V_slice]at h1
                  obtain⟨a,cap,h2,h3,h4⟩:=h1
                  obtain⟨hb3a,hb3b,hb3c⟩:=hb3
                  cases mx with
                  | none=>simp at hmx
                  | some z=>
                    simp only[Option.map_some]at hmx
                    injection hmx with hmx
                    have hz:=hv z
                    rw[hmx,V_int]at hz
                    obtain⟨q1,q2,q3,q4⟩:=mid3 hh mi _ cap hb3a hb3b h3 hb1.1
                    have hhi':hi≠none:=by intro hn;subst hn;simp at hb3c
                    exact main E w ρ 0 (Int.toNat mi) a cap h2 q2 q3 h4 (ydY (P:=P) (isS:=true) (len:=List.length xs) (cap:=cap) (mx:=some z) hv hl hhi hb1.1 q4 q3 hb2.1 hb2.2
                      (.inr ⟨z,kd,mi,rfl,hz,q1,rfl,hhi'⟩))
                · exact absurd h (by simp)
              · exact absurd h (by simp)
            · exact absurd h (by simp)
          · exact absurd h (by simp)
        · exact absurd h (by simp)
      · exact absurd h (by simp)
    · exact absurd h (by simp)
  · rename_i q ee hx
    split at h
    · rename_i e1 xs hlook
      split at h
      · rename_i te ht
        obtain⟨htT,_⟩:=hT t te ht
        split at h
        · rename_i hTe
          obtain⟨hTe,he1⟩:=hTe
          subst he1
          rw[hTe]at htT
          obtain⟨⟨u,hu,huT⟩,_⟩:=htT
          split at h
          · rename_i l hh hl hhi hmx
            split at h
            · rename_i hb1
              split at h
              · rename_i hb2
                refine⟨_,_,_,h,.pure (λP0 S0 E w ρ hR hv => ?_) (λlook' hk R' k'=>by rw[e,hx];unfold aSlice;simp only[hk q (by simp),hlook,ht,hTe,and_self,if_true,hl,hhi,hmx,if_pos hb1,if_pos hb2])⟩
                have hmx':mx=none:=by cases mx with | none=>rfl | some z=>simp at hmx
                subst hmx'
                have h1:=hv x
                rw[hx]at h1
                have hent:=hR.ent q
                rw[hlook]at hent
                obtain⟨hU,N,hL,hO⟩:=hent
                obtain⟨a,lo',len,cap,h2,h3,h4,h5⟩:=C_ow_ext h1 hL
                simp only[rngOf]at h3
                injection h3 with h3 h3'; subst h3 h3'
                have q1:(0:Int)≤hh:=hb1.1
                have q2:(hh:Int)≤((xs.length:Nat):Int):=hb1.2
                have q3:(0:Int)≤l:=hb2.1
                have q4:(l:Int)≤hh:=hb2.2
                cases hβ:E.β q with
                | none=>
                  rw[hβ]at hO h5
                  simp only at hO h5
                  subst hO h5
                  simp only[List.length_nil]at q2
                  have hh0:(hh:Int).toNat=0:=by omega
                  have hl0:(l:Int).toNat=0:=by omega
                  have hb:=ydY (P:=P) (isS:=true) (len:=0) (cap:=0) (mx:=none) (m:=0) hv hl hhi q1 (by omega) (Nat.le_refl _) q3 q4 (.inl ⟨rfl,rfl⟩)
                  refine⟨_,ydl ho (by rw[h2];exact run_slice_slice hu huT hb),?_⟩
                  rw[V_one rfl]
                  refine⟨_,_,_,rfl,hU,λL hL' => ?_⟩
                  rw[hL]at hL'; injection hL' with hL'; subst hL'
                  refine⟨rfl,(l:Int).toNat,⟨rfl,rfl⟩,by show _≤0;omega,?_⟩
                  rw[hβ]
                  simp
                | some b=>
                  rw[hβ]at hO h5
                  obtain⟨ha,h6,h7,h8⟩:=h5
                  have hb:=ydY (P:=P) (isS:=true) (len:=xs.length) (cap:=cap) (mx:=none) (m:=cap) hv hl hhi q1 (by omega) (Nat.le_refl _) q3 q4 (.inl ⟨rfl,rfl⟩)
                  refine⟨_,ydl ho (by rw[h2];exact run_slice_slice hu huT hb),?_⟩
                  rw[V_one rfl]
                  refine⟨_,_,_,rfl,hU,λL hL' => ?_⟩
                  rw[hL]at hL'; injection hL' with hL'; subst hL'
                  refine⟨rfl,(l:Int).toNat,⟨rfl,rfl⟩,by show (l:Int).toNat+((hh:Int).toNat-(l:Int).toNat)≤xs.length;omega,?_⟩
                  rw[hβ]
                  refine⟨?_,by omega,?_,by show xs.length≤_;omega⟩
                  · by_cases hcl:cap=(l:Int).toNat
                    · left;omega
                    · right
                      rw[if_neg hcl]
                      rcases ha with ha | ha
                      · omega
                      · rw[ha];simp[Addr.add_eq]
                  · show ((l:Int).toNat+(cap-(l:Int).toNat))*e1.sz≤N
                    rw[show (l:Int).toNat+(cap-(l:Int).toNat)=0+cap by omega];exact h7
              · exact absurd h (by simp)
            · exact absurd h (by simp)
          · rename_i l hh kd mi hl hhi hmx
            split at h
            · rename_i hb1
              split at h
              · rename_i hb2
                split at h
                · rename_i hb3
                  obtain⟨b3,b4⟩:=hb3
                  refine⟨_,_,_,h,.pure (λP0 S0 E w ρ hR hv => ?_) (λlook' hk R' k'=>by rw[e,hx];unfold aSlice;simp only[hk q (by simp),hlook,ht,hTe,and_self,if_true,hl,hhi,hmx];rw[if_pos hb1,if_pos hb2,if_pos ⟨b3,b4⟩])⟩
                  have h1:=hv x
                  rw[hx]at h1
                  have hent:=hR.ent q
                  rw[hlook]at hent
                  obtain⟨hU,N,hL,hO⟩:=hent
                  obtain⟨a,lo',len,cap,h2,h3,h4,h5⟩:=C_ow_ext h1 hL
                  simp only[rngOf]at h3
                  injection h3 with h3 h3'; subst h3 h3'
                  have q1:(0:Int)≤hh:=hb1.1
                  have q2:(hh:Int)≤((xs.length:Nat):Int):=hb1.2
                  have q3:(0:Int)≤l:=hb2.1
                  have q4:(l:Int)≤hh:=hb2.2
                  cases mx with
                  | none=>simp at hmx
                  | some z=>
                    simp only[Option.map_some]at hmx
                    injection hmx with hmx
                    have hz:=hv z
                    rw[hmx,V_int]at hz
                    have hhi':hi≠none:=by intro hn;subst hn;simp at b4
                    have b3':(mi:Int)=((xs.length:Nat):Int):=b3
                    have hmi:(0:Int)≤mi∧Int.toNat mi=xs.length:=by rw[b3'];omega
                    have hcap:xs.length≤cap:=by
                      cases hβ:E.β q with
                      | none=>rw[hβ]at hO;simp only at hO;rw[hO];simp
                      | some b=>rw[hβ]at h5;exact h5.2.1
                    have hb:=ydY (P:=P) (isS:=true) (len:=xs.length) (cap:=cap) (mx:=some z) (m:=xs.length) hv hl hhi q1 q2 hcap q3 q4
                      (.inr ⟨z,kd,mi,rfl,hz,hmi.1,hmi.2,hhi'⟩)
                    refine⟨_,ydl ho (by rw[h2];exact run_slice_slice hu huT hb),?_⟩
                    rw[V_one rfl]
                    refine⟨_,_,_,rfl,hU,λL hL' => ?_⟩
                    rw[hL]at hL'; injection hL' with hL'; subst hL'
                    refine⟨rfl,(l:Int).toNat,⟨rfl,rfl⟩,by show (l:Int).toNat+((hh:Int).toNat-(l:Int).toNat)≤xs.length;omega,?_⟩
                    cases hβ:E.β q with
                    | none=>
                      rw[hβ]at hO
                      simp only at hO
                      have:xs.length=0:=by rw[hO];rfl
                      show xs.length-_=0
                      omega
                    | some b=>
                      rw[hβ]at h5
                      obtain⟨ha,h6,h7,h8⟩:=h5
                      refine⟨?_,by omega,?_,by show xs.length≤_;omega⟩
                      · by_cases hcl:xs.length=(l:Int).toNat
                        · left;omega
                        · right
                          rw[if_neg hcl]
                          rcases ha with ha | ha
                          · omega
                          · rw[ha];simp[Addr.add_eq]
                      · show ((l:Int).toNat+(xs.length-(l:Int).toNat))*e1.sz≤N
                        refine Nat.le_trans (Nat.mul_le_mul_right _ ?_) h7
                        omega
                · exact absurd h (by simp)
              · exact absurd h (by simp)
            · exact absurd h (by simp)
          · exact absurd h (by simp)
        · exact absurd h (by simp)
      · exact absurd h (by simp)
    · exact absurd h (by simp)
  · rename_i q ee x0 y0 hx
    split at h
    · rename_i e1 xs hlook
      split at h
      · rename_i te ht
        obtain⟨htT,_⟩:=hT t te ht
        split at h
        · rename_i hTe
          obtain⟨hTe,he1⟩:=hTe
          subst he1
          rw[hTe]at htT
          obtain⟨⟨u,hu,huT⟩,_⟩:=htT
          split at h
          · rename_i l hh hl hhi hmx
            split at h
            · rename_i hb1
              split at h
              · rename_i hb2
                refine⟨_,_,_,h,.pure (λP0 S0 E w ρ hR hv => ?_) (λlook' hk R' k'=>by rw[e,hx];unfold aSlice;simp only[hk q (by simp),hlook,ht,hTe,and_self,if_true,hl,hhi,hmx];rw[if_pos hb1,if_pos hb2])⟩
                have hmx':mx=none:=by cases mx with | none=>rfl | some z=>simp at hmx
                subst hmx'
                have h1:=hv x
                rw[hx]at h1
                have hent:=hR.ent q
                rw[hlook]at hent
                obtain⟨hU,N,hL,hO⟩:=hent
                obtain⟨a,lo',len,cap,h2,h3,h4,h5⟩:=C_ow_ext h1 hL
                simp only[rngOf]at h3
                injection h3 with h3 h3'; subst h3 h3'
                have q1:(0:Int)≤hh:=hb1.1
                have q2:((x0:Nat):Int)+(hh:Int)≤((xs.length:Nat):Int):=hb1.2
                have q3:(0:Int)≤l:=hb2.1
                have q4:(l:Int)≤hh:=hb2.2
                cases hβ:E.β q with
                | none=>
                  rw[hβ]at hO h5
                  simp only at hO h5
                  subst hO h5
                  simp only[List.length_nil]at q2
                  have hh0:(hh:Int).toNat=0:=by omega
                  have hl0:(l:Int).toNat=0:=by omega
                  have hb:=ydY (P:=P) (isS:=true) (len:=y0) (cap:=0) (mx:=none) (m:=0) hv hl hhi q1 (by omega) (Nat.le_refl _) q3 q4 (.inl ⟨rfl,rfl⟩)
                  refine⟨_,ydl ho (by rw[h2];exact run_slice_slice hu huT hb),?_⟩
                  rw[V_one rfl]
                  refine⟨_,_,_,rfl,hU,λL hL' => ?_⟩
                  rw[hL]at hL'; injection hL' with hL'; subst hL'
                  refine⟨rfl,x0+(l:Int).toNat,⟨rfl,rfl⟩,by show _≤0;omega,?_⟩
                  rw[hβ]
                  simp
                | some b=>
                  rw[hβ]at hO h5
                  obtain⟨ha,h6,h7,h8⟩:=h5
                  have hb:=ydY (P:=P) (isS:=true) (len:=y0) (cap:=cap) (mx:=none) (m:=cap) hv hl hhi q1 (by omega) (Nat.le_refl _) q3 q4 (.inl ⟨rfl,rfl⟩)
                  refine⟨_,ydl ho (by rw[h2];exact run_slice_slice hu huT hb),?_⟩
                  rw[V_one rfl]
                  refine⟨_,_,_,rfl,hU,λL hL' => ?_⟩
                  rw[hL]at hL'; injection hL' with hL'; subst hL'
                  refine⟨rfl,x0+(l:Int).toNat,⟨rfl,rfl⟩,by show x0+(l:Int).toNat+((hh:Int).toNat-(l:Int).toNat)≤xs.length;omega,?_⟩
                  rw[hβ]
                  refine⟨?_,by omega,?_,by show xs.length≤_;omega⟩
                  · by_cases hcl:cap=(l:Int).toNat
                    · left;omega
                    · right
                      rw[if_neg hcl]
                      rcases ha with ha | ha
                      · omega
                      · rw[ha];simp[Addr.add_eq,Nat.add_mul]
                  · show (x0+(l:Int).toNat+(cap-(l:Int).toNat))*e1.sz≤N
                    rw[show x0+(l:Int).toNat+(cap-(l:Int).toNat)=x0+cap by omega];exact h7
              · exact absurd h (by simp)
            · exact absurd h (by simp)
          · exact absurd h (by simp)
        · exact absurd h (by simp)
      · exact absurd h (by simp)
    · exact absurd h (by simp)
  · rename_i q T p hx
    split at h
    · rename_i n ee te hlo hhi hmx hty ht
      obtain⟨htT,_⟩:=hT t te ht
      split at h
      · rename_i hTe
        refine⟨_,_,_,h,.pure (λP0 S0 E w ρ hR hv => ?_) (λlook' _ R' k'=>by rw[e,hx];unfold aSlice;simp only[hlo,hhi,hmx,hty,ht,if_pos hTe])⟩
        have hlo':lo=none:=by cases lo with | none=>rfl | some z=>simp at hlo
        have hhi':hi=none:=by cases hi with | none=>rfl | some z=>simp at hhi
        have hmx':mx=none:=by cases mx with | none=>rfl | some z=>simp at hmx
        subst hlo' hhi' hmx'
        rw[hTe]at htT
        obtain⟨⟨u,hu,huT⟩,_⟩:=htT
        have h1:=hv x
        rw[hx,V_one rfl]at h1
        obtain⟨a,he,hU,hk⟩:=h1
        injection he with he _
        have hrun:(Instr.sliceAt t (ρ x) none none none).run P w = .ok (.slice (some a) n n) w:=by
          unfold Instr.sliceAt
          simp only[Sem.run_bind,run_underlying hu,Result.andThen_ok,he,Instr.sureAddr,Sem.run_pure]
          simp[Instr.sliceBounds,run_sizeOf huT]
          intro _
          cases a;simp[Addr.add]
        refine⟨_,ydl ho hrun,?_⟩
        rw[V_one rfl]
        refine⟨some a,n,rfl,hU,λL hL => ?_⟩
        obtain⟨g1,b,off,g2,g3,g4⟩:=hk L hL
        exact⟨g1,b,off,ee,g2,hty,g3,by rw[g4]⟩
      · exact absurd h (by simp)
    · exact absurd h (by simp)
  · exact absurd h (by simp)
theorem ok_frz [Gl] {t:TypeId} {x:Operand} {lo hi mx:Option Operand} (hT:TabOk P c.tab) (ho:o.op = .slice t x lo hi mx) (hf:c.frz.elem (o.dst.getD 0)=true) (h:aOp c o op look k=some r):∃ v RN WN,k v RN WN=some r∧Ok P c o op look v RN WN:=by
  have e:∀ (look:Nat→Ent) (R:Type) (k:Kont R),aOp c o op look k=aFrz c t (op x) (lo.map op) (hi.map op) (mx.map op) look k:=by
    intro look R k;unfold aOp;rw[ho];simp only[hf]
  rw[e]at h
  unfold aFrz at h
  split at h
  · rename_i q T hx hlo hhi hmx
    have hlo':lo=none:=by cases lo with | none=>rfl | some z=>simp at hlo
    have hhi':hi=none:=by cases hi with | none=>rfl | some z=>simp at hhi
    have hmx':mx=none:=by cases mx with | none=>rfl | some z=>simp at hmx
    subst hlo' hhi' hmx'
    split at h
    · rename_i te T1 n ee l ht hl
      obtain⟨htT,_⟩:=hT t te ht
      split at h
      · rename_i hc
        obtain⟨hTe,hT0,hT1⟩:=hc
        refine⟨_,_,_,h,⟨λP0 S0 E w ρ hR hv => ?_,λlook' hk R' k'=>by
          rw[e,hx];unfold aFrz;simp only[Option.map,ht,hk q (by simp),hl];rw[if_pos ⟨hTe,hT0,hT1⟩]⟩⟩
        rw[hTe]at htT
        obtain⟨⟨u,hu,huT⟩,_⟩:=htT
        have h1:=hv x
        rw[hx,V_one rfl]at h1
        obtain⟨a,he,hU,hk⟩:=h1
        injection he with he _
        have hent:=hR.ent q
        rw[hl]at hent
        obtain⟨_,b,cs,t',fr,k1,k2,k3,k4,k5,k6⟩:=hent
        obtain⟨_,b',off,g2,g3,g4⟩:=hk _ k2
        rw[k1]at g2
        injection g2 with g2
        subst g2
        simp only[offL,offT_nil]at g3
        injection g3 with g3
        subst g3 g4
        have hrun:(Instr.sliceAt t (ρ x) none none none).run P w = .ok (.slice (some ⟨b,0,none⟩) n n) w:=by
          unfold Instr.sliceAt
          simp only[Sem.run_bind,run_underlying hu,Result.andThen_ok,he,Instr.sureAddr,Sem.run_pure]
          simp[Instr.sliceBounds,run_sizeOf huT]
          intro _
          simp[Addr.add]
        have hlive:(look q).isLive=true:=by rw[hl];rfl
        have hk1:=hR.kill (q:=q) (by rw[hl];simp)
        obtain⟨hk2,hx2⟩:=hk1.addS (b:=b) (λr' h1 h2=>by
          by_cases hr':r'=q
          · subst hr'; rw[ycF]at h1;simp[Ent.isLive]at h1
          · rw[ycd _ _ hr']at h1
            exact hr' (hR.inj r' q b h1 hlive h2 k1)) (hR.sep q b hlive k1).2 ((hR.ent q).lt (by rw[hl];rfl) k1)
        have hxx:Ext P0 E w _ w:=(Ext.kill (P0:=P0) E w q).trans hx2
        refine .inl ⟨_,w,ydl ho hrun,_,by rw[ycy,ydL];exact hk2,hxx,?_⟩
        rw[V_one rfl]
        have k6':l.length=n∧RdL (Rd E.S w ee) l cs.toList:=k6
        refine⟨some ⟨b,0,none⟩,n,by rw[k6'.1],by rw[k6'.1];exact Nat.le_refl _,.inr ⟨_,rfl,.inr rfl,cs.toList,RdL.mono (λx c=>Rd.keep hxx.keep hxx.s ee x c) _ _ k6'.2,?_⟩⟩
        exact At.block k3 (c1:=[]) (c:=cs.toList) (c2:=[]) (by simp)
      · exact absurd h (by simp)
    · exact absurd h (by simp)
  · exact absurd h (by simp)
end
end Go.Va
