/-
  Va, part 9: each operation of the abstract interpreter does what the model's operation does (1: those that leave the heap as it is).
-/
import Derived.Test.YtemhlkdingkjnaaGreatDoorVaObj
set_option linter.unusedVariables false
set_option linter.unusedSimpArgs false
namespace Go.Va
open Go
def OpPost [Gl](P0 S0:Nat→Prop)(E:Env)(look:Nat→Ent)(w:World)(v:AV)(WN:List (Nat×Ent))(x:Value)(w':World):Prop:=
  ∃ E',HREL P0 S0 E' (updL WN look) w'∧Ext P0 E w E' w'∧V E' w' v x
def Runs (P:Program)(o:Oper)(ρ:Operand→Value)(w:World)(Q:Value→World→Prop):Prop:=
  (∃ x w',(execOp ρ o).run P w = .ok (.value x) w'∧Q x w') ∨
  (∃ w',(execOp ρ o).run P w = .ok .skip w'∧Q undef w') ∨
  (∃ f args w1,(execOp ρ o).run P w = .ok (.enter f args) w1∧Calls P f args w1 λe w'=>∃ x,e = .returned x∧Q x w')
def TabOk (P:Program)(tab:List (Nat×TE)):Prop:=
  ∀ t te,findT tab t=some te→TyIs P te.T t∧∀ e,te.T = .slice e→∃ u i,P.underlying t=some (.slice u)∧TyIs P e u∧P.info? u=some i∧i.bytes=te.bytes
structure Ok [Gl](P:Program)(c:Cfg)(o:Oper)(op:Operand→AV)(look:Nat→Ent)(v:AV)(RN:List Nat)(WN:List (Nat×Ent)):Prop where
  run:∀ P0 S0 E w ρ,HREL P0 S0 E look w→(∀ x,V E w (op x) (ρ x))→Runs P o ρ w (OpPost P0 S0 E look w v WN)
  loc:∀ look',(∀ q,q∈RN∨q∈WN.map Prod.fst→look' q=look q)→∀ (R':Type) (k':Kont R'),aOp c o op look' k'=k' v RN WN
section
variable {P:Program} {P0 S0:Nat→Prop} {E:Env} {look:Nat→Ent} {w w':World}
theorem OpPost.same [Gl]{v:AV}{x:Value}(h:HREL P0 S0 E look w)(hv:V E w v x):OpPost P0 S0 E look w v [] x w:=⟨E,h,.refl _ _ _,hv⟩
theorem OpPost.grow [Gl]{v:AV}{x:Value}(h:HREL P0 S0 E look w)(g:Grow w w')(hv:V E w' v x):OpPost P0 S0 E look w v [] x w':=
  ⟨E,h.grow g,.grow g,hv⟩
theorem V_int {k:IntKind}{n:Int}{x:Value}:V E w (.data (.int k) n) x↔x = .int k n:=by
  simp[V,AV.isAgg,Ty.agg,C,Rd]
theorem ycY {b:Bool}{x:Value}:V E w (.data .bool b) x↔x = .bool b:=by
  simp[V,AV.isAgg,Ty.agg,C,Rd]
theorem V_str {s:ByteArray}{x:Value}:V E w (.data .str s) x↔x = .string s:=by
  simp[V,AV.isAgg,Ty.agg,C,Rd]
theorem V_slice {e:Ty}{l:List (Den e)}{x:Value}:V E w (.data (.slice e) l) x↔∃ (a:Option Addr) (cap:Nat),x = .slice a l.length cap∧l.length≤cap ∧
      (l=[]∨∃ ad,a=some ad∧E.S ad.block∧∃ cells,RdL (Rd E.S w e) l cells∧At w ad cells):=by
  simp[V,AV.isAgg,Ty.agg,C,Rd]
theorem V_data1 {T:Ty}{d:Den T}{x:Value}(ha:T.agg=false):V E w (.data T d) x↔Rd E.S w T d [x]:=by
  simp[V,AV.isAgg,ha,C]
theorem V_agg {v:AV}{x:Value}(ha:v.isAgg=true):V E w v x↔∃ c,x = .agg c∧C E w v c.toList:=by
  simp[V,ha]
theorem V_one {v:AV}{x:Value}(ha:v.isAgg=false):V E w v x↔C E w v [x]:=by
  simp[V,ha]
theorem ofVal_ok [Gl](v:Value):V E w (ofVal v) v:=by
  unfold ofVal
  split
  · exact V_int.2 rfl
  · exact ycY.2 rfl
  · exact V_str.2 rfl
  · rw[V_one rfl];rfl
  · rw[V_one rfl];rfl
  · rw[V_one rfl];rfl
  · exact .bad
theorem fixN_ok [Gl]{T:Ty}{v:AV}{x:Value}(h:V E w v x):V E w (fixN T v) x:=by
  unfold fixN
  split
  · rw[V_one rfl]at h ⊢; exact h
  · exact h
theorem Ok.pure [Gl]{c:Cfg}{o:Oper}{op:Operand→AV}{v:AV}{RN:List Nat}
    (hr:∀ P0 S0 E w ρ,HREL P0 S0 E look w→(∀ x,V E w (op x) (ρ x))→∃ x,(execOp ρ o).run P w = .ok (.value x) w∧V E w v x)
    (hl:∀ look',(∀ q,q∈RN→look' q=look q)→∀ (R':Type) (k':Kont R'),aOp c o op look' k'=k' v RN []):Ok P c o op look v RN []:={
  run:=λP0 S0 E w ρ h hv=>by
    obtain⟨x,h1,h2⟩:=hr P0 S0 E w ρ h hv
    exact .inl ⟨x,w,h1,.same h h2⟩
  loc:=λlook' h R' k'=>hl look' (λq hq=>h q (.inl hq)) R' k' }
end
section
variable {P:Program} {c:Cfg} {o:Oper} {op:Operand→AV} {look:Nat→Ent} {R:Type} {k:Kont R} {r:R}
theorem ok_move [Gl]{x:Operand}(ho:o.op = .move x∨o.op = .assign x)(h:aOp c o op look k=some r):∃ v RN WN,k v RN WN=some r∧Ok P c o op look v RN WN:=by
  have e:∀ (look:Nat→Ent) (R:Type) (k:Kont R),aOp c o op look k=match findT c.tab o.type with | some te=>k (fixN te.T (op x)) [] [] | none=>k (op x) [] []:=by
    intro look R k;unfold aOp;rcases ho with ho | ho<;>rw[ho]<;>rfl
  have er:∀ (ρ:Operand→Value) (w:World),(execOp ρ o).run P w = .ok (.value (ρ x)) w:=by
    intro ρ w;unfold execOp;rcases ho with ho | ho<;>rw[ho]<;>rfl
  rw[e]at h
  split at h
  · rename_i te ht
    exact⟨_,_,_,h,.pure (λP0 S0 E w ρ hh hv=>⟨_,er ρ w,fixN_ok (hv x)⟩) (λlook' _ R' k'=>by rw[e,ht])⟩
  · rename_i ht
    exact⟨_,_,_,h,.pure (λP0 S0 E w ρ hh hv=>⟨_,er ρ w,hv x⟩) (λlook' _ R' k'=>by rw[e,ht])⟩
theorem ok_pick [Gl]{q a b:Operand}(ho:o.op = .pick q a b)(h:aOp c o op look k=some r):∃ v RN WN,k v RN WN=some r∧Ok P c o op look v RN WN:=by
  have e:∀ (look:Nat→Ent) (R:Type) (k:Kont R),aOp c o op look k=match op q with | .data .bool q=>if q=true then k (op a) [] [] else k (op b) [] [] | _=>none:=by
    intro look R k;unfold aOp;rw[ho];rfl
  rw[e]at h
  split at h
  · rename_i bq hq
    have er:∀ E w ρ,(∀ x,V E w (op x) (ρ x))→(execOp ρ o).run P w = .ok (.value (if bq then ρ a else ρ b)) w:=by
      intro E w ρ hv
      have:=hv q
      rw[hq]at this
      have:=ycY.1 this
      unfold execOp;rw[ho];simp[this,asBool]
    by_cases hb:bq=true
    · rw[if_pos hb]at h
      exact⟨_,_,_,h,.pure (λP0 S0 E w ρ hh hv=>⟨_,er E w ρ hv,by rw[if_pos hb];exact hv a⟩) (λlook' _ R' k'=>by rw[e,hq];simp[hb])⟩
    · rw[if_neg hb]at h
      exact⟨_,_,_,h,.pure (λP0 S0 E w ρ hh hv=>⟨_,er E w ρ hv,by rw[if_neg hb];exact hv b⟩) (λlook' _ R' k'=>by rw[e,hq];simp[hb])⟩
  · exact absurd h (by simp)
theorem ok_nilCheck [Gl]{x:Operand}(ho:o.op = .nilCheck x)(h:aOp c o op look k=some r):∃ v RN WN,k v RN WN=some r∧Ok P c o op look v RN WN:=by
  have e:∀ (look:Nat→Ent) (R:Type) (k:Kont R),aOp c o op look k=match op x with
      | .po r l p=>k (.po r l p) [] []
      | .rp T x=>k (.rp T x) [] []
      | .cp v=>k (.cp v) [] []
      | .fn f cs=>k (.fn f cs) [] []
      | .fb f cs=>k (.fb f cs) [] []
      | _=>none:=by
    intro look R k;unfold aOp;rw[ho];rfl
  rw[e]at h
  have hn:∀ (E:Env) (w:World) (y:Value),y ≠ .pointer none→y ≠ .nilIface→y ≠ .nilFunc→(∀ name fst cap,y ≠ .func (.method name) fst cap)→∀ ρ:Operand→Value,ρ x=y→(execOp ρ o).run P w = .ok (.value y) w∧E=E:=by
    intro E w y h1 h2 h3 h4 ρ hy
    refine⟨?_,rfl⟩
    unfold execOp;rw[ho]
    simp only[hy]
    rfl
  split at h
  · rename_i q l p hx
    refine⟨_,_,_,h,.pure (λP0 S0 E w ρ hh hv => ?_) (λlook' _ R' k'=>by rw[e,hx])⟩
    have h1:=hv x
    rw[hx]at h1
    have h2:=h1
    rw[V_one rfl]at h2
    obtain⟨a,he,hu,hk⟩:=h2
    injection he with he _
    have hent:=hh.ent q
    exact⟨_,(hn E w _ (by rw[he];simp) (by rw[he];simp) (by rw[he];simp) (by rw[he];simp) ρ rfl).1,h1⟩
  · rename_i T d hx
    refine⟨_,_,_,h,.pure (λP0 S0 E w ρ hh hv => ?_) (λlook' _ R' k'=>by rw[e,hx])⟩
    have h1:=hv x
    rw[hx]at h1
    have h2:=h1
    rw[V_one rfl]at h2
    obtain⟨a,cells,he,_⟩:=h2
    injection he with he _
    exact⟨_,(hn E w _ (by rw[he];simp) (by rw[he];simp) (by rw[he];simp) (by rw[he];simp) ρ rfl).1,h1⟩
  · rename_i v hx
    refine⟨_,_,_,h,.pure (λP0 S0 E w ρ hh hv => ?_) (λlook' _ R' k'=>by rw[e,hx])⟩
    have h1:=hv x
    rw[hx]at h1
    have h2:=h1
    rw[V_one rfl]at h2
    obtain⟨a,cells,he,_⟩:=h2
    injection he with he _
    exact⟨_,(hn E w _ (by rw[he];simp) (by rw[he];simp) (by rw[he];simp) (by rw[he];simp) ρ rfl).1,h1⟩
  · rename_i f cs hx
    refine⟨_,_,_,h,.pure (λP0 S0 E w ρ hh hv => ?_) (λlook' _ R' k'=>by rw[e,hx])⟩
    have h1:=hv x
    rw[hx]at h1
    have h2:=h1
    rw[V_one rfl]at h2
    obtain⟨vs,he,_⟩:=h2
    injection he with he _
    exact⟨_,(hn E w _ (by rw[he];simp) (by rw[he];simp) (by rw[he];simp) (by rw[he];simp) ρ rfl).1,h1⟩
  · rename_i f cs hx
    refine⟨_,_,_,h,.pure (λP0 S0 E w ρ hh hv => ?_) (λlook' _ R' k'=>by rw[e,hx])⟩
    have h1:=hv x
    rw[hx]at h1
    have h2:=h1
    rw[V_one rfl]at h2
    obtain⟨vs,he,_⟩:=h2
    injection he with he _
    exact⟨_,(hn E w _ (by rw[he];simp) (by rw[he];simp) (by rw[he];simp) (by rw[he];simp) ρ rfl).1,h1⟩
  · exact absurd h (by simp)
theorem ok_load [Gl] {t:TypeId} {x:Operand} (hT:TabOk P c.tab) (ho:o.op = .load t x) (h:aOp c o op look k=some r):∃ v RN WN,k v RN WN=some r∧Ok P c o op look v RN WN:=by
  have e:∀ (look:Nat→Ent) (R:Type) (k:Kont R),aOp c o op look k=match findT c.tab t with
    | some te=>match op x with
      | .rp T x=>if T=te.T then k (.data T x) [] [] else none
      | .cp v=>if v.ty=some te.T then k v [] [] else none
      | .po r l p=>match look r with
        | .live ob=>match getO ob p with
          | some v=>if v.ty=some te.T∧tyL l p=some te.T then k v [r] [] else none
          | none=>none
        | .froz e xs=>match getO (.row e xs) p with
          | some v=>if v.ty=some te.T∧tyL l p=some te.T then k v [r] [] else none
          | none=>none
        | _=>none
      | _=>none
    | none=>none:=by
    intro look R k;unfold aOp;rw[ho];rfl
  have er:∀ (ρ:Operand→Value) (w:World) (y:Value),(Instr.loadAt t (ρ x)).run P w = .ok y w→(execOp ρ o).run P w = .ok (.value y) w:=by
    intro ρ w y hy;unfold execOp;rw[ho];simp[hy]
  rw[e]at h
  split at h
  · rename_i te ht
    obtain⟨htT,_⟩:=hT t te ht
    split at h
    · rename_i T d hx
      split at h
      · rename_i hTe;subst hTe
        refine⟨_,_,_,h,.pure (λP0 S0 E w ρ hh hv => ?_) (λlook' _ R' k'=>by rw[e,ht];simp[hx])⟩
        have h1:=hv x
        rw[hx]at h1
        obtain⟨y,g1,g2⟩:=run_load_rp h1 htT
        exact⟨y,er _ _ _ g1,g2⟩
      · exact absurd h (by simp)
    · rename_i v hx
      split at h
      · rename_i hTe
        refine⟨_,_,_,h,.pure (λP0 S0 E w ρ hh hv => ?_) (λlook' _ R' k'=>by rw[e,ht];simp[hx,hTe])⟩
        have h1:=hv x
        rw[hx]at h1
        obtain⟨y,g1,g2⟩:=run_load_cp h1 hTe htT
        exact⟨y,er _ _ _ g1,g2⟩
      · exact absurd h (by simp)
    · rename_i q l p hx
      split at h
      · rename_i ob hl
        split at h
        · rename_i v hg
          split at h
          · rename_i hty
            refine⟨_,_,_,h,.pure (λP0 S0 E w ρ hh hv => ?_) (λlook' hk R' k'=>by rw[e,ht];simp[hx,hk q (by simp),hl,hg,hty])⟩
            have h1:=hv x
            rw[hx]at h1
            have hent:=hh.ent q
            rw[hl]at hent
            obtain⟨y,g1,g2⟩:=run_load_obj hent.2 h1 hty.2 hg htT
            exact⟨y,er _ _ _ g1,g2⟩
          · exact absurd h (by simp)
        · exact absurd h (by simp)
      · rename_i e1 xs hl
        split at h
        · rename_i v hg
          split at h
          · rename_i hty
            refine⟨_,_,_,h,.pure (λP0 S0 E w ρ hh hv => ?_) (λlook' hk R' k'=>by rw[e,ht];simp[hx,hk q (by simp),hl,hg,hty])⟩
            have h1:=hv x
            rw[hx]at h1
            have hent:=hh.ent q
            rw[hl]at hent
            obtain⟨y,g1,g2⟩:=run_load_obj hent.2.1 h1 hty.2 hg htT
            exact⟨y,er _ _ _ g1,g2⟩
          · exact absurd h (by simp)
        · exact absurd h (by simp)
      · exact absurd h (by simp)
    · exact absurd h (by simp)
  · exact absurd h (by simp)
theorem ok_unOp [Gl]{u:UnOp}{t:TypeId}{x:Operand}(ho:o.op = .unOp u t x)(h:aOp c o op look k=some r):∃ v RN WN,k v RN WN=some r∧Ok P c o op look v RN WN:=by
  cases u with
  | not=>
    have e:∀ (look:Nat→Ent) (R:Type) (k:Kont R),aOp c o op look k=match op x with | .data .bool b=>k (.data .bool (!b)) [] [] | _=>none:=by
      intro look R k;unfold aOp;rw[ho];rfl
    rw[e]at h
    split at h
    · rename_i b hx
      refine⟨_,_,_,h,.pure (λP0 S0 E w ρ hh hv => ?_) (λlook' _ R' k'=>by rw[e,hx])⟩
      have h1:=hv x
      rw[hx]at h1
      have h2:=ycY.1 h1
      exact⟨.bool !b,by unfold execOp;rw[ho];simp[h2,Op.unary],ycY.2 rfl⟩
    · exact absurd h (by simp)
  | neg=>
    have e:∀ (look:Nat→Ent) (R:Type) (k:Kont R),aOp c o op look k=match op x with | .data (.int kd) n=>k (.data (.int kd) (kd.wrap (0-n))) [] [] | _=>none:=by
      intro look R k;unfold aOp;rw[ho];rfl
    rw[e]at h
    split at h
    · rename_i kd n hx
      refine⟨_,_,_,h,.pure (λP0 S0 E w ρ hh hv => ?_) (λlook' _ R' k'=>by rw[e,hx])⟩
      have h1:=hv x
      rw[hx]at h1
      have h2:=V_int.1 h1
      exact⟨.int kd (kd.wrap (0-n)),by unfold execOp;rw[ho];simp[h2,Op.unary,Op.intArith],V_int.2 rfl⟩
    · exact absurd h (by simp)
  | xor=>exact absurd h (by unfold aOp;rw[ho];simp)
  | plus=>exact absurd h (by unfold aOp;rw[ho];simp)
theorem ok_extract [Gl] {x:Operand} {i:Nat} (ho:o.op = .extract x i) (h:aOp c o op look k=some r):∃ v RN WN,k v RN WN=some r∧Ok P c o op look v RN WN:=by
  have e:∀ (look:Nat→Ent) (R:Type) (k:Kont R),aOp c o op look k=match op x with
    | .tup l=>match nthAV l i with
      | some v=>k v [] []
      | none=>none
    | _=>none:=by
    intro look R k;unfold aOp;rw[ho];rfl
  rw[e]at h
  split at h
  · rename_i l hx
    split at h
    · rename_i v hn
      refine⟨_,_,_,h,.pure (λP0 S0 E w ρ hh hv => ?_) (λlook' _ R' k'=>by rw[e,hx];simp[hn])⟩
      have h1:=hv x
      rw[hx,V_one rfl]at h1
      obtain⟨vs,he,hc⟩:=h1
      injection he with he _
      have key:∀ (l:AV) (vs:List Value) (i:Nat) (v:AV),C E w l vs→nthAV l i=some v→∃ y,vs[i]?=some y∧V E w v y:=by
        intro l
        induction l with
        | cons a b iha ihb=>
          intro vs i v hc hn
          obtain⟨y,vs',rfl,g1,g2⟩:=hc
          cases i with
          | zero=>simp only[nthAV]at hn;injection hn with hn;subst hn;exact⟨y,rfl,g1⟩
          | succ i=>
            obtain⟨z,g3,g4⟩:=ihb vs' i v g2 hn
            exact⟨z,by simpa using g3,g4⟩
        | _=>intro vs i v hc hn;simp[nthAV]at hn
      obtain⟨y,g1,g2⟩:=key l vs.toList i v hc hn
      exact⟨y,by unfold execOp;rw[ho];simp[he,Instr.extract];simp at g1;simp[g1],g2⟩
    · exact absurd h (by simp)
  · exact absurd h (by simp)
theorem tyIs_field {P:Program}:∀ {T:Ty} {T':Ty} {fs:List Field} {off j:Nat},(TF P T).2 fs off→tyT T [.f j]=some T' →
    ∃ f o,fs[j]?=some f∧offT T [.f j]=some o∧f.offset=off+o∧TyIs P T' f.type:=by
  intro T
  induction T with
  | pair a b iha ihb=>
    intro T' fs off j hf ht
    cases fs with
    | nil=>exact hf.elim
    | cons f fs=>
      obtain⟨h1,_,h2,h3⟩:=hf
      cases j with
      | zero=>
        simp only[tyT,tyT_nil]at ht
        injection ht with ht;subst ht
        exact⟨f,0,rfl,by simp[offT,offT_nil],by rw[h1];rfl,h2⟩
      | succ j=>
        simp only[tyT]at ht
        obtain⟨g,o,k1,k2,k3,k4⟩:=ihb h3 ht
        exact⟨g,a.sz+o,by simpa using k1,by simp[offT,k2],by rw[k3];omega,k4⟩
  | _=>intro T' fs off j hf ht;simp[tyT]at ht
theorem tyIs_struct [Gl]{P:Program}{T T':Ty}{t:TypeId}{j:Nat}(h:TyIs P T t)(ht:tyT T [.f j]=some T') :
    ∃ fs f o,P.underlying t=some (.struct fs)∧fs[j]?=some f∧offT T [.f j]=some o∧f.offset=o∧TyIs P T' f.type:=by
  cases T with
  | pair a b=>
    obtain⟨⟨fs,h1,h2,_⟩,_⟩:=h
    obtain⟨f,o,k1,k2,k3,k4⟩:=tyIs_field (T := .pair a b) (P:=P) (off:=0) h2 ht
    exact⟨fs,f,o,h1,by simpa using k1,k2,by simpa using k3,k4⟩
  | _=>simp[tyT]at ht
theorem offT_append:∀ (T:Ty) (p:List Stp) (T':Ty) (q:List Stp) (a b:Nat),tyT T p=some T'→offT T p=some a→offT T' q=some b→offT T (p++q)=some (a+b):=by
  intro T
  induction T with
  | arr k e ih=>
    intro p T' q a b h1 h2 h3
    match p with
    | []=>rw[tyT_nil]at h1;rw[offT_nil]at h2;injection h1 with h1;injection h2 with h2;subst h1 h2;simpa using h3
    | .f j::p=>simp[offT]at h2
    | .i n::p=>
      simp only[offT]at h2
      simp only[tyT]at h1
      split at h2
      · rename_i hn
        obtain⟨o,g1,g2⟩:=Option.map_eq_some_iff.1 h2
        have:=ih p T' q o b h1 g1 h3
        simp only[List.cons_append,offT,if_pos hn,this,Option.map_some]
        congr 1;omega
      · exact absurd h2 (by simp)
  | pair x y ihx ihy=>
    intro p T' q a b h1 h2 h3
    match p with
    | []=>rw[tyT_nil]at h1;rw[offT_nil]at h2;injection h1 with h1;injection h2 with h2;subst h1 h2;simpa using h3
    | .i n::p=>simp[offT]at h2
    | .f 0::p=>
      simp only[offT]at h2
      simp only[tyT]at h1
      simpa[offT]using ihx p T' q a b h1 h2 h3
    | .f (j+1)::p=>
      simp only[offT]at h2
      simp only[tyT]at h1
      obtain⟨o,g1,g2⟩:=Option.map_eq_some_iff.1 h2
      have:=ihy (.f j::p) T' q o b h1 g1 h3
      simp only[List.cons_append]at this ⊢
      simp only[offT,this,Option.map_some]
      congr 1;omega
  | _=>
    intro p T' q a b h1 h2 h3
    match p with
    | []=>rw[tyT_nil]at h1;rw[offT_nil]at h2;injection h1 with h1;injection h2 with h2;subst h1 h2;simpa using h3
    | s::p=>simp[offT]at h2
theorem offL_append [Gl] {M:Nat} {l:Ly} {p q:List Stp} {T':Ty} {a b:Nat} (h1:tyL l p=some T') (h2:offL M l p=some a) (h3:offT T' q=some b):offL M l (p++q)=some (a+b):=by
  cases l with
  | box T=>exact offT_append T p T' q a b h1 h2 h3
  | mp K V=>simp[offL]at h2
  | row e=>
    match p with
    | []=>simp[offL]at h2
    | .f j::p=>simp[offL]at h2
    | .i n::p=>
      simp only[offL]at h2
      simp only[tyL]at h1
      split at h2
      · rename_i hn
        obtain⟨o,g1,g2⟩:=Option.map_eq_some_iff.1 h2
        have:=offT_append e p T' q o b h1 g1 h3
        simp only[List.cons_append,offL,if_pos hn,this,Option.map_some]
        congr 1;omega
      · exact absurd h2 (by simp)
end
end Go.Va
