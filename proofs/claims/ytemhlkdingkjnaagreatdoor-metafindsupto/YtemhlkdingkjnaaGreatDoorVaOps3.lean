/-
  Va, part 12: the binary operators.
-/
import Derived.Test.YtemhlkdingkjnaaGreatDoorVaEq
set_option linter.unusedVariables false
set_option linter.unusedSimpArgs false
namespace Go.Va
open Go
section
variable {P:Program} {c:Cfg} {o:Oper} {op:Operand→AV} {look:Nat→Ent} {R:Type} {k:Kont R} {r:R}
theorem run_guard_plain {bo:BinOp}{t:TypeId}{x y:Operand}{a b:Value}{w:World}(h:(∀ cs ds,¬ (a = .agg cs∧b = .agg ds))∧¬ (a = .nilIface∧b = .nilIface)) :
    (eqGuard bo t x y a b).run P w = .ok () w:=by
  unfold eqGuard
  cases bo<;>first
    | rfl
    | (cases a<;>cases b<;>first | rfl | exact absurd ⟨rfl,rfl⟩ (h.1 _ _) | exact absurd ⟨rfl,rfl⟩ h.2)
def semI (bo:BinOp)(kd:IntKind)(x y:Int):Sem Value:=
  match bo with
  | .add | .sub | .mul=>Op.intArith bo kd x y
  | .quo | .rem=>Op.intDiv bo kd x y
  | .and | .or | .xor | .andNot=>Op.intBits bo kd x y
  | _=>Op.intCmp bo x y
theorem flatA_C {E:Env}{w:World}:∀ (v:AV) (cs:List Value),C E w v cs→C E w (flatA v) cs
  | .pr a b,cs,⟨c1,c2,e,h1,h2⟩=>by
    have k1:=flatA_C a c1 h1
    have k2:=flatA_C b c2 h2
    simp only[flatA]
    split
    · rename_i A x B y ha hb
      rw[ha]at k1;rw[hb]at k2
      exact⟨c1,c2,e,k1,k2⟩
    · exact⟨c1,c2,e,k1,k2⟩
  | .bad,_,h=>h
  | .data _ _,_,h=>h
  | .nils _,_,h=>h
  | .rp _ _,_,h=>h
  | .cp _,_,h=>h
  | .po _ _ _,_,h=>h
  | .ow _ _ _,_,h=>h
  | .oa _ _ _,_,h=>h
  | .fn _ _,_,h=>h
  | .tup _,_,h=>h
  | .done,_,h=>h
  | .cons _ _,_,h=>h
  | .unk _ _,_,h=>h
  | .mp _ _ _,_,h=>h
  | .fb _ _,_,h=>h
theorem flatA_agg (v:AV):(flatA v).isAgg=v.isAgg:=by
  cases v with
  | pr a b=>simp only[flatA];split<;>rfl
  | _=>rfl
theorem flatA_V [Gl]{E:Env}{w:World}{v:AV}{x:Value}(h:V E w v x):V E w (flatA v) x:=by
  unfold V at *
  rw[flatA_agg]
  split at h
  · rename_i ha;rw[if_pos ha];obtain⟨c,e,h⟩:=h;exact⟨c,e,flatA_C _ _ h⟩
  · rename_i ha;rw[if_neg ha];exact flatA_C _ _ h
theorem V_unk [Gl]{E:Env}{w:World}{cc neg:Bool}{x:Value}:V E w (.unk cc neg) x↔∃ b,x = .bool b∧(b=neg∨cc=true):=by
  rw[V_one rfl]
  simp[C]
theorem nil_run [Gl]{bo:BinOp}{t:TypeId}{x y:Operand}{u:TypeId}{a:Option Addr}{n cap:Nat}{w:World}(hu:P.underlying t=some (.slice u))(hb:bo = .eql∨bo = .neq) :
    (eqGuard bo t x y (.slice a n cap) (.slice none 0 0)).run P w = .ok () w∧(binOp bo t (.slice a n cap) (.slice none 0 0)).run P w = .ok (.bool (if bo = .eql then a.isNone else !a.isNone)) w:=by
  refine⟨run_guard_plain ⟨λ_ _ hh=>(nomatch hh.1),λhh=>(nomatch hh.1)⟩,?_⟩
  have he:(Op.equal t (.slice a n cap) (.slice none 0 0)).run P w = .ok a.isNone w:=by
    unfold Op.equal Op.maxDepth Op.equalIn
    rw[Sem.run_bind,run_underlying hu,Result.andThen_ok]
    cases a<;>rfl
  rcases hb with rfl | rfl
  · simp[binOp,he]
  · simp[binOp,he]
theorem ptr_run [Gl]{bo:BinOp}{t:TypeId}{x y:Operand}{u:TypeId}{a:Addr}{w:World}(hu:P.underlying t=some (.pointer u))(hb:bo = .eql∨bo = .neq) :
    (eqGuard bo t x y (.pointer (some a)) (.pointer none)).run P w = .ok () w∧(binOp bo t (.pointer (some a)) (.pointer none)).run P w = .ok (.bool (if bo = .eql then false else true)) w:=by
  refine⟨run_guard_plain ⟨λ_ _ hh=>(nomatch hh.1),λhh=>(nomatch hh.1)⟩,?_⟩
  have he:(Op.equal t (.pointer (some a)) (.pointer none)).run P w = .ok false w:=by
    unfold Op.equal Op.maxDepth Op.equalIn
    rw[Sem.run_bind,run_underlying hu,Result.andThen_ok]
    rfl
  rcases hb with rfl | rfl
  · simp[binOp,he]
  · simp[binOp,he]
theorem binOp_main [Gl] {op':Operand→AV} {bo:BinOp} {t t':TypeId} {x y:Operand} (hT:TabOk P c.tab) (ho:o.op = .binOp bo t x y t') (hop:∀ E w (ρ:Operand→Value) z,V E w (op z) (ρ z)→V E w (op' z) (ρ z)) (e:∀ (look:Nat→Ent) (R:Type) (k:Kont R),aOp c o op look k=binAV c.tab bo t (op' x) (op' y) λv=>k v [] []) (h:aOp c o op look k=some r):∃ v RN WN,k v RN WN=some r∧Ok P c o op look v RN WN:=by
  have er:∀ (ρ:Operand→Value) (w:World) (z:Value),(eqGuard bo t x y (ρ x) (ρ y)).run P w = .ok () w→(binOp bo t (ρ x) (ρ y)).run P w = .ok z w→(execOp ρ o).run P w = .ok (.value z) w:=by
    intro ρ w z h1 h2;unfold execOp;rw[ho];simp[h1,h2]
  -- what is to be shown: the value's run, and that the heap isn't asked
  have fin:∀ (v:AV),(k v [] []=some r)→(∀ E w (ρ:Operand→Value),(∀ x,V E w (op' x) (ρ x))→∃ z,(eqGuard bo t x y (ρ x) (ρ y)).run P w = .ok () w∧(binOp bo t (ρ x) (ρ y)).run P w = .ok z w∧V E w v z) →
      (∀ (R':Type) (kk:AV→Option R'),binAV c.tab bo t (op' x) (op' y) kk=kk v)→∃ v RN WN,k v RN WN=some r∧Ok P c o op look v RN WN:=by
    intro v h1 h2 h3
    refine⟨v,[],[],h1,.pure (λP0 S0 E w ρ hh hv => ?_) (λlook' _ R' k'=>by rw[e,h3])⟩
    obtain⟨z,g1,g2,g3⟩:=h2 E w ρ (λz=>hop E w ρ z (hv z))
    exact⟨z,er ρ w z g1 g2,g3⟩
  rw[e]at h
  unfold binAV at h
  split at h
  · rename_i kd xv kd' yv hx hy
    have hval:∀ E w (ρ:Operand→Value),(∀ x,V E w (op' x) (ρ x))→ρ x = .int kd xv∧ρ y = .int kd' yv:=by
      intro E w ρ hv
      have h1:=hv x;rw[hx,V_int]at h1
      have h2:=hv y;rw[hy,V_int]at h2
      exact⟨h1,h2⟩
    have hgd:∀ (w:World) (ρ:Operand→Value),ρ x = .int kd xv→ρ y = .int kd' yv→(eqGuard bo t x y (ρ x) (ρ y)).run P w = .ok () w:=by
      intro w ρ h1 h2;rw[h1,h2];exact run_guard_plain ⟨λ_ _ hh=>(nomatch hh.1),λhh=>(nomatch hh.1)⟩
    have hsh:∀ (b:BinOp),(b = .shl∨b = .shr)→bo=b→shI b kd xv yv (λv=>k v [] [])=some r→∃ v RN WN,k v RN WN=some r∧Ok P c o op look v RN WN:=by
      intro b hb hbo h
      subst hbo
      have hneg:¬ (yv:Int)<0:=by intro hn;rcases hb with rfl | rfl<;>simp[shI,hn]at h
      rcases hb with rfl | rfl
      · simp only[shI,if_neg hneg]at h
        refine fin _ h (λE w ρ hv => ?_) (λR' kk=>by rw[hx,hy];simp[binAV,shI,hneg])
        obtain⟨h1,h2⟩:=hval E w ρ hv
        exact⟨_,hgd w ρ h1 h2,by rw[h1,h2];simp only[binOp,Op.shift,if_neg hneg];rfl,V_int.2 rfl⟩
      · simp only[shI,if_neg hneg]at h
        refine fin _ h (λE w ρ hv => ?_) (λR' kk=>by rw[hx,hy];simp[binAV,shI,hneg])
        obtain⟨h1,h2⟩:=hval E w ρ hv
        exact⟨_,hgd w ρ h1 h2,by rw[h1,h2];simp only[binOp,Op.shift,if_neg hneg];rfl,V_int.2 rfl⟩
    split at h
    · exact hsh _ (.inl rfl) rfl h
    · exact hsh _ (.inr rfl) rfl h
    · rename_i hn1 hn2
      split at h
      · rename_i hk
        subst hk
        have hbin:∀ (w:World) (ρ:Operand→Value) (z:Value),ρ x = .int kd xv→ρ y = .int kd yv→(semI bo kd xv yv).run P w = .ok z w→(binOp bo t (ρ x) (ρ y)).run P w = .ok z w:=by
          intro w ρ z h1 h2 h3
          rw[h1,h2]
          cases bo<;>first | exact absurd rfl hn1 | exact absurd rfl hn2 | (simp only[binOp,ne_eq,not_true_eq_false,if_false];exact h3)
        have go:∀ (v:AV) (z:Value),binI bo kd xv yv (λv=>k v [] [])=k v [] []→(∀ (R':Type) (kk:AV→Option R'),binI bo kd xv yv kk=kk v)→(∀ E w,V E w v z) →
            (∀ w,(semI bo kd xv yv).run P w = .ok z w)→∃ v RN WN,k v RN WN=some r∧Ok P c o op look v RN WN:=by
          intro v z h1 h2 h3 h4
          refine fin v (by rw[← h1];exact h) (λE w ρ hv => ?_) (λR' kk => ?_)
          · obtain⟨g1,g2⟩:=hval E w ρ hv
            exact⟨z,hgd w ρ g1 g2,hbin w ρ z g1 g2 (h4 w),h3 E w⟩
          · rw[hx,hy,← h2 R' kk]
            cases bo<;>first | exact absurd rfl hn1 | exact absurd rfl hn2 | (simp only[binAV,if_true])
        cases bo with
        | shl=>exact absurd rfl hn1
        | shr=>exact absurd rfl hn2
        | add=>exact go _ (.int kd (kd.wrap (xv+yv))) rfl (λ_ _=>rfl) (λ_ _=>V_int.2 rfl) (λ_=>rfl)
        | sub=>exact go _ (.int kd (kd.wrap (xv-yv))) rfl (λ_ _=>rfl) (λ_ _=>V_int.2 rfl) (λ_=>rfl)
        | mul=>exact go _ (.int kd (kd.wrap (xv*yv))) rfl (λ_ _=>rfl) (λ_ _=>V_int.2 rfl) (λ_=>rfl)
        | quo=>
          by_cases h0:(yv:Int)=0
          · simp[binI,h0]at h
          · exact go (.data (.int kd) (kd.wrap (Int.tdiv xv yv))) (.int kd (kd.wrap (Int.tdiv xv yv))) (by simp[binI,h0]) (λ_ _=>by simp[binI,h0]) (λ_ _=>V_int.2 rfl) (λ_=>by simp[semI,Op.intDiv,h0])
        | rem=>
          by_cases h0:(yv:Int)=0
          · simp[binI,h0]at h
          · exact go (.data (.int kd) (Int.tmod xv yv)) (.int kd (Int.tmod xv yv)) (by simp[binI,h0]) (λ_ _=>by simp[binI,h0]) (λ_ _=>V_int.2 rfl) (λ_=>by simp[semI,Op.intDiv,h0])
        | and=>exact go _ (.int kd (bitI .and kd xv yv)) rfl (λ_ _=>rfl) (λ_ _=>V_int.2 rfl) (λ_=>rfl)
        | or=>exact go _ (.int kd (bitI .or kd xv yv)) rfl (λ_ _=>rfl) (λ_ _=>V_int.2 rfl) (λ_=>rfl)
        | xor=>exact go _ (.int kd (bitI .xor kd xv yv)) rfl (λ_ _=>rfl) (λ_ _=>V_int.2 rfl) (λ_=>rfl)
        | andNot=>exact go _ (.int kd (bitI .andNot kd xv yv)) rfl (λ_ _=>rfl) (λ_ _=>V_int.2 rfl) (λ_=>rfl)
        | eql=>exact go (.data .bool (xv==yv)) (.bool (xv==yv)) rfl (λ_ _=>rfl) (λ_ _=>ycY.2 rfl) (λ_=>rfl)
        | neq=>exact go (.data .bool (xv != yv)) (.bool (xv != yv)) rfl (λ_ _=>rfl) (λ_ _=>ycY.2 rfl) (λ_=>rfl)
        | lss=>exact go (.data .bool (decide ((xv:Int)<yv))) (.bool (decide ((xv:Int)<yv))) rfl (λ_ _=>rfl) (λ_ _=>ycY.2 rfl) (λ_=>rfl)
        | leq=>exact go (.data .bool (decide ((xv:Int)≤yv))) (.bool (decide ((xv:Int)≤yv))) rfl (λ_ _=>rfl) (λ_ _=>ycY.2 rfl) (λ_=>rfl)
        | gtr=>exact go (.data .bool (decide ((xv:Int)>yv))) (.bool (decide ((xv:Int)>yv))) rfl (λ_ _=>rfl) (λ_ _=>ycY.2 rfl) (λ_=>rfl)
        | geq=>exact go (.data .bool (decide ((xv:Int)≥yv))) (.bool (decide ((xv:Int)≥yv))) rfl (λ_ _=>rfl) (λ_ _=>ycY.2 rfl) (λ_=>rfl)
      · exact absurd h (by simp)
  · rename_i xv yv hx hy
    have hval:∀ E w (ρ:Operand→Value),(∀ x,V E w (op' x) (ρ x))→ρ x = .string xv∧ρ y = .string yv:=by
      intro E w ρ hv
      have h1:=hv x;rw[hx,V_str]at h1
      have h2:=hv y;rw[hy,V_str]at h2
      exact⟨h1,h2⟩
    have go:∀ (v:AV) (z:Value),(∀ (R':Type) (kk:AV→Option R'),binS bo xv yv kk=kk v)→(∀ E w,V E w v z) →
        (∀ w,(Op.stringOp bo xv yv).run P w = .ok z w)→(bo ≠ .shl∧bo ≠ .shr)→∃ v RN WN,k v RN WN=some r∧Ok P c o op look v RN WN:=by
      intro v z h2 h3 h4 h5
      refine fin v (by rw[h2]at h;exact h) (λE w ρ hv => ?_) (λR' kk => ?_)
      · obtain⟨g1,g2⟩:=hval E w ρ hv
        refine⟨z,?_,?_,h3 E w⟩
        · rw[g1,g2];exact run_guard_plain ⟨λ_ _ hh=>(nomatch hh.1),λhh=>(nomatch hh.1)⟩
        · rw[g1,g2,← h4 w]
          cases bo<;>rfl
      · rw[hx,hy,← h2 R' kk];simp only[binAV]
    cases bo with
    | add =>
      by_cases h0:ByteArray.size xv+ByteArray.size yv≤4611686018427387904
      · refine go (.data .str (xv++yv)) (.string (xv++yv)) (λ_ _=>by simp[binS,h0]) (λ_ _=>V_str.2 rfl) (λw => ?_) ⟨by simp,by simp⟩
        have:¬ ((ByteArray.size xv+ByteArray.size yv:Nat):Int)>IntKind.i64.max:=by
          have:IntKind.i64.max=9223372036854775807:=by rfl
          rw[this];omega
        simp only[Op.stringOp,if_neg this];rfl
      · simp[binS,h0]at h
    | eql=>exact go _ (.bool (eqS xv yv)) (λ_ _=>rfl) (λ_ _=>ycY.2 rfl) (λ_=>rfl) ⟨by simp,by simp⟩
    | neq=>exact go _ (.bool (!eqS xv yv)) (λ_ _=>rfl) (λ_ _=>ycY.2 rfl) (λ_=>rfl) ⟨by simp,by simp⟩
    | lss=>exact go _ (.bool (ltS xv yv)) (λ_ _=>rfl) (λ_ _=>ycY.2 rfl) (λ_=>rfl) ⟨by simp,by simp⟩
    | leq=>exact go _ (.bool (ltS xv yv||eqS xv yv)) (λ_ _=>rfl) (λ_ _=>ycY.2 rfl) (λ_=>rfl) ⟨by simp,by simp⟩
    | gtr=>exact go _ (.bool (!(ltS xv yv||eqS xv yv))) (λ_ _=>rfl) (λ_ _=>ycY.2 rfl) (λ_=>rfl) ⟨by simp,by simp⟩
    | geq=>exact go _ (.bool (!ltS xv yv)) (λ_ _=>rfl) (λ_ _=>ycY.2 rfl) (λ_=>rfl) ⟨by simp,by simp⟩
    | _=>simp[binS]at h
  · rename_i T xv T' yv hn1 hn2 hx hy
    split at h
    · rename_i hTT; subst hTT
      split at h
      · rename_i te ht
        split at h
        · rename_i hc
          obtain⟨htT,_⟩:=hT t te ht
          obtain⟨hc1,hc2⟩:=hc
          rw[hc1]at htT
          -- the two values
          have hval:∀ E w (ρ:Operand→Value),(∀ x,V E w (op' x) (ρ x))→∃ cs ds,ρ x=ybl T' cs∧ρ y=ybl T' ds∧Rd E.S w T' xv cs∧Rd E.S w T' yv ds:=by
            intro E w ρ hv
            have one:∀ (z:Operand) (d:Den T'),op' z = .data T' d→∃ cs,ρ z=ybl T' cs∧Rd E.S w T' d cs:=by
              intro z d hz
              have h1:=hv z
              rw[hz]at h1
              cases ha:T'.agg with
              | true=>
                rw[V_agg (show (AV.data T' d).isAgg=true from ha)]at h1
                obtain⟨cs,h2,h3⟩:=h1
                exact⟨cs.toList,by unfold ybl;rw[ha];simpa using h2,h3⟩
              | false=>
                rw[V_data1 ha]at h1
                exact⟨[ρ z],by unfold ybl;rw[ha];simp,h1⟩
            obtain⟨cs,h1,h2⟩:=one x xv hx
            obtain⟨ds,h3,h4⟩:=one y yv hy
            exact⟨cs,ds,h1,h3,h2,h4⟩
          have hrun : ∀ E w (ρ:Operand→Value),(∀ x,V E w (op' x) (ρ x))→(bo = .eql∨bo = .neq)→(eqGuard bo t x y (ρ x) (ρ y)).run P w = .ok () w ∧
              (binOp bo t (ρ x) (ρ y)).run P w = .ok (.bool (if bo = .eql then eqD T' xv yv else !eqD T' xv yv)) w:=by
            intro E w ρ hv hb
            obtain⟨cs,ds,h1,h2,h3,h4⟩:=hval E w ρ hv
            obtain⟨g1,g2⟩:=(equal_main (P:=P) (S:=E.S) (w:=w) T').1 200 10000 t xv yv cs ds htT hc2 (by omega) h3 h4
            have g1':(Op.equal t (ρ x) (ρ y)).run P w = .ok (eqD T' xv yv) w:=by rw[h1,h2];exact g1
            have hkinds:(∃ c1 c2,ρ x = .agg c1∧ρ y = .agg c2)∨(∃ b1 b2,ρ x = .bool b1∧ρ y = .bool b2):=by
              cases T' with
              | bool=>exact .inr ⟨xv,yv,by simp only[Rd]at h3;subst h3;exact h1,by simp only[Rd]at h4;subst h4;exact h2⟩
              | arr n e=>exact .inl ⟨_,_,h1,h2⟩
              | pair a b=>exact .inl ⟨_,_,h1,h2⟩
              | unit=>exact .inl ⟨_,_,h1,h2⟩
              | int kd=>exact (hn1 _ _ _ _ rfl HEq.rfl rfl HEq.rfl).elim
              | str=>exact (hn2 _ _ rfl HEq.rfl rfl HEq.rfl).elim
              | slice e=>simp[cmpT]at hc2
              | opq n=>simp[cmpT]at hc2
              | smap=>simp[cmpT]at hc2
              | mapT _ _=>simp[cmpT]at hc2
            refine⟨?_,?_⟩
            · rcases hkinds with ⟨c1,c2,k1,k2⟩ | ⟨b1,b2,k1,k2⟩
              · rw[← h1,← h2,k1,k2]at g2
                rw[k1,k2]
                have hgo:((do
                    if !(← program).eqGuardType (← program).depth t then return
                    if ← Op.eqGuardIn Op.maxDepth t (.agg c1) (.agg c2) then unsupported (.noEntry "binop/eql: two nil values of an interface type with methods, in a part of a struct or an array")) : Sem Unit).run P w = .ok () w := by
                  simp only[Sem.run_bind,run_program,Result.andThen_ok]
                  split
                  · rfl
                  · rw[Sem.run_bind,show Op.maxDepth=10000 from rfl,g2];rfl
                rcases hb with rfl | rfl<;>exact hgo
              · rw[k1,k2];exact run_guard_plain ⟨λ_ _ hh=>(nomatch hh.1),λhh=>(nomatch hh.1)⟩
            · rcases hb with rfl | rfl
              · rcases hkinds with ⟨c1,c2,k1,k2⟩ | ⟨b1,b2,k1,k2⟩
                · rw[k1,k2]at g1' ⊢; simp[binOp,g1']
                · rw[k1,k2]at g1' ⊢; simp[binOp,g1']
              · rcases hkinds with ⟨c1,c2,k1,k2⟩ | ⟨b1,b2,k1,k2⟩
                · rw[k1,k2]at g1' ⊢; simp[binOp,g1']
                · rw[k1,k2]at g1' ⊢; simp[binOp,g1']
          have hab:∀ (R':Type) (kk:AV→Option R'),binAV c.tab bo t (op' x) (op' y) kk=eqOr bo (eqD T' xv yv) kk:=by
            intro R' kk
            rw[hx,hy]
            cases T' with
            | int kd=>exact (hn1 _ _ _ _ rfl HEq.rfl rfl HEq.rfl).elim
            | str=>exact (hn2 _ _ rfl HEq.rfl rfl HEq.rfl).elim
            | _=>simp[binAV,ht,hc1,hc2]
          cases bo with
          | eql=>
            refine fin _ h (λE w ρ hv => ?_) (λR' kk=>hab R' kk)
            obtain⟨g1,g2⟩:=hrun E w ρ hv (.inl rfl)
            exact⟨_,g1,g2,ycY.2 rfl⟩
          | neq=>
            refine fin _ h (λE w ρ hv => ?_) (λR' kk=>hab R' kk)
            obtain⟨g1,g2⟩:=hrun E w ρ hv (.inr rfl)
            exact⟨_,g1,g2,ycY.2 rfl⟩
          | _=>simp[eqOr]at h
        · exact absurd h (by simp)
      · exact absurd h (by simp)
    · exact absurd h (by simp)
  · rename_i q l p u0 hx hy
    split at h
    · rename_i te ht
      split at h
      · rename_i hs
        obtain⟨htT,_⟩:=hT t te ht
        have hab:∀ (R':Type) (kk:AV→Option R'),binAV c.tab bo t (op' x) (op' y) kk=eqOr bo false kk:=by
          intro R' kk;rw[hx,hy];simp only[binAV,ht,hs,if_true]
        obtain⟨u,hu⟩:∃ u,P.underlying t=some (.pointer u):=by
          rw[hs]at htT
          have h1:=htT.1
          cases hu:P.underlying t with
          | none=>rw[hu]at h1;exact h1.elim
          | some d=>rw[hu]at h1;cases d<;>simp_all
        have hval:∀ E w (ρ:Operand→Value),(∀ x,V E w (op' x) (ρ x))→∃ a,ρ x = .pointer (some a)∧ρ y = .pointer none:=by
          intro E w ρ hv
          have h1:=hv x;rw[hx,V_one rfl]at h1
          have h2:=hv y;rw[hy,V_data1 rfl]at h2
          obtain⟨a,e1,_⟩:=h1
          injection e1 with e1 _
          simp only[Rd]at h2
          injection h2 with h2 _
          exact⟨a,e1,h2⟩
        cases bo with
        | eql=>
          refine fin _ h (λE w ρ hv => ?_) (λR' kk=>hab R' kk)
          obtain⟨a,g1,g2⟩:=hval E w ρ hv
          obtain⟨k1,k2⟩:=ptr_run (P:=P) (x:=x) (y:=y) (a:=a) (w:=w) hu (.inl rfl)
          rw[g1,g2]
          exact⟨_,k1,k2,ycY.2 rfl⟩
        | neq=>
          refine fin _ h (λE w ρ hv => ?_) (λR' kk=>hab R' kk)
          obtain⟨a,g1,g2⟩:=hval E w ρ hv
          obtain⟨k1,k2⟩:=ptr_run (P:=P) (x:=x) (y:=y) (a:=a) (w:=w) hu (.inr rfl)
          rw[g1,g2]
          exact⟨_,k1,k2,ycY.2 rfl⟩
        | _=>simp[eqOr]at h
      · exact absurd h (by simp)
    · exact absurd h (by simp)
  · rename_i e1 e2 hx hy
    split at h
    · rename_i te ht
      split at h
      · rename_i hs
        obtain⟨htT,_⟩:=hT t te ht
        have hab:∀ (R':Type) (kk:AV→Option R'),binAV c.tab bo t (op' x) (op' y) kk=eqOr bo true kk:=by
          intro R' kk;rw[hx,hy];simp only[binAV,ht,hs,if_true]
        have hsl:∃ u,P.underlying t=some (.slice u):=by
          cases hte:te.T with
          | slice e=>rw[hte]at htT;obtain⟨⟨u,hu,_⟩,_⟩:=htT;exact⟨u,hu⟩
          | _=>rw[hte]at hs;simp[Ty.isSlice]at hs
        obtain⟨u,hu⟩:=hsl
        have hval:∀ E w (ρ:Operand→Value),(∀ x,V E w (op' x) (ρ x))→ρ x = .slice none 0 0∧ρ y = .slice none 0 0:=by
          intro E w ρ hv
          have h1:=hv x;rw[hx,V_one rfl]at h1
          have h2:=hv y;rw[hy,V_one rfl]at h2
          simp only[C]at h1 h2
          injection h1 with h1 _;injection h2 with h2 _
          exact⟨h1,h2⟩
        cases bo with
        | eql=>
          refine fin _ h (λE w ρ hv => ?_) (λR' kk=>hab R' kk)
          obtain⟨g1,g2⟩:=hval E w ρ hv
          obtain⟨k1,k2⟩:=nil_run (P:=P) (x:=x) (y:=y) (a:=none) (n:=0) (cap:=0) (w:=w) hu (.inl rfl)
          rw[g1,g2]
          exact⟨_,k1,k2,ycY.2 rfl⟩
        | neq=>
          refine fin _ h (λE w ρ hv => ?_) (λR' kk=>hab R' kk)
          obtain⟨g1,g2⟩:=hval E w ρ hv
          obtain⟨k1,k2⟩:=nil_run (P:=P) (x:=x) (y:=y) (a:=none) (n:=0) (cap:=0) (w:=w) hu (.inr rfl)
          rw[g1,g2]
          exact⟨_,k1,k2,ycY.2 rfl⟩
        | _=>simp[eqOr]at h
      · exact absurd h (by simp)
    · exact absurd h (by simp)
  · rename_i a e2 hy hna
    split at h
    · rename_i te cc ht hni
      split at h
      · rename_i hs
        obtain⟨htT,_⟩:=hT t te ht
        have hsl:∃ u,P.underlying t=some (.slice u):=by
          cases hte:te.T with
          | slice e=>rw[hte]at htT;obtain⟨⟨u,hu,_⟩,_⟩:=htT;exact⟨u,hu⟩
          | _=>rw[hte]at hs;simp[Ty.isSlice]at hs
        obtain⟨u,hu⟩:=hsl
        have hab:∀ (R':Type) (kk:AV→Option R'),binAV c.tab bo t (op' x) (op' y) kk=unkOr bo cc kk:=by
          intro R' kk
          rw[hy]
          clear h fin e
          generalize op' x=v at hni hna
          cases v with
          | data T d=>cases T with
            | slice e=>simp only[binAV,ht,hni,hs,if_true]
            | _=>simp[nilInfo]at hni
          | ow q e g=>simp only[binAV,ht,hni,hs,if_true]
          | _=>simp[nilInfo]at hni
        have hval:∀ E w (ρ:Operand→Value),(∀ x,V E w (op' x) (ρ x))→∃ a n cap,ρ x = .slice a n cap∧(a=none→cc=true)∧ρ y = .slice none 0 0:=by
          intro E w ρ hv
          have h2:=hv y;rw[hy,V_one rfl]at h2
          simp only[C]at h2
          injection h2 with h2 _
          have h1:=hv x
          generalize op' x=v at hni hna h1
          cases v with
          | data T d=>cases T with
            | slice e=>
              rw[V_slice]at h1
              obtain⟨a,cap,g1,g2,g3⟩:=h1
              refine⟨a,_,cap,g1,λha => ?_,h2⟩
              rcases g3 with g3 | ⟨ad,g4,_⟩
              · subst g3
                simp only[nilInfo]at hni
                injection hni with hni
                rw[← hni];rfl
              · rw[ha]at g4;exact absurd g4 (by simp)
            | _=>simp[nilInfo]at hni
          | ow q e g=>
            rw[V_one rfl]at h1
            obtain⟨a,len,cap,g1,_⟩:=h1
            injection g1 with g1 _
            simp only[nilInfo]at hni
            injection hni with hni
            exact⟨a,len,cap,g1,λ_=>hni.symm,h2⟩
          | _=>simp[nilInfo]at hni
        cases bo with
        | eql=>
          refine fin _ h (λE w ρ hv => ?_) (λR' kk=>hab R' kk)
          obtain⟨a,n,cap,g1,g2,g3⟩:=hval E w ρ hv
          obtain⟨k1,k2⟩:=nil_run (P:=P) (x:=x) (y:=y) (a:=a) (n:=n) (cap:=cap) (w:=w) hu (.inl rfl)
          rw[g1,g3]
          refine⟨_,k1,k2,V_unk.2 ⟨_,rfl,?_⟩⟩
          cases a with
          | none=>exact .inr (g2 rfl)
          | some _=>exact .inl rfl
        | neq=>
          refine fin _ h (λE w ρ hv => ?_) (λR' kk=>hab R' kk)
          obtain⟨a,n,cap,g1,g2,g3⟩:=hval E w ρ hv
          obtain⟨k1,k2⟩:=nil_run (P:=P) (x:=x) (y:=y) (a:=a) (n:=n) (cap:=cap) (w:=w) hu (.inr rfl)
          rw[g1,g3]
          refine⟨_,k1,k2,V_unk.2 ⟨_,rfl,?_⟩⟩
          cases a with
          | none=>exact .inr (g2 rfl)
          | some _=>exact .inl rfl
        | _=>simp[unkOr]at h
      · exact absurd h (by simp)
    · exact absurd h (by simp)
  · exact absurd h (by simp)
theorem ok_binOp [Gl]{bo:BinOp}{t t':TypeId}{x y:Operand}(hT:TabOk P c.tab)(ho:o.op = .binOp bo t x y t')(h:aOp c o op look k=some r):∃ v RN WN,k v RN WN=some r∧Ok P c o op look v RN WN:=
  binOp_main (op':=λz=>flatA (op z)) hT ho (λ_ _ _ _ hv=>flatA_V hv) (λlook R k=>by unfold aOp;rw[ho];simp only[hideB_eq]) h
end
end Go.Va
