/-
  Va, part 14: len, min, max; conversions; rows that are made.
-/
import Derived.Test.YtemhlkdingkjnaaGreatDoorVaOps4
set_option linter.unusedVariables false
set_option linter.unusedSimpArgs false
namespace Go.Va
open Go
section
variable {P:Program} {c:Cfg} {o:Oper} {op:Operand→AV} {look:Nat→Ent} {R:Type} {k:Kont R} {r:R}
theorem arr_one {α β:Type}{f:α→β}{a:Array α}{y:β}(h:a.toList.map f=[y]):∃ x,a = #[x]∧f x=y:=by
  have hl:a.toList.length=1:=by have:=congrArg List.length h;simpa using this
  match hq:a.toList,hl with
  | [x],_=>exact⟨x,by rw[← Array.toArray_toList (xs:=a),hq],by rw[hq]at h;simpa using h⟩
theorem arr_two {α β:Type}{f:α→β}{a:Array α}{y z:β}(h:a.toList.map f=[y,z]):∃ x x',a = #[x,x']∧f x=y∧f x'=z:=by
  have hl:a.toList.length=2:=by have:=congrArg List.length h;simpa using this
  match hq:a.toList,hl with
  | [x,x'],_=>exact⟨x,x',by rw[← Array.toArray_toList (xs:=a),hq],by rw[hq]at h;simpa using h⟩
theorem arr_list {α:Type}{a:Array α}{l:List α}(h:a.toList=l):a=l.toArray:=by rw[← Array.toArray_toList (xs:=a),h]
theorem ok_len [Gl] {q:Call} {t:TypeId} {v:AV} (hT:TabOk P c.tab) (ho:o.op = .call q) (hq:q.callee = .builtin .len) (ha:q.args.toList.map op=[v]) (hts:q.argTypes.toList=[t])
    (h:aOp c o op look k=some r):∃ v RN WN,k v RN WN=some r∧Ok P c o op look v RN WN:=by
  have e:∀ (look:Nat→Ent) (R:Type) (k:Kont R),aOp c o op look k=match findT c.tab t with
    | some te=>match lenAV look te.T v with
      | some (n,rs)=>k (.data (.int .i64) n) rs []
      | none=>none
    | none=>none:=by
    intro look R k;unfold aOp;rw[ho];simp only[hq,ha,hts];rfl
  obtain⟨x,hx,hv0⟩:=arr_one ha
  have hts':=arr_list hts
  rw[e]at h
  split at h
  · rename_i te ht
    obtain⟨htT,_⟩:=hT t te ht
    split at h
    · rename_i n rs hl
      obtain⟨l1,l2⟩:=lenAV_ok hl
      refine⟨_,_,_,h,.pure (λP0 S0 E w ρ hh hv => ?_) (λlook' hk R' k'=>by rw[e,ht];simp only[l2 look' hk])⟩
      have h1:=hv x
      rw[hv0]at h1
      refine⟨.int .i64 n,exec_builtin ho hq ?_,V_int.2 rfl⟩
      rw[hts',hx]
      simp only[builtin,Sem.run_bind]
      rcases l1 P0 S0 E w (ρ x) hh h1 with ⟨hTe,s,g1,g2⟩ | ⟨⟨ee,hTe⟩,a,m,cap,g1,g2⟩
      · rw[hTe]at htT
        simp only[Builtin.len_]
        simp[g1,run_underlying htT.1,g2,goInt]
      · rw[hTe]at htT
        obtain⟨⟨u,hu,_⟩,_⟩:=htT
        simp only[Builtin.len_]
        simp[g1,run_underlying hu,g2,goInt]
    · exact absurd h (by simp)
  · exact absurd h (by simp)
theorem ok_minmax [Gl]{q:Call}{b:Builtin}{kd:IntKind}{x:Int}{l:List AV}(hb:b = .min∨b = .max)(ho:o.op = .call q)(hq:q.callee = .builtin b)(ha:q.args.toList.map op = .data (.int kd) x::l)
    (h:aOp c o op look k=some r):∃ v RN WN,k v RN WN=some r∧Ok P c o op look v RN WN:=by
  have e:∀ (look:Nat→Ent) (R:Type) (k:Kont R),aOp c o op look k=match foldI (if b = .min then minI kd else maxI kd) kd x l with | some z=>k (.data (.int kd) z) [] [] | none=>none:=by
    intro look R k;unfold aOp;rw[ho];simp only[hq,ha]
    rcases hb with rfl | rfl<;>rfl
  rw[e]at h
  split at h
  · rename_i z hf
    refine⟨_,_,_,h,.pure (λP0 S0 E w ρ hh hv => ?_) (λlook' hk R' k'=>by rw[e,hf])⟩
    refine⟨.int kd z,exec_builtin ho hq ?_,V_int.2 rfl⟩
    have hl:=args_list (E:=E) (w:=w) (ρ:=ρ) hv q.args.toList
    rw[ha]at hl
    obtain⟨y,vs,g0,g1,g2⟩:=hl
    have g1':y = .int kd x:=V_int.1 g1
    subst g1'
    have hargs:(q.args.map ρ).toList = .int kd x::vs:=by rw[Array.toList_map,g0]
    rcases hb with rfl | rfl
    · simp only[if_true]at hf
      have:=foldI_ok (P:=P) (f:=Builtin.min2) (g:=minI kd) (kd:=kd) (λx y w=>rfl) l vs x z E w g2 hf
      simp only[builtin,Sem.run_bind,Builtin.min_,hargs,this]
      rfl
    · simp only[if_neg (show ¬ Builtin.max=Builtin.min by simp)]at hf
      have:=foldI_ok (P:=P) (f:=Builtin.max2) (g:=maxI kd) (kd:=kd) (λx y w=>rfl) l vs x z E w g2 hf
      simp only[builtin,Sem.run_bind,Builtin.max_,hargs,this]
      rfl
  · exact absurd h (by simp)
theorem res_loc {look':Nat→Ent}:∀ (T:Ty) (v:AV) (x:Den T) (rs:List Nat),res look T v=some (x,rs)→(∀ q∈rs,look' q=look q)→res look' T v=some (x,rs):=by
  intro T v
  induction T generalizing v with
  | slice e _=>
    intro x rs h hk
    cases v with
    | ow q e' rng=>
      simp only[res]at h ⊢
      split at h
      · rename_i he
        rw[dif_pos he]
        have hq:q∈rs:=by
          split at h
          · split at h
            · split at h<;>(injection h with h;injection h with _ h2;subst h2;simp)
            · exact absurd h (by simp)
          · split at h
            · split at h<;>(injection h with h;injection h with _ h2;subst h2;simp)
            · exact absurd h (by simp)
          · exact absurd h (by simp)
        rw[hk q hq];exact h
      · exact absurd h (by simp)
    | data T' y=>simpa only[res]using h
    | nils e'=>simpa only[res]using h
    | _=>simp[res]at h
  | pair a b iha ihb=>
    intro x rs h hk
    cases v with
    | pr u v=>
      simp only[res]at h ⊢
      split at h
      · rename_i x1 r1 y1 s1 g1 g2
        injection h with h;injection h with h1 h2;subst h1 h2
        rw[iha u _ _ g1 (λq hq=>hk q (by simp[hq])),ihb v _ _ g2 (λq hq=>hk q (by simp[hq]))]
      · exact absurd h (by simp)
    | data T' y=>simpa only[res]using h
    | _=>simp[res]at h
  | _=>
    intro x rs h hk
    cases v with
    | data T' y=>simpa only[res]using h
    | _=>simp[res]at h
end
end Go.Va
