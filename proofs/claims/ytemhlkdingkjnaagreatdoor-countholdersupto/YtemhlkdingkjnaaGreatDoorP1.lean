/-
  The plain laws.
-/
import Derived.Test.YtemhlkdingkjnaaGreatDoorP0
import Derived.Test.YtemhlkdingkjnaaGreatDoorF2
set_option linter.unusedVariables false
set_option linter.unusedSimpArgs false
namespace Go.Proofs.YtemhlkdingkjnaaGreatDoor
open Go Go.Va Go.Proofs
def heldL (U:List Use)(d:List Int):List Int:=(U.filter λu=>decide (u.2.2.2.1=d)).map λu=>u.1
theorem getG_addG (G:Grp)(d e:Dig)(b:Int):getG (addG G d b) e=if d=e then getG G e++[b] else getG G e:=by
  induction G with
  | nil=>
    unfold addG getG
    by_cases h:d=e
    · rw[if_pos h,if_pos h];rfl
    · rw[if_neg h,if_neg h];unfold getG;rfl
  | cons p l ih=>
    unfold addG
    by_cases hp:p.1=d
    · rw[if_pos hp]
      unfold getG
      by_cases he:p.1=e
      · rw[if_pos he,if_pos he,if_pos (hp.symm.trans he)]
      · rw[if_neg he,if_neg he,if_neg (λh=>he (hp.trans h))]
    · rw[if_neg hp]
      unfold getG
      by_cases he:p.1=e
      · rw[if_pos he,if_pos he,if_neg (λh=>hp (he.trans h.symm))]
      · rw[if_neg he,if_neg he];exact ih
theorem getG_grp (U:List Use)(d:Dig):getG (grpOf U) d=heldL U d:=by
  have:∀ (U:List Use) (G:Grp),getG (U.foldl (λG u=>addG G u.2.2.2.1 u.1) G) d=getG G d++heldL U d:=by
    intro U
    induction U with
    | nil=>intro G;unfold heldL;simp
    | cons u U ih=>
      intro G
      rw[List.foldl_cons,ih,getG_addG]
      unfold heldL
      by_cases h:u.2.2.2.1=d
      · rw[if_pos h,List.filter_cons,if_pos (decide_eq_true h),List.map_cons,List.append_assoc];rfl
      · rw[if_neg h,List.filter_cons,if_neg (by simp[h])]
  have h:=this U []
  exact h
section
variable {n:Nat}
theorem numbers_J (l:List Int)(hl:l.length<16777216):∀ (m k:Nat),k≤l.length→l.length-k<m→F_ref16_Numbers.J1 n m (l,l,(k:Int),())=some (true,())
  | 0,k,_,h=>by omega
  | m + 1,k,hk,h=>by
    rw[F_ref16_Numbers.e1]
    simp only[hide_n]
    by_cases hlt:k<l.length
    · have hg:(0≤(k:Int)∧(k:Int)<((l.length:Nat):Int)):=by omega
      rw[decide_eq_true hg.2,bIf_true,gIf_pos hg,gIf_pos hg,bne_self_eq_false,bIf_false,cast_up k (by omega)]
      exact numbers_J l hl m (k+1) (by omega) (by omega)
    · rw[decide_eq_false (show ¬ (k:Int)<((l.length:Nat):Int) by omega),bIf_false,F_ref16_Numbers.e2]
theorem numbers_self {l:List Int}(hl:l.length<16777216)(hn:l.length<n):F_ref16_Numbers.f n l l=some (true,()):=by
  rw[F_ref16_Numbers.e0]
  simp only[hide_n]
  rw[bne_self_eq_false,bIf_false]
  exact numbers_J l hl n 0 (by omega) (by omega)
theorem clip_u64 (l:List Int):F_slices_Clip_uint64.f n l=some (l,()):=by
  rw[F_slices_Clip_uint64.e0,gIf_pos ⟨by omega,by omega⟩,gIf_pos ⟨by omega,by omega⟩,gIf_pos ⟨by omega,by omega,rfl⟩]
  simp
def heldAll (S:List Says)(f:Seen):Seen:=S.foldl (λf y=>setS f y.1) f
theorem got_all (x:Int):∀ (S:List Says) (f:Seen),got (heldAll S f) x=(got f x||S.any λy=>y.1==x)
  | [],f=>by unfold heldAll;simp
  | y::S,f=>by
    have:=got_all x S (setS f y.1)
    unfold heldAll at this ⊢
    rw[List.foldl_cons,this,got_set,List.any_cons]
    rw[show (x==y.1)=(y.1==x) from by rw[Bool.eq_iff_iff,beq_iff_eq,beq_iff_eq];exact eq_comm]
    cases (y.1==x)<;>cases got f x<;>simp
theorem orph_J1 (list:List Int)(S:List Says)(hS:S.length<16777216):∀ (m k:Nat) (f:Seen),k≤S.length→S.length-k<m→F_count_Orphans.J1 n m (list,f,S,((S.length:Nat):Int),(k:Int),())=F_count_Orphans.J2 n (list,heldAll (S.drop k) f,())
  | 0,k,_,_,h=>by omega
  | m + 1,k,f,hk,h=>by
    rw[F_count_Orphans.e1]
    simp only[hide_n]
    by_cases hlt:k<S.length
    · rw[drop_cons (Va.dflt T_count_says) hlt,decide_eq_true (show (k:Int)<((S.length:Nat):Int) by omega),bIf_true,gIf_pos ⟨by omega,by omega⟩,Int.toNat_natCast,Nat.zero_add,cast_up k (by omega)]
      exact orph_J1 list S hS m (k+1) _ (by omega) (by omega)
    · rw[decide_eq_false (show ¬ (k:Int)<((S.length:Nat):Int) by omega),bIf_false,List.drop_eq_nil_of_le (by omega)]
      rfl
theorem orph_J3 (f:Seen) (list:List Int) (hl:list.length<16777216):∀ (m k:Nat) (out:List Int),k≤list.length→list.length-k<m→out.length≤k→F_count_Orphans.J3 n m (f,out,list,((list.length:Nat):Int),(k:Int),())=F_count_Orphans.J4 n (out++(list.drop k).filter (λx=>!got f x),())
  | 0,k,_,_,h,_=>by omega
  | m + 1,k,out,hk,h,ho=>by
    rw[F_count_Orphans.e3]
    simp only[hide_n]
    by_cases hlt:k<list.length
    · rw[drop_cons (0:Int) hlt,decide_eq_true (show (k:Int)<((list.length:Nat):Int) by omega),bIf_true,gIf_pos ⟨by omega,by omega⟩,Int.toNat_natCast,cast_up k (by omega),List.filter_cons]
      change bIf (!got f (list.getD k 0)) _ _=_
      cases got f (list.getD k 0) with
      | false=>
        rw[Bool.not_false,bIf_true,gIf_pos (by omega),if_pos rfl,orph_J3 f list hl m (k+1) _ (by omega) (by omega) (by rw[List.length_append,List.length_singleton];omega),List.append_assoc]
        rfl
      | true=>
        rw[Bool.not_true,bIf_false,if_neg (by decide)]
        exact orph_J3 f list hl m (k+1) _ (by omega) (by omega) (by omega)
    · rw[decide_eq_false (show ¬ (k:Int)<((list.length:Nat):Int) by omega),bIf_false,List.drop_eq_nil_of_le (by omega),List.filter_nil,List.append_nil]
def freeL (S:List Says)(list:List Int):List Int:=list.filter λx=>!(S.any λy=>y.1==x)
theorem count_Orphans (h3:300≤n)(hn:n≤4194304){s:D_api_State}(hs:CoS n s){list:List Int}(hl:list.length<n):F_count_Orphans.f n s list=some (freeL (saysOf s) list,()):=by
  have hsl:=says_len hs
  rw[F_count_Orphans.e0,count_all h3 (by omega) hs,bnd_some]
  have h1:=orph_J1 (n:=n) list (saysOf s) (by omega) n 0 [] (by omega) (by omega)
  rw[show ((0:Nat):Int)=0 from rfl,List.drop_zero]at h1
  rw[h1,F_count_Orphans.e2]
  have h2:=orph_J3 (n:=n) (heldAll (saysOf s) []) list (by omega) n 0 [] (by omega) (by omega) (Nat.le_refl _)
  rw[show ((0:Nat):Int)=0 from rfl,List.drop_zero,List.nil_append]at h2
  rw[h2,F_count_Orphans.e4,clip_u64,bnd_some]
  have:(λx=>!got (heldAll (saysOf s) []) x)=λx=>!((saysOf s).any λy=>y.1==x):=by
    funext x
    rw[got_all]
    rfl
  rw[this]
  rfl
theorem has_step (O:List Use)(y:Says)(x:Int):has x (refStep O y)=(has x O||(y.1==x)):=by
  unfold refStep
  cases hy:has y.1 O with
  | true=>
    rw[if_pos rfl,has_inc]
    by_cases h:y.1=x
    · rw[← h,hy];rfl
    · rw[show (y.1==x)=false from beq_eq_false_iff_ne.2 h,Bool.or_false]
  | false=>
    rw[if_neg (by decide),perm_has (ins_perm (newU y) O)]
    show ((y.1==x)||has x O)=_
    rw[Bool.or_comm]
theorem has_fold (x:Int):∀ (S:List Says) (O:List Use),has x (S.foldl refStep O)=(has x O||S.any λy=>y.1==x)
  | [],O=>by simp
  | y::S,O=>by
    rw[List.foldl_cons,has_fold x S,has_step,List.any_cons,Bool.or_assoc]
theorem has_uses (s:D_api_State)(x:Int):has x (usesOf s)=(saysOf s).any λy=>y.1==x:=by
  have h:=has_fold x (saysOf s) []
  exact h
theorem fold_all {Q:Use→Prop}(hi:∀ u,Q u→Q (incU u)):∀ (S:List Says) (O:List Use),(∀ y∈S,Q (newU y))→(∀ u∈O,Q u)→∀ u∈S.foldl refStep O,Q u
  | [],_,_,h=>h
  | y :: S,O,hS,h=>by
    refine fold_all hi S _ (λz hz=>hS z (by simp[hz])) λu hu => ?_
    unfold refStep at hu
    split at hu
    · obtain⟨v,hv,rfl⟩:=List.mem_map.1 hu
      split
      · exact hi v (h v hv)
      · exact h v hv
    · rcases List.mem_cons.1 ((ins_perm _ _).mem_iff.1 hu) with rfl | hu
      · exact hS y (by simp)
      · exact h u hu
theorem uses_dig (hn:n≤4194304){s:D_api_State}(hs:CoS n s):∀ u∈usesOf s,u.2.2.2.1.length=32:=
  fold_all (Q:=λu=>u.2.2.2.1.length=32) (λ_ h=>h) _ _ (λy hy=>says_dig (by omega) hs y hy) (λu hu=>nomatch hu)
theorem count_Holders (h3:300≤n)(hn:n≤4194304){s:D_api_State}(hs:CoS n s)(d:List Int):F_count_Holders.f n s d=some (heldL (usesOf s) d,()):=by
  have hl:=uses_len hs
  unfold F_count_Holders.f
  rw[count_Uses h3 hn hs,bnd_some,gIf_pos (by show (usesOf s).length≤16777216;omega),getG_grp]
theorem held_len (U:List Use)(d:List Int):(heldL U d).length≤U.length:=by
  unfold heldL;rw[List.length_map];exact List.length_filter_le _ _
theorem hold_J1 (list:List Int) (U:List Use) (hU:U.length<16777216) (s:D_api_State) {d:List Int} (hd:d.length=32) (hq:∀ u∈U,u.2.2.2.1.length=32):∀ (m k:Nat) (H:List Int),k≤U.length→U.length-k<m→H.length≤k →
    F_law16_CountHolders.J1 n m (list,U,H,[],(k:Int),s,d,())=F_law16_CountHolders.J3 n (list,U,H++heldL (U.drop k) d,[],s,d,())
  | 0,k,_,_,h,_=>by omega
  | m + 1,k,H,hk,h,hH=>by
    rw[F_law16_CountHolders.e1]
    simp only[hide_n]
    by_cases hlt:k<U.length
    · have hg:(0≤(k:Int)∧(k:Int)<((U.length:Nat):Int)):=by omega
      have hu:=hq _ (getD_memA (d:=Va.dflt T_count_Use) hlt)
      rw[drop_cons (Va.dflt T_count_Use) hlt,decide_eq_true hg.2,bIf_true,gIf_pos hg,Int.toNat_natCast,Nat.zero_add,digEq _ _ (hu.trans hd.symm)]
      generalize U.getD k (Va.dflt T_count_Use)=u at hu ⊢
      unfold heldL
      rw[List.filter_cons]
      by_cases h1:u.2.2.2.1=d
      · rw[decide_eq_true h1,bIf_true,gIf_pos hg,gIf_pos (by omega),if_pos rfl,F_law16_CountHolders.e2,cast_up k (by omega),hold_J1 list U hU s hd hq m (k+1) _ (by omega) (by omega) (by rw[List.length_append,List.length_singleton];omega),List.append_assoc]
        rfl
      · rw[decide_eq_false h1,bIf_false,if_neg (by decide),F_law16_CountHolders.e2,cast_up k (by omega)]
        exact hold_J1 list U hU s hd hq m (k+1) _ (by omega) (by omega) (by omega)
    · rw[decide_eq_false (show ¬ (k:Int)<((U.length:Nat):Int) by omega),bIf_false,List.drop_eq_nil_of_le (by omega)]
      unfold heldL
      rw[List.filter_nil,List.map_nil,List.append_nil]
theorem hold_J5 (list:List Int) (U:List Use) (hU:U.length<16777216) (H O:List Int) (s:D_api_State) (d:List Int) (m4 i:Nat) (hi:i<list.length):∀ (m k:Nat) (t:Bool),k≤U.length→U.length-k<m →
    F_law16_CountHolders.J5 n m4 m (list,U,H,O,(i:Int),t,(k:Int),s,d,())=F_law16_CountHolders.J7 n m4 (list,U,H,O,(i:Int),t||has (list.getD i 0) (U.drop k),s,d,())
  | 0,k,_,_,h=>by omega
  | m + 1,k,t,hk,h=>by
    rw[F_law16_CountHolders.e5]
    simp only[hide_n]
    by_cases hlt:k<U.length
    · have hg:(0≤(k:Int)∧(k:Int)<((U.length:Nat):Int)):=by omega
      have e6:∀ t,F_law16_CountHolders.J6 n m4 m (list,U,H,O,(i:Int),t,(k:Int),s,d,())=F_law16_CountHolders.J7 n m4 (list,U,H,O,(i:Int),t||has (list.getD i 0) (U.drop (k+1)),s,d,()):=λt=>by
        rw[F_law16_CountHolders.e6,cast_up k (by omega)]
        exact hold_J5 list U hU H O s d m4 i hi m (k+1) t (by omega) (by omega)
      rw[decide_eq_true hg.2,bIf_true,gIf_pos hg,gIf_pos ⟨by omega,by omega⟩,drop_cons (Va.dflt T_count_Use) hlt,e6,e6,Int.toNat_natCast,Int.toNat_natCast,Nat.zero_add]
      have e:has (list.getD i 0) (U.getD k (Va.dflt T_count_Use)::U.drop (k+1))=(((U.getD k (Va.dflt T_count_Use)).1==list.getD i 0)||has (list.getD i 0) (U.drop (k+1))):=by unfold has;rw[List.any_cons]
      rw[e]
      cases t with
      | true=>rw[bIf_true,Bool.true_or,Bool.true_or]
      | false=>rw[bIf_false,Bool.false_or]
    · rw[decide_eq_false (show ¬ (k:Int)<((U.length:Nat):Int) by omega),bIf_false,List.drop_eq_nil_of_le (by omega)]
      show _=F_law16_CountHolders.J7 n m4 (list,U,H,O,(i:Int),t||false,s,d,())
      rw[Bool.or_false]
theorem hold_J4 (list:List Int) (hl:list.length<16777216) (U:List Use) (hU:U.length<16777216) (hUn:U.length<n) (H:List Int) (s:D_api_State) (d:List Int):∀ (m k:Nat) (O:List Int),k≤list.length→list.length-k<m→O.length≤k →
    F_law16_CountHolders.J4 n m (list,U,H,O,(k:Int),s,d,())=F_law16_CountHolders.J9 n (list,H,O++(list.drop k).filter (λx=>!has x U),s,d,())
  | 0,k,_,_,h,_=>by omega
  | m + 1,k,O,hk,h,hO=>by
    rw[F_law16_CountHolders.e4]
    simp only[hide_n]
    by_cases hlt:k<list.length
    · have hg:(0≤(k:Int)∧(k:Int)<((list.length:Nat):Int)):=by omega
      have h5:=hold_J5 (n:=n) list U hU H O s d m k hlt n 0 false (by omega) (by omega)
      rw[show ((0:Nat):Int)=0 from rfl,List.drop_zero,Bool.false_or]at h5
      rw[decide_eq_true hg.2,bIf_true,h5,F_law16_CountHolders.e7,drop_cons (0:Int) hlt,List.filter_cons,Int.toNat_natCast]
      have e8:∀ O',F_law16_CountHolders.J8 n m (list,U,H,O',(k:Int),s,d,())=F_law16_CountHolders.J4 n m (list,U,H,O',((k+1:Nat):Int),s,d,()):=λO'=>by rw[F_law16_CountHolders.e8,cast_up k (by omega)]
      rw[e8,e8]
      cases has (list.getD k 0) U with
      | false=>
        rw[Bool.not_false,bIf_true,gIf_pos hg,gIf_pos (by omega),if_pos rfl,hold_J4 list hl U hU hUn H s d m (k+1) _ (by omega) (by omega) (by rw[List.length_append,List.length_singleton];omega),List.append_assoc]
        rfl
      | true=>
        rw[Bool.not_true,bIf_false,if_neg (by decide)]
        exact hold_J4 list hl U hU hUn H s d m (k+1) _ (by omega) (by omega) (by omega)
    · rw[decide_eq_false (show ¬ (k:Int)<((list.length:Nat):Int) by omega),bIf_false,List.drop_eq_nil_of_le (by omega),List.filter_nil,List.append_nil]
theorem lawHolders (h3:300≤n)(hn:n≤4194304){s:D_api_State}(hs:CoS n s){d list:List Int}(hd:d.length=32)(hl:list.length<n):F_law16_CountHolders.f n s d list=some (true,()):=by
  have hul:=uses_len hs
  rw[F_law16_CountHolders.e0,ref16_Uses h3 hn hs,bnd_some]
  have h1:=hold_J1 (n:=n) list (usesOf s) (by omega) s hd (uses_dig hn hs) n 0 [] (by omega) (by omega) (Nat.le_refl _)
  rw[show ((0:Nat):Int)=0 from rfl,List.drop_zero,List.nil_append]at h1
  have hhl:=held_len (usesOf s) d
  rw[h1,F_law16_CountHolders.e3]
  have h4:=hold_J4 (n:=n) list (by omega) (usesOf s) (by omega) hul (heldL (usesOf s) d) s d n 0 [] (by omega) (by omega) (Nat.le_refl _)
  rw[show ((0:Nat):Int)=0 from rfl,List.drop_zero,List.nil_append]at h4
  rw[h4,F_law16_CountHolders.e9]
  have ha:F_law16_awake.f=some (true,()):=rfl
  rw[ha,bnd_some]
  dsimp only
  rw[bIf_true,count_Holders h3 hn hs,bnd_some]
  dsimp only
  rw[numbers_self (by omega) (by omega),bnd_some]
  dsimp only
  rw[bIf_true,count_Orphans h3 hn hs hl,bnd_some]
  dsimp only
  have e:list.filter (λx=>!has x (usesOf s))=freeL (saysOf s) list:=by
    unfold freeL
    congr 1
    funext x
    rw[has_uses]
  have hf:(freeL (saysOf s) list).length≤list.length:=List.length_filter_le _ _
  rw[e,numbers_self (by omega) (by omega),bnd_some]
end
end Go.Proofs.YtemhlkdingkjnaaGreatDoor
namespace Go.Proofs.YtemhlkdingkjnaaGreatDoor
open Go Go.Va Go.Proofs Go.ChangeShapes Go.WideShapes Go.ChangeAt Go.RowKit
theorem lenI_of {l:List Int}(h:vol (.slice (.int .u64)) l<2097152):l.length<2097152:=by
  have h1:=vol_len (e := .int .u64) (l:=l) (λ_ _=>Nat.le_refl _)
  have h:(l.map (vol (.int .u64))).sum+1<2097152:=h
  omega
def zG:Array Value := #[Value.int IntKind.u8 0,Value.int IntKind.u8 0,Value.int IntKind.u8 0,Value.int IntKind.u8 0,Value.int IntKind.u8 0,Value.int IntKind.u8 0,Value.int IntKind.u8 0,Value.int IntKind.u8 0,Value.int IntKind.u8 0,Value.int IntKind.u8 0,Value.int IntKind.u8 0,Value.int IntKind.u8 0,Value.int IntKind.u8 0,Value.int IntKind.u8 0,Value.int IntKind.u8 0,Value.int IntKind.u8 0,Value.int IntKind.u8 0,Value.int IntKind.u8 0,Value.int IntKind.u8 0,Value.int IntKind.u8 0,Value.int IntKind.u8 0,Value.int IntKind.u8 0,Value.int IntKind.u8 0,Value.int IntKind.u8 0,Value.int IntKind.u8 0,Value.int IntKind.u8 0,Value.int IntKind.u8 0,Value.int IntKind.u8 0,Value.int IntKind.u8 0,Value.int IntKind.u8 0,Value.int IntKind.u8 0,Value.int IntKind.u8 0]
def dG {H:Type}:DataW H := .agg (List.replicate 32 (.lit (.int .u8 0)))
end Go.Proofs.YtemhlkdingkjnaaGreatDoor
