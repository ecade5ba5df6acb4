/-
  Va, part 19: rows and values built of parts; made rows; calls; all operations.
-/
import Derived.Test.YtemhlkdingkjnaaGreatDoorVaOps9
set_option linter.unusedVariables false
set_option linter.unusedSimpArgs false
namespace Go.Va
open Go
section
variable {P:Program} {c:Cfg} {o:Oper} {op:Operand→AV} {look:Nat→Ent} {R:Type} {k:Kont R} {r:R}
theorem map_mod (Z:Array Value)(hZ:0<Z.size):∀ m,(List.range (m*Z.size)).map (λi=>Z[i%Z.size]!)=(List.replicate m Z.toList).flatten
  | 0=>by simp
  | m + 1=>by
    rw[List.replicate_succ',List.flatten_append,← map_mod Z hZ m,Nat.succ_mul,List.range_add,List.map_append]
    congr 1
    simp only[List.flatten_cons,List.flatten_nil,List.append_nil,List.map_map]
    apply List.ext_getElem
    · simp
    · intro i h1 h2
      simp at h1
      have hm:(m*Z.size+i)%Z.size=i:=by rw[Nat.mul_comm,Nat.mul_add_mod,Nat.mod_eq_of_lt h1]
      have hp:i%Z.size<Z.size:=Nat.mod_lt _ hZ
      simp[hm,h1]
theorem post_make [Gl] {t u:TypeId} {ee:Ty} {i:TypeInfo} {eb q:Nat} {l m:Operand} {ρ:Operand→Value} {P0 S0:Nat→Prop} {E:Env} {w:World} {li mi:Int} (ho:o.op = .makeSlice t l m)
    (hu:P.underlying t=some (.slice u)) (huT:TyIs P ee u) (hi:P.info? u=some i) (hib:i.bytes=eb) (h1:ρ l = .int .i64 li) (h2:ρ m = .int .i64 mi)
    (hb1:0≤li) (hb2:li≤mi) (hb3:mi*(eb:Int)≤70368744177664) (hb4:1≤eb) (hb5:1≤ee.sz) (hh:HREL P0 S0 E look w) (hq:look q = .un) :
    Runs P o ρ w (OpPost P0 S0 E look w (.ow q ee none) [(q,.live (.row ee (List.replicate li.toNat (dflt ee))))]):=by
  have hle:mi≤70368744177664:=by
    have:mi*1≤mi*(eb:Int):=Int.mul_le_mul_of_nonneg_left (by omega) (by omega)
    omega
  have hwl:IntKind.i64.wrap li=li:=IntWalk.i64_in _ (by omega)
  have hwm:IntKind.i64.wrap mi=mi:=IntWalk.i64_in _ (by omega)
  obtain⟨z,z1,z2,_⟩:=run_zero (P:=P) (w:=w) huT
  have hzs:z.cells.size=ee.sz:=by
    have:=Rd.length (λ_=>True) w ee (Va.dflt ee) (zc ee) (Rd.dflt _ _ _)
    rw[← Array.length_toList,z2,this]
  let Z:Array Value:=if mi.toNat*ee.sz=0 then #[] else z.cells
  let cells:Array Value:=(Array.range (mi.toNat*ee.sz)).map (Z[· % Z.size]!)
  have hcl:cells.toList=(List.replicate mi.toNat (zc ee)).flatten:=by
    by_cases h0:mi.toNat*ee.sz=0
    · have:mi.toNat=0:=by
        rcases Nat.mul_eq_zero.1 h0 with h | h
        · exact h
        · omega
      simp[cells,this]
    · have hZ:Z=z.cells:=if_neg h0
      have hpos:0<z.cells.size:=by rw[hzs];omega
      simp only[cells,hZ,Array.toList_map,Array.toList_range]
      rw[← hzs,map_mod z.cells hpos,z2]
  have hlm:li.toNat≤mi.toNat:=by omega
  have hsplit:(List.replicate mi.toNat (zc ee)).flatten=(List.replicate li.toNat (zc ee)).flatten++(List.replicate (mi.toNat-li.toNat) (zc ee)).flatten:=by
    rw[← List.flatten_append,List.replicate_append_replicate,Nat.add_sub_cancel' hlm]
  have hc1:(decide (mi<0)||decide (((i.bytes:Nat):Int)*mi>2 ^ 48))=false:=by
    rw[Bool.or_eq_false_iff]
    refine⟨decide_eq_false (by omega),decide_eq_false ?_⟩
    have q2:((i.bytes:Nat):Int)*mi=mi*(eb:Int):=by rw[hib,Int.mul_comm]
    have:(70368744177664:Int)≤2 ^ 48:=by decide
    omega
  have hc2:(decide (li<0)=false):=decide_eq_false (by omega)
  have hc3:(decide (li>mi)=false):=decide_eq_false (by omega)
  have hrun:(execOp ρ o).run P w = .ok (.value (.slice (some ⟨w.heap.size,0,none⟩) li.toNat mi.toNat)) { w with heap:=w.heap.push (.cells cells u) }:=by
    unfold execOp;rw[ho]
    unfold Instr.makeSlice
    simp only[Sem.run_bind,run_underlying hu,Result.andThen_ok,h1,h2,asInt,asIntOf,Sem.run_pure,run_typeInfo hi,hwl,hwm]
    simp only[hc1,hc2,hc3,Bool.or_self,Bool.false_eq_true,if_false,Sem.run_bind,run_askRoom,Result.andThen_ok,run_sizeOf huT]
    by_cases h0:mi.toNat*ee.sz=0
    · simp only[h0,Sem.run_pure,Result.andThen_ok,newRow,Sem.run_bind,run_newObj,cells,Z,if_pos]
    · simp only[if_neg h0,Sem.run_bind,z1,Sem.run_pure,Result.andThen_ok,newRow,run_newObj,cells,Z]
  refine .inl ⟨_,_,hrun,?_⟩
  have hp:=post_row (q:=q) (e:=ee) (l:=List.replicate li.toNat (dflt ee)) (cells:=cells) (c1:=(List.replicate li.toNat (zc ee)).flatten) (c2:=(List.replicate (mi.toNat-li.toNat) (zc ee)).flatten) (t:=u) (fr:=(0,0)) (cap:=mi.toNat)
    hh hq (RdL.replicate (Rd.dflt _ _ _) _) (by rw[hcl,hsplit]) (.push _ _) (NoFr.zero _) (Nat.le_refl _) (push_at w _) (by simpa using hlm) (by simp[cells])
  simp only[List.length_replicate]at hp
  exact hp
theorem ok_makeSlice [Gl] {t:TypeId} {l m:Operand} (hT:TabOk P c.tab) (ho:o.op = .makeSlice t l m) (h:aOp c o op look k=some r):∃ v RN WN,k v RN WN=some r∧Ok P c o op look v RN WN:=by
  have e:∀ (look:Nat→Ent) (R:Type) (k:Kont R),aOp c o op look k=match findT c.tab t with
    | some ⟨.slice e,eb⟩=>match op l,op m with
      | .data (.int .i64) l,.data (.int .i64) m=>if 0≤l∧l≤m∧m*eb≤70368744177664∧1≤eb∧1≤e.sz then
          fresh look o.dst λq=>k (.ow q e none) [] [(q,.live (.row e (List.replicate l.toNat (dflt e))))] else none
      | _,_=>none
    | _=>none:=by
    intro look R k;unfold aOp;rw[ho];rfl
  rw[e]at h
  split at h
  · rename_i ee eb ht
    obtain⟨htT,hel⟩:=hT t _ ht
    obtain⟨u,i,hu,huT,hi,hib⟩:=hel ee rfl
    simp only at hib
    split at h
    · rename_i lv mv hl hm
      split at h
      · rename_i hb
        obtain⟨hb1,hb2,hb3,hb4,hb5⟩:=hb
        obtain⟨q,hd,hq,h⟩:=ydZ h
        refine⟨_,_,_,h,⟨λP0 S0 E w ρ hh hv => ?_,λlook' hk R' k' => ?_⟩⟩
        · have h1:=hv l;rw[hl,V_int]at h1
          have h2:=hv m;rw[hm,V_int]at h2
          exact post_make ho hu huT hi hib h1 h2 hb1 hb2 hb3 hb4 hb5 hh hq
        · rw[e,ht]
          simp only[hl,hm,if_pos (show 0≤lv∧lv≤mv∧mv*eb≤70368744177664∧1≤eb∧1≤ee.sz from ⟨hb1,hb2,hb3,hb4,hb5⟩)]
          exact fresh_eq hd ((hk q (.inr (by simp))).trans hq)
      · exact absurd h (by simp)
    · exact absurd h (by simp)
  · exact absurd h (by simp)
end
end Go.Va
