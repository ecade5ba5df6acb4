/-
  Co, part 8b: made slices; copy; clear.
-/
import Derived.Test.YtemhlkdingkjnaaGreatDoorCoApp
set_option linter.unusedVariables false
set_option linter.unusedSimpArgs false
namespace Go.Co
open Go
open Go.Va (Grow getAt setAt NoFr Ty TE findT TabOk TyIs zc ybl Wr At Keep Gl)
theorem zc_len [Gl](e:Ty):(zc e).length=e.sz:=Va.Rd.length (λ_=>True) default e (Va.dflt e) (zc e) (Va.Rd.dflt _ _ _)
section
variable {R:Type} (tab:List (Nat×TE)) (h:Hs) (k:AV→Hs→Option R)
def cMakeSlice (t:TypeId) (l m:AV):Option R:=match findT tab t with
  | some te=>match te.T,l,m with
    | .slice e,.val (.int .i64 l),.val (.int .i64 m)=>match decide (0≤l∧l≤m∧m*te.bytes≤70368744177664∧1≤te.bytes∧1≤e.sz) with
      | true=>newE h (.cells (valA (List.replicate m.toNat (zc e)).flatten)) λq h=>ybL (.sl q 0 l.toNat m.toNat e.sz true) λv=>k v h
      | false=>none
    | _,_,_=>none
  | none=>none
def bytesV (s:ByteArray):List Value:=s.data.toList.map λb => .int .u8 b.toNat
def cConv (s d:TypeId) (x:AV):Option R:=match findT tab s,findT tab d with
  | some _,some te=>match te.T,x with
    | .slice (.int .u8),.val (.string st)=>newE h (.cells (valA (bytesV st))) λq h=>ybL (.sl q 0 st.size st.size 1 false) λv=>k v h
    | .slice (.int .u8),.sl r off len lo esz ex=>match Nat.beq s d,h.H.get r with
      | true,.cells l=>putE h r (.cells l) h.nx [] λh=>k (.sl r off len lo esz ex) h
      | _,_=>none
    | _,_=>none
  | _,_=>none
def cCopy (t:TypeId) (d s:AV):Option R:=match findT tab t with
  | some te=>match te.T,d with
    | .slice e,.sl r off len _ esz _=>match Nat.beq esz e.sz,srcA h e.sz s (some len),h.H.get r with
      | true,some (l2,n,rs),.cells l=>match putA l off l2 with
        | some l'=>putE h r (.cells l') h.nx rs λh=>ybL (.val (.int .i64 (min n len:Nat))) λv=>k v h
        | none=>none
      | _,_,_=>none
    | _,_=>none
  | none=>none
end
section
variable {P:Program} {R:Type} {r:R} {tab:List (Nat×TE)} {o:Oper} {ev:Operand→AV} {h:Hs} {k:AV→Hs→Option R}
theorem ok_makeSlice [Gl] {t:TypeId} {l m:Operand} (hT:TabOk P tab) (ho:o.op = .makeSlice t l m) (hk:cMakeSlice tab h k t (ev l) (ev m)=some r):∃ v h',k v h'=some r∧SOk P o ev h v h':=by
  unfold cMakeSlice at hk
  split at hk
  · rename_i te ht
    obtain⟨htT,hel⟩:=hT t te ht
    split at hk
    · rename_i e li mi hTe hl hm
      obtain⟨u,i,hu,huT,hi,hib⟩:=hel e hTe
      split at hk
      · rename_i hb
        obtain⟨hb1,hb2,hb3,hb4,hb5⟩:=of_decide_eq_true hb
        obtain⟨hun,hk⟩:=newE_some hk
        rw[yba]at hk
        refine⟨_,_,hk,SOk.put (λP0 E look w ρ hh hq _ hv => ?_)⟩
        have h1:=hv l (opnd ho (by simp[Op.operands]))
        rw[hl]at h1
        have h1:ρ l = .int .i64 li:=V_val.1 h1
        have h2:=hv m (opnd ho (by simp[Op.operands]))
        rw[hm]at h2
        have h2:ρ m = .int .i64 mi:=V_val.1 h2
        have hle:mi≤70368744177664:=by
          have:mi*1≤mi*(te.bytes:Int):=Int.mul_le_mul_of_nonneg_left (by omega) (by omega)
          omega
        have hwl:IntKind.i64.wrap li=li:=IntWalk.i64_in _ (by omega)
        have hwm:IntKind.i64.wrap mi=mi:=IntWalk.i64_in _ (by omega)
        obtain⟨z,z1,z2,_⟩:=Va.run_zero (P:=P) (w:=w) huT
        have hzs:z.cells.size=e.sz:=by rw[← Array.length_toList,z2,zc_len]
        let Z:Array Value:=if mi.toNat*e.sz=0 then #[] else z.cells
        let cells:Array Value:=(Array.range (mi.toNat*e.sz)).map (Z[· % Z.size]!)
        have hcl:cells.toList=(List.replicate mi.toNat (zc e)).flatten:=by
          by_cases h0:mi.toNat*e.sz=0
          · have:mi.toNat=0:=by
              rcases Nat.mul_eq_zero.1 h0 with h | h
              · exact h
              · omega
            simp[cells,this]
          · have hZ:Z=z.cells:=if_neg h0
            have hpos:0<z.cells.size:=by rw[hzs];omega
            simp only[cells,hZ,Array.toList_map,Array.toList_range]
            rw[← hzs,Va.map_mod z.cells hpos,z2]
        have hc1:(decide (mi<0)||decide (((i.bytes:Nat):Int)*mi>2 ^ 48))=false:=by
          rw[Bool.or_eq_false_iff]
          refine⟨decide_eq_false (by omega),decide_eq_false ?_⟩
          have q2:((i.bytes:Nat):Int)*mi=mi*(te.bytes:Int):=by rw[hib,Int.mul_comm]
          have:(70368744177664:Int)≤2 ^ 48:=by decide
          omega
        have hc2:(decide (li<0)=false):=decide_eq_false (by omega)
        have hc3:(decide (li>mi)=false):=decide_eq_false (by omega)
        have hrun:(execOp ρ o).run P w = .ok (.value (.slice (some ⟨w.heap.size,0,none⟩) li.toNat mi.toNat)) { w with heap:=w.heap.push (.cells cells u) }:=by
          unfold execOp;rw[ho]
          unfold Instr.makeSlice
          simp only[Sem.run_bind,Va.run_underlying hu,Result.andThen_ok,h1,h2,asInt,asIntOf,Sem.run_pure,Va.run_typeInfo hi,hwl,hwm]
          simp only[hc1,hc2,hc3,Bool.or_self,Bool.false_eq_true,if_false,Sem.run_bind,run_askRoom,Result.andThen_ok,Va.run_sizeOf huT]
          by_cases h0:mi.toNat*e.sz=0
          · simp only[h0,Sem.run_pure,Result.andThen_ok,newRow,Sem.run_bind,run_newObj,cells,Z,if_pos]
          · simp only[if_neg h0,Sem.run_bind,z1,Sem.run_pure,Result.andThen_ok,newRow,run_newObj,cells,Z]
        refine .inl ⟨_,_,hrun,?_⟩
        exact post_new (cs:=cells) (t:=u) (c1:=(List.replicate mi.toNat (zc e)).flatten) (c2:=[]) hh (hq.trans hun) (growPush _ _) (by simp) (by rw[hcl];simp) (C_valA _)
          (λE' _ hE=>⟨_,_,mi.toNat,hE,rfl,by omega,Nat.le_refl _,λ_=>rfl,by simp[cells]⟩)
      · exact nomatch hk
    · exact nomatch hk
  · exact nomatch hk
theorem ok_conv {s d:TypeId} {x:Operand} (hT:TabOk P tab) (ho:o.op = .convert s d x) (hk:cConv tab h k s d (ev x)=some r):∃ v h',k v h'=some r∧SOk P o ev h v h':=by
  unfold cConv at hk
  split at hk
  · rename_i ts te hts hte
    obtain⟨htsT,_⟩:=hT _ _ hts
    obtain⟨hteT,_⟩:=hT _ _ hte
    obtain⟨ds,hds⟩:=Va.und htsT
    split at hk
    · rename_i st hTe hx
      rw[hTe]at hteT
      obtain⟨⟨u,hu,huT⟩,_⟩:=hteT
      obtain⟨hun,hk⟩:=newE_some hk
      rw[yba]at hk
      refine⟨_,_,hk,SOk.put (λP0 E look w ρ hh hq _ hv => ?_)⟩
      have h1:=hv x (opnd ho (by simp[Op.operands]))
      rw[hx]at h1
      have h1:ρ x = .string st:=V_val.1 h1
      obtain⟨cap,hcap,hcapq⟩:∃ cap,ByteArray.size st≤cap∧(Question.appendCap (ByteArray.size st) 0 u).cut (w.tape w.drawn (.appendCap (ByteArray.size st) 0 u))=cap:=
        ⟨_,by simp[Question.cut],rfl⟩
      let cells:Array Value:=(st.data.map λb=>Value.int .u8 b.toNat)++Array.replicate (cap-ByteArray.size st) (.int .u8 0)
      have hsz:cells.size=cap:=by simp[cells];change ByteArray.size st+_=_;omega
      let w1:World:={ w with drawn:=w.drawn+1,heap:=w.heap.push (.cells cells u) }
      let w2:World:=w1.freeze ⟨w.heap.size,cells.size,none⟩ 1
      have hw2:w2.heap[w.heap.size]?=some (.cells cells u (cells.size,cells.size+1)):=by
        simp only[w2,World.freeze,if_neg (show ¬ (1=0) by omega),Array.getElem?_modify]
        simp[w1]
      have hgrow:Grow w w2:=by
        refine⟨rfl,rfl,rfl,by simp[w2,w1,World.freeze],λb hb => ?_⟩
        simp only[w2,World.freeze,if_neg (show ¬ (1=0) by omega),Array.getElem?_modify]
        rw[if_neg (by omega)]
        simp only[w1,Array.getElem?_push]
        rw[if_neg (by omega)]
      have hrun:(execOp ρ o).run P w = .ok (.value (.slice (some ⟨w.heap.size,0,none⟩) (ByteArray.size st) cap)) w2:=by
        refine Va.conv_run ho ?_
        rw[h1]
        unfold convert
        simp only[Sem.run_bind,Va.run_underlying hds,Va.run_underlying hu,Result.andThen_ok]
        have hgoal:(Conv.stringToBytes u st).run P w = .ok (.slice (some ⟨w.heap.size,0,none⟩) (ByteArray.size st) cap) w2:=by
          unfold Conv.stringToBytes
          simp only[Sem.run_bind,run_choose,Question.forced,Bool.false_eq_true,if_false,Result.andThen_ok,hcapq]
          simp only[newRow,Sem.run_bind,run_newObj,Result.andThen_ok,Sem.run_pure,markStringish,run_shape]
          have hshape:World.shape? { w with drawn:=w.drawn+1,heap:=w.heap.push (.cells cells u) } w.heap.size=some (u,cells.size):=by
            simp[World.shape?]
          simp only[cells]at hshape
          simp only[hshape,run_freeze,Result.andThen_ok]
          rfl
        cases ds<;>(simp only[Va.run_underlying huT.1,Result.andThen_ok];exact hgoal)
      refine .inl ⟨_,w2,hrun,?_⟩
      exact post_newF (cs:=cells) (t:=u) (c1:=bytesV st) (c2:=List.replicate (cap-ByteArray.size st) (.int .u8 0)) hh (hq.trans hun) hgrow hw2 (.inr (Nat.le_refl _)) (by simp[cells,bytesV]) (C_valA _)
        (λE' _ hE=>⟨_,_,cap,hE,rfl,Nat.le_refl _,hcap,λe=>(nomatch e),by rw[hsz];omega⟩)
    · rename_i q off len lo esz ex hTe hx
      rw[hTe]at hteT
      obtain⟨⟨u,hu,huT⟩,_⟩:=hteT
      split at hk
      · rename_i l hsd hl
        have hsd:=Nat.eq_of_beq_eq_true hsd
        subst hsd
        rw[putE_eq]at hk
        refine⟨_,_,hk,SOk.put (λP0 E look w ρ hh hq _ hv => ?_)⟩
        have h1:=hv x (opnd ho (by simp[Op.operands]))
        rw[hx]at h1
        obtain⟨b,n,c,d1,d2,d3,d4,d5,d6⟩:=h1
        have h1:V E (.sl q off len lo esz ex) (ρ x):=⟨b,n,c,d1,d2,d3,d4,d5,d6⟩
        injection d2 with d2 _
        obtain⟨b',n',cs,t',⟨flo,fhi⟩,e1,e2,e3,e4,c1,c2,e5,e6⟩:=ent_cells hh (hq.trans hl)
        rw[d1]at e1;injection e1 with e1;injection e1 with e1 e1'; subst e1 e1'
        let w2:World:=w.freeze ⟨b,cs.size,none⟩ 1
        have hwr:Wr w w2 b:=by
          refine⟨rfl,rfl,rfl,rfl,by simp[w2,World.freeze],λk hk => ?_⟩
          simp only[w2,World.freeze,if_neg (show ¬ (1=0) by omega),Array.getElem?_modify]
          rw[if_neg (λhh=>hk hh.symm)]
        have hw2:w2.heap[b]?=some (.cells cs t' (if flo==fhi then (cs.size,cs.size+1) else (min flo cs.size,max fhi (cs.size+1)))):=by
          simp only[w2,World.freeze,if_neg (show ¬ (1=0) by omega),Array.getElem?_modify]
          simp[e2]
        have hrun:(execOp ρ o).run P w = .ok (.value (ρ x)) w2:=by
          refine Va.conv_run ho ?_
          rw[d2]
          unfold convert
          simp only[Sem.run_bind,Va.run_underlying hu,Result.andThen_ok]
          simp only[beq_self_eq_true,Sem.run_bind,Va.run_underlying huT.1,Result.andThen_ok,markStringish,run_shape]
          have hshape:World.shape? w b=some (t',cs.size):=by simp[World.shape?,e2]
          simp only[hshape,run_freeze,Result.andThen_ok,Sem.run_pure]
          rfl
        obtain⟨m1,m2⟩:=HREL.set (P0:=P0) hh (by rw[hq.trans hl];rfl) d1 hwr (e := .cells l) ⟨b,n,cs,t',_,d1,hw2,Va.NoFr.mark e3,e4,c1,c2,e5,e6⟩ (.inl rfl)
        exact .inl ⟨_,w2,hrun,E,m1,m2,h1⟩
      · exact nomatch hk
    · exact nomatch hk
  · exact nomatch hk
theorem ok_copy [Gl] {q:Call} {t t2:TypeId} {x x':Operand} (hT:TabOk P tab) (ho:o.op = .call q) (hq:q.callee = .builtin .copy) (ha:q.args.toList=[x,x']) (hts:q.argTypes.toList=[t,t2])
    (hk:cCopy tab h k t (ev x) (ev x')=some r):∃ v h',k v h'=some r∧SOk P o ev h v h':=by
  have hmem:∀ y,(y=x∨y=x')→y∈o.op.operands.toList:=λy hy=>opnd ho (by
    simp only[Op.operands,Call.operands,Array.toList_append,List.mem_append,ha]
    rcases hy with rfl | rfl<;>simp)
  have hargs:q.args = #[x,x']:=by apply Array.toList_inj.1;exact ha
  have hts':q.argTypes = #[t,t2]:=by apply Array.toList_inj.1;exact hts
  unfold cCopy at hk
  split at hk
  · rename_i te ht
    obtain⟨htT,_⟩:=hT t te ht
    split at hk
    · rename_i e q0 off len lo esz ex hTe hx
      rw[hTe]at htT
      obtain⟨⟨u,hu,huT⟩,_⟩:=htT
      split at hk
      · rename_i l2 n rs l hes hsrc hl0
        have hes:=Nat.eq_of_beq_eq_true hes
        subst hes
        split at hk
        · rename_i l' hp
          rw[putE_eq,yba]at hk
          refine⟨_,_,hk,SOk.put (λP0 E look w ρ hh hq0 hl hv => ?_)⟩
          obtain⟨cs,s1,s2,s3,s4,s5⟩:=src_ok (P:=P) hsrc hh hl (hv x' (hmem x' (.inr rfl)))
          have hxv:=hv x (hmem x (.inl rfl))
          rw[hx]at hxv
          obtain⟨b,m,c,d1,d2,d3,d4,d5,d6⟩:=hxv
          injection d2 with d2 _
          obtain⟨w',k1,k2,k3⟩:=store_cells (P:=P) hh (hq0.trans hl0) d1 hp s3 s1
          refine .inl ⟨.int .i64 (min n len:Nat),w',Va.exec_builtin ho hq ?_,E,k2,k3,rfl⟩
          rw[hts',hargs]
          have s5':=s5 w (λ_ _=>rfl)
          have hmin:Nat.min n len=minO n (some len):=rfl
          simp only[builtin,Sem.run_bind,Builtin.copy_]
          simp[d2,Va.run_underlying hu,Va.run_sizeOf huT,s4,hmin,s5',k1,goInt]
        · exact nomatch hk
      · exact nomatch hk
    · exact nomatch hk
  · exact nomatch hk
end
end Go.Co
