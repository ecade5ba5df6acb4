/-
  Co, part 6: variables: made, read, written; places in them.
-/
import Derived.Test.YtemhlkdingkjnaaGreatDoorCoPure
set_option linter.unusedVariables false
set_option linter.unusedSimpArgs false
namespace Go.Co
open Go
open Go.Va (Grow getAt setAt NoFr Ty TE findT TabOk TyIs zc ybl Wr At Keep tyT offT Gl)
theorem opnd {o:Oper}{x:Operand}{op:Op}(ho:o.op=op)(h:x∈op.operands.toList):x∈o.op.operands.toList:=by rw[ho];exact h
theorem post_newF {P0:Nat→Prop}{E:Env}{look:Nat→Ent}{w w':World}{q:Nat}{l:AV}{cs:Array Value}{t:TypeId}{fr:Nat×Nat}{c1 c2:List Value}{v:AV}{x:Value}(hh:HREL P0 E look w)(hq:look q = .un)
    (g:Grow w w') (hb:w'.heap[w.heap.size]?=some (.cells cs t fr)) (hfr:NoFr cs.size fr) (hcs:cs.toList=c1++c2) (hc:C E l c1)
    (hv:∀ E',(∀ r y,E r=some y→E' r=some y)→E' q=some (w.heap.size,cs.size)→V E' v x):Post P0 E look w v [(q,.cells l)] x w':=by
  have hEq:E q=none:=by have:=hh.ent q;rw[hq]at this;exact this
  obtain⟨g1,g2⟩:=HREL.new (q:=q) (n:=cs.size) (e := .cells l) hh hq g (lt_of_some hb) ⟨w.heap.size,cs.size,cs,t,fr,if_pos rfl,hb,hfr,rfl,c1,c2,hcs,C.ext (upE_sub hEq) _ _ hc⟩
  exact⟨_,g1,g2,hv _ g2.sub (if_pos rfl)⟩
theorem post_new {P0:Nat→Prop}{E:Env}{look:Nat→Ent}{w w':World}{q:Nat}{l:AV}{cs:Array Value}{t:TypeId}{c1 c2:List Value}{v:AV}{x:Value}(hh:HREL P0 E look w)(hq:look q = .un)
    (g:Grow w w') (hb:w'.heap[w.heap.size]?=some (.cells cs t (0,0))) (hcs:cs.toList=c1++c2) (hc:C E l c1)
    (hv:∀ E',(∀ r y,E r=some y→E' r=some y)→E' q=some (w.heap.size,cs.size)→V E' v x):Post P0 E look w v [(q,.cells l)] x w':=
  post_newF hh hq g hb (.inl rfl) hcs hc hv
theorem growPush (w:World)(o:Obj):Grow w { w with heap:=w.heap.push o }:=⟨rfl,rfl,rfl,by simp,λb hb=>by
  show (w.heap.push o)[b]?=_
  rw[Array.getElem?_push,if_neg (by omega)]⟩
theorem ent_cells {P0:Nat→Prop}{E:Env}{look:Nat→Ent}{w:World}{r:Nat}{l:AV}(hh:HREL P0 E look w)(hl:look r = .cells l) :
    ∃ b n cs t fr,E r=some (b,n)∧w.heap[b]?=some (.cells cs t fr)∧NoFr cs.size fr∧cs.size=n∧∃ c1 c2,cs.toList=c1++c2∧C E l c1:=by
  have:=hh.ent r;rw[hl]at this;exact this
theorem part_at {E:Env}{w:World}{b off n:Nat}{cs:Array Value}{t:TypeId}{fr:Nat×Nat}{l l1 l2:AV}{c1 c2:List Value}(h1:w.heap[b]?=some (.cells cs t fr))(h2:cs.toList=c1++c2)(hc:C E l c1)
    (h3:skip l off=some l1) (h4:takeA l1 n=some l2):C E l2 ((c1.drop off).take n)∧((c1.drop off).take n).length=n∧off+n≤c1.length∧At w ⟨b,off,none⟩ ((c1.drop off).take n)∧isL l2=true:=by
  obtain⟨g1,g2⟩:=C_skip l off l1 c1 h3 hc
  obtain⟨g3,g4,g5⟩:=C_take l1 n l2 _ h4 g1
  rw[List.length_drop]at g4
  refine⟨g3,by rw[List.length_take,List.length_drop];omega,by omega,⟨rfl,λj hj => ?_⟩,g5⟩
  rw[List.length_take,List.length_drop]at hj
  unfold World.cell?
  simp only[h1,Option.isSome_none,Bool.false_eq_true,if_false]
  rw[← Array.getElem?_toList,h2,List.getElem?_append_left (by omega)]
  rw[List.getElem?_eq_getElem (by omega)]
  simp
section
variable {R:Type} (P:Program) (tab:List (Nat×TE)) (h:Hs) (k:AV→Hs→Option R)
def cAlloc (t:TypeId):Option R:=match findT tab t with
  | some te=>newE h (.cells (valA (zc te.T))) λq h=>k (.ptr q 0) h
  | none=>none
def cBox (v:AV):Option R:=match allOne (cellsA v) with
  | true=>newE h (.cells (cellsA v)) λq h=>k (.ptr q 0) h
  | false=>none
def cLoad (t:TypeId) (a:AV):Option R:=match findT tab t with
  | some te => match a with
    | .ptr r off=>match h.H.get r with
      | .cells l=>match skip l off with
        | some l1=>match takeA l1 te.T.sz with
          | some l2=>match ofA te.T l2 with
            | some v=>ybL v λv=>k v ⟨h.H,h.nx,r::h.rl,h.wl⟩
            | none=>none
          | none=>none
        | none=>none
      | _=>none
    | _=>none
  | none=>none
def cStore (t:TypeId) (a v:AV):Option R:=match findT tab t with
  | some te=>match a with
    | .ptr r off=>match h.H.get r with
      | .cells l=>match allOne (cellsA v)&&Nat.beq (lenA (cellsA v)) te.T.sz with
        | true=>match putA l off (cellsA v) with
          | some l'=>putE h r (.cells l') h.nx [] λh=>k .bad h
          | none=>none
        | false=>none
      | _=>none
    | _=>none
  | none=>none
def cFieldAddr (t:TypeId) (x:AV) (j:Nat):Option R:=match findT tab t with
  | some te=>match x,tyT te.T [.f j],offT te.T [.f j] with
    | .ptr r off,some T',some fo=>match Nat.beq T'.sz 0 with
      | true=>none
      | false=>forceN (off+fo) λz=>k (.ptr r z) h
    | _,_,_=>none
  | none=>none
def cField (t:TypeId) (x:AV) (j:Nat):Option R:=match findT tab t with
  | some te=>match x,tyT te.T [.f j],offT te.T [.f j] with
    | .agg l,some T',some fo=>match skip l fo with
      | some l1=>match takeA l1 T'.sz with
        | some l2=>match ofA T' l2 with
          | some v=>ybL v λv=>k v h
          | none=>none
        | none=>none
      | none=>none
    | _,_,_=>none
  | none=>none
def cIndexAddr (t:TypeId) (x i:AV):Option R:=match findT tab t with
  | some te=>match i with
    | .val (.int _ n)=>match te.T,x with
      | .slice e,.sl r off len _ esz _=>(match decide (0≤n∧n<(len:Int))&&Nat.beq esz e.sz with
        | true=>forceN (off+n.toNat*esz) λz=>k (.ptr r z) h
        | false=>none)
      | .arr m e,.ptr r off=>(match decide (0≤n∧n<(m:Int)) with
        | true=>forceN (off+n.toNat*e.sz) λz=>k (.ptr r z) h
        | false=>none)
      | _,_=>none
    | _=>none
  | none=>none
end
section
variable {P:Program} {R:Type} {r:R} {tab:List (Nat×TE)} {o:Oper} {ev:Operand→AV} {h:Hs} {k:AV→Hs→Option R}
theorem ok_alloc {t:TypeId}(hT:TabOk P tab)(ho:o.op = .alloc t)(hk:cAlloc tab h k t=some r):∃ v h',k v h'=some r∧SOk P o ev h v h':=by
  unfold cAlloc at hk
  split at hk
  · rename_i te ht
    obtain⟨htT,_⟩:=hT t te ht
    obtain⟨hu,hk⟩:=newE_some hk
    refine⟨_,_,hk,SOk.put (λP0 E look w ρ hh hq _ hv => ?_)⟩
    obtain⟨z,z1,z2,_⟩:=Va.run_zero (P:=P) (w:=w) htT
    refine .inl ⟨.pointer (some ⟨w.heap.size,0,none⟩),{ w with heap:=w.heap.push (.cells z.cells t) },?_,?_⟩
    · unfold execOp;rw[ho]
      simp only[Instr.alloc,Sem.run_bind,z1,Result.andThen_ok,newVar,newRow,run_newObj,Sem.run_pure]
    · refine post_new (cs:=z.cells) (t:=t) (c1:=z.cells.toList) (c2:=[]) hh (hq.trans hu) (growPush _ _) (by simp) (by simp) (by rw[z2];exact C_valA _) (λE' _ hE=>⟨_,_,hE,rfl⟩)
  · exact nomatch hk
theorem ok_box {t:TypeId}{x:Operand}(ho:o.op = .box t x)(hk:cBox h k (ev x)=some r):∃ v h',k v h'=some r∧SOk P o ev h v h':=by
  unfold cBox at hk
  split at hk
  · rename_i ha
    obtain⟨hu,hk⟩:=newE_some hk
    refine⟨_,_,hk,SOk.put (λP0 E look w ρ hh hq _ hv => ?_)⟩
    have hx:=hv x (opnd ho (by simp[Op.operands]))
    refine .inl ⟨.pointer (some ⟨w.heap.size,0,none⟩),{ w with heap:=w.heap.push (.cells (ρ x).cells t) },?_,?_⟩
    · unfold execOp;rw[ho]
      simp only[Instr.box,Sem.run_bind,Result.andThen_ok,newVar,newRow,run_newObj,Sem.run_pure]
    · exact post_new (cs:=(ρ x).cells) (t:=t) (c1:=(ρ x).cells.toList) (c2:=[]) hh (hq.trans hu) (growPush _ _) (by simp) (by simp) (C_cellsA hx ha) (λE' _ hE=>⟨_,_,hE,rfl⟩)
  · exact nomatch hk
theorem ok_load {t:TypeId} {x:Operand} (hT:TabOk P tab) (ho:o.op = .load t x) (hk:cLoad tab h k t (ev x)=some r):∃ v h',k v h'=some r∧SOk P o ev h v h':=by
  unfold cLoad at hk
  split at hk
  · rename_i te ht
    obtain⟨htT,_⟩:=hT t te ht
    split at hk
    · rename_i q off hx
      split at hk
      · rename_i l hl
        split at hk
        · rename_i l1 h1
          split at hk
          · rename_i l2 h2
            split at hk
            · rename_i v hv2
              rw[yba]at hk
              refine⟨_,_,hk,SOk.read (λP0 E look w ρ hh hq hv => ?_)⟩
              have hxv:=hv x (opnd ho (by simp[Op.operands]))
              rw[hx]at hxv
              obtain⟨b,n,hE,he⟩:=hxv
              injection he with he _
              obtain⟨b',n',cs,t',fr,e1,e2,e3,e4,c1,c2,e5,e6⟩:=ent_cells hh (hq.trans hl)
              rw[hE]at e1;injection e1 with e1;injection e1 with e1 e1'; subst e1 e1'
              obtain⟨g1,g2,g3,g4,_⟩:=part_at e2 e5 e6 h1 h2
              refine⟨_,?_,V_ofA hv2 g1 g2⟩
              unfold execOp;rw[ho]
              simp only[Instr.loadAt,he,Instr.sureAddr,Sem.run_bind,Sem.run_pure,Result.andThen_ok,Va.run_loadVar htT g2 g4]
            · exact nomatch hk
          · exact nomatch hk
        · exact nomatch hk
      · exact nomatch hk
    · exact nomatch hk
  · exact nomatch hk
theorem store_cells {P0:Nat→Prop}{E:Env}{look:Nat→Ent}{w:World}{q b n off:Nat}{l m l':AV}{ms:List Value}(hh:HREL P0 E look w)(hl:look q = .cells l)(hE:E q=some (b,n))(hp:putA l off m=some l')
    (hm:allOne m=true) (hms:C E m ms):∃ w',(storeCells ⟨b,off,none⟩ ms).run P w = .ok () w'∧HREL P0 E (updL [(q,.cells l')] look) w'∧Ext P0 E w E w':=by
  obtain⟨b',n',cs,t',fr,e1,e2,e3,e4,c1,c2,e5,e6⟩:=ent_cells hh hl
  rw[hE]at e1;injection e1 with e1;injection e1 with e1 e1'; subst e1 e1'
  obtain⟨g1,g2⟩:=C_put hp (allOne_isL m hm) e6 hms
  have hcl:cs.toList.length=n:=by rw[Array.length_toList,e4]
  have hlen:c1.length≤cs.toList.length:=by rw[e5,List.length_append];omega
  obtain⟨w',k1,k2,k3⟩:=Va.run_storeCells (P:=P) ms 0 w b off cs.toList t' fr (by rw[Array.toArray_toList];exact e2) (by rw[Array.length_toList];exact e3) (by omega) (allOne_ok m ms hms hm)
  refine⟨w',k1,?_⟩
  refine HREL.set hh (by rw[hl];rfl) hE k2 ?_ (.inl rfl)
  refine⟨b,n,_,t',fr,hE,k3,?_,?_,c1.take off++ms++c1.drop (off+ms.length),c2,?_,g1⟩
  · rw[List.size_toArray,List.length_append,List.length_append,List.length_take,List.length_drop,Nat.add_zero]
    have:min off cs.toList.length+ms.length+(cs.toList.length-(off+ms.length))=cs.size:=by have h1:cs.toList.length=cs.size:=Array.length_toList;omega
    rw[this];exact e3
  · rw[List.size_toArray,List.length_append,List.length_append,List.length_take,List.length_drop,Nat.add_zero]
    omega
  · rw[e5,Nat.add_zero,List.take_append_of_le_length (by omega),List.drop_append_of_le_length g2]
    simp
theorem ok_store {t:TypeId} {a x:Operand} (hT:TabOk P tab) (ho:o.op = .store t a x) (hk:cStore tab h k t (ev a) (ev x)=some r):∃ v h',k v h'=some r∧SOk P o ev h v h':=by
  unfold cStore at hk
  split at hk
  · rename_i te ht
    obtain⟨htT,_⟩:=hT t te ht
    split at hk
    · rename_i q off hx
      split at hk
      · rename_i l hl
        split at hk
        · rename_i hb
          rw[Bool.and_eq_true]at hb
          split at hk
          · rename_i l' hp
            rw[putE_eq]at hk
            refine⟨_,_,hk,SOk.put (λP0 E look w ρ hh hq _ hv => ?_)⟩
            have hav:=hv a (opnd ho (by simp[Op.operands]))
            have hxv:=hv x (opnd ho (by simp[Op.operands]))
            rw[hx]at hav
            obtain⟨b,n,hE,he⟩:=hav
            injection he with he _
            have hm:=C_cellsA hxv hb.1
            obtain⟨w',k1,k2,k3⟩:=store_cells (P:=P) hh (hq.trans hl) hE hp hb.1 hm
            refine .inr (.inl ⟨w',?_,E,k2,k3,trivial⟩)
            have hsz:(ρ x).cells.size=te.T.sz:=by
              rw[← Array.length_toList,C_len _ _ (allOne_isL _ hb.1) hm];exact Nat.eq_of_beq_eq_true hb.2
            unfold execOp;rw[ho]
            simp only[Instr.storeAt,he,Instr.sureAddr,Sem.run_bind,Sem.run_pure,Result.andThen_ok,storeVar,Va.run_sizeOf htT,hsz,ne_eq,not_true_eq_false,if_false,k1]
          · exact nomatch hk
        · exact nomatch hk
      · exact nomatch hk
    · exact nomatch hk
  · exact nomatch hk
theorem ok_fieldAddr [Gl] {t:TypeId} {x:Operand} {j:Nat} (hT:TabOk P tab) (ho:o.op = .fieldAddr t x j) (hk:cFieldAddr tab h k t (ev x) j=some r):∃ v h',k v h'=some r∧SOk P o ev h v h':=by
  unfold cFieldAddr at hk
  split at hk
  · rename_i te ht
    obtain⟨htT,_⟩:=hT t te ht
    split at hk
    · rename_i q off T' fo hx hT' hfo
      split at hk
      · exact nomatch hk
      · rename_i hz
        rw[forceN_eq]at hk
        refine⟨_,_,hk,SOk.pure (λP0 E look w ρ hh hv => ?_)⟩
        have hxv:=hv x (opnd ho (by simp[Op.operands]))
        rw[hx]at hxv
        obtain⟨b,n,hE,he⟩:=hxv
        injection he with he _
        obtain⟨fs,f,fo',k1,k2,k3,k4,k5⟩:=Va.tyIs_struct htT hT'
        rw[hfo]at k3;injection k3 with k3;subst k3
        have hz':T'.sz≠0:=λe=>by rw[e]at hz;exact nomatch hz
        refine⟨.pointer (some ⟨b,off+fo,none⟩),?_,b,n,hE,rfl⟩
        unfold execOp;rw[ho]
        simp only[he,Sem.run_bind,Va.run_fieldAt k1 k2 k5 hz',Result.andThen_ok,Sem.run_pure,Va.Addr.add_eq,k4]
    · exact nomatch hk
  · exact nomatch hk
theorem ok_field [Gl] {t:TypeId} {x:Operand} {j:Nat} (hT:TabOk P tab) (ho:o.op = .field t x j) (hk:cField tab h k t (ev x) j=some r):∃ v h',k v h'=some r∧SOk P o ev h v h':=by
  unfold cField at hk
  split at hk
  · rename_i te ht
    obtain⟨htT,_⟩:=hT t te ht
    split at hk
    · rename_i l T' fo hx hT' hfo
      split at hk
      · rename_i l1 h1
        split at hk
        · rename_i l2 h2
          split at hk
          · rename_i v hv2
            rw[yba]at hk
            refine⟨_,_,hk,SOk.pure (λP0 E look w ρ hh hv => ?_)⟩
            have hxv:=hv x (opnd ho (by simp[Op.operands]))
            rw[hx]at hxv
            obtain⟨a,he,hc⟩:=hxv
            injection he with he _
            obtain⟨fs,f,fo',k1,k2,k3,k4,k5⟩:=Va.tyIs_struct htT hT'
            rw[hfo]at k3;injection k3 with k3;subst k3
            obtain⟨g1,g2⟩:=C_skip l fo l1 _ h1 hc
            obtain⟨g3,g4,g5⟩:=C_take l1 _ l2 _ h2 g1
            rw[List.length_drop]at g4
            have hlen:((a.toList.drop fo).take T'.sz).length=T'.sz:=by rw[List.length_take,List.length_drop];omega
            refine⟨_,?_,V_ofA hv2 g3 hlen⟩
            have ea:a=(a.toList.take fo++(a.toList.drop fo).take T'.sz++(a.toList.drop fo).drop T'.sz).toArray:=by
              rw[List.append_assoc,List.take_append_drop,List.take_append_drop,Array.toArray_toList]
            have hl1:(a.toList.take fo).length=f.offset:=by rw[List.length_take,k4];omega
            unfold execOp;rw[ho]
            simp only[he,Instr.field,Sem.run_bind,Va.run_underlying k1,Result.andThen_ok,k2,asAgg,Sem.run_pure]
            rw[← hl1]
            have:=Va.run_part (P:=P) (c1:=a.toList.take fo) (c2:=(a.toList.drop fo).drop T'.sz) (w:=w) k5 hlen
            rw[← ea]at this
            rw[this];rfl
          · exact nomatch hk
        · exact nomatch hk
      · exact nomatch hk
    · exact nomatch hk
  · exact nomatch hk
theorem ok_indexAddr [Gl] {t:TypeId} {x i:Operand} (hT:TabOk P tab) (ho:o.op = .indexAddr t x i) (hk:cIndexAddr tab h k t (ev x) (ev i)=some r):∃ v h',k v h'=some r∧SOk P o ev h v h':=by
  unfold cIndexAddr at hk
  split at hk
  · rename_i te ht
    obtain⟨htT,_⟩:=hT t te ht
    split at hk
    · rename_i kd n hi
      have hiv:∀ {E:Env} {ρ:Operand→Value},(∀ x∈o.op.operands.toList,V E (ev x) (ρ x))→ρ i = .int kd n:=λhv=>by
        have:=hv i (opnd ho (by simp[Op.operands]))
        rw[hi]at this;exact V_val.1 this
      split at hk
      · rename_i e q off len lo esz ex hTe hx
        split at hk
        · rename_i hb
          rw[Bool.and_eq_true,decide_eq_true_eq]at hb
          have hes:=Nat.eq_of_beq_eq_true hb.2
          rw[forceN_eq]at hk
          refine⟨_,_,hk,SOk.pure (λP0 E look w ρ hh hv => ?_)⟩
          have hxv:=hv x (opnd ho (by simp[Op.operands]))
          rw[hx]at hxv
          obtain⟨b,m,c,hE,he,_⟩:=hxv
          injection he with he _
          rw[hTe]at htT
          obtain⟨⟨u,hu,huT⟩,_⟩:=htT
          refine⟨.pointer (some ⟨b,off+n.toNat*esz,none⟩),?_,b,m,hE,rfl⟩
          unfold execOp;rw[ho]
          simp only[he,hiv hv,Sem.run_bind,Va.run_indexAt_slice hu huT hb.1,Result.andThen_ok,Sem.run_pure,Va.Addr.add_eq,hes]
        · exact nomatch hk
      · rename_i m e q off hTe hx
        split at hk
        · rename_i hb
          rw[decide_eq_true_eq]at hb
          rw[forceN_eq]at hk
          refine⟨_,_,hk,SOk.pure (λP0 E look w ρ hh hv => ?_)⟩
          have hxv:=hv x (opnd ho (by simp[Op.operands]))
          rw[hx]at hxv
          obtain⟨b,m',hE,he⟩:=hxv
          injection he with he _
          rw[hTe]at htT
          obtain⟨⟨u,hu,huT⟩,_⟩:=htT
          refine⟨.pointer (some ⟨b,off+n.toNat*e.sz,none⟩),?_,b,m',hE,rfl⟩
          unfold execOp;rw[ho]
          simp only[he,hiv hv,Sem.run_bind,Va.run_indexAt_arr hu huT hb,Result.andThen_ok,Sem.run_pure,Va.Addr.add_eq]
        · exact nomatch hk
      · exact nomatch hk
    · exact nomatch hk
  · exact nomatch hk
end
end Go.Co
