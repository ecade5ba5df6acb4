/-
  What the functions compute, and the plain laws.
-/
import Derived.Test.YtemhlkdingkjnaaGreatDoorF2
import Derived.Deep.RegionWith
import Derived.Test.YtemhlkdingkjnaaGreatDoorF0
import Derived.Test.YtemhlkdingkjnaaGreatDoorF1
set_option linter.unusedVariables false
set_option linter.unusedSimpArgs false
namespace Go.Proofs.YtemhlkdingkjnaaGreatDoor
open Go Go.Va Go.Proofs Go.RowKit Go.ChangeMaps
theorem row_cells {w:World}{a:Addr}{C:Array Value}{N:Nat}(hl:C.size=N)(h:At w a C.toList):(loadCellsFrom a 0 N #[]).run Tryz.prog w = .ok C w:=by
  have:=run_loadCells_at (P:=Tryz.prog) h
  rw[Array.toArray_toList,Array.length_toList,hl]at this
  exact this
theorem row_copy (wr:World){T N:Nat}{Z C:Array Value}(hz:Z.size=N)(hl:C.size=N)(h1:∀ v∈C.toList,v.oneCell'=true):∃ (w2:World),
    (storeCells ⟨wr.heap.size,0,none⟩ C.toList).run Tryz.prog (wr.alloc (.cells Z T)) = .ok () w2 ∧
    Grow wr w2∧w2.heap.size=wr.heap.size+1∧w2.heap[wr.heap.size]?=some (.cells C T (0,0)):=by
  have hzl:Z.toList.length=N:=by simpa using hz
  have hll:C.toList.length=N:=by simpa using hl
  have hb0:(wr.alloc (.cells Z T)).heap[wr.heap.size]?=some (.cells Z.toList.toArray T (0,0)):=by
    rw[Array.toArray_toList];exact heap_alloc_new wr _
  obtain⟨w2,g1,g2,g3⟩:=run_storeCells (P:=Tryz.prog) C.toList 0 (wr.alloc (.cells Z T)) wr.heap.size 0 Z.toList T (0,0) hb0 (.inl rfl) (by rw[hzl,hll];omega) h1
  have hsz:(wr.alloc (.cells Z T)).heap.size=wr.heap.size+1:=by show (wr.heap.push _).size=_;simp
  have g4:w2.heap[wr.heap.size]?=some (.cells C T (0,0)):=by
    rw[g3,hll,Nat.zero_add,Nat.zero_add,List.take_zero,List.nil_append,List.drop_of_length_le (by omega),List.append_nil,Array.toArray_toList]
  exact⟨w2,g1,⟨g2.os,g2.tape,g2.output,by rw[g2.size,hsz];omega,λb hb=>(g2.block b (by omega)).trans (heap_alloc_old wr _ hb)⟩,by rw[g2.size,hsz],g4⟩
structure AggT (T N:Nat)(Z:Array Value):Prop where
  agg:∀ w,(isAgg T).run Tryz.prog w = .ok true w
  size:∀ w,(Go.sizeOf T).run Tryz.prog w = .ok N w
  zero:∀ w,(zeroValue T).run Tryz.prog w = .ok (.agg Z) w
  z:Z.size=N
theorem hidU {p:Prop}(h:p):Hid p:=h
theorem arr4 {c:Array Value}(h:c.size=4):∃ c0 c1 c2 c3,c = #[c0,c1,c2,c3]:=by
  obtain⟨l⟩:=c
  match l,h with
  | [a,b,d,e],_=>exact⟨a,b,d,e,rfl⟩
theorem tySpot:TyIs Tryz.prog yax 27:=(tyB_ok Tryz.prog yax).1 27 (by kernel_rfl)
theorem spotTy:∃ T N Z,T=27∧N=3∧AggT T N Z:=⟨27,3,_,rfl,rfl,λw=>Go.Va.run_isAgg tySpot,λw=>Go.Va.run_sizeOf tySpot,Tryz.zeroValue27,rfl⟩
theorem spot_one (u:Spot):∀ v∈(spotC u).toArray.toList,v.oneCell'=true:=by
  intro v hv
  have hv:v∈spotC u:=by simpa using hv
  unfold spotC at hv
  simp only[List.mem_cons,List.not_mem_nil,or_false]at hv
  rcases hv with rfl | rfl | rfl<;>rfl
theorem keys_spots {es:List MapEntry}{L:SMap}(h:es.map (λe=>e.key)=L.map λp=>spotV p.1){e:MapEntry}(he:e∈es):∃ x,e.key=spotV x:=by
  have:e.key∈L.map λp=>spotV p.1:=by rw[← h];exact List.mem_map.2 ⟨e,he,rfl⟩
  obtain⟨p,_,hp⟩:=List.mem_map.1 this
  exact⟨p.1,hp.symm⟩
theorem vis_perm {es vis:List MapEntry}{L:SMap}{K:List Spot}(h:es.map (λe=>e.key)=L.map λp=>spotV p.1)(hv:vis.map (λe=>e.key)=K.map spotV)(hp:vis.Perm es):K.Perm (L.map λp=>p.1):=by
  have h1:=hp.map (λe=>e.key)
  rw[hv,h]at h1
  have h2:=h1.map unspot
  rw[unspot_map,show (L.map λp=>spotV p.1)=(L.map λp=>p.1).map spotV by rw[List.map_map];rfl,unspot_map]at h2
  exact h2
theorem grownOf {a b:World}(h:Grow a b)(row:Option Nat):a.grownBy b row:=⟨h.os,h.tape,h.output,h.size,λk hk _=>h.block k hk⟩
theorem grown_through {a b c:World}{M:Nat}{r:Option Nat}(h:a.grownBy b (some M))(g:b.grownBy c r)(hr:∀ k,r=some k→a.heap.size≤k):a.grownBy c (some M):=
  ⟨g.os.trans h.os,g.tape.trans h.tape,g.output.trans h.output,Nat.le_trans h.size g.size,λk hk hne=>(g.block k (Nat.lt_of_lt_of_le hk h.size) (λe=>by have:=hr k e.symm;omega)).trans (h.block k hk hne)⟩
theorem own_grow {w w':World}{base:Nat}{v:Value}{k:Nat}{xs:List Value}(h:w.ownsRow base 27 3 v k xs)(hg:Grow w w'):w'.ownsRow base 27 3 v k xs:=by
  refine h.kept (grownOf hg none) ?_
  cases hv:v.ownBlock with
  | none=>exact .inl rfl
  | some k=>right;intro e;exact nomatch e
theorem new_cells (w:World)(x:Spot){C:Array Value}(hC:C=(spotC x).toArray):∀ j u,(spotC x)[j]?=some u→(w.alloc (.cells C 27)).cell? ((⟨w.heap.size,0,none⟩:Addr).add j)=some u:=by
  intro j u hj
  have h:=heap_alloc_new w (.cells C 27)
  have e:(⟨w.heap.size,0,none⟩:Addr).add j=⟨w.heap.size,j,none⟩:=by unfold Addr.add;by_cases h0:j=0<;>simp[h0]
  rw[e]
  unfold World.cell?
  dsimp only
  rw[h,hC]
  simpa using hj
theorem wpList_build1 {ops:Array Oper}{rest:List Oper}{o:Oper}{a:Act}{w:World}{Q:Exit→Act→World→Prop}(hg:o.guard=none)(m:Operand)(ho:o.op = .buildSlice 55 1 #[(0,m)])(x:Spot){C:Array Value}(hC:Hid (C=(spotC x).toArray))(hm:a.eval m = .agg C)
    (h:wpList Tryz.prog ops Q rest (a.put o.dst (.slice (some ⟨w.heap.size,0,none⟩) 1 1)) (w.alloc (.cells C 27))):wpList Tryz.prog ops Q (o::rest) a w:=by
  refine wpList_plain hg λK hK => ?_
  have hrun:=run_build1 x w
  rw[← hC.out]at hrun
  have e:(#[(0,m)]:Array (Nat×Operand)).map (λ(i,x)=>(i,a.eval x)) = #[(0,.agg C)]:=by simp[hm]
  unfold Oper.wp execOp
  simp only[ho,e,Sem.run_bind,Sem.run_pure,hrun,Result.andThen_ok]
  exact hK _ _ h
theorem HIk {w w':World}{b r:Nat}{es:Array MapEntry}{ck:Nat}{vis:List MapEntry}{seen:Array Nat}(h:ItOk w b r es ck vis seen)(hg:Grow w w'):ItOk w' b r es ck vis seen:=h.kept (grownOf hg none) (λe=>nomatch e) (λe=>nomatch e)
theorem it_end {w1 w4 w5:World}{o:Obj}{base b r:Nat}{es:Array MapEntry}{ck:Nat}{vis:List MapEntry}{seen:Array Nat}{v:Value}{n:Nat}{xs:List Value}(hI:Hid (ItOk w1 b r es ck vis seen))(h14:Grow w1 w4)(hg:(w4.alloc o).grownBy w5 v.ownBlock)(ho:(w4.alloc o).ownsRow base 27 3 v n xs)(hb:b<base)(hr:r<base):Hid (ItOk w5 b r es ck vis seen):=by
  have h1:ItOk (w4.alloc o) b r es ck vis seen:=(HIk hI.out h14).kept (grownOf (Grow.alloc _ _) none) (λe=>nomatch e) (λe=>nomatch e)
  refine h1.kept hg (λe => ?_) (λe => ?_)
  · have:=(ho.lt b e.symm).1;omega
  · have:=(ho.lt r e.symm).1;omega
theorem grown_end {w3 wr w1 w4 w5:World}{o:Obj}{r:Nat}{v:Value}{n:Nat}{xs:List Value}(h1:Hid (w3.grownBy wr (some r)))(h2:wr.grownBy w1 (some r))(h14:Grow w1 w4)(hg:(w4.alloc o).grownBy w5 v.ownBlock)(ho:(w4.alloc o).ownsRow w3.heap.size 27 3 v n xs):Hid (w3.grownBy w5 (some r)):=
  grown_through ((h1.out.trans h2).trans (grownOf (h14.trans (Grow.alloc _ _)) _)) hg (λk hk=>(ho.lt k hk).1)
theorem K_le {w:World}{b r:Nat}{es:Array MapEntry}{ck:Nat}{vis:List MapEntry}{seen:Array Nat}{L:SMap}{K:List Spot}(h:ItOk w b r es ck vis seen)(hk:es.toList.map (λe=>e.key)=L.map λp=>spotV p.1)(hv:vis.map (λe=>e.key)=K.map spotV):K.length≤L.length:=by
  have h1:=ItOk.len h
  have h2:=congrArg List.length hk
  have h3:=congrArg List.length hv
  simp only[List.length_map]at h2 h3
  omega
theorem alloc_le (w:World)(o:Obj):w.heap.size≤(w.alloc o).heap.size:=by simp
theorem own_app {w:World}{base:Nat}{v:Value}{K:List Spot}{x:Spot}(h:w.ownsRow base 27 3 v (K.length+1) (K.flatMap spotC++spotC x)):w.ownsRow base 27 3 v (K++[x]).length ((K++[x]).flatMap spotC):=by
  rw[List.length_append,List.flatMap_append,List.flatMap_cons,List.flatMap_nil,List.append_nil];exact h
set_option maxRecDepth 100000 in
theorem spots_walk {n:Nat} {s:yaf} {L:SMap} (h:ya3.f n s=some (L,())) (hl:L.length≤16777216) (hp:Part ltSp (L.map λp=>p.1)) {w:World} {S:Nat→Prop} (hS:∀ b,S b→b<w.heap.size)
    (hgl:(∀ p∈Gl.tab,S p.1∧∃ cs,p.2 cs∧At w ⟨p.1,0,none⟩ cs)∧∀ p∈Gl.ex,S p.1∧∃ o,w.heap[p.1]?=some o∧p.2 o) {c:Array Value} (hr:Rd S w yah s c.toList) :
    Calls Tryz.prog 12 #[.agg c] w λe w'=>∃ x,e = .returned x∧Grow w w'∧OutRow w w' x (sortD ltSp (L.map λp=>p.1)):=by
  have mixed:=mixed
  obtain⟨T,N,Z,hT,hN,AT⟩:=spotTy
  have e1:Op.load 27 (Operand.tmp 4)=Op.load T (Operand.tmp 4):=by rw[hT]
  have e2:Op.alloc 27=Op.alloc T:=by rw[hT]
  have e3:Op.store 27 (Operand.tmp 4) (Operand.tmp 11)=Op.store T (Operand.tmp 4) (Operand.tmp 11):=by rw[hT]
  have HN:=hidU hN
  clear hT hN
  have aggT:=AT.agg
  have sizeT:=AT.size
  have zeroT:=AT.zero
  have hc4:c.size=4:=by rw[← Array.length_toList];exact Rd.length _ _ _ _ _ hr
  obtain⟨c0,c1,c2,c3,rfl⟩:=arr4 hc4
  have Hr:=hidU hr
  have Hgl:=hidU hgl
  have HS:=hidU hS
  have Hp:=hidU hp
  have Hl:=hidU hl
  clear hr hgl hS hc4 hp hl
  obtain⟨i0,hi,hz0,hz1,hz2⟩:=info_parts info27z
  go_enter Tryz.func12,Tryz.ntmps12
  go_wp2_with fail
  have hg1:Grow w (w.alloc (.cells #[c0,c1,c2,c3] 25)):=Grow.alloc w _
  refine (smap_calls h (S:=S) (λb hb=>Nat.lt_of_lt_of_le (HS.out b hb) hg1.size) ⟨λp hp => ?_,λp hp => ?_⟩ (Rd.keep (hg1.keep S) (λ_ h=>h) _ _ _ Hr.out)).mono ?_
  · obtain⟨q1,cs,q2,q3⟩:=Hgl.out.1 p hp
    exact⟨q1,cs,q2,(hg1.keep S).at q1 q3⟩
  · obtain⟨q1,ob,q2,q3⟩:=Hgl.out.2 p hp
    exact⟨q1,ob,(hg1.block p.1 (HS.out _ q1)).trans q2,q3⟩
  rintro en w2 ⟨hg2,b,es,ck,rfl,hb,hmap,hst,hkeys⟩
  have HG2:=hidU (hg1.trans hg2)
  have Hst:=hidU hst
  have Hkeys:=hidU hkeys
  clear hg1 hg2 hst hkeys hb h Hr
  obtain⟨w3,hw3⟩:∃ w3,w3=w2.alloc (.mapIter (some b) ck #[] ck):=⟨_,rfl⟩
  have hs3:w3.heap.size=w2.heap.size+1:=by rw[hw3];simp
  have HG3:Hid (Grow w w3):=hidU (by rw[hw3];exact HG2.out.trans (Grow.alloc _ _))
  go_wp2_with (refine wpList_range_it rfl _ _ rfl Tryz.underlying103 rfl hmap ?_;rw[← hw3];intro hIt0)
  have HIt0:=hidU hIt0
  have Hb:Hid (b<w3.heap.size):=hidU (by have:=(Array.getElem?_eq_some_iff.1 hmap).1;omega)
  have Hrw:Hid (w.heap.size≤w2.heap.size∧w2.heap.size<w3.heap.size):=hidU ⟨HG2.out.size,by omega⟩
  clear hIt0 hw3 hmap HG2 hs3
  go_simp
  go_loopw [3] (λv wr=>∃ (vis:List MapEntry) (seen:Array Nat) (K:List Spot),Hid (ItOk wr b w2.heap.size es ck vis seen)∧Hid (vis.map (λe=>e.key)=K.map spotV)∧Hid (wr.ownsRow w3.heap.size 27 3 v K.length (K.flatMap spotC))∧Hid (w3.grownBy wr (some w2.heap.size))) (λ_ wr=>itLeft es w2.heap.size wr)
  case atStart=>exact⟨[],#[],[],HIt0,hidU rfl,hidU (World.ownsRow_nil _ _ _ _),hidU ⟨rfl,rfl,rfl,Nat.le_refl _,λ_ _ _=>rfl⟩⟩
  case round=>
    obtain⟨vis,seen,K,HI,HK,HO,HW⟩:=hrel
    have hm0:itLeft es w2.heap.size wr=(leftOf es seen).size:=ItOk.left HI.out
    go_wp2_with (first
      | (refine wpList_next_it rfl _ rfl rfl HI.out Hst.out (λhdone => ?_) (λe w1 seen' he hIt1 hlt hg1 hs1 hent => ?_)
         rotate_left
         obtain⟨x,hx⟩:=keys_spots Hkeys.out he
         have hle:K.length+1≤L.length:=by
           have:=K_le (K:=K++[x]) hIt1 Hkeys.out (by rw[List.map_append,List.map_append,HK.out];simp[hx])
           simpa using this
         have HK1:Hid ((vis++[e]).map (λe=>e.key)=(K++[x]).map spotV):=hidU (by rw[List.map_append,List.map_append,HK.out];simp[hx])
         have hlt1:(leftOf es seen').size<itLeft es w2.heap.size wr:=by rw[hm0];exact hlt
         rw[hx]at hent ⊢
         obtain⟨C,hC⟩:∃ C,C=(spotC x).toArray:=⟨_,rfl⟩
         have hkv:spotV x = .agg C:=by rw[hC];rfl
         rw[hkv]at hent ⊢
         have hCN:C.size=N:=by rw[hC,HN.out];rfl
         obtain⟨w4,k1,k2,k3,k4⟩:=row_copy w1 (T:=T) AT.z hCN (by rw[hC];exact spot_one x)
         have k5:(loadCellsFrom ⟨w1.heap.size,0,none⟩ 0 N #[]).run Tryz.prog w4 = .ok C w4:=row_cells hCN (At.block (c1:=[]) (c2:=[]) k4 (by simp))
         have HI1:=hidU hIt1
         have Hlt1:=hidU hlt1
         have Hg1:=hidU hg1
         have Hle:=hidU hle
         have HC:=hidU hC
         have HK2:=hidU k2
         have HO4:Hid ((w4.alloc (.cells C 27)).ownsRow w3.heap.size 27 3 u3 K.length (K.flatMap spotC)):=hidU ((own_grow (own_next HO.out hg1 Hrw.out.2) k2).alloc _)
         clear he hIt1 hlt hs1 hm0 hle hlt1 hx hC hkv k2 k3 k4 hg1 HI HO HK
         rotate_right)
      | (refine wpList_build1 rfl _ rfl x HC rfl ?_)
      | (at_builtin;refine wpList_append_own_at _ rfl _ _ 55 rfl w3.heap.size 27 i0 _ 3 40 Tryz.underlying55 hi hz0 hz1 hz2 rfl (by decide) u3 K.length (K.flatMap spotC) rfl HO4.out ⟨w4.heap.size,0,none⟩ 1 1 (spotC x) rfl rfl (new_cells w4 x HC.out) (λu hu=>spot_one x u (by simpa using hu)) ?_ ?_ ?_ ?_;rotate_right;intro v' w5 hown' hgrow hnil hloc))
    · have hperm:=vis_perm Hkeys.out HK.out hdone
      have hKl:K.length≤16777216:=by have:=hperm.length_eq;rw[List.length_map]at this;rw[this];exact Hl.out
      have hgw:Grow w wr:=Grow.through HG3.out HW.out (λk hk=>by injection hk with hk;rw[← hk];exact Hrw.out.1)
      have Hgw:=hidU hgw
      have hb0:w.heap.size≤w3.heap.size:=HG3.out.size
      have Hb0:=hidU hb0
      have HK2:=hidU hperm
      refine (sort_own (S:=S) (λb hb=>Nat.lt_of_lt_of_le (HS.out b hb) hgw.size) ⟨λp hp => ?_,λp hp => ?_⟩ (λb hb=>Nat.lt_of_lt_of_le (HS.out b hb) hb0) HO.out (part_perm Hp.out hperm) hKl).mono ?_
      · obtain⟨q1,cs,q2,q3⟩:=Hgl.out.1 p hp
        exact⟨q1,cs,q2,(hgw.keep S).at q1 q3⟩
      · obtain⟨q1,ob,q2,q3⟩:=Hgl.out.2 p hp
        exact⟨q1,ob,(hgw.block p.1 (HS.out _ q1)).trans q2,q3⟩
      rintro en w6 ⟨rfl,⟨row,hg6,hrow⟩,hsr⟩
      have HG6:Hid (Grow w w6):=hidU (Grow.through hgw hg6 (λk hk=>Nat.le_trans hb0 (hrow k hk)))
      have Hsr:=hidU hsr
      clear hgw hb0 hperm hKl hg6 hrow hsr hdone HI HO HW HIt0
      go_wp2_with (go_at_call 41;refine (clip_sorted (w0:=w) Hsr.out Hb0.out).mono ?_;rintro en w7 ⟨x,rfl,hw7,hout⟩;subst hw7)
      go_ret
      exact⟨x,rfl,HG6.out,by rw[← sort_perm Hp.out HK2.out];exact hout⟩
    · have hIe:=it_end HI1 HK2.out hgrow HO4.out Hb.out Hrw.out.2
      exact⟨⟨vis++[e],seen',K++[x],hIe,HK1,hidU (own_app hown'),grown_end HW Hg1.out HK2.out hgrow HO4.out⟩,by rw[ItOk.left hIe.out];exact Hlt1.out⟩
    · have h1:=Hle.out
      have h2:=Hl.out
      unfold maxLen
      omega
    · have h1:=Hle.out
      have h2:=Hl.out
      omega
    · have h1:=HW.out.size
      have h2:=Hg1.out.size
      have h3:=HK2.out.size
      have h4:=alloc_le w4 (.cells C 27)
      omega
end Go.Proofs.YtemhlkdingkjnaaGreatDoor
namespace Go.Proofs.YtemhlkdingkjnaaGreatDoor
open Go Go.Va Go.Proofs Go.RowKit
noncomputable section
namespace ydm
abbrev ia:List Ai:=[.dat yah]
abbrev io:List (Nat×Oi):=[(2,.val (.r 0 yax))]
abbrev R:Type:=DOut ia io
def f (n:Nat)(s:yaf):Option R:=bnd (ya3.f n s) λu=>gIf (u.1.length≤16777216∧Part ltSp (u.1.map λp=>p.1)) (some (sortD ltSp (u.1.map λp=>p.1),()))
theorem ok (n:Nat):FnOk Tryz.prog 12 ia io (λv=>f n v.1):=by
  refine leaf_row_fr ⟨Tryz.f12,Tryz.func12,by kernel_rfl,by kernel_rfl⟩ rfl (λ_=>rfl) (λv u h E w vals hgl hS hc => ?_)
  obtain⟨s,⟨⟩⟩:=v
  unfold f at h
  obtain⟨U,h1,h2⟩:=Go.Va.bnd_some h
  obtain⟨U,⟨⟩⟩:=U
  rcases Classical.em (U.length≤16777216∧Part ltSp (U.map λp=>p.1)) with hl | hl
  · rw[yaq hl]at h2
    injection h2 with h2
    subst h2
    obtain⟨x1,vs1,rfl,k1,k3⟩:=hc
    have k3:vs1=[]:=k3
    subst k3
    obtain⟨c,rfl,hr⟩:=(V_agg (E:=E) (by rfl)).1 k1
    exact spots_walk h1 hl.1 hl.2 hS hgl hr
  · have h2:gIf (U.length≤16777216∧Part ltSp (U.map λp=>p.1)) (some (sortD ltSp (U.map λp=>p.1),()))=some u:=h2
    haveI:Decidable (U.length≤16777216∧Part ltSp (U.map λp=>p.1)) := .isFalse hl
    rw[ycM,if_neg hl]at h2;exact nomatch h2
def en (n:Nat):Entry:=yaw 12 ia io (λv=>f n v.1)
end ydm
end
end Go.Proofs.YtemhlkdingkjnaaGreatDoor
namespace Go.Proofs.YtemhlkdingkjnaaGreatDoor
open Go Go.Va Go.Proofs
namespace ycI
abbrev ia:List Ai:=[]
abbrev io:List (Nat×Oi):=[(0,.dat .bool)]
noncomputable def f:Option (DOut ia io):=some (true,())
theorem ok:FnOk Tryz.prog 8 ia io (λ_=>f):=by
  refine leaf_ok ⟨Tryz.f8,Tryz.func8,by kernel_rfl,by kernel_rfl⟩ rfl (λ_=>rfl) (λ_=>rfl) (λv u h E w vals hgl hc => ?_)
  have hc:vals=[]:=hc
  subst hc
  unfold f at h
  injection h with h
  subst h
  refine (Aw15.runs w).mono ?_
  rintro en w' ⟨rfl,hb⟩
  exact⟨_,rfl,hb,λE=>ycY.2 rfl⟩
noncomputable def en:Entry:=yaw 8 ia io (λ_=>f)
end ycI
end Go.Proofs.YtemhlkdingkjnaaGreatDoor
namespace Go.Proofs.YtemhlkdingkjnaaGreatDoor
open Go Go.Va Go.Proofs
noncomputable section
namespace ybE
abbrev ia:List Ai:=[.dat (.slice yax),.dat yaR]
abbrev io:List (Nat×Oi):=[(4,.dat .bool)]
abbrev R:Type:=DOut ia io
def X (n:Nat):Ctx:=⟨⟨tab,[yaU.en n],0,[]⟩,83,bnOf 0 ia⟩
abbrev g1:List Si:=[.dat 0 (.slice yax),.ref 3 3 yaR,.dat 5 (.int .i64),.box 3 (.d yaR)]
abbrev g2:List Si:=[.dat 0 (.slice yax),.ref 3 3 yaR,.dat 5 (.int .i64),.box 3 (.d yaR)]
abbrev g3:List Si:=[]
def T:CT:=(.s .o (.s .o (.s (.s .o (.b (.l g1 (.s .o (.s .o (.r g2 .o)))))) (.r g3 .o))))
def J1 (n:Nat)(m:Nat):(List (ybc))×Int×yaz×Unit→Option R:=jL (X n) n T (yau Tryz.f20) (endK ia io) g1 [1,1,0,1,0] [] m
def J2 (n m1:Nat):(List (ybc))×Int×yaz×Unit→Option R:=jR (X n) n T (yau Tryz.f20) (endK ia io) g2 [1,1,0,1,0,0,1,1] [m1]
def J3 (n:Nat):Unit→Option R:=jR (X n) n T (yau Tryz.f20) (endK ia io) g3 [1,1,1] []
def f (n:Nat)(l:List (ybc))(f_:yaz):Option R:=fRun (X n) n T Tryz.f20 ia io (l,f_,())
theorem e0 (n:Nat)(l:List (ybc))(f_:yaz):f n l f_=bIf ((hide (((l.length:Nat):Int) != ((f_.2.2.2.2.1.length:Nat):Int)))) (some (false,())) (J1 n n (l,0,f_,())):=(yac _).trans (by kernel_rfl)
theorem e1 (n m:Nat)(l:List (ybc))(i:Int)(f_:yaz):J1 n (m+1) (l,i,f_,())=bIf ((hide (decide (i<((l.length:Nat):Int))))) (gIf (0≤i∧i<((l.length:Nat):Int)) (gIf (0≤i∧i<((l.length:Nat):Int)) (gIf (0≤i∧i<((l.length:Nat):Int)) (bnd (yaU.f n f_ ((List.getD l i.toNat (Va.dflt yax)).1) (((List.getD l i.toNat (Va.dflt yax)).2).1) ((((List.getD l i.toNat (Va.dflt yax)).2).2).1)) λu1=>bIf ((hide (decide (u1.1<(0:Int))))) (some (false,())) (bIf ((hide (decide (i>(0:Int))))) (gIf (0≤(IntKind.i64.wrap (i-(1:Int)))∧(IntKind.i64.wrap (i-(1:Int)))<((l.length:Nat):Int)) (gIf (0≤i∧i<((l.length:Nat):Int)) (bIf ((hide (ltS ((List.getD l ((IntKind.i64.wrap (i-(1:Int))).toNat) (Va.dflt yax)).1) ((List.getD l i.toNat (Va.dflt yax)).1)))) (J2 n m (l,i,f_,())) (bIf ((hide (eqS ((List.getD l ((IntKind.i64.wrap (i-(1:Int))).toNat) (Va.dflt yax)).1) ((List.getD l i.toNat (Va.dflt yax)).1)))) (bIf ((hide (ltS (((List.getD l ((IntKind.i64.wrap (i-(1:Int))).toNat) (Va.dflt yax)).2).1) (((List.getD l i.toNat (Va.dflt yax)).2).1)))) (J2 n m (l,i,f_,())) (bIf ((hide (eqS (((List.getD l ((IntKind.i64.wrap (i-(1:Int))).toNat) (Va.dflt yax)).2).1) (((List.getD l i.toNat (Va.dflt yax)).2).1)))) (bIf ((!(hide (decide (((((List.getD l ((IntKind.i64.wrap (i-(1:Int))).toNat) (Va.dflt yax)).2).2).1)<((((List.getD l i.toNat (Va.dflt yax)).2).2).1)))))) (some (false,())) (J2 n m (l,i,f_,()))) (some (false,())))) (some (false,())))))) (J2 n m (l,i,f_,()))))))) (J3 n (())):=(yac _).trans (by kernel_rfl)
theorem e2 (n m1:Nat)(l:List (ybc))(i:Int)(f_:yaz):J2 n m1 (l,i,f_,())=J1 n m1 (l,(IntKind.i64.wrap (i+(1:Int))),f_,()):=(yac _).trans (by kernel_rfl)
theorem e3 (n:Nat):J3 n (())=some (true,()):=(yac _).trans (by kernel_rfl)
theorem ok (n:Nat):FnOk Tryz.prog 20 ia io (fRun (X n) n T Tryz.f20 ia io):=yaA mixed tabIs (yaj (yai (yaU.ok n)) (yas)) Tryz.func20 (by kernel_rfl) rfl
def en (n:Nat):Entry:=yaw 20 ia io (fRun (X n) n T Tryz.f20 ia io)
end ybE
namespace yaY
abbrev ia:List Ai:=[.dat yah,.dat yax]
abbrev io:List (Nat×Oi):=[(4,.dat .bool)]
abbrev R:Type:=DOut ia io
def X (n:Nat):Ctx:=⟨⟨tab,[yb3.en n,ycI.en,ybA.en n,yct.en n,ydG.en n,ydm.en n,yay.en n,ya9.en n,ya6.en n,yaM.en n,ybg.en n,ybk.en n,yaU.en n,ybE.en n,ya1.en n],0,[]⟩,181,bnOf 0 ia⟩
abbrev g1:List Si:=[.ref 2 2 yah,.ref 3 3 yax,.ref 7 7 yag,.dat 8 (.int .i64),.ref 9 9 yae,.dat 10 (.int .i64),.val 11 (.r 201100 yax),.ref 12 12 yaR,.box 2 (.d yah),.box 3 (.d yax),.box 7 (.d yag),.box 9 (.d yae),.box 12 (.p (.d (.int .i64)) (.p (.d (.int .u64)) (.p (.d (.int .u64)) (.p (.r 100000000012000 yaa) (.p (.r 100000000012001 yaB) (.p (.r 100000000012002 yaB) (.d .unit)))))))]
abbrev g2:List Si:=[.ref 3 3 yax,.ref 9 9 yae,.dat 10 (.int .i64),.val 11 (.r 201100 yax),.ref 12 12 yaR,.box 3 (.d yax),.box 9 (.d yae),.box 12 (.p (.d (.int .i64)) (.p (.d (.int .u64)) (.p (.d (.int .u64)) (.p (.r 100000000012000 yaa) (.p (.r 100000000012001 yaB) (.p (.r 100000000012002 yaB) (.d .unit)))))))]
def T:CT:=(.s .o (.s .o (.s .o (.s .o (.s .o (.s .o (.s .o (.s .o (.s .o (.s .o (.r g1 (.s .o (.s .o (.r g2 .o))))))))))))))
def J1 (n:Nat):Int×Int×(List (ybc))×yaf×ybc×yad×yak×yaz×Unit→Option R:=jR (X n) n T (yau Tryz.f3) (endK ia io) g1 [1,1,1,1,1,1,1,1,1,1] []
def J2 (n:Nat):Int×(List (ybc))×ybc×yak×yaz×Unit→Option R:=jR (X n) n T (yau Tryz.f3) (endK ia io) g2 [1,1,1,1,1,1,1,1,1,1,1,1] []
def f (n:Nat)(t:yaf)(o:ybc):Option R:=fRun (X n) n T Tryz.f3 ia io (t,o,())
theorem e0 (n:Nat)(t:yaf)(o:ybc):f n t o=bnd (yb3.f n t) λu1=>bIf (u1.1) (bnd (ycI.f) λu2=>some (u2.1,())) (bnd (ybA.f n t o.1) λu3=>bnd (yct.f n t o.1 o.2.1) λu4=>bnd (ydG.f n t o) λu5=>bnd (ydm.f n t) λu6=>bnd (yay.f n t) λu7=>bIf ((!u7.1)) (bnd (ycI.f) λu8=>bIf (u8.1) (bIf ((hide (u3.2.1==(7:Int)))) (bIf ((hide (u4.2.1==u3.2.1))) (bIf ((hide (u5.2.1==u3.2.1))) (bIf ((hide (((u6.1.length:Nat):Int)==(0:Int)))) (bIf ((hide (eqS u3.1.1 (⟨#[]⟩:ByteArray)))) (bIf ((hide (eqS u4.1.1 (⟨#[]⟩:ByteArray)))) (some ((hide (u5.1.1==(0:Int))),())) (some (false,()))) (some (false,()))) (some (false,()))) (some (false,()))) (some (false,()))) (some (false,()))) (some (false,()))) (bnd (ya9.f n t) λu9=>bnd (ya6.f n u9.1 o.1) λu10=>bIf ((hide (decide (u10.1<(0:Int))))) (bIf ((hide (u3.2.1 != (7:Int)))) (some (false,())) (bIf ((hide (!eqS u3.1.1 (⟨#[]⟩:ByteArray)))) (some (false,())) (J1 n (u4.2.1,u5.2.1,u6.1,t,o,u4.1,u5.1,u9.1,())))) (bIf ((hide (u3.2.1 != (0:Int)))) (some (false,())) (gIf (0≤u10.1∧u10.1<((t.2.2.2.1.length:Nat):Int)) (bnd (yaM.f n u3.1 (List.getD t.2.2.2.1 u10.1.toNat (Va.dflt yaa))) λu11=>bIf ((!u11.1)) (some (false,())) (J1 n (u4.2.1,u5.2.1,u6.1,t,o,u4.1,u5.1,u9.1,()))))))):=(yac _).trans (by kernel_rfl)
theorem e1 (n:Nat)(t8:Int)(t10:Int)(t11:List (ybc))(A:yaf)(r:ybc)(b7:yad)(b9:yak)(b12:yaz):J1 n (t8,t10,t11,A,r,b7,b9,b12,())=bnd (ybg.f n A r.1 r.2.1) λu1=>bIf ((hide (!((hide (t8==(0:Int)))==u1.2.1)))) (some (false,())) (bIf ((hide (t8 != (0:Int)))) (bIf ((hide (t8 != (7:Int)))) (some (false,())) (bnd (ybk.f n b7 u1.1) λu2=>bIf ((!u2.1)) (some (false,())) (J2 n (t10,t11,r,b9,b12,())))) (bnd (ybk.f n b7 u1.1) λu3=>bIf ((!u3.1)) (some (false,())) (J2 n (t10,t11,r,b9,b12,())))):=(yac _).trans (by kernel_rfl)
theorem e2 (n:Nat)(t10:Int)(t11:List (ybc))(r:ybc)(b9:yak)(b12:yaz):J2 n (t10,t11,r,b9,b12,())=bnd (yaU.f n b12 r.1 r.2.1 r.2.2.1) λu1=>bIf ((hide (decide (u1.1<(0:Int))))) (bnd (ycI.f) λu2=>bIf (u2.1) (bIf ((hide (t10==(7:Int)))) (bIf ((hide (b9.1==(0:Int)))) (bnd (ybE.f n t11 b12) λu3=>some (u3.1,())) (some (false,()))) (some (false,()))) (some (false,()))) (bnd (ycI.f) λu4=>bIf (u4.1) (bIf ((hide (t10==(0:Int)))) (gIf (0≤u1.1∧u1.1<((b12.2.2.2.2.1.length:Nat):Int)) (bnd (ya1.f n b9 ((((List.getD b12.2.2.2.2.1 (0+u1.1.toNat) (Va.dflt yaB)).2).2).1)) λu5=>bIf (u5.1) (bnd (ybE.f n t11 b12) λu6=>some (u6.1,())) (some (false,())))) (some (false,()))) (some (false,()))):=(yac _).trans (by kernel_rfl)
theorem ok (n:Nat):FnOk Tryz.prog 3 ia io (fRun (X n) n T Tryz.f3 ia io):=yaA mixed tabIs (yaj (yai (yb3.ok n)) (yaj (yai (ycI.ok)) (yaj (yai (ybA.ok n)) (yaj (yai (yct.ok n)) (yaj (yai (ydG.ok n)) (yaj (yai (ydm.ok n)) (yaj (yai (yay.ok n)) (yaj (yai (ya9.ok n)) (yaj (yai (ya6.ok n)) (yaj (yai (yaM.ok n)) (yaj (yai (ybg.ok n)) (yaj (yai (ybk.ok n)) (yaj (yai (yaU.ok n)) (yaj (yai (ybE.ok n)) (yaj (yai (ya1.ok n)) (yas)))))))))))))))) Tryz.func3 (by kernel_rfl) rfl
def en (n:Nat):Entry:=yaw 3 ia io (fRun (X n) n T Tryz.f3 ia io)
end yaY
end
end Go.Proofs.YtemhlkdingkjnaaGreatDoor
namespace Go.Proofs.YtemhlkdingkjnaaGreatDoor
open Go Go.Va Go.Proofs
section
variable {n:Nat}
theorem spots_len {s:yaf} (h:ydE s=true):(ydy s).length=(s.2.2.2.1.flatMap rowsV).length:=by
  unfold ydy
  rw[if_pos h]
  have:∀ bs:List yab,(bs.flatMap spotsB).length=(bs.flatMap rowsV).length:=by
    intro bs
    induction bs with
    | nil=>rfl
    | cons b bs ih=>
      rw[List.flatMap_cons,List.flatMap_cons,List.length_append,List.length_append,ih]
      congr 1
      unfold spotsB rowsV
      generalize b.2.2.2.2.1=os
      induction os with
      | nil=>rfl
      | cons o os ih2=>
        rw[List.flatMap_cons,List.flatMap_cons,List.length_append,List.length_append,ih2]
        unfold spotsO
        rw[List.length_map,List.length_map]
  exact this _
theorem spots_row {s:yaf}{x:Spot}(hx:x∈ydy s):∃ r∈s.2.2.2.1.flatMap rowsV,rowP x.1 x.2.1 x.2.2.1 r=true:=by
  unfold ydy at hx
  split at hx
  · obtain⟨b,hb,hx⟩:=List.mem_flatMap.1 hx
    obtain⟨o,ho,hx⟩:=List.mem_flatMap.1 hx
    obtain⟨v,hv,rfl⟩:=List.mem_map.1 hx
    refine⟨rowV b o v,List.mem_flatMap.2 ⟨b,hb,?_⟩,?_⟩
    · unfold rowsV
      exact List.mem_flatMap.2 ⟨o,ho,List.mem_map.2 ⟨v,hv,rfl⟩⟩
    · show (eqS b.1 b.1&&(eqS o.1 o.1&&(v.1==v.1)))=true
      rw[ycV,ycV,beq_self_eq_true];rfl
  · exact nomatch hx
theorem spots_J {f:Flat} (hf:f.2.2.2.2.1.length<536870912) (hfn:f.2.2.2.2.1.length<n) {l:List Spot} (hl:l.length<536870912) (hr:∀ x∈l,∃ r∈f.2.2.2.2.1,rowP x.1 x.2.1 x.2.2.1 r=true) (hu:l.Pairwise λx y=>ltSp x y=true):∀ (m k:Nat),k≤l.length→l.length-k<m→ybE.J1 n m (l,(k:Int),f,())=some (true,())
  | 0,k,_,h=>by omega
  | m + 1, k, hk,h=>by
    rw[ybE.e1]
    simp only[yaS]
    by_cases hlt:k<l.length
    · have hg : (0≤(k:Int)∧(k:Int)<((l.length:Nat):Int)):=by omega
      have ih:ybE.J2 n m (l,(k:Int),f,())=some (true,()):=by
        rw[ybE.e2,ya7 k (by omega)]
        exact spots_J hf hfn hl hr hu m (k+1) (by omega) (by omega)
      rw[decide_eq_true hg.2,yap,yaq hg,yaq hg,yaq hg]
      simp only[Int.toNat_natCast]
      obtain⟨r,hrm,hrp⟩:=hr _ (ybr (d:=Va.dflt yax) hlt)
      rcases flat_Find (n:=n) hf hfn (l.getD k (Va.dflt yax)).1 (l.getD k (Va.dflt yax)).2.1 (l.getD k (Va.dflt yax)).2.2.1 with ⟨_,h2⟩ | ⟨j,h1,h2,_⟩
      · exact absurd hrp (List.find?_eq_none.1 h2 r hrm)
      · rw[h2,bnd_some]
        dsimp only
        rw[decide_eq_false (show ¬ (j:Int)<0 by omega),yam]
        by_cases h0:0<k
        · have hlt2:ltSp (l.getD (k-1) (Va.dflt yax)) (l.getD k (Va.dflt yax))=true:=by
            have:=List.pairwise_iff_getElem.1 hu (k-1) k (by omega) hlt (by omega)
            rw[getD_at _ (by omega),getD_at _ hlt];exact this
          rw[decide_eq_true (show (k:Int)>0 by omega),yap,ybn (x:=(k:Int)-1) (by omega),yaq ⟨by omega,by omega⟩,yaq hg,show ((k:Int)-1).toNat=k-1 by omega]
          unfold ltSp at hlt2
          rw[ih]
          cases h1':ltS (l.getD (k-1) (Va.dflt yax)).1 (l.getD k (Va.dflt yax)).1 with
          | true=>rw[yap]
          | false=>
            rw[h1',Bool.false_or,Bool.and_eq_true]at hlt2
            rw[yam,hlt2.1,yap]
            cases h2':ltS (l.getD (k-1) (Va.dflt yax)).2.1 (l.getD k (Va.dflt yax)).2.1 with
            | true=>rw[yap]
            | false=>
              have hlt3:=hlt2.2
              rw[h2',Bool.false_or,Bool.and_eq_true]at hlt3
              rw[yam,hlt3.1,yap,hlt3.2,Bool.not_true,yam]
        · rw[decide_eq_false (show ¬ (k:Int)>0 by omega),yam]
          exact ih
    · rw[decide_eq_false (show ¬ (k:Int)<((l.length:Nat):Int) by omega),yam,ybE.e3]
theorem law_spots {s:yaf}(h:ydE s=true)(hl:(s.2.2.2.1.flatMap rowsV).length<536870912)(hn:(s.2.2.2.1.flatMap rowsV).length<n):ybE.f n (ydy s) (flatS s)=some (true,()):=by
  have hlen:=spots_len h
  rw[ybE.e0]
  simp only[yaS]
  rw[show ((((ydy s).length:Nat):Int) != (((flatS s).2.2.2.2.1.length:Nat):Int))=false by rw[hlen];exact bne_self_eq_false _,yam]
  exact spots_J (n:=n) (f:=flatS s) hl hn (by omega) (λx hx=>spots_row hx) spots_up n 0 (by omega) (by omega)
theorem sort_same {l:List Spot}(h:l.Pairwise λx y=>ltSp x y=true):Part ltSp l∧sortD ltSp l=l:=by
  have hp:Part ltSp l:=h.imp fun {x y} e => .inl e
  refine⟨hp,(sortD_is swo_Sp hp (.refl _) (h.imp fun {x y} e => ?_)).symm⟩
  cases hq:ltSp y x with
  | false=>rfl
  | true=>
    have:=swo_Sp.trans _ _ _ e hq
    rw[swo_Sp.irrefl]at this
    exact nomatch this
theorem meta_Spots (h3:300≤n)(hn:n≤16777216){s:yaf}(hs:StS n s)(hl:(ydy s).length≤16777216):ydm.f n s=some (ydy s,()):=by
  obtain⟨p1,p2⟩:=sort_same (spots_up (s:=s))
  unfold ydm.f
  rw[meta_Index h3 (by omega) hs,bnd_some]
  dsimp only
  rw[fstS]
  have hlen:(idxS s).length≤16777216:=by rw[← fstS,List.length_map]at hl;exact hl
  rw[yaq ⟨hlen,p1⟩,p2]
theorem verL_is {s:yaf}(h:ydE s=true)(nm key:ByteArray)(id:Int):(verL s.2.2.2.1 nm key id).map (λr=>r.2.2.1)=veOf s nm key id:=by
  unfold verL veOf obOf bkOf
  rw[if_pos h]
  cases lookK nameB s.2.2.2.1 nm with
  | none=>rfl
  | some b=>
    show ((lookK keyO b.2.2.2.2.1 key).bind _).map _=(lookK keyO b.2.2.2.2.1 key).bind _
    cases lookK keyO b.2.2.2.2.1 key with
    | none=>rfl
    | some o=>
      show ((o.2.1.find? _).map (rowV b o)).map _=o.2.1.find? _
      cases o.2.1.find? λv=>v.1==id<;>rfl
theorem obB_of {o:yad}(h:OB n o):ObB n o:=⟨h.list.len,λv hv=>(h.list.all v hv).tags.1⟩
theorem bkB_of {b:yab}(h:BkS n b):BkB n b:=
  ⟨h.ru,h.gr,by have:=h.ol;omega,λo ho=>obB_of (h.ob o ho),by have:=h.ul;omega,λu hu=>⟨(h.up u hu).tg.1,by have:=(h.up u hu).ps;omega⟩⟩
theorem stB_of {s:yaf}(h:StS n s):StB n s:=⟨by have:=h.len;omega,λb hb=>bkB_of (h.bk b hb)⟩
theorem law_J2 (h3:300≤n)(hn:n≤16777216){s:yaf}(hs:StS n s)(hst:ydE s=true)(hl:(s.2.2.2.1.flatMap rowsV).length<n)(t:Spot)(v:yak)(e:Int)(hv:(v,e,())=(orNo nilV (veOf s t.1 t.2.1 t.2.2.1))) :
    yaY.J2 n (e,ydy s,t,v,flatS s,())=some (true,()):=by
  obtain⟨hp,ho⟩:=st_parts hst
  have hrf:(flatS s).2.2.2.2.1.find? (rowP t.1 t.2.1 t.2.2.1)=verL s.2.2.2.1 t.1 t.2.1 t.2.2.1:=rows_find hp (λb hb=>(ho b hb).1) _ _ _
  have hsp:=law_spots (n:=n) hst (by omega) hl
  have ha:ycI.f=some (true,()):=rfl
  have hve:=verL_is hst t.1 t.2.1 t.2.2.1
  rw[yaY.e2]
  simp only[yaS]
  change bnd (yaU.f n (flatS s) t.1 t.2.1 t.2.2.1) _=_
  rcases flat_Find (n:=n) (f:=flatS s) (by show (s.2.2.2.1.flatMap rowsV).length<_;omega) hl t.1 t.2.1 t.2.2.1 with ⟨h1,h2⟩ | ⟨j,h1,h2,h4⟩
  · rw[hrf]at h2
    rw[h2]at hve
    have hve:veOf s t.1 t.2.1 t.2.2.1=none:=hve.symm
    rw[hve]at hv
    injection hv with hv1 hv2
    injection hv2 with hv2 _
    subst hv1;subst hv2
    rw[h1,bnd_some]
    change bIf true (bnd ycI.f _) _=_
    rw[yap,ha,bnd_some]
    change bIf true (bIf true (bIf true (bnd (ybE.f n (ydy s) (flatS s)) _) _) _) _=_
    rw[yap,yap,yap,hsp,bnd_some]
  · rw[hrf]at h4
    rw[h4]at hve
    have hve:veOf s t.1 t.2.1 t.2.2.1=some ((flatS s).2.2.2.2.1.getD j (Va.dflt yaB)).2.2.1:=hve.symm
    rw[hve]at hv
    injection hv with hv1 hv2
    injection hv2 with hv2 _
    subst hv1;subst hv2
    have hvt:(tags ((flatS s).2.2.2.2.1.getD j (Va.dflt yaB)).2.2.1).length<n:=by
      have hr:=ybr (d:=Va.dflt yaB) h1
      obtain⟨b,hb,hr⟩:=List.mem_flatMap.1 hr
      unfold rowsV at hr
      obtain⟨o,ho',hr⟩:=List.mem_flatMap.1 hr
      obtain⟨v,hv,e⟩:=List.mem_map.1 hr
      rw[← e]
      exact (((hs.bk b hb).ob o ho').list.all v hv).tags.1
    rw[h2,bnd_some]
    dsimp only
    rw[decide_eq_false (show ¬ (j:Int)<0 by omega),yam,ha,bnd_some]
    change bIf true (bIf true (gIf _ _) _) _=_
    rw[yap,yap,yaq ⟨by show (0:Int)≤(j:Int);omega,by show (j:Int)<(((flatS s).2.2.2.2.1.length:Nat):Int);omega⟩,Int.toNat_natCast,Nat.zero_add]
    change bnd (ya1.f n ((flatS s).2.2.2.2.1.getD j (Va.dflt yaB)).2.2.1 ((flatS s).2.2.2.2.1.getD j (Va.dflt yaB)).2.2.1) _=_
    rw[sameV17 (by omega) hvt,bnd_some,sameV_refl]
    change bIf true (bnd (ybE.f n (ydy s) (flatS s)) _) _=_
    rw[yap,hsp,bnd_some]
theorem law_J1 (h3:300≤n) (hn:n≤16777216) {s:yaf} (hs:StS n s) (hst:ydE s=true) (hl:(s.2.2.2.1.flatMap rowsV).length<n) (t:Spot) (o:yad) (eo:Int) (v:yak) (e:Int) (ho:(o,eo,())=(orNo nilO (obOf s t.1 t.2.1))) (hv:(v,e,())=(orNo nilV (veOf s t.1 t.2.1 t.2.2.1))) :
    yaY.J1 n (eo,e,ydy s,s,t,o,v,flatS s,())=some (true,()):=by
  have h2:=law_J2 h3 hn hs hst hl t v e hv
  rw[yaY.e1,ref15_Object (by omega) hs hst,bnd_some]
  simp only[yaS]
  cases hO:obOf s t.1 t.2.1 with
  | none=>
    rw[hO]at ho
    injection ho with h1 h4
    injection h4 with h4 _
    subst h1;subst h4
    change bIf false _ (bIf true (bIf false _ (bnd (ybk.f n nilO nilO) _)) _)=_
    rw[yam,yap,yam,ref13_Same (by omega) (a:=nilO) ⟨by show 0<n;omega,λv hv=>nomatch hv⟩,bnd_some,sameOb_refl]
    change bIf (!true) _ (yaY.J2 n (e,ydy s,t,v,flatS s,()))=_
    rw[Bool.not_true,yam,h2]
  | some o'=>
    rw[hO]at ho
    injection ho with h1 h4
    injection h4 with h4 _
    subst h1;subst h4
    have hob:OB n o:=by
      unfold obOf at hO
      cases hb:bkOf s t.1 with
      | none=>rw[hb]at hO;exact nomatch hO
      | some b=>
        rw[hb]at hO
        exact (hs.bk b (bk_mem hb).2.1).ob o (List.mem_of_find?_eq_some hO)
    change bIf false _ (bIf false _ (bnd (ybk.f n o o) _))=_
    rw[yam,yam,ref13_Same (by omega) (obB_of hob),bnd_some,sameOb_refl]
    change bIf (!true) _ (yaY.J2 n (e,ydy s,t,v,flatS s,()))=_
    rw[Bool.not_true,yam,h2]
theorem lawFinds (h3:300≤n) (hn:n≤16777216) {s:yaf} (hs:StS n s) (hl:(s.2.2.2.1.flatMap rowsV).length<n) (t:Spot):yaY.f n s t=some (true,()):=by
  have ha:ycI.f=some (true,()):=rfl
  have hbl:=hs.len
  have hsl:(ydy s).length≤16777216:=by
    cases hst:ydE s with
    | true=>rw[spots_len hst];omega
    | false=>unfold ydy;rw[hst,if_neg (by decide)];exact Nat.zero_le _
  obtain⟨x,hx⟩:=big_any (n:=n) (by omega) (stB_of hs)
  rw[yaY.e0,hx,bnd_some]
  simp only[yaS]
  cases x with
  | true=>rw[yap,ha,bnd_some]
  | false =>
    rw[yam,bucket_is h3 (by omega) hs,bnd_some,object_is h3 (by omega) hs,bnd_some,find_is h3 (by omega) hs,bnd_some,meta_Spots h3 hn hs hsl,bnd_some,ref15_Sound h3 (by omega) hs,bnd_some]
    dsimp only
    cases hst:ydE s with
    | false=>
      have hB:bkOf s t.1=none:=by unfold bkOf;rw[hst];rfl
      have hO:obOf s t.1 t.2.1=none:=by unfold obOf;rw[hB];rfl
      have hV:veOf s t.1 t.2.1 t.2.2.1=none:=by unfold veOf;rw[hO];rfl
      have hS:ydy s=[]:=by unfold ydy;rw[hst];rfl
      rw[Bool.not_false,yap,ha,bnd_some,hB,hO,hV,hS]
      change bIf true (bIf true (bIf true (bIf true (bIf true (bIf (eqS (⟨#[]⟩:ByteArray) ⟨#[]⟩) (bIf (eqS (⟨#[]⟩:ByteArray) ⟨#[]⟩) (some (true,())) _) _) _) _) _) _) _=_
      rw[ycV,yap,yap,yap,yap,yap,yap,yap]
    | true=>
      have hp:=(st_parts hst).1
      rw[Bool.not_true,yam,ref15_From (by omega) hs,bnd_some]
      have hfl:(flatS s).2.2.2.1=s.2.2.2.1.map bare:=rfl
      have hlm:∀ nm,lookK nameB (flatS s).2.2.2.1 nm=(lookK nameB s.2.2.2.1 nm).map bare:=λnm=>by
        rw[hfl]
        unfold lookK
        rw[List.find?_map]
        rfl
      change bnd (ya6.f n (flatS s) t.1) _=_
      have hJ1:=λo eo v e h1 h2=>law_J1 (n:=n) h3 hn hs hst hl t o eo v e h1 h2
      rcases flat_Bucket (n:=n) (f:=flatS s) (by rw[hfl,List.length_map];omega) (by rw[hfl,List.length_map];omega) t.1 with ⟨h1,h2⟩ | ⟨j,h1,h2,h4,h5⟩
      · rw[hlm,Option.map_eq_none_iff]at h2
        have hB:bkOf s t.1=none:=by unfold bkOf;rw[if_pos hst];exact h2
        rw[h1,bnd_some,hB]
        change bIf true (bIf false _ (bIf (!eqS (⟨#[]⟩:ByteArray) ⟨#[]⟩) _ (yaY.J1 n (_,_,ydy s,s,t,_,_,flatS s,())))) _=_
        rw[ycV,yap,yam,Bool.not_true,yam]
        exact hJ1 _ _ _ _ (by cases obOf s t.1 t.2.1<;>rfl) (by cases veOf s t.1 t.2.1 t.2.2.1<;>rfl)
      · have hjl:j<s.2.2.2.1.length:=by rw[hfl,List.length_map]at h1;exact h1
        have hbare:((flatS s).2.2.2.1.getD j (Va.dflt yaa)).1=(s.2.2.2.1[j]).1:=by
          rw[hfl,List.getD_eq_getElem?_getD,List.getElem?_map,List.getElem?_eq_getElem hjl];rfl
        cases hL:lookK nameB s.2.2.2.1 t.1 with
        | none=>rw[hlm,hL]at h4;exact nomatch h4
        | some b=>
          have hB:bkOf s t.1=some b:=by unfold bkOf;rw[if_pos hst];exact hL
          obtain⟨_,hbm,hbn⟩:=bk_mem hB
          obtain⟨k,hk,hkb⟩:=List.getElem_of_mem hbm
          have hjk:j=k:=key_inj (key:=nameB) hp hjl hk (by
            show (s.2.2.2.1[j]).1=(s.2.2.2.1[k]).1
            rw[hkb,hbn,← hbare];exact eqOf h5)
          subst hjk
          rw[h2,bnd_some,hB]
          dsimp only
          rw[decide_eq_false (show ¬ (j:Int)<0 by omega),yam]
          change bIf false _ (gIf _ (bnd (yaM.f n b (s.2.2.2.1.getD (j:Int).toNat (Va.dflt yaa))) _))=_
          rw[yam,yaq ⟨by show (0:Int)≤(j:Int);omega,by show (j:Int)<((s.2.2.2.1.length:Nat):Int);omega⟩,Int.toNat_natCast,getD_at _ hjl,hkb,ref15_SameBucket (by omega) (bkB_of (hs.bk b hbm)),bnd_some,sameBk_refl]
          change bIf (!true) _ (yaY.J1 n (_,_,ydy s,s,t,_,_,flatS s,()))=_
          rw[Bool.not_true,yam]
          exact hJ1 _ _ _ _ (by cases obOf s t.1 t.2.1<;>rfl) (by cases veOf s t.1 t.2.1 t.2.2.1<;>rfl)
end
end Go.Proofs.YtemhlkdingkjnaaGreatDoor
namespace Go.Proofs.YtemhlkdingkjnaaGreatDoor
open Go Go.Va Go.Proofs Go.ChangeShapes Go.WideShapes Go.ChangeAt Go.RowKit
theorem rowsV_le (b:yab):(rowsV b).length≤vol yaa b:=by
  rw[vol_Bk]
  unfold rowsV
  have h1:(b.2.2.2.2.1.flatMap λo=>o.2.1.map (rowV b o)).length≤(b.2.2.2.2.1.map (vol yag)).sum:=flat_le λo _=>by
    rw[vol_Ob,List.length_map]
    have l1:=vol_len (e:=yae) (l:=o.2.1) (λx _=>by rw[vol_Ver];omega)
    omega
  omega
theorem rows_lt {s:yaf}(h:vol yah s<2097152):(s.2.2.2.1.flatMap rowsV).length<2097152:=by
  rw[vol_St]at h
  have:(s.2.2.2.1.flatMap rowsV).length≤(s.2.2.2.1.map (vol yaa)).sum:=flat_le λb _=>rowsV_le b
  omega
def zP:Array Value := #[Value.string (⟨#[]⟩:ByteArray),Value.string (⟨#[]⟩:ByteArray),Value.int IntKind.u64 0]
def dP {H:Type}:DataW H := .agg [.lit (.string []),.lit (.string []),.lit (.int .u64 0)]
end Go.Proofs.YtemhlkdingkjnaaGreatDoor
