/- A range over an own map: the laws at the operations. -/
import Derived.Test.YtemhlkdingkjnaaGreatDoorVaSort
import Derived.Test.YtemhlkdingkjnaaGreatDoorVaTab
import Derived.Maps.RangeRun
import Derived.Maps.Range
import Derived.Tactics
set_option linter.unusedVariables false
set_option linter.unusedSimpArgs false
namespace Go.Va
open Go Go.ChangeMaps
structure ItOk (w:World)(b r:Nat)(es:Array MapEntry)(ck:Nat)(vis:List MapEntry)(seen:Array Nat):Prop where
  map:w.heap[b]?=some (.map es ck)
  it:w.heap[r]?=some (.mapIter (some b) ck seen ck)
  seen:seen.toList=vis.map λe=>e.born
  sub:∀ e∈vis,e∈es.toList
  nd:vis.Pairwise λx y=>x.born≠y.born
theorem ItOk.kept {w w':World}{b r:Nat}{es:Array MapEntry}{ck:Nat}{vis:List MapEntry}{seen:Array Nat}{row:Option Nat}(h:ItOk w b r es ck vis seen)(hg:w.grownBy w' row)(hb:some b≠row)(hr:some r≠row):ItOk w' b r es ck vis seen:=
  ⟨(hg.block b (Array.getElem?_eq_some_iff.1 h.map).1 hb).trans h.map,(hg.block r (Array.getElem?_eq_some_iff.1 h.it).1 hr).trans h.it,h.seen,h.sub,h.nd⟩
theorem stamp_inj {es:List MapEntry} (h:es.Pairwise λx y=>x.born≠y.born) {x y:MapEntry} (hx:x∈es) (hy:y∈es) (e:x.born=y.born):x=y:=by
  induction es with
  | nil=>exact nomatch hx
  | cons z l ih=>
    cases h with
    | cons h1 h2=>
      rcases List.mem_cons.1 hx with ex | mx
      · rcases List.mem_cons.1 hy with ey | my
        · exact ex.trans ey.symm
        · rw[ex]at e;exact absurd e (h1 y my)
      · rcases List.mem_cons.1 hy with ey | my
        · rw[ey]at e;exact absurd e.symm (h1 x mx)
        · exact ih h2 mx my
theorem born_nodup {es:List MapEntry}(h:es.Pairwise λx y=>x.born≠y.born):(es.map λe=>e.born).Nodup:=List.pairwise_map.2 h
theorem es_nodup {es:List MapEntry}(h:es.Pairwise λx y=>x.born≠y.born):es.Nodup:=h.imp fun {x y} hne e=>hne (by rw[e])
theorem ItOk.all {w:World}{b r:Nat}{es:Array MapEntry}{ck:Nat}{vis:List MapEntry}{seen:Array Nat}(h:ItOk w b r es ck vis seen)(hs:StampL es.toList ck)(h0:(leftOf es seen).size=0):vis.Perm es.toList:=by
  refine (List.perm_ext_iff_of_nodup (es_nodup h.nd) (es_nodup hs.2)).2 λe=>⟨h.sub e,λhe => ?_⟩
  have hc:=all_seen es seen h0 e he
  have hm:e.born∈seen.toList:=by simpa using hc
  rw[h.seen]at hm
  obtain⟨v,hv,hb⟩:=List.mem_map.1 hm
  rw[← stamp_inj hs.2 (h.sub v hv) he hb]
  exact hv
theorem heap_set_it {w1:World}{r:Nat}{o o':Obj}(h:w1.heap[r]?=some o):(setBlock w1 r o').heap[r]?=some o'∧∀ k,k≠r→(setBlock w1 r o').heap[k]?=w1.heap[k]?:=by
  have hr:r<w1.heap.size:=(Array.getElem?_eq_some_iff.1 h).1
  constructor
  · simp[setBlock,hr]
  · intro k hk
    simp[setBlock,Array.getElem?_setIfInBounds,Ne.symm hk]
section
variable {P:Program} {ops:Array Oper} {rest:List Oper} {o:Oper} {a:Act} {Q:Exit→Act→World→Prop}
theorem wpList_range_it {w:World}(hg:o.guard=none)(m:Operand)(t:TypeId)(hop:o.op=Op.range t m){k e:TypeId}(ht:P.underlying t=some (.map k e)){b:Nat}{es:Array MapEntry}{ck:Nat}(hm:a.eval m = .map (some b))(hb:w.heap[b]?=some (.map es ck))
    (hK:ItOk (w.alloc (.mapIter (some b) ck #[] ck)) b w.heap.size es ck [] #[]→wpList P ops Q rest (a.put o.dst (.pointer (some ⟨w.heap.size,0,none⟩))) (w.alloc (.mapIter (some b) ck #[] ck))) :
    wpList P ops Q (o::rest) a w:=by
  refine wpList_plain hg λK' hK' => ?_
  have hrun:=run_range_map (P:=P) w t k e b es ck ht hb
  unfold Oper.wp
  simp[execOp,hop,hm,hrun,Result.andThen]
  refine hK' _ _ (hK ⟨?_,?_,rfl,λe he=>(nomatch he),.nil⟩)
  · exact ((MapKept.heap_alloc w _).2 b (Array.getElem?_eq_some_iff.1 hb).1).trans hb
  · exact (MapKept.heap_alloc w _).1
theorem wpList_next_it {w:World}(hg:o.guard=none)(it:Operand)(hop:o.op=Op.next it false){b r:Nat}{es:Array MapEntry}{ck:Nat}{vis:List MapEntry}{seen:Array Nat}(hit:a.eval it = .pointer (some ⟨r,0,none⟩))(h:ItOk w b r es ck vis seen)(hs:StampL es.toList ck)
    (hDone:vis.Perm es.toList→wpList P ops Q rest (a.put o.dst (.tuple #[.bool false])) w)
    (hMore:∀ e w' seen',e∈es.toList→ItOk w' b r es ck (vis++[e]) seen'→(leftOf es seen').size<(leftOf es seen).size→w.grownBy w' (some r)→w'.heap.size=w.heap.size→(Instr.entry (.pointer (some ⟨r,0,none⟩))).run P w' = .ok (.tuple #[e.key,e.val]) w' →
      wpList P ops Q rest (a.put o.dst (.tuple #[.bool true,e.key,e.val])) w') :
    wpList P ops Q (o::rest) a w:=by
  refine wpList_plain hg λK' hK' => ?_
  unfold Oper.wp
  rcases run_next_at (P:=P) w o.type r b ck ck seen es ck h.it h.map hs.1 (Nat.le_refl _) with ⟨h0,hrun⟩ | ⟨e,he,w1,hal,hrun⟩
  · simp[execOp,hop,hit,hrun,Result.andThen]
    exact hK' _ _ (hDone (h.all hs h0))
  · obtain⟨hem,hes⟩:=Go.mem_left he
    have hne:b≠r:=λe1=>by
      have h1:=h.map
      have h2:=h.it
      rw[e1,h2]at h1
      exact nomatch h1
    have hr1:w1.heap[r]?=some (.mapIter (some b) ck seen ck):=by rcases hal with rfl | rfl<;>exact h.it
    have hb1:w1.heap[b]?=some (.map es ck):=by rcases hal with rfl | rfl<;>exact h.map
    have hset:=heap_set_it (o' := .mapIter (some b) ck (seen.push e.born) ck) hr1
    have hb':(setBlock w1 r (.mapIter (some b) ck (seen.push e.born) ck)).heap[b]?=some (.map es ck):=(hset.2 b hne).trans hb1
    have hnew:∀ v∈vis,v.born≠e.born:=λv hv e1=>by
      have:e.born∈seen.toList:=by rw[h.seen];exact List.mem_map.2 ⟨v,hv,e1⟩
      have:seen.contains e.born=true:=by simpa using this
      rw[this]at hes
      exact nomatch hes
    simp[execOp,hop,hit,hrun,Result.andThen]
    refine hK' _ _ (hMore e _ (seen.push e.born) hem ⟨hb',hset.1,by rw[Array.toList_push,h.seen,List.map_append];rfl,λv hv => ?_,?_⟩ (left_shrinks es seen e he) ?_ ?_ (run_entry_at _ r b ck seen es ck e hset.1 hb' hem (born_nodup hs.2)))
    · rcases List.mem_append.1 hv with hv | hv
      · exact h.sub v hv
      · rw[show v=e by simpa using hv];exact hem
    · rw[List.pairwise_append]
      refine⟨h.nd,List.pairwise_singleton _ _,λx hx y hy => ?_⟩
      rw[show y=e by simpa using hy]
      exact hnew x hx
    · rcases hal with rfl | rfl<;>exact⟨rfl,rfl,rfl,by simp[setBlock],λi _ hi=>hset.2 i (λe1=>hi (by rw[e1]))⟩
    · rcases hal with rfl | rfl<;>simp[setBlock]
end
end Go.Va
