/-
  Va, part 30: functions that are proved by hand, whose result is a row of their own.
-/
import Derived.Test.YtnejdhgbpefanaaGreatDoorVaTree
set_option linter.unusedVariables false
set_option linter.unusedSimpArgs false
namespace Go.Va
open Go
theorem Grow.alloc (w:World)(o:Obj):Grow w (w.alloc o):=Grow.push w o
theorem leaf_row_ok [Gl] {P : Program} {fid t : Nat} {e : Ty} {as : List Ai} {f : DIn as → Option (DOut as [(t, .val (.r 0 e))])} (hfn : ∃ fn, P.funcs[fid]? = some fn ∧ (fn.name == "runtime.NumGoroutine") = false ∧ fn.body.isNone = false)
    (hbn:boxSig 0 as=[]) (hheap:∀ v,heapAll (inSig 0 as) v=[])
    (h:∀ v u,f v=some u→∀ E w vals,GlOk E w→C E w (listAV (argAVs 0 as v)) vals→Calls P fid vals.toArray w λen w'=>
      ∃ (cs:Array Value) (ty:TypeId),en = .returned (.slice (some ⟨w.heap.size,0,none⟩) (List.length (α:=Den e) u.1) (List.length (α:=Den e) u.1))∧w'=w.alloc (.cells cs ty)∧∀ S w',RdL (Rd S w' e) u.1 cs.toList):FnOk P fid as [(t,.val (.r 0 e))] f:=by
  refine⟨hfn,λv u hv P0 S0 E w vals hh hc=>(h v u hv E w vals hh.gl hc).mono ?_⟩
  rintro en w' ⟨cs,ty,rfl,rfl,hr⟩
  have e1:heapOf (inSig 0 as) v=λ_ => .un:=by unfold heapOf;rw[hheap];rfl
  rw[e1]at hh
  have hblk:(w.alloc (.cells cs ty)).heap[w.heap.size]?=some (.cells cs ty):=by
    show (w.heap.push _)[w.heap.size]?=_
    simp
  have ho:OREL (E.new (nmO 0) (some w.heap.size) ⟨.row e,cs.size,List.length (α:=Den e) u.1⟩) (w.alloc (.cells cs ty)) (nmO 0) (.row e u.1):=by
    refine⟨cs.size,by simp[Env.new],?_⟩
    simp only[Env.new,if_true]
    exact⟨cs,ty,(0,0),cs.toList,[],hblk,.inl rfl,rfl,by simp,hr _ _⟩
  obtain⟨g1,g2⟩:=hh.new (q:=nmO 0) (b:=some w.heap.size) rfl (Grow.alloc w _) (λx hx=>by injection hx with hx;omega) ho
  refine⟨_,_,rfl,?_,g2.pub,?_⟩
  · have e2:heapOf (gOut as [(t,.val (.r 0 e))]) u=upd1 (nmO 0) (.live (.row e u.1)) (λ_ => .un):=by
      have:∀ (g:List Si),g=[]→∀ (z:Den (Ty.slice e)) (y:Dens g),heapOf (.val t (Sh.nm (.r 0 e) (nmO 0))::g) (z,y)=upd1 (nmO 0) (.live (.row e z)) (λ_ => .un):=by
        intro g hg;subst hg;intro z y;rfl
      exact this _ hbn u.1 u.2
    rw[e2];exact g1
  · have:oneAV (outAVs id id 0 [(t,.val (.r 0 e))] (boxSig 0 as) u) = .ow (nmO 0) e none:=rfl
    rw[this,V_one rfl]
    have hl:cs.size=List.length (α:=Den e) u.1*e.sz:=by
      rw[← Array.length_toList,RdL.length (λx c=>Rd.length (λ_=>True) w e x c) u.1 cs.toList (hr _ _)]
    refine⟨some ⟨w.heap.size,0,none⟩,_,_,rfl,.inl rfl,λL hL => ?_⟩
    simp only[Env.new,if_true]at hL
    injection hL with hL
    subst hL
    refine⟨rfl,0,⟨rfl,rfl⟩,by simp,?_⟩
    simp only[Env.new,if_true]
    exact⟨.inr (by simp),Nat.le_refl _,by simp[hl],by simp⟩
end Go.Va
