/-
  Va, part 30: functions that are proved by hand, whose result is a row of their own.
-/
import Derived.Test.YtdlkpmohjhjmfaaGreatDoorVaTree
set_option linter.unusedVariables false
set_option linter.unusedSimpArgs false
namespace Go.Va
open Go
theorem Grow.alloc (w:World)(o:Obj):Grow w (w.alloc o):=Grow.push w o
theorem leaf_row_ok [Gl] {P : Program} {fid t : Nat} {e : Ty} {as : List Ai} {f : DIn as → Option (DOut as [(t, .val (.r 0 e))])} (hfn : ∃ fn, P.funcs[fid]? = some fn ∧ (fn.name == "runtime.NumGoroutine") = false ∧ fn.body.isNone = false)
  (hbn:boxSig 0 as=[]) (hheap:∀ v,ycU (inSig 0 as) v=[])
  (h:∀ v u,f v=some u→∀ E w vals,GlOk E w→C E w (ydN (yeK 0 as v)) vals→Calls P fid vals.toArray w λen w'=>
   ∃ (cs:Array Value) (ty:TypeId),en = .returned (.slice (some ⟨w.heap.size,0,none⟩) (List.length (α:=Den e) u.1) (List.length (α:=Den e) u.1))∧w'=w.alloc (.cells cs ty)∧∀ S w',RdL (Rd S w' e) u.1 cs.toList):FnOk P fid as [(t,.val (.r 0 e))] f:=by
 refine⟨hfn,λv u hv P0 S0 E w vals hh hc=>(h v u hv E w vals hh.gl hc).mono ?_⟩
 rintro en w' ⟨cs,ty,rfl,rfl,hr⟩
 have e1:yev (inSig 0 as) v=λ_ => .un:=by unfold yev;rw[hheap];rfl
 rw[e1]at hh
 have hblk:(w.alloc (.cells cs ty)).heap[w.heap.size]?=some (.cells cs ty):=by
  show (w.heap.push _)[w.heap.size]?=_
  simp
 have ho:OREL (E.new (nmO 0) (some w.heap.size) ⟨.row e,cs.size,List.length (α:=Den e) u.1⟩) (w.alloc (.cells cs ty)) (nmO 0) (.row e u.1):=by
  refine⟨cs.size,by simp[Env.new],?_⟩
  simp only[Env.new,if_true]
  exact⟨cs,ty,(0,0),cs.toList,[],hblk,.inl rfl,rfl,by simp,hr _ _⟩
 obtain⟨g1,g2⟩:=hh.new (q:=nmO 0) (b:=some w.heap.size) rfl (Grow.alloc w _) (λx hx=>by injection hx with hx;omega) ho
 refine⟨_,_,rfl,?_,g2.pub,?_⟩
 ·have e2:yev (gOut as [(t,.val (.r 0 e))]) u=upd1 (nmO 0) (.live (.row e u.1)) (λ_ => .un):=by
   have:∀ (g:List Si),g=[]→∀ (z:Den (Ty.slice e)) (y:Dens g),yev (.val t (Sh.nm (.r 0 e) (nmO 0))::g) (z,y)=upd1 (nmO 0) (.live (.row e z)) (λ_ => .un):=by
    intro g hg;subst hg;intro z y;rfl
   exact this _ hbn u.1 u.2
  rw[e2];exact g1
 ·have:oneAV (yfD id id 0 [(t,.val (.r 0 e))] (boxSig 0 as) u) = .ow (nmO 0) e none:=rfl
  rw[this,V_one rfl]
  have hl:cs.size=List.length (α:=Den e) u.1*e.sz:=by
   rw[← Array.length_toList,RdL.length (λx c=>Rd.length (λ_=>True) w e x c) u.1 cs.toList (hr _ _)]
  refine⟨some ⟨w.heap.size,0,none⟩,_,_,rfl,.inl rfl,λL hL => ?_⟩
  simp only[Env.new,if_true]at hL
  injection hL with hL
  subst hL
  refine⟨rfl,0,⟨rfl,rfl⟩,by simp,?_⟩
  simp only[Env.new,if_true]
  exact⟨.inr (by simp),Nat.le_refl _,by simp[hl],by simp⟩
theorem leaf_map_ok [Gl] {P : Program} {fid t : Nat} {as : List Ai} {f : DIn as → Option (DOut as [(t, .dat .smap)])} (hfn : ∃ fn, P.funcs[fid]? = some fn ∧ (fn.name == "runtime.NumGoroutine") = false ∧ fn.body.isNone = false)
  (hheap:∀ v,ycU (inSig 0 as) v=[]) (hout:∀ u,ycU (gOut as [(t,.dat .smap)]) u=[]) (hbn:boxSig 0 as=[])
  (h:∀ v u,f v=some u→∀ E w vals,GlOk E w→C E w (ydN (yeK 0 as v)) vals→Calls P fid vals.toArray w λen w'=>
   ∃ (x:Value) (b:Nat),en = .returned x∧Grow w w'∧w.heap.size≤b∧b<w'.heap.size∧∀ S:Nat→Prop,S b→Rd S w' .smap u.1 [x]):FnOk P fid as [(t,.dat .smap)] f:=by
 refine⟨hfn,λv u hv P0 S0 E w vals hh hc=>(h v u hv E w vals hh.gl hc).mono ?_⟩
 rintro en w' ⟨x,b,rfl,hg,hb1,hb2,hx⟩
 have e1:yev (inSig 0 as) v=λ_ => .un:=by unfold yev;rw[hheap];rfl
 have e2:yev (gOut as [(t,.dat .smap)]) u=λ_ => .un:=by unfold yev;rw[hout];rfl
 have h2:=hh.grow hg
 rw[e1]at h2
 have k1:Ext P0 E w' { E with S:=λc=>E.S c∨c=b } w':=⟨λ_ h => .inl h,.refl _ _,.refl _ _,λ_ h=>⟨h,.inr ⟨rfl,rfl⟩⟩⟩
 have k0:Ext P0 E w E w':=Ext.grow (P0:=P0) hg
 refine⟨{ E with S:=λc=>E.S c∨c=b },x,rfl,?_,(k0.trans k1).pub,?_⟩
 ·rw[e2]
  refine⟨λr=>EREL.ext k1 Iff.rfl rfl rfl (λ_ _=>rfl) (h2.ent r),h2.inj,λr c hl _=>by simp[Ent.isLive]at hl,?_,h2.pIn,?_,GlOk.ext k1 h2.gl⟩
  ·rintro c (hc | rfl)
   ·exact h2.sIn c hc
   ·exact hb2
  ·rintro c (hc | rfl)
   ·exact h2.s0 c hc
   ·exact .inr (λhp=>absurd (hh.pIn _ hp) (by omega))
 ·have:∀ (g:List Si) (hg:g=[]) (z:List (ByteArray×Int)) (y:Dens g),oneAV (yfD id id 0 [(t,.dat .smap)] g (z,y)) = .data .smap z:=by
   intro g hg;subst hg;intro z y;rfl
  rw[this _ hbn u.1 u.2,V_one rfl]
  exact hx _ (.inr rfl)
end Go.Va
