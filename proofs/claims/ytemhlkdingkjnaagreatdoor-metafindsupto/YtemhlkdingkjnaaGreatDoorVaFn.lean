/-
  Va, part 27: functions: what is handed in, what comes back; a body's run gives the function's law.
-/
import Derived.Test.YtemhlkdingkjnaaGreatDoorVaRun
set_option linter.unusedVariables false
set_option linter.unusedSimpArgs false
namespace Go.Va
open Go
abbrev Sh.cnt:Sh→Nat
  | .d _=>0
  | .r _ _=>1
  | .p a b=>a.cnt+b.cnt
  | .al _ _=>0
  | .m _ _ _=>1
abbrev Sh.nm:Sh→Nat→Sh
  | .d T,_ => .d T
  | .r _ e,n => .r n e
  | .p a b,n => .p (a.nm n) (b.nm (n+a.cnt))
  | .al x T,_ => .al x T
  | .m _ K V,n => .m n K V
def Sh.avR (ρ:Nat→Nat):(sh:Sh)→Den sh.ty→AV
  | .d T,x => .data T x
  | .r q e,_ => .ow (ρ q) e none
  | .p a b,x => .pr (a.avR ρ x.1) (b.avR ρ x.2)
  | .al x T,_ => .po x (.box T) []
  | .m q K V,_ => .mp (ρ q) K V
def Sh.rowsR (ρ:Nat→Nat):(sh:Sh)→Den sh.ty→List (Nat×Ent)
  | .d _,_=>[]
  | .r q e,l=>[(ρ q,.live (.row e l))]
  | .p a b,x=>a.rowsR ρ x.1++b.rowsR ρ x.2
  | .al _ _,_=>[]
  | .m q K V,l=>[(ρ q,.live (.mp K V l))]
theorem avR_id:∀ (sh:Sh) (x:Den sh.ty),sh.avR id x=sh.av x
  | .d _,_=>rfl
  | .r _ _,_=>rfl
  | .p a b,x=>by simp only[Sh.avR,Sh.av,avR_id a,avR_id b]
  | .al _ _,_=>rfl
  | .m _ _ _,_=>rfl
theorem avR_agg (ρ:Nat→Nat):∀ (sh:Sh) (x:Den sh.ty),(sh.avR ρ x).isAgg=sh.ty.agg
  | .d _,_=>rfl
  | .r _ _,_=>rfl
  | .p _ _,_=>rfl
  | .al _ _,_=>rfl
  | .m _ _ _,_=>rfl
theorem avR_ty (ρ:Nat→Nat):∀ (sh:Sh) (x:Den sh.ty),(sh.avR ρ x).ty=some sh.ty
  | .d T,x=>rfl
  | .r r e,x=>rfl
  | .p a b,x=>by simp only[Sh.avR,AV.ty,avR_ty ρ a,avR_ty ρ b]
  | .al _ _,_=>rfl
  | .m _ _ _,_=>rfl
inductive Ai where
  | val (sh:Sh)
  | ptr (sh:Sh)
  | fn (h:Hold) (caps:List Sh)
abbrev Ai.dat (T:Ty):Ai := .val (.d T)
abbrev Ai.row (e:Ty):Ai := .val (.r 0 e)
inductive Ok' where
  | v
  | new (d:Nat)
  | arg (d r:Nat)
structure Oi where
  sh:Sh
  cell:Bool
  k:Ok'
abbrev Oi.val (sh:Sh):Oi:=⟨sh,false,.v⟩
abbrev Oi.cel (sh:Sh):Oi:=⟨sh,true,.v⟩
abbrev Oi.new (d:Nat)(sh:Sh):Oi:=⟨sh,false,.new d⟩
abbrev Oi.arg (d r:Nat)(sh:Sh):Oi:=⟨sh,false,.arg d r⟩
def tyW:Nat→Ty
  | 0 => .opq 0
  | d+1 => .pair (tyW d) .unit
def Oi.rty (o:Oi):Ty:=
  match o.k with
  | .v=>o.sh.ty
  | .new d=>tyW d
  | .arg d _=>tyW d
abbrev Oi.dat (T:Ty):Oi := .val (.d T)
abbrev Oi.row (e:Ty):Oi := .val (.r 0 e)
abbrev nmA (j:Nat):Nat:=500000+2000*j
abbrev nmC (j c:Nat):Nat:=500000+2000*j+50*c
abbrev nmO (j:Nat):Nat:=1500000+2000*j
abbrev capSig (j:Nat):Nat→List Sh→List Si→List Si
  | _,[],g=>g
  | c,sh::caps,g => .bor j (some c) (nmC j c) (sh.nm (nmC j c+1))::capSig j (c+1) caps g
abbrev capRs (j:Nat):Nat→List Sh→List (Nat×Ty×Bool)
  | _,[]=>[]
  | c,sh::caps=>(nmC j c,(sh.nm (nmC j c+1)).ty,true)::capRs j (c+1) caps
abbrev capBox (j:Nat):Nat→List Sh→List Si→List Si
  | _,[],g=>g
  | c,sh::caps,g => .box (nmC j c) (sh.nm (nmC j c+1))::capBox j (c+1) caps g
def capNames (j:Nat):Nat→List Sh→List Nat→List Nat
  | _,[],l=>l
  | c,_::caps,l=>nmC j c::capNames j (c+1) caps l
def capTail (j:Nat):(c:Nat)→(caps:List Sh)→(g:List Si)→Dens (capSig j c caps g)→Dens g
  | _,[],_,v=>v
  | c,_::caps,g,v=>capTail j (c+1) caps g v.2
abbrev boxSig:Nat→List Ai→List Si
  | _,[]=>[]
  | j,.val _::as=>boxSig (j+1) as
  | j,.ptr sh::as => .box (nmA j) (sh.nm (nmA j+1))::boxSig (j+1) as
  | j,.fn _ caps::as=>capBox j 0 caps (boxSig (j+1) as)
abbrev inSig:Nat→List Ai→List Si
  | _,[]=>[]
  | j,.val sh::as => .val j (sh.nm (nmA j))::inSig (j+1) as
  | j,.ptr sh::as => .bor j none (nmA j) (sh.nm (nmA j+1))::inSig (j+1) as
  | j,.fn f caps::as => .clo j f (capRs j 0 caps)::capSig j 0 caps (inSig (j+1) as)
def bnOf:Nat→List Ai→List Nat
  | _,[]=>[]
  | j,.val _::as=>bnOf (j+1) as
  | j,.ptr _::as=>nmA j::bnOf (j+1) as
  | j,.fn _ caps::as=>capNames j 0 caps (bnOf (j+1) as)
abbrev yc0:Nat→List (Nat×Oi)→List Si→List Si
  | _,[],g=>g
  | j,(t,⟨sh,_,.v⟩)::os,g => .val t (sh.nm (nmO j))::yc0 (j+1) os g
  | j,(t,⟨sh,_,.new d⟩)::os,g => .clo t (.str d) [(nmO j,(sh.nm (nmO j+1)).ty,true)] :: .bor t (some 0) (nmO j) (sh.nm (nmO j+1))::yc0 (j+1) os g
  | j,(t,⟨sh,_,.arg d r⟩)::os,g => .clo t (.str d) [(r,sh.ty,false)]::yc0 (j+1) os g
def ydp:(j:Nat)→(as:List Ai)→Dens (inSig j as)→List AV
  | _,[],_=>[]
  | j,.val sh::as,v=>(sh.nm (nmA j)).av v.1::ydp (j+1) as v.2
  | j,.ptr sh::as,v => .po (nmA j) (.box (sh.nm (nmA j+1)).ty) []::ydp (j+1) as v.2
  | j,.fn h caps::as,v=>holdAV h (capsAV (capRs j 0 caps))::ydp (j+1) as (capTail j 0 caps (inSig (j+1) as) v)
def outAVs (ρ σ:Nat→Nat):(j:Nat)→(os:List (Nat×Oi))→(g:List Si)→Dens (yc0 j os g)→List AV
  | _,[],_,_=>[]
  | j,(_,⟨sh,_,.v⟩)::os,g,u=>(sh.nm (nmO j)).avR ρ u.1::outAVs ρ σ (j+1) os g u.2
  | j,(_,⟨sh,_,.new d⟩)::os,g,u=>wrapP d (.po (ρ (nmO j)) (.box (sh.nm (nmO j+1)).ty) [])::outAVs ρ σ (j+1) os g u.2
  | j,(_,⟨sh,_,.arg d r⟩)::os,g,u=>wrapP d (.po (σ r) (.box sh.ty) [])::outAVs ρ σ (j+1) os g u
def oneAV:List AV→AV
  | [v]=>v
  | l => .tup (ycn l)
abbrev DIn (as:List Ai):Type:=Dens (inSig 0 as)
abbrev gOut (as:List Ai)(os:List (Nat×Oi)):List Si:=yc0 0 os (boxSig 0 as)
abbrev DOut (as:List Ai)(os:List (Nat×Oi)):Type:=Dens (gOut as os)
def ydh (g:List Si)(v:Dens g):Nat→Ent:=updL (ybT g v) λ_ => .un
structure FnOk [Gl](P:Program)(fid:Nat)(as:List Ai)(os:List (Nat×Oi))(f:DIn as→Option (DOut as os)):Prop where
  fn : ∃ fn, P.funcs[fid]? = some fn ∧ (fn.name == "runtime.NumGoroutine") = false ∧ fn.body.isNone = false
  run:∀ v u,f v=some u→∀ P0 S0 E w vals,HREL P0 S0 E (ydh (inSig 0 as) v) w→C E w (ycn (ydp 0 as v)) vals →
    Calls P fid vals.toArray w λen w'=>∃ E' x,en = .returned x∧HREL P0 S0 E' (ydh (gOut as os) u) w'∧Pub (bnOf 0 as) P0 E w E' w'∧V E' w' (oneAV (outAVs id id 0 os (boxSig 0 as) u)) x
def loadR:List (Nat×Oi)→St→Option St
  | [],s=>some s
  | (t, o)::os,s=>if o.cell=true then
      match getAt .bad s.sl t with
      | .po q (.box T) []=>match s.look q with
        | .live (.box T' c)=>if T'=T∧T=o.rty then loadR os ⟨setAt s.sl t c,s.hp⟩ else none
        | _=>none
      | _=>none
    else loadR os s
def endTo {R:Type}(bn:List Nat)(os:List (Nat×Oi))(g:List Si)(s:St)(k:Dens g→Option R):Option R:=
  match loadR os s with
  | some s=>cutTo bn g s k
  | none=>none
def endK (as:List Ai)(os:List (Nat×Oi)):KK (DOut as os)
  | .nrm,s=>endTo (bnOf 0 as) os (gOut as os) s some
  | .ret,s=>endTo (bnOf 0 as) os (gOut as os) s some
  | .ex _,_=>none
def resFits (tab:List (Nat×TE)):List ResultVar→List (Nat×Oi)→Bool
  | [],[]=>true
  | .tmp t::rs,(t',o)::os=>t==t'&&!o.cell&&resFits tab rs os
  | .cell a t::rs,(a',o)::os=>a==a'&&o.cell&&(match findT tab t with | some te=>decide (te.T=o.rty) | none=>false)&&resFits tab rs os
  | _,_=>false
def fnFits (tab:List (Nat×TE)) (fn:Func) (n:Nat) (as:List Ai) (os:List (Nat×Oi)):Bool:=
  !(fn.name == "runtime.NumGoroutine") && (fn.ntmps == n) && decide (as.length ≤ n) &&
    resFits tab fn.results.toList os&&nodup (os.map Prod.fst)&&os.all λo=>decide (o.1<n)
section
variable {P:Program}
theorem listAV_get {E:Env}{w:World}:∀ (l:List AV) (vs:List Value),C E w (ycn l) vs→l.length=vs.length∧∀ (i:Nat) (v:AV),l[i]?=some v→V E w v (vs.getD i undef)
  | [],vs,h=>by simp only[ycn,C]at h;subst h;exact⟨rfl,λi v h=>by simp at h⟩
  | a::l,vs,⟨x,vs',e,h1,h2⟩=>by
    subst e
    obtain⟨h3,h4⟩:=listAV_get l vs' h2
    refine⟨by simp[h3],λi v hi => ?_⟩
    cases i with
    | zero=>simp at hi;subst hi;exact h1
    | succ i=>simp at hi;simpa using h4 i v hi
theorem ydK:∀ (j:Nat) (as:List Ai) (v:Dens (inSig j as)),(ydp j as v).length=as.length
  | _,[],_=>rfl
  | j,.val _::as,v=>by simp[ydp,ydK (j+1) as v.2]
  | j,.ptr _::as,v=>by simp[ydp,ydK (j+1) as v.2]
  | j,.fn _ caps::as,v=>by simp[ydp,ydK (j+1) as]
theorem cap_put {j:Nat}{g:List Si}{l:List AV}:∀ (c:Nat) (caps:List Sh) (v:Dens (capSig j c caps g)),ydj (capSig j c caps g) v l=ydj g (capTail j c caps g v) l
  | _,[],_=>rfl
  | c,_::caps,v=>cap_put (c+1) caps v.2
theorem in_slots [Gl]{E:Env}{w:World}{tmps:Array Value}{l:List AV}(hl:SREL E w l tmps):∀ (as:List Ai) (j:Nat) (v:Dens (inSig j as)),(∀ (i:Nat) (a:AV),(ydp j as v)[i]?=some a→V E w a (tmps.getD (j+i) undef)) →
    SREL E w (ydj (inSig j as) v l) tmps
  | [],_,_,_=>hl
  | .val sh::as,j,v,h=>by
    have ih:=in_slots hl as (j+1) v.2 (λi a hi=>by have:=h (i+1) a (by simpa[ydp]using hi);rwa [show j+(i+1)=j+1+i by omega]at this)
    exact ih.slot j _ (h 0 _ rfl)
  | .ptr sh::as,j,v,h=>by
    have ih:=in_slots hl as (j+1) v.2 (λi a hi=>by have:=h (i+1) a (by simpa[ydp]using hi);rwa [show j+(i+1)=j+1+i by omega]at this)
    exact ih.slot j _ (h 0 _ rfl)
  | .fn f caps::as,j,v,h=>by
    have ih:=in_slots hl as (j+1) (capTail j 0 caps (inSig (j+1) as) v) (λi a hi=>by have:=h (i+1) a (by simpa[ydp]using hi);rwa [show j+(i+1)=j+1+i by omega]at this)
    rw[← cap_put]at ih
    exact ih.slot j _ (h 0 _ rfl)
theorem out_slots [Gl]{E:Env}{w:World}{tmps:Array Value}{g:List Si}{l sl:List AV}:∀ (os:List (Nat×Oi)) (j:Nat) (u:Dens (yc0 j os g)),nodup (os.map Prod.fst)=true→(∀ o∈os,o.1<l.length) →
    (∀ o∈os,getAt .bad sl o.1=getAt .bad (ydj (yc0 j os g) u l) o.1)→SREL E w sl tmps→C E w (ycn (outAVs id id j os g u)) (os.map λo=>tmps.getD o.1 undef)
  | [],_,_,_,_,_,_=>rfl
  | (t,⟨sh,c,.v⟩)::os,j,u,hn,hlt,heq,hs=>by
    obtain⟨hn1,hn2⟩:=nodup_cons hn
    have h1:=hs.val t
    have h0:=heq (t,⟨sh,c,.v⟩) (by simp)
    simp only[yc0,ydj]at h0
    rw[h0,ybI,if_pos ⟨rfl,by rw[yc1];exact hlt (t,⟨sh,c,.v⟩) (by simp)⟩]at h1
    refine⟨_,_,rfl,?_,out_slots os (j+1) u.2 hn2 (λo ho=>hlt o (by simp[ho])) (λo ho => ?_) hs⟩
    · rw[avR_id];exact h1
    · have h2:=heq o (by simp[ho])
      simp only[yc0,ydj]at h2
      rw[h2,ybI,if_neg]
      intro hh
      exact hn1 (hh.1 ▸ List.mem_map.2 ⟨o,ho,rfl⟩)
  | (t,⟨sh,c,.new d⟩)::os,j,u,hn,hlt,heq,hs=>by
    obtain⟨hn1,hn2⟩:=nodup_cons hn
    have h1:=hs.val t
    have h0:=heq (t,⟨sh,c,.new d⟩) (by simp)
    simp only[yc0,ydj]at h0
    rw[h0,ybI,if_pos ⟨rfl,by rw[yc1];exact hlt (t,⟨sh,c,.new d⟩) (by simp)⟩]at h1
    refine⟨_,_,rfl,h1,out_slots os (j+1) u.2 hn2 (λo ho=>hlt o (by simp[ho])) (λo ho => ?_) hs⟩
    have h2:=heq o (by simp[ho])
    simp only[yc0,ydj]at h2
    rw[h2,ybI,if_neg]
    intro hh
    exact hn1 (hh.1 ▸ List.mem_map.2 ⟨o,ho,rfl⟩)
  | (t,⟨sh,c,.arg d r⟩)::os,j,u,hn,hlt,heq,hs=>by
    obtain⟨hn1,hn2⟩:=nodup_cons hn
    have h1:=hs.val t
    have h0:=heq (t,⟨sh,c,.arg d r⟩) (by simp)
    simp only[yc0,ydj]at h0
    rw[h0,ybI,if_pos ⟨rfl,by rw[yc1];exact hlt (t,⟨sh,c,.arg d r⟩) (by simp)⟩]at h1
    refine⟨_,_,rfl,h1,out_slots os (j+1) u hn2 (λo ho=>hlt o (by simp[ho])) (λo ho => ?_) hs⟩
    have h2:=heq o (by simp[ho])
    simp only[yc0,ydj]at h2
    rw[h2,ybI,if_neg]
    intro hh
    exact hn1 (hh.1 ▸ List.mem_map.2 ⟨o,ho,rfl⟩)
theorem V_one_or_tup [Gl]{E:Env}{w:World}:∀ (l:List AV) (vs:List Value),C E w (ycn l) vs→V E w (oneAV l) (if h:vs.toArray.size=1 then vs.toArray[0] else .tuple vs.toArray)
  | [],vs,h=>by
    simp only[ycn,C]at h;subst h
    simp only[oneAV]
    rw[V_one rfl]
    exact⟨#[],by simp,rfl⟩
  | [a],vs,⟨x,vs',e,h1,h2⟩=>by
    simp only[ycn,C]at h2
    subst e h2
    exact h1
  | a::b::l,vs,h=>by
    have hl:=(listAV_get _ _ h).1
    simp only[oneAV]
    rw[V_one rfl,dif_neg (by simp at hl ⊢; omega)]
    exact⟨vs.toArray,rfl,by simpa using h⟩
theorem results_main [Gl] {tab:List (Nat×TE)} (hT:TabOk P tab) {P0 S0:Nat→Prop} {E:Env} {w:World} {tmps0:Array Value} (f:ResultVar→Sem Value) (hf1:∀ t,f (.tmp t)=pure (tmps0.getD t undef)) (hf2:∀ a t,f (.cell a t)=(do loadVar t (← asAddr (tmps0.getD a undef)))) :
    ∀ (rs:List ResultVar) (os:List (Nat×Oi)) (s s2:St) (tmps:Array Value),resFits tab rs os=true→nodup (os.map Prod.fst)=true→(∀ o∈os,o.1<s.sl.length)→loadR os s=some s2→HREL P0 S0 E s.look w→SREL E w s.sl tmps→(∀ o∈os,tmps.getD o.1 undef=tmps0.getD o.1 undef) →
      ∃ tmps2,s2.hp=s.hp∧s2.sl.length=s.sl.length∧SREL E w s2.sl tmps2∧(rs.mapM f:Sem (List Value)).run P w = .ok (os.map λo=>tmps2.getD o.1 undef) w∧(∀ i,i ∉ os.map Prod.fst→tmps2.getD i undef=tmps.getD i undef)
  | [],[],s,s2,tmps,_,_,_,hl,hh,hs,ha=>by
    simp only[loadR]at hl
    injection hl with hl;subst hl
    exact⟨tmps,rfl,rfl,hs,rfl,λ_ _=>rfl⟩
  | .tmp t::rs,(t',o)::os,s,s2,tmps,hfit,hn,hlt,hl,hh,hs,ha=>by
    simp only[resFits,Bool.and_eq_true,beq_iff_eq,Bool.not_eq_true']at hfit
    obtain⟨⟨rfl,hc⟩,hfit⟩:=hfit
    obtain⟨hn1,hn2⟩:=nodup_cons hn
    simp only[loadR,hc,Bool.false_eq_true,if_false]at hl
    obtain⟨tmps2,g1,g2,g3,g4,g5⟩:=results_main hT f hf1 hf2 rs os s s2 tmps hfit hn2 (λo ho=>hlt o (by simp[ho])) hl hh hs (λo ho=>ha o (by simp[ho]))
    refine⟨tmps2,g1,g2,g3,?_,λi hi=>g5 i (λh=>hi (by simp only[List.map_cons,List.mem_cons];exact .inr h))⟩
    rw[List.mapM_cons,hf1]
    simp only[Sem.run_bind,Sem.run_pure,Result.andThen_ok,g4]
    have:=g5 t hn1
    simp only[List.map_cons]
    rw[this,ha (t,o) (by simp)]
  | .cell a t :: rs,(a',o)::os,s,s2,tmps,hfit,hn,hlt,hl,hh,hs,ha=>by
    simp only[resFits,Bool.and_eq_true,beq_iff_eq]at hfit
    obtain⟨⟨⟨rfl,hc⟩,hty⟩,hfit⟩:=hfit
    obtain⟨hn1,hn2⟩:=nodup_cons hn
    simp only[loadR,hc,if_true]at hl
    split at hl
    · rename_i q T hq
      split at hl
      · rename_i T' c hlook
        split at hl
        · rename_i hTT
          obtain⟨hT1,hT2⟩:=hTT
          subst hT1
          split at hty
          · rename_i te hte
            have hteT:te.T=o.rty:=of_decide_eq_true hty
            have htT:=(hT t te hte).1
            rw[hteT,← hT2]at htT
            have hent:=hh.ent q
            rw[hlook]at hent
            have hva:=hs.val a
            rw[hq]at hva
            have hcty:c.ty=some T':=by obtain⟨_,b,cs,t,fr,k1,k2,k3,k4,k5,k6⟩:=hent;exact k5
            obtain⟨y,hy1,hy2⟩:=run_load_obj (P:=P) (p:=[]) (T':=T') (v:=c) hent.2 hva (by simp[tyL,tyT]) (by simp[getO,getA]) htT
            have hs':SREL E w (setAt s.sl a c) (tmps.setIfInBounds a y):=hs.put a c y hy2
            have hlta:=hlt (a,o) (by simp)
            have hget:∀ i,i≠a→(tmps.setIfInBounds a y).getD i undef=tmps.getD i undef:=λi hi=>by
              simp only[Array.getD_eq_getD_getElem?,Array.getElem?_setIfInBounds]
              rw[if_neg (λh=>hi h.symm)]
            obtain⟨tmps2,g1,g2,g3,g4,g5⟩:=results_main hT f hf1 hf2 rs os ⟨setAt s.sl a c,s.hp⟩ s2 _ hfit hn2 (λo ho=>by simp only[ybC];exact hlt o (by simp[ho])) hl hh hs' (λo' ho=>by
              rw[hget _ (λh=>hn1 (h ▸ List.mem_map.2 ⟨o',ho,rfl⟩))];exact ha o' (by simp[ho]))
            refine⟨tmps2,g1,by rw[g2];simp only[ybC],g3,?_,λi hi => ?_⟩
            · rw[List.mapM_cons,hf2]
              have hload:((do loadVar t (← asAddr (tmps0.getD a undef))):Sem Value).run P w = .ok y w:=by
                rw[← ha (a,o) (by simp)]
                rw[V_one rfl]at hva
                obtain⟨ad,hp,_⟩:=hva
                injection hp with hp _
                rw[hp]at hy1 ⊢
                unfold Instr.loadAt Instr.sureAddr at hy1
                simp only[Sem.run_bind,Sem.run_pure,Result.andThen_ok]at hy1
                simp only[asAddr,Sem.run_bind,Sem.run_pure,Result.andThen_ok]
                exact hy1
              simp only[Sem.run_bind,Result.andThen_ok,g4]at hload ⊢
              rw[hload]
              simp only[Result.andThen_ok,g4,Sem.run_bind,Sem.run_pure,List.map_cons]
              have:=g5 a hn1
              rw[this]
              have e:(tmps.setIfInBounds a y).getD a undef=y:=by
                have:a<tmps.size:=by rw[← hs.len];exact hlta
                simp[Array.getD_eq_getD_getElem?,Array.getElem?_setIfInBounds,this]
              rw[e]
            · rw[g5 i (λh=>hi (by simp only[List.map_cons,List.mem_cons];exact .inr h))]
              exact hget i (λh=>hi (by simp[h]))
          · exact absurd hty (by simp)
        · exact absurd hl (by simp)
      · exact absurd hl (by simp)
    · exact absurd hl (by simp)
  | .tmp _::_,[],s,s2,tmps,h,_,_,_,_,_,_=>by simp[resFits]at h
  | .cell _ _::_,[],s,s2,tmps,h,_,_,_,_,_,_=>by simp[resFits]at h
  | [],_::_,s,s2,tmps,h,_,_,_,_,_,_=>by simp[resFits]at h
theorem results_aux {fn:Func}{tmps:Array Value}{w:World}{l:List Value}(h:∀ f:ResultVar→Sem Value,(∀ t,f (.tmp t)=pure (tmps.getD t undef))→(∀ a t,f (.cell a t)=(do loadVar t (← asAddr (tmps.getD a undef))))→(fn.results.toList.mapM f).run P w = .ok l w) :
    (results fn tmps).run P w = .ok (if h:l.toArray.size=1 then l.toArray[0] else .tuple l.toArray) w:=by
  unfold results
  rw[Array.mapM_eq_mapM_toList,Sem.run_bind]
  have e:∀ (L:Sem (List Value)),(L.run P w = .ok l w)→((List.toArray <$> L).run P w = .ok l.toArray w):=by
    intro L hL
    have:(List.toArray <$> L)=(L >>= λl=>pure l.toArray):=rfl
    rw[this,Sem.run_bind,hL]
    simp[Sem.run_pure]
  rw[e]
  · simp[Sem.run_pure]
  · rw[h]
    · intro t;rfl
    · intro a t;rfl
theorem fn_ok [Gl] {x:Ctx} {fid:Nat} {fn:Func} {as:List Ai} {os:List (Nat×Oi)} {f:DIn as→Option (DOut as os)} {A:AC (DOut as os)} (hm:P.follows .mixedOrders=true) (hT:TabOk P x.c.tab) (hΦ:∀ e∈x.c.Φ,EntryOk P e)
    (hf:P.funcs[fid]?=some fn) (hb:fn.body=some A.code) (hfit:fnFits x.c.tab fn x.len as os=true) (hbn:x.bn=bnOf 0 as) (hA:A.Ok P x)
    (hrun:∀ v u,f v=some u→acRun x A (frameOf x.len (inSig 0 as) v) (endK as os)=some u):FnOk P fid as os f:=by
  unfold fnFits at hfit
  simp only[Bool.and_eq_true,Bool.not_eq_true',decide_eq_true_eq,beq_iff_eq,List.all_eq_true]at hfit
  obtain⟨⟨⟨⟨⟨f1,f2⟩,f3⟩,f4⟩,f5⟩,f6⟩:=hfit
  refine⟨⟨fn,hf,by simpa using f1,by simp[hb]⟩,λv u hv P0 S0 E w vals hh hc => ?_⟩
  have hr:=hrun v u hv
  obtain⟨hl,hg⟩:=listAV_get _ _ hc
  rw[ydK]at hl
  refine calls_of_wp hf hb ?_
  have hrel:REL P0 S0 E (frameOf x.len (inSig 0 as) v) { tmps:=vals.toArray++Array.replicate (fn.ntmps-vals.toArray.size) undef,defers:=[] } w:=by
    refine⟨hh,?_,rfl⟩
    have hsz:(vals.toArray++Array.replicate (fn.ntmps-vals.toArray.size) undef).size=x.len:=by simp[f2];omega
    refine in_slots ⟨by rw[hsz];simp,λt=>by rw[replicate_bad];exact .bad⟩ as 0 v (λi a hi => ?_)
    have hi':i<vals.length:=by
      have:=(List.getElem?_eq_some_iff.1 hi).1
      rw[ydK]at this;omega
    have:=hg i a hi
    rw[Nat.zero_add]
    have e:(vals.toArray++Array.replicate (fn.ntmps-vals.toArray.size) undef).getD i undef=vals.getD i undef:=by
      rw[Array.getD_eq_getD_getElem?,List.getD_eq_getElem?_getD,Array.getElem?_append_left (by simpa using hi')]
      simp
    rw[e];exact this
  refine acRun_ok hm hT hΦ A hA _ _ u (frame_len _ _ _) hr P0 S0 E w _ _ hrel (frame_len _ _ _) (λe s' E' a' w' h1 h2 h3 h4 => ?_)
  have fin:endTo (bnOf 0 as) os (gOut as os) s' some=some u→a'.defers=[]∧∃ v,(results fn a'.tmps).run P w' = .ok v w'∧∃ E' x,Ending.returned v = .returned x∧HREL P0 S0 E' (ydh (gOut as os) u) w'∧Pub (bnOf 0 as) P0 E w E' w'∧V E' w' (oneAV (outAVs id id 0 os (boxSig 0 as) u)) x:=by
    intro h5
    unfold endTo at h5
    split at h5
    · rename_i s2 hload
      have hrm:=λ(f:ResultVar→Sem Value) h1 h2'=>results_main (P:=P) hT (w:=w') (tmps0:=a'.tmps) f h1 h2' fn.results.toList os s' s2 a'.tmps f4 f5 (λo ho=>by rw[h3];exact f6 o ho) hload h2.h h2.s (λ_ _=>rfl)
      obtain⟨tmps2,m1,m2,m3,m4⟩:∃ tmps2,s2.hp=s'.hp∧s2.sl.length=s'.sl.length∧SREL E' w' s2.sl tmps2∧(∀ f:ResultVar→Sem Value,(∀ t,f (.tmp t)=pure (a'.tmps.getD t undef))→(∀ a t,f (.cell a t)=(do loadVar t (← asAddr (a'.tmps.getD a undef))))→(fn.results.toList.mapM f:Sem (List Value)).run P w' = .ok (os.map λo=>tmps2.getD o.1 undef) w'):=by
        let f0:ResultVar→Sem Value:=λr=>match r with
          | .tmp t=>pure (a'.tmps.getD t undef)
          | .cell a t=>do loadVar t (← asAddr (a'.tmps.getD a undef))
        obtain⟨tmps2,m1,m2,m3,m4,_⟩:=hrm f0 (λt=>rfl) (λa t=>rfl)
        refine⟨tmps2,m1,m2,m3,λf g1 g2 => ?_⟩
        have:f=f0:=by
          funext r
          cases r with
          | tmp t=>rw[g1]
          | cell a t=>rw[g2]
        rw[this];exact m4
      obtain⟨u',h6,h7⟩:=cut_ok h5
      injection h6 with h6;subst h6
      have hrel2:REL P0 S0 E' s2 { tmps:=tmps2,defers:=[] } w':=⟨by unfold St.look;rw[m1];exact h2.h,m3,rfl⟩
      obtain⟨E2,h8,h9⟩:=h7 P0 S0 E' _ w' hrel2
      refine⟨h2.d,(if h:(os.map λo=>tmps2.getD o.1 undef).toArray.size=1 then (os.map λo=>tmps2.getD o.1 undef).toArray[0] else .tuple (os.map λo=>tmps2.getD o.1 undef).toArray),?_,E2,_,rfl,h8.h,?_,?_⟩
      rotate_left 2
      · refine V_one_or_tup _ _ ?_
        exact out_slots (l:=List.replicate s2.sl.length .bad) os 0 u' f5 (λo ho=>by rw[List.length_replicate,m2,h3];exact f6 o ho) (λo ho=>rfl) h8.s
      · exact results_aux m4
      · rw[← hbn];rw[← hbn]at h9;exact h4.trans h9
    · exact absurd h5 (by simp)
  cases e with
  | nrm=>exact fin h1
  | ret=>exact fin h1
  | ex id=>exact absurd h1 (by simp[endK])
end
end Go.Va
