/-
  Co, part 10: calls, structs built of parts, all operations, functions.
-/
import Derived.Test.YtemhlkdingkjnaaGreatDoorCoMap
import Derived.Test.YtemhlkdingkjnaaGreatDoorVaFn
set_option linter.unusedVariables false
set_option linter.unusedSimpArgs false
namespace Go.Co
open Go
open Go.Va (Grow getAt setAt ybI ybC NoFr Ty TE findT TabOk TyIs zc ybl Wr At Keep tyT offT Gl Ex cvt)
def listA:List AV→AV
  | [] => .done
  | a::r => .cons a (listA r)
def listOf:AV→List AV
  | .cons a b=>a::listOf b
  | _=>[]
theorem listA_listOf:∀ l:AV,isL l=true→listA (listOf l)=l
  | .done,_=>rfl
  | .cons a b,h=>by show AV.cons a (listA (listOf b))=_;rw[listA_listOf b h]
  | .bad,h=>nomatch h
  | .val _,h=>nomatch h
  | .ptr _ _,h=>nomatch h
  | .sl _ _ _ _ _ _,h=>nomatch h
  | .mp _,h=>nomatch h
  | .es,h=>nomatch h
  | .fn _ _ _,h=>nomatch h
  | .ifc _ _,h=>nomatch h
  | .agg _,h=>nomatch h
  | .tup _,h=>nomatch h
theorem C_listA_app {E:Env}:∀ (l m:List AV) (vs ms:List Value),C E (listA l) vs→C E (listA m) ms→C E (listA (l++m)) (vs++ms)
  | [],m,vs,ms,h,k=>by rw[show vs=[] from h];exact k
  | a::l,m,vs,ms,⟨x,r,e,h1,h2⟩,k=>by subst e;exact⟨x,r++ms,rfl,h1,C_listA_app l m r ms h2 k⟩
theorem C_args {E:Env}{ev:Operand→AV}{ρ:Operand→Value}:∀ (l:List Operand),(∀ x∈l,V E (ev x) (ρ x))→C E (listA (l.map ev)) (l.map ρ)
  | [],_=>rfl
  | x::l,h=>⟨ρ x,_,rfl,h x List.mem_cons_self,C_args l (λy hy=>h y (List.mem_cons_of_mem _ hy))⟩
theorem C_get {E:Env}:∀ (l:List AV) (vs:List Value),C E (listA l) vs→vs.length=l.length∧∀ i,V E (getAt .bad l i) (vs.getD i undef)
  | [],vs,h=>by rw[show vs=[] from h];exact⟨rfl,λ_=>trivial⟩
  | a::l,vs,⟨x,r,e,h1,h2⟩=>by
    subst e
    obtain⟨g1,g2⟩:=C_get l r h2
    refine⟨by rw[List.length_cons,List.length_cons,g1],λi => ?_⟩
    cases i with
    | zero=>exact h1
    | succ i=>exact g2 i
abbrev CallF (R:Type):=FuncId→List AV→Hs→(AV→Hs→Option R)→Option R
def FRun (P:Program) (g:FuncId) (args:List AV) (h:Hs) (v:AV) (h':Hs):Prop:=
  (∃ fn, P.funcs[g]? = some fn ∧ (fn.name == "runtime.NumGoroutine") = false ∧ fn.body.isNone = false) ∧
  ∃ rl wl,Stp h h' rl wl∧∀ look P0 E w vals,(∀ q,q∈rl∨q∈wl→look q=h.look q)→HREL P0 E look w→C E (listA args) vals →
    Calls P g vals.toArray w λen w'=>∃ x,en = .returned x∧Post P0 E look w v (wnOf h' wl) x w'
def CallsOk {R:Type}(P:Program)(call:CallF R):Prop:=∀ g args h k r,call g args h k=some r→∃ v h',k v h'=some r∧FRun P g args h v h'
section
variable {R:Type} (P:Program) (tab:List (Nat×TE)) (xt:FuncId→Option (Array Value→Sem Value)) (call:CallF R) (h:Hs) (k:AV→Hs→Option R)
def cExt (f:AV) (args:List AV):Option R:=match f with
  | .fn (.func g) .done .done=>match xt g,toVals (listA args) with
    | some e,some vs=>match pureRun P (e vs.toArray) with
      | some v=>ybL (fromVal v) λv=>k v h
      | none=>none
    | _,_=>none
  | _=>none
def isExt (f:AV):Bool:=match f with
  | .fn (.func g) _ _=>(xt g).isSome
  | _=>false
def cCall (f:AV) (args:List AV):Option R:=match f with
  | .fn (.func g) fi ca=>match isL fi&&isL ca with
    | true=>call g (listOf fi++args++listOf ca) h k
    | false=>none
  | _=>none
def fillA (T:Ty) (ev:Operand→AV):AV→List (Nat×Operand)→Option AV
  | l,[]=>some l
  | l,(j,x)::r=>match tyT T [.f j],offT T [.f j] with
    | some T',some off=>match allOne (cellsA (ev x))&&Nat.beq (lenA (cellsA (ev x))) T'.sz with
      | true=>match putA l off (cellsA (ev x)) with
        | some l'=>fillA T ev l' r
        | none=>none
      | false=>none
    | _,_=>none
def cBuild (t:TypeId) (ev:Operand→AV) (ps:List (Nat×Operand)):Option R:=match findT tab t with
  | some te=>match te.T with
    | .pair a b=>match fillA (.pair a b) ev (valA (zc (.pair a b))) ps with
      | some l=>ybL (.agg l) λv=>k v h
      | none=>none
    | _=>none
  | none=>none
def fillS (e:Ty) (ev:Operand→AV):AV→List (Nat×Operand)→Option AV
  | l,[]=>some l
  | l,(j,x)::r=>match allOne (cellsA (ev x))&&Nat.beq (lenA (cellsA (ev x))) e.sz with
    | true=>match putA l (j*e.sz) (cellsA (ev x)) with
      | some l'=>fillS e ev l' r
      | none=>none
    | false=>none
def cBuildSlice (t:TypeId) (n:Nat) (ev:Operand→AV) (ps:List (Nat×Operand)):Option R:=match findT tab t with
  | some te=>match te.T with
    | .slice e=>match Nat.ble (n*e.sz) 16777216,fillS e ev (valA (List.replicate n (zc e)).flatten) ps with
      | true,some l=>newE h (.cells l) λq h=>ybL (.sl q 0 n n e.sz true) λv=>k v h
      | _,_=>none
    | _=>none
  | none=>none
def nilOut (bo:BinOp):Option R:=match bo with
  | .eql=>k (.val (.bool false)) h
  | .neq=>k (.val (.bool true)) h
  | _=>none
def cNil (bo:BinOp)(t:TypeId)(a b:AV):Option R:=match a,b,P.underlying t with
  | .ptr _ _,.val (.pointer none),some (.pointer _)=>nilOut h k bo
  | .sl _ _ _ _ _ _,.val (.slice none 0 0),some (.slice _)=>nilOut h k bo
  | .mp _,.val (.map none),some (.map _ _)=>nilOut h k bo
  | .fn _ _ _,.val .nilFunc,some (.func _ _ _)=>nilOut h k bo
  | .ifc _ _,.val .nilIface,some (.interface _)=>nilOut h k bo
  | _,_,_=>none
def cOp (o:Oper) (ev:Operand→AV):Option R:=match o.op with
  | .move x=>k (ev x) h
  | .assign x=>k (ev x) h
  | .pick c a b=>match ev c with
    | .val (.bool true)=>k (ev a) h
    | .val (.bool false)=>k (ev b) h
    | _=>none
  | .alloc t=>cAlloc tab h k t
  | .box _ x=>cBox h k (ev x)
  | .load t x=>cLoad tab h k t (ev x)
  | .store t a x=>cStore tab h k t (ev a) (ev x)
  | .fieldAddr t x j=>cFieldAddr tab h k t (ev x) j
  | .field t x j=>cField tab h k t (ev x) j
  | .indexAddr t x i=>cIndexAddr tab h k t (ev x) (ev i)
  | .slice t x lo hi mx=>cSlice tab h k t (ev x) (lo.map ev) (hi.map ev) (mx.map ev)
  | .build t ps=>cBuild tab h k t ev ps.toList
  | .buildSlice t n ps=>cBuildSlice tab h k t n ev ps.toList
  | .makeMap _ res=>cMakeMap h k res
  | .convert s d x=>cConv tab h k s d (ev x)
  | .makeSlice t l m=>cMakeSlice tab h k t (ev l) (ev m)
  | .lookup t x y ok=>cLookup P h k t (ev x) (ev y) ok
  | .mapUpdate t x y z=>cUpdate P h k t (ev x) (ev y) (ev z)
  | .insert t x y z=>cUpdate P h k t (ev x) (ev y) (ev z)
  | .mapEntry t x y=>cEntry P h k t (ev x) (ev y)
  | .entryStore _ x y z=>cEntryStore h k (ev x) (ev y) (ev z)
  | .makeFunc f first caps=>k (.fn f (listA (first.toList.map ev)) (listA (caps.toList.map ev))) h
  | .nilCheck x=>match ev x with
    | .ptr r off=>k (.ptr r off) h
    | .fn (.func g) a b=>k (.fn (.func g) a b) h
    | _=>none
  | .extract x i=>match ev x with
    | .tup l=>match takeA l (i+1),skip l i with
      | some _,some (.cons v _)=>k v h
      | _,_=>none
    | _=>none
  | .makeInterface t x=>match P.underlying t with
    | some (.interface _)=>none
    | some _=>k (.ifc t (ev x)) h
    | none=>none
  | .binOp bo t x y _=>cNil P h k bo t (ev x) (ev y)
  | .call q=>match q.callee with
    | .value f=>match isExt xt (ev f) with
      | true=>cExt P xt h k (ev f) (q.args.toList.map ev)
      | false=>cCall call h k (ev f) (q.args.toList.map ev)
    | .builtin b=>match b,q.argTypes.toList,q.args.toList with
      | .append,[t,t2],[x,y]=>cApp tab h k t t2 (ev x) (ev y)
      | .len,[t],[x]=>cLen tab h k t (ev x)
      | .copy,[t,_],[x,y]=>cCopy tab h k t (ev x) (ev y)
      | _,_,_=>none
    | _=>none
  | _=>none
def aOp:OpF R:=λo ev h k=>viaPure P o ev h k (cOp P tab xt call h k o ev)
def resA:List ResultVar→List AV→Hs→(List AV→Hs→Option R)→Option R
  | [],_,h,k=>k [] h
  | .tmp t::rs,sl,h,k=>resA rs sl h λl h=>k (getAt .bad sl t::l) h
  | .cell a t::rs,sl,h,k=>cLoad tab h (λv h=>resA rs sl h λl h=>k (v::l) h) t (getAt .bad sl a)
def oneOrTup:List AV→AV
  | [v]=>v
  | l => .tup (listA l)
noncomputable def ccall (ft:FuncId→Option Func)(N:Nat):Nat→CallF R
  | 0,_,_,_,_=>none
  | d + 1,g,args,h,k=>match ft g with
    | none=>none
    | some fn=>match fn.body with
      | none=>none
      | some code=>crun (aOp P tab xt (ccall ft N d)) N code (args++List.replicate (fn.ntmps-args.length) (.val undef)) h λe sl h=>match e with
        | .ex _=>none
        | _=>resA tab fn.results.toList sl h λl h=>k (oneOrTup l) h
end
section
variable {P:Program} {R:Type} {r:R} {tab:List (Nat×TE)} {o:Oper} {ev:Operand→AV} {h:Hs} {k:AV→Hs→Option R} {call:CallF R}
theorem ok_call {q:Call}{f:Operand}(hc:CallsOk P call)(ho:o.op = .call q)(hq:q.callee = .value f)(hk:cCall call h k (ev f) (q.args.toList.map ev)=some r):∃ v h',k v h'=some r∧SOk P o ev h v h':=by
  unfold cCall at hk
  split at hk
  · rename_i g fi ca hf
    split at hk
    · rename_i hl
      rw[Bool.and_eq_true]at hl
      obtain⟨v,h',hk,⟨fn,f1,f2,f3⟩,rl,wl,st,hrun⟩:=hc _ _ _ _ _ hk
      refine⟨v,h',hk,rl,wl,st,λlook P0 E w ρ hlook hh hv => ?_⟩
      rw[wn_fst]at hlook
      have hfv:=hv f (opnd ho (by simp only[Op.operands,Call.operands,hq,Array.toList_append,List.mem_append];exact .inl (List.mem_singleton.2 rfl)))
      rw[hf]at hfv
      obtain⟨a1,a2,e1,c1,c2⟩:=hfv
      injection e1 with e1 _
      have hargs:C E (listA (q.args.toList.map ev)) (q.args.toList.map ρ):=C_args _ (λx hx=>hv x (opnd ho (by simp only[Op.operands,Call.operands,Array.toList_append,List.mem_append];exact .inr hx)))
      have hall:=C_listA_app _ _ _ _ (C_listA_app _ _ _ _ (by rw[listA_listOf fi hl.1];exact c1) hargs) (by rw[listA_listOf ca hl.2];exact c2)
      refine .inr (.inr ⟨g,(a1.toList++q.args.toList.map ρ++a2.toList).toArray,w,?_,hrun look P0 E w _ hlook hh hall⟩)
      unfold execOp;rw[ho]
      simp only[resolve,hq,Sem.run_bind,e1,Deferred.ofValue,Sem.run_pure,Result.andThen_ok,invoke,callFunc,run_program,f1,f2,f3,Bool.false_eq_true,if_false]
      congr 2
      apply Array.toList_inj.1
      simp
    · exact nomatch hk
  · exact nomatch hk
def XtOk (P : Program) (xt : FuncId → Option (Array Value → Sem Value)) : Prop := ∀ g e, xt g = some e → ∃ fn, P.funcs[g]? = some fn ∧ (fn.name == "runtime.NumGoroutine") = false ∧ fn.body.isNone = true ∧ Extern.findNext fn = none ∧ Extern.find fn = some e
theorem ok_ext {q:Call} {f:Operand} {xt:FuncId→Option (Array Value→Sem Value)} (hX:XtOk P xt) (ho:o.op = .call q) (hq:q.callee = .value f) (hk:cExt P xt h k (ev f) (q.args.toList.map ev)=some r):∃ v h',k v h'=some r∧SOk P o ev h v h':=by
  unfold cExt at hk
  split at hk
  · rename_i g hf
    split at hk
    · rename_i e vs he hvs
      split at hk
      · rename_i v hp
        rw[yba]at hk
        obtain⟨fn,f1,f2,f3,f4,f5⟩:=hX g e he
        refine⟨_,_,hk,SOk.pure (λP0 E look w ρ hh hv=>⟨v,?_,fromVal_ok v⟩)⟩
        have hfv:=hv f (opnd ho (by simp only[Op.operands,Call.operands,hq,Array.toList_append,List.mem_append];exact .inl (List.mem_singleton.2 rfl)))
        rw[hf]at hfv
        obtain⟨a1,a2,e1,c1,c2⟩:=hfv
        injection e1 with e1 _
        have c1:a1.toList=[]:=c1
        have c2:a2.toList=[]:=c2
        have b1:a1 = #[]:=Array.toList_inj.1 c1
        have b2:a2 = #[]:=Array.toList_inj.1 c2
        have hargs:C E (listA (q.args.toList.map ev)) (q.args.toList.map ρ):=C_args _ (λx hx=>hv x (opnd ho (by simp only[Op.operands,Call.operands,Array.toList_append,List.mem_append];exact .inr hx)))
        have hvs':=toVals_ok _ _ _ hvs hargs
        have hargs':q.args.map ρ=vs.toArray:=by apply Array.toList_inj.1;rw[Array.toList_map,hvs']
        unfold execOp;rw[ho]
        simp only[resolve,hq,Sem.run_bind,e1,Deferred.ofValue,Sem.run_pure,Result.andThen_ok,invoke,callFunc,run_program,f1,f2,f3,Bool.false_eq_true,if_false,if_true,b1,b2,f4,f5,hargs']
        have:=ycL _ _ w hp
        simp only[Array.empty_append,Array.append_empty,mark,Sem.run,Result.andThen_ok,Sem.run_bind,this,Sem.run_pure]
      · exact nomatch hk
    · exact nomatch hk
  · exact nomatch hk
theorem fillA_ok [Gl] {E:Env} {ρ:Operand→Value} {T:Ty} {place:Nat→Option (Nat×Nat)} (hpl:∀ j T',tyT T [.f j]=some T'→∃ off,offT T [.f j]=some off∧place j=some (off,T'.sz)) :
    ∀ (ps:List (Nat×Operand)) (l l':AV) (cells:Array Value),(∀ p∈ps,V E (ev p.2) (ρ p.2))→fillA T ev l ps=some l'→C E l cells.toList →
      ∃ cells':Array Value,Instr.fill place cells (ps.map λp=>(p.1,ρ p.2))=some cells'∧C E l' cells'.toList
  | [],l,l',cells,_,h,hc=>by injection h with h;subst h;exact⟨cells,rfl,hc⟩
  | (j, x)::ps,l,l',cells,hv,h,hc=>by
    simp only[fillA]at h
    split at h
    · rename_i T' off hT' hoff
      split at h
      · rename_i hb
        rw[Bool.and_eq_true]at hb
        split at h
        · rename_i l1 hp
          obtain⟨off',h1,h2⟩:=hpl j T' hT'
          rw[hoff]at h1;injection h1 with h1;subst h1
          have hm:=C_cellsA (hv (j,x) List.mem_cons_self) hb.1
          obtain⟨g1,g2⟩:=C_put hp (allOne_isL _ hb.1) hc hm
          have hsz:(ρ x).cells.size=T'.sz:=by
            rw[← Array.length_toList,C_len _ _ (allOne_isL _ hb.1) hm];exact Nat.eq_of_beq_eq_true hb.2
          have hms:(ρ x).cells.toList.length=T'.sz:=by rw[Array.length_toList];exact hsz
          have hsplit:cells.toList=cells.toList.take off++(cells.toList.drop off).take T'.sz++cells.toList.drop (off+T'.sz):=by
            rw[List.append_assoc,← List.drop_drop,List.take_append_drop,List.take_append_drop]
          obtain⟨cells1,k1,k2⟩:=Va.fill_one (place:=place) (rest:=ps.map λp=>(p.1,ρ p.2)) h2 hsz hsplit (by rw[List.length_take];simp only[]at g2;omega) (by rw[List.length_take,List.length_drop];simp only[]at g2;omega)
          obtain⟨cells2,m1,m2⟩:=fillA_ok hpl ps l1 l' cells1 (λp hp=>hv p (List.mem_cons_of_mem _ hp)) h (by rw[k2,← hms];exact g1)
          exact⟨cells2,by rw[List.map_cons,k1];exact m1,m2⟩
        · exact nomatch h
      · exact nomatch h
    · exact nomatch h
theorem ok_build [Gl] {t:TypeId} {ps:Array (Nat×Operand)} (hT:TabOk P tab) (ho:o.op = .build t ps) (hk:cBuild tab h k t ev ps.toList=some r):∃ v h',k v h'=some r∧SOk P o ev h v h':=by
  unfold cBuild at hk
  split at hk
  · rename_i te ht
    obtain⟨htT,_⟩:=hT t te ht
    split at hk
    · rename_i a b hTe
      split at hk
      · rename_i l hf
        rw[yba]at hk
        refine⟨_,_,hk,SOk.pure (λP0 E look w ρ hh hv => ?_)⟩
        rw[hTe]at htT
        obtain⟨z,z1,z2,_⟩:=Va.run_zero (P:=P) (w:=w) htT
        obtain⟨⟨fs,h1,h2,_⟩,_⟩:=id htT
        obtain⟨pl,p1,p2,p3⟩:=Va.run_places (P:=P) (w:=w) fs.toList (Va.fields_ty (.pair a b) _ 0 h2)
        have hpl:∀ j T',tyT (.pair a b) [.f j]=some T'→∃ off,offT (.pair a b) [.f j]=some off∧pl.toArray[j]?=some (off,T'.sz):=by
          intro j T' hj
          obtain⟨fs',f,off,q1,q2,q3,q4,q5⟩:=Va.tyIs_struct htT hj
          rw[h1]at q1;injection q1 with q1;injection q1 with q1;subst q1
          refine⟨off,q3,?_⟩
          rw[List.getElem?_toArray,p3 j f T' (by simpa using q2) q5,q4]
        have hmap:(ps.map λ(i,x)=>(i,ρ x)).toList=ps.toList.map λp=>(p.1,ρ p.2):=by rw[Array.toList_map]
        obtain⟨cells',f1,f2⟩:=fillA_ok (place:=(pl.toArray[·]?)) hpl ps.toList _ _ z.cells (λp hp=>hv p.2 (opnd ho (by simp only[Op.operands,List.mem_map];exact⟨p,hp,rfl⟩))) hf (by rw[z2];exact C_valA _)
        refine⟨.agg cells',Va.build_exec ho ?_,_,rfl,f2⟩
        unfold Instr.build
        have hm:(fs.mapM (m:=Sem) λf=>do pure (f.offset,← sizeOf f.type)).run P w = .ok pl.toArray w:=by
          rw[Array.mapM_eq_mapM_toList]
          simp only[Sem.run_map,p1,Result.andThen_ok]
        simp only[Sem.run_bind,z1,Result.andThen_ok,Va.run_underlying h1,hm,hmap,f1,Sem.run_pure]
      · exact nomatch hk
    · exact nomatch hk
  · exact nomatch hk
theorem fillS_ok [Gl] {E:Env} {ρ:Operand→Value} {e:Ty}:∀ (ps:List (Nat×Operand)) (l l':AV) (cells:Array Value),(∀ p∈ps,V E (ev p.2) (ρ p.2))→fillS e ev l ps=some l'→C E l cells.toList →
      ∃ cells':Array Value,Instr.fill (λi=>some (i*e.sz,e.sz)) cells (ps.map λp=>(p.1,ρ p.2))=some cells'∧C E l' cells'.toList∧cells'.size=cells.size
  | [],l,l',cells,_,h,hc=>by injection h with h;subst h;exact⟨cells,rfl,hc,rfl⟩
  | (j, x)::ps,l,l',cells,hv,h,hc=>by
    simp only[fillS]at h
    split at h
    · rename_i hb
      rw[Bool.and_eq_true]at hb
      split at h
      · rename_i l1 hp
        have hm:=C_cellsA (hv (j,x) List.mem_cons_self) hb.1
        obtain⟨g1,g2⟩:=C_put hp (allOne_isL _ hb.1) hc hm
        have hsz:(ρ x).cells.size=e.sz:=by
          rw[← Array.length_toList,C_len _ _ (allOne_isL _ hb.1) hm];exact Nat.eq_of_beq_eq_true hb.2
        have hms:(ρ x).cells.toList.length=e.sz:=by rw[Array.length_toList];exact hsz
        have hsplit:cells.toList=cells.toList.take (j*e.sz)++(cells.toList.drop (j*e.sz)).take e.sz++cells.toList.drop (j*e.sz+e.sz):=by
          rw[List.append_assoc,← List.drop_drop,List.take_append_drop,List.take_append_drop]
        obtain⟨cells1,k1,k2⟩:=Va.fill_one (place:=λi=>some (i*e.sz,e.sz)) (rest:=ps.map λp=>(p.1,ρ p.2)) (i:=j) rfl hsz hsplit (by rw[List.length_take];simp only[]at g2;omega) (by rw[List.length_take,List.length_drop];simp only[]at g2;omega)
        have hs1:cells1.size=cells.size:=by
          rw[← Array.length_toList,k2,List.length_append,List.length_append,hms,List.length_take,List.length_drop,← Array.length_toList (xs:=cells)]
          simp only[]at g2;omega
        have g1':C E l1 (cells.toList.take (j*e.sz)++(ρ x).cells.toList++cells.toList.drop (j*e.sz+(ρ x).cells.toList.length)):=g1
        rw[hms]at g1'
        obtain⟨cells2,m1,m2,m3⟩:=fillS_ok ps l1 l' cells1 (λp hp=>hv p (List.mem_cons_of_mem _ hp)) h (by rw[k2];exact g1')
        exact⟨cells2,by rw[List.map_cons,k1];exact m1,m2,m3.trans hs1⟩
      · exact nomatch h
    · exact nomatch h
theorem ok_buildSlice [Gl] {t:TypeId} {n:Nat} {ps:Array (Nat×Operand)} (hT:TabOk P tab) (ho:o.op = .buildSlice t n ps) (hk:cBuildSlice tab h k t n ev ps.toList=some r):∃ v h',k v h'=some r∧SOk P o ev h v h':=by
  unfold cBuildSlice at hk
  split at hk
  · rename_i te ht
    obtain⟨htT,_⟩:=hT t te ht
    split at hk
    · rename_i e hTe
      rw[hTe]at htT
      obtain⟨⟨u,hu,huT⟩,_⟩:=htT
      split at hk
      · rename_i l hn hf
        have hn:=Nat.le_of_ble_eq_true hn
        obtain⟨hun,hk⟩:=newE_some hk
        rw[yba]at hk
        refine⟨_,_,hk,SOk.put (λP0 E look w ρ hh hq _ hv => ?_)⟩
        obtain⟨z,z1,z2,_⟩:=Va.run_zero (P:=P) (w:=w) huT
        have hzs:z.cells.size=e.sz:=by rw[← Array.length_toList,z2,zc_len]
        have hmap:(ps.map λ(i,x)=>(i,ρ x)).toList=ps.toList.map λp=>(p.1,ρ p.2):=by rw[Array.toList_map]
        have hvp:∀ p∈ps.toList,V E (ev p.2) (ρ p.2):=λp hp=>hv p.2 (opnd ho (by simp only[Op.operands,List.mem_map];exact⟨p,hp,rfl⟩))
        have hsz:¬ n*e.sz>2 ^ 24:=by omega
        -- the zero cells
        have hz0:∀ zero:Array Value,(n*e.sz=0∨zero=z.cells)→((Array.range (n*e.sz)).map (zero[· % zero.size]!)).toList=(List.replicate n (zc e)).flatten:=by
          intro zero hz
          by_cases h0:n*e.sz=0
          · rw[h0]
            have:(List.replicate n (zc e)).flatten=[]:=by
              apply List.eq_nil_of_length_eq_zero
              simp[zc_len,h0]
            rw[this];simp
          · rcases hz with hz | hz
            · exact absurd hz h0
            · subst hz
              have hp:0<z.cells.size:=by rw[hzs];exact Nat.pos_of_ne_zero (λe0=>h0 (by rw[e0,Nat.mul_zero]))
              have:=Va.map_mod z.cells hp n
              rw[hzs]at this
              rw[Array.toList_map,Array.toList_range,hzs,this,z2]
        have hrun:∃ cells':Array Value,(execOp ρ o).run P w = .ok (.value (.slice (some ⟨w.heap.size,0,none⟩) n n)) { w with heap:=w.heap.push (.cells cells' u) }∧C E l cells'.toList∧cells'.size=n*e.sz:=by
          by_cases h0:n*e.sz=0
          · obtain⟨cells',g1,g2,g3⟩:=fillS_ok ps.toList _ _ ((Array.range (n*e.sz)).map ((#[]:Array Value)[· % (#[]:Array Value).size]!)) hvp hf (by rw[hz0 _ (.inl h0)];exact C_valA _)
            refine⟨cells',?_,g2,by rw[g3];simp⟩
            unfold execOp;rw[ho]
            unfold Instr.buildSlice
            simp only[Sem.run_bind,Va.run_underlying hu,Result.andThen_ok,Va.run_sizeOf huT,if_neg hsz,Sem.run_pure,hmap,if_pos h0,g1,newRow,run_newObj]
          · obtain⟨cells',g1,g2,g3⟩:=fillS_ok ps.toList _ _ ((Array.range (n*e.sz)).map (z.cells[· % z.cells.size]!)) hvp hf (by rw[hz0 _ (.inr rfl)];exact C_valA _)
            refine⟨cells',?_,g2,by rw[g3];simp⟩
            unfold execOp;rw[ho]
            unfold Instr.buildSlice
            simp only[Sem.run_bind,Va.run_underlying hu,Result.andThen_ok,Va.run_sizeOf huT,if_neg hsz,Sem.run_pure,hmap,if_neg h0,z1,g1,newRow,run_newObj]
        obtain⟨cells',r1,r2,r3⟩:=hrun
        refine .inl ⟨_,_,r1,?_⟩
        refine post_new (cs:=cells') (t:=u) (c1:=cells'.toList) (c2:=[]) hh (hq.trans hun) (growPush _ _) (by simp) (by simp) r2 (λE' _ hE=>⟨_,_,n,hE,rfl,Nat.le_refl _,Nat.le_refl _,λ_=>rfl,by rw[r3,Nat.zero_add];exact Nat.le_refl _⟩)
      · exact nomatch hk
    · exact nomatch hk
  · exact nomatch hk
theorem nil_eq {bo:BinOp}{t t':TypeId}{x y:Operand}{ρ:Operand→Value}{w:World}{v:AV}(ho:o.op = .binOp bo t x y t')(hg:(eqGuard bo t x y (ρ x) (ρ y)).run P w = .ok () w)
    (he:∀ bo':BinOp,(bo' = .eql→(binOp bo' t (ρ x) (ρ y)).run P w = .ok (.bool false) w)∧(bo' = .neq→(binOp bo' t (ρ x) (ρ y)).run P w = .ok (.bool true) w))
    (hb:(bo = .eql∧v = .val (.bool false))∨(bo = .neq∧v = .val (.bool true))):∃ z,(execOp ρ o).run P w = .ok (.value z) w∧V (λ_=>none) v z:=by
  rcases hb with ⟨rfl,rfl⟩ | ⟨rfl,rfl⟩
  · refine⟨.bool false,?_,rfl⟩
    unfold execOp;rw[ho]
    simp only[Sem.run_bind,hg,Result.andThen_ok,(he .eql).1 rfl,Sem.run_pure]
  · refine⟨.bool true,?_,rfl⟩
    unfold execOp;rw[ho]
    simp only[Sem.run_bind,hg,Result.andThen_ok,(he .neq).2 rfl,Sem.run_pure]
theorem ok_nil {bo:BinOp} {t t':TypeId} {x y:Operand} (ho:o.op = .binOp bo t x y t') (hk:cNil P h k bo t (ev x) (ev y)=some r):∃ v h',k v h'=some r∧SOk P o ev h v h':=by
  have hx:x∈o.op.operands.toList:=opnd ho (by simp[Op.operands])
  have hy:y∈o.op.operands.toList:=opnd ho (by simp[Op.operands])
  unfold cNil at hk
  -- the answer
  have out:nilOut h k bo=some r →
      (∀ {E:Env} {w:World} {ρ:Operand→Value},V E (ev x) (ρ x)→V E (ev y) (ρ y)→(eqGuard bo t x y (ρ x) (ρ y)).run P w = .ok () w∧(Op.equal t (ρ x) (ρ y)).run P w = .ok false w ∧
        (∀ bo':BinOp,(bo' = .eql→binOp bo' t (ρ x) (ρ y)=(do pure (.bool (← Op.equal t (ρ x) (ρ y)))))∧(bo' = .neq→binOp bo' t (ρ x) (ρ y)=(do pure (.bool (!(← Op.equal t (ρ x) (ρ y)))))))) →
      ∃ v h',k v h'=some r∧SOk P o ev h v h':=by
    intro hk H
    unfold nilOut at hk
    have go:∀ v,((bo = .eql∧v = .val (.bool false))∨(bo = .neq∧v = .val (.bool true)))→k v h=some r→∃ v h',k v h'=some r∧SOk P o ev h v h':=by
      intro v hb hk
      refine⟨v,h,hk,SOk.pure (λP0 E look w ρ hh hv => ?_)⟩
      obtain⟨g1,g2,g3⟩:=H (w:=w) (hv x hx) (hv y hy)
      obtain⟨z,k1,k2⟩:=nil_eq (P:=P) (w:=w) (v:=v) ho g1 (λbo'=>⟨λe=>by rw[(g3 bo').1 e,Sem.run_bind,g2];rfl,λe=>by rw[(g3 bo').2 e,Sem.run_bind,g2];rfl⟩) hb
      refine⟨z,k1,?_⟩
      rcases hb with ⟨_,rfl⟩ | ⟨_,rfl⟩<;>exact k2
    cases bo with
    | eql=>exact go _ (.inl ⟨rfl,rfl⟩) hk
    | neq=>exact go _ (.inr ⟨rfl,rfl⟩) hk
    | _=>exact nomatch hk
  split at hk
  · rename_i q off u ha hb hu
    refine out hk (fun {E w ρ} h1 h2 => ?_)
    rw[ha]at h1;rw[hb]at h2
    obtain⟨b,n,_,e1⟩:=h1
    injection e1 with e1 _
    rw[e1,V_val.1 h2]
    refine⟨Va.run_guard_plain ⟨λ_ _ hh=>(nomatch hh.1),λhh=>(nomatch hh.1)⟩,?_,λbo'=>⟨λe=>by subst e;rfl,λe=>by subst e;rfl⟩⟩
    unfold Op.equal Op.maxDepth Op.equalIn
    rw[Sem.run_bind,Va.run_underlying hu,Result.andThen_ok];rfl
  · rename_i q off len lo esz ex u ha hb hu
    refine out hk (fun {E w ρ} h1 h2 => ?_)
    rw[ha]at h1;rw[hb]at h2
    obtain⟨b,n,c,_,e1,_⟩:=h1
    injection e1 with e1 _
    rw[e1,V_val.1 h2]
    refine⟨Va.run_guard_plain ⟨λ_ _ hh=>(nomatch hh.1),λhh=>(nomatch hh.1)⟩,?_,λbo'=>⟨λe=>by subst e;rfl,λe=>by subst e;rfl⟩⟩
    unfold Op.equal Op.maxDepth Op.equalIn
    rw[Sem.run_bind,Va.run_underlying hu,Result.andThen_ok];rfl
  · rename_i q u1 u2 ha hb hu
    refine out hk (fun {E w ρ} h1 h2 => ?_)
    rw[ha]at h1;rw[hb]at h2
    obtain⟨b,n,_,e1⟩:=h1
    injection e1 with e1 _
    rw[e1,V_val.1 h2]
    refine⟨Va.run_guard_plain ⟨λ_ _ hh=>(nomatch hh.1),λhh=>(nomatch hh.1)⟩,?_,λbo'=>⟨λe=>by subst e;rfl,λe=>by subst e;rfl⟩⟩
    unfold Op.equal Op.maxDepth Op.equalIn
    rw[Sem.run_bind,Va.run_underlying hu,Result.andThen_ok];rfl
  · rename_i f a1 a2 u1 u2 u3 ha hb hu
    refine out hk (fun {E w ρ} h1 h2 => ?_)
    rw[ha]at h1;rw[hb]at h2
    obtain⟨_,_,e1,_⟩:=h1
    injection e1 with e1 _
    rw[e1,V_val.1 h2]
    refine⟨Va.run_guard_plain ⟨λ_ _ hh=>(nomatch hh.1),λhh=>(nomatch hh.1)⟩,?_,λbo'=>⟨λe=>by subst e;rfl,λe=>by subst e;rfl⟩⟩
    unfold Op.equal Op.maxDepth Op.equalIn
    rw[Sem.run_bind,Va.run_underlying hu,Result.andThen_ok];rfl
  · rename_i u0 v0 u1 ha hb hu
    refine out hk (fun {E w ρ} h1 h2 => ?_)
    rw[ha]at h1;rw[hb]at h2
    obtain⟨_,e1,_⟩:=h1
    injection e1 with e1 _
    rw[e1,V_val.1 h2]
    refine⟨Va.run_guard_plain ⟨λ_ _ hh=>(nomatch hh.1),λhh=>(nomatch hh.1)⟩,?_,λbo'=>⟨λe=>by subst e;rfl,λe=>by subst e;rfl⟩⟩
    unfold Op.equal Op.maxDepth Op.equalIn
    rw[Sem.run_bind,Va.run_underlying hu,Result.andThen_ok];rfl
  · exact nomatch hk
end
end Go.Co
