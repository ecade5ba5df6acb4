/- slices.SortFunc over an own row of structs: what the kit's contract says, as a row of the table of callees. -/
import Derived.Test.YtemhlkdingkjnaaGreatDoorVaTab
import Derived.Shelf.SlSortCmp.NoneTotal
set_option linter.unusedVariables false
set_option linter.unusedSimpArgs false
namespace Go.Va
open Go Go.Sort Go.Shelf Go.Proofs
noncomputable def sortD {α:Type}(lt:α→α→Bool)(l:List α):List α:=l.mergeSort λx y=>!lt y x
def Part {α:Type}(lt:α→α→Bool)(l:List α):Prop:=l.Pairwise λx y=>lt x y=true∨lt y x=true
noncomputable def sortEn (fid g:Nat)(e:Ty)(lt:Den e→Den e→Bool):Entry:={
  fid:=fid
  run := λ_ _ args look k=>match args with
    | [.ow r e1 none,.fn g1 .done]=>match look r with
      | .live (.row e2 l)=>if h:e1=e∧e2=e then
          if g1==g then gIf ((h.2 ▸ l:List (Den e)).length<4611686018427387904∧Part lt (h.2 ▸ l:List (Den e))) (k (.tup .done) [r] [(r,.live (.row e (sortD lt (h.2 ▸ l:List (Den e)))))])
          else none
        else none
      | _=>none
    | _=>none }
theorem RdL.chunks {α:Type}{R:α→List Value→Prop}:∀ (l:List α) (cs:List Value),RdL R l cs→∃ ch:List (List Value),ch.length=l.length∧cs=ch.flatten∧∀ i (h:i<l.length) (h':i<ch.length),R l[i] ch[i]
  | [],_,h=>⟨[],rfl,h,λi h=>absurd h (by simp)⟩
  | x::l,_,⟨c1,c2,e,h1,h2⟩=>by
    obtain⟨ch,g1,g2,g3⟩:=RdL.chunks l c2 h2
    refine⟨c1::ch,by simp[g1],by rw[List.flatten_cons,← g2];exact e,λi h h' => ?_⟩
    cases i with
    | zero=>exact h1
    | succ i=>exact g3 i (by simpa using h) (by simpa using h')
theorem RdL.ofMap {α:Type}{R:α→List Value→Prop}(f:Nat→α)(g:Nat→List Value):∀ (l:List Nat),(∀ i∈l,R (f i) (g i))→RdL R (l.map f) (l.map g).flatten
  | [],_=>rfl
  | i::l,h=>⟨g i,(l.map g).flatten,rfl,h i (by simp),RdL.ofMap f g l λj hj=>h j (by simp[hj])⟩
theorem flat_get {k:Nat} (hk:0<k):∀ (ch:List (List Value)),(∀ c∈ch,c.length=k)→∀ j,j<ch.length*k→(ch.flatten[j]!)=(ch[j/k]!)[j%k]!
  | [],_,j,h=>by simp at h
  | c :: ch,hc,j,h=>by
    have hl:=hc c (by simp)
    rw[List.flatten_cons]
    by_cases hj:j<k
    · rw[Nat.div_eq_of_lt hj,Nat.mod_eq_of_lt hj]
      simp only[List.getElem!_eq_getElem?_getD,List.getElem?_append,hl,hj,if_true,List.getElem?_cons_zero,Option.getD_some]
    · have h1:=flat_get hk ch (λc h=>hc c (by simp[h])) (j-k) (by rw[List.length_cons,Nat.add_mul]at h;omega)
      have e1:j/k=(j-k)/k+1:=by
        rw[← Nat.add_div_right _ hk,Nat.sub_add_cancel (by omega)]
      have e2:j%k=(j-k)%k:=by rw[Nat.mod_eq_sub_mod (by omega)]
      rw[e1,e2]
      simp only[List.getElem!_eq_getElem?_getD,List.getElem?_append,hl,hj,if_false,List.getElem?_cons_succ]at h1 ⊢
      exact h1
theorem flatK_list {enc:Nat→List Value} {k:Nat} (hk:∀ x,(enc x).length=k) (d:Array Nat):(flatK enc k d).toList=(d.toList.map enc).flatten:=by
  rcases Nat.eq_zero_or_pos k with h0 | h0
  · subst h0
    have h1:(flatK enc 0 d).toList=[]:=List.length_eq_zero_iff.1 (by rw[Array.length_toList,size_flatK];omega)
    rw[h1,eq_comm,List.flatten_eq_nil_iff]
    intro l hl
    obtain⟨x,_,rfl⟩:=List.mem_map.1 hl
    exact List.length_eq_zero_iff.1 (hk x)
  · have hlen:((d.toList.map enc).flatten).length=d.size*k:=by
      rw[List.length_flatten,List.map_map]
      have:∀ l:List Nat,(l.map (List.length∘enc)).sum=l.length*k:=by
        intro l
        induction l with
        | nil=>simp
        | cons x l ih=>rw[List.map_cons,List.sum_cons,ih,List.length_cons,Nat.add_mul];simp[hk];omega
      rw[this,Array.length_toList]
    refine List.ext_getElem (by rw[Array.length_toList,size_flatK,hlen]) λj h1 h2 => ?_
    have hj:j<d.size*k:=by rw[Array.length_toList,size_flatK]at h1;exact h1
    have g1:=get_flatK enc k d j hj
    have g2:=flat_get h0 (d.toList.map enc) (λc hc=>by obtain⟨x,_,rfl⟩:=List.mem_map.1 hc;exact hk x) j (by rw[List.length_map,Array.length_toList];exact hj)
    have hd:j/k<d.size:=Nat.div_lt_of_lt_mul (by rw[Nat.mul_comm];exact hj)
    rw[getElem!_pos (flatK enc k d) j (by rw[size_flatK];exact hj)]at g1
    rw[getElem!_pos _ j h2]at g2
    rw[Array.getElem_toList,g1,g2]
    congr 1
    rw[getElem!_pos (d.toList.map enc) (j/k) (by simpa using hd),getElem!_pos d (j/k) hd,List.getElem_map,Array.getElem_toList]
theorem part_all {α:Type}{lt:α→α→Bool}:∀ {l:List α},Part lt l→∀ a∈l,∀ b∈l,a=b∨lt a b=true∨lt b a=true
  | x :: l,h,a,ha,b,hb=>by
    unfold Part at h
    rw[List.pairwise_cons]at h
    rcases List.mem_cons.1 ha with ea | ma
    · rcases List.mem_cons.1 hb with eb | mb
      · exact .inl (ea.trans eb.symm)
      · rw[ea];exact .inr (h.1 b mb)
    · rcases List.mem_cons.1 hb with eb | mb
      · rw[eb];exact .inr (h.1 a ma).symm
      · exact part_all (l:=l) h.2 a ma b mb
theorem sortD_is {α:Type} {lt:α→α→Bool} (hO:SWO lt) {l l':List α} (hp:Part lt l) (hperm:l'.Perm l) (hs:l'.Pairwise λx y=>lt y x=false):l'=sortD lt l:=by
  refine List.Perm.eq_of_pairwise (le:=λx y=>(!lt y x)=true) ?_ ?_ ?_ (hperm.trans (List.mergeSort_perm _ _).symm)
  · intro a b ha hb h1 h2
    simp only[Bool.not_eq_true']at h1 h2
    rcases part_all hp a (hperm.mem_iff.1 ha) b ((List.mergeSort_perm _ _).mem_iff.1 hb) with h | h | h
    · exact h
    · rw[h]at h2;exact nomatch h2
    · rw[h]at h1;exact nomatch h1
  · exact hs.imp λh=>by simpa using h
  · refine List.pairwise_mergeSort ?_ ?_ _
    · intro a b c h1 h2
      simp only[Bool.not_eq_true']at h1 h2 ⊢
      exact hO.ntrans c b a h2 h1
    · intro a b
      simp only[Bool.or_eq_true,Bool.not_eq_true']
      cases h:lt b a
      · exact .inl rfl
      · right
        cases h':lt a b
        · rfl
        · have:=hO.trans _ _ _ h h'
          rw[hO.irrefl]at this;exact nomatch this
theorem mapIdx_get {α β:Type}(f:Nat→α→β)(xs:Array α)(j:Nat)(h:j<xs.size):(xs.mapIdx f)[j]'(by rwa [Array.size_mapIdx])=f j xs[j]:=by simp
section
variable {P:Program} {ρ:Ren}
theorem sort_ok [Gl] (L:SlLaysF0.n6 P ρ) {e:Ty} (hT:TyIs P e (ρ.t 24)) (ha:e.agg=true) (hfl:e.flat=true) {lt:Den e→Den e→Bool} {cf:Den e→Den e→Int} (hcf:∀ x y,lt x y=decide (cf x y<0)) (hO:SWO lt) {g:Nat}
    (eg:∀ args w,(callFunc g args).run P w = .ok (.enter g args) w)
    (hcl:∀ (S:Nat→Prop) (W:World) (x y:Den e) (cx cy:List Value),Rd S W e x cx→Rd S W e y cy→Calls P g #[.agg cx.toArray,.agg cy.toArray] W λen w'=>en = .returned (.int .i64 (cf x y))∧∃ q os',w'=grow (W.drewN q) os')
    (hfn : ∃ f, P.funcs[ρ.f 6]? = some f ∧ (f.name == "runtime.NumGoroutine") = false ∧ f.body.isNone = false) : EntryOk P (sortEn (ρ.f 6) g e lt) := by
  refine⟨hfn,λR n dst args look k r h => ?_⟩
  unfold sortEn at h
  simp only at h
  split at h
  case h_2=>exact nomatch h
  rename_i rr e1 g1
  split at h
  case h_2=>exact nomatch h
  rename_i e2 l hlk
  split at h
  case isFalse=>exact nomatch h
  rename_i he
  obtain⟨q1,q2⟩:=he
  have q1:=q1.symm
  have q2:=q2.symm
  subst q1;subst q2
  split at h
  case isFalse=>exact nomatch h
  rename_i hg
  have hg:=(beq_iff_eq.1 hg).symm
  subst hg
  by_cases hc:l.length<4611686018427387904∧Part lt l
  case neg=>
    have h:gIf (l.length<4611686018427387904∧Part lt l) (k (.tup .done) [rr] [(rr,.live (.row e (sortD lt l)))])=some r:=h
    classical
    rw[ycM,if_neg hc]at h
    exact nomatch h
  rw[yaq hc]at h
  refine⟨_,_,_,h,λP0 S0 E w vals hh hv => ?_,λlook' hk R' k' => ?_⟩
  · obtain⟨x1,vs1,e1,h1,x2,vs2,e2,h2,h3⟩:=hv
    subst e1;subst e2
    have h3:vs2=[]:=h3
    subst h3
    have h1:C E w (.ow rr e none) [x1]:=h1
    have h2:C E w (.fn g .done) [x2]:=h2
    obtain⟨a,len,cap,ex,hU,hL⟩:=h1
    obtain⟨vs,ex2,hvs⟩:=h2
    injection ex with ex;injection ex2 with ex2
    subst ex;subst ex2
    have hvs:vs = #[]:=by
      have hvs:vs.toList=[]:=hvs
      exact Array.toList_eq_nil_iff.1 hvs
    subst hvs
    have hent:=hh.ent rr
    rw[hlk]at hent
    obtain⟨_,N,hLr,hβ⟩:=hent
    obtain⟨_,lo,⟨hlo,hlen⟩,_,hcap⟩:=hL _ hLr
    subst hlo
    have hlen:len=l.length:=hlen
    subst hlen
    have vt:∀ w',V E w' (.tup .done) (.tuple #[]):=λw'=>⟨#[],rfl,rfl⟩
    by_cases hnil:l=[]
    · subst hnil
      refine (AnyF.slices_SortFunc_none L a cap (.func (.func g) #[] #[]) w).mono ?_
      rintro en w' ⟨rfl,rfl⟩
      refine⟨_,rfl,E,?_,.refl _ _ _,vt _⟩
      have hu:updL [(rr,.live (.row e (sortD lt ([]:List (Den e)))))] look=look:=by
        rw[ycy,ydL,show sortD lt ([]:List (Den e))=[] from by unfold sortD;simp,← hlk]
        funext q
        unfold upd1
        split
        · rename_i hq;rw[beq_iff_eq.1 hq]
        · rfl
      rw[hu];exact hh
    · cases hb:E.β rr with
      | none=>rw[hb]at hβ;exact absurd hβ hnil
      | some b=>
        rw[hb]at hβ hcap
        obtain⟨cs,t,fr,c1,c2,g1,g2,g3,g4,g5⟩:=hβ
        have hpos:0<l.length:=List.length_pos_iff.2 hnil
        have ha':a=some ⟨b,0,none⟩:=by
          obtain⟨h1,h2,_⟩:=hcap
          rcases h1 with h1 | h1
          · omega
          · rw[h1];simp
        subst ha'
        obtain⟨ch,k1,k2,k3⟩:=RdL.chunks l c1 g5
        have zlen:(zc e).length=e.sz:=Rd.length E.S w e (Va.dflt e) (zc e) (Rd.dflt _ _ _)
        have hRd:∀ i,Rd E.S w e (l.getD i (Va.dflt e)) (ch.getD i (zc e)):=λi=>by
          by_cases hi:i<l.length
          · have:=k3 i hi (by omega)
            rw[List.getD_eq_getElem?_getD,List.getD_eq_getElem?_getD,List.getElem?_eq_getElem hi,List.getElem?_eq_getElem (show i<ch.length by omega)]
            exact this
          · rw[List.getD_eq_getElem?_getD,List.getD_eq_getElem?_getD,List.getElem?_eq_none (by omega),List.getElem?_eq_none (by omega)]
            exact Rd.dflt _ _ _
        have hkl:∀ i,(ch.getD i (zc e)).length=e.sz:=λi=>Rd.length _ _ _ _ _ (hRd i)
        have hone:∀ i,∀ v∈ch.getD i (zc e),v.oneCell'=true:=λi=>Rd.one _ _ _ _ _ (hRd i)
        have hmapR:(List.range l.length).map (λi=>ch.getD i (zc e))=ch:=by
          refine List.ext_getElem (by simp[k1]) λi h1 h2 => ?_
          rw[List.getElem_map,List.getElem_range,List.getD_eq_getElem?_getD,List.getElem?_eq_getElem h2];rfl
        have hmapL:(List.range l.length).map (λi=>l.getD i (Va.dflt e))=l:=by
          refine List.ext_getElem (by simp) λi h1 h2 => ?_
          rw[List.getElem_map,List.getElem_range,List.getD_eq_getElem?_getD,List.getElem?_eq_getElem h2];rfl
        generalize henc:(λi=>ch.getD i (zc e))=enc at hmapR
        have hRd:∀ i,Rd E.S w e (l.getD i (Va.dflt e)) (enc i):=λi=>by rw[← henc];exact hRd i
        have hkl:∀ i,(enc i).length=e.sz:=λi=>by rw[← henc];exact hkl i
        have hone:∀ i,∀ v∈enc i,v.oneCell'=true:=λi=>by rw[← henc];exact hone i
        have hd:(Array.range l.length).toList=List.range l.length:=by simp
        have hF:cs.toList=(flatK enc e.sz (Array.range l.length)).toList++c2:=by rw[flatK_list hkl,hd,hmapR,← k2];exact g4
        have hsz:(Array.range l.length).size=l.length:=by simp
        have hFs:(flatK enc e.sz (Array.range l.length)).size≤cs.size:=by
          have:=congrArg List.length hF
          rw[List.length_append,Array.length_toList,Array.length_toList]at this
          omega
        have hH:HoldsK enc e.sz w b 0 (Array.range l.length):=by
          intro j hj
          constructor
          · unfold World.cell?
            simp only[g1,Option.isSome_none,Bool.false_eq_true,if_false,Nat.zero_add,id]
            rw[← Array.getElem?_toList,hF,List.getElem?_append_left (by rw[Array.length_toList];exact hj),Array.getElem?_toList,getElem!_pos _ j hj,Array.getElem?_eq_getElem hj]
          · unfold World.frozen?
            simp only[g1,Nat.zero_add]
            have:=g2.not j (by omega)
            by_cases h1:fr.1≤j
            · have h2:¬ j<fr.2:=λh2=>this ⟨h1,h2⟩
              rw[decide_eq_true h1,decide_eq_false h2];rfl
            · rw[decide_eq_false h1];rfl
        have hblk:b<w.heap.size:=by
          rcases Nat.lt_or_ge b w.heap.size with h | h
          · exact h
          · rw[Array.getElem?_eq_none h]at g1;exact nomatch g1
        have hlt:∀ i j,ltOf (λi j=>cf (l.getD i (Va.dflt e)) (l.getD j (Va.dflt e))) i j=lt (l.getD i (Va.dflt e)) (l.getD j (Va.dflt e)):=λi j=>by
          unfold ltOf;rw[hcf]
        have hO':SWO (ltOf (λi j=>cf (l.getD i (Va.dflt e)) (l.getD j (Va.dflt e)))):=by
          refine⟨λx => ?_,λx y z => ?_,λx y z => ?_⟩
          · rw[hlt];exact hO.irrefl _
          · rw[hlt,hlt,hlt];exact hO.trans _ _ _
          · rw[hlt,hlt,hlt];exact hO.ntrans _ _ _
        have hcmp:CmpLays P g #[] enc e.sz (λi j=>cf (l.getD i (Va.dflt e)) (l.getD j (Va.dflt e))) b 0 (Array.range l.length).size w:=by
          intro m os dk _ x y
          rw[Array.append_empty]
          exact hcl E.S _ _ _ _ _ (Rd_flat e _ _ hfl (hRd x)) (Rd_flat e _ _ hfl (hRd y))
        have hcon:=AnyQ.slices_SortFunc L e.sz (λw=>(run_isAgg hT).trans (by rw[ha])) (λw=>run_sizeOf hT) enc hkl hone _ hO' g #[] b 0 cap (Array.range l.length) w eg hcmp hH hblk (by rw[hsz];exact hc.1)
        rw[hsz]at hcon
        refine hcon.mono ?_
        rintro en w' ⟨rfl,d',n',os,hp,hso,rfl⟩
        obtain⟨hs1,_,hperm⟩:=hp
        rw[hsz]at hs1
        have hperm:d'.toList.Perm (List.range l.length):=by
          have e1:d'.extract 0 l.length=d':=by rw[← hs1];exact Array.extract_size
          have e2:(Array.range l.length).extract 0 l.length=Array.range l.length:=by
            have h:=@Array.extract_size _ (Array.range l.length);rwa [hsz]at h
          rw[e1,e2,hd]at hperm
          exact hperm
        have hl':d'.toList.map (λi=>l.getD i (Va.dflt e))=sortD lt l:=by
          refine sortD_is hO hc.2 ((hperm.map _).trans (by rw[hmapL])) ?_
          rw[List.pairwise_iff_getElem]
          intro i j hi hj hij
          have hi':i<d'.size:=by simpa using hi
          have hj':j<d'.size:=by simpa using hj
          have:=hso i j (Nat.zero_le _) hij (by omega)
          rw[hlt,getElem!_pos d' j hj',getElem!_pos d' i hi']at this
          rw[List.getElem_map,List.getElem_map,Array.getElem_toList,Array.getElem_toList]
          exact this
        have hlen':(sortD lt l).length=l.length:=by unfold sortD;exact List.length_mergeSort _
        have hF':(flatK enc e.sz d').size=(flatK enc e.sz (Array.range l.length)).size:=by rw[size_flatK,size_flatK,hs1,hsz]
        have hwr:Wr w (putRowK enc e.sz w b 0 d') b:=⟨rfl,rfl,rfl,rfl,size_putRowK _ _ _ _ _ _,λk hk=>by
          unfold putRowK putRow mapBlock
          simp only[Array.getElem?_modify,if_neg (Ne.symm hk)]⟩
        have hheap:(putRowK enc e.sz w b 0 d').heap[b]?=some (.cells (putCells id 0 (flatK enc e.sz d') cs) t fr):=by
          unfold putRowK putRow mapBlock
          simp only[Array.getElem?_modify,if_true,g1,Option.map_some,onCells]
        have hcells:(putCells id 0 (flatK enc e.sz d') cs).toList=(flatK enc e.sz d').toList++c2:=by
          have hl1:=congrArg List.length hF
          rw[List.length_append,Array.length_toList,Array.length_toList]at hl1
          refine List.ext_getElem (by rw[List.length_append,Array.length_toList,Array.length_toList];unfold putCells;rw[Array.size_mapIdx];omega) λj h1 h2 => ?_
          have hcj0:j<cs.size:=by rw[Array.length_toList]at h1;unfold putCells at h1;rwa [Array.size_mapIdx]at h1
          rw[Array.getElem_toList]
          refine (mapIdx_get _ cs j hcj0).trans ?_
          by_cases hj:j<(flatK enc e.sz d').size
          · rw[if_pos ⟨by omega,by omega⟩,List.getElem_append_left (by rw[Array.length_toList];exact hj),Array.getElem_toList,Nat.sub_zero,getElem!_pos _ j hj];rfl
          · rw[if_neg (by omega),List.getElem_append_right (by rw[Array.length_toList];omega)]
            have hcj:j<cs.size:=by rw[Array.length_toList]at h1;unfold putCells at h1;rwa [Array.size_mapIdx]at h1
            have e1:cs[j]=cs.toList[j]'(by rw[Array.length_toList];exact hcj):=(Array.getElem_toList ..).symm
            rw[e1]
            have e2:∀ (ll:List Value) (hl:cs.toList=ll) (h:j<ll.length),cs.toList[j]'(by rw[Array.length_toList];exact hcj)=ll[j]:=λll hl h=>by subst hl;rfl
            rw[e2 _ hF (by rw[← hF,Array.length_toList];exact hcj),List.getElem_append_right (by rw[Array.length_toList];omega)]
            congr 1
            have hLL:(flatK enc e.sz (Array.range l.length)).toList.length=(flatK enc e.sz d').toList.length:=by
              rw[Array.length_toList (xs:=flatK enc e.sz (Array.range l.length)),Array.length_toList (xs:=flatK enc e.sz d'),hF']
            exact congrArg (λz=>j-z) hLL
        have horel:OREL E (putRowK enc e.sz w b 0 d') rr (.row e (sortD lt l)):=by
          refine⟨N,by rw[hlen'];exact hLr,?_⟩
          rw[hb]
          refine⟨_,t,fr,(flatK enc e.sz d').toList,c2,hheap,?_,?_,hcells,?_⟩
          · unfold putCells;rw[Array.size_mapIdx];exact g2
          · unfold putCells;rw[Array.size_mapIdx];exact g3
          · rw[← hl',flatK_list hkl]
            exact RdL.ofMap _ _ _ λi _=>Rd_flat e _ _ hfl (hRd i)
        obtain⟨k1,k2⟩:=hh.write (r:=rr) (by rw[hlk];rfl) hb hwr horel
        have hgr:Grow (putRowK enc e.sz w b 0 d') (sortWorldK enc e.sz w b 0 n' d' os):=by
          unfold sortWorldK
          refine⟨rfl,rfl,rfl,?_,λq hq => ?_⟩
          · unfold grow
            simp only[Array.size_append]
            exact Nat.le_add_right _ _
          · unfold grow
            have e1:(putRowK enc e.sz (Sort.ahead w n') b 0 d').heap=(putRowK enc e.sz w b 0 d').heap:=rfl
            simp only[e1]
            rw[Array.getElem?_append_left hq]
        refine⟨_,rfl,E,?_,k2.trans (.grow hgr),vt _⟩
        rw[ycy,ydL]
        exact k1.grow hgr
  · unfold sortEn
    simp only
    rw[hk rr (.inl (by simp)),hlk]
    simp only[and_self,dif_pos,beq_self_eq_true,if_true]
    rw[yaq hc]
end
end Go.Va
