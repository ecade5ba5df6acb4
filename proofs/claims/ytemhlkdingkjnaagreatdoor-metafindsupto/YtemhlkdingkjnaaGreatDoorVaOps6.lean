/-
  Va, part 15: conversions, rows that are made, slices of slices.
-/
import Derived.Test.YtemhlkdingkjnaaGreatDoorVaOps5
import Derived.IntWalk
set_option linter.unusedVariables false
set_option linter.unusedSimpArgs false
namespace Go.Va
open Go
section
variable {P:Program} {c:Cfg} {o:Oper} {op:Operand→AV} {look:Nat→Ent} {R:Type} {k:Kont R} {r:R}
theorem RdL.bytes {S:Nat→Prop}{w:World}:∀ (l:List Int) (cs:List Value),RdL (Rd S w (.int .u8)) l cs→cs=l.map λn=>Value.int .u8 n
  | [],cs,h=>h
  | n::l,cs,h=>by
    obtain⟨c1,c2,rfl,h1,h2⟩:=h
    simp only[Rd]at h1;subst h1
    rw[RdL.bytes l c2 h2];rfl
theorem RdL.ofInts {S:Nat→Prop}{w:World}{kd:IntKind}:∀ (l:List Int),RdL (Rd S w (.int kd)) l (l.map λn=>Value.int kd n)
  | []=>rfl
  | n::l=>⟨[.int kd n],_,rfl,rfl,RdL.ofInts l⟩
theorem forIn_bytes {w:World}(f:Value→ByteArray→Sem (ForInStep ByteArray))(hf:∀ n s,(f (.int .u8 n) s).run P w = .ok (.yield (s.push (UInt8.ofNat n.toNat))) w) :
    ∀ (l:List Int) (s:ByteArray),(forIn (m:=Sem) (l.map λn=>Value.int .u8 n) s f).run P w = .ok ⟨s.data++(l.map λn=>UInt8.ofNat n.toNat).toArray⟩ w
  | [],s=>by simp
  | n::l,s=>by
    rw[List.map_cons,List.forIn_cons]
    simp only[Sem.run_bind,hf,Result.andThen_ok]
    rw[forIn_bytes f hf l]
    simp[ByteArray.push]
theorem run_bytesToString [Gl] {l:List Int} {a:Option Addr} {cap:Nat} {w:World} {cells:List Value} (hl:cells=l.map λn=>Value.int .u8 n) (h:l=[]∨∃ ad,a=some ad∧At w ad cells) :
    (Conv.bytesToString (.slice a l.length cap)).run P w = .ok (.string (bytesOf l)) w:=by
  unfold Conv.bytesToString
  cases a with
  | none=>
    rcases h with h | ⟨ad,h,_⟩
    · subst h;rfl
    · exact absurd h (by simp)
  | some ad=>
    simp only[Sem.run_bind]
    have hc:(loadCells ad l.length).run P w = .ok cells.toArray w:=by
      rcases h with h | ⟨ad',h,hat⟩
      · subst h;subst hl;rfl
      · injection h with h;subst h
        have:l.length=cells.length:=by rw[hl];simp
        rw[this]
        refine run_loadCells_list w ad cells (λj v hj => ?_)
        rw[Addr.add_eq hat.1]
        obtain⟨hj1,hj2⟩:=List.getElem?_eq_some_iff.1 hj
        rw[hat.2 j hj1,hj2]
    rw[hc]
    simp only[Result.andThen_ok]
    rw[← Array.forIn_toList,hl,forIn_bytes _ (λn s=>rfl)]
    simp only[Result.andThen_ok,Sem.run_pure]
    simp[bytesOf,ByteArray.empty,ByteArray.emptyWithCapacity]
    rfl
theorem und {T:Ty}{t:TypeId}:TyIs P T t→∃ d,P.underlying t=some d:=by
  intro h
  cases T with
  | int k=>exact⟨_,h.1⟩
  | bool=>exact⟨_,h.1⟩
  | str=>exact⟨_,h.1⟩
  | slice e=>obtain⟨⟨u,hu,_⟩,_⟩:=h;exact⟨_,hu⟩
  | arr n e=>obtain⟨⟨u,hu,_⟩,_⟩:=h;exact⟨_,hu⟩
  | pair a b=>obtain⟨⟨fs,h1,_⟩,_⟩:=h;exact⟨_,h1⟩
  | unit=>obtain⟨⟨fs,h1,_⟩,_⟩:=h;exact⟨_,h1⟩
  | opq k=>
    have h1:=h.1
    cases hu:P.underlying t with
    | none=>rw[hu]at h1;exact h1.elim
    | some d=>exact⟨d,rfl⟩
  | smap=>obtain⟨⟨k,v,h1,_⟩,_⟩:=h;exact⟨_,h1⟩
  | mapT _ _=>obtain⟨⟨k,v,h1,_⟩,_⟩:=h;exact⟨_,h1⟩
theorem oa_rd [Gl]{P0 S0:Nat→Prop}{E:Env}{w:World}{q:Nat}{T:Ty}{p:List Stp}{x:Value}{T0:Ty}{b:AV}{n:Nat}{e:Ty}{l:List (Den e)}(h:HREL P0 S0 E look w)(hl:look q = .live (.box T0 b))
    (hg:getA b p=some (.data (.arr n e) l)) (hv:V E w (.oa q T p) x):∃ a cells,x = .slice (some a) l.length l.length∧RdL (Rd E.S w e) l cells∧At w a cells:=by
  rw[V_one rfl]at hv
  obtain⟨a,m,he,hU,hk⟩:=hv
  injection he with he _
  have hent:=h.ent q
  rw[hl]at hent
  obtain⟨b',cs,t,fr,h1,h2,h3,h4,h5,h6⟩:=hent.2
  obtain⟨g1,b2,off,e2,g2,g3,g4,g5⟩:=hk _ h2
  injection g1 with g1;subst g1
  rw[h1]at g2;injection g2 with g2;subst g2
  obtain⟨c1,c',c2,m1,m2,m3,m4,_⟩:=focusA b cs.toList p T0 off _ h6 h5 g4 g3
  obtain⟨q1,q2⟩:=m4 _ hg
  simp only[AV.ty]at q2
  injection q2 with q2;injection q2 with q2 q3
  subst q3
  have hr:Rd E.S w (.arr n e) l c':=q1
  refine⟨_,c',by rw[he,g5,hr.1,q2],hr.2,?_⟩
  rw[← m2]
  exact At.block h3 m1
theorem conv_run {s d:TypeId}{x:Operand}{ρ:Operand→Value}{w w':World}{y:Value}(ho:o.op = .convert s d x)(h:(convert s d (ρ x)).run P w = .ok y w') :
    (execOp ρ o).run P w = .ok (.value y) w':=by
  unfold execOp;rw[ho]
  simp only[Sem.run_bind,h,Result.andThen_ok,Sem.run_pure]
theorem conv_bytes {s d u:TypeId}{v:Value}{w:World}(hs:P.underlying s=some (.slice u))(hu:P.underlying u=some (.int .u8))(hd:P.underlying d=some .string){a:Option Addr}{n cap:Nat}(hv:v = .slice a n cap) :
    (convert s d v).run P w=(Conv.bytesToString v).run P w:=by
  subst hv
  unfold convert
  simp only[Sem.run_bind,run_underlying hs,run_underlying hd,run_underlying hu,Result.andThen_ok]
theorem ok_convert [Gl] {s d:TypeId} {x:Operand} (hT:TabOk P c.tab) (ho:o.op = .convert s d x) (h:aOp c o op look k=some r):∃ v RN WN,k v RN WN=some r∧Ok P c o op look v RN WN:=by
  have e:∀ (look:Nat→Ent) (R:Type) (k:Kont R),aOp c o op look k=aConvert c s d o (op x) look k:=by
    intro look R k;unfold aOp;rw[ho]
  rw[e]at h
  unfold aConvert at h
  split at h
  · rename_i ts te hts hte
    obtain⟨htsT,_⟩:=hT _ _ hts
    obtain⟨hteT,_⟩:=hT _ _ hte
    obtain⟨ds,hds⟩:=und htsT
    split at h
    · rename_i kd kd2 y hTe hx
      refine⟨_,_,_,h,.pure (λP0 S0 E w ρ hh hv => ?_) (λlook' _ R' k'=>by rw[e];unfold aConvert;rw[hts,hte];simp only[hTe,hx])⟩
      have h1:=hv x
      rw[hx,V_int]at h1
      rw[hTe]at hteT
      refine⟨.int kd (kd.wrap y),conv_run ho ?_,V_int.2 rfl⟩
      rw[h1]
      unfold convert
      simp only[Sem.run_bind,run_underlying hds,run_underlying hteT.1,Result.andThen_ok]
      cases ds<;>rfl
    · rename_i st hTe hx
      refine⟨_,_,_,h,.pure (λP0 S0 E w ρ hh hv => ?_) (λlook' _ R' k'=>by rw[e];unfold aConvert;rw[hts,hte];simp only[hTe,hx])⟩
      have h1:=hv x
      rw[hx,V_str]at h1
      rw[hTe]at hteT
      refine⟨.string st,conv_run ho ?_,V_str.2 rfl⟩
      rw[h1]
      unfold convert
      simp only[Sem.run_bind,run_underlying hds,run_underlying hteT.1,Result.andThen_ok]
      cases ds<;>rfl
    · rename_i st hTe hx
      obtain⟨q,hd,hq,h⟩:=ydZ h
      refine⟨_,_,_,h,⟨λP0 S0 E w ρ hh hv => ?_,λlook' hk R' k' => ?_⟩⟩
      · have h1:=hv x
        rw[hx,V_str]at h1
        rw[hTe]at hteT
        obtain⟨⟨u,hu,huT⟩,_⟩:=hteT
        -- the new block
        obtain⟨cap,hcap,hcapq⟩:∃ cap,ByteArray.size st≤cap∧(Question.appendCap (ByteArray.size st) 0 u).cut (w.tape w.drawn (.appendCap (ByteArray.size st) 0 u))=cap:=
          ⟨_,by simp[Question.cut],rfl⟩
        let cells:Array Value:=(st.data.map λb=>Value.int .u8 b.toNat)++Array.replicate (cap-ByteArray.size st) (.int .u8 0)
        have hsz:cells.size=cap:=by simp[cells];change ByteArray.size st+_=_;omega
        let w1:World:={ w with drawn:=w.drawn+1,heap:=w.heap.push (.cells cells u) }
        let w2:World:=w1.freeze ⟨w.heap.size,cells.size,none⟩ 1
        have hw2:w2.heap[w.heap.size]?=some (.cells cells u (cells.size,cells.size+1)):=by
          simp only[w2,World.freeze,if_neg (show ¬ (1=0) by omega),Array.getElem?_modify]
          simp[w1]
        have hgrow:Grow w w2:=by
          refine⟨rfl,rfl,rfl,by simp[w2,w1,World.freeze],λb hb => ?_⟩
          simp only[w2,World.freeze,if_neg (show ¬ (1=0) by omega),Array.getElem?_modify]
          rw[if_neg (by omega)]
          simp only[w1,Array.getElem?_push]
          rw[if_neg (by omega)]
        have hrun:(execOp ρ o).run P w = .ok (.value (.slice (some ⟨w.heap.size,0,none⟩) (ByteArray.size st) cap)) w2:=by
          refine conv_run ho ?_
          rw[h1]
          unfold convert
          simp only[Sem.run_bind,run_underlying hds,run_underlying hu,Result.andThen_ok]
          have hgoal:(Conv.stringToBytes u st).run P w = .ok (.slice (some ⟨w.heap.size,0,none⟩) (ByteArray.size st) cap) w2:=by
            unfold Conv.stringToBytes
            simp only[Sem.run_bind,run_choose,Question.forced,Bool.false_eq_true,if_false,Result.andThen_ok,hcapq]
            simp only[newRow,Sem.run_bind,run_newObj,Result.andThen_ok,Sem.run_pure,markStringish,run_shape]
            have hshape:World.shape? { w with drawn:=w.drawn+1,heap:=w.heap.push (.cells cells u) } w.heap.size=some (u,cells.size):=by
              simp[World.shape?]
            simp only[cells]at hshape
            simp only[hshape,run_freeze,Result.andThen_ok]
            rfl
          cases ds<;>(simp only[run_underlying huT.1,Result.andThen_ok];exact hgoal)
        refine .inl ⟨_,w2,hrun,?_⟩
        have hl:(ycW st).length=ByteArray.size st:=by simp[ycW]
        have:=post_row (q:=q) (e := .int .u8) (l:=ycW st) (cells:=cells) (c1:=(ycW st).map λn=>Value.int .u8 n) (c2:=List.replicate (cap-ByteArray.size st) (.int .u8 0)) (t:=u) (fr:=(cells.size,cells.size+1)) (cap:=cap)
          hh hq (RdL.ofInts _) (by simp[cells,ycW]) hgrow (.inr (Nat.le_refl _)) (Nat.le_refl _) hw2 (by rw[hl];exact hcap) (by rw[hsz];simp[Ty.sz])
        rw[hl]at this
        exact this
      · rw[e];unfold aConvert;rw[hts,hte];simp only[hTe,hx]
        exact fresh_eq hd ((hk q (.inr (by simp))).trans hq)
    · rename_i q e' hTe hx
      split at h
      · rename_i e1 l hl
        split at h
        · rename_i he
          obtain⟨h1,h2⟩:=he
          subst h1 h2
          split at h
          · rename_i hc
            obtain⟨hsd,hpos⟩:=hc
            refine⟨_,_,_,h,⟨λP0 S0 E w ρ hh hv => ?_,λlook' hk R' k' => ?_⟩⟩
            · have h1:=hv x
              rw[hx,V_one rfl]at h1
              obtain⟨a,len,cap,ev,hu,hL⟩:=h1
              injection ev with ev _
              have hent:=hh.ent q
              rw[hl]at hent
              obtain⟨_,N,k1,k2⟩:=hent
              obtain⟨k3,lo,⟨k4,k5⟩,k6,k7⟩:=hL _ k1
              have hb:∃ b,E.β q=some b:=by
                cases hb:E.β q with
                | some b=>exact⟨b,rfl⟩
                | none=>rw[hb]at k2;rw[k2]at hpos;simp at hpos
              obtain⟨b,hb⟩:=hb
              rw[hb]at k2 k7
              obtain⟨cs,t,⟨flo,fhi⟩,c1,c2,g1,g2,g3,g4,g5⟩:=k2
              obtain⟨k8,k9,k10,k11⟩:=k7
              simp only at k5
              have ha:a=some ⟨b,lo*(Ty.int .u8).sz,none⟩:=k8.resolve_left (by omega)
              rw[hTe]at hteT
              obtain⟨⟨u,hu',huT⟩,_⟩:=hteT
              let w2:World:=w.freeze ⟨b,cs.size,none⟩ 1
              have hwr:Wr w w2 b:=by
                refine⟨rfl,rfl,rfl,rfl,by simp[w2,World.freeze],λk hk => ?_⟩
                simp only[w2,World.freeze,if_neg (show ¬ (1=0) by omega),Array.getElem?_modify]
                rw[if_neg (λhh=>hk hh.symm)]
              have hw2:w2.heap[b]?=some (.cells cs t (if flo==fhi then (cs.size,cs.size+1) else (min flo cs.size,max fhi (cs.size+1)))):=by
                simp only[w2,World.freeze,if_neg (show ¬ (1=0) by omega),Array.getElem?_modify]
                simp[g1]
              have hlive:(look q).isLive=true:=by rw[hl];rfl
              have hrun:(execOp ρ o).run P w = .ok (.value (ρ x)) w2:=by
                refine conv_run ho ?_
                rw[ev]
                unfold convert
                rw[hsd]
                simp only[Sem.run_bind,run_underlying hu',Result.andThen_ok]
                rw[ha]
                simp only[beq_self_eq_true,Sem.run_bind,run_underlying huT.1,Result.andThen_ok,markStringish,run_shape]
                have hshape:World.shape? w b=some (t,cs.size):=by simp[World.shape?,g1]
                simp only[hshape,run_freeze,Result.andThen_ok,Sem.run_pure]
                rfl
              obtain⟨m1,m2⟩:=hh.write hlive hb hwr (o := .row (.int .u8) l) ⟨N,k1,by
                rw[hb]
                exact⟨cs,t,_,c1,c2,hw2,NoFr.mark g2,g3,g4,RdL.mono (λx c hr=>Rd.keep (Ext.wr (P0:=P0) (E:=E) hwr (hh.sep q b hlive hb).1 (hh.sep q b hlive hb).2).keep (λ_ h=>h) _ x c hr) _ _ g5⟩⟩
              refine .inl ⟨_,w2,hrun,E,?_,m2,?_⟩
              · rw[ycy,ydL];exact m1
              · refine V.ext m2 _ _ ?_
                rw[← hx];exact hv x
            · rw[e];unfold aConvert;rw[hts,hte];simp only[hTe,hx,hk q (by simp),hl]
              try rw[dif_pos ⟨trivial,trivial⟩,if_pos ⟨hsd,hpos⟩]
          · exact absurd h (by simp)
        · exact absurd h (by simp)
      · exact absurd h (by simp)
    · rename_i q T p hTe hx
      split at h
      · rename_i T0 b hl
        split at h
        · rename_i n l hg
          split at h
          · rename_i hsT
            refine⟨_,_,_,h,.pure (λP0 S0 E w ρ hh hv => ?_) (λlook' hk R' k'=>by rw[e];unfold aConvert;rw[hts,hte];simp only[hTe,hx,hk q (by simp),hl,hg,if_pos hsT])⟩
            have h1:=hv x
            rw[hx]at h1
            obtain⟨a,cells,g1,g2,g3⟩:=oa_rd hh hl hg h1
            rw[hTe]at hteT
            rw[hsT]at htsT
            obtain⟨⟨u,hu,huT⟩,_⟩:=htsT
            refine⟨.string (bytesOf l),conv_run ho ?_,V_str.2 rfl⟩
            rw[conv_bytes hu huT.1 hteT.1 g1,g1]
            exact run_bytesToString (RdL.bytes l cells g2) (.inr ⟨a,rfl,g3⟩)
          · exact absurd h (by simp)
        · exact absurd h (by simp)
      · exact absurd h (by simp)
    · rename_i x00 x0 hTe hn2 hn3
      split at h
      · rename_i hsT
        split at h
        · rename_i l rs hres
          refine⟨_,_,_,h,.pure (λP0 S0 E w ρ hh hv => ?_) (λlook' hk R' k' => ?_)⟩
          · have h1:=hv x
            have hagg:(op x).isAgg=false:=by
              cases hox:op x with
              | data T y=>
                rw[hox]at hres
                simp only[res]at hres
                split at hres
                · rename_i hh;subst hh;rfl
                · exact absurd hres (by simp)
              | pr a b=>rw[hox]at hres;simp[res]at hres
              | _=>rfl
            rw[V_one hagg]at h1
            obtain⟨y,g1,a,cap,cells,g2,g3,g4,g5⟩:=res_slice hh hres h1
            injection g1 with g1 _
            rw[hTe]at hteT
            rw[hsT]at htsT
            obtain⟨⟨u,hu,huT⟩,_⟩:=htsT
            refine⟨.string (bytesOf l),conv_run ho ?_,V_str.2 rfl⟩
            rw[g1,conv_bytes hu huT.1 hteT.1 g2,g2]
            exact run_bytesToString (RdL.bytes l cells g4) g5
          · rw[e];unfold aConvert;rw[hts,hte]
            have hr':=res_loc (look':=look') _ _ _ _ hres hk
            cases hox:op x with
            | data T y=>
              cases T with
              | int kd=>rw[hox]at hr'; simp[res]at hr'
              | str=>rw[hox]at hr'; simp[res]at hr'
              | _=>rw[hox]at hr'; simp only[hTe,hsT,if_true,hr']
            | oa q T p=>rw[hox]at hr'; simp[res]at hr'
            | _=>rw[hox]at hr'; simp only[hTe,hsT,if_true,hr']
        · exact absurd h (by simp)
      · exact absurd h (by simp)
    · exact absurd h (by simp)
  · exact absurd h (by simp)
end
end Go.Va
