/-
  Va, part 22: regions, code: definitions.
-/
import Derived.Test.YtemhlkdingkjnaaGreatDoorVaGate
set_option linter.unusedVariables false
set_option linter.unusedSimpArgs false
namespace Go.Va
open Go
def opnds:Op→List Operand
  | .move x | .assign x | .box _ x | .load _ x | .nilCheck x | .unOp _ _ x | .convert _ _ x | .fieldAddr _ x _ | .field _ x _ | .extract x _=>[x]
  | .pick c a b=>[c,a,b]
  | .build _ ps | .buildSlice _ _ ps=>ps.toList.map (·.2)
  | .store _ a v | .binOp _ _ a v _ | .makeSlice _ a v | .indexAddr _ a v | .index _ a v | .lookup _ a v _=>[a,v]
  | .makeFunc _ first caps=>first.toList++caps.toList
  | .mapUpdate _ a b v | .insert _ a b v=>[a,b,v]
  | .slice _ x l h m=>x::(l.toList++h.toList++m.toList)
  | .call c=>(match c.callee with | .value f=>[f] | _=>[])++c.args.toList
  | _=>[]
def tmpsOf:List Operand→List Nat
  | []=>[]
  | .tmp t::r=>t::tmpsOf r
  | _::r=>tmpsOf r
structure Touch where
  rs:List Nat
  ws:List Nat
  rn:List Nat
  wn:List Nat
def meets (a b:List Nat):Bool:=a.any λx=>b.elem x
def Touch.clash (a b:Touch):Bool:=meets a.ws b.rs||meets a.ws b.ws||meets a.rs b.ws||meets a.wn b.rn||meets a.wn b.wn||meets a.rn b.wn
def ahead (tab:List (List Nat)):List Edge→List Nat
  | []=>[]
  | e::r=>if Region.binds .any e then (e.on::getAt [] tab e.on)++ahead tab r else ahead tab r
def dedup:List Nat→List Nat
  | []=>[]
  | x::r=>if r.elem x then dedup r else x::dedup r
def aheads:List Oper→List (List Nat)→List (List Nat)
  | [],tab=>tab
  | o::r,tab=>aheads r (tab++[dedup (ahead tab o.after.toList)])
def clear1 (tab:List (List Nat))(i:Nat)(a:Touch):Nat→List Touch→Bool
  | _,[]=>true
  | j,b::r=>(!a.clash b||(getAt [] tab j).elem i)&&clear1 tab i a (j+1) r
def clearAll (tab:List (List Nat)):Nat→List Touch→Bool
  | _,[]=>true
  | i,a::r=>clear1 tab i a (i+1) r&&clearAll tab (i+1) r
def ydS:Nat→List Oper→Bool
  | _,[]=>true
  | i,o::r=>(o.after.toList.all λe=>!Region.binds .any e||decide (e.on<i))&&ydS (i+1) r
def ycU:List Oper→Nat→Option Nat
  | [],_=>none
  | o::_,0=>o.dst
  | _::r,j+1=>ycU r j
def St.put (s:St)(d:Option Nat)(v:AV)(WN:List (Nat×Ent)):St:=
  ⟨match d with | some d=>setAt s.sl d v | none=>s.sl,WN++s.hp⟩
def branch {R:Type}(s:St)(t:Nat)(kt kf:St→Option R):Option R:=
  match getAt .bad s.sl t with
  | .data .bool b=>bIf b (kt ⟨setAt s.sl t (.data .bool true),s.hp⟩) (kf ⟨setAt s.sl t (.data .bool false),s.hp⟩)
  | _=>none
def isUndef:AV→Bool
  | .tup .done=>true
  | _=>false
def yb5 (all:List Oper)(o:Oper)(RN:List Nat)(WN:List (Nat×Ent)):Touch:=
  ⟨tmpsOf (opnds o.op)++(match o.guard with | some (j,_)=>(ycU all j).toList | none=>[]),o.dst.toList,RN,WN.map Prod.fst⟩
def ybL {α:Type}:AV→(AV→α)→α
  | .bad,k=>k .bad
  | .data T x,k=>k (.data T x)
  | .nils e,k=>k (.nils e)
  | .rp T x,k=>k (.rp T x)
  | .cp v,k=>ybL v λv=>k (.cp v)
  | .po r l p,k=>k (.po r l p)
  | .ow r e g,k=>k (.ow r e g)
  | .oa r T p,k=>k (.oa r T p)
  | .pr a b,k=>ybL a λa=>ybL b λb=>k (.pr a b)
  | .fn f c,k=>ybL c λc=>k (.fn f c)
  | .tup l,k=>ybL l λl=>k (.tup l)
  | .done,k=>k .done
  | .cons a b,k=>ybL a λa=>ybL b λb=>k (.cons a b)
  | .unk c n,k=>k (.unk c n)
  | .mp r K V,k=>k (.mp r K V)
  | .fb f c,k=>ybL c λc=>k (.fb f c)
def forceL {α:Type}:List AV→(List AV→α)→α
  | [],k=>k []
  | x::r,k=>ybL x λx=>forceL r λr=>k (x::r)
def forceH {α:Type}:List (Nat×Ent)→(List (Nat×Ent)→α)→α
  | [],k=>k []
  | (q,e)::r,k=>forceH r λr=>match e with
    | .un=>k ((q,.un)::r)
    | .dead=>k ((q,.dead)::r)
    | .froz T l=>k ((q,.froz T l)::r)
    | .live (.row T l)=>k ((q,.live (.row T l))::r)
    | .live (.mp K V l)=>k ((q,.live (.mp K V l))::r)
    | .live (.box T c)=>ybL c λc=>k ((q,.live (.box T c))::r)
def force {α:Type}(s:St)(k:St→α):α:=forceL s.sl λsl=>forceH s.hp λhp=>k ⟨sl,hp⟩
theorem yba {α:Type}:∀ (v:AV) (k:AV→α),ybL v k=k v
  | .pr a b,k=>by simp only[ybL];rw[yba a,yba b]
  | .fn f c,k=>by simp only[ybL];rw[yba c]
  | .fb f c,k=>by simp only[ybL];rw[yba c]
  | .mp _ _ _,_=>rfl
  | .tup l,k=>by simp only[ybL];rw[yba l]
  | .cons a b,k=>by simp only[ybL];rw[yba a,yba b]
  | .bad,_=>rfl
  | .data _ _,_=>rfl
  | .nils _,_=>rfl
  | .rp _ _,_=>rfl
  | .cp v,k=>by simp only[ybL];rw[yba v]
  | .po _ _ _,_=>rfl
  | .ow _ _ _,_=>rfl
  | .oa _ _ _,_=>rfl
  | .done,_=>rfl
  | .unk _ _,_=>rfl
theorem forceL_eq {α:Type}:∀ (l:List AV) (k:List AV→α),forceL l k=k l
  | [],_=>rfl
  | x::r,k=>by simp only[forceL];rw[yba,forceL_eq r]
theorem forceH_eq {α:Type}:∀ (l:List (Nat×Ent)) (k:List (Nat×Ent)→α),forceH l k=k l
  | [],_=>rfl
  | (q,e)::r,k=>by
    simp only[forceH]
    rw[forceH_eq r]
    cases e with
    | live o=>cases o with
      | row T l=>rfl
      | mp K V l=>rfl
      | box T c=>simp only[];rw[yba]
    | _=>rfl
theorem force_eq {α:Type}(s:St)(k:St→α):force s k=k s:=by unfold force;rw[forceL_eq,forceH_eq]
noncomputable def aOps {R:Type}(c:Cfg)(all:List Oper):List Oper→St→List Touch→(St→List Touch→Option R)→Option R
  | [],s,lg,k=>k s lg
  | o :: r,s,lg,k=>
    let go (s:St):Option R:=aOpG c o (opAV s.sl) s.look λv RN WN=>aOps c all r (s.put o.dst v WN) (lg++[yb5 all o RN WN]) k
    let skip (s:St):Option R:=aOps c all r (s.put o.dst (.tup .done) []) (lg++[yb5 all o [] []]) k
    match o.guard with
    | none=>go s
    | some (j,want)=>match ycU all j with
      | none=>none
      | some t=>if isUndef (getAt .bad s.sl t)=true then skip s else force s λs=>match want with
        | true=>branch s t go skip
        | false=>branch s t skip go
inductive Ex where
  | nrm
  | ex (id:Nat)
  | ret
inductive Sh where
  | d (T:Ty)
  | r (q:Nat) (e:Ty)
  | p (a b:Sh)
  | al (x:Nat) (T:Ty)
  | m (q:Nat) (K V:Ty)
abbrev Sh.ty:Sh→Ty
  | .d T=>T
  | .r _ e => .slice e
  | .p a b => .pair a.ty b.ty
  | .al _ _ => .opq 0
  | .m _ K V => .mapT K V
def Sh.av:(sh:Sh)→Den sh.ty→AV
  | .d T,x => .data T x
  | .r q e,_ => .ow q e none
  | .p a b,x => .pr (a.av x.1) (b.av x.2)
  | .al x T,_ => .po x (.box T) []
  | .m q K V,_ => .mp q K V
def Sh.rows:(sh:Sh)→Den sh.ty→List (Nat×Ent)
  | .d _,_=>[]
  | .r q e,l=>[(q,.live (.row e l))]
  | .p a b,x=>a.rows x.1++b.rows x.2
  | .al _ _,_=>[]
  | .m q K V,l=>[(q,.live (.mp K V l))]
def Sh.names:Sh→List Nat
  | .d _=>[]
  | .r q _=>[q]
  | .p a b=>a.names++b.names
  | .al _ _=>[]
  | .m q _ _=>[q]
def Sh.refs:Sh→List Nat
  | .al x _=>[x]
  | .p a b=>a.refs++b.refs
  | _=>[]
inductive Hold where
  | fn (f:FuncId)
  | bd (f:FuncId)
  | str (d:Nat)
  /-- a closure over one variable, which is shut -/
  | fn1 (f:FuncId) (h:Hold)
  /-- a pointer to a variable that is shut -/
  | cp (h:Hold)
def wrapP:Nat→AV→AV
  | 0,p=>p
  | d+1,p => .pr (wrapP d p) (.data .unit ())
def unwrapP:Nat→AV→Option AV
  | 0,.po q l p=>some (.po q l p)
  | d+1,.pr a (.data .unit _)=>unwrapP d a
  | _,_=>none
def holdAV:Hold→AV→AV
  | .fn f,caps => .fn f caps
  | .bd f,caps => .fb f caps
  | .str d,.cons p .done=>wrapP d p
  | .str _,_ => .bad
  | .fn1 f h,caps => .fn f (.cons (.cp (holdAV h caps)) .done)
  | .cp h,caps => .cp (holdAV h caps)
def yds:Hold→AV→AV
  | .fn f,.fn f' caps=>if f'=f then caps else .bad
  | .bd f,.fb f' caps=>if f'=f then caps else .bad
  | .str d,v=>match unwrapP d v with
    | some p => .cons p .done
    | none => .bad
  | .fn1 f h,.fn f' (.cons (.cp v) .done)=>if f'=f then yds h v else .bad
  | .cp h,.cp v=>yds h v
  | _,_ => .bad
def capsA:AV→AV
  | .fn _ (.cons (.cp v) .done)=>capsA v
  | .fn _ caps=>caps
  | .cp v=>capsA v
  | .fb _ caps=>caps
  | .po q l p => .cons (.po q l p) .done
  | .pr a _=>capsA a
  | _ => .bad
inductive Si where
  | val (slot:Nat) (sh:Sh)
  | ref (slot r:Nat) (T:Ty)
  | box (r:Nat) (sh:Sh)
  | bor (slot:Nat) (c:Option Nat) (r:Nat) (sh:Sh)
  | clo (slot:Nat) (h:Hold) (rs:List (Nat×Ty×Bool))
abbrev Si.dat (i:Nat)(T:Ty):Si := .val i (.d T)
abbrev Si.row (i r:Nat)(e:Ty):Si := .val i (.r r e)
abbrev Dens:List Si→Type
  | []=>Unit
  | .val _ sh::g=>Den sh.ty×Dens g
  | .ref _ _ _::g=>Dens g
  | .box _ sh::g=>Den sh.ty×Dens g
  | .bor _ _ _ sh::g=>Den sh.ty×Dens g
  | .clo _ _ _::g=>Dens g
inductive Mv where
  | mv (r q:Nat)
  | cutm (r q k:Nat)
  | nilm (r:Nat) (e:Ty)
def Mv.name:Mv→Nat
  | .mv r _=>r
  | .cutm r _ _=>r
  | .nilm r _=>r
def Mv.src:Mv→Option Nat
  | .mv _ q=>some q
  | .cutm _ q _=>some q
  | .nilm _ _=>none
def take (look:Nat→Ent):(sh:Sh)→AV→Option (Den sh.ty×List Nat×List Mv)
  | .d T,v=>match res look T v with
    | none=>none
    | some (x,rs)=>some (x,rs,[])
  | .r r e,.nils _=>some ([],[],[.nilm r e])
  | .r r e,.ow q e' rng=>match look q with
    | .live (.row e1 l)=>if h:e1=e∧e'=e then
        match rng with
        | none=>some (h.1 ▸ l,[],[.mv r q])
        | some (0,k)=>some ((h.1 ▸ l:List (Den e)).take k,[],[.cutm r q k])
        | _=>none
      else none
    | _=>none
  | .p a b,.pr u v=>match take look a u with
    | none=>none
    | some (x,r1,m1)=>match take look b v with
      | none=>none
      | some (y,r2,m2)=>some ((x,y),r1++r2,m1++m2)
  | .p a b,.data (.pair A B) z=>match take look a (.data A z.1) with
    | none=>none
    | some (x,r1,m1)=>match take look b (.data B z.2) with
      | none=>none
      | some (y,r2,m2)=>some ((x,y),r1++r2,m1++m2)
  | .al r T,.po r' (.box T') []=>if r'=r∧T'=T then some ((),[],[]) else none
  | .m r K V,.mp q K' V'=>match look q with
    | .live (.mp K1 V1 l)=>if h:(K1=K∧V1=V)∧K'=K∧V'=V then some ((h.1.1 ▸ h.1.2 ▸ l:List (Den K×Den V)),[],[.mv r q]) else none
    | _=>none
  | _,_=>none
def locAV (sl:List AV)(i:Nat):Option Nat→AV
  | none=>getAt .bad sl i
  | some c=>(nthAV (capsA (getAt .bad sl i)) c).getD .bad
def ycE:List (Nat×Ty×Bool)→AV→Bool
  | [],.done=>true
  | (r,T,b)::rs,.cons (.po q (.box T') []) m=>decide (T'=T)&&(b||q==r)&&ycE rs m
  | _,_=>false
def capsAV (rs:List (Nat×Ty×Bool)):AV:=ycn (rs.map λx => .po x.1 (.box x.2.1) [])
def extr (s : St) (look:Nat→Ent):(g:List Si)→Option (Dens g×List Nat×List Mv)
  | []=>some ((),[],[])
  | .val i sh::g=>match take look sh (getAt .bad s.sl i) with
    | none=>none
    | some (x,rs,ms)=>match extr s look g with
      | none=>none
      | some (y,a,b)=>some ((x,y),rs++a,ms++b)
  | .ref i r T::g=>match getAt .bad s.sl i with
    | .po r' (.box T') []=>if r'=r∧T'=T then extr s look g else none
    | _=>none
  | .box r sh::g=>match look r with
    | .live (.box T' v)=>if T'=sh.ty then
        match take look sh v with
        | none=>none
        | some (x,rs,ms)=>match extr s look g with
          | none=>none
          | some (y,a,b)=>some ((x,y),rs++a,.mv r r::(ms++b))
      else none
    | _=>none
  | .bor i c r sh::g=>match locAV s.sl i c with
    | .po q (.box T1) []=>match look q with
      | .live (.box T' v)=>if T'=sh.ty∧T1=sh.ty then
          match take look sh v with
          | none=>none
          | some (x,rs,ms)=>match extr s look g with
            | none=>none
            | some (y,a,b)=>some ((x,y),rs++a,.mv r q::(ms++b))
        else none
      | _=>none
    | _=>none
  | .clo i h rs::g=>if ycE rs (yds h (getAt .bad s.sl i))=true then extr s look g else none
def ydj:(g:List Si)→Dens g→List AV→List AV
  | [],_,l=>l
  | .val i sh::g,v,l=>setAt (ydj g v.2 l) i (sh.av v.1)
  | .ref i r T::g,v,l=>setAt (ydj g v l) i (.po r (.box T) [])
  | .box _ _::g,v,l=>ydj g v.2 l
  | .bor i none r sh::g,v,l=>setAt (ydj g v.2 l) i (.po r (.box sh.ty) [])
  | .bor _ (some _) _ _::g,v,l=>ydj g v.2 l
  | .clo i h rs::g,v,l=>setAt (ydj g v l) i (holdAV h (capsAV rs))
def ybT:(g:List Si)→Dens g→List (Nat×Ent)
  | [],_=>[]
  | .val _ sh::g,v=>sh.rows v.1++ybT g v.2
  | .ref _ _ _::g,v=>ybT g v
  | .box r sh::g,v=>(r,.live (.box sh.ty (sh.av v.1)))::(sh.rows v.1++ybT g v.2)
  | .bor _ _ r sh::g,v=>(r,.live (.box sh.ty (sh.av v.1)))::(sh.rows v.1++ybT g v.2)
  | .clo _ _ _::g,v=>ybT g v
def frameOf (n:Nat)(g:List Si)(v:Dens g):St:=⟨ydj g v (List.replicate n .bad),ybT g v⟩
def ycB:List Si→List Nat
  | []=>[]
  | .val _ sh::g=>sh.names++ycB g
  | .box r sh::g=>r::(sh.names++ycB g)
  | .bor _ _ r sh::g=>r::(sh.names++ycB g)
  | _::g=>ycB g
def nodup:List Nat→Bool
  | []=>true
  | x::r=>!r.elem x&&nodup r
def ycG (r:Nat):List Si→Bool
  | []=>false
  | .box r' _::g=>r'==r||ycG r g
  | _::g=>ycG r g
def hasBor (i j r:Nat):List Si→Bool
  | []=>false
  | .bor i' (some j') r' _::g=>(i'==i&&j'==j&&r'==r)||hasBor i j r g
  | _::g=>hasBor i j r g
def cloRefs (g:List Si)(i:Nat):Nat→List (Nat×Ty×Bool)→Bool
  | _,[]=>true
  | j,(r,_,b)::rs=>(if b=true then hasBor i j r g else ycG r g)&&cloRefs g i (j+1) rs
def ydq (g0:List Si):List Si→Bool
  | []=>true
  | .ref _ r _::g=>ycG r g0&&ydq g0 g
  | .clo i _ rs::g=>cloRefs g0 i 0 rs&&ydq g0 g
  | .val _ sh::g=>(sh.refs.all λr=>ycG r g0)&&ydq g0 g
  | .box _ sh::g=>(sh.refs.all λr=>ycG r g0)&&ydq g0 g
  | .bor _ _ _ sh::g=>(sh.refs.all λr=>ycG r g0)&&ydq g0 g
def okSig (bn:List Nat)(g:List Si):Bool:=nodup (ycB g)&&ydq g g&&bn.all λr=>ycG r g
def srcs:List Mv→List Nat
  | []=>[]
  | .mv _ q::ms=>q::srcs ms
  | .cutm _ q _::ms=>q::srcs ms
  | .nilm _ _::ms=>srcs ms
def cutTo {R:Type} (bn:List Nat) (g:List Si) (s:St) (k:Dens g→Option R):Option R:=
  if okSig bn g=true then
    match extr s s.look g with
    | none=>none
    | some (v,rs,ms)=>if nodup (srcs ms)=true∧meets (srcs ms) rs=false then k v else none
  else none
noncomputable def hideF {α:Type}:α→α:=Classical.choose (⟨id,rfl⟩:∃ f:α→α,f=id)
theorem yac {α:Type}(x:α):hideF x=x:=congrFun (Classical.choose_spec (⟨id,rfl⟩:∃ f:α→α,f=id)) x
structure Ctx where
  c:Cfg
  len:Nat
  bn:List Nat
abbrev KK (R:Type):=Ex→St→Option R
inductive AC (R:Type) where
  | skip
  | region (id:Nat) (ops:Array Oper) (draw:Bool)
  | seq (a b:AC R)
  | cond (c:Operand) (a b:AC R)
  | block (id:Nat) (b:AC R)
  | exit (id:Nat)
  | ret
  | cut (c:Code) (g:List Si) (run:Dens g→KK R→Option R)
def AC.code {R:Type}:AC R→Code
  | .skip => .skip
  | .region id ops d => .region id ops d
  | .seq a b => .seq a.code b.code
  | .cond c a b => .cond c a.code b.code
  | .block id b => .block id b.code
  | .exit id => .exit id
  | .ret => .ret
  | .cut c _ _=>c
def oc (R:Type):Code→AC R
  | .skip => .skip
  | .region id ops d => .region id ops d
  | .seq a b => .seq (oc R a) (oc R b)
  | .cond c a b => .cond c (oc R a) (oc R b)
  | .block id b => .block id (oc R b)
  | .exit id => .exit id
  | _ => .ret
def sub:Code→List Nat→Code
  | c,[]=>c
  | .seq a b,i::p=>if i==0 then sub a p else sub b p
  | .cond _ a b,i::p=>if i==0 then sub a p else sub b p
  | .block _ b,_::p=>sub b p
  | .loop b,_::p=>sub b p
  | c,_=>c
def seqK {R:Type}(F:St→Option R)(k:KK R):KK R
  | .nrm,s=>F s
  | .ex id,s=>k (.ex id) s
  | .ret,s=>k .ret s
def blockK {R:Type}(id:Nat)(k:KK R):KK R
  | .nrm,s=>k .nrm s
  | .ex j,s=>if j==id then k .nrm s else k (.ex j) s
  | .ret,s=>k .ret s
def loopK {R:Type}(bn:List Nat)(g:List Si)(F:Dens g→Option R)(k:KK R):KK R
  | .nrm,s=>cutTo bn g s F
  | .ex id,s=>k (.ex id) s
  | .ret,s=>k .ret s
noncomputable def bothC {R:Type}(a b:Option R):Option R:=open Classical in if a=b then a else none
theorem bothC_self {R:Type}(a:Option R):bothC a a=a:=by unfold bothC;rw[if_pos rfl]
theorem bothC_some {R:Type}{a b:Option R}{r:R}(h:bothC a b=some r):a=some r∧b=some r:=by
  unfold bothC at h
  split at h
  · rename_i e;exact⟨h,e ▸ h⟩
  · exact absurd h (by simp)
noncomputable def branchU {R:Type}(s:St)(t:Nat)(kt kf:Option R)(kk:Option R):Option R:=
  match getAt .bad s.sl t with
  | .unk c neg=>bIf c (bothC kt kf) (bIf neg kt kf)
  | _=>kk
noncomputable def acRun {R:Type}(x:Ctx):AC R→St→KK R→Option R
  | .skip,s,k=>k .nrm s
  | .region _ ops d,s,k=>aOps x.c ops.toList ops.toList s [] λs lg=>match d with
    | true=>match ydS 0 ops.toList&&clearAll (aheads ops.toList []) 0 lg with
      | true=>force s (k .nrm)
      | false=>none
    | false=>force s (k .nrm)
  | .seq a b,s,k=>acRun x a s (seqK (λs=>acRun x b s k) k)
  | .cond (.tmp t) a b,s,k=>branchU s t (acRun x a s k) (acRun x b s k) (branch s t (λs=>acRun x a s k) (λs=>acRun x b s k))
  | .cond _ _ _,_,_=>none
  | .block id b,s,k=>acRun x b s (blockK id k)
  | .exit id,s,k=>k (.ex id) s
  | .ret,s,k=>k .ret s
  | .cut _ g run,s,k=>cutTo x.bn g s λv=>run v k
noncomputable def runR {R:Type}(x:Ctx)(A:AC R)(g:List Si)(v:Dens g)(k:KK R):Option R:=acRun x A (frameOf x.len g v) k
noncomputable def runL {R:Type}(x:Ctx)(A:AC R)(g:List Si):Nat→Dens g→KK R→Option R
  | 0,_,_=>none
  | m+1,v,k=>acRun x A (frameOf x.len g v) (loopK x.bn g (λv=>hideF (runL x A g m v k)) k)
end Go.Va
