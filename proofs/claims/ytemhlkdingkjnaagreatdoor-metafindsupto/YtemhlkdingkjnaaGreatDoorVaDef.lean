/-
  Va, part 4: the abstract interpreter: definitions alone.
-/
import Derived.Test.YtemhlkdingkjnaaGreatDoorVaMem
set_option linter.unusedVariables false
set_option linter.unusedSimpArgs false
namespace Go.Va
open Go
structure TE where
  T:Ty
  bytes:Nat
def findT:List (Nat×TE)→Nat→Option TE
  | [],_=>none
  | (u,e)::r,t=>if u==t then some e else findT r t
def updL:List (Nat×Ent)→(Nat→Ent)→Nat→Ent
  | [],f,r=>f r
  | (q,e)::t,f,r=>if r==q then e else updL t f r
structure St where
  sl:List AV
  hp:List (Nat×Ent)
def St.look (s:St):Nat→Ent:=updL s.hp λ_ => .un
def ofVal:Value→AV
  | .int k n => .data (.int k) n
  | .bool b => .data .bool b
  | .string s => .data .str s
  | .slice none 0 0 => .nils .unit
  | .pointer none => .data (.opq 0) ()
  | .nilFunc => .data (.opq 1) ()
  | _ => .bad
def opAV (sl:List AV):Operand→AV
  | .tmp t=>getAt .bad sl t
  | .const v=>ofVal v
  | .func f => .fn f .done
  | .global _ => .bad
def fixN (T:Ty)(v:AV):AV:=
  match v,T with
  | .nils _,.slice e => .nils e
  | v,_=>v
def zeroAV:Ty→AV
  | .slice e => .nils e
  | .pair a b => .pr (zeroAV a) (zeroAV b)
  | T => .data T (dflt T)
def res (look:Nat→Ent):(T:Ty)→AV→Option (Den T×List Nat)
  | T,.data T' x=>if h:T'=T then some (h ▸ x,[]) else none
  | .slice e,.ow r e' rng=>
    if h:e'=e then
      match look r with
      | .live (.row e1 l)=>if h1:e1=e then match rng with | none=>some (h1 ▸ l,[r]) | some (x,y)=>some (((h1 ▸ l:List (Den e)).drop x).take y,[r]) else none
      | .froz e1 l=>if h1:e1=e then match rng with | none=>some (h1 ▸ l,[r]) | some (x,y)=>some (((h1 ▸ l:List (Den e)).drop x).take y,[r]) else none
      | _=>none
    else none
  | .slice _,.nils _=>some ([],[])
  | .pair a b,.pr u v=>match res look a u,res look b v with
    | some (x,r),some (y,s)=>some ((x,y),r++s)
    | _,_=>none
  | _,_=>none
def shut (look:Nat→Ent):List Nat→List (Nat×Ent)
  | []=>[]
  | r::t=>match look r with
    | .live (.row e l)=>(r,.froz e l)::shut look t
    | _=>shut look t
def getD:(T:Ty)→Den T→List Stp→Option AV
  | T,x,[]=>some (.data T x)
  | .arr _ e,x,.i n::p=>getD e (List.getD x n (dflt e)) p
  | .pair a _,x,.f 0::p=>getD a x.1 p
  | .pair _ b,x,.f (j+1)::p=>getD b x.2 (.f j::p)
  | _,_,_=>none
def getA:AV→List Stp→Option AV
  | v,[]=>some v
  | .data T x,p=>getD T x p
  | .pr a _,.f 0::p=>getA a p
  | .pr _ b,.f (j+1)::p=>getA b (.f j::p)
  | _,_=>none
def setD:(T:Ty)→Den T→List Stp→(T':Ty)→Den T'→Option (Den T)
  | T,_,[],T',y=>if h:T'=T then some (h ▸ y) else none
  | .arr _ e,x,.i n::p,T',y=>(setD e (List.getD x n (dflt e)) p T' y).map λz=>List.set x n z
  | .pair a _,x,.f 0::p,T',y=>(setD a x.1 p T' y).map λz=>(z,x.2)
  | .pair _ b,x,.f (j+1)::p,T',y=>(setD b x.2 (.f j::p) T' y).map λz=>(x.1,z)
  | _,_,_,_,_=>none
def setX:(T:Ty)→Den T→List Stp→AV→Option AV
  | _,_,[],u=>some u
  | .pair a b,x,.f 0::p,u=>(setX a x.1 p u).map λv => .pr v (.data b x.2)
  | .pair a b,x,.f (j+1)::p,u=>(setX b x.2 (.f j::p) u).map λv => .pr (.data a x.1) v
  | _,_,_,_=>none
def setA:AV→List Stp→AV→Option AV
  | _,[],u=>some u
  | .data T x,p,.data T' y=>(setD T x p T' y).map λz => .data T z
  | .data T x,p,u=>setX T x p u
  | .pr a b,.f 0::p,u=>(setA a p u).map λv => .pr v b
  | .pr a b,.f (j+1)::p,u=>(setA b (.f j::p) u).map λv => .pr a v
  | _,_,_=>none
def tyL:Ly→List Stp→Option Ty
  | .box T,p=>tyT T p
  | .row e,.i _::p=>tyT e p
  | .row _,_=>none
  | .mp _ _,_=>none
def getO:Obj'→List Stp→Option AV
  | .box _ c,p=>getA c p
  | .row e l,.i n::p=>getD e (l.getD n (dflt e)) p
  | .row _ _,_=>none
  | .mp _ _ _,_=>none
def setO:Obj'→List Stp→AV→Option Obj'
  | .box T c,p,u=>(setA c p u).map (.box T ·)
  | .row e l,.i n::p,.data T' y=>(setD e (l.getD n (dflt e)) p T' y).map λz => .row e (l.set n z)
  | .row _ _,_,_=>none
  | .mp _ _ _,_,_=>none
def bitI (op:BinOp)(k:IntKind)(x y:Int):Int:=
  let a:=BitVec.ofInt k.bits x
  let b:=BitVec.ofInt k.bits y
  match op with
  | .and=>k.wrap (a &&& b).toNat
  | .or=>k.wrap (a ||| b).toNat
  | .xor=>k.wrap (a ^^^ b).toNat
  | _=>k.wrap (a &&& ~~~b).toNat
def binI {R:Type}(op:BinOp)(k:IntKind)(x y:Int)(kk:AV→Option R):Option R:=
  match op with
  | .add=>kk (.data (.int k) (k.wrap (x+y)))
  | .sub=>kk (.data (.int k) (k.wrap (x-y)))
  | .mul=>kk (.data (.int k) (k.wrap (x*y)))
  | .quo=>if y=0 then none else kk (.data (.int k) (k.wrap (x.tdiv y)))
  | .rem=>if y=0 then none else kk (.data (.int k) (x.tmod y))
  | .and=>kk (.data (.int k) (bitI .and k x y))
  | .or=>kk (.data (.int k) (bitI .or k x y))
  | .xor=>kk (.data (.int k) (bitI .xor k x y))
  | .andNot=>kk (.data (.int k) (bitI .andNot k x y))
  | .eql=>kk (.data .bool (x==y))
  | .neq=>kk (.data .bool (x != y))
  | .lss=>kk (.data .bool (decide (x<y)))
  | .leq=>kk (.data .bool (decide (x≤y)))
  | .gtr=>kk (.data .bool (decide (x>y)))
  | .geq=>kk (.data .bool (decide (x≥y)))
  | _=>none
def ltS (x y:ByteArray):Bool:=Op.bytesLess x.toList y.toList
def eqS (x y:ByteArray):Bool:=x.toList==y.toList
def binS {R:Type}(op:BinOp)(x y:ByteArray)(kk:AV→Option R):Option R:=
  match op with
  | .add=>if x.size+y.size≤4611686018427387904 then kk (.data .str (x++y)) else none
  | .eql=>kk (.data .bool (eqS x y))
  | .neq=>kk (.data .bool (!eqS x y))
  | .lss=>kk (.data .bool (ltS x y))
  | .leq=>kk (.data .bool (ltS x y||eqS x y))
  | .gtr=>kk (.data .bool (!(ltS x y||eqS x y)))
  | .geq=>kk (.data .bool (!ltS x y))
  | _=>none
def shI {R:Type}(op:BinOp)(k:IntKind)(x y:Int)(kk:AV→Option R):Option R:=
  if y<0 then none else
  match op with
  | .shl=>kk (.data (.int k) (k.wrap (x*2 ^ min y.toNat k.bits)))
  | .shr=>kk (.data (.int k) (x.fdiv (2 ^ min y.toNat k.bits)))
  | _=>none
def eqL {α:Type}(f:α→α→Bool):List α→List α→Bool
  | x::l,y::m=>f x y&&eqL f l m
  | _,_=>true
def eqD:(T:Ty)→Den T→Den T→Bool
  | .int _,x,y=>decide ((x:Int)=y)
  | .bool,x,y=>(x:Bool)==y
  | .str,x,y=>(x:ByteArray)==y
  | .arr _ e,x,y=>eqL (eqD e) x y
  | .pair a b,x,y=>eqD a x.1 y.1&&eqD b x.2 y.2
  | _,_,_=>true
def cmpT:Nat→Ty→Bool
  | 0,_=>false
  | n+1,T=>match T with
    | .int _ | .bool | .str | .unit=>true
    | .arr _ e=>cmpT n e
    | .pair a b=>cmpT n a&&cmpT n b
    | _=>false
def eqOr {R:Type}(op:BinOp)(b:Bool)(kk:AV→Option R):Option R:=
  match op with
  | .eql=>kk (.data .bool b)
  | .neq=>kk (.data .bool (!b))
  | _=>none
noncomputable def hide:Bool→Bool:=Classical.choose (⟨id,rfl⟩:∃ f:Bool→Bool,f=id)
theorem yaN (b:Bool):hide b=b:=congrFun (Classical.choose_spec (⟨id,rfl⟩:∃ f:Bool→Bool,f=id)) b
noncomputable def hideB:AV→AV
  | .data .bool b => .data .bool (hide b)
  | v=>v
theorem hideB_eq (v:AV):hideB v=v:=by
  cases v with
  | data T x=>cases T<;>first | rfl | (simp only[hideB,yaN])
  | _=>rfl
def flatA:AV→AV
  | .pr a b=>match flatA a,flatA b with
    | .data A x,.data B y => .data (.pair A B) (x,y)
    | u,v => .pr u v
  | v=>v
def Ty.isSlice:Ty→Bool
  | .slice _=>true
  | _=>false
def nilInfo:AV→Option Bool
  | .data (.slice _) l=>some ((List.length l)==0)
  | .ow _ _ _=>some true
  | _=>none
def unkOr {R:Type}(op:BinOp)(c:Bool)(kk:AV→Option R):Option R:=
  match op with
  | .eql=>kk (.unk c false)
  | .neq=>kk (.unk c true)
  | _=>none
def binAV {R:Type} (tab:List (Nat×TE)) (op:BinOp) (t:TypeId) (a b:AV) (kk:AV→Option R):Option R:=
  match a,b with
  | .data (.int k) x,.data (.int k') y=>match op with
    | .shl=>shI .shl k x y kk
    | .shr=>shI .shr k x y kk
    | op=>if k=k' then binI op k x y kk else none
  | .data .str x,.data .str y=>binS op x y kk
  | .data T x,.data T' y=>
    if h:T'=T then
      match findT tab t with
      | some te=>if te.T=T∧cmpT 200 T=true then eqOr op (eqD T x (h ▸ y)) kk else none
      | none=>none
    else none
  | .po _ _ _,.data (.opq 0) _=>match findT tab t with
    | some te=>if te.T = .opq 0 then eqOr op false kk else none
    | none=>none
  | .nils _,.nils _=>match findT tab t with
    | some te=>if te.T.isSlice=true then eqOr op true kk else none
    | none=>none
  | a,.nils _=>match findT tab t,nilInfo a with
    | some te,some c=>if te.T.isSlice=true then unkOr op c kk else none
    | _,_=>none
  | _,_=>none
def bound (d:Int):Option AV→Option Int
  | none=>some d
  | some (.data (.int _) i)=>some i
  | _=>none
def bytesOf (l:List Int):ByteArray:=⟨(l.map λn=>UInt8.ofNat n.toNat).toArray⟩
def ycW (s:ByteArray):List Int:=s.data.toList.map λb=>(b.toNat:Int)
def bt (s:ByteArray)(i:Int):Int:=(s.data.toList.getD i.toNat 0).toNat
def shrI (k:IntKind)(x y:Int):Int:=x.fdiv (2 ^ min y.toNat k.bits)
def rngOf (n:Nat):Option (Nat×Nat)→Nat×Nat
  | none=>(0,n)
  | some p=>p
structure Entry where
  fid:Nat
  run:{R:Type}→(n dst:Nat)→(args:List AV)→(look:Nat→Ent)→(k:AV→List Nat→List (Nat×Ent)→Option R)→Option R
structure Cfg where
  tab:List (Nat×TE)
  Φ:List Entry
  n:Nat
  /-- Where a slice of a whole array shuts it. -/
  frz:List Nat
abbrev Kont (R:Type):=AV→List Nat→List (Nat×Ent)→Option R
def findE {R:Type}(n dst f:Nat)(args:List AV)(look:Nat→Ent)(k:Kont R):List Entry→Option R
  | []=>none
  | e::r=>if e.fid==f then e.run n dst args look k else findE n dst f args look k r
def fresh {R:Type} (look:Nat→Ent) (d:Option Nat) (k:Nat→Option R):Option R:=
  match d with
  | none=>none
  | some d=>match look d with
    | .un=>k d
    | _=>none
def ycn:List AV→AV
  | [] => .done
  | v::r => .cons v (ycn r)
def avList:AV→List AV
  | .cons a b=>a::avList b
  | _=>[]
def ydN:AV→Bool
  | .done=>true
  | .cons _ b=>ydN b
  | _=>false
def nthAV:AV→Nat→Option AV
  | .cons a _,0=>some a
  | .cons _ b,n+1=>nthAV b n
  | _,_=>none
def sliceOf (look:Nat→Ent)(e:Ty)(v:AV):Option (List (Den e)×List Nat):=res look (.slice e) v
def parts (look:Nat→Ent) (e:Ty) (op:Operand→AV):Nat→List (Nat×Operand)→Option (List (Den e)×List Nat)
  | _,[]=>some ([],[])
  | i,(j,x)::r=>if i==j then
      match res look e (op x),parts look e op (i+1) r with
      | some (y,s),some (l,s')=>some (y::l,s++s')
      | _,_=>none
    else none
def fieldsTo (op:Operand→AV):AV→List (Nat×Operand)→Option AV
  | c,[]=>some c
  | c,(j,x)::r=>match getA c [.f j] with
    | some old=>match old.ty with
      | some T=>
        let v:=fixN T (op x)
        if v.ty=some T then match setA c [.f j] v with
          | some c'=>fieldsTo op c' r
          | none=>none
        else none
      | none=>none
    | none=>none
def srcOf (look:Nat→Ent) (e:Ty) (s:AV):Option (List (Den e)×List Nat):=
  match s with
  | .data .str s=>if h:e = .int .u8 then some ((h ▸ ycW s:List (Den e)),[]) else none
  | .oa r _ p=>match look r with
    | .live (.box _ b)=>match getA b p with
      | some (.data (.arr _ e') l)=>if h:e'=e then some (h ▸ l,[r]) else none
      | _=>none
    | _=>none
  | s=>sliceOf look e s
def Ty.sl:Ty→Bool
  | .slice _=>true
  | .str=>true
  | _=>false
def aAppend {R:Type} (c:Cfg) (t t2:TypeId) (o:Oper) (d s:AV) (look:Nat→Ent) (k:Kont R):Option R:=
  match findT c.tab t,findT c.tab t2 with
  | some ⟨.slice e,eb⟩,some te2=>if te2.T.sl=true∧1≤eb∧eb≤1048576 then
    match srcOf look e s with
    | none=>none
    | some (l2,rs)=>match d with
      | .nils _=>if l2.length*eb≤70368744177664 then
          fresh look o.dst λq=>k (.ow q e none) rs ((q,.live (.row e l2))::[]) else none
      | .ow r e' none=>match look r with
        | .live (.row e1 l)=>if h:e1=e∧e'=e then
            if ((h.1 ▸ l:List (Den e)).length+l2.length)*eb≤70368744177664 then
              fresh look o.dst λq=>k (.ow q e none) (r::rs) ((q,.live (.row e ((h.1 ▸ l:List (Den e))++l2)))::(r,.dead)::[])
            else none
          else none
        | _=>none
      | .ow r e' (some (x,y))=>match look r with
        | .live (.row e1 l)=>if h:e1=e∧e'=e then
            if x+y+l2.length≤l.length then
              k (.ow r e (some (x,y+l2.length))) (r::rs) ((r,.live (.row e ((h.1 ▸ l:List (Den e)).take (x+y)++l2++(h.1 ▸ l:List (Den e)).drop (x+y+l2.length))))::[])
            else none
          else none
        | _=>none
      | _=>none
    else none
  | _,_=>none
def lenAV (look:Nat→Ent) (T:Ty) (v:AV):Option (Int×List Nat):=
  match T,v with
  | .str,.data .str s=>some (s.size,[])
  | .slice _,.data (.slice _) l=>some ((List.length l:Nat),[])
  | .slice _,.nils _=>some (0,[])
  | .slice _,.ow r _ rng=>match look r with
    | .live (.row _ l)=>some (((rngOf l.length rng).2:Nat),[r])
    | .froz _ l=>some (((rngOf l.length rng).2:Nat),[r])
    | _=>none
  | _,_=>none
def minI (_:IntKind)(x y:Int):Int:=if y<x then y else x
def maxI (_:IntKind)(x y:Int):Int:=if y>x then y else x
def foldI (f:Int→Int→Int)(k:IntKind):Int→List AV→Option Int
  | x,[]=>some x
  | x,.data (.int k') y::r=>if k'=k then foldI f k (f x y) r else none
  | _,_=>none
def aBuiltin {R:Type} (c:Cfg) (b:Builtin) (ts:List TypeId) (o:Oper) (args:List AV) (look:Nat→Ent) (k:Kont R):Option R:=
  match b,ts,args with
  | .append,[t,t2],[d,s]=>aAppend c t t2 o d s look k
  | .len,[t],[v]=>match findT c.tab t with
    | some te=>match lenAV look te.T v with
      | some (n,rs)=>k (.data (.int .i64) n) rs []
      | none=>none
    | none=>none
  | .clear,[t],[.ow r e (some (x,y))]=>match findT c.tab t,look r with
    | some te,.live (.row e1 l)=>if te.T = .slice e∧e1=e∧1≤e.sz then k (.tup .done) [r] [(r,.live (.row e1 (l.take x++List.replicate y (dflt e1)++l.drop (x+y))))] else none
    | _,_=>none
  | .copy,[t,_],[.oa q T p,s]=>match findT c.tab t,look q with
    | some te,.live (.box T1 b)=>match getA b p with
      | some (.data (.arr n e) l)=>if te.T = .slice e∧tyT T p=some (.arr n e)∧T1=T∧1≤e.sz then
          match srcOf look e s with
          | some (l2,rs)=>match setA b p (.data (.arr n e) (l2++List.drop l2.length l)) with
            | some b'=>if l2.length≤n then k (.data (.int .i64) (l2.length:Nat)) (q::rs) [(q,.live (.box T1 b'))] else none
            | none=>none
          | none=>none
        else none
      | _=>none
    | _,_=>none
  | .min,_,.data (.int kd) x::r=>match foldI (minI kd) kd x r with | some z=>k (.data (.int kd) z) [] [] | none=>none
  | .max,_,.data (.int kd) x::r=>match foldI (maxI kd) kd x r with | some z=>k (.data (.int kd) z) [] [] | none=>none
  | _,_,_=>none
def aSlice {R:Type} (c:Cfg) (t:TypeId) (x:AV) (lo hi mx:Option AV) (look:Nat→Ent) (k:Kont R):Option R:=
  match x with
  | .data .str s=>match mx,findT c.tab t,bound 0 lo,bound s.size hi with
    | none,some te,some l,some h=>if te.T = .str then if 0≤h∧h≤(s.size:Int) then if 0≤l∧l≤h then k (.data .str (s.extract l.toNat h.toNat)) [] [] else none else none else none
    | _,_,_,_=>none
  | .data (.slice e) xs=>match findT c.tab t with
    | some te=>if te.T = .slice e then
        match bound 0 lo,bound (List.length xs:Nat) hi with
        | some l,some h=>
          if 0≤h∧h≤((List.length xs:Nat):Int) then if 0≤l∧l≤h then
            match mx with
            | none=>k (.data (.slice e) ((List.take h.toNat xs).drop l.toNat)) [] []
            | some (.data (.int _) m)=>if h≤m∧m≤((List.length xs:Nat):Int)∧hi.isSome=true then k (.data (.slice e) ((List.take h.toNat xs).drop l.toNat)) [] [] else none
            | _=>none
          else none else none
        | _,_=>none
      else none
    | none=>none
  | .ow r e none=>match look r with
    | .live (.row e1 xs)=>match findT c.tab t with
      | some te=>if te.T = .slice e∧e1=e then
          match bound 0 lo,bound (xs.length:Nat) hi,mx with
          | some l,some h,none=>
            if 0≤h∧h≤((xs.length:Nat):Int) then if 0≤l∧l≤h then k (.ow r e (some (l.toNat,h.toNat-l.toNat))) [r] [] else none else none
          | some l,some h,some (.data (.int _) m)=>
            if 0≤h∧h≤((xs.length:Nat):Int) then if 0≤l∧l≤h then if m=((xs.length:Nat):Int)∧hi.isSome=true then k (.ow r e (some (l.toNat,h.toNat-l.toNat))) [r] [] else none else none else none
          | _,_,_=>none
        else none
      | none=>none
    | _=>none
  | .ow r e (some (x0,y0))=>match look r with
    | .live (.row e1 xs)=>match findT c.tab t with
      | some te=>if te.T = .slice e∧e1=e then
          match bound 0 lo,bound (y0:Nat) hi,mx with
          | some l,some h,none=>
            if 0≤h∧((x0:Nat):Int)+h≤((xs.length:Nat):Int) then if 0≤l∧l≤h then k (.ow r e (some (x0+l.toNat,h.toNat-l.toNat))) [r] [] else none else none
          | _,_,_=>none
        else none
      | none=>none
    | _=>none
  | .po r (.box T) p=>match lo,hi,mx,tyT T p,findT c.tab t with
    | none,none,none,some (.arr n e),some te=>if te.T = .arr n e then k (.oa r T p) [] [] else none
    | _,_,_,_,_=>none
  | _=>none
def aFrz {R:Type} (c:Cfg) (t:TypeId) (x:AV) (lo hi mx:Option AV) (look:Nat→Ent) (k:Kont R):Option R:=
  match x,lo,hi,mx with
  | .po r (.box T) [],none,none,none=>match findT c.tab t,look r with
    | some te,.live (.box T1 (.data (.arr n e) l))=>if te.T = .arr n e∧T = .arr n e∧T1 = .arr n e then k (.data (.slice e) l) [r] [(r,.dead)] else none
    | _,_=>none
  | _,_,_,_=>none
def ydz {R:Type} (c:Cfg) (t:TypeId) (x i:AV) (look:Nat→Ent) (k:Kont R):Option R:=
  match findT c.tab t,i with
  | some te,.data (.int _) i=>match x with
    | .data (.slice e) l=>if te.T = .slice e then
        if 0≤i∧i<((List.length l:Nat):Int) then k (.rp e (List.getD l i.toNat (dflt e))) [] [] else none
      else none
    | .ow r e rng=>match look r with
      | .live (.row e1 l)=>if te.T = .slice e∧e1=e then
          if 0≤i∧i<(((rngOf l.length rng).2:Nat):Int) then k (.po r (.row e) [.i ((rngOf l.length rng).1+i.toNat)]) [r] [] else none
        else none
      | .froz e1 l=>if te.T = .slice e∧e1=e then
          if 0≤i∧i<(((rngOf l.length rng).2:Nat):Int) then k (.po r (.row e) [.i ((rngOf l.length rng).1+i.toNat)]) [r] [] else none
        else none
      | _=>none
    | .po r l p=>match tyL l p with
      | some (.arr n e)=>if te.T = .arr n e then
          if 0≤i∧i<((n:Nat):Int) then k (.po r l (p++[.i i.toNat])) [] [] else none
        else none
      | _=>none
    | .rp (.arr n e) l=>if te.T = .arr n e then
        if 0≤i∧i<((n:Nat):Int) then k (.rp e (List.getD l i.toNat (dflt e))) [] [] else none
      else none
    | _=>none
  | _,_=>none
def smGet:List (ByteArray×Int)→ByteArray→Int×Bool
  | [],_=>(0,false)
  | p::l,s=>if eqS s p.1=true then (p.2,true) else smGet l s
def keyP:Ty→Bool
  | .int _=>true
  | .bool=>true
  | .str=>true
  | .unit=>true
  | .pair a b=>keyP a&&keyP b
  | _=>false
def keyT:Ty→Bool
  | .int _=>true
  | .bool=>true
  | .str=>true
  | .pair a b=>keyP (.pair a b)&&cmpT 200 (.pair a b)
  | _=>false
def mGet (K V:Ty):List (Den K×Den V)→Den K→Den V×Bool
  | [],_=>(dflt V,false)
  | p::l,k=>if eqD K k p.1=true then (p.2,true) else mGet K V l k
def mSet (K V:Ty):List (Den K×Den V)→Den K→Den V→List (Den K×Den V)
  | [],k,v=>[(k,v)]
  | p::l,k,v=>if eqD K k p.1=true then (k,v)::l else p::mSet K V l k v
def keyD:(T:Ty)→AV→Option (Den T)
  | .pair a b,.pr u v=>match keyD a u,keyD b v with
    | some x,some y=>some (x,y)
    | _,_=>none
  | T,.data T' x=>if h:T'=T then some (h ▸ x) else none
  | _,_=>none
def aUpdate {R:Type} (c:Cfg) (t:TypeId) (x i v:AV) (look:Nat→Ent) (k:Kont R):Option R:=
  match findT c.tab t,x with
  | some te,.mp r K V=>match look r with
    | .live (.mp K1 V1 l)=>if h:K1=K∧V1=V then if te.T = .mapT K V∧keyT K=true then
        match keyD K i with
        | some key=>match res look V (fixN V v) with
          | some (y,rs)=>k .bad (r::rs) ((r,.live (.mp K V (mSet K V (h.1 ▸ h.2 ▸ l) key y)))::shut look rs)
          | none=>none
        | none=>none
      else none else none
    | _=>none
  | _,_=>none
def aLookupM {R:Type} (c:Cfg) (t:TypeId) (r:Nat) (K V:Ty) (i:AV) (ok:Bool) (look:Nat→Ent) (k:Kont R):Option R:=
  match findT c.tab t with
  | some te=>match look r with
    | .live (.mp K1 V1 l)=>if h:K1=K∧V1=V then if te.T = .mapT K V∧keyT K=true then
        match keyD K i with
        | some key=>match ok with
          | true=>k (.tup (.cons (.data V (mGet K V (h.1 ▸ h.2 ▸ l) key).1) (.cons (.data .bool (mGet K V (h.1 ▸ h.2 ▸ l) key).2) .done))) [r] []
          | false=>k (.data V (mGet K V (h.1 ▸ h.2 ▸ l) key).1) [r] []
        | none=>none
      else none else none
    | _=>none
  | none=>none
def aLookup {R:Type} (c:Cfg) (t:TypeId) (x i:AV) (ok:Bool) (k:Kont R):Option R:=
  match findT c.tab t,x,i with
  | some te,.data .smap l,.data .str s=>if te.T = .smap then
      match ok with
      | true=>k (.tup (.cons (.data (.int .i64) (smGet l s).1) (.cons (.data .bool (smGet l s).2) .done))) [] []
      | false=>k (.data (.int .i64) (smGet l s).1) [] []
    else none
  | _,_,_=>none
def aIndex {R:Type} (c:Cfg) (t:TypeId) (x i:AV) (k:Kont R):Option R:=
  match findT c.tab t,i with
  | some te,.data (.int _) i=>match x with
    | .data .str s=>if te.T = .str then if 0≤i∧i<(s.size:Int) then k (.data (.int .u8) (bt s i)) [] [] else none else none
    | .data (.arr n e) l=>if te.T = .arr n e then
        if 0≤i∧i<((n:Nat):Int) then k (.data e (List.getD l i.toNat (dflt e))) [] [] else none
      else none
    | _=>none
  | _,_=>none
def aConvert {R:Type} (c:Cfg) (src dst:TypeId) (o:Oper) (x:AV) (look:Nat→Ent) (k:Kont R):Option R:=
  match findT c.tab src,findT c.tab dst with
  | some ts,some te=>match te.T,x with
    | .int kd,.data (.int _) y=>k (.data (.int kd) (kd.wrap y)) [] []
    | .str,.data .str s=>k (.data .str s) [] []
    | .slice (.int .u8),.data .str s=>fresh look o.dst λq=>k (.ow q (.int .u8) none) [] [(q,.live (.row (.int .u8) (ycW s)))]
    | .slice (.int .u8),.ow r e' none=>match look r with
      | .live (.row e1 l)=>if _:e1 = .int .u8∧e' = .int .u8 then
          if src=dst∧0<l.length then k (.ow r e' none) [r] [(r,.live (.row e1 l))] else none
        else none
      | _=>none
    | .str,.oa r T p=>match look r with
      | .live (.box _ b)=>match getA b p with
        | some (.data (.arr _ (.int .u8)) l)=>if ts.T = .slice (.int .u8) then k (.data .str (bytesOf l)) [r] [] else none
        | _=>none
      | _=>none
    | .str,x=>if ts.T = .slice (.int .u8) then match res look (.slice (.int .u8)) x with
        | some (l,rs)=>k (.data .str (bytesOf l)) rs []
        | none=>none
      else none
    | _,_=>none
  | _,_=>none
def aClo {R:Type} (f:FuncId) (caps:List AV) (look:Nat→Ent) (k:Kont R):Option R:=match caps with
  | [.po r (.box T) []]=>match look r with
    | .live (.box T' v)=>if T'=T then k (.fn f (.cons (.cp v) .done)) [] [(r,.dead)] else none
    | _=>none
  | _=>none
noncomputable def aOp {R:Type}(c:Cfg)(o:Oper)(op:Operand→AV)(look:Nat→Ent)(k:Kont R):Option R:=
  match o.op with
  | .move x | .assign x=>match findT c.tab o.type with
    | some te=>k (fixN te.T (op x)) [] []
    | none=>k (op x) [] []
  | .pick q a b=>match op q with
    | .data .bool q=>if q=true then k (op a) [] [] else k (op b) [] []
    | _=>none
  | .alloc t=>match findT c.tab t with
    | some te=>fresh look o.dst λq=>k (.po q (.box te.T) []) [] [(q,.live (.box te.T (zeroAV te.T)))]
    | none=>none
  | .box t x=>match findT c.tab t with
    | some te=>if (fixN te.T (op x)).ty=some te.T then
        fresh look o.dst λq=>k (.po q (.box te.T) []) [] [(q,.live (.box te.T (fixN te.T (op x))))]
      else none
    | none=>none
  | .build t ps=>match findT c.tab t with
    | some te=>match te.T with
      | .pair a b=>if (ps.toList.all λp=>(tyT (.pair a b) [.f p.1]).isSome)=true then
          match fieldsTo op (zeroAV (.pair a b)) ps.toList with
          | some v=>k v [] []
          | none=>none
        else none
      | .arr n e=>match parts look e op 0 ps.toList with
        | some (l,rs)=>if l.length≤n then k (.data (.arr n e) (l++List.replicate (n-l.length) (dflt e))) rs (shut look rs) else none
        | none=>none
      | _=>none
    | none=>none
  | .buildSlice t n ps=>match findT c.tab t with
    | some ⟨.slice e,_⟩=>match parts look e op 0 ps.toList with
      | some (l,rs)=>if l.length=n∧n*e.sz≤16777216 then fresh look o.dst λq=>k (.ow q e none) rs ((q,.live (.row e l))::shut look rs) else none
      | none=>none
    | _=>none
  | .load t a=>match findT c.tab t with
    | some te=>match op a with
      | .rp T x=>if T=te.T then k (.data T x) [] [] else none
      | .cp v=>if v.ty=some te.T then k v [] [] else none
      | .po r l p=>match look r with
        | .live ob=>match getO ob p with
          | some v=>if v.ty=some te.T∧tyL l p=some te.T then k v [r] [] else none
          | none=>none
        | .froz e xs=>match getO (.row e xs) p with
          | some v=>if v.ty=some te.T∧tyL l p=some te.T then k v [r] [] else none
          | none=>none
        | _=>none
      | _=>none
    | none=>none
  | .store t a x=>match findT c.tab t with
    | some te=>match op a with
      | .po r l p=>match look r with
        | .live ob=>if (fixN te.T (op x)).ty=some te.T∧tyL l p=some te.T then
            match setO ob p (fixN te.T (op x)) with
            | some ob'=>k .bad [r] [(r,.live ob')]
            | none=>none
          else none
        | _=>none
      | _=>none
    | none=>none
  | .nilCheck x=>match op x with
    | .po r l p=>k (.po r l p) [] []
    | .rp T x=>k (.rp T x) [] []
    | .cp v=>k (.cp v) [] []
    | .fn f cs=>k (.fn f cs) [] []
    | .fb f cs=>k (.fb f cs) [] []
    | _=>none
  | .binOp bo t x y _=>binAV c.tab bo t (flatA (op x)) (flatA (op y)) λv=>k (hideB v) [] []
  | .unOp .not _ x=>match op x with | .data .bool b=>k (.data .bool (!b)) [] [] | _=>none
  | .unOp .neg _ x=>match op x with | .data (.int kd) n=>k (.data (.int kd) (kd.wrap (0-n))) [] [] | _=>none
  | .convert s d x=>aConvert c s d o (op x) look k
  | .makeFunc (.func f) first caps=>if first.size=0 then (match c.frz.elem (o.dst.getD 0) with | true=>aClo f (caps.toList.map op) look k | false=>k (.fn f (ycn (caps.toList.map op))) [] []) else if caps.size=0 then k (.fb f (ycn (first.toList.map op))) [] [] else none
  | .makeMap t none=>match findT c.tab t with
    | some ⟨.mapT K V,_⟩=>fresh look o.dst λq=>k (.mp q K V) [] [(q,.live (.mp K V []))]
    | _=>none
  | .mapUpdate t x i v=>aUpdate c t (op x) (op i) (op v) look k
  | .insert t x i v=>aUpdate c t (op x) (op i) (op v) look k
  | .makeSlice t l m=>match findT c.tab t with
    | some ⟨.slice e,eb⟩=>match op l,op m with
      | .data (.int .i64) l,.data (.int .i64) m=>if 0≤l∧l≤m∧m*eb≤70368744177664∧1≤eb∧1≤e.sz then
          fresh look o.dst λq=>k (.ow q e none) [] [(q,.live (.row e (List.replicate l.toNat (dflt e))))] else none
      | _,_=>none
    | _=>none
  | .slice t x lo hi mx=>match c.frz.elem (o.dst.getD 0) with
    | true=>aFrz c t (op x) (lo.map op) (hi.map op) (mx.map op) look k
    | false=>aSlice c t (op x) (lo.map op) (hi.map op) (mx.map op) look k
  | .fieldAddr t x j=>match findT c.tab t with
    | some te=>match op x with
      | .po r l p=>if tyL l p=some te.T then match tyT te.T [.f j] with
          | some T'=>if T'.sz=0 then none else k (.po r l (p++[.f j])) [] []
          | none=>none
        else none
      | .rp T x=>if T=te.T then match getD T x [.f j] with
          | some (.data T' y)=>if T'.sz=0 then none else k (.rp T' y) [] []
          | _=>none
        else none
      | _=>none
    | none=>none
  | .field t x j=>match findT c.tab t with
    | some te=>if (op x).ty=some te.T then match getA (op x) [.f j] with
        | some v=>match tyT te.T [.f j] with
          | some _=>k v [] []
          | none=>none
        | none=>none
      else none
    | none=>none
  | .indexAddr t x i=>ydz c t (op x) (op i) look k
  | .index t x i=>aIndex c t (op x) (op i) k
  | .lookup t x i ok=>match op x with
    | .mp r K V=>aLookupM c t r K V (op i) ok look k
    | v=>aLookup c t v (op i) ok k
  | .extract x i=>match op x with
    | .tup l=>match nthAV l i with
      | some v=>k v [] []
      | none=>none
    | _=>none
  | .call q=>match q.callee with
    | .builtin b=>aBuiltin c b q.argTypes.toList o (q.args.toList.map op) look k
    | .value f=>match op f with
      | .fn f caps=>if ydN caps=true then findE c.n (o.dst.getD 0) f (q.args.toList.map op++avList caps) look k c.Φ else none
      | .fb f fi=>if ydN fi=true then findE c.n (o.dst.getD 0) f (avList fi++q.args.toList.map op) look k c.Φ else none
      | _=>none
    | _=>none
  | _=>none
end Go.Va
