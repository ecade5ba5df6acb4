/-
  Va, part 21b: the same operations, with tests that the kernel doesn't take apart.
-/
import Derived.Test.YtemhlkdingkjnaaGreatDoorVaOps12
set_option linter.unusedVariables false
set_option linter.unusedSimpArgs false
namespace Go.Va
open Go
def bIf {α:Type}(b:Bool)(x y:α):α:=
  match b with
  | true=>x
  | false=>y
theorem ycN {α:Type}(b:Bool)(x y:α):bIf b x y=if b=true then x else y:=by cases b<;>rfl
noncomputable def gIf:Prop→{α:Type}→Option α→Option α:=λp {α} x=>(Classical.choose (⟨λp x=>(open Classical in if p then x else none),λp x=>rfl⟩:∃ f:Prop→Option α→Option α,∀ p x,f p x=(open Classical in if p then x else none))) p x
noncomputable def gNo:Prop→{α:Type}→Option α→Option α:=λp {α} x=>(Classical.choose (⟨λp x=>(open Classical in if p then none else x),λp x=>rfl⟩:∃ f:Prop→Option α→Option α,∀ p x,f p x=(open Classical in if p then none else x))) p x
theorem ycM (p:Prop) [Decidable p]{α:Type}(x:Option α):gIf p x=if p then x else none:=by
  unfold gIf
  rw[Classical.choose_spec (⟨λp x=>(open Classical in if p then x else none),λp x=>rfl⟩:∃ f:Prop→Option α→Option α,∀ p x,f p x=(open Classical in if p then x else none)) p x]
  split<;>simp_all
theorem gNo_eq (p:Prop) [Decidable p]{α:Type}(x:Option α):gNo p x=if p then none else x:=by
  unfold gNo
  rw[Classical.choose_spec (⟨λp x=>(open Classical in if p then none else x),λp x=>rfl⟩:∃ f:Prop→Option α→Option α,∀ p x,f p x=(open Classical in if p then none else x)) p x]
  split<;>simp_all
theorem yaq {p:Prop}(h:p){α:Type}(x:Option α):gIf p x=x:=by
  have:=Classical.propDecidable p
  rw[ycM,if_pos h]
theorem gNo_neg {p:Prop}(h:¬ p){α:Type}(x:Option α):gNo p x=x:=by
  have:=Classical.propDecidable p
  rw[gNo_eq,if_neg h]
noncomputable def binIG {R:Type}(op:BinOp)(k:IntKind)(x y:Int)(kk:AV→Option R):Option R:=
  match op with
  | .add=>kk (.data (.int k) (k.wrap (x+y)))
  | .sub=>kk (.data (.int k) (k.wrap (x-y)))
  | .mul=>kk (.data (.int k) (k.wrap (x*y)))
  | .quo=>gNo (y=0) (kk (.data (.int k) (k.wrap (x.tdiv y))))
  | .rem=>gNo (y=0) (kk (.data (.int k) (x.tmod y)))
  | .and=>kk (.data (.int k) (bitI .and k x y))
  | .or=>kk (.data (.int k) (bitI .or k x y))
  | .xor=>kk (.data (.int k) (bitI .xor k x y))
  | .andNot=>kk (.data (.int k) (bitI .andNot k x y))
  | .eql=>kk (.data .bool (x==y))
  | .neq=>kk (.data .bool (x != y))
  | .lss=>kk (.data .bool (decide (x<y)))
  | .leq=>kk (.data .bool (decide (x≤y)))
  | .gtr=>kk (.data .bool (decide (x>y)))
  | .geq=>kk (.data .bool (decide (x≥y)))
  | _=>none
noncomputable def binSG {R:Type}(op:BinOp)(x y:ByteArray)(kk:AV→Option R):Option R:=
  match op with
  | .add=>gIf (x.size+y.size≤4611686018427387904) (kk (.data .str (x++y)))
  | .eql=>kk (.data .bool (eqS x y))
  | .neq=>kk (.data .bool (!eqS x y))
  | .lss=>kk (.data .bool (ltS x y))
  | .leq=>kk (.data .bool (ltS x y||eqS x y))
  | .gtr=>kk (.data .bool (!(ltS x y||eqS x y)))
  | .geq=>kk (.data .bool (!ltS x y))
  | _=>none
noncomputable def shIG {R:Type}(op:BinOp)(k:IntKind)(x y:Int)(kk:AV→Option R):Option R:=
  gNo (y<0) (match op with
  | .shl=>kk (.data (.int k) (k.wrap (x*2 ^ min y.toNat k.bits)))
  | .shr=>kk (.data (.int k) (x.fdiv (2 ^ min y.toNat k.bits)))
  | _=>none)
noncomputable def binAVG {R:Type}(tab:List (Nat×TE))(op:BinOp)(t:TypeId)(a b:AV)(kk:AV→Option R):Option R:=
  match a,b with
  | .data (.int k) x,.data (.int k') y=>match op with
    | .shl=>shIG .shl k x y kk
    | .shr=>shIG .shr k x y kk
    | op=>if k=k' then binIG op k x y kk else none
  | .data .str x,.data .str y=>binSG op x y kk
  | .data T x,.data T' y=>
    if h:T'=T then
      match findT tab t with
      | some te=>if te.T=T∧cmpT 200 T=true then eqOr op (eqD T x (h ▸ y)) kk else none
      | none=>none
    else none
  | .po _ _ _,.data (.opq 0) _=>match findT tab t with
    | some te=>if te.T = .opq 0 then eqOr op false kk else none
    | none=>none
  | .nils _,.nils _=>match findT tab t with
    | some te=>if te.T.isSlice=true then eqOr op true kk else none
    | none=>none
  | a,.nils _=>match findT tab t,nilInfo a with
    | some te,some c=>if te.T.isSlice=true then unkOr op c kk else none
    | _,_=>none
  | _,_=>none
noncomputable def aAppendG {R:Type}(c:Cfg)(t t2:TypeId)(o:Oper)(d s:AV)(look:Nat→Ent)(k:Kont R):Option R:=
  match findT c.tab t,findT c.tab t2 with
  | some ⟨.slice e,eb⟩,some te2=>if te2.T.sl=true∧1≤eb∧eb≤1048576 then
    match srcOf look e s with
    | none=>none
    | some (l2,rs)=>match d with
      | .nils _=>gIf (l2.length*eb≤70368744177664) (fresh look o.dst λq=>k (.ow q e none) rs ((q,.live (.row e l2))::[]))
      | .ow r e' none=>match look r with
        | .live (.row e1 l)=>if h:e1=e∧e'=e then
            gIf (((h.1 ▸ l:List (Den e)).length+l2.length)*eb≤70368744177664) (fresh look o.dst λq=>k (.ow q e none) (r::rs) ((q,.live (.row e ((h.1 ▸ l:List (Den e))++l2)))::(r,.dead)::[]))
          else none
        | _=>none
      | .ow r e' (some (x,y))=>match look r with
        | .live (.row e1 l)=>if h:e1=e∧e'=e then
            gIf (x+y+l2.length≤l.length) (k (.ow r e (some (x,y+l2.length))) (r::rs) ((r,.live (.row e ((h.1 ▸ l:List (Den e)).take (x+y)++l2++(h.1 ▸ l:List (Den e)).drop (x+y+l2.length))))::[]))
          else none
        | _=>none
      | _=>none
    else none
  | _,_=>none
noncomputable def aBuiltinG {R:Type}(c:Cfg)(b:Builtin)(ts:List TypeId)(o:Oper)(args:List AV)(look:Nat→Ent)(k:Kont R):Option R:=
  match b,ts,args with
  | .append,[t,t2],[d,s]=>aAppendG c t t2 o d s look k
  | .len,[t],[v]=>match findT c.tab t with
    | some te=>match lenAV look te.T v with
      | some (n,rs)=>k (.data (.int .i64) n) rs []
      | none=>none
    | none=>none
  | .clear,[t],[.ow r e (some (x,y))]=>match findT c.tab t,look r with
    | some te,.live (.row e1 l)=>if te.T = .slice e∧e1=e∧1≤e.sz then k (.tup .done) [r] [(r,.live (.row e1 (l.take x++List.replicate y (dflt e1)++l.drop (x+y))))] else none
    | _,_=>none
  | .copy,[t,_],[.oa q T p,s]=>match findT c.tab t,look q with
    | some te,.live (.box T1 b)=>match getA b p with
      | some (.data (.arr n e) l)=>if te.T = .slice e∧tyT T p=some (.arr n e)∧T1=T∧1≤e.sz then
          match srcOf look e s with
          | some (l2,rs)=>match setA b p (.data (.arr n e) (l2++List.drop l2.length l)) with
            | some b'=>gIf (l2.length≤n) (k (.data (.int .i64) (l2.length:Nat)) (q::rs) [(q,.live (.box T1 b'))])
            | none=>none
          | none=>none
        else none
      | _=>none
    | _,_=>none
  | .min,_,.data (.int kd) x::r=>match foldI (minI kd) kd x r with | some z=>k (.data (.int kd) z) [] [] | none=>none
  | .max,_,.data (.int kd) x::r=>match foldI (maxI kd) kd x r with | some z=>k (.data (.int kd) z) [] [] | none=>none
  | _,_,_=>none
noncomputable def aSliceG {R:Type}(c:Cfg)(t:TypeId)(x:AV)(lo hi mx:Option AV)(look:Nat→Ent)(k:Kont R):Option R:=
  match x with
  | .data .str s=>match mx,findT c.tab t,bound 0 lo,bound s.size hi with
    | none,some te,some l,some h=>if te.T = .str then gIf (0≤h∧h≤(s.size:Int)) (gIf (0≤l∧l≤h) (k (.data .str (s.extract l.toNat h.toNat)) [] [])) else none
    | _,_,_,_=>none
  | .data (.slice e) xs=>match findT c.tab t with
    | some te=>if te.T = .slice e then
        match bound 0 lo,bound (List.length xs:Nat) hi with
        | some l,some h=>
          gIf (0≤h∧h≤((List.length xs:Nat):Int)) (gIf (0≤l∧l≤h) (match mx with
            | none=>k (.data (.slice e) ((List.take h.toNat xs).drop l.toNat)) [] []
            | some (.data (.int _) m)=>gIf (h≤m∧m≤((List.length xs:Nat):Int)∧hi.isSome=true) (k (.data (.slice e) ((List.take h.toNat xs).drop l.toNat)) [] [])
            | _=>none))
        | _,_=>none
      else none
    | none=>none
  | .ow r e none=>match look r with
    | .live (.row e1 xs)=>match findT c.tab t with
      | some te=>if te.T = .slice e∧e1=e then
          match bound 0 lo,bound (xs.length:Nat) hi,mx with
          | some l,some h,none=>
            gIf (0≤h∧h≤((xs.length:Nat):Int)) (gIf (0≤l∧l≤h) (k (.ow r e (some (l.toNat,h.toNat-l.toNat))) [r] []))
          | some l,some h,some (.data (.int _) m)=>
            gIf (0≤h∧h≤((xs.length:Nat):Int)) (gIf (0≤l∧l≤h) (gIf (m=((xs.length:Nat):Int)∧hi.isSome=true) (k (.ow r e (some (l.toNat,h.toNat-l.toNat))) [r] [])))
          | _,_,_=>none
        else none
      | none=>none
    | _=>none
  | .ow r e (some (x0,y0))=>match look r with
    | .live (.row e1 xs)=>match findT c.tab t with
      | some te=>if te.T = .slice e∧e1=e then
          match bound 0 lo,bound (y0:Nat) hi,mx with
          | some l,some h,none=>
            gIf (0≤h∧((x0:Nat):Int)+h≤((xs.length:Nat):Int)) (gIf (0≤l∧l≤h) (k (.ow r e (some (x0+l.toNat,h.toNat-l.toNat))) [r] []))
          | _,_,_=>none
        else none
      | none=>none
    | _=>none
  | .po r (.box T) p=>match lo,hi,mx,tyT T p,findT c.tab t with
    | none,none,none,some (.arr n e),some te=>if te.T = .arr n e then k (.oa r T p) [] [] else none
    | _,_,_,_,_=>none
  | _=>none
noncomputable def aIndexAddrG {R:Type}(c:Cfg)(t:TypeId)(x i:AV)(look:Nat→Ent)(k:Kont R):Option R:=
  match findT c.tab t,i with
  | some te,.data (.int _) i=>match x with
    | .data (.slice e) l=>if te.T = .slice e then
        gIf (0≤i∧i<((List.length l:Nat):Int)) (k (.rp e (List.getD l i.toNat (dflt e))) [] [])
      else none
    | .ow r e rng=>match look r with
      | .live (.row e1 l)=>if te.T = .slice e∧e1=e then
          gIf (0≤i∧i<(((rngOf l.length rng).2:Nat):Int)) (k (.po r (.row e) [.i ((rngOf l.length rng).1+i.toNat)]) [r] [])
        else none
      | .froz e1 l=>if te.T = .slice e∧e1=e then
          gIf (0≤i∧i<(((rngOf l.length rng).2:Nat):Int)) (k (.po r (.row e) [.i ((rngOf l.length rng).1+i.toNat)]) [r] [])
        else none
      | _=>none
    | .po r l p=>match tyL l p with
      | some (.arr n e)=>if te.T = .arr n e then
          gIf (0≤i∧i<((n:Nat):Int)) (k (.po r l (p++[.i i.toNat])) [] [])
        else none
      | _=>none
    | .rp (.arr n e) l=>if te.T = .arr n e then
        gIf (0≤i∧i<((n:Nat):Int)) (k (.rp e (List.getD l i.toNat (dflt e))) [] [])
      else none
    | _=>none
  | _,_=>none
noncomputable def aIndexG {R:Type}(c:Cfg)(t:TypeId)(x i:AV)(k:Kont R):Option R:=
  match findT c.tab t,i with
  | some te,.data (.int _) i=>match x with
    | .data .str s=>if te.T = .str then gIf (0≤i∧i<(s.size:Int)) (k (.data (.int .u8) (bt s i)) [] []) else none
    | .data (.arr n e) l=>if te.T = .arr n e then
        gIf (0≤i∧i<((n:Nat):Int)) (k (.data e (List.getD l i.toNat (dflt e))) [] [])
      else none
    | _=>none
  | _,_=>none
noncomputable def aConvertG {R:Type}(c:Cfg)(src dst:TypeId)(o:Oper)(x:AV)(look:Nat→Ent)(k:Kont R):Option R:=
  match findT c.tab src,findT c.tab dst with
  | some ts,some te=>match te.T,x with
    | .int kd,.data (.int _) y=>k (.data (.int kd) (kd.wrap y)) [] []
    | .str,.data .str s=>k (.data .str s) [] []
    | .slice (.int .u8),.data .str s=>fresh look o.dst λq=>k (.ow q (.int .u8) none) [] [(q,.live (.row (.int .u8) (ycW s)))]
    | .slice (.int .u8),.ow r e' none=>match look r with
      | .live (.row e1 l)=>if _:e1 = .int .u8∧e' = .int .u8 then
          gIf (src=dst∧0<l.length) (k (.ow r e' none) [r] [(r,.live (.row e1 l))])
        else none
      | _=>none
    | .str,.oa r T p=>match look r with
      | .live (.box _ b)=>match getA b p with
        | some (.data (.arr _ (.int .u8)) l)=>if ts.T = .slice (.int .u8) then k (.data .str (bytesOf l)) [r] [] else none
        | _=>none
      | _=>none
    | .str,x=>if ts.T = .slice (.int .u8) then match res look (.slice (.int .u8)) x with
        | some (l,rs)=>k (.data .str (bytesOf l)) rs []
        | none=>none
      else none
    | _,_=>none
  | _,_=>none
noncomputable def aOpG {R:Type}(c:Cfg)(o:Oper)(op:Operand→AV)(look:Nat→Ent)(k:Kont R):Option R:=
  match o.op with
  | .move x | .assign x=>match findT c.tab o.type with
    | some te=>k (fixN te.T (op x)) [] []
    | none=>k (op x) [] []
  | .pick q a b=>match op q with
    | .data .bool q=>bIf q (k (op a) [] []) (k (op b) [] [])
    | _=>none
  | .alloc t=>match findT c.tab t with
    | some te=>fresh look o.dst λq=>k (.po q (.box te.T) []) [] [(q,.live (.box te.T (zeroAV te.T)))]
    | none=>none
  | .box t x=>match findT c.tab t with
    | some te=>if (fixN te.T (op x)).ty=some te.T then
        fresh look o.dst λq=>k (.po q (.box te.T) []) [] [(q,.live (.box te.T (fixN te.T (op x))))]
      else none
    | none=>none
  | .build t ps=>match findT c.tab t with
    | some te=>match te.T with
      | .pair a b=>if (ps.toList.all λp=>(tyT (.pair a b) [.f p.1]).isSome)=true then
          match fieldsTo op (zeroAV (.pair a b)) ps.toList with
          | some v=>k v [] []
          | none=>none
        else none
      | .arr n e=>match parts look e op 0 ps.toList with
        | some (l,rs)=>if l.length≤n then k (.data (.arr n e) (l++List.replicate (n-l.length) (dflt e))) rs (shut look rs) else none
        | none=>none
      | _=>none
    | none=>none
  | .buildSlice t n ps=>match findT c.tab t with
    | some ⟨.slice e,_⟩=>match parts look e op 0 ps.toList with
      | some (l,rs)=>if l.length=n∧n*e.sz≤16777216 then fresh look o.dst λq=>k (.ow q e none) rs ((q,.live (.row e l))::shut look rs) else none
      | none=>none
    | _=>none
  | .load t a=>match findT c.tab t with
    | some te=>match op a with
      | .rp T x=>if T=te.T then k (.data T x) [] [] else none
      | .cp v=>if v.ty=some te.T then k v [] [] else none
      | .po r l p=>match look r with
        | .live ob=>match getO ob p with
          | some v=>if v.ty=some te.T∧tyL l p=some te.T then k v [r] [] else none
          | none=>none
        | .froz e xs=>match getO (.row e xs) p with
          | some v=>if v.ty=some te.T∧tyL l p=some te.T then k v [r] [] else none
          | none=>none
        | _=>none
      | _=>none
    | none=>none
  | .store t a x=>match findT c.tab t with
    | some te=>match op a with
      | .po r l p=>match look r with
        | .live ob=>if (fixN te.T (op x)).ty=some te.T∧tyL l p=some te.T then
            match setO ob p (fixN te.T (op x)) with
            | some ob'=>k .bad [r] [(r,.live ob')]
            | none=>none
          else none
        | _=>none
      | _=>none
    | none=>none
  | .nilCheck x=>match op x with
    | .po r l p=>k (.po r l p) [] []
    | .rp T x=>k (.rp T x) [] []
    | .cp v=>k (.cp v) [] []
    | .fn f cs=>k (.fn f cs) [] []
    | .fb f cs=>k (.fb f cs) [] []
    | _=>none
  | .binOp bo t x y _=>binAVG c.tab bo t (flatA (op x)) (flatA (op y)) λv=>k (hideB v) [] []
  | .unOp .not _ x=>match op x with | .data .bool b=>k (.data .bool (!b)) [] [] | _=>none
  | .unOp .neg _ x=>match op x with | .data (.int kd) n=>k (.data (.int kd) (kd.wrap (0-n))) [] [] | _=>none
  | .convert s d x=>aConvertG c s d o (op x) look k
  | .makeFunc (.func f) first caps=>if first.size=0 then (match c.frz.elem (o.dst.getD 0) with | true=>aClo f (caps.toList.map op) look k | false=>k (.fn f (ycn (caps.toList.map op))) [] []) else if caps.size=0 then k (.fb f (ycn (first.toList.map op))) [] [] else none
  | .makeMap t none=>match findT c.tab t with
    | some ⟨.mapT K V,_⟩=>fresh look o.dst λq=>k (.mp q K V) [] [(q,.live (.mp K V []))]
    | _=>none
  | .mapUpdate t x i v=>aUpdate c t (op x) (op i) (op v) look k
  | .insert t x i v=>aUpdate c t (op x) (op i) (op v) look k
  | .makeSlice t l m=>match findT c.tab t with
    | some ⟨.slice e,eb⟩=>match op l,op m with
      | .data (.int .i64) l,.data (.int .i64) m=>gIf (0≤l∧l≤m∧m*eb≤70368744177664∧1≤eb∧1≤e.sz) (fresh look o.dst λq=>k (.ow q e none) [] [(q,.live (.row e (List.replicate l.toNat (dflt e))))])
      | _,_=>none
    | _=>none
  | .slice t x lo hi mx=>match c.frz.elem (o.dst.getD 0) with
    | true=>aFrz c t (op x) (lo.map op) (hi.map op) (mx.map op) look k
    | false=>aSliceG c t (op x) (lo.map op) (hi.map op) (mx.map op) look k
  | .fieldAddr t x j=>match findT c.tab t with
    | some te=>match op x with
      | .po r l p=>if tyL l p=some te.T then match tyT te.T [.f j] with
          | some T'=>if T'.sz=0 then none else k (.po r l (p++[.f j])) [] []
          | none=>none
        else none
      | .rp T x=>if T=te.T then match getD T x [.f j] with
          | some (.data T' y)=>if T'.sz=0 then none else k (.rp T' y) [] []
          | _=>none
        else none
      | _=>none
    | none=>none
  | .field t x j=>match findT c.tab t with
    | some te=>if (op x).ty=some te.T then match getA (op x) [.f j] with
        | some v=>match tyT te.T [.f j] with
          | some _=>k v [] []
          | none=>none
        | none=>none
      else none
    | none=>none
  | .indexAddr t x i=>aIndexAddrG c t (op x) (op i) look k
  | .index t x i=>aIndexG c t (op x) (op i) k
  | .lookup t x i ok=>match op x with
    | .mp r K V=>aLookupM c t r K V (op i) ok look k
    | v=>aLookup c t v (op i) ok k
  | .extract x i=>match op x with
    | .tup l=>match nthAV l i with
      | some v=>k v [] []
      | none=>none
    | _=>none
  | .call q=>match q.callee with
    | .builtin b=>aBuiltinG c b q.argTypes.toList o (q.args.toList.map op) look k
    | .value f=>match op f with
      | .fn f caps=>if ydN caps=true then findE c.n (o.dst.getD 0) f (q.args.toList.map op++avList caps) look k c.Φ else none
      | .fb f fi=>if ydN fi=true then findE c.n (o.dst.getD 0) f (avList fi++q.args.toList.map op) look k c.Φ else none
      | _=>none
    | _=>none
  | _=>none
theorem binIG_eq {R:Type}(op:BinOp)(k:IntKind)(x y:Int)(kk:AV→Option R):binIG op k x y kk=binI op k x y kk:=by
  cases op<;>simp only[binIG,binI,gNo_eq]
theorem binSG_eq {R:Type}(op:BinOp)(x y:ByteArray)(kk:AV→Option R):binSG op x y kk=binS op x y kk:=by
  cases op<;>simp only[binSG,binS,ycM]
theorem shIG_eq {R:Type}(op:BinOp)(k:IntKind)(x y:Int)(kk:AV→Option R):shIG op k x y kk=shI op k x y kk:=by
  unfold shIG shI;rw[gNo_eq];rfl
theorem binAVG_eq {R:Type}(tab:List (Nat×TE))(op:BinOp)(t:TypeId)(a b:AV)(kk:AV→Option R):binAVG tab op t a b kk=binAV tab op t a b kk:=by
  unfold binAVG binAV;first | (simp only[binIG_eq,binSG_eq,shIG_eq];done) | (simp only[binIG_eq,binSG_eq,shIG_eq];rfl)
theorem aAppendG_eq {R:Type}(c:Cfg)(t t2:TypeId)(o:Oper)(d s:AV)(look:Nat→Ent)(k:Kont R):aAppendG c t t2 o d s look k=aAppend c t t2 o d s look k:=by
  unfold aAppendG aAppend;first | (simp only[ycM];done) | (simp only[ycM];rfl)
theorem aBuiltinG_eq {R:Type}(c:Cfg)(b:Builtin)(ts:List TypeId)(o:Oper)(args:List AV)(look:Nat→Ent)(k:Kont R):aBuiltinG c b ts o args look k=aBuiltin c b ts o args look k:=by
  unfold aBuiltinG aBuiltin;first | (simp only[aAppendG_eq,ycM];done) | (simp only[aAppendG_eq,ycM];rfl)
theorem aSliceG_eq {R:Type}(c:Cfg)(t:TypeId)(x:AV)(lo hi mx:Option AV)(look:Nat→Ent)(k:Kont R):aSliceG c t x lo hi mx look k=aSlice c t x lo hi mx look k:=by
  unfold aSliceG aSlice;first | (simp only[ycM];done) | (simp only[ycM];rfl)
theorem aIndexAddrG_eq {R:Type}(c:Cfg)(t:TypeId)(x i:AV)(look:Nat→Ent)(k:Kont R):aIndexAddrG c t x i look k=ydz c t x i look k:=by
  unfold aIndexAddrG ydz;first | (simp only[ycM];done) | (simp only[ycM];rfl)
theorem aIndexG_eq {R:Type}(c:Cfg)(t:TypeId)(x i:AV)(k:Kont R):aIndexG c t x i k=aIndex c t x i k:=by
  unfold aIndexG aIndex;first | (simp only[ycM];done) | (simp only[ycM];rfl)
theorem aConvertG_eq {R:Type}(c:Cfg)(src dst:TypeId)(o:Oper)(x:AV)(look:Nat→Ent)(k:Kont R):aConvertG c src dst o x look k=aConvert c src dst o x look k:=by
  unfold aConvertG aConvert;first | (simp only[ycM];done) | (simp only[ycM];rfl)
theorem aOpG_eq {R:Type}(c:Cfg)(o:Oper)(op:Operand→AV)(look:Nat→Ent)(k:Kont R):aOpG c o op look k=aOp c o op look k:=by
  unfold aOpG aOp;first | (simp only[ycM,ycN,binAVG_eq,aConvertG_eq,aSliceG_eq,aIndexAddrG_eq,aIndexG_eq,aBuiltinG_eq];done) | (simp only[ycM,ycN,binAVG_eq,aConvertG_eq,aSliceG_eq,aIndexAddrG_eq,aIndexG_eq,aBuiltinG_eq];rfl)
end Go.Va
