/-
  Va, part 22: regions, code: definitions.
-/
import Derived.Test.YtnlckhekcklcpaaVaOps12
set_option linter.unusedVariables false
set_option linter.unusedSimpArgs false
namespace Go.Va
open Go

/-- The operands that the interpreter looks at. -/
def opnds : Op → List Operand
  | .move x | .assign x | .box _ x | .load _ x | .nilCheck x | .unOp _ _ x | .convert _ _ x | .fieldAddr _ x _ | .field _ x _ | .extract x _ => [x]
  | .pick c a b => [c, a, b]
  | .build _ ps | .buildSlice _ _ ps => ps.toList.map (·.2)
  | .store _ a v | .binOp _ _ a v _ | .makeSlice _ a v | .indexAddr _ a v | .index _ a v => [a, v]
  | .makeFunc _ _ caps => caps.toList
  | .slice _ x l h m => x :: (l.toList ++ h.toList ++ m.toList)
  | .call c => (match c.callee with | .value f => [f] | _ => []) ++ c.args.toList
  | _ => []

def tmpsOf : List Operand → List Nat
  | [] => []
  | .tmp t :: r => t :: tmpsOf r
  | _ :: r => tmpsOf r

/-- What an operation of a region touches: slots read and written, objects read and written. -/
structure Touch where
  rs : List Nat
  ws : List Nat
  rn : List Nat
  wn : List Nat

def meets (a b : List Nat) : Bool := a.any fun x => b.elem x
def Touch.clash (a b : Touch) : Bool := meets a.ws b.rs || meets a.ws b.ws || meets a.rs b.ws || meets a.wn b.rn || meets a.wn b.wn || meets a.rn b.wn

/-- Which operations stand ahead of each, by the edges that bind. -/
def ahead (tab : List (List Nat)) : List Edge → List Nat
  | [] => []
  | e :: r => if Region.binds .any e then (e.on :: getAt [] tab e.on) ++ ahead tab r else ahead tab r
def dedup : List Nat → List Nat
  | [] => []
  | x :: r => if r.elem x then dedup r else x :: dedup r
def aheads : List Oper → List (List Nat) → List (List Nat)
  | [], tab => tab
  | o :: r, tab => aheads r (tab ++ [dedup (ahead tab o.after.toList)])

/-- Operation number i, and those behind it: whatever clash stands in order. -/
def clear1 (tab : List (List Nat)) (i : Nat) (a : Touch) : Nat → List Touch → Bool
  | _, [] => true
  | j, b :: r => (!a.clash b || (getAt [] tab j).elem i) && clear1 tab i a (j + 1) r
def clearAll (tab : List (List Nat)) : Nat → List Touch → Bool
  | _, [] => true
  | i, a :: r => clear1 tab i a (i + 1) r && clearAll tab (i + 1) r

/-- Edges lead back. -/
def edgesBack : Nat → List Oper → Bool
  | _, [] => true
  | i, o :: r => (o.after.toList.all fun e => !Region.binds .any e || decide (e.on < i)) && edgesBack (i + 1) r

def guardSlot : List Oper → Nat → Option Nat
  | [], _ => none
  | o :: _, 0 => o.dst
  | _ :: r, j + 1 => guardSlot r j

def St.put (s : St) (d : Option Nat) (v : AV) (WN : List (Nat × Ent)) : St :=
  ⟨match d with | some d => setAt s.sl d v | none => s.sl, WN ++ s.hp⟩

def branch {R : Type} (s : St) (t : Nat) (kt kf : St → Option R) : Option R :=
  match getAt .bad s.sl t with
  | .data .bool b => if b = true then kt ⟨setAt s.sl t (.data .bool true), s.hp⟩ else kf ⟨setAt s.sl t (.data .bool false), s.hp⟩
  | _ => none

/-- What stands in a slot whose operation was not wanted. -/
def isUndef : AV → Bool
  | .tup .done => true
  | _ => false

def touchOf (all : List Oper) (o : Oper) (RN : List Nat) (WN : List (Nat × Ent)) : Touch :=
  ⟨tmpsOf (opnds o.op) ++ (match o.guard with | some (j, _) => (guardSlot all j).toList | none => []), o.dst.toList, RN, WN.map Prod.fst⟩

def aOps {R : Type} (c : Cfg) (all : List Oper) : List Oper → St → List Touch → (St → List Touch → Option R) → Option R
  | [], s, lg, k => k s lg
  | o :: r, s, lg, k =>
    let go (s : St) : Option R := aOp c o (opAV s.sl) s.look fun v RN WN => aOps c all r (s.put o.dst v WN) (lg ++ [touchOf all o RN WN]) k
    let skip (s : St) : Option R := aOps c all r (s.put o.dst (.tup .done) []) (lg ++ [touchOf all o [] []]) k
    match o.guard with
    | none => go s
    | some (j, want) => match guardSlot all j with
      | none => none
      | some t => if isUndef (getAt .bad s.sl t) = true then skip s else match want with
        | true => branch s t go skip
        | false => branch s t skip go

inductive Ex where
  | nrm
  | ex (id : Nat)
  | ret

/-- What is kept at a cut: a slot as a datum · a slot that points to a variable · a variable that holds a datum · a slot that holds a row (nil: the empty one) · a slot that points to a variable, which gets a new name. -/
inductive Si where
  | dat (slot : Nat) (T : Ty)
  | ref (slot r : Nat) (T : Ty)
  | box (r : Nat) (T : Ty)
  | row (slot r : Nat) (e : Ty)
  | bor (slot r : Nat) (T : Ty)

@[reducible] def Dens : List Si → Type
  | [] => Unit
  | .dat _ T :: g => Den T × Dens g
  | .ref _ _ _ :: g => Dens g
  | .box _ T :: g => Den T × Dens g
  | .row _ _ e :: g => List (Den e) × Dens g
  | .bor _ _ T :: g => Den T × Dens g

/-- What stands there: the data, the rows to be shut, the rows that go on. -/
def extr (s : St) (look : Nat → Ent) : (g : List Si) → Option (Dens g × List Nat × List Nat)
  | [] => some ((), [], [])
  | .dat i T :: g => match res look T (getAt .bad s.sl i) with
    | none => none
    | some (x, rs) => match extr s look g with
      | none => none
      | some (y, a, b) => some ((x, y), rs ++ a, b)
  | .ref i r T :: g => match getAt .bad s.sl i with
    | .po r' (.box T') [] => if r' = r ∧ T' = T then extr s look g else none
    | _ => none
  | .box r T :: g => match look r with
    | .live (.box T' v) => if T' = T then
        match res look T v with
        | none => none
        | some (x, rs) => match extr s look g with
          | none => none
          | some (y, a, b) => some ((x, y), rs ++ a, b)
      else none
    | _ => none
  | .row i _ e :: g => match getAt .bad s.sl i with
    | .nils _ => match extr s look g with
      | none => none
      | some (y, a, b) => some (([], y), a, b)
    | .ow q e' none => match look q with
      | .live (.row e1 l) => if h : e1 = e ∧ e' = e then
          match extr s look g with
          | none => none
          | some (y, a, b) => some ((h.1 ▸ l, y), a, q :: b)
        else none
      | _ => none
    | _ => none
  | .bor i _ T :: g => match getAt .bad s.sl i with
    | .po q (.box T1) [] => match look q with
      | .live (.box T' v) => if T' = T ∧ T1 = T then
          match res look T v with
          | none => none
          | some (x, rs) => match extr s look g with
            | none => none
            | some (y, a, b) => some ((x, y), rs ++ a, q :: b)
        else none
      | _ => none
    | _ => none

def putAll : (g : List Si) → Dens g → List AV → List AV
  | [], _, l => l
  | .dat i T :: g, v, l => setAt (putAll g v.2 l) i (.data T v.1)
  | .ref i r T :: g, v, l => setAt (putAll g v l) i (.po r (.box T) [])
  | .box _ _ :: g, v, l => putAll g v.2 l
  | .row i r e :: g, v, l => setAt (putAll g v.2 l) i (.ow r e none)
  | .bor i r T :: g, v, l => setAt (putAll g v.2 l) i (.po r (.box T) [])

def heapAll : (g : List Si) → Dens g → List (Nat × Ent)
  | [], _ => []
  | .dat _ _ :: g, v => heapAll g v.2
  | .ref _ _ _ :: g, v => heapAll g v
  | .box r T :: g, v => (r, .live (.box T (.data T v.1))) :: heapAll g v.2
  | .row _ r e :: g, v => (r, .live (.row e v.1)) :: heapAll g v.2
  | .bor _ r T :: g, v => (r, .live (.box T (.data T v.1))) :: heapAll g v.2

def frameOf (n : Nat) (g : List Si) (v : Dens g) : St := ⟨putAll g v (List.replicate n .bad), heapAll g v⟩

def namesOf : List Si → List Nat
  | [] => []
  | .box r _ :: g => r :: namesOf g
  | .row _ r _ :: g => r :: namesOf g
  | .bor _ r _ :: g => r :: namesOf g
  | _ :: g => namesOf g
def boxesOf : List Si → List (Nat × Ty)
  | [] => []
  | .box r T :: g => (r, T) :: boxesOf g
  | _ :: g => boxesOf g

def nodup : List Nat → Bool
  | [] => true
  | x :: r => !r.elem x && nodup r

/-- Is a cut's list sound by itself: names once; pointers to what is kept; what was lent is kept. -/
def refsOk (bs : List (Nat × Ty)) : List Si → Bool
  | [] => true
  | .ref _ r T :: g => (bs.any fun b => b.1 == r && decide (b.2 = T)) && refsOk bs g
  | _ :: g => refsOk bs g
def okSig (bn : List Nat) (g : List Si) : Bool := nodup (namesOf g) && refsOk (boxesOf g) g && bn.all fun r => (boxesOf g).any fun b => b.1 == r

def cutTo {R : Type} (bn : List Nat) (g : List Si) (s : St) (k : Dens g → Option R) : Option R :=
  if okSig bn g = true then
    match extr s s.look g with
    | none => none
    | some (v, rs, qs) => if nodup qs = true ∧ meets qs rs = false ∧ meets qs ((boxesOf g).map Prod.fst) = false then k v else none
  else none

structure Ctx where
  c : Cfg
  len : Nat
  bn : List Nat

abbrev KK (R : Type) := Ex → St → Option R

/-- Code with cuts. -/
inductive AC (R : Type) where
  | skip
  | region (id : Nat) (ops : Array Oper) (draw : Bool)
  | seq (a b : AC R)
  | cond (c : Operand) (a b : AC R)
  | block (id : Nat) (b : AC R)
  | exit (id : Nat)
  | ret
  | cut (c : Code) (g : List Si) (run : Dens g → KK R → Option R)

def AC.code {R : Type} : AC R → Code
  | .skip => .skip
  | .region id ops d => .region id ops d
  | .seq a b => .seq a.code b.code
  | .cond c a b => .cond c a.code b.code
  | .block id b => .block id b.code
  | .exit id => .exit id
  | .ret => .ret
  | .cut c _ _ => c

/-- Plain code as such. -/
def oc (R : Type) : Code → AC R
  | .skip => .skip
  | .region id ops d => .region id ops d
  | .seq a b => .seq (oc R a) (oc R b)
  | .cond c a b => .cond c (oc R a) (oc R b)
  | .block id b => .block id (oc R b)
  | .exit id => .exit id
  | _ => .ret

/-- A part of code. -/
def sub : Code → List Nat → Code
  | c, [] => c
  | .seq a b, i :: p => if i == 0 then sub a p else sub b p
  | .cond _ a b, i :: p => if i == 0 then sub a p else sub b p
  | .block _ b, _ :: p => sub b p
  | .loop b, _ :: p => sub b p
  | c, _ => c
def fsub (fn : Func) (p : List Nat) : Code := match fn.body with | some c => sub c p | none => .skip

def seqK {R : Type} (F : St → Option R) (k : KK R) : KK R
  | .nrm, s => F s
  | .ex id, s => k (.ex id) s
  | .ret, s => k .ret s
def blockK {R : Type} (id : Nat) (k : KK R) : KK R
  | .nrm, s => k .nrm s
  | .ex j, s => if j == id then k .nrm s else k (.ex j) s
  | .ret, s => k .ret s
def loopK {R : Type} (bn : List Nat) (g : List Si) (F : Dens g → Option R) (k : KK R) : KK R
  | .nrm, s => cutTo bn g s F
  | .ex id, s => k (.ex id) s
  | .ret, s => k .ret s

def acRun {R : Type} (x : Ctx) : AC R → St → KK R → Option R
  | .skip, s, k => k .nrm s
  | .region _ ops d, s, k => aOps x.c ops.toList ops.toList s [] fun s lg => if d = true then (if edgesBack 0 ops.toList = true ∧ clearAll (aheads ops.toList []) 0 lg = true then k .nrm s else none) else k .nrm s
  | .seq a b, s, k => acRun x a s (seqK (fun s => acRun x b s k) k)
  | .cond (.tmp t) a b, s, k => branch s t (fun s => acRun x a s k) (fun s => acRun x b s k)
  | .cond _ _ _, _, _ => none
  | .block id b, s, k => acRun x b s (blockK id k)
  | .exit id, s, k => k (.ex id) s
  | .ret, s, k => k .ret s
  | .cut _ g run, s, k => cutTo x.bn g s fun v => run v k

/-- A piece of code that begins at a cut. -/
def runR {R : Type} (x : Ctx) (A : AC R) (g : List Si) (v : Dens g) (k : KK R) : Option R := acRun x A (frameOf x.len g v) k
/-- A loop whose rounds begin at a cut. -/
def runL {R : Type} (x : Ctx) (A : AC R) (g : List Si) : Nat → Dens g → KK R → Option R
  | 0, _, _ => none
  | m + 1, v, k => acRun x A (frameOf x.len g v) (loopK x.bn g (fun v => runL x A g m v k) k)

end Go.Va

