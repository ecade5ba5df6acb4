/-
  What the functions compute, by the abstract interpreter.
-/
import Derived.Test.YtdlkpmohjhjmfaaGreatDoorF0
set_option linter.unusedVariables false
set_option linter.unusedSimpArgs false
namespace Go.Proofs.YtdlkpmohjhjmfaaGreatDoor
open Go Go.Va Go.Proofs
noncomputable section
namespace ybT
abbrev ia:List Ai:=[]
abbrev io:List (Nat×Oi):=[(0,.newc 1 (.p (.r 0 (.int .u8)) (.d .unit)))]
abbrev R:Type:=DOut ia io
def X (n:Nat):Ctx:=⟨⟨tab,[yeG.en n],0,[]⟩,3,bnOf 0 ia⟩
def T:CT := .o
def f (n:Nat):Option R:=fRun (X n) n T Tryz.f57 ia io (())
theorem e0 (n:Nat):f n=bnd (yeG.f n) λu1=>some (u1.1,()):=(yae _).trans (by kernel_rfl)
theorem ok (n:Nat):FnOk Tryz.prog 57 ia io (fRun (X n) n T Tryz.f57 ia io):=yaG mixed tabIs (yad (yac (yeG.ok n)) (yav)) Tryz.func57 (by kernel_rfl) rfl
def en (n:Nat):Entry:=yaB 57 ia io (fRun (X n) n T Tryz.f57 ia io)
end ybT
end
end Go.Proofs.YtdlkpmohjhjmfaaGreatDoor

namespace Go.Proofs.YtdlkpmohjhjmfaaGreatDoor
open Go Go.Va Go.Proofs
noncomputable section
namespace yd5
abbrev ia:List Ai:=[.dat ycn]
abbrev io:List (Nat×Oi):=[(2,.dat .bool)]
abbrev R:Type:=DOut ia io
def X (n:Nat):Ctx:=⟨⟨tab,[ybi.en n],0,[]⟩,6,bnOf 0 ia⟩
def T:CT := .o
def f (n:Nat)(v_:ybC):Option R:=fRun (X n) n T Tryz.f107 ia io (v_,())
theorem e0 (n:Nat)(v_:ybC):f n v_=bnd (ybi.f n v_ (0,(false,(0,(0,((List.replicate 32 0),(0,((0,(0,(false,()))),([],()))))))))) λu1=>some (u1.1,()):=(yae _).trans (by kernel_rfl)
theorem ok (n:Nat):FnOk Tryz.prog 107 ia io (fRun (X n) n T Tryz.f107 ia io):=yaG mixed tabIs (yad (yac (ybi.ok n)) (yav)) Tryz.func107 (by kernel_rfl) rfl
def en (n:Nat):Entry:=yaB 107 ia io (fRun (X n) n T Tryz.f107 ia io)
end yd5
end
end Go.Proofs.YtdlkpmohjhjmfaaGreatDoor

namespace Go.Proofs.YtdlkpmohjhjmfaaGreatDoor
open Go Go.Va Go.Proofs
noncomputable section
namespace yek
abbrev ia:List Ai:=[.dat ycs]
abbrev io:List (Nat×Oi):=[(2,.dat .bool)]
abbrev R:Type:=DOut ia io
def X (n:Nat):Ctx:=⟨⟨tab,[yd5.en n,ycQ.en n],0,[]⟩,20,bnOf 0 ia⟩
def T:CT := .o
def f (n:Nat)(r:ycE):Option R:=fRun (X n) n T Tryz.f111 ia io (r,())
theorem e0 (n:Nat)(r:ycE):f n r=bIf ((hide (decide ((r.1.size:Int)>(200:Int))))) (some (false,())) (bIf (r.2.1) (bIf ((!r.2.2.2.1)) (bnd (yd5.f n r.2.2.1) λu1=>some (u1.1,())) (some (false,()))) (bnd (ycQ.f n r.2.2.1) λu2=>some (u2.1,()))):=(yae _).trans (by kernel_rfl)
theorem ok (n:Nat):FnOk Tryz.prog 111 ia io (fRun (X n) n T Tryz.f111 ia io):=yaG mixed tabIs (yad (yac (yd5.ok n)) (yad (yac (ycQ.ok n)) (yav))) Tryz.func111 (by kernel_rfl) rfl
def en (n:Nat):Entry:=yaB 111 ia io (fRun (X n) n T Tryz.f111 ia io)
end yek
end
end Go.Proofs.YtdlkpmohjhjmfaaGreatDoor

namespace Go.Proofs.YtdlkpmohjhjmfaaGreatDoor
open Go Go.Va Go.Proofs
noncomputable section
namespace yeM
abbrev ia:List Ai:=[.dat ycs]
abbrev io:List (Nat×Oi):=[(2,.dat .bool)]
abbrev R:Type:=DOut ia io
def X (n:Nat):Ctx:=⟨⟨tab,[yek.en n],0,[]⟩,6,bnOf 0 ia⟩
def T:CT := .o
def f (n:Nat)(x_:ycE):Option R:=fRun (X n) n T Tryz.f110 ia io (x_,())
theorem e0 (n:Nat)(x_:ycE):f n x_=bnd (yek.f n x_) λu1=>some ((!u1.1),()):=(yae _).trans (by kernel_rfl)
theorem ok (n:Nat):FnOk Tryz.prog 110 ia io (fRun (X n) n T Tryz.f110 ia io):=yaG mixed tabIs (yad (yac (yek.ok n)) (yav)) Tryz.func110 (by kernel_rfl) rfl
def en (n:Nat):Entry:=yaB 110 ia io (fRun (X n) n T Tryz.f110 ia io)
end yeM
end
end Go.Proofs.YtdlkpmohjhjmfaaGreatDoor

namespace Go.Proofs.YtdlkpmohjhjmfaaGreatDoor
open Go Go.Va Go.Proofs
noncomputable section
namespace ybP
abbrev ia:List Ai:=[.dat (.slice ycs),.fn (.fn 110) []]
abbrev io:List (Nat×Oi):=[(4,.dat (.int .i64))]
abbrev R:Type:=DOut ia io
def X (n:Nat):Ctx:=⟨⟨tab,[yeM.en n],0,[]⟩,19,bnOf 0 ia⟩
abbrev g1:List Si:=[.dat 0 (.slice ycs),.clo 1 (.fn 110) [],.dat 7 (.int .i64),.dat 8 (.int .i64)]
abbrev g2:List Si:=[]
def T:CT:=(.s .o (.s (.s .o (.b (.l g1 .o))) (.r g2 .o)))
def J1 (n:Nat)(m:Nat):(List (ycE))×Int×Int×Unit→Option R:=jL (X n) n T (yaP Tryz.f173) (endK ia io) g1 [1,0,1,0] [] m
def J2 (n:Nat):Unit→Option R:=jR (X n) n T (yaP Tryz.f173) (endK ia io) g2 [1,1] []
def f (n:Nat)(s_:List (ycE)):Option R:=fRun (X n) n T Tryz.f173 ia io (s_,())
theorem e0 (n:Nat)(s_:List (ycE)):f n s_=J1 n n (s_,((s_.length:Nat):Int),0,()):=(yae _).trans (by kernel_rfl)
theorem e1 (n m:Nat)(s_:List (ycE))(t7:Int)(t8:Int):J1 n (m+1) (s_,t7,t8,())=bIf ((hide (decide (t8<t7)))) (gIf (0≤t8∧t8<((s_.length:Nat):Int)) (bnd (yeM.f n (List.getD s_ t8.toNat (Va.dflt ycs))) λu1=>bIf (u1.1) (some (t8,())) (J1 n m (s_,t7,(IntKind.i64.wrap (t8+(1:Int))),())))) (J2 n (())):=(yae _).trans (by kernel_rfl)
theorem e2 (n:Nat):J2 n (())=some ((-1),()):=(yae _).trans (by kernel_rfl)
theorem ok (n:Nat):FnOk Tryz.prog 173 ia io (fRun (X n) n T Tryz.f173 ia io):=yaG mixed tabIs (yad (yac (yeM.ok n)) (yav)) Tryz.func173 (by kernel_rfl) rfl
def en (n:Nat):Entry:=yaB 173 ia io (fRun (X n) n T Tryz.f173 ia io)
end ybP
end
end Go.Proofs.YtdlkpmohjhjmfaaGreatDoor

namespace Go.Proofs.YtdlkpmohjhjmfaaGreatDoor
open Go Go.Va Go.Proofs
noncomputable section
namespace ycb
abbrev ia:List Ai:=[.dat (.slice ycs),.fn (.fn 110) []]
abbrev io:List (Nat×Oi):=[(4,.dat .bool)]
abbrev R:Type:=DOut ia io
def X (n:Nat):Ctx:=⟨⟨tab,[ybP.en n],0,[]⟩,9,bnOf 0 ia⟩
def T:CT := .o
def f (n:Nat)(s_:List (ycE)):Option R:=fRun (X n) n T Tryz.f109 ia io (s_,())
theorem e0 (n:Nat)(s_:List (ycE)):f n s_=bnd (ybP.f n s_) λu1=>some ((hide (decide (u1.1≥(0:Int)))),()):=(yae _).trans (by kernel_rfl)
theorem ok (n:Nat):FnOk Tryz.prog 109 ia io (fRun (X n) n T Tryz.f109 ia io):=yaG mixed tabIs (yad (yac (ybP.ok n)) (yav)) Tryz.func109 (by kernel_rfl) rfl
def en (n:Nat):Entry:=yaB 109 ia io (fRun (X n) n T Tryz.f109 ia io)
end ycb
end
end Go.Proofs.YtdlkpmohjhjmfaaGreatDoor

namespace Go.Proofs.YtdlkpmohjhjmfaaGreatDoor
open Go Go.Va Go.Proofs
noncomputable section
namespace yeQ
abbrev ia:List Ai:=[.dat (.int .i64)]
abbrev io:List (Nat×Oi):=[(2,.dat .bool)]
abbrev R:Type:=DOut ia io
def X (n:Nat):Ctx:=⟨⟨tab,[],0,[]⟩,5,bnOf 0 ia⟩
def T:CT := .o
def f (n:Nat)(n_:Int):Option R:=fRun (X n) n T Tryz.f113 ia io (n_,())
theorem e0 (n:Nat)(n_:Int):f n n_=some ((hide (decide (n_<(0:Int)))),()):=(yae _).trans (by kernel_rfl)
theorem ok (n:Nat):FnOk Tryz.prog 113 ia io (fRun (X n) n T Tryz.f113 ia io):=yaG mixed tabIs (yav) Tryz.func113 (by kernel_rfl) rfl
def en (n:Nat):Entry:=yaB 113 ia io (fRun (X n) n T Tryz.f113 ia io)
end yeQ
end
end Go.Proofs.YtdlkpmohjhjmfaaGreatDoor

namespace Go.Proofs.YtdlkpmohjhjmfaaGreatDoor
open Go Go.Va Go.Proofs
noncomputable section
namespace ybR
abbrev ia:List Ai:=[.dat (.slice (.int .i64)),.fn (.fn 113) []]
abbrev io:List (Nat×Oi):=[(4,.dat (.int .i64))]
abbrev R:Type:=DOut ia io
def X (n:Nat):Ctx:=⟨⟨tab,[yeQ.en n],0,[]⟩,19,bnOf 0 ia⟩
abbrev g1:List Si:=[.dat 0 (.slice (.int .i64)),.clo 1 (.fn 113) [],.dat 7 (.int .i64),.dat 8 (.int .i64)]
abbrev g2:List Si:=[]
def T:CT:=(.s .o (.s (.s .o (.b (.l g1 .o))) (.r g2 .o)))
def J1 (n:Nat)(m:Nat):(List (Int))×Int×Int×Unit→Option R:=jL (X n) n T (yaP Tryz.f174) (endK ia io) g1 [1,0,1,0] [] m
def J2 (n:Nat):Unit→Option R:=jR (X n) n T (yaP Tryz.f174) (endK ia io) g2 [1,1] []
def f (n:Nat)(s_:List (Int)):Option R:=fRun (X n) n T Tryz.f174 ia io (s_,())
theorem e0 (n:Nat)(s_:List (Int)):f n s_=J1 n n (s_,((s_.length:Nat):Int),0,()):=(yae _).trans (by kernel_rfl)
theorem e1 (n m:Nat)(s_:List (Int))(t7:Int)(t8:Int):J1 n (m+1) (s_,t7,t8,())=bIf ((hide (decide (t8<t7)))) (gIf (0≤t8∧t8<((s_.length:Nat):Int)) (bnd (yeQ.f n (List.getD s_ t8.toNat 0)) λu1=>bIf (u1.1) (some (t8,())) (J1 n m (s_,t7,(IntKind.i64.wrap (t8+(1:Int))),())))) (J2 n (())):=(yae _).trans (by kernel_rfl)
theorem e2 (n:Nat):J2 n (())=some ((-1),()):=(yae _).trans (by kernel_rfl)
theorem ok (n:Nat):FnOk Tryz.prog 174 ia io (fRun (X n) n T Tryz.f174 ia io):=yaG mixed tabIs (yad (yac (yeQ.ok n)) (yav)) Tryz.func174 (by kernel_rfl) rfl
def en (n:Nat):Entry:=yaB 174 ia io (fRun (X n) n T Tryz.f174 ia io)
end ybR
end
end Go.Proofs.YtdlkpmohjhjmfaaGreatDoor

namespace Go.Proofs.YtdlkpmohjhjmfaaGreatDoor
open Go Go.Va Go.Proofs
noncomputable section
namespace yb9
abbrev ia:List Ai:=[.dat (.slice (.int .i64)),.fn (.fn 113) []]
abbrev io:List (Nat×Oi):=[(4,.dat .bool)]
abbrev R:Type:=DOut ia io
def X (n:Nat):Ctx:=⟨⟨tab,[ybR.en n],0,[]⟩,9,bnOf 0 ia⟩
def T:CT := .o
def f (n:Nat)(s_:List (Int)):Option R:=fRun (X n) n T Tryz.f112 ia io (s_,())
theorem e0 (n:Nat)(s_:List (Int)):f n s_=bnd (ybR.f n s_) λu1=>some ((hide (decide (u1.1≥(0:Int)))),()):=(yae _).trans (by kernel_rfl)
theorem ok (n:Nat):FnOk Tryz.prog 112 ia io (fRun (X n) n T Tryz.f112 ia io):=yaG mixed tabIs (yad (yac (ybR.ok n)) (yav)) Tryz.func112 (by kernel_rfl) rfl
def en (n:Nat):Entry:=yaB 112 ia io (fRun (X n) n T Tryz.f112 ia io)
end yb9
end
end Go.Proofs.YtdlkpmohjhjmfaaGreatDoor

namespace Go.Proofs.YtdlkpmohjhjmfaaGreatDoor
open Go Go.Va Go.Proofs
noncomputable section
namespace yeK
abbrev ia:List Ai:=[.dat .str]
abbrev io:List (Nat×Oi):=[(2,.dat .bool)]
abbrev R:Type:=DOut ia io
def X (n:Nat):Ctx:=⟨⟨tab,[],0,[]⟩,6,bnOf 0 ia⟩
def T:CT := .o
def f (n:Nat)(s_:ByteArray):Option R:=fRun (X n) n T Tryz.f115 ia io (s_,())
theorem e0 (n:Nat)(s_:ByteArray):f n s_=some ((hide (decide ((s_.size:Int)>(63:Int)))),()):=(yae _).trans (by kernel_rfl)
theorem ok (n:Nat):FnOk Tryz.prog 115 ia io (fRun (X n) n T Tryz.f115 ia io):=yaG mixed tabIs (yav) Tryz.func115 (by kernel_rfl) rfl
def en (n:Nat):Entry:=yaB 115 ia io (fRun (X n) n T Tryz.f115 ia io)
end yeK
end
end Go.Proofs.YtdlkpmohjhjmfaaGreatDoor

namespace Go.Proofs.YtdlkpmohjhjmfaaGreatDoor
open Go Go.Va Go.Proofs
noncomputable section
namespace ybu
abbrev ia:List Ai:=[.dat (.slice .str),.fn (.fn 115) []]
abbrev io:List (Nat×Oi):=[(4,.dat (.int .i64))]
abbrev R:Type:=DOut ia io
def X (n:Nat):Ctx:=⟨⟨tab,[yeK.en n],0,[]⟩,19,bnOf 0 ia⟩
abbrev g1:List Si:=[.dat 0 (.slice .str),.clo 1 (.fn 115) [],.dat 7 (.int .i64),.dat 8 (.int .i64)]
abbrev g2:List Si:=[]
def T:CT:=(.s .o (.s (.s .o (.b (.l g1 .o))) (.r g2 .o)))
def J1 (n:Nat)(m:Nat):(List (ByteArray))×Int×Int×Unit→Option R:=jL (X n) n T (yaP Tryz.f175) (endK ia io) g1 [1,0,1,0] [] m
def J2 (n:Nat):Unit→Option R:=jR (X n) n T (yaP Tryz.f175) (endK ia io) g2 [1,1] []
def f (n:Nat)(s_:List (ByteArray)):Option R:=fRun (X n) n T Tryz.f175 ia io (s_,())
theorem e0 (n:Nat)(s_:List (ByteArray)):f n s_=J1 n n (s_,((s_.length:Nat):Int),0,()):=(yae _).trans (by kernel_rfl)
theorem e1 (n m:Nat)(s_:List (ByteArray))(t7:Int)(t8:Int):J1 n (m+1) (s_,t7,t8,())=bIf ((hide (decide (t8<t7)))) (gIf (0≤t8∧t8<((s_.length:Nat):Int)) (bnd (yeK.f n (List.getD s_ t8.toNat (⟨#[]⟩:ByteArray))) λu1=>bIf (u1.1) (some (t8,())) (J1 n m (s_,t7,(IntKind.i64.wrap (t8+(1:Int))),())))) (J2 n (())):=(yae _).trans (by kernel_rfl)
theorem e2 (n:Nat):J2 n (())=some ((-1),()):=(yae _).trans (by kernel_rfl)
theorem ok (n:Nat):FnOk Tryz.prog 175 ia io (fRun (X n) n T Tryz.f175 ia io):=yaG mixed tabIs (yad (yac (yeK.ok n)) (yav)) Tryz.func175 (by kernel_rfl) rfl
def en (n:Nat):Entry:=yaB 175 ia io (fRun (X n) n T Tryz.f175 ia io)
end ybu
end
end Go.Proofs.YtdlkpmohjhjmfaaGreatDoor

namespace Go.Proofs.YtdlkpmohjhjmfaaGreatDoor
open Go Go.Va Go.Proofs
noncomputable section
namespace ybS
abbrev ia:List Ai:=[.dat (.slice .str),.fn (.fn 115) []]
abbrev io:List (Nat×Oi):=[(4,.dat .bool)]
abbrev R:Type:=DOut ia io
def X (n:Nat):Ctx:=⟨⟨tab,[ybu.en n],0,[]⟩,9,bnOf 0 ia⟩
def T:CT := .o
def f (n:Nat)(s_:List (ByteArray)):Option R:=fRun (X n) n T Tryz.f114 ia io (s_,())
theorem e0 (n:Nat)(s_:List (ByteArray)):f n s_=bnd (ybu.f n s_) λu1=>some ((hide (decide (u1.1≥(0:Int)))),()):=(yae _).trans (by kernel_rfl)
theorem ok (n:Nat):FnOk Tryz.prog 114 ia io (fRun (X n) n T Tryz.f114 ia io):=yaG mixed tabIs (yad (yac (ybu.ok n)) (yav)) Tryz.func114 (by kernel_rfl) rfl
def en (n:Nat):Entry:=yaB 114 ia io (fRun (X n) n T Tryz.f114 ia io)
end ybS
end
end Go.Proofs.YtdlkpmohjhjmfaaGreatDoor

namespace Go.Proofs.YtdlkpmohjhjmfaaGreatDoor
open Go Go.Va Go.Proofs
noncomputable section
namespace yei
abbrev ia:List Ai:=[.dat ycs,.dat ycs]
abbrev io:List (Nat×Oi):=[(4,.dat .bool)]
abbrev R:Type:=DOut ia io
def X (n:Nat):Ctx:=⟨⟨tab,[ybi.en n],0,[]⟩,31,bnOf 0 ia⟩
def T:CT := .o
def f (n:Nat)(a:ycE)(b:ycE):Option R:=fRun (X n) n T Tryz.f168 ia io (a,b,())
theorem e0 (n:Nat)(a:ycE)(b:ycE):f n a b=bIf ((hide (eqS a.1 b.1))) (bIf ((hide (a.2.1==b.2.1))) (bIf ((hide (a.2.2.2.1==b.2.2.2.1))) (bnd (ybi.f n a.2.2.1 b.2.2.1) λu1=>some (u1.1,())) (some (false,()))) (some (false,()))) (some (false,())):=(yae _).trans (by kernel_rfl)
theorem ok (n:Nat):FnOk Tryz.prog 168 ia io (fRun (X n) n T Tryz.f168 ia io):=yaG mixed tabIs (yad (yac (ybi.ok n)) (yav)) Tryz.func168 (by kernel_rfl) rfl
def en (n:Nat):Entry:=yaB 168 ia io (fRun (X n) n T Tryz.f168 ia io)
end yei
end
end Go.Proofs.YtdlkpmohjhjmfaaGreatDoor

namespace Go.Proofs.YtdlkpmohjhjmfaaGreatDoor
open Go Go.Va Go.Proofs
noncomputable section
namespace ybt
abbrev ia:List Ai:=[.dat (.slice ycs),.dat (.slice ycs),.fn (.fn 168) []]
abbrev io:List (Nat×Oi):=[(6,.dat .bool)]
abbrev R:Type:=DOut ia io
def X (n:Nat):Ctx:=⟨⟨tab,[yei.en n],0,[]⟩,32,bnOf 0 ia⟩
abbrev g1:List Si:=[.dat 1 (.slice ycs),.clo 2 (.fn 168) [],.dat 15 (.slice ycs),.dat 16 (.int .i64),.dat 17 (.int .i64)]
abbrev g2:List Si:=[]
def T:CT:=(.s .o (.s .o (.s (.s .o (.b (.l g1 .o))) (.r g2 .o))))
def J1 (n:Nat)(m:Nat):(List (ycE))×(List (ycE))×Int×Int×Unit→Option R:=jL (X n) n T (yaP Tryz.f167) (endK ia io) g1 [1,1,0,1,0] [] m
def J2 (n:Nat):Unit→Option R:=jR (X n) n T (yaP Tryz.f167) (endK ia io) g2 [1,1,1] []
def f (n:Nat)(s1:List (ycE))(s2:List (ycE)):Option R:=fRun (X n) n T Tryz.f167 ia io (s1,s2,())
theorem e0 (n:Nat)(s1:List (ycE))(s2:List (ycE)):f n s1 s2=bIf ((hide (((s1.length:Nat):Int) != ((s2.length:Nat):Int)))) (some (false,())) (J1 n n (s2,s1,((s1.length:Nat):Int),0,())):=(yae _).trans (by kernel_rfl)
theorem e1 (n m:Nat)(s2:List (ycE))(t15:List (ycE))(t16:Int)(t17:Int):J1 n (m+1) (s2,t15,t16,t17,())=bIf ((hide (decide (t17<t16)))) (gIf (0≤t17∧t17<((t15.length:Nat):Int)) (gIf (0≤t17∧t17<((s2.length:Nat):Int)) (bnd (yei.f n (List.getD t15 t17.toNat (Va.dflt ycs)) (List.getD s2 t17.toNat (Va.dflt ycs))) λu1=>bIf ((!u1.1)) (some (false,())) (J1 n m (s2,t15,t16,(IntKind.i64.wrap (t17+(1:Int))),()))))) (J2 n (())):=(yae _).trans (by kernel_rfl)
theorem e2 (n:Nat):J2 n (())=some (true,()):=(yae _).trans (by kernel_rfl)
theorem ok (n:Nat):FnOk Tryz.prog 167 ia io (fRun (X n) n T Tryz.f167 ia io):=yaG mixed tabIs (yad (yac (yei.ok n)) (yav)) Tryz.func167 (by kernel_rfl) rfl
def en (n:Nat):Entry:=yaB 167 ia io (fRun (X n) n T Tryz.f167 ia io)
end ybt
end
end Go.Proofs.YtdlkpmohjhjmfaaGreatDoor

namespace Go.Proofs.YtdlkpmohjhjmfaaGreatDoor
open Go Go.Va Go.Proofs
noncomputable section
namespace ya9
abbrev ia:List Ai:=[.dat (.slice (.int .i64)),.dat (.slice (.int .i64))]
abbrev io:List (Nat×Oi):=[(4,.dat .bool)]
abbrev R:Type:=DOut ia io
def X (n:Nat):Ctx:=⟨⟨tab,[],0,[]⟩,26,bnOf 0 ia⟩
abbrev g1:List Si:=[.dat 0 (.slice (.int .i64)),.dat 1 (.slice (.int .i64)),.dat 12 (.int .i64),.dat 13 (.int .i64)]
abbrev g2:List Si:=[]
def T:CT:=(.s .o (.s .o (.s (.s .o (.b (.l g1 .o))) (.r g2 .o))))
def J1 (n:Nat)(m:Nat):(List (Int))×(List (Int))×Int×Int×Unit→Option R:=jL (X n) n T (yaP Tryz.f142) (endK ia io) g1 [1,1,0,1,0] [] m
def J2 (n:Nat):Unit→Option R:=jR (X n) n T (yaP Tryz.f142) (endK ia io) g2 [1,1,1] []
def f (n:Nat)(s1:List (Int))(s2:List (Int)):Option R:=fRun (X n) n T Tryz.f142 ia io (s1,s2,())
theorem e0 (n:Nat)(s1:List (Int))(s2:List (Int)):f n s1 s2=bIf ((hide (((s1.length:Nat):Int) != ((s2.length:Nat):Int)))) (some (false,())) (J1 n n (s1,s2,((s1.length:Nat):Int),0,())):=(yae _).trans (by kernel_rfl)
theorem e1 (n m:Nat)(s1:List (Int))(s2:List (Int))(t12:Int)(t13:Int):J1 n (m+1) (s1,s2,t12,t13,())=bIf ((hide (decide (t13<t12)))) (gIf (0≤t13∧t13<((s1.length:Nat):Int)) (gIf (0≤t13∧t13<((s2.length:Nat):Int)) (bIf ((hide ((List.getD s1 t13.toNat 0) != (List.getD s2 t13.toNat 0)))) (some (false,())) (J1 n m (s1,s2,t12,(IntKind.i64.wrap (t13+(1:Int))),()))))) (J2 n (())):=(yae _).trans (by kernel_rfl)
theorem e2 (n:Nat):J2 n (())=some (true,()):=(yae _).trans (by kernel_rfl)
theorem ok (n:Nat):FnOk Tryz.prog 142 ia io (fRun (X n) n T Tryz.f142 ia io):=yaG mixed tabIs (yav) Tryz.func142 (by kernel_rfl) rfl
def en (n:Nat):Entry:=yaB 142 ia io (fRun (X n) n T Tryz.f142 ia io)
end ya9
end
end Go.Proofs.YtdlkpmohjhjmfaaGreatDoor

namespace Go.Proofs.YtdlkpmohjhjmfaaGreatDoor
open Go Go.Va Go.Proofs
noncomputable section
namespace yby
abbrev ia:List Ai:=[.dat (.slice .str),.dat (.slice .str)]
abbrev io:List (Nat×Oi):=[(4,.dat .bool)]
abbrev R:Type:=DOut ia io
def X (n:Nat):Ctx:=⟨⟨tab,[],0,[]⟩,26,bnOf 0 ia⟩
abbrev g1:List Si:=[.dat 0 (.slice .str),.dat 1 (.slice .str),.dat 12 (.int .i64),.dat 13 (.int .i64)]
abbrev g2:List Si:=[]
def T:CT:=(.s .o (.s .o (.s (.s .o (.b (.l g1 .o))) (.r g2 .o))))
def J1 (n:Nat)(m:Nat):(List (ByteArray))×(List (ByteArray))×Int×Int×Unit→Option R:=jL (X n) n T (yaP Tryz.f169) (endK ia io) g1 [1,1,0,1,0] [] m
def J2 (n:Nat):Unit→Option R:=jR (X n) n T (yaP Tryz.f169) (endK ia io) g2 [1,1,1] []
def f (n:Nat)(s1:List (ByteArray))(s2:List (ByteArray)):Option R:=fRun (X n) n T Tryz.f169 ia io (s1,s2,())
theorem e0 (n:Nat)(s1:List (ByteArray))(s2:List (ByteArray)):f n s1 s2=bIf ((hide (((s1.length:Nat):Int) != ((s2.length:Nat):Int)))) (some (false,())) (J1 n n (s1,s2,((s1.length:Nat):Int),0,())):=(yae _).trans (by kernel_rfl)
theorem e1 (n m:Nat)(s1:List (ByteArray))(s2:List (ByteArray))(t12:Int)(t13:Int):J1 n (m+1) (s1,s2,t12,t13,())=bIf ((hide (decide (t13<t12)))) (gIf (0≤t13∧t13<((s1.length:Nat):Int)) (gIf (0≤t13∧t13<((s2.length:Nat):Int)) (bIf ((hide (!eqS (List.getD s1 t13.toNat (⟨#[]⟩:ByteArray)) (List.getD s2 t13.toNat (⟨#[]⟩:ByteArray))))) (some (false,())) (J1 n m (s1,s2,t12,(IntKind.i64.wrap (t13+(1:Int))),()))))) (J2 n (())):=(yae _).trans (by kernel_rfl)
theorem e2 (n:Nat):J2 n (())=some (true,()):=(yae _).trans (by kernel_rfl)
theorem ok (n:Nat):FnOk Tryz.prog 169 ia io (fRun (X n) n T Tryz.f169 ia io):=yaG mixed tabIs (yav) Tryz.func169 (by kernel_rfl) rfl
def en (n:Nat):Entry:=yaB 169 ia io (fRun (X n) n T Tryz.f169 ia io)
end yby
end
end Go.Proofs.YtdlkpmohjhjmfaaGreatDoor

namespace Go.Proofs.YtdlkpmohjhjmfaaGreatDoor
open Go Go.Va Go.Proofs
noncomputable section
namespace ydW
abbrev ia:List Ai:=[.dat ych,.dat ych]
abbrev io:List (Nat×Oi):=[(4,.dat .bool)]
abbrev R:Type:=DOut ia io
def X (n:Nat):Ctx:=⟨⟨tab,[ybn.en n,ya9.en n,ybi.en n,ybt.en n,yby.en n],0,[]⟩,59,bnOf 0 ia⟩
def T:CT := .o
def f (n:Nat)(a:ybU)(b:ybU):Option R:=fRun (X n) n T Tryz.f106 ia io (a,b,())
theorem e0 (n:Nat)(a:ybU)(b:ybU):f n a b=bIf ((hide (a.1==b.1))) (bIf ((hide (a.2.1==b.2.1))) (bIf ((hide (a.2.2.2.2.2.1==b.2.2.2.2.2.1))) (bnd (ybn.f n a.2.2.1 b.2.2.1) λu1=>bIf (u1.1) (bnd (ybi.f n a.2.2.2.1 b.2.2.2.1) λu2=>bIf (u2.1) (bnd (ybt.f n a.2.2.2.2.1 b.2.2.2.2.1) λu3=>bIf (u3.1) (bnd (ya9.f n a.2.2.2.2.2.2.1 b.2.2.2.2.2.2.1) λu4=>bIf (u4.1) (bnd (yby.f n a.2.2.2.2.2.2.2.1 b.2.2.2.2.2.2.2.1) λu5=>some (u5.1,())) (some (false,()))) (some (false,()))) (some (false,()))) (some (false,()))) (some (false,()))) (some (false,()))) (some (false,())):=(yae _).trans (by kernel_rfl)
theorem ok (n:Nat):FnOk Tryz.prog 106 ia io (fRun (X n) n T Tryz.f106 ia io):=yaG mixed tabIs (yad (yac (ybn.ok n)) (yad (yac (ya9.ok n)) (yad (yac (ybi.ok n)) (yad (yac (ybt.ok n)) (yad (yac (yby.ok n)) (yav)))))) Tryz.func106 (by kernel_rfl) rfl
def en (n:Nat):Entry:=yaB 106 ia io (fRun (X n) n T Tryz.f106 ia io)
end ydW
end
end Go.Proofs.YtdlkpmohjhjmfaaGreatDoor

namespace Go.Proofs.YtdlkpmohjhjmfaaGreatDoor
open Go Go.Va Go.Proofs
noncomputable section
namespace yd4
abbrev ia:List Ai:=[.dat ych]
abbrev io:List (Nat×Oi):=[(2,.dat .bool)]
abbrev R:Type:=DOut ia io
def X (n:Nat):Ctx:=⟨⟨tab,[ydW.en n,yd5.en n,ycQ.en n,ycb.en n,yb9.en n,ybS.en n],0,[]⟩,67,bnOf 0 ia⟩
abbrev g1:List Si:=[.ref 1 1 ych,.box 1 (.d ych)]
abbrev g2:List Si:=[.ref 1 1 ych,.box 1 (.d ych)]
abbrev g3:List Si:=[.ref 1 1 ych,.box 1 (.d ych)]
def T:CT:=(.s .o (.s .o (.r g1 (.s .o (.s .o (.r g2 (.s .o (.r g3 .o))))))))
def J1 (n:Nat):ybU×Unit→Option R:=jR (X n) n T (yaP Tryz.f56) (endK ia io) g1 [1,1] []
def J2 (n:Nat):ybU×Unit→Option R:=jR (X n) n T (yaP Tryz.f56) (endK ia io) g2 [1,1,1,1] []
def J3 (n:Nat):ybU×Unit→Option R:=jR (X n) n T (yaP Tryz.f56) (endK ia io) g3 [1,1,1,1,1] []
def f (n:Nat)(r:ybU):Option R:=fRun (X n) n T Tryz.f56 ia io (r,())
theorem e0 (n:Nat)(r:ybU):f n r=bIf ((hide (decide (r.1<(0:Int))))) (some (false,())) (bIf ((hide (decide (r.1>(18:Int))))) (some (false,())) (J1 n (r,()))):=(yae _).trans (by kernel_rfl)
theorem e1 (n:Nat)(r:ybU):J1 n (r,())=bIf ((hide (r.1 != (0:Int)))) (bnd (ydW.f n r (r.1,(0,([],((0,(false,(0,(0,((List.replicate 32 0),(0,((0,(0,(false,()))),([],())))))))),([],(false,([],([],()))))))))) λu1=>some (u1.1,())) (bIf ((hide (decide (((r.2.2.1.length:Nat):Int)>(16384:Int))))) (some (false,())) (bnd (yd5.f n r.2.2.2.1) λu2=>bIf ((!u2.1)) (bnd (ycQ.f n r.2.2.2.1) λu3=>bIf ((!u3.1)) (some (false,())) (J2 n (r,()))) (J2 n (r,())))):=(yae _).trans (by kernel_rfl)
theorem e2 (n:Nat)(r:ybU):J2 n (r,())=bIf ((hide (decide (((r.2.2.2.2.1.length:Nat):Int)>(100:Int))))) (some (false,())) (bIf ((hide (decide (((r.2.2.2.2.2.2.1.length:Nat):Int)>(8:Int))))) (some (false,())) (bIf ((hide (decide (((r.2.2.2.2.2.2.2.1.length:Nat):Int)>(16:Int))))) (some (false,())) (J3 n (r,())))):=(yae _).trans (by kernel_rfl)
theorem e3 (n:Nat)(r:ybU):J3 n (r,())=bnd (ycb.f n r.2.2.2.2.1) λu1=>bIf ((!u1.1)) (bnd (yb9.f n r.2.2.2.2.2.2.1) λu2=>bIf ((!u2.1)) (bnd (ybS.f n r.2.2.2.2.2.2.2.1) λu3=>some ((!u3.1),())) (some (false,()))) (some (false,())):=(yae _).trans (by kernel_rfl)
theorem ok (n:Nat):FnOk Tryz.prog 56 ia io (fRun (X n) n T Tryz.f56 ia io):=yaG mixed tabIs (yad (yac (ydW.ok n)) (yad (yac (yd5.ok n)) (yad (yac (ycQ.ok n)) (yad (yac (ycb.ok n)) (yad (yac (yb9.ok n)) (yad (yac (ybS.ok n)) (yav))))))) Tryz.func56 (by kernel_rfl) rfl
def en (n:Nat):Entry:=yaB 56 ia io (fRun (X n) n T Tryz.f56 ia io)
end yd4
end
end Go.Proofs.YtdlkpmohjhjmfaaGreatDoor

namespace Go.Proofs.YtdlkpmohjhjmfaaGreatDoor
open Go Go.Va Go.Proofs
noncomputable section
namespace ycx
abbrev ia:List Ai:=[.fn (.str 2) [(.p (.r 0 (.int .u8)) (.d .unit))],.dat (.slice ycs)]
abbrev io:List (Nat×Oi):=[]
abbrev R:Type:=DOut ia io
def X (n:Nat):Ctx:=⟨⟨tab,[yao.en n,yay.en n,yaV.en n,ybD.en n],0,[]⟩,43,bnOf 0 ia⟩
abbrev g1:List Si:=[.ref 2 2 ybN,.dat 13 (.slice ycs),.dat 14 (.int .i64),.dat 15 (.int .i64),.box 2 (.p (.p (.al 500000 ybB) (.d .unit)) (.d .unit)),.box 500000 (.p (.r 100000500000000 (.int .u8)) (.d .unit))]
def T:CT:=(.s .o (.s .o (.s .o (.b (.l g1 .o)))))
def J1 (n:Nat)(m:Nat):(List (ycE))×Int×Int×ya5×yaO×Unit→Option R:=jL (X n) n T (yaP Tryz.f63) (endK ia io) g1 [1,1,1,0] [] m
def f (n:Nat)(wc0:yaO)(list:List (ycE)):Option R:=fRun (X n) n T Tryz.f63 ia io (wc0,list,())
theorem e0 (n:Nat)(wc0:yaO)(list:List (ycE)):f n wc0 list=bnd (yao.f n wc0 (IntKind.u64.wrap ((list.length:Nat):Int))) λu1=>J1 n n (list,((list.length:Nat):Int),0,(((),()),()),u1.1,()):=(yae _).trans (by kernel_rfl)
theorem e1 (n m:Nat)(t13:List (ycE))(t14:Int)(t15:Int)(w_:ya5)(b500000:yaO):J1 n (m+1) (t13,t14,t15,w_,b500000,())=bIf ((hide (decide (t15<t14)))) (gIf (0≤t15∧t15<((t13.length:Nat):Int)) (bnd (yay.f n b500000 ((List.getD t13 t15.toNat (Va.dflt ycs)).1)) λu1=>bnd (yaV.f n u1.1 (((List.getD t13 t15.toNat (Va.dflt ycs)).2).1)) λu2=>bIf ((!(((List.getD t13 t15.toNat (Va.dflt ycs)).2).1))) (bnd (ybD.f n u2.1 ((((List.getD t13 t15.toNat (Va.dflt ycs)).2).2).1)) λu3=>bnd (yaV.f n u3.1 (((((List.getD t13 t15.toNat (Va.dflt ycs)).2).2).2).1)) λu4=>J1 n m (t13,t14,(IntKind.i64.wrap (t15+(1:Int))),(((),w_.1.2),w_.2),u4.1,())) (J1 n m (t13,t14,(IntKind.i64.wrap (t15+(1:Int))),(((),w_.1.2),w_.2),u2.1,())))) (some (b500000,())):=(yae _).trans (by kernel_rfl)
theorem ok (n:Nat):FnOk Tryz.prog 63 ia io (fRun (X n) n T Tryz.f63 ia io):=yaG mixed tabIs (yad (yac (yao.ok n)) (yad (yac (yay.ok n)) (yad (yac (yaV.ok n)) (yad (yac (ybD.ok n)) (yav))))) Tryz.func63 (by kernel_rfl) rfl
def en (n:Nat):Entry:=yaB 63 ia io (fRun (X n) n T Tryz.f63 ia io)
end ycx
end
end Go.Proofs.YtdlkpmohjhjmfaaGreatDoor

namespace Go.Proofs.YtdlkpmohjhjmfaaGreatDoor
open Go Go.Va Go.Proofs
noncomputable section
namespace ycD
abbrev ia:List Ai:=[.dat ych]
abbrev io:List (Nat×Oi):=[(2,.dat (.slice (.int .u8))),(3,.dat (.int .i64))]
abbrev R:Type:=DOut ia io
def X (n:Nat):Ctx:=⟨⟨tab,[yd4.en n,ybT.en n,yao.en n,ycd.en n,yay.en n,yaV.en n,ybD.en n,ycx.en n],0,[]⟩,106,bnOf 0 ia⟩
abbrev g1:List Si:=[.ref 1 1 ych,.ref 4 4 ybN,.box 1 (.d ych),.box 4 (.p (.p (.al 1500000000012 ybB) (.d .unit)) (.d .unit)),.box 1500000000012 (.p (.r 1600000000012000 (.int .u8)) (.d .unit))]
abbrev g2:List Si:=[.ref 1 1 ych,.ref 4 4 ybN,.dat 68 (.slice (.int .i64)),.dat 69 (.int .i64),.dat 70 (.int .i64),.box 1 (.d ych),.box 4 (.p (.p (.al 1500000000012 ybB) (.d .unit)) (.d .unit)),.box 1500000000012 (.p (.r 1600000000012000 (.int .u8)) (.d .unit))]
abbrev g3:List Si:=[.ref 1 1 ych,.ref 4 4 ybN,.box 1 (.d ych),.box 4 (.p (.p (.al 1500000000012 ybB) (.d .unit)) (.d .unit)),.box 1500000000012 (.p (.r 1600000000012000 (.int .u8)) (.d .unit))]
abbrev g4:List Si:=[.ref 4 4 ybN,.dat 90 (.slice .str),.dat 91 (.int .i64),.dat 92 (.int .i64),.box 4 (.p (.p (.al 1500000000012 ybB) (.d .unit)) (.d .unit)),.box 1500000000012 (.p (.r 1600000000012000 (.int .u8)) (.d .unit))]
abbrev g5:List Si:=[.ref 4 4 ybN,.box 4 (.p (.p (.al 1500000000012 ybB) (.d .unit)) (.d .unit)),.box 1500000000012 (.p (.r 1600000000012000 (.int .u8)) (.d .unit))]
def T:CT:=(.s .o (.s .o (.s .o (.s .o (.s .o (.s .o (.s .o (.r g1 (.s .o (.s .o (.s (.s .o (.b (.l g2 .o))) (.r g3 (.s .o (.s (.s .o (.b (.l g4 .o))) (.r g5 .o)))))))))))))))
def J1 (n:Nat):ybU×ya5×yaO×Unit→Option R:=jR (X n) n T (yaP Tryz.f28) (endK ia io) g1 [1,1,1,1,1,1,1] []
def J2 (n:Nat)(m:Nat):(List (Int))×Int×Int×ybU×ya5×yaO×Unit→Option R:=jL (X n) n T (yaP Tryz.f28) (endK ia io) g2 [1,1,1,1,1,1,1,1,1,0,1,0] [] m
def J3 (n:Nat):ybU×ya5×yaO×Unit→Option R:=jR (X n) n T (yaP Tryz.f28) (endK ia io) g3 [1,1,1,1,1,1,1,1,1,1] []
def J4 (n:Nat)(m:Nat):(List (ByteArray))×Int×Int×ya5×yaO×Unit→Option R:=jL (X n) n T (yaP Tryz.f28) (endK ia io) g4 [1,1,1,1,1,1,1,1,1,1,1,0,1,0] [] m
def J5 (n:Nat):ya5×yaO×Unit→Option R:=jR (X n) n T (yaP Tryz.f28) (endK ia io) g5 [1,1,1,1,1,1,1,1,1,1,1,1] []
def f (n:Nat)(r:ybU):Option R:=fRun (X n) n T Tryz.f28 ia io (r,())
theorem e0 (n:Nat)(r:ybU):f n r=bnd (yd4.f n r) λu1=>bIf ((!u1.1)) (some ([],2,())) (bnd (ybT.f n) λu2=>bnd (yao.f n u2.1 (IntKind.u64.wrap r.1)) λu3=>bIf ((hide (r.1 != (0:Int)))) (bnd (ycd.f n u3.1) λu4=>some (u4.1,0,())) (bnd (yao.f n u3.1 r.2.1) λu5=>bnd (yay.f n u5.1 (yaT r.2.2.1)) λu6=>bnd (yaV.f n u6.1 (hide (r.2.2.2.1.1 != (0:Int)))) λu7=>bIf ((hide (r.2.2.2.1.1 != (0:Int)))) (bnd (ybD.f n u7.1 r.2.2.2.1) λu8=>J1 n (r,(((),()),()),u8.1,())) (J1 n (r,(((),()),()),u7.1,())))):=(yae _).trans (by kernel_rfl)
theorem e1 (n:Nat)(r:ybU)(w_:ya5)(b1500000000012:yaO):J1 n (r,w_,b1500000000012,())=bnd (ycx.f n b1500000000012 r.2.2.2.2.1) λu1=>bnd (yaV.f n u1.1 r.2.2.2.2.2.1) λu2=>bnd (yao.f n u2.1 (IntKind.u64.wrap ((r.2.2.2.2.2.2.1.length:Nat):Int))) λu3=>J2 n n (r.2.2.2.2.2.2.1,((r.2.2.2.2.2.2.1.length:Nat):Int),0,r,(((),w_.1.2),w_.2),u3.1,()):=(yae _).trans (by kernel_rfl)
theorem e2 (n m:Nat)(t68:List (Int))(t69:Int)(t70:Int)(r:ybU)(w_:ya5)(b1500000000012:yaO):J2 n (m+1) (t68,t69,t70,r,w_,b1500000000012,())=bIf ((hide (decide (t70<t69)))) (gIf (0≤t70∧t70<((t68.length:Nat):Int)) (bnd (yao.f n b1500000000012 (IntKind.u64.wrap (List.getD t68 t70.toNat 0))) λu1=>J2 n m (t68,t69,(IntKind.i64.wrap (t70+(1:Int))),r,(((),w_.1.2),w_.2),u1.1,()))) (J3 n (r,(((),w_.1.2),w_.2),b1500000000012,())):=(yae _).trans (by kernel_rfl)
theorem e3 (n:Nat)(r:ybU)(w_:ya5)(b1500000000012:yaO):J3 n (r,w_,b1500000000012,())=bnd (yao.f n b1500000000012 (IntKind.u64.wrap ((r.2.2.2.2.2.2.2.1.length:Nat):Int))) λu1=>J4 n n (r.2.2.2.2.2.2.2.1,((r.2.2.2.2.2.2.2.1.length:Nat):Int),0,(((),w_.1.2),w_.2),u1.1,()):=(yae _).trans (by kernel_rfl)
theorem e4 (n m:Nat)(t90:List (ByteArray))(t91:Int)(t92:Int)(w_:ya5)(b1500000000012:yaO):J4 n (m+1) (t90,t91,t92,w_,b1500000000012,())=bIf ((hide (decide (t92<t91)))) (gIf (0≤t92∧t92<((t90.length:Nat):Int)) (bnd (yay.f n b1500000000012 (List.getD t90 t92.toNat (⟨#[]⟩:ByteArray))) λu1=>J4 n m (t90,t91,(IntKind.i64.wrap (t92+(1:Int))),(((),w_.1.2),w_.2),u1.1,()))) (J5 n ((((),w_.1.2),w_.2),b1500000000012,())):=(yae _).trans (by kernel_rfl)
theorem e5 (n:Nat)(w_:ya5)(b1500000000012:yaO):J5 n (w_,b1500000000012,())=bnd (ycd.f n b1500000000012) λu1=>some (u1.1,0,()):=(yae _).trans (by kernel_rfl)
theorem ok (n:Nat):FnOk Tryz.prog 28 ia io (fRun (X n) n T Tryz.f28 ia io):=yaG mixed tabIs (yad (yac (yd4.ok n)) (yad (yac (ybT.ok n)) (yad (yac (yao.ok n)) (yad (yac (ycd.ok n)) (yad (yac (yay.ok n)) (yad (yac (yaV.ok n)) (yad (yac (ybD.ok n)) (yad (yac (ycx.ok n)) (yav))))))))) Tryz.func28 (by kernel_rfl) rfl
def en (n:Nat):Entry:=yaB 28 ia io (fRun (X n) n T Tryz.f28 ia io)
end ycD
end
end Go.Proofs.YtdlkpmohjhjmfaaGreatDoor

namespace Go.Proofs.YtdlkpmohjhjmfaaGreatDoor
open Go Go.Va Go.Proofs
noncomputable section
namespace ydj
abbrev ia:List Ai:=[.dat (.int .i64)]
abbrev io:List (Nat×Oi):=[(2,.dat .str)]
abbrev R:Type:=DOut ia io
def X (n:Nat):Ctx:=⟨⟨tab,[ybx.en n],0,[]⟩,6,bnOf 0 ia⟩
def T:CT := .o
def f (n:Nat)(n_:Int):Option R:=fRun (X n) n T Tryz.f32 ia io (n_,())
theorem e0 (n:Nat)(n_:Int):f n n_=bnd (ybx.f n (IntKind.u64.wrap n_)) λu1=>some (u1.1,()):=(yae _).trans (by kernel_rfl)
theorem ok (n:Nat):FnOk Tryz.prog 32 ia io (fRun (X n) n T Tryz.f32 ia io):=yaG mixed tabIs (yad (yac (ybx.ok n)) (yav)) Tryz.func32 (by kernel_rfl) rfl
def en (n:Nat):Entry:=yaB 32 ia io (fRun (X n) n T Tryz.f32 ia io)
end ydj
end
end Go.Proofs.YtdlkpmohjhjmfaaGreatDoor

namespace Go.Proofs.YtdlkpmohjhjmfaaGreatDoor
open Go Go.Va Go.Proofs
noncomputable section
namespace yd6
abbrev ia:List Ai:=[.dat yan,.dat yan]
abbrev io:List (Nat×Oi):=[(4,.dat .bool)]
abbrev R:Type:=DOut ia io
def X (n:Nat):Ctx:=⟨⟨tab,[ybn.en n,ydk.en n,ydE.en n,ybX.en n,ya9.en n],0,[]⟩,132,bnOf 0 ia⟩
abbrev g1:List Si:=[.ref 2 2 yan,.ref 3 3 yan,.box 2 (.d yan),.box 3 (.d yan)]
abbrev g2:List Si:=[.ref 2 2 yan,.ref 3 3 yan,.box 2 (.d yan),.box 3 (.d yan)]
def T:CT:=(.s .o (.s .o (.r g1 (.s .o (.r g2 .o)))))
def J1 (n:Nat):yaj×yaj×Unit→Option R:=jR (X n) n T (yaP Tryz.f77) (endK ia io) g1 [1,1] []
def J2 (n:Nat):yaj×yaj×Unit→Option R:=jR (X n) n T (yaP Tryz.f77) (endK ia io) g2 [1,1,1] []
def f (n:Nat)(t:yaj)(o:yaj):Option R:=fRun (X n) n T Tryz.f77 ia io (t,o,())
theorem e0 (n:Nat)(t:yaj)(o:yaj):f n t o=bIf ((hide (t.1 != o.1))) (some (false,())) (bIf ((hide (!eqS t.2.1 o.2.1))) (some (false,())) (bIf ((hide (!eqS t.2.2.1 o.2.2.1))) (some (false,())) (bIf ((hide (!eqS t.2.2.2.1 o.2.2.2.1))) (some (false,())) (bIf ((hide (t.2.2.2.2.1 != o.2.2.2.2.1))) (some (false,())) (bIf ((hide (!(eqD yaN t.2.2.2.2.2.2.2.1 o.2.2.2.2.2.2.2.1)))) (some (false,())) (bIf ((hide (!(t.2.2.2.2.2.2.2.2.1==o.2.2.2.2.2.2.2.2.1)))) (some (false,())) (bIf ((hide (!(eqD yaA t.2.2.2.2.2.2.2.2.2.1 o.2.2.2.2.2.2.2.2.2.1)))) (some (false,())) (J1 n (t,o,()))))))))):=(yae _).trans (by kernel_rfl)
theorem e1 (n:Nat)(A:yaj)(r:yaj):J1 n (A,r,())=bIf ((hide (A.2.2.2.2.2.2.2.2.2.2.2.2.1 != r.2.2.2.2.2.2.2.2.2.2.2.2.1))) (some (false,())) (bIf ((hide (!eqS A.2.2.2.2.2.2.2.2.2.2.2.2.2.2.1 r.2.2.2.2.2.2.2.2.2.2.2.2.2.2.1))) (some (false,())) (bIf ((hide (!eqS A.2.2.2.2.2.2.2.2.2.2.2.2.2.2.2.1 r.2.2.2.2.2.2.2.2.2.2.2.2.2.2.2.1))) (some (false,())) (bIf ((hide (!eqS A.2.2.2.2.2.2.2.2.2.2.2.2.2.2.2.2.1 r.2.2.2.2.2.2.2.2.2.2.2.2.2.2.2.2.1))) (some (false,())) (bIf ((hide (!(eqD yaY A.2.2.2.2.2.2.2.2.2.2.2.2.2.2.2.2.2.1 r.2.2.2.2.2.2.2.2.2.2.2.2.2.2.2.2.2.1)))) (some (false,())) (bIf ((hide (A.2.2.2.2.2.2.2.2.2.2.2.2.2.2.2.2.2.2.1 != r.2.2.2.2.2.2.2.2.2.2.2.2.2.2.2.2.2.2.1))) (some (false,())) (J2 n (A,r,()))))))):=(yae _).trans (by kernel_rfl)
theorem e2 (n:Nat)(A:yaj)(r:yaj):J2 n (A,r,())=bnd (ybn.f n A.2.2.2.2.2.1 r.2.2.2.2.2.1) λu1=>bIf (u1.1) (bnd (ydk.f n A.2.2.2.2.2.2.1 r.2.2.2.2.2.2.1) λu2=>bIf (u2.1) (bnd (ydE.f n A.2.2.2.2.2.2.2.2.2.2.1 r.2.2.2.2.2.2.2.2.2.2.1) λu3=>bIf (u3.1) (bnd (ybX.f n A.2.2.2.2.2.2.2.2.2.2.2.1 r.2.2.2.2.2.2.2.2.2.2.2.1) λu4=>bIf (u4.1) (bnd (ya9.f n A.2.2.2.2.2.2.2.2.2.2.2.2.2.1 r.2.2.2.2.2.2.2.2.2.2.2.2.2.1) λu5=>some (u5.1,())) (some (false,()))) (some (false,()))) (some (false,()))) (some (false,())):=(yae _).trans (by kernel_rfl)
theorem ok (n:Nat):FnOk Tryz.prog 77 ia io (fRun (X n) n T Tryz.f77 ia io):=yaG mixed tabIs (yad (yac (ybn.ok n)) (yad (yac (ydk.ok n)) (yad (yac (ydE.ok n)) (yad (yac (ybX.ok n)) (yad (yac (ya9.ok n)) (yav)))))) Tryz.func77 (by kernel_rfl) rfl
def en (n:Nat):Entry:=yaB 77 ia io (fRun (X n) n T Tryz.f77 ia io)
end yd6
end
end Go.Proofs.YtdlkpmohjhjmfaaGreatDoor

namespace Go.Proofs.YtdlkpmohjhjmfaaGreatDoor
open Go Go.Va Go.Proofs
noncomputable section
namespace ybY
abbrev ia:List Ai:=[.dat yan,.dat yan]
abbrev io:List (Nat×Oi):=[(4,.dat .bool)]
abbrev R:Type:=DOut ia io
def X (n:Nat):Ctx:=⟨⟨tab,[ydY.en n],0,[]⟩,158,bnOf 0 ia⟩
abbrev g1:List Si:=[.ref 2 2 yan,.ref 3 3 yan,.box 2 (.d yan),.box 3 (.d yan)]
abbrev g2:List Si:=[.ref 2 2 yan,.ref 3 3 yan,.box 2 (.d yan),.box 3 (.d yan)]
abbrev g3:List Si:=[.ref 2 2 yan,.ref 3 3 yan,.dat 7 (.int .i64),.box 2 (.d yan),.box 3 (.d yan)]
abbrev g4:List Si:=[]
def T:CT:=(.s .o (.s .o (.r g1 (.s .o (.s .o (.s .o (.r g2 (.s (.s .o (.b (.l g3 .o))) (.r g4 .o)))))))))
def J1 (n:Nat):yaj×yaj×Unit→Option R:=jR (X n) n T (yaP Tryz.f26) (endK ia io) g1 [1,1] []
def J2 (n:Nat):yaj×yaj×Unit→Option R:=jR (X n) n T (yaP Tryz.f26) (endK ia io) g2 [1,1,1,1,1] []
def J3 (n:Nat)(m:Nat):Int×yaj×yaj×Unit→Option R:=jL (X n) n T (yaP Tryz.f26) (endK ia io) g3 [1,1,1,1,1,0,1,0] [] m
def J4 (n:Nat):Unit→Option R:=jR (X n) n T (yaP Tryz.f26) (endK ia io) g4 [1,1,1,1,1,1] []
def f (n:Nat)(t:yaj)(o:yaj):Option R:=fRun (X n) n T Tryz.f26 ia io (t,o,())
theorem e0 (n:Nat)(t:yaj)(o:yaj):f n t o=bIf ((hide (t.1 != o.1))) (some (false,())) (bIf ((hide (!eqS t.2.1 o.2.1))) (some (false,())) (bIf ((hide (!eqS t.2.2.1 o.2.2.1))) (some (false,())) (bIf ((hide (!eqS t.2.2.2.1 o.2.2.2.1))) (some (false,())) (bIf ((hide (t.2.2.2.2.1 != o.2.2.2.2.1))) (some (false,())) (bIf ((hide (!eqS (yaT t.2.2.2.2.2.1) (yaT o.2.2.2.2.2.1)))) (some (false,())) (bIf ((hide (!(eqD yaN t.2.2.2.2.2.2.2.1 o.2.2.2.2.2.2.2.1)))) (some (false,())) (bIf ((hide (!(t.2.2.2.2.2.2.2.2.1==o.2.2.2.2.2.2.2.2.1)))) (some (false,())) (bIf ((hide (!(eqD yaA t.2.2.2.2.2.2.2.2.2.1 o.2.2.2.2.2.2.2.2.2.1)))) (some (false,())) (bIf ((hide (t.2.2.2.2.2.2.2.2.2.2.2.2.1 != o.2.2.2.2.2.2.2.2.2.2.2.2.1))) (some (false,())) (bIf ((hide (!eqS t.2.2.2.2.2.2.2.2.2.2.2.2.2.2.1 o.2.2.2.2.2.2.2.2.2.2.2.2.2.2.1))) (some (false,())) (bIf ((hide (!eqS t.2.2.2.2.2.2.2.2.2.2.2.2.2.2.2.1 o.2.2.2.2.2.2.2.2.2.2.2.2.2.2.2.1))) (some (false,())) (bIf ((hide (!eqS t.2.2.2.2.2.2.2.2.2.2.2.2.2.2.2.2.1 o.2.2.2.2.2.2.2.2.2.2.2.2.2.2.2.2.1))) (some (false,())) (bIf ((hide (!(eqD yaY t.2.2.2.2.2.2.2.2.2.2.2.2.2.2.2.2.2.1 o.2.2.2.2.2.2.2.2.2.2.2.2.2.2.2.2.2.1)))) (some (false,())) (bIf ((hide (t.2.2.2.2.2.2.2.2.2.2.2.2.2.2.2.2.2.2.1 != o.2.2.2.2.2.2.2.2.2.2.2.2.2.2.2.2.2.2.1))) (some (false,())) (J1 n (t,o,())))))))))))))))):=(yae _).trans (by kernel_rfl)
theorem e1 (n:Nat)(A:yaj)(r:yaj):J1 n (A,r,())=bnd (ydY.f n (0,(0,((⟨#[]⟩:ByteArray),((⟨#[]⟩:ByteArray),(0,((0,(false,(0,(0,((List.replicate 32 0),(0,((0,(0,(false,()))),([],())))))))),((0,(0,(false,()))),(A.2.2.2.2.2.2.1,((0,(0,())),(A.2.2.2.2.2.2.2.2.2.2.1,(A.2.2.2.2.2.2.2.2.2.2.2.1,((0,(0,(0,((List.replicate 32 0),())))),())))))))))))) (0,(0,((⟨#[]⟩:ByteArray),((⟨#[]⟩:ByteArray),(0,((0,(false,(0,(0,((List.replicate 32 0),(0,((0,(0,(false,()))),([],())))))))),((0,(0,(false,()))),(r.2.2.2.2.2.2.1,((0,(0,())),(r.2.2.2.2.2.2.2.2.2.2.1,(r.2.2.2.2.2.2.2.2.2.2.2.1,((0,(0,(0,((List.replicate 32 0),())))),()))))))))))))) λu1=>bIf ((!u1.1)) (some (false,())) (bIf ((hide (((A.2.2.2.2.2.2.2.2.2.2.2.2.2.1.length:Nat):Int) != ((r.2.2.2.2.2.2.2.2.2.2.2.2.2.1.length:Nat):Int)))) (some (false,())) (J2 n (A,r,()))):=(yae _).trans (by kernel_rfl)
theorem e2 (n:Nat)(A:yaj)(r:yaj):J2 n (A,r,())=J3 n n (0,A,r,()):=(yae _).trans (by kernel_rfl)
theorem e3 (n m:Nat)(t7:Int)(A:yaj)(r:yaj):J3 n (m+1) (t7,A,r,())=bIf ((hide (decide (t7<((A.2.2.2.2.2.2.2.2.2.2.2.2.2.1.length:Nat):Int))))) (gIf (0≤t7∧t7<((A.2.2.2.2.2.2.2.2.2.2.2.2.2.1.length:Nat):Int)) (gIf (0≤t7∧t7<((r.2.2.2.2.2.2.2.2.2.2.2.2.2.1.length:Nat):Int)) (bIf ((hide ((List.getD A.2.2.2.2.2.2.2.2.2.2.2.2.2.1 t7.toNat 0) != (List.getD r.2.2.2.2.2.2.2.2.2.2.2.2.2.1 t7.toNat 0)))) (some (false,())) (J3 n m ((IntKind.i64.wrap (t7+(1:Int))),A,r,()))))) (J4 n (())):=(yae _).trans (by kernel_rfl)
theorem e4 (n:Nat):J4 n (())=some (true,()):=(yae _).trans (by kernel_rfl)
theorem ok (n:Nat):FnOk Tryz.prog 26 ia io (fRun (X n) n T Tryz.f26 ia io):=yaG mixed tabIs (yad (yac (ydY.ok n)) (yav)) Tryz.func26 (by kernel_rfl) rfl
def en (n:Nat):Entry:=yaB 26 ia io (fRun (X n) n T Tryz.f26 ia io)
end ybY
end
end Go.Proofs.YtdlkpmohjhjmfaaGreatDoor

namespace Go.Proofs.YtdlkpmohjhjmfaaGreatDoor
open Go Go.Va Go.Proofs
noncomputable section
namespace ycv
abbrev ia:List Ai:=[.fn (.str 2) [(.p (.r 0 (.int .u8)) (.d .unit))],.dat yan]
abbrev io:List (Nat×Oi):=[(4,.argc 2 500000 (.d ybB))]
abbrev R:Type:=DOut ia io
def X (n:Nat):Ctx:=⟨⟨tab,[yao.en n,yay.en n],0,[]⟩,15,bnOf 0 ia⟩
def T:CT := .o
def f (n:Nat)(wc0:yaO)(r:yaj):Option R:=fRun (X n) n T Tryz.f137 ia io (wc0,r,())
theorem e0 (n:Nat)(wc0:yaO)(r:yaj):f n wc0 r=bnd (yay.f n wc0 r.2.2.2.1) λu1=>bnd (yao.f n u1.1 r.2.2.2.2.1) λu2=>some (u2.1,()):=(yae _).trans (by kernel_rfl)
theorem ok (n:Nat):FnOk Tryz.prog 137 ia io (fRun (X n) n T Tryz.f137 ia io):=yaG mixed tabIs (yad (yac (yao.ok n)) (yad (yac (yay.ok n)) (yav))) Tryz.func137 (by kernel_rfl) rfl
def en (n:Nat):Entry:=yaB 137 ia io (fRun (X n) n T Tryz.f137 ia io)
end ycv
end
end Go.Proofs.YtdlkpmohjhjmfaaGreatDoor

namespace Go.Proofs.YtdlkpmohjhjmfaaGreatDoor
open Go Go.Va Go.Proofs
noncomputable section
namespace yag
abbrev ia:List Ai:=[.fn (.str 2) [(.p (.r 0 (.int .u8)) (.d .unit))],.dat yan]
abbrev io:List (Nat×Oi):=[]
abbrev R:Type:=DOut ia io
def X (n:Nat):Ctx:=⟨⟨tab,[yao.en n,yay.en n,yaV.en n,ybJ.en n,ybG.en n,yba.en n,ycF.en n,yb5.en n,yb0.en n,ycv.en n],0,[]⟩,230,bnOf 0 ia⟩
abbrev g1:List Si:=[.ref 2 2 ybN,.ref 3 3 yan,.dat 7 (.int .i64),.dat 8 .bool,.box 2 (.p (.p (.al 500000 ybB) (.d .unit)) (.d .unit)),.box 3 (.d yan),.box 500000 (.p (.r 100000500000000 (.int .u8)) (.d .unit))]
abbrev g2:List Si:=[.ref 2 2 ybN,.ref 3 3 yan,.dat 7 (.int .i64),.dat 52 .bool,.box 2 (.p (.p (.al 500000 ybB) (.d .unit)) (.d .unit)),.box 3 (.d yan),.box 500000 (.p (.r 100000500000000 (.int .u8)) (.d .unit))]
abbrev g3:List Si:=[.ref 2 2 ybN,.dat 190 (.slice (.int .i64)),.dat 191 (.int .i64),.dat 192 (.int .i64),.box 2 (.p (.p (.al 500000 ybB) (.d .unit)) (.d .unit)),.box 500000 (.p (.r 100000500000000 (.int .u8)) (.d .unit))]
def T:CT:=(.s .o (.s .o (.b (.s .o (.r g1 (.c .o (.s .o (.c .o (.s .o (.c .o (.s .o (.c .o (.s .o (.r g2 (.c .o (.s .o (.c .o (.s .o (.c .o (.s .o (.c .o (.s .o (.c .o (.s .o (.c .o (.s .o (.c .o (.s .o (.c .o (.s .o (.c .o (.s .o (.c .o (.s .o (.c (.s .o (.s .o (.b (.l g3 .o)))) .o)))))))))))))))))))))))))))))))))))
def J1 (n:Nat):Int×Bool×ya5×yaj×yaO×Unit→Option R:=jR (X n) n T (yaP Tryz.f76) (endK ia io) g1 [1,1,0,1] []
def J2 (n:Nat):Int×Bool×ya5×yaj×yaO×Unit→Option R:=jR (X n) n T (yaP Tryz.f76) (endK ia io) g2 [1,1,0,1,1,1,1,1,1,1,1,1] []
def J3 (n:Nat)(m:Nat):(List (Int))×Int×Int×ya5×yaO×Unit→Option R:=jL (X n) n T (yaP Tryz.f76) (endK ia io) g3 [1,1,0,1,1,1,1,1,1,1,1,1,1,1,1,1,1,1,1,1,1,1,1,1,1,1,1,1,1,1,1,1,0,1,1,0] [] m
def f (n:Nat)(tc0:yaO)(o:yaj):Option R:=fRun (X n) n T Tryz.f76 ia io (tc0,o,())
theorem e0 (n:Nat)(tc0:yaO)(o:yaj):f n tc0 o=bIf ((hide (o.1==(1:Int)))) (J1 n (o.1,true,(((),()),()),o,tc0,())) (J1 n (o.1,(hide (o.1==(3:Int))),(((),()),()),o,tc0,())):=(yae _).trans (by kernel_rfl)
theorem e1 (n:Nat)(t7:Int)(t8:Bool)(A:ya5)(r:yaj)(b500000:yaO):J1 n (t7,t8,A,r,b500000,())=bIf (t8) (bnd (ycF.f n b500000 r.2.2.2.2.2.2.2.2.2.1) λu1=>some (u1.1,())) (bIf ((hide (t7==(4:Int)))) (bnd (yb5.f n b500000 r.2.2.2.2.2.2.2.2.2.2.1) λu2=>some (u2.1,())) (bIf ((hide (t7==(5:Int)))) (bnd (yb0.f n b500000 r.2.2.2.2.2.2.2.2.2.2.2.1) λu3=>some (u3.1,())) (bIf ((hide (t7==(6:Int)))) (bnd (yay.f n b500000 r.2.2.2.1) λu4=>bnd (yay.f n u4.1 (yaT r.2.2.2.2.2.1)) λu5=>bnd (yba.f n u5.1 r.2.2.2.2.2.2.1) λu6=>bnd (ybG.f n u6.1 r.2.2.2.2.2.2.2.1) λu7=>some (u7.1,())) (bIf ((hide (t7==(7:Int)))) (J2 n (t7,true,(((),A.1.2),A.2),r,b500000,())) (J2 n (t7,(hide (t7==(8:Int))),(((),A.1.2),A.2),r,b500000,())))))):=(yae _).trans (by kernel_rfl)
theorem e2 (n:Nat)(t7:Int)(t52:Bool)(A:ya5)(r:yaj)(b500000:yaO):J2 n (t7,t52,A,r,b500000,())=bIf (t52) (bnd (ycv.f n b500000 r) λu1=>some (u1.1,())) (bIf ((hide (t7==(9:Int)))) (bnd (yay.f n b500000 r.2.2.2.1) λu2=>some (u2.1,())) (bIf ((hide (t7==(10:Int)))) (bnd (ycv.f n b500000 r) λu3=>bnd (yaV.f n u3.1 r.2.2.2.2.2.2.2.2.1) λu4=>some (u4.1,())) (bIf ((hide (t7==(11:Int)))) (bnd (ycv.f n b500000 r) λu5=>bnd (ybG.f n u5.1 r.2.2.2.2.2.2.2.1) λu6=>bnd (yaV.f n u6.1 r.2.2.2.2.2.2.2.2.1) λu7=>some (u7.1,())) (bIf ((hide (t7==(12:Int)))) (bnd (ycv.f n b500000 r) λu8=>bnd (ybG.f n u8.1 r.2.2.2.2.2.2.2.1) λu9=>some (u9.1,())) (bIf ((hide (t7==(13:Int)))) (bnd (ycv.f n b500000 r) λu10=>bnd (yba.f n u10.1 r.2.2.2.2.2.2.1) λu11=>some (u11.1,())) (bIf ((hide (t7==(14:Int)))) (bnd (yay.f n b500000 r.2.2.2.2.2.2.2.2.2.2.2.2.2.2.2.1) λu12=>bnd (yay.f n u12.1 r.2.2.2.2.2.2.2.2.2.2.2.2.2.2.2.2.1) λu13=>bnd (yay.f n u13.1 r.2.2.2.2.2.2.2.2.2.2.2.2.2.2.1) λu14=>bnd (yao.f n u14.1 (IntKind.u64.wrap r.2.2.2.2.2.2.2.2.2.2.2.2.2.2.2.2.2.2.1)) λu15=>some (u15.1,())) (bIf ((hide (t7==(15:Int)))) (bnd (yay.f n b500000 r.2.2.2.2.2.2.2.2.2.2.2.2.2.2.2.1) λu16=>bnd (yay.f n u16.1 r.2.2.2.2.2.2.2.2.2.2.2.2.2.2.2.2.2.1.2.1) λu17=>bnd (yao.f n u17.1 r.2.2.2.2.2.2.2.2.2.2.2.2.2.2.2.2.2.1.2.2.1) λu18=>bnd (yao.f n u18.1 (IntKind.u64.wrap r.2.2.2.2.2.2.2.2.2.2.2.2.2.2.2.2.2.2.1)) λu19=>some (u19.1,())) (bIf ((hide (t7==(16:Int)))) (bnd (yay.f n b500000 r.2.2.2.1) λu20=>bnd (yba.f n u20.1 r.2.2.2.2.2.2.1) λu21=>some (u21.1,())) (bIf ((hide (t7==(17:Int)))) (bnd (yao.f n b500000 r.2.2.2.2.1) λu22=>bnd (yao.f n u22.1 (IntKind.u64.wrap r.2.2.2.2.2.2.2.2.2.2.2.2.1)) λu23=>bnd (yay.f n u23.1 (yaT r.2.2.2.2.2.1)) λu24=>some (u24.1,())) (bIf ((hide (t7==(18:Int)))) (bnd (yao.f n b500000 r.2.2.2.2.1) λu25=>bnd (yao.f n u25.1 (IntKind.u64.wrap ((r.2.2.2.2.2.2.2.2.2.2.2.2.2.1.length:Nat):Int))) λu26=>J3 n n (r.2.2.2.2.2.2.2.2.2.2.2.2.2.1,((r.2.2.2.2.2.2.2.2.2.2.2.2.2.1.length:Nat):Int),0,(((),A.1.2),A.2),u26.1,())) (bIf ((hide (t7==(19:Int)))) (bnd (yao.f n b500000 r.2.2.2.2.1) λu27=>some (u27.1,())) (bIf ((hide (t7==(20:Int)))) (bnd (yay.f n b500000 r.2.2.2.1) λu28=>bnd (yay.f n u28.1 r.2.2.2.2.2.2.2.2.2.2.2.2.2.2.2.2.2.1.1) λu29=>bnd (yay.f n u29.1 r.2.2.2.2.2.2.2.2.2.2.2.2.2.2.2.2.2.1.2.1) λu30=>bnd (yao.f n u30.1 r.2.2.2.2.2.2.2.2.2.2.2.2.2.2.2.2.2.1.2.2.1) λu31=>some (u31.1,())) (some (b500000,())))))))))))))):=(yae _).trans (by kernel_rfl)
theorem e3 (n m:Nat)(t190:List (Int))(t191:Int)(t192:Int)(A:ya5)(b500000:yaO):J3 n (m+1) (t190,t191,t192,A,b500000,())=bIf ((hide (decide (t192<t191)))) (gIf (0≤t192∧t192<((t190.length:Nat):Int)) (bnd (ybJ.f n b500000 (List.getD t190 t192.toNat 0)) λu1=>J3 n m (t190,t191,(IntKind.i64.wrap (t192+(1:Int))),(((),A.1.2),A.2),u1.1,()))) (some (b500000,())):=(yae _).trans (by kernel_rfl)
theorem ok (n:Nat):FnOk Tryz.prog 76 ia io (fRun (X n) n T Tryz.f76 ia io):=yaG mixed tabIs (yad (yac (yao.ok n)) (yad (yac (yay.ok n)) (yad (yac (yaV.ok n)) (yad (yac (ybJ.ok n)) (yad (yac (ybG.ok n)) (yad (yac (yba.ok n)) (yad (yac (ycF.ok n)) (yad (yac (yb5.ok n)) (yad (yac (yb0.ok n)) (yad (yac (ycv.ok n)) (yav))))))))))) Tryz.func76 (by kernel_rfl) rfl
def en (n:Nat):Entry:=yaB 76 ia io (fRun (X n) n T Tryz.f76 ia io)
end yag
end
end Go.Proofs.YtdlkpmohjhjmfaaGreatDoor

namespace Go.Proofs.YtdlkpmohjhjmfaaGreatDoor
open Go Go.Va Go.Proofs
noncomputable section
namespace ycX
abbrev ia:List Ai:=[.dat yan]
abbrev io:List (Nat×Oi):=[(2,.dat (.slice (.int .u8))),(3,.dat (.int .i64))]
abbrev R:Type:=DOut ia io
def X (n:Nat):Ctx:=⟨⟨tab,[ybT.en n,yao.en n,ycd.en n,yay.en n,yaH.en n,yag.en n],0,[]⟩,41,bnOf 0 ia⟩
abbrev g1:List Si:=[.ref 1 1 yan,.ref 4 4 ybN,.dat 27 .bool,.box 1 (.d yan),.box 4 (.p (.p (.al 1500000000008 ybB) (.d .unit)) (.d .unit)),.box 1500000000008 (.p (.r 1600000000008000 (.int .u8)) (.d .unit))]
abbrev g2:List Si:=[.ref 1 1 yan,.ref 4 4 ybN,.box 1 (.d yan),.box 4 (.p (.p (.al 1500000000008 ybB) (.d .unit)) (.d .unit)),.box 1500000000008 (.p (.r 1600000000008000 (.int .u8)) (.d .unit))]
def T:CT:=(.s .o (.s .o (.s .o (.s .o (.s (.s .o (.r g1 .o)) (.r g2 .o))))))
def J1 (n:Nat):Bool×yaj×ya5×yaO×Unit→Option R:=jR (X n) n T (yaP Tryz.f42) (endK ia io) g1 [1,1,1,1,0,1] []
def J2 (n:Nat):yaj×ya5×yaO×Unit→Option R:=jR (X n) n T (yaP Tryz.f42) (endK ia io) g2 [1,1,1,1,1] []
def f (n:Nat)(r:yaj):Option R:=fRun (X n) n T Tryz.f42 ia io (r,())
theorem e0 (n:Nat)(r:yaj):f n r=bnd (yaH.f n r) λu1=>bIf ((!u1.1)) (some ([],2,())) (bnd (ybT.f n) λu2=>bnd (yao.f n u2.1 (IntKind.u64.wrap r.1)) λu3=>bnd (yay.f n u3.1 r.2.1) λu4=>bIf ((hide (r.1 != (21:Int)))) (J1 n ((hide (r.1 != (22:Int))),r,(((),()),()),u4.1,())) (J1 n (false,r,(((),()),()),u4.1,()))):=(yae _).trans (by kernel_rfl)
theorem e1 (n:Nat)(t27:Bool)(r:yaj)(w_:ya5)(b1500000000008:yaO):J1 n (t27,r,w_,b1500000000008,())=bIf (t27) (bnd (yay.f n b1500000000008 r.2.2.1) λu1=>J2 n (r,(((),w_.1.2),w_.2),u1.1,())) (J2 n (r,(((),w_.1.2),w_.2),b1500000000008,())):=(yae _).trans (by kernel_rfl)
theorem e2 (n:Nat)(r:yaj)(w_:ya5)(b1500000000008:yaO):J2 n (r,w_,b1500000000008,())=bnd (yag.f n b1500000000008 r) λu1=>bnd (ycd.f n u1.1) λu2=>some (u2.1,0,()):=(yae _).trans (by kernel_rfl)
theorem ok (n:Nat):FnOk Tryz.prog 42 ia io (fRun (X n) n T Tryz.f42 ia io):=yaG mixed tabIs (yad (yac (ybT.ok n)) (yad (yac (yao.ok n)) (yad (yac (ycd.ok n)) (yad (yac (yay.ok n)) (yad (yac (yaH.ok n)) (yad (yac (yag.ok n)) (yav))))))) Tryz.func42 (by kernel_rfl) rfl
def en (n:Nat):Entry:=yaB 42 ia io (fRun (X n) n T Tryz.f42 ia io)
end ycX
end
end Go.Proofs.YtdlkpmohjhjmfaaGreatDoor

namespace Go.Proofs.YtdlkpmohjhjmfaaGreatDoor
open Go Go.Va Go.Proofs
noncomputable section
namespace yal
abbrev ia:List Ai:=[.dat yan]
abbrev io:List (Nat×Oi):=[(2,.dat .str)]
abbrev R:Type:=DOut ia io
def X (n:Nat):Ctx:=⟨⟨tab,[ydj.en n,ybx.en n,ybb.en n,yca.en n,yd8.en n,ydq.en n,ybO.en n,ydo.en n,ycK.en n,ycu.en n],0,[]⟩,194,bnOf 0 ia⟩
abbrev g1:List Si:=[.ref 1 1 yan,.dat 3 .str,.dat 4 .str,.dat 16 (.int .i64),.dat 17 .bool,.box 1 (.d yan)]
abbrev g2:List Si:=[.ref 1 1 yan,.dat 3 .str,.dat 4 .str,.dat 16 (.int .i64),.dat 49 .bool,.box 1 (.d yan)]
abbrev g3:List Si:=[.ref 1 1 yan,.dat 5 .str,.dat 6 (.int .i64),.box 1 (.d yan)]
abbrev g4:List Si:=[.dat 5 .str]
abbrev g5:List Si:=[]
def T:CT:=(.s .o (.s .o (.s .o (.s (.s .o (.b (.s .o (.r g1 (.c .o (.s .o (.c .o (.s .o (.c .o (.s .o (.c .o (.s .o (.r g2 (.c .o (.s .o (.c .o (.s .o (.c .o (.s .o (.c .o (.s .o (.c .o (.s .o (.c .o (.s .o (.c .o (.s .o (.c .o (.s .o (.c .o (.s .o (.c .o (.s .o (.c (.s .o (.s (.s .o (.b (.l g3 .o))) (.r g4 .o))) .o)))))))))))))))))))))))))))))))))) (.r g5 .o)))))
def J1 (n:Nat):ByteArray×ByteArray×Int×Bool×yaj×Unit→Option R:=jR (X n) n T (yaP Tryz.f48) (endK ia io) g1 [1,1,1,0,1,0,1] []
def J2 (n:Nat):ByteArray×ByteArray×Int×Bool×yaj×Unit→Option R:=jR (X n) n T (yaP Tryz.f48) (endK ia io) g2 [1,1,1,0,1,0,1,1,1,1,1,1,1,1,1] []
def J3 (n:Nat)(m:Nat):ByteArray×Int×yaj×Unit→Option R:=jL (X n) n T (yaP Tryz.f48) (endK ia io) g3 [1,1,1,0,1,0,1,1,1,1,1,1,1,1,1,1,1,1,1,1,1,1,1,1,1,1,1,1,1,1,1,1,1,1,1,0,1,0,1,0] [] m
def J4 (n:Nat):ByteArray×Unit→Option R:=jR (X n) n T (yaP Tryz.f48) (endK ia io) g4 [1,1,1,0,1,0,1,1,1,1,1,1,1,1,1,1,1,1,1,1,1,1,1,1,1,1,1,1,1,1,1,1,1,1,1,0,1,1] []
def J5 (n:Nat):Unit→Option R:=jR (X n) n T (yaP Tryz.f48) (endK ia io) g5 [1,1,1,1] []
def f (n:Nat)(t:yaj):Option R:=fRun (X n) n T Tryz.f48 ia io (t,())
theorem e0 (n:Nat)(t:yaj):f n t=bnd (ybb.f n t.2.2.2.1) λu1=>bnd (ybx.f n t.2.2.2.2.1) λu2=>gIf (u1.1.size+u2.1.size≤4611686018427387904) (bIf ((hide (t.1==(1:Int)))) (J1 n (u1.1,(u1.1++u2.1),t.1,true,t,())) (J1 n (u1.1,(u1.1++u2.1),t.1,(hide (t.1==(3:Int))),t,()))):=(yae _).trans (by kernel_rfl)
theorem e1 (n:Nat)(r:ByteArray)(r':ByteArray)(t16:Int)(t17:Bool)(o:yaj):J1 n (r,r',t16,t17,o,())=bIf (t17) (bnd (ydo.f n o.2.2.2.2.2.2.2.2.2.1) λu1=>some (u1.1,())) (bIf ((hide (t16==(4:Int)))) (bnd (ycK.f n o.2.2.2.2.2.2.2.2.2.2.1) λu2=>some (u2.1,())) (bIf ((hide (t16==(5:Int)))) (bnd (ycu.f n o.2.2.2.2.2.2.2.2.2.2.2.1) λu3=>some (u3.1,())) (bIf ((hide (t16==(6:Int)))) (bnd (ybb.f n (yaT o.2.2.2.2.2.1)) λu4=>gIf (r.size+u4.1.size≤4611686018427387904) (bnd (ybO.f n o.2.2.2.2.2.2.1) λu5=>gIf ((r++u4.1).size+u5.1.size≤4611686018427387904) (bnd (ydq.f n o.2.2.2.2.2.2.2.1) λu6=>gIf (((r++u4.1)++u5.1).size+u6.1.size≤4611686018427387904) (some ((((r++u4.1)++u5.1)++u6.1),()))))) (bIf ((hide (t16==(7:Int)))) (J2 n (r,r',t16,true,o,())) (J2 n (r,r',t16,(hide (t16==(8:Int))),o,())))))):=(yae _).trans (by kernel_rfl)
theorem e2 (n:Nat)(r:ByteArray)(r':ByteArray)(t16:Int)(t49:Bool)(o:yaj):J2 n (r,r',t16,t49,o,())=bIf (t49) (some (r',())) (bIf ((hide (t16==(9:Int)))) (some (r,())) (bIf ((hide (t16==(10:Int)))) (bnd (yca.f n o.2.2.2.2.2.2.2.2.1) λu1=>gIf (r'.size+u1.1.size≤4611686018427387904) (some ((r'++u1.1),()))) (bIf ((hide (t16==(11:Int)))) (bnd (ydq.f n o.2.2.2.2.2.2.2.1) λu2=>gIf (r'.size+u2.1.size≤4611686018427387904) (bnd (yca.f n o.2.2.2.2.2.2.2.2.1) λu3=>gIf ((r'++u2.1).size+u3.1.size≤4611686018427387904) (some (((r'++u2.1)++u3.1),())))) (bIf ((hide (t16==(12:Int)))) (bnd (ydq.f n o.2.2.2.2.2.2.2.1) λu4=>gIf (r'.size+u4.1.size≤4611686018427387904) (some ((r'++u4.1),()))) (bIf ((hide (t16==(13:Int)))) (bnd (ybO.f n o.2.2.2.2.2.2.1) λu5=>gIf (r'.size+u5.1.size≤4611686018427387904) (some ((r'++u5.1),()))) (bIf ((hide (t16==(14:Int)))) (bnd (ybb.f n o.2.2.2.2.2.2.2.2.2.2.2.2.2.2.2.1) λu6=>bnd (ybb.f n o.2.2.2.2.2.2.2.2.2.2.2.2.2.2.2.2.1) λu7=>gIf (u6.1.size+u7.1.size≤4611686018427387904) (bnd (ybb.f n o.2.2.2.2.2.2.2.2.2.2.2.2.2.2.1) λu8=>gIf ((u6.1++u7.1).size+u8.1.size≤4611686018427387904) (bnd (ydj.f n o.2.2.2.2.2.2.2.2.2.2.2.2.2.2.2.2.2.2.1) λu9=>gIf (((u6.1++u7.1)++u8.1).size+u9.1.size≤4611686018427387904) (some ((((u6.1++u7.1)++u8.1)++u9.1),()))))) (bIf ((hide (t16==(15:Int)))) (bnd (ybb.f n o.2.2.2.2.2.2.2.2.2.2.2.2.2.2.2.1) λu10=>bnd (ybb.f n o.2.2.2.2.2.2.2.2.2.2.2.2.2.2.2.2.2.1.2.1) λu11=>gIf (u10.1.size+u11.1.size≤4611686018427387904) (bnd (ybx.f n o.2.2.2.2.2.2.2.2.2.2.2.2.2.2.2.2.2.1.2.2.1) λu12=>gIf ((u10.1++u11.1).size+u12.1.size≤4611686018427387904) (bnd (ydj.f n o.2.2.2.2.2.2.2.2.2.2.2.2.2.2.2.2.2.2.1) λu13=>gIf (((u10.1++u11.1)++u12.1).size+u13.1.size≤4611686018427387904) (some ((((u10.1++u11.1)++u12.1)++u13.1),()))))) (bIf ((hide (t16==(16:Int)))) (bnd (ybO.f n o.2.2.2.2.2.2.1) λu14=>gIf (r.size+u14.1.size≤4611686018427387904) (some ((r++u14.1),()))) (bIf ((hide (t16==(17:Int)))) (bnd (ybx.f n o.2.2.2.2.1) λu15=>bnd (ydj.f n o.2.2.2.2.2.2.2.2.2.2.2.2.1) λu16=>gIf (u15.1.size+u16.1.size≤4611686018427387904) (bnd (ybb.f n (yaT o.2.2.2.2.2.1)) λu17=>gIf ((u15.1++u16.1).size+u17.1.size≤4611686018427387904) (some (((u15.1++u16.1)++u17.1),())))) (bIf ((hide (t16==(18:Int)))) (bnd (ybx.f n o.2.2.2.2.1) λu18=>bnd (ydj.f n ((o.2.2.2.2.2.2.2.2.2.2.2.2.2.1.length:Nat):Int)) λu19=>gIf (u18.1.size+u19.1.size≤4611686018427387904) (J3 n n ((u18.1++u19.1),0,o,()))) (bIf ((hide (t16==(19:Int)))) (bnd (ybx.f n o.2.2.2.2.1) λu20=>some (u20.1,())) (bIf ((hide (t16==(20:Int)))) (bnd (ybb.f n o.2.2.2.2.2.2.2.2.2.2.2.2.2.2.2.2.2.1.1) λu21=>gIf (r.size+u21.1.size≤4611686018427387904) (bnd (ybb.f n o.2.2.2.2.2.2.2.2.2.2.2.2.2.2.2.2.2.1.2.1) λu22=>gIf ((r++u21.1).size+u22.1.size≤4611686018427387904) (bnd (ybx.f n o.2.2.2.2.2.2.2.2.2.2.2.2.2.2.2.2.2.1.2.2.1) λu23=>gIf (((r++u21.1)++u22.1).size+u23.1.size≤4611686018427387904) (some ((((r++u21.1)++u22.1)++u23.1),()))))) (J5 n (())))))))))))))):=(yae _).trans (by kernel_rfl)
theorem e3 (n m:Nat)(a:ByteArray)(y_:Int)(o:yaj):J3 n (m+1) (a,y_,o,())=bIf ((hide (decide (y_<((o.2.2.2.2.2.2.2.2.2.2.2.2.2.1.length:Nat):Int))))) (gIf (0≤y_∧y_<((o.2.2.2.2.2.2.2.2.2.2.2.2.2.1.length:Nat):Int)) (bnd (yd8.f n (List.getD o.2.2.2.2.2.2.2.2.2.2.2.2.2.1 y_.toNat 0)) λu1=>gIf (a.size+u1.1.size≤4611686018427387904) (J3 n m ((a++u1.1),(IntKind.i64.wrap (y_+(1:Int))),o,())))) (J4 n (a,())):=(yae _).trans (by kernel_rfl)
theorem e4 (n:Nat)(a:ByteArray):J4 n (a,())=some (a,()):=(yae _).trans (by kernel_rfl)
theorem e5 (n:Nat):J5 n (())=some ((⟨#[]⟩:ByteArray),()):=(yae _).trans (by kernel_rfl)
theorem ok (n:Nat):FnOk Tryz.prog 48 ia io (fRun (X n) n T Tryz.f48 ia io):=yaG mixed tabIs (yad (yac (ydj.ok n)) (yad (yac (ybx.ok n)) (yad (yac (ybb.ok n)) (yad (yac (yca.ok n)) (yad (yac (yd8.ok n)) (yad (yac (ydq.ok n)) (yad (yac (ybO.ok n)) (yad (yac (ydo.ok n)) (yad (yac (ycK.ok n)) (yad (yac (ycu.ok n)) (yav))))))))))) Tryz.func48 (by kernel_rfl) rfl
def en (n:Nat):Entry:=yaB 48 ia io (fRun (X n) n T Tryz.f48 ia io)
end yal
end
end Go.Proofs.YtdlkpmohjhjmfaaGreatDoor

namespace Go.Proofs.YtdlkpmohjhjmfaaGreatDoor
open Go Go.Va Go.Proofs
noncomputable section
namespace yep
abbrev ia:List Ai:=[.dat yan]
abbrev io:List (Nat×Oi):=[(2,.dat .str),(3,.dat (.int .i64))]
abbrev R:Type:=DOut ia io
def X (n:Nat):Ctx:=⟨⟨tab,[ydj.en n,ybb.en n,ybZ.en n,yal.en n],0,[]⟩,27,bnOf 0 ia⟩
abbrev g1:List Si:=[.ref 1 1 yan,.dat 4 .str,.box 1 (.d yan)]
def T:CT:=(.s .o (.s .o (.s .o (.s .o (.r g1 .o)))))
def J1 (n:Nat):ByteArray×yaj×Unit→Option R:=jR (X n) n T (yaP Tryz.f23) (endK ia io) g1 [1,1,1,1] []
def f (n:Nat)(r:yaj):Option R:=fRun (X n) n T Tryz.f23 ia io (r,())
theorem e0 (n:Nat)(r:yaj):f n r=bnd (ybZ.f n r) λu1=>bIf ((!u1.1)) (some ((⟨#[]⟩:ByteArray),2,())) (bnd (ydj.f n r.1) λu2=>bnd (ybb.f n r.2.1) λu3=>gIf (u2.1.size+u3.1.size≤4611686018427387904) (bIf ((hide (decide (r.1<(21:Int))))) (bnd (ybb.f n r.2.2.1) λu4=>gIf ((u2.1++u3.1).size+u4.1.size≤4611686018427387904) (J1 n (((u2.1++u3.1)++u4.1),r,()))) (J1 n ((u2.1++u3.1),r,())))):=(yae _).trans (by kernel_rfl)
theorem e1 (n:Nat)(s_:ByteArray)(r:yaj):J1 n (s_,r,())=bnd (yal.f n r) λu1=>gIf (s_.size+u1.1.size≤4611686018427387904) (some ((s_++u1.1),0,())):=(yae _).trans (by kernel_rfl)
theorem ok (n:Nat):FnOk Tryz.prog 23 ia io (fRun (X n) n T Tryz.f23 ia io):=yaG mixed tabIs (yad (yac (ydj.ok n)) (yad (yac (ybb.ok n)) (yad (yac (ybZ.ok n)) (yad (yac (yal.ok n)) (yav))))) Tryz.func23 (by kernel_rfl) rfl
def en (n:Nat):Entry:=yaB 23 ia io (fRun (X n) n T Tryz.f23 ia io)
end yep
end
end Go.Proofs.YtdlkpmohjhjmfaaGreatDoor

namespace Go.Proofs.YtdlkpmohjhjmfaaGreatDoor
open Go Go.Va Go.Proofs
noncomputable section
namespace ye3
abbrev ia:List Ai:=[.dat (.slice (.int .u8))]
abbrev io:List (Nat×Oi):=[(2,.new 0 (.d yaK))]
abbrev R:Type:=DOut ia io
def X (n:Nat):Ctx:=⟨⟨tab,[yb3.en n],0,[]⟩,7,bnOf 0 ia⟩
def T:CT := .o
def f (n:Nat)(b:List (Int)):Option R:=fRun (X n) n T Tryz.f204 ia io (b,())
theorem e0 (n:Nat)(b:List (Int)):f n b=bnd (yb3.f n b) λu1=>some ((u1.1,(0,())),()):=(yae _).trans (by kernel_rfl)
theorem ok (n:Nat):FnOk Tryz.prog 204 ia io (fRun (X n) n T Tryz.f204 ia io):=yaG mixed tabIs (yad (yac (yb3.ok n)) (yav)) Tryz.func204 (by kernel_rfl) rfl
def en (n:Nat):Entry:=yaB 204 ia io (fRun (X n) n T Tryz.f204 ia io)
end ye3
end
end Go.Proofs.YtdlkpmohjhjmfaaGreatDoor

namespace Go.Proofs.YtdlkpmohjhjmfaaGreatDoor
open Go Go.Va Go.Proofs
noncomputable section
namespace ydA
abbrev ia:List Ai:=[.dat (.slice (.int .u8))]
abbrev io:List (Nat×Oi):=[(2,.newc 1 (.d yaK))]
abbrev R:Type:=DOut ia io
def X (n:Nat):Ctx:=⟨⟨tab,[ye3.en n],0,[]⟩,6,bnOf 0 ia⟩
def T:CT := .o
def f (n:Nat)(b:List (Int)):Option R:=fRun (X n) n T Tryz.f153 ia io (b,())
theorem e0 (n:Nat)(b:List (Int)):f n b=bnd (ye3.f n b) λu1=>some (u1.1,()):=(yae _).trans (by kernel_rfl)
theorem ok (n:Nat):FnOk Tryz.prog 153 ia io (fRun (X n) n T Tryz.f153 ia io):=yaG mixed tabIs (yad (yac (ye3.ok n)) (yav)) Tryz.func153 (by kernel_rfl) rfl
def en (n:Nat):Entry:=yaB 153 ia io (fRun (X n) n T Tryz.f153 ia io)
end ydA
end
end Go.Proofs.YtdlkpmohjhjmfaaGreatDoor

namespace Go.Proofs.YtdlkpmohjhjmfaaGreatDoor
open Go Go.Va Go.Proofs
noncomputable section
namespace ycO
abbrev ia:List Ai:=[.fn (.str 2) [(.d yaK)]]
abbrev io:List (Nat×Oi):=[(2,.val (.r 0 (.int .u8)))]
abbrev R:Type:=DOut ia io
def X (n:Nat):Ctx:=⟨⟨tab,[yax.en n],0,[]⟩,12,bnOf 0 ia⟩
def T:CT := .o
def f (n:Nat)(rc0:yam):Option R:=fRun (X n) n T Tryz.f210 ia io (rc0,())
theorem e0 (n:Nat)(rc0:yam):f n rc0=bnd (yax.f n rc0) λu1=>bIf ((hide (!eqS u1.1 (⟨#[]⟩:ByteArray)))) (some ((ybQ u1.1),u1.2.1,())) (some ([],u1.2.1,())):=(yae _).trans (by kernel_rfl)
theorem ok (n:Nat):FnOk Tryz.prog 210 ia io (fRun (X n) n T Tryz.f210 ia io):=yaG mixed tabIs (yad (yac (yax.ok n)) (yav)) Tryz.func210 (by kernel_rfl) rfl
def en (n:Nat):Entry:=yaB 210 ia io (fRun (X n) n T Tryz.f210 ia io)
end ycO
end
end Go.Proofs.YtdlkpmohjhjmfaaGreatDoor

namespace Go.Proofs.YtdlkpmohjhjmfaaGreatDoor
open Go Go.Va Go.Proofs
noncomputable section
namespace yai
abbrev ia:List Ai:=[.fn (.str 2) [(.d yaK)],.ptr (.p (.d (.int .i64)) (.p (.d .str) (.p (.d .str) (.p (.d .str) (.p (.d (.int .u64)) (.p (.r 0 (.int .u8)) (.p (.r 0 yaw) (.p (.d yaN) (.p (.d .bool) (.p (.d yaA) (.p (.r 0 yaC) (.p (.r 0 yaD) (.p (.d (.int .i64)) (.p (.r 0 (.int .i64)) (.d (.pair .str (.pair .str (.pair .str (.pair yaY (.pair (.int .i64) .unit))))))))))))))))))))]
abbrev io:List (Nat×Oi):=[]
abbrev R:Type:=DOut ia io
def X (n:Nat):Ctx:=⟨⟨tab,[yaQ.en n,yax.en n,yaZ.en n],0,[]⟩,52,bnOf 0 ia⟩
abbrev g1:List Si:=[.ref 1 502000 yan,.ref 2 2 ybN,.box 2 (.p (.p (.al 500000 yaK) (.d .unit)) (.d .unit)),.box 500000 (.d yaK),.box 502000 (.p (.d (.int .i64)) (.p (.d .str) (.p (.d .str) (.p (.d .str) (.p (.d (.int .u64)) (.p (.r 100000502000000 (.int .u8)) (.p (.r 100000502000001 yaw) (.p (.d yaN) (.p (.d .bool) (.p (.d yaA) (.p (.r 100000502000002 yaC) (.p (.r 100000502000003 yaD) (.p (.d (.int .i64)) (.p (.r 100000502000004 (.int .i64)) (.d (.pair .str (.pair .str (.pair .str (.pair yaY (.pair (.int .i64) .unit))))))))))))))))))))]
def T:CT:=(.s .o (.s .o (.s .o (.r g1 .o))))
def J1 (n:Nat):ya5×yam×yaj×Unit→Option R:=jR (X n) n T (yaP Tryz.f214) (endK ia io) g1 [1,1,1] []
def f (n:Nat)(rc0:yam)(out:yaj):Option R:=fRun (X n) n T Tryz.f214 ia io (rc0,out,())
theorem e0 (n:Nat)(rc0:yam)(out:yaj):f n rc0 out=bnd (yax.f n rc0) λu1=>bIf ((hide (out.1==(14:Int)))) (bnd (yax.f n u1.2.1) λu2=>bnd (yax.f n u2.2.1) λu3=>J1 n ((((),()),()),u3.2.1,(out.1,(out.2.1,(out.2.2.1,(out.2.2.2.1,(out.2.2.2.2.1,(out.2.2.2.2.2.1,(out.2.2.2.2.2.2.1,(out.2.2.2.2.2.2.2.1,(out.2.2.2.2.2.2.2.2.1,(out.2.2.2.2.2.2.2.2.2.1,(out.2.2.2.2.2.2.2.2.2.2.1,(out.2.2.2.2.2.2.2.2.2.2.2.1,(out.2.2.2.2.2.2.2.2.2.2.2.2.1,(out.2.2.2.2.2.2.2.2.2.2.2.2.2.1,(u3.1,(u1.1,(u2.1,out.2.2.2.2.2.2.2.2.2.2.2.2.2.2.2.2.2))))))))))))))))),())) (bnd (yax.f n u1.2.1) λu4=>bnd (yaZ.f n u4.2.1) λu5=>J1 n ((((),()),()),u5.2.1,(out.1,(out.2.1,(out.2.2.1,(out.2.2.2.1,(out.2.2.2.2.1,(out.2.2.2.2.2.1,(out.2.2.2.2.2.2.1,(out.2.2.2.2.2.2.2.1,(out.2.2.2.2.2.2.2.2.1,(out.2.2.2.2.2.2.2.2.2.1,(out.2.2.2.2.2.2.2.2.2.2.1,(out.2.2.2.2.2.2.2.2.2.2.2.1,(out.2.2.2.2.2.2.2.2.2.2.2.2.1,(out.2.2.2.2.2.2.2.2.2.2.2.2.2.1,(out.2.2.2.2.2.2.2.2.2.2.2.2.2.2.1,(u1.1,(out.2.2.2.2.2.2.2.2.2.2.2.2.2.2.2.2.1,((out.2.2.2.2.2.2.2.2.2.2.2.2.2.2.2.2.2.1.1,(u4.1,(u5.1,out.2.2.2.2.2.2.2.2.2.2.2.2.2.2.2.2.2.1.2.2.2))),out.2.2.2.2.2.2.2.2.2.2.2.2.2.2.2.2.2.2)))))))))))))))))),())):=(yae _).trans (by kernel_rfl)
theorem e1 (n:Nat)(r:ya5)(b500000:yam)(out:yaj):J1 n (r,b500000,out,())=bnd (yaQ.f n b500000) λu1=>some (u1.2.1,(out.1,(out.2.1,(out.2.2.1,(out.2.2.2.1,(out.2.2.2.2.1,(out.2.2.2.2.2.1,(out.2.2.2.2.2.2.1,(out.2.2.2.2.2.2.2.1,(out.2.2.2.2.2.2.2.2.1,(out.2.2.2.2.2.2.2.2.2.1,(out.2.2.2.2.2.2.2.2.2.2.1,(out.2.2.2.2.2.2.2.2.2.2.2.1,(out.2.2.2.2.2.2.2.2.2.2.2.2.1,(out.2.2.2.2.2.2.2.2.2.2.2.2.2.1,(out.2.2.2.2.2.2.2.2.2.2.2.2.2.2.1,(out.2.2.2.2.2.2.2.2.2.2.2.2.2.2.2.1,(out.2.2.2.2.2.2.2.2.2.2.2.2.2.2.2.2.1,(out.2.2.2.2.2.2.2.2.2.2.2.2.2.2.2.2.2.1,(u1.1,out.2.2.2.2.2.2.2.2.2.2.2.2.2.2.2.2.2.2.2))))))))))))))))))),()):=(yae _).trans (by kernel_rfl)
theorem ok (n:Nat):FnOk Tryz.prog 214 ia io (fRun (X n) n T Tryz.f214 ia io):=yaG mixed tabIs (yad (yac (yaQ.ok n)) (yad (yac (yax.ok n)) (yad (yac (yaZ.ok n)) (yav)))) Tryz.func214 (by kernel_rfl) rfl
def en (n:Nat):Entry:=yaB 214 ia io (fRun (X n) n T Tryz.f214 ia io)
end yai
end
end Go.Proofs.YtdlkpmohjhjmfaaGreatDoor

namespace Go.Proofs.YtdlkpmohjhjmfaaGreatDoor
open Go Go.Va Go.Proofs
noncomputable section
namespace ybe
abbrev ia:List Ai:=[.fn (.str 2) [(.d yaK)]]
abbrev io:List (Nat×Oi):=[(2,.val (.r 0 (.int .i64)))]
abbrev R:Type:=DOut ia io
def X (n:Nat):Ctx:=⟨⟨tab,[yaR.en n,yce.en n],0,[]⟩,19,bnOf 0 ia⟩
abbrev g1:List Si:=[.ref 1 1 ybN,.val 3 (.r 200300 (.int .i64)),.dat 7 (.int .i64),.dat 8 (.int .i64),.box 1 (.p (.p (.al 500000 yaK) (.d .unit)) (.d .unit)),.box 500000 (.d yaK)]
abbrev g2:List Si:=[.val 3 (.r 200300 (.int .i64)),.box 500000 (.d yaK)]
def T:CT:=(.s .o (.s .o (.s (.s .o (.b (.l g1 .o))) (.r g2 .o))))
def J1 (n:Nat)(m:Nat):(List (Int))×Int×Int×ya5×yam×Unit→Option R:=jL (X n) n T (yaP Tryz.f216) (endK ia io) g1 [1,1,0,1,0] [] m
def J2 (n:Nat):(List (Int))×yam×Unit→Option R:=jR (X n) n T (yaP Tryz.f216) (endK ia io) g2 [1,1,1] []
def f (n:Nat)(rc0:yam):Option R:=fRun (X n) n T Tryz.f216 ia io (rc0,())
theorem e0 (n:Nat)(rc0:yam):f n rc0=bnd (yaR.f n rc0 16) λu1=>J1 n n ([],u1.1,0,(((),()),()),u1.2.1,()):=(yae _).trans (by kernel_rfl)
theorem e1 (n m:Nat)(out:List (Int))(t7:Int)(t8:Int)(r:ya5)(b500000:yam):J1 n (m+1) (out,t7,t8,r,b500000,())=bIf ((hide (decide (t8<t7)))) (bnd (yce.f n b500000) λu1=>gIf ((out.length+1)*8≤70368744177664) (J1 n m ((out++([u1.1]:List (Int))),t7,(IntKind.i64.wrap (t8+(1:Int))),(((),r.1.2),r.2),u1.2.1,()))) (J2 n (out,b500000,())):=(yae _).trans (by kernel_rfl)
theorem e2 (n:Nat)(out:List (Int))(b500000:yam):J2 n (out,b500000,())=some (out,b500000,()):=(yae _).trans (by kernel_rfl)
theorem ok (n:Nat):FnOk Tryz.prog 216 ia io (fRun (X n) n T Tryz.f216 ia io):=yaG mixed tabIs (yad (yac (yaR.ok n)) (yad (yac (yce.ok n)) (yav))) Tryz.func216 (by kernel_rfl) rfl
def en (n:Nat):Entry:=yaB 216 ia io (fRun (X n) n T Tryz.f216 ia io)
end ybe
end
end Go.Proofs.YtdlkpmohjhjmfaaGreatDoor

namespace Go.Proofs.YtdlkpmohjhjmfaaGreatDoor
open Go Go.Va Go.Proofs
noncomputable section
namespace yaF
abbrev ia:List Ai:=[.fn (.str 2) [(.d yaK)],.ptr (.p (.d (.int .i64)) (.p (.d .str) (.p (.d .str) (.p (.d .str) (.p (.d (.int .u64)) (.p (.r 0 (.int .u8)) (.p (.r 0 yaw) (.p (.d yaN) (.p (.d .bool) (.p (.d yaA) (.p (.r 0 yaC) (.p (.r 0 yaD) (.p (.d (.int .i64)) (.p (.r 0 (.int .i64)) (.d (.pair .str (.pair .str (.pair .str (.pair yaY (.pair (.int .i64) .unit))))))))))))))))))))]
abbrev io:List (Nat×Oi):=[]
abbrev R:Type:=DOut ia io
def X (n:Nat):Ctx:=⟨⟨tab,[yax.en n,yaZ.en n],0,[]⟩,18,bnOf 0 ia⟩
def T:CT := .o
def f (n:Nat)(rc0:yam)(out:yaj):Option R:=fRun (X n) n T Tryz.f237 ia io (rc0,out,())
theorem e0 (n:Nat)(rc0:yam)(out:yaj):f n rc0 out=bnd (yax.f n rc0) λu1=>bnd (yaZ.f n u1.2.1) λu2=>some (u2.2.1,(out.1,(out.2.1,(out.2.2.1,(u1.1,(u2.1,out.2.2.2.2.2))))),()):=(yae _).trans (by kernel_rfl)
theorem ok (n:Nat):FnOk Tryz.prog 237 ia io (fRun (X n) n T Tryz.f237 ia io):=yaG mixed tabIs (yad (yac (yax.ok n)) (yad (yac (yaZ.ok n)) (yav))) Tryz.func237 (by kernel_rfl) rfl
def en (n:Nat):Entry:=yaB 237 ia io (fRun (X n) n T Tryz.f237 ia io)
end yaF
end
end Go.Proofs.YtdlkpmohjhjmfaaGreatDoor

namespace Go.Proofs.YtdlkpmohjhjmfaaGreatDoor
open Go Go.Va Go.Proofs
noncomputable section
namespace yar
abbrev ia:List Ai:=[.fn (.str 2) [(.d yaK)],.ptr (.p (.d (.int .i64)) (.p (.d .str) (.p (.d .str) (.p (.d .str) (.p (.d (.int .u64)) (.p (.r 0 (.int .u8)) (.p (.r 0 yaw) (.p (.d yaN) (.p (.d .bool) (.p (.d yaA) (.p (.r 0 yaC) (.p (.r 0 yaD) (.p (.d (.int .i64)) (.p (.r 0 (.int .i64)) (.d (.pair .str (.pair .str (.pair .str (.pair yaY (.pair (.int .i64) .unit))))))))))))))))))))]
abbrev io:List (Nat×Oi):=[]
abbrev R:Type:=DOut ia io
def X (n:Nat):Ctx:=⟨⟨tab,[yaW.en n,ybE.en n,ya0.en n,yaF.en n],0,[]⟩,51,bnOf 0 ia⟩
def T:CT := .o
def f (n:Nat)(rc0:yam)(out:yaj):Option R:=fRun (X n) n T Tryz.f213 ia io (rc0,out,())
theorem e0 (n:Nat)(rc0:yam)(out:yaj):f n rc0 out=bnd (yaF.f n rc0 out) λu1=>bIf ((hide (u1.2.1.1==(10:Int)))) (bnd (ya0.f n u1.1) λu2=>some (u2.2.1,(u1.2.1.1,(u1.2.1.2.1,(u1.2.1.2.2.1,(u1.2.1.2.2.2.1,(u1.2.1.2.2.2.2.1,(u1.2.1.2.2.2.2.2.1,(u1.2.1.2.2.2.2.2.2.1,(u1.2.1.2.2.2.2.2.2.2.1,(u2.1,u1.2.1.2.2.2.2.2.2.2.2.2))))))))),())) (bIf ((hide (u1.2.1.1==(11:Int)))) (bnd (ybE.f n u1.1) λu3=>bnd (ya0.f n u3.2.1) λu4=>some (u4.2.1,(u1.2.1.1,(u1.2.1.2.1,(u1.2.1.2.2.1,(u1.2.1.2.2.2.1,(u1.2.1.2.2.2.2.1,(u1.2.1.2.2.2.2.2.1,(u1.2.1.2.2.2.2.2.2.1,(u3.1,(u4.1,u1.2.1.2.2.2.2.2.2.2.2.2))))))))),())) (bIf ((hide (u1.2.1.1==(12:Int)))) (bnd (ybE.f n u1.1) λu5=>some (u5.2.1,(u1.2.1.1,(u1.2.1.2.1,(u1.2.1.2.2.1,(u1.2.1.2.2.2.1,(u1.2.1.2.2.2.2.1,(u1.2.1.2.2.2.2.2.1,(u1.2.1.2.2.2.2.2.2.1,(u5.1,u1.2.1.2.2.2.2.2.2.2.2)))))))),())) (bIf ((hide (u1.2.1.1==(13:Int)))) (bnd (yaW.f n u1.1) λu6=>some (u6.2.1,(u1.2.1.1,(u1.2.1.2.1,(u1.2.1.2.2.1,(u1.2.1.2.2.2.1,(u1.2.1.2.2.2.2.1,(u1.2.1.2.2.2.2.2.1,(u6.1,u1.2.1.2.2.2.2.2.2.2))))))),())) (some (u1.1,u1.2.1,()))))):=(yae _).trans (by kernel_rfl)
theorem ok (n:Nat):FnOk Tryz.prog 213 ia io (fRun (X n) n T Tryz.f213 ia io):=yaG mixed tabIs (yad (yac (yaW.ok n)) (yad (yac (ybE.ok n)) (yad (yac (ya0.ok n)) (yad (yac (yaF.ok n)) (yav))))) Tryz.func213 (by kernel_rfl) rfl
def en (n:Nat):Entry:=yaB 213 ia io (fRun (X n) n T Tryz.f213 ia io)
end yar
end
end Go.Proofs.YtdlkpmohjhjmfaaGreatDoor

namespace Go.Proofs.YtdlkpmohjhjmfaaGreatDoor
open Go Go.Va Go.Proofs
noncomputable section
namespace yaa
abbrev ia:List Ai:=[.fn (.str 2) [(.d yaK)],.ptr (.p (.d (.int .i64)) (.p (.d .str) (.p (.d .str) (.p (.d .str) (.p (.d (.int .u64)) (.p (.r 0 (.int .u8)) (.p (.r 0 yaw) (.p (.d yaN) (.p (.d .bool) (.p (.d yaA) (.p (.r 0 yaC) (.p (.r 0 yaD) (.p (.d (.int .i64)) (.p (.r 0 (.int .i64)) (.d (.pair .str (.pair .str (.pair .str (.pair yaY (.pair (.int .i64) .unit))))))))))))))))))))]
abbrev io:List (Nat×Oi):=[]
abbrev R:Type:=DOut ia io
def X (n:Nat):Ctx:=⟨⟨tab,[yaQ.en n,yax.en n,yco.en n,ya7.en n,ya3.en n,ycO.en n,yaW.en n,ybE.en n,yar.en n,yai.en n,yaZ.en n,ybe.en n],0,[]⟩,175,bnOf 0 ia⟩
abbrev g1:List Si:=[.ref 1 502000 yan,.ref 2 2 ybN,.dat 7 (.int .i64),.dat 8 .bool,.box 2 (.p (.p (.al 500000 yaK) (.d .unit)) (.d .unit)),.box 500000 (.d yaK),.box 502000 (.p (.d (.int .i64)) (.p (.d .str) (.p (.d .str) (.p (.d .str) (.p (.d (.int .u64)) (.p (.r 100000502000000 (.int .u8)) (.p (.r 100000502000001 yaw) (.p (.d yaN) (.p (.d .bool) (.p (.d yaA) (.p (.r 100000502000002 yaC) (.p (.r 100000502000003 yaD) (.p (.d (.int .i64)) (.p (.r 100000502000004 (.int .i64)) (.d (.pair .str (.pair .str (.pair .str (.pair yaY (.pair (.int .i64) .unit))))))))))))))))))))]
abbrev g2:List Si:=[.ref 1 502000 yan,.ref 2 2 ybN,.dat 7 (.int .i64),.dat 59 .bool,.box 2 (.p (.p (.al 500000 yaK) (.d .unit)) (.d .unit)),.box 500000 (.d yaK),.box 502000 (.p (.d (.int .i64)) (.p (.d .str) (.p (.d .str) (.p (.d .str) (.p (.d (.int .u64)) (.p (.r 100000502000000 (.int .u8)) (.p (.r 100000502000001 yaw) (.p (.d yaN) (.p (.d .bool) (.p (.d yaA) (.p (.r 100000502000002 yaC) (.p (.r 100000502000003 yaD) (.p (.d (.int .i64)) (.p (.r 100000502000004 (.int .i64)) (.d (.pair .str (.pair .str (.pair .str (.pair yaY (.pair (.int .i64) .unit))))))))))))))))))))]
abbrev g3:List Si:=[.ref 1 502000 yan,.ref 2 2 ybN,.dat 7 (.int .i64),.dat 78 .bool,.box 2 (.p (.p (.al 500000 yaK) (.d .unit)) (.d .unit)),.box 500000 (.d yaK),.box 502000 (.p (.d (.int .i64)) (.p (.d .str) (.p (.d .str) (.p (.d .str) (.p (.d (.int .u64)) (.p (.r 100000502000000 (.int .u8)) (.p (.r 100000502000001 yaw) (.p (.d yaN) (.p (.d .bool) (.p (.d yaA) (.p (.r 100000502000002 yaC) (.p (.r 100000502000003 yaD) (.p (.d (.int .i64)) (.p (.r 100000502000004 (.int .i64)) (.d (.pair .str (.pair .str (.pair .str (.pair yaY (.pair (.int .i64) .unit))))))))))))))))))))]
def T:CT:=(.s .o (.s .o (.b (.s .o (.r g1 (.c .o (.s .o (.c .o (.s .o (.c .o (.s .o (.c .o (.s .o (.r g2 (.c .o (.s .o (.c .o (.s .o (.r g3 .o)))))))))))))))))))
def J1 (n:Nat):Int×Bool×ya5×yam×yaj×Unit→Option R:=jR (X n) n T (yaP Tryz.f156) (endK ia io) g1 [1,1,0,1] []
def J2 (n:Nat):Int×Bool×ya5×yam×yaj×Unit→Option R:=jR (X n) n T (yaP Tryz.f156) (endK ia io) g2 [1,1,0,1,1,1,1,1,1,1,1,1] []
def J3 (n:Nat):Int×Bool×ya5×yam×yaj×Unit→Option R:=jR (X n) n T (yaP Tryz.f156) (endK ia io) g3 [1,1,0,1,1,1,1,1,1,1,1,1,1,1,1,1] []
def f (n:Nat)(tc0:yam)(o:yaj):Option R:=fRun (X n) n T Tryz.f156 ia io (tc0,o,())
theorem e0 (n:Nat)(tc0:yam)(o:yaj):f n tc0 o=bIf ((hide (o.1==(1:Int)))) (J1 n (o.1,true,(((),()),()),tc0,o,())) (J1 n (o.1,(hide (o.1==(3:Int))),(((),()),()),tc0,o,())):=(yae _).trans (by kernel_rfl)
theorem e1 (n:Nat)(t7:Int)(t8:Bool)(A:ya5)(b500000:yam)(o:yaj):J1 n (t7,t8,A,b500000,o,())=bIf (t8) (bnd (yco.f n b500000) λu1=>some (u1.2.1,(o.1,(o.2.1,(o.2.2.1,(o.2.2.2.1,(o.2.2.2.2.1,(o.2.2.2.2.2.1,(o.2.2.2.2.2.2.1,(o.2.2.2.2.2.2.2.1,(o.2.2.2.2.2.2.2.2.1,(u1.1,o.2.2.2.2.2.2.2.2.2.2)))))))))),())) (bIf ((hide (t7==(4:Int)))) (bnd (ya7.f n b500000) λu2=>some (u2.2.1,(o.1,(o.2.1,(o.2.2.1,(o.2.2.2.1,(o.2.2.2.2.1,(o.2.2.2.2.2.1,(o.2.2.2.2.2.2.1,(o.2.2.2.2.2.2.2.1,(o.2.2.2.2.2.2.2.2.1,(o.2.2.2.2.2.2.2.2.2.1,(u2.1,o.2.2.2.2.2.2.2.2.2.2.2))))))))))),())) (bIf ((hide (t7==(5:Int)))) (bnd (ya3.f n b500000) λu3=>some (u3.2.1,(o.1,(o.2.1,(o.2.2.1,(o.2.2.2.1,(o.2.2.2.2.1,(o.2.2.2.2.2.1,(o.2.2.2.2.2.2.1,(o.2.2.2.2.2.2.2.1,(o.2.2.2.2.2.2.2.2.1,(o.2.2.2.2.2.2.2.2.2.1,(o.2.2.2.2.2.2.2.2.2.2.1,(u3.1,o.2.2.2.2.2.2.2.2.2.2.2.2)))))))))))),())) (bIf ((hide (t7==(6:Int)))) (bnd (yax.f n b500000) λu4=>bnd (ycO.f n u4.2.1) λu5=>bnd (yaW.f n u5.2.1) λu6=>bnd (ybE.f n u6.2.1) λu7=>some (u7.2.1,(o.1,(o.2.1,(o.2.2.1,(u4.1,(o.2.2.2.2.1,(u5.1,(u6.1,(u7.1,o.2.2.2.2.2.2.2.2)))))))),())) (bIf ((hide (t7==(7:Int)))) (J2 n (t7,true,(((),A.1.2),A.2),b500000,o,())) (bIf ((hide (t7==(8:Int)))) (J2 n (t7,true,(((),A.1.2),A.2),b500000,o,())) (bIf ((hide (t7==(10:Int)))) (J2 n (t7,true,(((),A.1.2),A.2),b500000,o,())) (bIf ((hide (t7==(11:Int)))) (J2 n (t7,true,(((),A.1.2),A.2),b500000,o,())) (bIf ((hide (t7==(12:Int)))) (J2 n (t7,true,(((),A.1.2),A.2),b500000,o,())) (J2 n (t7,(hide (t7==(13:Int))),(((),A.1.2),A.2),b500000,o,())))))))))):=(yae _).trans (by kernel_rfl)
theorem e2 (n:Nat)(t7:Int)(t59:Bool)(A:ya5)(b500000:yam)(o:yaj):J2 n (t7,t59,A,b500000,o,())=bIf (t59) (bnd (yar.f n b500000 o) λu1=>some (u1.1,u1.2.1,())) (bIf ((hide (t7==(9:Int)))) (bnd (yax.f n b500000) λu2=>some (u2.2.1,(o.1,(o.2.1,(o.2.2.1,(u2.1,o.2.2.2.2)))),())) (bIf ((hide (t7==(14:Int)))) (J3 n (t7,true,(((),A.1.2),A.2),b500000,o,())) (J3 n (t7,(hide (t7==(15:Int))),(((),A.1.2),A.2),b500000,o,())))):=(yae _).trans (by kernel_rfl)
theorem e3 (n:Nat)(t7:Int)(t78:Bool)(A:ya5)(b500000:yam)(o:yaj):J3 n (t7,t78,A,b500000,o,())=bIf (t78) (bnd (yai.f n b500000 o) λu1=>some (u1.1,u1.2.1,())) (bIf ((hide (t7==(16:Int)))) (bnd (yax.f n b500000) λu2=>bnd (yaW.f n u2.2.1) λu3=>some (u3.2.1,(o.1,(o.2.1,(o.2.2.1,(u2.1,(o.2.2.2.2.1,(o.2.2.2.2.2.1,(u3.1,o.2.2.2.2.2.2.2))))))),())) (bIf ((hide (t7==(17:Int)))) (bnd (yaZ.f n b500000) λu4=>bnd (yaQ.f n u4.2.1) λu5=>bnd (ycO.f n u5.2.1) λu6=>some (u6.2.1,(o.1,(o.2.1,(o.2.2.1,(o.2.2.2.1,(u4.1,(u6.1,(o.2.2.2.2.2.2.1,(o.2.2.2.2.2.2.2.1,(o.2.2.2.2.2.2.2.2.1,(o.2.2.2.2.2.2.2.2.2.1,(o.2.2.2.2.2.2.2.2.2.2.1,(o.2.2.2.2.2.2.2.2.2.2.2.1,(u5.1,o.2.2.2.2.2.2.2.2.2.2.2.2.2))))))))))))),())) (bIf ((hide (t7==(18:Int)))) (bnd (yaZ.f n b500000) λu7=>bnd (ybe.f n u7.2.1) λu8=>some (u8.2.1,(o.1,(o.2.1,(o.2.2.1,(o.2.2.2.1,(u7.1,(o.2.2.2.2.2.1,(o.2.2.2.2.2.2.1,(o.2.2.2.2.2.2.2.1,(o.2.2.2.2.2.2.2.2.1,(o.2.2.2.2.2.2.2.2.2.1,(o.2.2.2.2.2.2.2.2.2.2.1,(o.2.2.2.2.2.2.2.2.2.2.2.1,(o.2.2.2.2.2.2.2.2.2.2.2.2.1,(u8.1,o.2.2.2.2.2.2.2.2.2.2.2.2.2.2)))))))))))))),())) (bIf ((hide (t7==(19:Int)))) (bnd (yaZ.f n b500000) λu9=>some (u9.2.1,(o.1,(o.2.1,(o.2.2.1,(o.2.2.2.1,(u9.1,o.2.2.2.2.2))))),())) (bIf ((hide (t7==(20:Int)))) (bnd (yax.f n b500000) λu10=>bnd (yax.f n u10.2.1) λu11=>bnd (yax.f n u11.2.1) λu12=>bnd (yaZ.f n u12.2.1) λu13=>some (u13.2.1,(o.1,(o.2.1,(o.2.2.1,(u10.1,(o.2.2.2.2.1,(o.2.2.2.2.2.1,(o.2.2.2.2.2.2.1,(o.2.2.2.2.2.2.2.1,(o.2.2.2.2.2.2.2.2.1,(o.2.2.2.2.2.2.2.2.2.1,(o.2.2.2.2.2.2.2.2.2.2.1,(o.2.2.2.2.2.2.2.2.2.2.2.1,(o.2.2.2.2.2.2.2.2.2.2.2.2.1,(o.2.2.2.2.2.2.2.2.2.2.2.2.2.1,(o.2.2.2.2.2.2.2.2.2.2.2.2.2.2.1,(o.2.2.2.2.2.2.2.2.2.2.2.2.2.2.2.1,(o.2.2.2.2.2.2.2.2.2.2.2.2.2.2.2.2.1,((u11.1,(u12.1,(u13.1,o.2.2.2.2.2.2.2.2.2.2.2.2.2.2.2.2.2.1.2.2.2))),o.2.2.2.2.2.2.2.2.2.2.2.2.2.2.2.2.2.2)))))))))))))))))),())) (some (b500000,o,()))))))):=(yae _).trans (by kernel_rfl)
theorem ok (n:Nat):FnOk Tryz.prog 156 ia io (fRun (X n) n T Tryz.f156 ia io):=yaG mixed tabIs (yad (yac (yaQ.ok n)) (yad (yac (yax.ok n)) (yad (yac (yco.ok n)) (yad (yac (ya7.ok n)) (yad (yac (ya3.ok n)) (yad (yac (ycO.ok n)) (yad (yac (yaW.ok n)) (yad (yac (ybE.ok n)) (yad (yac (yar.ok n)) (yad (yac (yai.ok n)) (yad (yac (yaZ.ok n)) (yad (yac (ybe.ok n)) (yav))))))))))))) Tryz.func156 (by kernel_rfl) rfl
def en (n:Nat):Entry:=yaB 156 ia io (fRun (X n) n T Tryz.f156 ia io)
end yaa
end
end Go.Proofs.YtdlkpmohjhjmfaaGreatDoor

namespace Go.Proofs.YtdlkpmohjhjmfaaGreatDoor
open Go Go.Va Go.Proofs
noncomputable section
namespace ybp
abbrev ia:List Ai:=[.dat (.slice (.int .u8))]
abbrev io:List (Nat×Oi):=[(2,.cel (.d yan)),(3,.dat (.int .i64))]
abbrev R:Type:=DOut ia io
def X (n:Nat):Ctx:=⟨⟨tab,[ycX.en n,ybn.en n,ydA.en n,yaQ.en n,yax.en n,yaa.en n,ydg.en n],0,[]⟩,56,bnOf 0 ia⟩
abbrev g1:List Si:=[.dat 0 (.slice (.int .u8)),.ref 2 2 yan,.ref 4 4 ybN,.ref 5 5 yan,.dat 27 .bool,.box 2 (.p (.d (.int .i64)) (.p (.d .str) (.p (.d .str) (.p (.d .str) (.p (.d (.int .u64)) (.p (.r 100000000002000 (.int .u8)) (.p (.r 100000000002001 yaw) (.p (.d yaN) (.p (.d .bool) (.p (.d yaA) (.p (.r 100000000002002 yaC) (.p (.r 100000000002003 yaD) (.p (.d (.int .i64)) (.p (.r 100000000002004 (.int .i64)) (.d (.pair .str (.pair .str (.pair .str (.pair yaY (.pair (.int .i64) .unit)))))))))))))))))))),.box 4 (.p (.p (.al 1500000000009 yaK) (.d .unit)) (.d .unit)),.box 5 (.p (.d (.int .i64)) (.p (.d .str) (.p (.d .str) (.p (.d .str) (.p (.d (.int .u64)) (.p (.r 100000000005000 (.int .u8)) (.p (.r 100000000005001 yaw) (.p (.d yaN) (.p (.d .bool) (.p (.d yaA) (.p (.r 100000000005002 yaC) (.p (.r 100000000005003 yaD) (.p (.d (.int .i64)) (.p (.r 100000000005004 (.int .i64)) (.d (.pair .str (.pair .str (.pair .str (.pair yaY (.pair (.int .i64) .unit)))))))))))))))))))),.box 1500000000009 (.d yaK)]
abbrev g2:List Si:=[.dat 0 (.slice (.int .u8)),.ref 2 2 yan,.ref 4 4 ybN,.ref 5 5 yan,.box 2 (.p (.d (.int .i64)) (.p (.d .str) (.p (.d .str) (.p (.d .str) (.p (.d (.int .u64)) (.p (.r 100000000002000 (.int .u8)) (.p (.r 100000000002001 yaw) (.p (.d yaN) (.p (.d .bool) (.p (.d yaA) (.p (.r 100000000002002 yaC) (.p (.r 100000000002003 yaD) (.p (.d (.int .i64)) (.p (.r 100000000002004 (.int .i64)) (.d (.pair .str (.pair .str (.pair .str (.pair yaY (.pair (.int .i64) .unit)))))))))))))))))))),.box 4 (.p (.p (.al 1500000000009 yaK) (.d .unit)) (.d .unit)),.box 5 (.p (.d (.int .i64)) (.p (.d .str) (.p (.d .str) (.p (.d .str) (.p (.d (.int .u64)) (.p (.r 100000000005000 (.int .u8)) (.p (.r 100000000005001 yaw) (.p (.d yaN) (.p (.d .bool) (.p (.d yaA) (.p (.r 100000000005002 yaC) (.p (.r 100000000005003 yaD) (.p (.d (.int .i64)) (.p (.r 100000000005004 (.int .i64)) (.d (.pair .str (.pair .str (.pair .str (.pair yaY (.pair (.int .i64) .unit)))))))))))))))))))),.box 1500000000009 (.d yaK)]
abbrev g3:List Si:=[.ref 2 2 yan,.ref 5 5 yan,.dat 53 .bool,.box 2 (.p (.d (.int .i64)) (.p (.d .str) (.p (.d .str) (.p (.d .str) (.p (.d (.int .u64)) (.p (.r 100000000002000 (.int .u8)) (.p (.r 100000000002001 yaw) (.p (.d yaN) (.p (.d .bool) (.p (.d yaA) (.p (.r 100000000002002 yaC) (.p (.r 100000000002003 yaD) (.p (.d (.int .i64)) (.p (.r 100000000002004 (.int .i64)) (.d (.pair .str (.pair .str (.pair .str (.pair yaY (.pair (.int .i64) .unit)))))))))))))))))))),.box 5 (.d yan)]
abbrev g4:List Si:=[.ref 2 2 yan,.ref 5 5 yan,.box 2 (.p (.d (.int .i64)) (.p (.d .str) (.p (.d .str) (.p (.d .str) (.p (.d (.int .u64)) (.p (.r 100000000002000 (.int .u8)) (.p (.r 100000000002001 yaw) (.p (.d yaN) (.p (.d .bool) (.p (.d yaA) (.p (.r 100000000002002 yaC) (.p (.r 100000000002003 yaD) (.p (.d (.int .i64)) (.p (.r 100000000002004 (.int .i64)) (.d (.pair .str (.pair .str (.pair .str (.pair yaY (.pair (.int .i64) .unit)))))))))))))))))))),.box 5 (.d yan)]
def T:CT:=(.s .o (.s .o (.s .o (.s .o (.s (.s .o (.r g1 .o)) (.r g2 (.s .o (.s .o (.s (.s .o (.s .o (.r g3 .o))) (.r g4 .o))))))))))
def J1 (n:Nat):(List (Int))×Bool×yaj×ya5×yaj×yam×Unit→Option R:=jR (X n) n T (yaP Tryz.f97) (endK ia io) g1 [1,1,1,1,0,1] []
def J2 (n:Nat):(List (Int))×yaj×ya5×yaj×yam×Unit→Option R:=jR (X n) n T (yaP Tryz.f97) (endK ia io) g2 [1,1,1,1,1] []
def J3 (n:Nat):Bool×yaj×yaj×Unit→Option R:=jR (X n) n T (yaP Tryz.f97) (endK ia io) g3 [1,1,1,1,1,1,1,0,1,1] []
def J4 (n:Nat):yaj×yaj×Unit→Option R:=jR (X n) n T (yaP Tryz.f97) (endK ia io) g4 [1,1,1,1,1,1,1,1] []
def f (n:Nat)(b:List (Int)):Option R:=fRun (X n) n T Tryz.f97 ia io (b,())
theorem e0 (n:Nat)(b:List (Int)):f n b=bnd (ydA.f n b) λu1=>bnd (yaQ.f n u1.1) λu2=>bnd (yax.f n u2.2.1) λu3=>bIf ((hide (u2.1 != (21:Int)))) (J1 n (b,(hide (u2.1 != (22:Int))),zq,(((),()),()),(u2.1,(u3.1,((⟨#[]⟩:ByteArray),((⟨#[]⟩:ByteArray),(0,([],([],((0,(0,(false,()))),(false,((0,(0,())),([],([],(0,([],((⟨#[]⟩:ByteArray),((⟨#[]⟩:ByteArray),((⟨#[]⟩:ByteArray),(((⟨#[]⟩:ByteArray),((⟨#[]⟩:ByteArray),(0,()))),(0,()))))))))))))))))))),u3.2.1,())) (J1 n (b,false,zq,(((),()),()),(u2.1,(u3.1,((⟨#[]⟩:ByteArray),((⟨#[]⟩:ByteArray),(0,([],([],((0,(0,(false,()))),(false,((0,(0,())),([],([],(0,([],((⟨#[]⟩:ByteArray),((⟨#[]⟩:ByteArray),((⟨#[]⟩:ByteArray),(((⟨#[]⟩:ByteArray),((⟨#[]⟩:ByteArray),(0,()))),(0,()))))))))))))))))))),u3.2.1,())):=(yae _).trans (by kernel_rfl)
theorem e1 (n:Nat)(b:List (Int))(t27:Bool)(b2:yaj)(r:ya5)(out:yaj)(b1500000000009:yam):J1 n (b,t27,b2,r,out,b1500000000009,())=bIf (t27) (bnd (yax.f n b1500000000009) λu1=>J2 n (b,b2,(((),r.1.2),r.2),(out.1,(out.2.1,(u1.1,out.2.2.2))),u1.2.1,())) (J2 n (b,b2,(((),r.1.2),r.2),out,b1500000000009,())):=(yae _).trans (by kernel_rfl)
theorem e2 (n:Nat)(b:List (Int))(b2:yaj)(r:ya5)(out:yaj)(b1500000000009:yam):J2 n (b,b2,r,out,b1500000000009,())=bnd (yaa.f n b1500000000009 out) λu1=>bnd (ydg.f n u1.1) λu2=>bIf ((hide (u2.1 != (0:Int)))) (some (zq,2,())) (bnd (ycX.f n u1.2.1) λu3=>bIf ((hide (u3.2.1 != (0:Int)))) (J3 n (true,b2,u1.2.1,())) (bnd (ybn.f n u3.1 b) λu4=>J3 n ((!u4.1),b2,u1.2.1,()))):=(yae _).trans (by kernel_rfl)
theorem e3 (n:Nat)(t53:Bool)(b2:yaj)(out:yaj):J3 n (t53,b2,out,())=bIf (t53) (some (zq,2,())) (J4 n (b2,out,())):=(yae _).trans (by kernel_rfl)
theorem e4 (n:Nat)(b2:yaj)(out:yaj):J4 n (b2,out,())=some (out,0,()):=(yae _).trans (by kernel_rfl)
theorem ok (n:Nat):FnOk Tryz.prog 97 ia io (fRun (X n) n T Tryz.f97 ia io):=yaG mixed tabIs (yad (yac (ycX.ok n)) (yad (yac (ybn.ok n)) (yad (yac (ydA.ok n)) (yad (yac (yaQ.ok n)) (yad (yac (yax.ok n)) (yad (yac (yaa.ok n)) (yad (yac (ydg.ok n)) (yav)))))))) Tryz.func97 (by kernel_rfl) rfl
def en (n:Nat):Entry:=yaB 97 ia io (fRun (X n) n T Tryz.f97 ia io)
end ybp
end
end Go.Proofs.YtdlkpmohjhjmfaaGreatDoor

namespace Go.Proofs.YtdlkpmohjhjmfaaGreatDoor
open Go Go.Va Go.Proofs
noncomputable section
namespace ydl
abbrev ia:List Ai:=[.dat (.slice (.int .u8))]
abbrev io:List (Nat×Oi):=[(2,.dat .str)]
abbrev R:Type:=DOut ia io
def X (n:Nat):Ctx:=⟨⟨tab,[],0,[]⟩,28,bnOf 0 ia⟩
abbrev g1:List Si:=[.val 3 (.r 200300 (.int .u8)),.dat 10 (.slice (.int .u8)),.dat 11 (.int .i64),.dat 12 (.int .i64)]
abbrev g2:List Si:=[.val 3 (.r 200300 (.int .u8))]
def T:CT:=(.s .o (.s .o (.s (.s .o (.b (.l g1 .o))) (.r g2 .o))))
def J1 (n:Nat)(m:Nat):(List (Int))×(List (Int))×Int×Int×Unit→Option R:=jL (X n) n T (yaP Tryz.f29) (endK ia io) g1 [1,1,0,1,0] [] m
def J2 (n:Nat):(List (Int))×Unit→Option R:=jR (X n) n T (yaP Tryz.f29) (endK ia io) g2 [1,1,1] []
def f (n:Nat)(b:List (Int)):Option R:=fRun (X n) n T Tryz.f29 ia io (b,())
theorem e0 (n:Nat)(b:List (Int)):f n b=gIf (0≤(0:Int)∧(0:Int)≤(IntKind.i64.wrap ((2:Int)*((b.length:Nat):Int)))∧(IntKind.i64.wrap ((2:Int)*((b.length:Nat):Int)))*((1:Nat):Int)≤70368744177664∧1≤1∧1≤Ty.sz (.int .u8)) (J1 n n ([],b,((b.length:Nat):Int),0,())):=(yae _).trans (by kernel_rfl)
theorem e1 (n m:Nat)(out:List (Int))(t10:List (Int))(t11:Int)(t12:Int):J1 n (m+1) (out,t10,t11,t12,())=bIf ((hide (decide (t12<t11)))) (gIf (0≤t12∧t12<((t10.length:Nat):Int)) (gNo ((4:Int)<0) (gIf (0≤(shrI .u8 (List.getD t10 t12.toNat 0) 4)∧(shrI .u8 (List.getD t10 t12.toNat 0) 4)<((⟨#[48,49,50,51,52,53,54,55,56,57,97,98,99,100,101,102]⟩:ByteArray).size:Int)) (gIf (0≤(bitI .and .u8 (List.getD t10 t12.toNat 0) 15)∧(bitI .and .u8 (List.getD t10 t12.toNat 0) 15)<((⟨#[48,49,50,51,52,53,54,55,56,57,97,98,99,100,101,102]⟩:ByteArray).size:Int)) (gIf ((out.length+2)*1≤70368744177664) (J1 n m ((out++([(bt (⟨#[48,49,50,51,52,53,54,55,56,57,97,98,99,100,101,102]⟩:ByteArray) (shrI .u8 (List.getD t10 t12.toNat 0) 4)),(bt (⟨#[48,49,50,51,52,53,54,55,56,57,97,98,99,100,101,102]⟩:ByteArray) (bitI .and .u8 (List.getD t10 t12.toNat 0) 15))]:List (Int))),t10,t11,(IntKind.i64.wrap (t12+(1:Int))),()))))))) (J2 n (out,())):=(yae _).trans (by kernel_rfl)
theorem e2 (n:Nat)(out:List (Int)):J2 n (out,())=some ((yaT out),()):=(yae _).trans (by kernel_rfl)
theorem ok (n:Nat):FnOk Tryz.prog 29 ia io (fRun (X n) n T Tryz.f29 ia io):=yaG mixed tabIs (yav) Tryz.func29 (by kernel_rfl) rfl
def en (n:Nat):Entry:=yaB 29 ia io (fRun (X n) n T Tryz.f29 ia io)
end ydl
end
end Go.Proofs.YtdlkpmohjhjmfaaGreatDoor

namespace Go.Proofs.YtdlkpmohjhjmfaaGreatDoor
open Go Go.Va Go.Proofs
noncomputable section
namespace yde
abbrev ia:List Ai:=[.dat (.int .u64)]
abbrev io:List (Nat×Oi):=[(2,.dat .str)]
abbrev R:Type:=DOut ia io
def X (n:Nat):Ctx:=⟨⟨tab,[],0,[]⟩,23,bnOf 0 ia⟩
abbrev g1:List Si:=[.dat 0 (.int .u64),.dat 3 .str]
abbrev g2:List Si:=[.dat 3 .str]
def T:CT:=(.s .o (.s .o (.s (.b (.l g1 .o)) (.r g2 .o))))
def J1 (n:Nat)(m:Nat):Int×ByteArray×Unit→Option R:=jL (X n) n T (yaP Tryz.f38) (endK ia io) g1 [1,1,0,0] [] m
def J2 (n:Nat):ByteArray×Unit→Option R:=jR (X n) n T (yaP Tryz.f38) (endK ia io) g2 [1,1,1] []
def f (n:Nat)(n_:Int):Option R:=fRun (X n) n T Tryz.f38 ia io (n_,())
theorem e0 (n:Nat)(n_:Int):f n n_=gNo ((10:Int)=0) (J1 n n (n_,(yaT ([(IntKind.u8.wrap (IntKind.u64.wrap ((48:Int)+(Int.tmod n_ 10))))]:List (Int))),())):=(yae _).trans (by kernel_rfl)
theorem e1 (n m:Nat)(n_:Int)(s_:ByteArray):J1 n (m+1) (n_,s_,())=bIf ((hide (decide (n_≥(10:Int))))) (gNo ((10:Int)=0) (gNo ((10:Int)=0) (gIf ((yaT ([(IntKind.u8.wrap (IntKind.u64.wrap ((48:Int)+(Int.tmod (IntKind.u64.wrap (Int.tdiv n_ 10)) 10))))]:List (Int))).size+s_.size≤4611686018427387904) (J1 n m ((IntKind.u64.wrap (Int.tdiv n_ 10)),((yaT ([(IntKind.u8.wrap (IntKind.u64.wrap ((48:Int)+(Int.tmod (IntKind.u64.wrap (Int.tdiv n_ 10)) 10))))]:List (Int)))++s_),()))))) (J2 n (s_,())):=(yae _).trans (by kernel_rfl)
theorem e2 (n:Nat)(s_:ByteArray):J2 n (s_,())=some (s_,()):=(yae _).trans (by kernel_rfl)
theorem ok (n:Nat):FnOk Tryz.prog 38 ia io (fRun (X n) n T Tryz.f38 ia io):=yaG mixed tabIs (yav) Tryz.func38 (by kernel_rfl) rfl
def en (n:Nat):Entry:=yaB 38 ia io (fRun (X n) n T Tryz.f38 ia io)
end yde
end
end Go.Proofs.YtdlkpmohjhjmfaaGreatDoor

namespace Go.Proofs.YtdlkpmohjhjmfaaGreatDoor
open Go Go.Va Go.Proofs
noncomputable section
namespace ydf
abbrev ia:List Ai:=[.dat (.int .i64)]
abbrev io:List (Nat×Oi):=[(2,.dat .str)]
abbrev R:Type:=DOut ia io
def X (n:Nat):Ctx:=⟨⟨tab,[yde.en n],0,[]⟩,15,bnOf 0 ia⟩
def T:CT := .o
def f (n:Nat)(n_:Int):Option R:=fRun (X n) n T Tryz.f17 ia io (n_,())
theorem e0 (n:Nat)(n_:Int):f n n_=bIf ((hide (decide (n_≥(0:Int))))) (bnd (yde.f n (IntKind.u64.wrap n_)) λu1=>some (u1.1,())) (bnd (yde.f n (IntKind.u64.wrap ((IntKind.u64.wrap (IntKind.i64.wrap (0-(IntKind.i64.wrap (n_+(1:Int))))))+(1:Int)))) λu2=>gIf ((⟨#[45]⟩:ByteArray).size+u2.1.size≤4611686018427387904) (some (((⟨#[45]⟩:ByteArray)++u2.1),()))):=(yae _).trans (by kernel_rfl)
theorem ok (n:Nat):FnOk Tryz.prog 17 ia io (fRun (X n) n T Tryz.f17 ia io):=yaG mixed tabIs (yad (yac (yde.ok n)) (yav)) Tryz.func17 (by kernel_rfl) rfl
def en (n:Nat):Entry:=yaB 17 ia io (fRun (X n) n T Tryz.f17 ia io)
end ydf
end
end Go.Proofs.YtdlkpmohjhjmfaaGreatDoor

namespace Go.Proofs.YtdlkpmohjhjmfaaGreatDoor
open Go Go.Va Go.Proofs
noncomputable section
namespace yd3
abbrev ia:List Ai:=[.dat (.slice (.int .u8))]
abbrev io:List (Nat×Oi):=[(2,.dat .str)]
abbrev R:Type:=DOut ia io
def X (n:Nat):Ctx:=⟨⟨tab,[],0,[]⟩,42,bnOf 0 ia⟩
abbrev g1:List Si:=[.dat 0 (.slice (.int .u8)),.dat 3 .str,.dat 4 .str,.dat 5 (.int .i64)]
abbrev g2:List Si:=[.dat 4 .str]
def T:CT:=(.s .o (.s .o (.s .o (.s (.s .o (.b (.l g1 .o))) (.r g2 .o)))))
def J1 (n:Nat)(m:Nat):(List (Int))×ByteArray×ByteArray×Int×Unit→Option R:=jL (X n) n T (yaP Tryz.f16) (endK ia io) g1 [1,1,1,0,1,0] [] m
def J2 (n:Nat):ByteArray×Unit→Option R:=jR (X n) n T (yaP Tryz.f16) (endK ia io) g2 [1,1,1,1] []
def f (n:Nat)(b:List (Int)):Option R:=fRun (X n) n T Tryz.f16 ia io (b,())
theorem e0 (n:Nat)(b:List (Int)):f n b=J1 n n (b,(⟨#[48,49,50,51,52,53,54,55,56,57,97,98,99,100,101,102]⟩:ByteArray),(⟨#[]⟩:ByteArray),0,()):=(yae _).trans (by kernel_rfl)
theorem e1 (n m:Nat)(b:List (Int))(d:ByteArray)(out:ByteArray)(i:Int):J1 n (m+1) (b,d,out,i,())=bIf ((hide (decide (i<((b.length:Nat):Int))))) (gIf (0≤i∧i<((b.length:Nat):Int)) (gNo ((16:Int)=0) (gIf (0≤i∧i<((b.length:Nat):Int)) (gNo ((16:Int)=0) (gIf (0≤(IntKind.u8.wrap ((IntKind.u8.wrap (Int.tdiv (List.getD b i.toNat 0) 16))+(1:Int)))∧(IntKind.u8.wrap ((IntKind.u8.wrap (Int.tdiv (List.getD b i.toNat 0) 16))+(1:Int)))≤(d.size:Int)) (gIf (0≤(IntKind.u8.wrap (Int.tdiv (List.getD b i.toNat 0) 16))∧(IntKind.u8.wrap (Int.tdiv (List.getD b i.toNat 0) 16))≤(IntKind.u8.wrap ((IntKind.u8.wrap (Int.tdiv (List.getD b i.toNat 0) 16))+(1:Int)))) (gIf (0≤i∧i<((b.length:Nat):Int)) (gNo ((16:Int)=0) (gIf (0≤i∧i<((b.length:Nat):Int)) (gNo ((16:Int)=0) (gIf (0≤(IntKind.u8.wrap ((Int.tmod (List.getD b i.toNat 0) 16)+(1:Int)))∧(IntKind.u8.wrap ((Int.tmod (List.getD b i.toNat 0) 16)+(1:Int)))≤(d.size:Int)) (gIf (0≤(Int.tmod (List.getD b i.toNat 0) 16)∧(Int.tmod (List.getD b i.toNat 0) 16)≤(IntKind.u8.wrap ((Int.tmod (List.getD b i.toNat 0) 16)+(1:Int)))) (gIf ((d.extract ((IntKind.u8.wrap (Int.tdiv (List.getD b i.toNat 0) 16)).toNat) ((IntKind.u8.wrap ((IntKind.u8.wrap (Int.tdiv (List.getD b i.toNat 0) 16))+(1:Int))).toNat)).size+(d.extract ((Int.tmod (List.getD b i.toNat 0) 16).toNat) ((IntKind.u8.wrap ((Int.tmod (List.getD b i.toNat 0) 16)+(1:Int))).toNat)).size≤4611686018427387904) (gIf (out.size+((d.extract ((IntKind.u8.wrap (Int.tdiv (List.getD b i.toNat 0) 16)).toNat) ((IntKind.u8.wrap ((IntKind.u8.wrap (Int.tdiv (List.getD b i.toNat 0) 16))+(1:Int))).toNat))++(d.extract ((Int.tmod (List.getD b i.toNat 0) 16).toNat) ((IntKind.u8.wrap ((Int.tmod (List.getD b i.toNat 0) 16)+(1:Int))).toNat))).size≤4611686018427387904) (J1 n m (b,d,(out++((d.extract ((IntKind.u8.wrap (Int.tdiv (List.getD b i.toNat 0) 16)).toNat) ((IntKind.u8.wrap ((IntKind.u8.wrap (Int.tdiv (List.getD b i.toNat 0) 16))+(1:Int))).toNat))++(d.extract ((Int.tmod (List.getD b i.toNat 0) 16).toNat) ((IntKind.u8.wrap ((Int.tmod (List.getD b i.toNat 0) 16)+(1:Int))).toNat)))),(IntKind.i64.wrap (i+(1:Int))),())))))))))))))))) (J2 n (out,())):=(yae _).trans (by kernel_rfl)
theorem e2 (n:Nat)(out:ByteArray):J2 n (out,())=some (out,()):=(yae _).trans (by kernel_rfl)
theorem ok (n:Nat):FnOk Tryz.prog 16 ia io (fRun (X n) n T Tryz.f16 ia io):=yaG mixed tabIs (yav) Tryz.func16 (by kernel_rfl) rfl
def en (n:Nat):Entry:=yaB 16 ia io (fRun (X n) n T Tryz.f16 ia io)
end yd3
end
end Go.Proofs.YtdlkpmohjhjmfaaGreatDoor

namespace Go.Proofs.YtdlkpmohjhjmfaaGreatDoor
open Go Go.Va Go.Proofs
noncomputable section
namespace ycG
abbrev ia:List Ai:=[.dat .str]
abbrev io:List (Nat×Oi):=[(2,.val (.r 0 (.int .u8))),(3,.dat (.int .i64))]
abbrev R:Type:=DOut ia io
def X (n:Nat):Ctx:=⟨⟨tab,[ycg.en],0,[]⟩,42,bnOf 0 ia⟩
abbrev g1:List Si:=[.dat 0 .str,.val 4 (.r 200400 (.int .u8)),.dat 5 (.int .i64)]
abbrev g2:List Si:=[.dat 0 .str,.val 4 (.r 200400 (.int .u8)),.dat 5 (.int .i64),.dat 6 (.int .i64),.dat 7 (.int .i64)]
abbrev g3:List Si:=[.dat 0 .str,.val 4 (.r 200400 (.int .u8)),.dat 5 (.int .i64)]
abbrev g4:List Si:=[.val 4 (.r 200400 (.int .u8))]
def T:CT:=(.s .o (.s .o (.s .o (.s (.s .o (.b (.l g1 (.s .o (.s (.b (.s .o (.s .o (.r g2 .o)))) (.r g3 .o)))))) (.r g4 .o)))))
def J1 (n:Nat)(m:Nat):ByteArray×(List (Int))×Int×Unit→Option R:=jL (X n) n T (yaP Tryz.f96) (endK ia io) g1 [1,1,1,0,1,0] [] m
def J2 (n m1:Nat):ByteArray×(List (Int))×Int×Int×Int×Unit→Option R:=jR (X n) n T (yaP Tryz.f96) (endK ia io) g2 [1,1,1,0,1,0,0,1,0,0,1,1] [m1]
def J3 (n m1:Nat):ByteArray×(List (Int))×Int×Unit→Option R:=jR (X n) n T (yaP Tryz.f96) (endK ia io) g3 [1,1,1,0,1,0,0,1,1] [m1]
def J4 (n:Nat):(List (Int))×Unit→Option R:=jR (X n) n T (yaP Tryz.f96) (endK ia io) g4 [1,1,1,1] []
def f (n:Nat)(s_:ByteArray):Option R:=fRun (X n) n T Tryz.f96 ia io (s_,())
theorem e0 (n:Nat)(s_:ByteArray):f n s_=gNo ((2:Int)=0) (bIf ((hide ((Int.tmod (s_.size:Int) 2) != (0:Int)))) (some ([],5,())) (J1 n n (s_,[],0,()))):=(yae _).trans (by kernel_rfl)
theorem e1 (n m:Nat)(s_:ByteArray)(out:List (Int))(i:Int):J1 n (m+1) (s_,out,i,())=bIf ((hide (decide (i<(s_.size:Int))))) (gIf (0≤i∧i<(s_.size:Int)) (bnd (ycg.f (⟨#[48,49,50,51,52,53,54,55,56,57,97,98,99,100,101,102]⟩:ByteArray) (bt s_ i)) λu1=>gIf (0≤(IntKind.i64.wrap (i+(1:Int)))∧(IntKind.i64.wrap (i+(1:Int)))<(s_.size:Int)) (bnd (ycg.f (⟨#[48,49,50,51,52,53,54,55,56,57,97,98,99,100,101,102]⟩:ByteArray) (bt s_ (IntKind.i64.wrap (i+(1:Int))))) λu2=>bIf ((hide (decide (u1.1<(0:Int))))) (some ([],5,())) (bIf ((hide (decide (u2.1<(0:Int))))) (some ([],5,())) (J2 n m (s_,out,i,u1.1,u2.1,())))))) (J4 n (out,())):=(yae _).trans (by kernel_rfl)
theorem e2 (n m1:Nat)(s_:ByteArray)(out:List (Int))(i:Int)(hi:Int)(lo:Int):J2 n m1 (s_,out,i,hi,lo,())=gNo ((4:Int)<0) (gIf ((out.length+1)*1≤70368744177664) (J3 n m1 (s_,(out++([(IntKind.u8.wrap (bitI .or .i64 (shlI .i64 hi 4) lo))]:List (Int))),i,()))):=(yae _).trans (by kernel_rfl)
theorem e3 (n m1:Nat)(s_:ByteArray)(out:List (Int))(i:Int):J3 n m1 (s_,out,i,())=J1 n m1 (s_,out,(IntKind.i64.wrap (i+(2:Int))),()):=(yae _).trans (by kernel_rfl)
theorem e4 (n:Nat)(out:List (Int)):J4 n (out,())=some (out,0,()):=(yae _).trans (by kernel_rfl)
theorem ok (n:Nat):FnOk Tryz.prog 96 ia io (fRun (X n) n T Tryz.f96 ia io):=yaG mixed tabIs (yad (yac (ycg.ok)) (yav)) Tryz.func96 (by kernel_rfl) rfl
def en (n:Nat):Entry:=yaB 96 ia io (fRun (X n) n T Tryz.f96 ia io)
end ycG
end
end Go.Proofs.YtdlkpmohjhjmfaaGreatDoor

namespace Go.Proofs.YtdlkpmohjhjmfaaGreatDoor
open Go Go.Va Go.Proofs
noncomputable section
namespace ybv
abbrev ia:List Ai:=[.dat .str,.dat .str]
abbrev io:List (Nat×Oi):=[(4,.dat .bool)]
abbrev R:Type:=DOut ia io
def X (n:Nat):Ctx:=⟨⟨tab,[],0,[]⟩,18,bnOf 0 ia⟩
def T:CT := .o
def f (n:Nat)(s_:ByteArray)(prefix_:ByteArray):Option R:=fRun (X n) n T Tryz.f203 ia io (s_,prefix_,())
theorem e0 (n:Nat)(s_:ByteArray)(prefix_:ByteArray):f n s_ prefix_=bIf ((hide (decide ((s_.size:Int)≥(prefix_.size:Int))))) (gIf (0≤(prefix_.size:Int)∧(prefix_.size:Int)≤(s_.size:Int)) (gIf (0≤(0:Int)∧(0:Int)≤(prefix_.size:Int)) (some ((hide (eqS (s_.extract 0 ((prefix_.size:Int).toNat)) prefix_)),())))) (some (false,())):=(yae _).trans (by kernel_rfl)
theorem ok (n:Nat):FnOk Tryz.prog 203 ia io (fRun (X n) n T Tryz.f203 ia io):=yaG mixed tabIs (yav) Tryz.func203 (by kernel_rfl) rfl
def en (n:Nat):Entry:=yaB 203 ia io (fRun (X n) n T Tryz.f203 ia io)
end ybv
end
end Go.Proofs.YtdlkpmohjhjmfaaGreatDoor

namespace Go.Proofs.YtdlkpmohjhjmfaaGreatDoor
open Go Go.Va Go.Proofs
noncomputable section
namespace ybL
abbrev ia:List Ai:=[.dat .str,.dat .str]
abbrev io:List (Nat×Oi):=[(4,.dat .str),(5,.dat .bool)]
abbrev R:Type:=DOut ia io
def X (n:Nat):Ctx:=⟨⟨tab,[ybv.en n],0,[]⟩,15,bnOf 0 ia⟩
def T:CT := .o
def f (n:Nat)(s_:ByteArray)(prefix_:ByteArray):Option R:=fRun (X n) n T Tryz.f151 ia io (s_,prefix_,())
theorem e0 (n:Nat)(s_:ByteArray)(prefix_:ByteArray):f n s_ prefix_=bnd (ybv.f n s_ prefix_) λu1=>bIf ((!u1.1)) (some (s_,false,())) (gIf (0≤(s_.size:Int)∧(s_.size:Int)≤(s_.size:Int)) (gIf (0≤(prefix_.size:Int)∧(prefix_.size:Int)≤(s_.size:Int)) (some ((s_.extract ((prefix_.size:Int).toNat) (((s_.size:Int)).toNat)),true,())))):=(yae _).trans (by kernel_rfl)
theorem ok (n:Nat):FnOk Tryz.prog 151 ia io (fRun (X n) n T Tryz.f151 ia io):=yaG mixed tabIs (yad (yac (ybv.ok n)) (yav)) Tryz.func151 (by kernel_rfl) rfl
def en (n:Nat):Entry:=yaB 151 ia io (fRun (X n) n T Tryz.f151 ia io)
end ybL
end
end Go.Proofs.YtdlkpmohjhjmfaaGreatDoor

namespace Go.Proofs.YtdlkpmohjhjmfaaGreatDoor
open Go Go.Va Go.Proofs
noncomputable section
namespace ydb
abbrev ia:List Ai:=[.dat .str,.dat .str]
abbrev io:List (Nat×Oi):=[(4,.dat .str),(5,.dat .bool)]
abbrev R:Type:=DOut ia io
def X (n:Nat):Ctx:=⟨⟨tab,[ybL.en n],0,[]⟩,11,bnOf 0 ia⟩
def T:CT := .o
def f (n:Nat)(s_:ByteArray)(prefix_:ByteArray):Option R:=fRun (X n) n T Tryz.f95 ia io (s_,prefix_,())
theorem e0 (n:Nat)(s_:ByteArray)(prefix_:ByteArray):f n s_ prefix_=bnd (ybL.f n s_ prefix_) λu1=>some (u1.1,u1.2.1,()):=(yae _).trans (by kernel_rfl)
theorem ok (n:Nat):FnOk Tryz.prog 95 ia io (fRun (X n) n T Tryz.f95 ia io):=yaG mixed tabIs (yad (yac (ybL.ok n)) (yav)) Tryz.func95 (by kernel_rfl) rfl
def en (n:Nat):Entry:=yaB 95 ia io (fRun (X n) n T Tryz.f95 ia io)
end ydb
end
end Go.Proofs.YtdlkpmohjhjmfaaGreatDoor

namespace Go.Proofs.YtdlkpmohjhjmfaaGreatDoor
open Go Go.Va Go.Proofs
noncomputable section
namespace ydB
abbrev ia:List Ai:=[.dat .str]
abbrev io:List (Nat×Oi):=[(2,.cel (.p (.d (.int .i64)) (.p (.d yan) (.p (.d (.int .i64)) (.p (.d (.int .i64)) (.p (.r 0 (.int .i64)) (.d .unit))))))),(3,.dat .bool)]
abbrev R:Type:=DOut ia io
def X (n:Nat):Ctx:=⟨⟨tab,[yaH.en n,ydb.en n,ycG.en n,ybp.en n],0,[]⟩,40,bnOf 0 ia⟩
def T:CT := .o
def f (n:Nat)(w_:ByteArray):Option R:=fRun (X n) n T Tryz.f50 ia io (w_,())
theorem e0 (n:Nat)(w_:ByteArray):f n w_=bnd (ydb.f n w_ (⟨#[120]⟩:ByteArray)) λu1=>bnd (ycG.f n u1.1) λu2=>bnd (ybp.f n u2.1) λu3=>bIf (u1.2.1) (bIf ((hide (u2.2.1==(0:Int)))) (bIf ((hide (u3.2.1==(0:Int)))) (bnd (yaH.f n u3.1) λu4=>some ((2,(u3.1,(0,(0,([],()))))),u4.1,())) (some ((2,(u3.1,(0,(0,([],()))))),false,()))) (some ((2,(u3.1,(0,(0,([],()))))),false,()))) (some ((2,(u3.1,(0,(0,([],()))))),false,())):=(yae _).trans (by kernel_rfl)
theorem ok (n:Nat):FnOk Tryz.prog 50 ia io (fRun (X n) n T Tryz.f50 ia io):=yaG mixed tabIs (yad (yac (yaH.ok n)) (yad (yac (ydb.ok n)) (yad (yac (ycG.ok n)) (yad (yac (ybp.ok n)) (yav))))) Tryz.func50 (by kernel_rfl) rfl
def en (n:Nat):Entry:=yaB 50 ia io (fRun (X n) n T Tryz.f50 ia io)
end ydB
end
end Go.Proofs.YtdlkpmohjhjmfaaGreatDoor

namespace Go.Proofs.YtdlkpmohjhjmfaaGreatDoor
open Go Go.Va Go.Proofs
noncomputable section
namespace ycr
abbrev ia:List Ai:=[.dat (.slice (.int .i64))]
abbrev io:List (Nat×Oi):=[(2,.cel (.p (.d (.int .i64)) (.p (.p (.d (.int .i64)) (.p (.d .str) (.p (.d .str) (.p (.d .str) (.p (.d (.int .u64)) (.p (.r 0 (.int .u8)) (.p (.r 0 yaw) (.p (.d yaN) (.p (.d .bool) (.p (.d yaA) (.p (.r 0 yaC) (.p (.r 0 yaD) (.p (.d (.int .i64)) (.p (.r 0 (.int .i64)) (.d (.pair .str (.pair .str (.pair .str (.pair yaY (.pair (.int .i64) .unit)))))))))))))))))))) (.p (.d (.int .i64)) (.p (.d (.int .i64)) (.p (.r 0 (.int .i64)) (.d .unit))))))),(3,.dat .bool)]
abbrev R:Type:=DOut ia io
def X (n:Nat):Ctx:=⟨⟨tab,[],0,[]⟩,45,bnOf 0 ia⟩
abbrev g1:List Si:=[.dat 0 (.slice (.int .i64)),.ref 2 2 ybd,.dat 21 .bool,.box 2 (.p (.d (.int .i64)) (.p (.p (.d (.int .i64)) (.p (.d .str) (.p (.d .str) (.p (.d .str) (.p (.d (.int .u64)) (.p (.r 100000000002000 (.int .u8)) (.p (.r 100000000002001 yaw) (.p (.d yaN) (.p (.d .bool) (.p (.d yaA) (.p (.r 100000000002002 yaC) (.p (.r 100000000002003 yaD) (.p (.d (.int .i64)) (.p (.r 100000000002004 (.int .i64)) (.d (.pair .str (.pair .str (.pair .str (.pair yaY (.pair (.int .i64) .unit)))))))))))))))))))) (.p (.d (.int .i64)) (.p (.d (.int .i64)) (.p (.r 100000000002005 (.int .i64)) (.d .unit))))))]
abbrev g2:List Si:=[.dat 0 (.slice (.int .i64)),.ref 2 2 ybd,.box 2 (.p (.d (.int .i64)) (.p (.p (.d (.int .i64)) (.p (.d .str) (.p (.d .str) (.p (.d .str) (.p (.d (.int .u64)) (.p (.r 100000000002000 (.int .u8)) (.p (.r 100000000002001 yaw) (.p (.d yaN) (.p (.d .bool) (.p (.d yaA) (.p (.r 100000000002002 yaC) (.p (.r 100000000002003 yaD) (.p (.d (.int .i64)) (.p (.r 100000000002004 (.int .i64)) (.d (.pair .str (.pair .str (.pair .str (.pair yaY (.pair (.int .i64) .unit)))))))))))))))))))) (.p (.d (.int .i64)) (.p (.d (.int .i64)) (.p (.r 100000000002005 (.int .i64)) (.d .unit))))))]
abbrev g3:List Si:=[.ref 2 2 ybd,.ref 4 4 ybd,.dat 31 (.slice (.int .i64)),.dat 32 (.int .i64),.dat 33 (.int .i64),.box 2 (.p (.d (.int .i64)) (.p (.p (.d (.int .i64)) (.p (.d .str) (.p (.d .str) (.p (.d .str) (.p (.d (.int .u64)) (.p (.r 100000000002000 (.int .u8)) (.p (.r 100000000002001 yaw) (.p (.d yaN) (.p (.d .bool) (.p (.d yaA) (.p (.r 100000000002002 yaC) (.p (.r 100000000002003 yaD) (.p (.d (.int .i64)) (.p (.r 100000000002004 (.int .i64)) (.d (.pair .str (.pair .str (.pair .str (.pair yaY (.pair (.int .i64) .unit)))))))))))))))))))) (.p (.d (.int .i64)) (.p (.d (.int .i64)) (.p (.r 100000000002005 (.int .i64)) (.d .unit)))))),.box 4 (.p (.d (.int .i64)) (.p (.p (.d (.int .i64)) (.p (.d .str) (.p (.d .str) (.p (.d .str) (.p (.d (.int .u64)) (.p (.r 100000000004000 (.int .u8)) (.p (.r 100000000004001 yaw) (.p (.d yaN) (.p (.d .bool) (.p (.d yaA) (.p (.r 100000000004002 yaC) (.p (.r 100000000004003 yaD) (.p (.d (.int .i64)) (.p (.r 100000000004004 (.int .i64)) (.d (.pair .str (.pair .str (.pair .str (.pair yaY (.pair (.int .i64) .unit)))))))))))))))))))) (.p (.d (.int .i64)) (.p (.d (.int .i64)) (.p (.r 100000000004005 (.int .i64)) (.d .unit))))))]
abbrev g4:List Si:=[.ref 2 2 ybd,.ref 4 4 ybd,.box 2 (.p (.d (.int .i64)) (.p (.p (.d (.int .i64)) (.p (.d .str) (.p (.d .str) (.p (.d .str) (.p (.d (.int .u64)) (.p (.r 100000000002000 (.int .u8)) (.p (.r 100000000002001 yaw) (.p (.d yaN) (.p (.d .bool) (.p (.d yaA) (.p (.r 100000000002002 yaC) (.p (.r 100000000002003 yaD) (.p (.d (.int .i64)) (.p (.r 100000000002004 (.int .i64)) (.d (.pair .str (.pair .str (.pair .str (.pair yaY (.pair (.int .i64) .unit)))))))))))))))))))) (.p (.d (.int .i64)) (.p (.d (.int .i64)) (.p (.r 100000000002005 (.int .i64)) (.d .unit)))))),.box 4 (.p (.d (.int .i64)) (.p (.p (.d (.int .i64)) (.p (.d .str) (.p (.d .str) (.p (.d .str) (.p (.d (.int .u64)) (.p (.r 100000000004000 (.int .u8)) (.p (.r 100000000004001 yaw) (.p (.d yaN) (.p (.d .bool) (.p (.d yaA) (.p (.r 100000000004002 yaC) (.p (.r 100000000004003 yaD) (.p (.d (.int .i64)) (.p (.r 100000000004004 (.int .i64)) (.d (.pair .str (.pair .str (.pair .str (.pair yaY (.pair (.int .i64) .unit)))))))))))))))))))) (.p (.d (.int .i64)) (.p (.d (.int .i64)) (.p (.r 100000000004005 (.int .i64)) (.d .unit))))))]
def T:CT:=(.s .o (.s (.s .o (.r g1 .o)) (.r g2 (.s .o (.s (.s .o (.b (.l g3 .o))) (.r g4 .o))))))
def J1 (n:Nat):(List (Int))×Bool×ya2×Unit→Option R:=jR (X n) n T (yaP Tryz.f52) (endK ia io) g1 [1,0,1] []
def J2 (n:Nat):(List (Int))×ya2×Unit→Option R:=jR (X n) n T (yaP Tryz.f52) (endK ia io) g2 [1,1] []
def J3 (n:Nat)(m:Nat):(List (Int))×Int×Int×ya2×ya2×Unit→Option R:=jL (X n) n T (yaP Tryz.f52) (endK ia io) g3 [1,1,1,0,1,0] [] m
def J4 (n:Nat):ya2×ya2×Unit→Option R:=jR (X n) n T (yaP Tryz.f52) (endK ia io) g4 [1,1,1,1] []
def f (n:Nat)(n_:List (Int)):Option R:=fRun (X n) n T Tryz.f52 ia io (n_,())
theorem e0 (n:Nat)(n_:List (Int)):f n n_=bIf ((hide (decide (((n_.length:Nat):Int)<(2:Int))))) (J1 n (n_,true,(0,(zq,(0,(0,([],()))))),())) (gIf (0≤(1:Int)∧(1:Int)<((n_.length:Nat):Int)) (bIf ((hide (decide ((List.getD n_ 1 0)<(0:Int))))) (J1 n (n_,true,(0,(zq,(0,(0,([],()))))),())) (gIf (0≤(1:Int)∧(1:Int)<((n_.length:Nat):Int)) (J1 n (n_,(hide (decide ((List.getD n_ 1 0)>(255:Int)))),(0,(zq,(0,(0,([],()))))),()))))):=(yae _).trans (by kernel_rfl)
theorem e1 (n:Nat)(n_:List (Int))(t21:Bool)(b2:ya2):J1 n (n_,t21,b2,())=bIf (t21) (some ((0,(zq,(0,(0,([],()))))),false,())) (J2 n (n_,b2,())):=(yae _).trans (by kernel_rfl)
theorem e2 (n:Nat)(n_:List (Int))(b2:ya2):J2 n (n_,b2,())=gIf (0≤(0:Int)∧(0:Int)<((n_.length:Nat):Int)) (gIf (0≤(1:Int)∧(1:Int)<((n_.length:Nat):Int)) (gIf (0≤((n_.length:Nat):Int)∧((n_.length:Nat):Int)≤((n_.length:Nat):Int)) (gIf (0≤(2:Int)∧(2:Int)≤((n_.length:Nat):Int)) (J3 n n (((n_.take ((((n_.length:Nat):Int)).toNat)).drop 2),((((n_.take ((((n_.length:Nat):Int)).toNat)).drop 2).length:Nat):Int),0,b2,(8,(zq,((List.getD n_ 1 0),((List.getD n_ 0 0),([],()))))),()))))):=(yae _).trans (by kernel_rfl)
theorem e3 (n m:Nat)(t31:List (Int))(t32:Int)(t33:Int)(b2:ya2)(a:ya2):J3 n (m+1) (t31,t32,t33,b2,a,())=bIf ((hide (decide (t33<t32)))) (gIf (0≤t33∧t33<((t31.length:Nat):Int)) (gIf ((a.2.2.2.2.1.length+1)*8≤70368744177664) (J3 n m (t31,t32,(IntKind.i64.wrap (t33+(1:Int))),b2,(a.1,(a.2.1,(a.2.2.1,(a.2.2.2.1,((a.2.2.2.2.1++([(List.getD t31 t33.toNat 0)]:List (Int))),a.2.2.2.2.2))))),())))) (J4 n (b2,a,())):=(yae _).trans (by kernel_rfl)
theorem e4 (n:Nat)(b2:ya2)(a:ya2):J4 n (b2,a,())=some (a,true,()):=(yae _).trans (by kernel_rfl)
theorem ok (n:Nat):FnOk Tryz.prog 52 ia io (fRun (X n) n T Tryz.f52 ia io):=yaG mixed tabIs (yav) Tryz.func52 (by kernel_rfl) rfl
def en (n:Nat):Entry:=yaB 52 ia io (fRun (X n) n T Tryz.f52 ia io)
end ycr
end
end Go.Proofs.YtdlkpmohjhjmfaaGreatDoor

namespace Go.Proofs.YtdlkpmohjhjmfaaGreatDoor
open Go Go.Va Go.Proofs
noncomputable section
namespace ycL
abbrev ia:List Ai:=[.dat (.slice .str)]
abbrev io:List (Nat×Oi):=[(2,.val (.r 0 (.int .i64))),(3,.dat .bool)]
abbrev R:Type:=DOut ia io
def X (n:Nat):Ctx:=⟨⟨tab,[ye4.en],0,[]⟩,28,bnOf 0 ia⟩
abbrev g1:List Si:=[.val 4 (.r 200400 (.int .i64)),.dat 9 (.slice .str),.dat 10 (.int .i64),.dat 11 (.int .i64)]
abbrev g2:List Si:=[.val 4 (.r 200400 (.int .i64))]
def T:CT:=(.s .o (.s .o (.s (.s .o (.b (.l g1 .o))) (.r g2 .o))))
def J1 (n:Nat)(m:Nat):(List (Int))×(List (ByteArray))×Int×Int×Unit→Option R:=jL (X n) n T (yaP Tryz.f51) (endK ia io) g1 [1,1,0,1,0] [] m
def J2 (n:Nat):(List (Int))×Unit→Option R:=jR (X n) n T (yaP Tryz.f51) (endK ia io) g2 [1,1,1] []
def f (n:Nat)(w_:List (ByteArray)):Option R:=fRun (X n) n T Tryz.f51 ia io (w_,())
theorem e0 (n:Nat)(w_:List (ByteArray)):f n w_=J1 n n ([],w_,((w_.length:Nat):Int),0,()):=(yae _).trans (by kernel_rfl)
theorem e1 (n m:Nat)(out:List (Int))(t9:List (ByteArray))(t10:Int)(t11:Int):J1 n (m+1) (out,t9,t10,t11,())=bIf ((hide (decide (t11<t10)))) (gIf (0≤t11∧t11<((t9.length:Nat):Int)) (bnd (ye4.f (List.getD t9 t11.toNat (⟨#[]⟩:ByteArray))) λu1=>bIf ((!u1.2.1)) (some ([],false,())) (gIf ((out.length+1)*8≤70368744177664) (J1 n m ((out++([u1.1]:List (Int))),t9,t10,(IntKind.i64.wrap (t11+(1:Int))),()))))) (J2 n (out,())):=(yae _).trans (by kernel_rfl)
theorem e2 (n:Nat)(out:List (Int)):J2 n (out,())=some (out,true,()):=(yae _).trans (by kernel_rfl)
theorem ok (n:Nat):FnOk Tryz.prog 51 ia io (fRun (X n) n T Tryz.f51 ia io):=yaG mixed tabIs (yad (yac (ye4.ok)) (yav)) Tryz.func51 (by kernel_rfl) rfl
def en (n:Nat):Entry:=yaB 51 ia io (fRun (X n) n T Tryz.f51 ia io)
end ycL
end
end Go.Proofs.YtdlkpmohjhjmfaaGreatDoor

namespace Go.Proofs.YtdlkpmohjhjmfaaGreatDoor
open Go Go.Va Go.Proofs
noncomputable section
namespace ybf
abbrev ia:List Ai:=[.dat (.slice .str)]
abbrev io:List (Nat×Oi):=[(2,.cel (.p (.d (.int .i64)) (.p (.d yan) (.p (.d (.int .i64)) (.p (.d (.int .i64)) (.p (.r 0 (.int .i64)) (.d .unit))))))),(3,.dat .bool)]
abbrev R:Type:=DOut ia io
def X (n:Nat):Ctx:=⟨⟨tab,[ydT.en,ydB.en n,ycL.en n,ycr.en n],0,[]⟩,80,bnOf 0 ia⟩
abbrev g1:List Si:=[.dat 0 (.slice .str),.ref 2 2 ybd,.dat 30 .bool,.box 2 (.p (.d (.int .i64)) (.p (.p (.d (.int .i64)) (.p (.d .str) (.p (.d .str) (.p (.d .str) (.p (.d (.int .u64)) (.p (.r 100000000002000 (.int .u8)) (.p (.r 100000000002001 yaw) (.p (.d yaN) (.p (.d .bool) (.p (.d yaA) (.p (.r 100000000002002 yaC) (.p (.r 100000000002003 yaD) (.p (.d (.int .i64)) (.p (.r 100000000002004 (.int .i64)) (.d (.pair .str (.pair .str (.pair .str (.pair yaY (.pair (.int .i64) .unit)))))))))))))))))))) (.p (.d (.int .i64)) (.p (.d (.int .i64)) (.p (.r 100000000002005 (.int .i64)) (.d .unit))))))]
abbrev g2:List Si:=[.dat 0 (.slice .str),.ref 2 2 ybd,.box 2 (.p (.d (.int .i64)) (.p (.p (.d (.int .i64)) (.p (.d .str) (.p (.d .str) (.p (.d .str) (.p (.d (.int .u64)) (.p (.r 100000000002000 (.int .u8)) (.p (.r 100000000002001 yaw) (.p (.d yaN) (.p (.d .bool) (.p (.d yaA) (.p (.r 100000000002002 yaC) (.p (.r 100000000002003 yaD) (.p (.d (.int .i64)) (.p (.r 100000000002004 (.int .i64)) (.d (.pair .str (.pair .str (.pair .str (.pair yaY (.pair (.int .i64) .unit)))))))))))))))))))) (.p (.d (.int .i64)) (.p (.d (.int .i64)) (.p (.r 100000000002005 (.int .i64)) (.d .unit))))))]
def T:CT:=(.s .o (.s .o (.s (.s .o (.r g1 .o)) (.r g2 .o))))
def J1 (n:Nat):(List (ByteArray))×Bool×ya2×Unit→Option R:=jR (X n) n T (yaP Tryz.f24) (endK ia io) g1 [1,1,0,1] []
def J2 (n:Nat):(List (ByteArray))×ya2×Unit→Option R:=jR (X n) n T (yaP Tryz.f24) (endK ia io) g2 [1,1,1] []
def f (n:Nat)(w_:List (ByteArray)):Option R:=fRun (X n) n T Tryz.f24 ia io (w_,())
theorem e0 (n:Nat)(w_:List (ByteArray)):f n w_=bnd (ydT.f) λu1=>gIf (0≤(0:Int)∧(0:Int)<((w_.length:Nat):Int)) (bIf ((smGet u1.1 (List.getD w_ 0 (⟨#[]⟩:ByteArray))).2) (some (((smGet u1.1 (List.getD w_ 0 (⟨#[]⟩:ByteArray))).1,(zq,(0,(0,([],()))))),(hide (((w_.length:Nat):Int)==(1:Int))),())) (gIf (0≤(0:Int)∧(0:Int)<((w_.length:Nat):Int)) (bIf ((hide (eqS (List.getD w_ 0 (⟨#[]⟩:ByteArray)) (⟨#[97,115,107]⟩:ByteArray)))) (J1 n (w_,(hide (((w_.length:Nat):Int)==(2:Int))),(0,(zq,(0,(0,([],()))))),())) (J1 n (w_,false,(0,(zq,(0,(0,([],()))))),()))))):=(yae _).trans (by kernel_rfl)
theorem e1 (n:Nat)(w_:List (ByteArray))(t30:Bool)(b2:ya2):J1 n (w_,t30,b2,())=bIf (t30) (gIf (0≤(1:Int)∧(1:Int)<((w_.length:Nat):Int)) (bnd (ydB.f n (List.getD w_ 1 (⟨#[]⟩:ByteArray))) λu1=>some (u1.1,u1.2.1,()))) (J2 n (w_,b2,())):=(yae _).trans (by kernel_rfl)
theorem e2 (n:Nat)(w_:List (ByteArray))(b2:ya2):J2 n (w_,b2,())=gIf (0≤((w_.length:Nat):Int)∧((w_.length:Nat):Int)≤((w_.length:Nat):Int)) (gIf (0≤(1:Int)∧(1:Int)≤((w_.length:Nat):Int)) (bnd (ycL.f n ((w_.take ((((w_.length:Nat):Int)).toNat)).drop 1)) λu1=>bIf ((!u1.2.1)) (some ((0,(zq,(0,(0,([],()))))),false,())) (gIf (0≤(0:Int)∧(0:Int)<((w_.length:Nat):Int)) (bIf ((hide (eqS (List.getD w_ 0 (⟨#[]⟩:ByteArray)) (⟨#[99,114,97,115,104]⟩:ByteArray)))) (bnd (ycr.f n u1.1) λu2=>some (u2.1,u2.2.1,())) (bIf ((hide (((u1.1.length:Nat):Int) != (1:Int)))) (some ((0,(zq,(0,(0,([],()))))),false,())) (gIf (0≤(0:Int)∧(0:Int)<((w_.length:Nat):Int)) (bIf ((hide (eqS (List.getD w_ 0 (⟨#[]⟩:ByteArray)) (⟨#[99,108,111,99,107]⟩:ByteArray)))) (gIf (0≤(0:Int)∧(0:Int)<((u1.1.length:Nat):Int)) (some ((3,(zq,((List.getD u1.1 (0+0) 0),(0,([],()))))),true,()))) (gIf (0≤(0:Int)∧(0:Int)<((w_.length:Nat):Int)) (bIf ((hide (eqS (List.getD w_ 0 (⟨#[]⟩:ByteArray)) (⟨#[102,97,105,108]⟩:ByteArray)))) (gIf (0≤(0:Int)∧(0:Int)<((u1.1.length:Nat):Int)) (some ((7,(zq,(0,((List.getD u1.1 (0+0) 0),([],()))))),true,()))) (some ((0,(zq,(0,(0,([],()))))),false,()))))))))))):=(yae _).trans (by kernel_rfl)
theorem ok (n:Nat):FnOk Tryz.prog 24 ia io (fRun (X n) n T Tryz.f24 ia io):=yaG mixed tabIs (yad (yac (ydT.ok)) (yad (yac (ydB.ok n)) (yad (yac (ycL.ok n)) (yad (yac (ycr.ok n)) (yav))))) Tryz.func24 (by kernel_rfl) rfl
def en (n:Nat):Entry:=yaB 24 ia io (fRun (X n) n T Tryz.f24 ia io)
end ybf
end
end Go.Proofs.YtdlkpmohjhjmfaaGreatDoor

namespace Go.Proofs.YtdlkpmohjhjmfaaGreatDoor
open Go Go.Va Go.Proofs
noncomputable section
namespace ybk
abbrev ia:List Ai:=[.dat .str]
abbrev io:List (Nat×Oi):=[(2,.cel (.p (.d (.int .i64)) (.p (.d yan) (.p (.d (.int .i64)) (.p (.d (.int .i64)) (.p (.r 0 (.int .i64)) (.d .unit))))))),(3,.dat (.int .i64))]
abbrev R:Type:=DOut ia io
def X (n:Nat):Ctx:=⟨⟨tab,[ybf.en n,yb4.en],0,[]⟩,16,bnOf 0 ia⟩
def T:CT := .o
def f (n:Nat)(s_:ByteArray):Option R:=fRun (X n) n T Tryz.f11 ia io (s_,())
theorem e0 (n:Nat)(s_:ByteArray):f n s_=bnd (yb4.f s_ (⟨#[32]⟩:ByteArray)) λu1=>bnd (ybf.f n u1.1) λu2=>bIf ((!u2.2.1)) (some ((0,(zq,(0,(0,([],()))))),5,())) (some (u2.1,0,())):=(yae _).trans (by kernel_rfl)
theorem ok (n:Nat):FnOk Tryz.prog 11 ia io (fRun (X n) n T Tryz.f11 ia io):=yaG mixed tabIs (yad (yac (ybf.ok n)) (yad (yac (yb4.ok)) (yav))) Tryz.func11 (by kernel_rfl) rfl
def en (n:Nat):Entry:=yaB 11 ia io (fRun (X n) n T Tryz.f11 ia io)
end ybk
end
end Go.Proofs.YtdlkpmohjhjmfaaGreatDoor

namespace Go.Proofs.YtdlkpmohjhjmfaaGreatDoor
open Go Go.Va Go.Proofs
noncomputable section
namespace ycN
abbrev ia:List Ai:=[.dat ych]
abbrev io:List (Nat×Oi):=[(2,.dat .str)]
abbrev R:Type:=DOut ia io
def X (n:Nat):Ctx:=⟨⟨tab,[ycD.en n,ydl.en n,ydp.en],0,[]⟩,24,bnOf 0 ia⟩
abbrev g1:List Si:=[.ref 1 1 ych,.dat 3 (.slice (.int .u8)),.dat 16 .bool,.box 1 (.d ych)]
abbrev g2:List Si:=[.ref 1 1 ych,.box 1 (.d ych)]
def T:CT:=(.s .o (.s .o (.s (.s .o (.r g1 .o)) (.r g2 .o))))
def J1 (n:Nat):(List (Int))×Bool×ybU×Unit→Option R:=jR (X n) n T (yaP Tryz.f14) (endK ia io) g1 [1,1,0,1] []
def J2 (n:Nat):ybU×Unit→Option R:=jR (X n) n T (yaP Tryz.f14) (endK ia io) g2 [1,1,1] []
def f (n:Nat)(r:ybU):Option R:=fRun (X n) n T Tryz.f14 ia io (r,())
theorem e0 (n:Nat)(r:ybU):f n r=bnd (ycD.f n r) λu1=>bIf ((hide (r.1==(0:Int)))) (J1 n (u1.1,(hide (u1.2.1==(0:Int))),r,())) (J1 n (u1.1,false,r,())):=(yae _).trans (by kernel_rfl)
theorem e1 (n:Nat)(b:List (Int))(t16:Bool)(r:ybU):J1 n (b,t16,r,())=bIf (t16) (bnd (ydl.f n b) λu1=>gIf ((⟨#[111,107,32]⟩:ByteArray).size+u1.1.size≤4611686018427387904) (some (((⟨#[111,107,32]⟩:ByteArray)++u1.1),()))) (J2 n (r,())):=(yae _).trans (by kernel_rfl)
theorem e2 (n:Nat)(r:ybU):J2 n (r,())=bnd (ydp.f r.1) λu1=>gIf ((⟨#[101,114,114,111,114,32]⟩:ByteArray).size+u1.1.size≤4611686018427387904) (some (((⟨#[101,114,114,111,114,32]⟩:ByteArray)++u1.1),())):=(yae _).trans (by kernel_rfl)
theorem ok (n:Nat):FnOk Tryz.prog 14 ia io (fRun (X n) n T Tryz.f14 ia io):=yaG mixed tabIs (yad (yac (ycD.ok n)) (yad (yac (ydl.ok n)) (yad (yac (ydp.ok)) (yav)))) Tryz.func14 (by kernel_rfl) rfl
def en (n:Nat):Entry:=yaB 14 ia io (fRun (X n) n T Tryz.f14 ia io)
end ycN
end
end Go.Proofs.YtdlkpmohjhjmfaaGreatDoor

namespace Go.Proofs.YtdlkpmohjhjmfaaGreatDoor
open Go Go.Va Go.Proofs
noncomputable section
namespace yc7
abbrev ia:List Ai:=[.dat .str]
abbrev io:List (Nat×Oi):=[(2,.val (.r 0 ybd)),(3,.dat (.int .i64)),(4,.dat (.int .i64))]
abbrev R:Type:=DOut ia io
def X (n:Nat):Ctx:=⟨⟨tab,[ybk.en n,yeu.en],0,[]⟩,43,bnOf 0 ia⟩
abbrev g1:List Si:=[.dat 0 .str,.val 5 (.r 200500 ybd),.dat 6 (.int .i64)]
abbrev g2:List Si:=[.val 5 (.r 200500 ybd)]
def T:CT:=(.s .o (.s .o (.s .o (.s (.s .o (.b (.l g1 .o))) (.r g2 .o)))))
def J1 (n:Nat)(m:Nat):ByteArray×(List (ya2))×Int×Unit→Option R:=jL (X n) n T (yaP Tryz.f13) (endK ia io) g1 [1,1,1,0,1,0] [] m
def J2 (n:Nat):(List (ya2))×Unit→Option R:=jR (X n) n T (yaP Tryz.f13) (endK ia io) g2 [1,1,1,1] []
def f (n:Nat)(s_:ByteArray):Option R:=fRun (X n) n T Tryz.f13 ia io (s_,())
theorem e0 (n:Nat)(s_:ByteArray):f n s_=bIf ((hide (decide ((s_.size:Int)>(65536:Int))))) (some ([],0,9,())) (J1 n n (s_,[],1,())):=(yae _).trans (by kernel_rfl)
theorem e1 (n m:Nat)(s_:ByteArray)(out:List (ya2))(n_:Int):J1 n (m+1) (s_,out,n_,())=bIf ((hide (!eqS s_ (⟨#[]⟩:ByteArray)))) (bnd (yeu.f s_ (⟨#[10]⟩:ByteArray)) λu1=>bnd (ybk.f n u1.1) λu2=>bIf ((hide (u2.2.1 != (0:Int)))) (some ([],n_,u2.2.1,())) (gIf ((out.length+1)*384≤70368744177664) (J1 n m (u1.2.1,(out++([u2.1]:List (ya2))),(IntKind.i64.wrap (n_+(1:Int))),())))) (J2 n (out,())):=(yae _).trans (by kernel_rfl)
theorem e2 (n:Nat)(out:List (ya2)):J2 n (out,())=bIf ((hide (decide (((out.length:Nat):Int)>(4096:Int))))) (some ([],0,9,())) (some (out,0,0,())):=(yae _).trans (by kernel_rfl)
theorem ok (n:Nat):FnOk Tryz.prog 13 ia io (fRun (X n) n T Tryz.f13 ia io):=yaG mixed tabIs (yad (yac (ybk.ok n)) (yad (yac (yeu.ok)) (yav))) Tryz.func13 (by kernel_rfl) rfl
def en (n:Nat):Entry:=yaB 13 ia io (fRun (X n) n T Tryz.f13 ia io)
end yc7
end
end Go.Proofs.YtdlkpmohjhjmfaaGreatDoor

namespace Go.Proofs.YtdlkpmohjhjmfaaGreatDoor
open Go Go.Va Go.Proofs
noncomputable section
namespace ycS
abbrev ia:List Ai:=[.dat ybd]
abbrev io:List (Nat×Oi):=[(2,.dat .bool)]
abbrev R:Type:=DOut ia io
def X (n:Nat):Ctx:=⟨⟨tab,[yd6.en n],0,[]⟩,23,bnOf 0 ia⟩
def T:CT := .o
def f (n:Nat)(a:ya2):Option R:=fRun (X n) n T Tryz.f43 ia io (a,())
theorem e0 (n:Nat)(a:ya2):f n a=bnd (yd6.f n a.2.1 zq) λu1=>bIf (u1.1) (bIf ((hide (a.2.2.1==(0:Int)))) (bIf ((hide (a.2.2.2.1==(0:Int)))) (some ((hide (((a.2.2.2.2.1.length:Nat):Int)==(0:Int))),())) (some (false,()))) (some (false,()))) (some (false,())):=(yae _).trans (by kernel_rfl)
theorem ok (n:Nat):FnOk Tryz.prog 43 ia io (fRun (X n) n T Tryz.f43 ia io):=yaG mixed tabIs (yad (yac (yd6.ok n)) (yav)) Tryz.func43 (by kernel_rfl) rfl
def en (n:Nat):Entry:=yaB 43 ia io (fRun (X n) n T Tryz.f43 ia io)
end ycS
end
end Go.Proofs.YtdlkpmohjhjmfaaGreatDoor

namespace Go.Proofs.YtdlkpmohjhjmfaaGreatDoor
open Go Go.Va Go.Proofs
noncomputable section
namespace ycH
abbrev ia:List Ai:=[.dat ybd]
abbrev io:List (Nat×Oi):=[(2,.val (.r 0 .str)),(3,.dat .bool)]
abbrev R:Type:=DOut ia io
def X (n:Nat):Ctx:=⟨⟨tab,[ydl.en n,ydp.en,ycX.en n,ycS.en n,ydw.en,F_script_word.en],0,[]⟩,101,bnOf 0 ia⟩
abbrev g1:List Si:=[.ref 1 1 ybd,.ref 4 4 ybd,.val 7 (.r 200700 .str),.dat 65 (.slice (.int .i64)),.dat 66 (.int .i64),.dat 67 (.int .i64),.box 1 (.d ybd),.box 4 (.p (.d (.int .i64)) (.p (.d yan) (.p (.d (.int .i64)) (.p (.d (.int .i64)) (.p (.r 100000000004000 (.int .i64)) (.d .unit))))))]
abbrev g2:List Si:=[.ref 1 1 ybd,.ref 4 4 ybd,.val 7 (.r 200700 .str),.box 1 (.d ybd),.box 4 (.p (.d (.int .i64)) (.p (.d yan) (.p (.d (.int .i64)) (.p (.d (.int .i64)) (.p (.r 100000000004000 (.int .i64)) (.d .unit))))))]
abbrev g3:List Si:=[.ref 1 1 ybd,.box 1 (.d ybd)]
def T:CT:=(.s .o (.s .o (.s (.s .o (.b (.s .o (.c .o (.s .o (.c .o (.s .o (.c .o (.s .o (.c (.s .o (.s .o (.s (.s .o (.b (.l g1 .o))) (.r g2 .o)))) .o)))))))))) (.r g3 .o))))
def J1 (n:Nat)(m:Nat):(List (ByteArray))×(List (Int))×Int×Int×ya2×ya2×Unit→Option R:=jL (X n) n T (yaP Tryz.f20) (endK ia io) g1 [1,1,0,1,0,1,1,1,1,1,1,1,0,1,1,0,1,0] [] m
def J2 (n:Nat):(List (ByteArray))×ya2×ya2×Unit→Option R:=jR (X n) n T (yaP Tryz.f20) (endK ia io) g2 [1,1,0,1,0,1,1,1,1,1,1,1,0,1,1,1] []
def J3 (n:Nat):ya2×Unit→Option R:=jR (X n) n T (yaP Tryz.f20) (endK ia io) g3 [1,1,1] []
def f (n:Nat)(a:ya2):Option R:=fRun (X n) n T Tryz.f20 ia io (a,())
theorem e0 (n:Nat)(a:ya2):f n a=bIf ((hide (a.1==(2:Int)))) (bnd (ycX.f n a.2.1) λu1=>bnd (ydl.f n u1.1) λu2=>gIf ((⟨#[120]⟩:ByteArray).size+u2.1.size≤4611686018427387904) (bIf ((hide (u1.2.1==(0:Int)))) (bnd (ycS.f n (a.1,(zq,a.2.2))) λu3=>some (([(⟨#[97,115,107]⟩:ByteArray),((⟨#[120]⟩:ByteArray)++u2.1)]:List (ByteArray)),u3.1,())) (some (([(⟨#[97,115,107]⟩:ByteArray),((⟨#[120]⟩:ByteArray)++u2.1)]:List (ByteArray)),false,())))) (bIf ((hide (a.1==(3:Int)))) (bnd (ydw.f a.2.2.1 10) λu4=>bnd (ycS.f n (a.1,(a.2.1,(0,a.2.2.2)))) λu5=>some (([(⟨#[99,108,111,99,107]⟩:ByteArray),u4.1]:List (ByteArray)),u5.1,())) (bIf ((hide (a.1==(7:Int)))) (bnd (ydp.f a.2.2.2.1) λu6=>bnd (ycS.f n (a.1,(a.2.1,(a.2.2.1,(0,a.2.2.2.2))))) λu7=>some (([(⟨#[102,97,105,108]⟩:ByteArray),u6.1]:List (ByteArray)),u7.1,())) (bIf ((hide (a.1==(8:Int)))) (bnd (ydp.f a.2.2.2.1) λu8=>bnd (ydw.f a.2.2.1 10) λu9=>J1 n n (([(⟨#[99,114,97,115,104]⟩:ByteArray),u8.1,u9.1]:List (ByteArray)),a.2.2.2.2.1,((a.2.2.2.2.1.length:Nat):Int),0,a,(a.1,(a.2.1,(0,(0,([],a.2.2.2.2.2))))),())) (J3 n (a,()))))):=(yae _).trans (by kernel_rfl)
theorem e1 (n m:Nat)(out:List (ByteArray))(t65:List (Int))(t66:Int)(t67:Int)(a:ya2)(rest_:ya2):J1 n (m+1) (out,t65,t66,t67,a,rest_,())=bIf ((hide (decide (t67<t66)))) (gIf (0≤t67∧t67<((t65.length:Nat):Int)) (bnd (ydp.f (List.getD t65 t67.toNat 0)) λu1=>gIf ((out.length+1)*16≤70368744177664) (J1 n m ((out++([u1.1]:List (ByteArray))),t65,t66,(IntKind.i64.wrap (t67+(1:Int))),a,rest_,())))) (J2 n (out,a,rest_,())):=(yae _).trans (by kernel_rfl)
theorem e2 (n:Nat)(out:List (ByteArray))(a:ya2)(rest_:ya2):J2 n (out,a,rest_,())=bnd (ycS.f n rest_) λu1=>bIf (u1.1) (bIf ((hide (decide (a.2.2.1≥(0:Int))))) (some (out,(hide (decide (a.2.2.1≤(255:Int)))),())) (some (out,false,()))) (some (out,false,())):=(yae _).trans (by kernel_rfl)
theorem e3 (n:Nat)(a:ya2):J3 n (a,())=bnd (F_script_word.f a.1) λu1=>bIf ((hide (!eqS u1.1 (⟨#[]⟩:ByteArray)))) (bnd (ycS.f n a) λu2=>some (([u1.1]:List (ByteArray)),u2.1,())) (some (([u1.1]:List (ByteArray)),false,())):=(yae _).trans (by kernel_rfl)
theorem ok (n:Nat):FnOk Tryz.prog 20 ia io (fRun (X n) n T Tryz.f20 ia io):=yaG mixed tabIs (yad (yac (ydl.ok n)) (yad (yac (ydp.ok)) (yad (yac (ycX.ok n)) (yad (yac (ycS.ok n)) (yad (yac (ydw.ok)) (yad (yac (F_script_word.ok)) (yav))))))) Tryz.func20 (by kernel_rfl) rfl
def en (n:Nat):Entry:=yaB 20 ia io (fRun (X n) n T Tryz.f20 ia io)
end ycH
end
end Go.Proofs.YtdlkpmohjhjmfaaGreatDoor

namespace Go.Proofs.YtdlkpmohjhjmfaaGreatDoor
open Go Go.Va Go.Proofs
noncomputable section
namespace ycJ
abbrev ia:List Ai:=[.dat ybd]
abbrev io:List (Nat×Oi):=[(2,.dat .str),(3,.dat (.int .i64))]
abbrev R:Type:=DOut ia io
def X (n:Nat):Ctx:=⟨⟨tab,[ycH.en n,yeV.en],0,[]⟩,15,bnOf 0 ia⟩
def T:CT := .o
def f (n:Nat)(a:ya2):Option R:=fRun (X n) n T Tryz.f8 ia io (a,())
theorem e0 (n:Nat)(a:ya2):f n a=bnd (ycH.f n a) λu1=>bIf ((!u1.2.1)) (some ((⟨#[]⟩:ByteArray),1,())) (bnd (yeV.f u1.1 (⟨#[32]⟩:ByteArray)) λu2=>some (u2.1,0,())):=(yae _).trans (by kernel_rfl)
theorem ok (n:Nat):FnOk Tryz.prog 8 ia io (fRun (X n) n T Tryz.f8 ia io):=yaG mixed tabIs (yad (yac (ycH.ok n)) (yad (yac (yeV.ok)) (yav))) Tryz.func8 (by kernel_rfl) rfl
def en (n:Nat):Entry:=yaB 8 ia io (fRun (X n) n T Tryz.f8 ia io)
end ycJ
end
end Go.Proofs.YtdlkpmohjhjmfaaGreatDoor

namespace Go.Proofs.YtdlkpmohjhjmfaaGreatDoor
open Go Go.Va Go.Proofs
noncomputable section
namespace yc8
abbrev ia:List Ai:=[]
abbrev io:List (Nat×Oi):=[(0,.dat .bool)]
abbrev R:Type:=DOut ia io
def X (n:Nat):Ctx:=⟨⟨tab,[ycJ.en n,ybk.en n,yc7.en n,ycN.en n],0,[]⟩,66,bnOf 0 ia⟩
def T:CT := .o
def f (n:Nat):Option R:=fRun (X n) n T Tryz.f10 ia io (())
theorem e0 (n:Nat):f n=bnd (ybk.f n (⟨#[99,114,97,115,104,32,49,32,53,32,50,32,48]⟩:ByteArray)) λu1=>bnd (ycJ.f n (3,(zq,((-5),(0,([],())))))) λu2=>bnd (yc7.f n (⟨#[111,112,101,110,10,115,119,101,101,112]⟩:ByteArray)) λu3=>bIf ((hide (u1.2.1==(0:Int)))) (bIf ((hide (u2.2.1==(0:Int)))) (bIf ((hide (u3.2.2.1==(0:Int)))) (bIf ((hide (u3.2.1==(0:Int)))) (bIf ((hide (u1.1.2.2.2.1==(1:Int)))) (bIf ((hide (u1.1.2.2.1==(5:Int)))) (bIf ((hide (((u1.1.2.2.2.2.1.length:Nat):Int)==(2:Int)))) (bIf ((hide (eqS u2.1 (⟨#[99,108,111,99,107,32,45,53]⟩:ByteArray)))) (bIf ((hide (((u3.1.length:Nat):Int)==(2:Int)))) (bnd (ycN.f n (7,(0,([],((0,(false,(0,(0,((List.replicate 32 0),(0,((0,(0,(false,()))),([],())))))))),([],(false,([],([],()))))))))) λu4=>some ((hide (eqS u4.1 (⟨#[101,114,114,111,114,32,55]⟩:ByteArray))),())) (some (false,()))) (some (false,()))) (some (false,()))) (some (false,()))) (some (false,()))) (some (false,()))) (some (false,()))) (some (false,()))) (some (false,())):=(yae _).trans (by kernel_rfl)
theorem ok (n:Nat):FnOk Tryz.prog 10 ia io (fRun (X n) n T Tryz.f10 ia io):=yaG mixed tabIs (yad (yac (ycJ.ok n)) (yad (yac (ybk.ok n)) (yad (yac (yc7.ok n)) (yad (yac (ycN.ok n)) (yav))))) Tryz.func10 (by kernel_rfl) rfl
def en (n:Nat):Entry:=yaB 10 ia io (fRun (X n) n T Tryz.f10 ia io)
end yc8
end
end Go.Proofs.YtdlkpmohjhjmfaaGreatDoor

namespace Go.Proofs.YtdlkpmohjhjmfaaGreatDoor
open Go Go.Va Go.Proofs
noncomputable section
namespace yc5
abbrev ia:List Ai:=[.dat ybd]
abbrev io:List (Nat×Oi):=[(2,.dat .bool)]
abbrev R:Type:=DOut ia io
def X (n:Nat):Ctx:=⟨⟨tab,[ybY.en n],0,[]⟩,23,bnOf 0 ia⟩
def T:CT := .o
def f (n:Nat)(a:ya2):Option R:=fRun (X n) n T Tryz.f22 ia io (a,())
theorem e0 (n:Nat)(a:ya2):f n a=bnd (ybY.f n a.2.1 zq) λu1=>bIf (u1.1) (bIf ((hide (a.2.2.1==(0:Int)))) (bIf ((hide (a.2.2.2.1==(0:Int)))) (some ((hide (((a.2.2.2.2.1.length:Nat):Int)==(0:Int))),())) (some (false,()))) (some (false,()))) (some (false,())):=(yae _).trans (by kernel_rfl)
theorem ok (n:Nat):FnOk Tryz.prog 22 ia io (fRun (X n) n T Tryz.f22 ia io):=yaG mixed tabIs (yad (yac (ybY.ok n)) (yav)) Tryz.func22 (by kernel_rfl) rfl
def en (n:Nat):Entry:=yaB 22 ia io (fRun (X n) n T Tryz.f22 ia io)
end yc5
end
end Go.Proofs.YtdlkpmohjhjmfaaGreatDoor

namespace Go.Proofs.YtdlkpmohjhjmfaaGreatDoor
open Go Go.Va Go.Proofs
noncomputable section
namespace ycp
abbrev ia:List Ai:=[.dat ybd]
abbrev io:List (Nat×Oi):=[(2,.dat .str),(3,.dat .bool)]
abbrev R:Type:=DOut ia io
def X (n:Nat):Ctx:=⟨⟨tab,[yd3.en n,ydf.en n,yc5.en n,yep.en n],0,[]⟩,109,bnOf 0 ia⟩
abbrev g1:List Si:=[.ref 1 1 ybd,.ref 4 4 ybd,.dat 7 .str,.dat 8 (.int .i64),.box 1 (.d ybd),.box 4 (.p (.d (.int .i64)) (.p (.d yan) (.p (.d (.int .i64)) (.p (.d (.int .i64)) (.p (.r 100000000004000 (.int .i64)) (.d .unit))))))]
abbrev g2:List Si:=[.ref 1 1 ybd,.ref 4 4 ybd,.dat 7 .str,.box 1 (.d ybd),.box 4 (.p (.d (.int .i64)) (.p (.d yan) (.p (.d (.int .i64)) (.p (.d (.int .i64)) (.p (.r 100000000004000 (.int .i64)) (.d .unit))))))]
abbrev g3:List Si:=[]
def T:CT:=(.s .o (.s .o (.s (.s .o (.b (.s .o (.c .o (.s .o (.c .o (.s .o (.c .o (.s .o (.c .o (.s .o (.c .o (.s .o (.c .o (.s .o (.c .o (.s .o (.c (.s .o (.s .o (.s .o (.s .o (.s (.s .o (.b (.l g1 .o))) (.r g2 .o)))))) .o)))))))))))))))))) (.r g3 .o))))
def J1 (n:Nat)(m:Nat):ByteArray×Int×ya2×ya2×Unit→Option R:=jL (X n) n T (yaP Tryz.f9) (endK ia io) g1 [1,1,0,1,0,1,1,1,1,1,1,1,1,1,1,1,1,1,1,1,0,1,1,1,1,0,1,0] [] m
def J2 (n:Nat):ByteArray×ya2×ya2×Unit→Option R:=jR (X n) n T (yaP Tryz.f9) (endK ia io) g2 [1,1,0,1,0,1,1,1,1,1,1,1,1,1,1,1,1,1,1,1,0,1,1,1,1,1] []
def J3 (n:Nat):Unit→Option R:=jR (X n) n T (yaP Tryz.f9) (endK ia io) g3 [1,1,1] []
def f (n:Nat)(a:ya2):Option R:=fRun (X n) n T Tryz.f9 ia io (a,())
theorem e0 (n:Nat)(a:ya2):f n a=bIf ((hide (a.1==(1:Int)))) (bnd (yc5.f n a) λu1=>some ((⟨#[111,112,101,110]⟩:ByteArray),u1.1,())) (bIf ((hide (a.1==(4:Int)))) (bnd (yc5.f n a) λu2=>some ((⟨#[115,119,101,101,112]⟩:ByteArray),u2.1,())) (bIf ((hide (a.1==(5:Int)))) (bnd (yc5.f n a) λu3=>some ((⟨#[99,111,108,108,101,99,116]⟩:ByteArray),u3.1,())) (bIf ((hide (a.1==(6:Int)))) (bnd (yc5.f n a) λu4=>some ((⟨#[99,104,101,99,107]⟩:ByteArray),u4.1,())) (bIf ((hide (a.1==(2:Int)))) (bnd (yep.f n a.2.1) λu5=>bnd (yd3.f n (ybQ u5.1)) λu6=>gIf ((⟨#[97,115,107,32,120]⟩:ByteArray).size+u6.1.size≤4611686018427387904) (bIf ((hide (u5.2.1==(0:Int)))) (bnd (yc5.f n (a.1,(zq,a.2.2))) λu7=>some (((⟨#[97,115,107,32,120]⟩:ByteArray)++u6.1),u7.1,())) (some (((⟨#[97,115,107,32,120]⟩:ByteArray)++u6.1),false,())))) (bIf ((hide (a.1==(3:Int)))) (bnd (ydf.f n a.2.2.1) λu8=>gIf ((⟨#[99,108,111,99,107,32]⟩:ByteArray).size+u8.1.size≤4611686018427387904) (bnd (yc5.f n (a.1,(a.2.1,(0,a.2.2.2)))) λu9=>some (((⟨#[99,108,111,99,107,32]⟩:ByteArray)++u8.1),u9.1,()))) (bIf ((hide (a.1==(7:Int)))) (bnd (ydf.f n a.2.2.2.1) λu10=>gIf ((⟨#[102,97,105,108,32]⟩:ByteArray).size+u10.1.size≤4611686018427387904) (bnd (yc5.f n (a.1,(a.2.1,(a.2.2.1,(0,a.2.2.2.2))))) λu11=>some (((⟨#[102,97,105,108,32]⟩:ByteArray)++u10.1),u11.1,()))) (bIf ((hide (a.1==(8:Int)))) (bnd (ydf.f n a.2.2.2.1) λu12=>gIf ((⟨#[99,114,97,115,104,32]⟩:ByteArray).size+u12.1.size≤4611686018427387904) (gIf (((⟨#[99,114,97,115,104,32]⟩:ByteArray)++u12.1).size+(⟨#[32]⟩:ByteArray).size≤4611686018427387904) (bnd (ydf.f n a.2.2.1) λu13=>gIf ((((⟨#[99,114,97,115,104,32]⟩:ByteArray)++u12.1)++(⟨#[32]⟩:ByteArray)).size+u13.1.size≤4611686018427387904) (J1 n n (((((⟨#[99,114,97,115,104,32]⟩:ByteArray)++u12.1)++(⟨#[32]⟩:ByteArray))++u13.1),0,a,(a.1,(a.2.1,(0,(0,([],a.2.2.2.2.2))))),()))))) (J3 n (()))))))))):=(yae _).trans (by kernel_rfl)
theorem e1 (n m:Nat)(s_:ByteArray)(i:Int)(a:ya2)(b:ya2):J1 n (m+1) (s_,i,a,b,())=bIf ((hide (decide (i<((a.2.2.2.2.1.length:Nat):Int))))) (gIf (0≤i∧i<((a.2.2.2.2.1.length:Nat):Int)) (bnd (ydf.f n (List.getD a.2.2.2.2.1 i.toNat 0)) λu1=>gIf ((⟨#[32]⟩:ByteArray).size+u1.1.size≤4611686018427387904) (gIf (s_.size+((⟨#[32]⟩:ByteArray)++u1.1).size≤4611686018427387904) (J1 n m ((s_++((⟨#[32]⟩:ByteArray)++u1.1)),(IntKind.i64.wrap (i+(1:Int))),a,b,()))))) (J2 n (s_,a,b,())):=(yae _).trans (by kernel_rfl)
theorem e2 (n:Nat)(s_:ByteArray)(a:ya2)(b:ya2):J2 n (s_,a,b,())=bnd (yc5.f n b) λu1=>bIf (u1.1) (bIf ((hide (decide (a.2.2.1≥(0:Int))))) (some (s_,(hide (decide (a.2.2.1≤(255:Int)))),())) (some (s_,false,()))) (some (s_,false,())):=(yae _).trans (by kernel_rfl)
theorem e3 (n:Nat):J3 n (())=some ((⟨#[]⟩:ByteArray),false,()):=(yae _).trans (by kernel_rfl)
theorem ok (n:Nat):FnOk Tryz.prog 9 ia io (fRun (X n) n T Tryz.f9 ia io):=yaG mixed tabIs (yad (yac (yd3.ok n)) (yad (yac (ydf.ok n)) (yad (yac (yc5.ok n)) (yad (yac (yep.ok n)) (yav))))) Tryz.func9 (by kernel_rfl) rfl
def en (n:Nat):Entry:=yaB 9 ia io (fRun (X n) n T Tryz.f9 ia io)
end ycp
end
end Go.Proofs.YtdlkpmohjhjmfaaGreatDoor

namespace Go.Proofs.YtdlkpmohjhjmfaaGreatDoor
open Go Go.Va Go.Proofs
noncomputable section
namespace yci
abbrev ia:List Ai:=[.dat ybd]
abbrev io:List (Nat×Oi):=[(2,.dat .bool)]
abbrev R:Type:=DOut ia io
def X (n:Nat):Ctx:=⟨⟨tab,[ycJ.en n,ycp.en n,yc8.en n],0,[]⟩,38,bnOf 0 ia⟩
def T:CT := .o
def f (n:Nat)(a:ya2):Option R:=fRun (X n) n T Tryz.f3 ia io (a,())
theorem e0 (n:Nat)(a:ya2):f n a=bnd (ycJ.f n a) λu1=>bnd (ycp.f n a) λu2=>bIf ((!u2.2.1)) (bnd (yc8.f n) λu3=>bIf (u3.1) (bIf ((hide (u1.2.1==(1:Int)))) (some ((hide (eqS u1.1 (⟨#[]⟩:ByteArray))),())) (some (false,()))) (some (false,()))) (bnd (yc8.f n) λu4=>bIf (u4.1) (bIf ((hide (u1.2.1==(0:Int)))) (some ((hide (eqS u1.1 u2.1)),())) (some (false,()))) (some (false,()))):=(yae _).trans (by kernel_rfl)
theorem ok (n:Nat):FnOk Tryz.prog 3 ia io (fRun (X n) n T Tryz.f3 ia io):=yaG mixed tabIs (yad (yac (ycJ.ok n)) (yad (yac (ycp.ok n)) (yad (yac (yc8.ok n)) (yav)))) Tryz.func3 (by kernel_rfl) rfl
def en (n:Nat):Entry:=yaB 3 ia io (fRun (X n) n T Tryz.f3 ia io)
end yci
end
end Go.Proofs.YtdlkpmohjhjmfaaGreatDoor

namespace Go.Proofs.YtdlkpmohjhjmfaaGreatDoor
open Go Go.Va Go.Proofs
noncomputable section
namespace yc4
abbrev ia:List Ai:=[.dat ybd,.dat ybd]
abbrev io:List (Nat×Oi):=[(4,.dat .bool)]
abbrev R:Type:=DOut ia io
def X (n:Nat):Ctx:=⟨⟨tab,[ybY.en n],0,[]⟩,60,bnOf 0 ia⟩
abbrev g1:List Si:=[.ref 2 2 ybd,.ref 3 3 ybd,.box 2 (.d ybd),.box 3 (.d ybd)]
abbrev g2:List Si:=[.ref 2 2 ybd,.ref 3 3 ybd,.dat 5 (.int .i64),.box 2 (.d ybd),.box 3 (.d ybd)]
abbrev g3:List Si:=[]
def T:CT:=(.s .o (.s .o (.r g1 (.s (.s .o (.b (.l g2 .o))) (.r g3 .o)))))
def J1 (n:Nat):ya2×ya2×Unit→Option R:=jR (X n) n T (yaP Tryz.f12) (endK ia io) g1 [1,1] []
def J2 (n:Nat)(m:Nat):Int×ya2×ya2×Unit→Option R:=jL (X n) n T (yaP Tryz.f12) (endK ia io) g2 [1,1,0,1,0] [] m
def J3 (n:Nat):Unit→Option R:=jR (X n) n T (yaP Tryz.f12) (endK ia io) g3 [1,1,1] []
def f (n:Nat)(a:ya2)(b:ya2):Option R:=fRun (X n) n T Tryz.f12 ia io (a,b,())
theorem e0 (n:Nat)(a:ya2)(b:ya2):f n a b=bIf ((hide (a.1 != b.1))) (some (false,())) (bIf ((hide (a.2.2.1 != b.2.2.1))) (some (false,())) (bIf ((hide (a.2.2.2.1 != b.2.2.2.1))) (some (false,())) (bnd (ybY.f n a.2.1 b.2.1) λu1=>bIf ((!u1.1)) (some (false,())) (bIf ((hide (((a.2.2.2.2.1.length:Nat):Int) != ((b.2.2.2.2.1.length:Nat):Int)))) (some (false,())) (J1 n (a,b,())))))):=(yae _).trans (by kernel_rfl)
theorem e1 (n:Nat)(a:ya2)(b:ya2):J1 n (a,b,())=J2 n n (0,a,b,()):=(yae _).trans (by kernel_rfl)
theorem e2 (n m:Nat)(i:Int)(a:ya2)(b:ya2):J2 n (m+1) (i,a,b,())=bIf ((hide (decide (i<((a.2.2.2.2.1.length:Nat):Int))))) (gIf (0≤i∧i<((a.2.2.2.2.1.length:Nat):Int)) (gIf (0≤i∧i<((b.2.2.2.2.1.length:Nat):Int)) (bIf ((hide ((List.getD a.2.2.2.2.1 i.toNat 0) != (List.getD b.2.2.2.2.1 i.toNat 0)))) (some (false,())) (J2 n m ((IntKind.i64.wrap (i+(1:Int))),a,b,()))))) (J3 n (())):=(yae _).trans (by kernel_rfl)
theorem e3 (n:Nat):J3 n (())=some (true,()):=(yae _).trans (by kernel_rfl)
theorem ok (n:Nat):FnOk Tryz.prog 12 ia io (fRun (X n) n T Tryz.f12 ia io):=yaG mixed tabIs (yad (yac (ybY.ok n)) (yav)) Tryz.func12 (by kernel_rfl) rfl
def en (n:Nat):Entry:=yaB 12 ia io (fRun (X n) n T Tryz.f12 ia io)
end yc4
end
end Go.Proofs.YtdlkpmohjhjmfaaGreatDoor

namespace Go.Proofs.YtdlkpmohjhjmfaaGreatDoor
open Go Go.Va Go.Proofs
noncomputable section
namespace ybH
abbrev ia:List Ai:=[.dat ybd,.dat .str]
abbrev io:List (Nat×Oi):=[(4,.dat .bool)]
abbrev R:Type:=DOut ia io
def X (n:Nat):Ctx:=⟨⟨tab,[ycp.en n,yc8.en n,ybk.en n,yc4.en n],0,[]⟩,61,bnOf 0 ia⟩
abbrev g1:List Si:=[.dat 1 .str]
def T:CT:=(.s .o (.s .o (.s .o (.r g1 .o))))
def J1 (n:Nat):ByteArray×Unit→Option R:=jR (X n) n T (yaP Tryz.f4) (endK ia io) g1 [1,1,1] []
def f (n:Nat)(a:ya2)(s_:ByteArray):Option R:=fRun (X n) n T Tryz.f4 ia io (a,s_,())
theorem e0 (n:Nat)(a:ya2)(s_:ByteArray):f n a s_=bnd (ycp.f n a) λu1=>bIf (u1.2.1) (bnd (ybk.f n u1.1) λu2=>bIf ((hide (u2.2.1 != (0:Int)))) (some (false,())) (bnd (yc4.f n a u2.1) λu3=>bIf ((!u3.1)) (some (false,())) (J1 n (s_,())))) (J1 n (s_,())):=(yae _).trans (by kernel_rfl)
theorem e1 (n:Nat)(s_:ByteArray):J1 n (s_,())=bnd (ybk.f n s_) λu1=>bIf ((hide (u1.2.1 != (0:Int)))) (bnd (yc8.f n) λu2=>bIf (u2.1) (bIf ((hide (u1.2.1==(5:Int)))) (bnd (yc4.f n u1.1 (0,(zq,(0,(0,([],())))))) λu3=>some (u3.1,())) (some (false,()))) (some (false,()))) (bnd (ycp.f n u1.1) λu4=>bnd (yc8.f n) λu5=>bIf (u5.1) (bIf (u4.2.1) (some ((hide (eqS u4.1 s_)),())) (some (false,()))) (some (false,()))):=(yae _).trans (by kernel_rfl)
theorem ok (n:Nat):FnOk Tryz.prog 4 ia io (fRun (X n) n T Tryz.f4 ia io):=yaG mixed tabIs (yad (yac (ycp.ok n)) (yad (yac (yc8.ok n)) (yad (yac (ybk.ok n)) (yad (yac (yc4.ok n)) (yav))))) Tryz.func4 (by kernel_rfl) rfl
def en (n:Nat):Entry:=yaB 4 ia io (fRun (X n) n T Tryz.f4 ia io)
end ybH
end
end Go.Proofs.YtdlkpmohjhjmfaaGreatDoor

