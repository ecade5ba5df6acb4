/-
  What the functions compute, by the abstract interpreter.
-/
import Derived.Test.YtdlkpmohjhjmfaaGreatDoorF0
import Derived.Shelf.Strings.Builder1
set_option linter.unusedVariables false
set_option linter.unusedSimpArgs false
namespace Go.Proofs.YtdlkpmohjhjmfaaGreatDoor
open Go Go.Va Go.Proofs
noncomputable section
namespace ybW
abbrev ia:List Ai:=[]
abbrev io:List (Nat×Oi):=[(0,.newc 1 (.p (.r 0 (.int .u8)) (.d .unit)))]
abbrev R:Type:=DOut ia io
def X (n:Nat):Ctx:=⟨⟨tab,[yeJ.en n],0,[]⟩,3,bnOf 0 ia⟩
def T:CT := .o
def f (n:Nat):Option R:=fRun (X n) n T Tryz.f57 ia io (())
theorem e0 (n:Nat):f n=bnd (yeJ.f n) λu1=>some (u1.1,()):=(yae _).trans (by kernel_rfl)
theorem ok (n:Nat):FnOk Tryz.prog 57 ia io (fRun (X n) n T Tryz.f57 ia io):=yaG mixed tabIs (yad (yac (yeJ.ok n)) (yav)) Tryz.func57 (by kernel_rfl) rfl
def en (n:Nat):Entry:=yaB 57 ia io (fRun (X n) n T Tryz.f57 ia io)
end ybW
namespace yd6
abbrev ia:List Ai:=[.dat yco]
abbrev io:List (Nat×Oi):=[(2,.dat .bool)]
abbrev R:Type:=DOut ia io
def X (n:Nat):Ctx:=⟨⟨tab,[ybj.en n],0,[]⟩,6,bnOf 0 ia⟩
def T:CT := .o
def f (n:Nat)(v_:ybD):Option R:=fRun (X n) n T Tryz.f107 ia io (v_,())
theorem e0 (n:Nat)(v_:ybD):f n v_=bnd (ybj.f n v_ (0,(false,(0,(0,((List.replicate 32 0),(0,((0,(0,(false,()))),([],()))))))))) λu1=>some (u1.1,()):=(yae _).trans (by kernel_rfl)
theorem ok (n:Nat):FnOk Tryz.prog 107 ia io (fRun (X n) n T Tryz.f107 ia io):=yaG mixed tabIs (yad (yac (ybj.ok n)) (yav)) Tryz.func107 (by kernel_rfl) rfl
def en (n:Nat):Entry:=yaB 107 ia io (fRun (X n) n T Tryz.f107 ia io)
end yd6
namespace yej
abbrev ia:List Ai:=[.dat ycs]
abbrev io:List (Nat×Oi):=[(2,.dat .bool)]
abbrev R:Type:=DOut ia io
def X (n:Nat):Ctx:=⟨⟨tab,[yd6.en n,ycS.en n],0,[]⟩,20,bnOf 0 ia⟩
def T:CT := .o
def f (n:Nat)(r:ycF):Option R:=fRun (X n) n T Tryz.f111 ia io (r,())
theorem e0 (n:Nat)(r:ycF):f n r=bIf ((hide (decide ((r.1.size:Int)>(200:Int))))) (some (false,())) (bIf (r.2.1) (bIf ((!r.2.2.2.1)) (bnd (yd6.f n r.2.2.1) λu1=>some (u1.1,())) (some (false,()))) (bnd (ycS.f n r.2.2.1) λu2=>some (u2.1,()))):=(yae _).trans (by kernel_rfl)
theorem ok (n:Nat):FnOk Tryz.prog 111 ia io (fRun (X n) n T Tryz.f111 ia io):=yaG mixed tabIs (yad (yac (yd6.ok n)) (yad (yac (ycS.ok n)) (yav))) Tryz.func111 (by kernel_rfl) rfl
def en (n:Nat):Entry:=yaB 111 ia io (fRun (X n) n T Tryz.f111 ia io)
end yej
namespace yeR
abbrev ia:List Ai:=[.dat ycs]
abbrev io:List (Nat×Oi):=[(2,.dat .bool)]
abbrev R:Type:=DOut ia io
def X (n:Nat):Ctx:=⟨⟨tab,[yej.en n],0,[]⟩,6,bnOf 0 ia⟩
def T:CT := .o
def f (n:Nat)(x_:ycF):Option R:=fRun (X n) n T Tryz.f110 ia io (x_,())
theorem e0 (n:Nat)(x_:ycF):f n x_=bnd (yej.f n x_) λu1=>some ((!u1.1),()):=(yae _).trans (by kernel_rfl)
theorem ok (n:Nat):FnOk Tryz.prog 110 ia io (fRun (X n) n T Tryz.f110 ia io):=yaG mixed tabIs (yad (yac (yej.ok n)) (yav)) Tryz.func110 (by kernel_rfl) rfl
def en (n:Nat):Entry:=yaB 110 ia io (fRun (X n) n T Tryz.f110 ia io)
end yeR
namespace ybR
abbrev ia:List Ai:=[.dat (.slice ycs),.fn (.fn 110) []]
abbrev io:List (Nat×Oi):=[(4,.dat (.int .i64))]
abbrev R:Type:=DOut ia io
def X (n:Nat):Ctx:=⟨⟨tab,[yeR.en n],0,[]⟩,19,bnOf 0 ia⟩
abbrev g1:List Si:=[.dat 0 (.slice ycs),.clo 1 (.fn 110) [],.dat 7 (.int .i64),.dat 8 (.int .i64)]
abbrev g2:List Si:=[]
def T:CT:=(.s .o (.s (.s .o (.b (.l g1 .o))) (.r g2 .o)))
def J1 (n:Nat)(m:Nat):(List (ycF))×Int×Int×Unit→Option R:=jL (X n) n T (yaM Tryz.f173) (endK ia io) g1 [1,0,1,0] [] m
def J2 (n:Nat):Unit→Option R:=jR (X n) n T (yaM Tryz.f173) (endK ia io) g2 [1,1] []
def f (n:Nat)(s_:List (ycF)):Option R:=fRun (X n) n T Tryz.f173 ia io (s_,())
theorem e0 (n:Nat)(s_:List (ycF)):f n s_=J1 n n (s_,((s_.length:Nat):Int),0,()):=(yae _).trans (by kernel_rfl)
theorem e1 (n m:Nat)(s_:List (ycF))(t7:Int)(t8:Int):J1 n (m+1) (s_,t7,t8,())=bIf ((hide (decide (t8<t7)))) (gIf (0≤t8∧t8<((s_.length:Nat):Int)) (bnd (yeR.f n (List.getD s_ t8.toNat (Va.dflt ycs))) λu1=>bIf (u1.1) (some (t8,())) (J1 n m (s_,t7,(IntKind.i64.wrap (t8+(1:Int))),())))) (J2 n (())):=(yae _).trans (by kernel_rfl)
theorem e2 (n:Nat):J2 n (())=some ((-1),()):=(yae _).trans (by kernel_rfl)
theorem ok (n:Nat):FnOk Tryz.prog 173 ia io (fRun (X n) n T Tryz.f173 ia io):=yaG mixed tabIs (yad (yac (yeR.ok n)) (yav)) Tryz.func173 (by kernel_rfl) rfl
def en (n:Nat):Entry:=yaB 173 ia io (fRun (X n) n T Tryz.f173 ia io)
end ybR
namespace yca
abbrev ia:List Ai:=[.dat (.slice ycs),.fn (.fn 110) []]
abbrev io:List (Nat×Oi):=[(4,.dat .bool)]
abbrev R:Type:=DOut ia io
def X (n:Nat):Ctx:=⟨⟨tab,[ybR.en n],0,[]⟩,9,bnOf 0 ia⟩
def T:CT := .o
def f (n:Nat)(s_:List (ycF)):Option R:=fRun (X n) n T Tryz.f109 ia io (s_,())
theorem e0 (n:Nat)(s_:List (ycF)):f n s_=bnd (ybR.f n s_) λu1=>some ((hide (decide (u1.1≥(0:Int)))),()):=(yae _).trans (by kernel_rfl)
theorem ok (n:Nat):FnOk Tryz.prog 109 ia io (fRun (X n) n T Tryz.f109 ia io):=yaG mixed tabIs (yad (yac (ybR.ok n)) (yav)) Tryz.func109 (by kernel_rfl) rfl
def en (n:Nat):Entry:=yaB 109 ia io (fRun (X n) n T Tryz.f109 ia io)
end yca
namespace yeV
abbrev ia:List Ai:=[.dat (.int .i64)]
abbrev io:List (Nat×Oi):=[(2,.dat .bool)]
abbrev R:Type:=DOut ia io
def X (n:Nat):Ctx:=⟨⟨tab,[],0,[]⟩,5,bnOf 0 ia⟩
def T:CT := .o
def f (n:Nat)(n_:Int):Option R:=fRun (X n) n T Tryz.f113 ia io (n_,())
theorem e0 (n:Nat)(n_:Int):f n n_=some ((hide (decide (n_<(0:Int)))),()):=(yae _).trans (by kernel_rfl)
theorem ok (n:Nat):FnOk Tryz.prog 113 ia io (fRun (X n) n T Tryz.f113 ia io):=yaG mixed tabIs (yav) Tryz.func113 (by kernel_rfl) rfl
def en (n:Nat):Entry:=yaB 113 ia io (fRun (X n) n T Tryz.f113 ia io)
end yeV
namespace ybQ
abbrev ia:List Ai:=[.dat (.slice (.int .i64)),.fn (.fn 113) []]
abbrev io:List (Nat×Oi):=[(4,.dat (.int .i64))]
abbrev R:Type:=DOut ia io
def X (n:Nat):Ctx:=⟨⟨tab,[yeV.en n],0,[]⟩,19,bnOf 0 ia⟩
abbrev g1:List Si:=[.dat 0 (.slice (.int .i64)),.clo 1 (.fn 113) [],.dat 7 (.int .i64),.dat 8 (.int .i64)]
abbrev g2:List Si:=[]
def T:CT:=(.s .o (.s (.s .o (.b (.l g1 .o))) (.r g2 .o)))
def J1 (n:Nat)(m:Nat):(List (Int))×Int×Int×Unit→Option R:=jL (X n) n T (yaM Tryz.f174) (endK ia io) g1 [1,0,1,0] [] m
def J2 (n:Nat):Unit→Option R:=jR (X n) n T (yaM Tryz.f174) (endK ia io) g2 [1,1] []
def f (n:Nat)(s_:List (Int)):Option R:=fRun (X n) n T Tryz.f174 ia io (s_,())
theorem e0 (n:Nat)(s_:List (Int)):f n s_=J1 n n (s_,((s_.length:Nat):Int),0,()):=(yae _).trans (by kernel_rfl)
theorem e1 (n m:Nat)(s_:List (Int))(t7:Int)(t8:Int):J1 n (m+1) (s_,t7,t8,())=bIf ((hide (decide (t8<t7)))) (gIf (0≤t8∧t8<((s_.length:Nat):Int)) (bnd (yeV.f n (List.getD s_ t8.toNat 0)) λu1=>bIf (u1.1) (some (t8,())) (J1 n m (s_,t7,(IntKind.i64.wrap (t8+(1:Int))),())))) (J2 n (())):=(yae _).trans (by kernel_rfl)
theorem e2 (n:Nat):J2 n (())=some ((-1),()):=(yae _).trans (by kernel_rfl)
theorem ok (n:Nat):FnOk Tryz.prog 174 ia io (fRun (X n) n T Tryz.f174 ia io):=yaG mixed tabIs (yad (yac (yeV.ok n)) (yav)) Tryz.func174 (by kernel_rfl) rfl
def en (n:Nat):Entry:=yaB 174 ia io (fRun (X n) n T Tryz.f174 ia io)
end ybQ
namespace ycb
abbrev ia:List Ai:=[.dat (.slice (.int .i64)),.fn (.fn 113) []]
abbrev io:List (Nat×Oi):=[(4,.dat .bool)]
abbrev R:Type:=DOut ia io
def X (n:Nat):Ctx:=⟨⟨tab,[ybQ.en n],0,[]⟩,9,bnOf 0 ia⟩
def T:CT := .o
def f (n:Nat)(s_:List (Int)):Option R:=fRun (X n) n T Tryz.f112 ia io (s_,())
theorem e0 (n:Nat)(s_:List (Int)):f n s_=bnd (ybQ.f n s_) λu1=>some ((hide (decide (u1.1≥(0:Int)))),()):=(yae _).trans (by kernel_rfl)
theorem ok (n:Nat):FnOk Tryz.prog 112 ia io (fRun (X n) n T Tryz.f112 ia io):=yaG mixed tabIs (yad (yac (ybQ.ok n)) (yav)) Tryz.func112 (by kernel_rfl) rfl
def en (n:Nat):Entry:=yaB 112 ia io (fRun (X n) n T Tryz.f112 ia io)
end ycb
namespace yeN
abbrev ia:List Ai:=[.dat .str]
abbrev io:List (Nat×Oi):=[(2,.dat .bool)]
abbrev R:Type:=DOut ia io
def X (n:Nat):Ctx:=⟨⟨tab,[],0,[]⟩,6,bnOf 0 ia⟩
def T:CT := .o
def f (n:Nat)(s_:ByteArray):Option R:=fRun (X n) n T Tryz.f115 ia io (s_,())
theorem e0 (n:Nat)(s_:ByteArray):f n s_=some ((hide (decide ((s_.size:Int)>(63:Int)))),()):=(yae _).trans (by kernel_rfl)
theorem ok (n:Nat):FnOk Tryz.prog 115 ia io (fRun (X n) n T Tryz.f115 ia io):=yaG mixed tabIs (yav) Tryz.func115 (by kernel_rfl) rfl
def en (n:Nat):Entry:=yaB 115 ia io (fRun (X n) n T Tryz.f115 ia io)
end yeN
namespace ybv
abbrev ia:List Ai:=[.dat (.slice .str),.fn (.fn 115) []]
abbrev io:List (Nat×Oi):=[(4,.dat (.int .i64))]
abbrev R:Type:=DOut ia io
def X (n:Nat):Ctx:=⟨⟨tab,[yeN.en n],0,[]⟩,19,bnOf 0 ia⟩
abbrev g1:List Si:=[.dat 0 (.slice .str),.clo 1 (.fn 115) [],.dat 7 (.int .i64),.dat 8 (.int .i64)]
abbrev g2:List Si:=[]
def T:CT:=(.s .o (.s (.s .o (.b (.l g1 .o))) (.r g2 .o)))
def J1 (n:Nat)(m:Nat):(List (ByteArray))×Int×Int×Unit→Option R:=jL (X n) n T (yaM Tryz.f175) (endK ia io) g1 [1,0,1,0] [] m
def J2 (n:Nat):Unit→Option R:=jR (X n) n T (yaM Tryz.f175) (endK ia io) g2 [1,1] []
def f (n:Nat)(s_:List (ByteArray)):Option R:=fRun (X n) n T Tryz.f175 ia io (s_,())
theorem e0 (n:Nat)(s_:List (ByteArray)):f n s_=J1 n n (s_,((s_.length:Nat):Int),0,()):=(yae _).trans (by kernel_rfl)
theorem e1 (n m:Nat)(s_:List (ByteArray))(t7:Int)(t8:Int):J1 n (m+1) (s_,t7,t8,())=bIf ((hide (decide (t8<t7)))) (gIf (0≤t8∧t8<((s_.length:Nat):Int)) (bnd (yeN.f n (List.getD s_ t8.toNat (⟨#[]⟩:ByteArray))) λu1=>bIf (u1.1) (some (t8,())) (J1 n m (s_,t7,(IntKind.i64.wrap (t8+(1:Int))),())))) (J2 n (())):=(yae _).trans (by kernel_rfl)
theorem e2 (n:Nat):J2 n (())=some ((-1),()):=(yae _).trans (by kernel_rfl)
theorem ok (n:Nat):FnOk Tryz.prog 175 ia io (fRun (X n) n T Tryz.f175 ia io):=yaG mixed tabIs (yad (yac (yeN.ok n)) (yav)) Tryz.func175 (by kernel_rfl) rfl
def en (n:Nat):Entry:=yaB 175 ia io (fRun (X n) n T Tryz.f175 ia io)
end ybv
namespace ybT
abbrev ia:List Ai:=[.dat (.slice .str),.fn (.fn 115) []]
abbrev io:List (Nat×Oi):=[(4,.dat .bool)]
abbrev R:Type:=DOut ia io
def X (n:Nat):Ctx:=⟨⟨tab,[ybv.en n],0,[]⟩,9,bnOf 0 ia⟩
def T:CT := .o
def f (n:Nat)(s_:List (ByteArray)):Option R:=fRun (X n) n T Tryz.f114 ia io (s_,())
theorem e0 (n:Nat)(s_:List (ByteArray)):f n s_=bnd (ybv.f n s_) λu1=>some ((hide (decide (u1.1≥(0:Int)))),()):=(yae _).trans (by kernel_rfl)
theorem ok (n:Nat):FnOk Tryz.prog 114 ia io (fRun (X n) n T Tryz.f114 ia io):=yaG mixed tabIs (yad (yac (ybv.ok n)) (yav)) Tryz.func114 (by kernel_rfl) rfl
def en (n:Nat):Entry:=yaB 114 ia io (fRun (X n) n T Tryz.f114 ia io)
end ybT
namespace yek
abbrev ia:List Ai:=[.dat ycs,.dat ycs]
abbrev io:List (Nat×Oi):=[(4,.dat .bool)]
abbrev R:Type:=DOut ia io
def X (n:Nat):Ctx:=⟨⟨tab,[ybj.en n],0,[]⟩,31,bnOf 0 ia⟩
def T:CT := .o
def f (n:Nat)(a:ycF)(b:ycF):Option R:=fRun (X n) n T Tryz.f168 ia io (a,b,())
theorem e0 (n:Nat)(a:ycF)(b:ycF):f n a b=bIf ((hide (eqS a.1 b.1))) (bIf ((hide (a.2.1==b.2.1))) (bIf ((hide (a.2.2.2.1==b.2.2.2.1))) (bnd (ybj.f n a.2.2.1 b.2.2.1) λu1=>some (u1.1,())) (some (false,()))) (some (false,()))) (some (false,())):=(yae _).trans (by kernel_rfl)
theorem ok (n:Nat):FnOk Tryz.prog 168 ia io (fRun (X n) n T Tryz.f168 ia io):=yaG mixed tabIs (yad (yac (ybj.ok n)) (yav)) Tryz.func168 (by kernel_rfl) rfl
def en (n:Nat):Entry:=yaB 168 ia io (fRun (X n) n T Tryz.f168 ia io)
end yek
namespace ybu
abbrev ia:List Ai:=[.dat (.slice ycs),.dat (.slice ycs),.fn (.fn 168) []]
abbrev io:List (Nat×Oi):=[(6,.dat .bool)]
abbrev R:Type:=DOut ia io
def X (n:Nat):Ctx:=⟨⟨tab,[yek.en n],0,[]⟩,32,bnOf 0 ia⟩
abbrev g1:List Si:=[.dat 1 (.slice ycs),.clo 2 (.fn 168) [],.dat 15 (.slice ycs),.dat 16 (.int .i64),.dat 17 (.int .i64)]
abbrev g2:List Si:=[]
def T:CT:=(.s .o (.s .o (.s (.s .o (.b (.l g1 .o))) (.r g2 .o))))
def J1 (n:Nat)(m:Nat):(List (ycF))×(List (ycF))×Int×Int×Unit→Option R:=jL (X n) n T (yaM Tryz.f167) (endK ia io) g1 [1,1,0,1,0] [] m
def J2 (n:Nat):Unit→Option R:=jR (X n) n T (yaM Tryz.f167) (endK ia io) g2 [1,1,1] []
def f (n:Nat)(s1:List (ycF))(s2:List (ycF)):Option R:=fRun (X n) n T Tryz.f167 ia io (s1,s2,())
theorem e0 (n:Nat)(s1:List (ycF))(s2:List (ycF)):f n s1 s2=bIf ((hide (((s1.length:Nat):Int) != ((s2.length:Nat):Int)))) (some (false,())) (J1 n n (s2,s1,((s1.length:Nat):Int),0,())):=(yae _).trans (by kernel_rfl)
theorem e1 (n m:Nat)(s2:List (ycF))(t15:List (ycF))(t16:Int)(t17:Int):J1 n (m+1) (s2,t15,t16,t17,())=bIf ((hide (decide (t17<t16)))) (gIf (0≤t17∧t17<((t15.length:Nat):Int)) (gIf (0≤t17∧t17<((s2.length:Nat):Int)) (bnd (yek.f n (List.getD t15 t17.toNat (Va.dflt ycs)) (List.getD s2 t17.toNat (Va.dflt ycs))) λu1=>bIf ((!u1.1)) (some (false,())) (J1 n m (s2,t15,t16,(IntKind.i64.wrap (t17+(1:Int))),()))))) (J2 n (())):=(yae _).trans (by kernel_rfl)
theorem e2 (n:Nat):J2 n (())=some (true,()):=(yae _).trans (by kernel_rfl)
theorem ok (n:Nat):FnOk Tryz.prog 167 ia io (fRun (X n) n T Tryz.f167 ia io):=yaG mixed tabIs (yad (yac (yek.ok n)) (yav)) Tryz.func167 (by kernel_rfl) rfl
def en (n:Nat):Entry:=yaB 167 ia io (fRun (X n) n T Tryz.f167 ia io)
end ybu
namespace ybb
abbrev ia:List Ai:=[.dat (.slice (.int .i64)),.dat (.slice (.int .i64))]
abbrev io:List (Nat×Oi):=[(4,.dat .bool)]
abbrev R:Type:=DOut ia io
def X (n:Nat):Ctx:=⟨⟨tab,[],0,[]⟩,26,bnOf 0 ia⟩
abbrev g1:List Si:=[.dat 0 (.slice (.int .i64)),.dat 1 (.slice (.int .i64)),.dat 12 (.int .i64),.dat 13 (.int .i64)]
abbrev g2:List Si:=[]
def T:CT:=(.s .o (.s .o (.s (.s .o (.b (.l g1 .o))) (.r g2 .o))))
def J1 (n:Nat)(m:Nat):(List (Int))×(List (Int))×Int×Int×Unit→Option R:=jL (X n) n T (yaM Tryz.f142) (endK ia io) g1 [1,1,0,1,0] [] m
def J2 (n:Nat):Unit→Option R:=jR (X n) n T (yaM Tryz.f142) (endK ia io) g2 [1,1,1] []
def f (n:Nat)(s1:List (Int))(s2:List (Int)):Option R:=fRun (X n) n T Tryz.f142 ia io (s1,s2,())
theorem e0 (n:Nat)(s1:List (Int))(s2:List (Int)):f n s1 s2=bIf ((hide (((s1.length:Nat):Int) != ((s2.length:Nat):Int)))) (some (false,())) (J1 n n (s1,s2,((s1.length:Nat):Int),0,())):=(yae _).trans (by kernel_rfl)
theorem e1 (n m:Nat)(s1:List (Int))(s2:List (Int))(t12:Int)(t13:Int):J1 n (m+1) (s1,s2,t12,t13,())=bIf ((hide (decide (t13<t12)))) (gIf (0≤t13∧t13<((s1.length:Nat):Int)) (gIf (0≤t13∧t13<((s2.length:Nat):Int)) (bIf ((hide ((List.getD s1 t13.toNat 0) != (List.getD s2 t13.toNat 0)))) (some (false,())) (J1 n m (s1,s2,t12,(IntKind.i64.wrap (t13+(1:Int))),()))))) (J2 n (())):=(yae _).trans (by kernel_rfl)
theorem e2 (n:Nat):J2 n (())=some (true,()):=(yae _).trans (by kernel_rfl)
theorem ok (n:Nat):FnOk Tryz.prog 142 ia io (fRun (X n) n T Tryz.f142 ia io):=yaG mixed tabIs (yav) Tryz.func142 (by kernel_rfl) rfl
def en (n:Nat):Entry:=yaB 142 ia io (fRun (X n) n T Tryz.f142 ia io)
end ybb
namespace ybC
abbrev ia:List Ai:=[.dat (.slice .str),.dat (.slice .str)]
abbrev io:List (Nat×Oi):=[(4,.dat .bool)]
abbrev R:Type:=DOut ia io
def X (n:Nat):Ctx:=⟨⟨tab,[],0,[]⟩,26,bnOf 0 ia⟩
abbrev g1:List Si:=[.dat 0 (.slice .str),.dat 1 (.slice .str),.dat 12 (.int .i64),.dat 13 (.int .i64)]
abbrev g2:List Si:=[]
def T:CT:=(.s .o (.s .o (.s (.s .o (.b (.l g1 .o))) (.r g2 .o))))
def J1 (n:Nat)(m:Nat):(List (ByteArray))×(List (ByteArray))×Int×Int×Unit→Option R:=jL (X n) n T (yaM Tryz.f169) (endK ia io) g1 [1,1,0,1,0] [] m
def J2 (n:Nat):Unit→Option R:=jR (X n) n T (yaM Tryz.f169) (endK ia io) g2 [1,1,1] []
def f (n:Nat)(s1:List (ByteArray))(s2:List (ByteArray)):Option R:=fRun (X n) n T Tryz.f169 ia io (s1,s2,())
theorem e0 (n:Nat)(s1:List (ByteArray))(s2:List (ByteArray)):f n s1 s2=bIf ((hide (((s1.length:Nat):Int) != ((s2.length:Nat):Int)))) (some (false,())) (J1 n n (s1,s2,((s1.length:Nat):Int),0,())):=(yae _).trans (by kernel_rfl)
theorem e1 (n m:Nat)(s1:List (ByteArray))(s2:List (ByteArray))(t12:Int)(t13:Int):J1 n (m+1) (s1,s2,t12,t13,())=bIf ((hide (decide (t13<t12)))) (gIf (0≤t13∧t13<((s1.length:Nat):Int)) (gIf (0≤t13∧t13<((s2.length:Nat):Int)) (bIf ((hide (!eqS (List.getD s1 t13.toNat (⟨#[]⟩:ByteArray)) (List.getD s2 t13.toNat (⟨#[]⟩:ByteArray))))) (some (false,())) (J1 n m (s1,s2,t12,(IntKind.i64.wrap (t13+(1:Int))),()))))) (J2 n (())):=(yae _).trans (by kernel_rfl)
theorem e2 (n:Nat):J2 n (())=some (true,()):=(yae _).trans (by kernel_rfl)
theorem ok (n:Nat):FnOk Tryz.prog 169 ia io (fRun (X n) n T Tryz.f169 ia io):=yaG mixed tabIs (yav) Tryz.func169 (by kernel_rfl) rfl
def en (n:Nat):Entry:=yaB 169 ia io (fRun (X n) n T Tryz.f169 ia io)
end ybC
namespace ydY
abbrev ia:List Ai:=[.dat yci,.dat yci]
abbrev io:List (Nat×Oi):=[(4,.dat .bool)]
abbrev R:Type:=DOut ia io
def X (n:Nat):Ctx:=⟨⟨tab,[ybn.en n,ybb.en n,ybj.en n,ybu.en n,ybC.en n],0,[]⟩,59,bnOf 0 ia⟩
def T:CT := .o
def f (n:Nat)(a:ybU)(b:ybU):Option R:=fRun (X n) n T Tryz.f106 ia io (a,b,())
theorem e0 (n:Nat)(a:ybU)(b:ybU):f n a b=bIf ((hide (a.1==b.1))) (bIf ((hide (a.2.1==b.2.1))) (bIf ((hide (a.2.2.2.2.2.1==b.2.2.2.2.2.1))) (bnd (ybn.f n a.2.2.1 b.2.2.1) λu1=>bIf (u1.1) (bnd (ybj.f n a.2.2.2.1 b.2.2.2.1) λu2=>bIf (u2.1) (bnd (ybu.f n a.2.2.2.2.1 b.2.2.2.2.1) λu3=>bIf (u3.1) (bnd (ybb.f n a.2.2.2.2.2.2.1 b.2.2.2.2.2.2.1) λu4=>bIf (u4.1) (bnd (ybC.f n a.2.2.2.2.2.2.2.1 b.2.2.2.2.2.2.2.1) λu5=>some (u5.1,())) (some (false,()))) (some (false,()))) (some (false,()))) (some (false,()))) (some (false,()))) (some (false,()))) (some (false,())):=(yae _).trans (by kernel_rfl)
theorem ok (n:Nat):FnOk Tryz.prog 106 ia io (fRun (X n) n T Tryz.f106 ia io):=yaG mixed tabIs (yad (yac (ybn.ok n)) (yad (yac (ybb.ok n)) (yad (yac (ybj.ok n)) (yad (yac (ybu.ok n)) (yad (yac (ybC.ok n)) (yav)))))) Tryz.func106 (by kernel_rfl) rfl
def en (n:Nat):Entry:=yaB 106 ia io (fRun (X n) n T Tryz.f106 ia io)
end ydY
namespace yd5
abbrev ia:List Ai:=[.dat yci]
abbrev io:List (Nat×Oi):=[(2,.dat .bool)]
abbrev R:Type:=DOut ia io
def X (n:Nat):Ctx:=⟨⟨tab,[ydY.en n,yd6.en n,ycS.en n,yca.en n,ycb.en n,ybT.en n],0,[]⟩,67,bnOf 0 ia⟩
abbrev g1:List Si:=[.ref 1 1 yci,.box 1 (.d yci)]
abbrev g2:List Si:=[.ref 1 1 yci,.box 1 (.d yci)]
abbrev g3:List Si:=[.ref 1 1 yci,.box 1 (.d yci)]
def T:CT:=(.s .o (.s .o (.r g1 (.s .o (.s .o (.r g2 (.s .o (.r g3 .o))))))))
def J1 (n:Nat):ybU×Unit→Option R:=jR (X n) n T (yaM Tryz.f56) (endK ia io) g1 [1,1] []
def J2 (n:Nat):ybU×Unit→Option R:=jR (X n) n T (yaM Tryz.f56) (endK ia io) g2 [1,1,1,1] []
def J3 (n:Nat):ybU×Unit→Option R:=jR (X n) n T (yaM Tryz.f56) (endK ia io) g3 [1,1,1,1,1] []
def f (n:Nat)(r:ybU):Option R:=fRun (X n) n T Tryz.f56 ia io (r,())
theorem e0 (n:Nat)(r:ybU):f n r=bIf ((hide (decide (r.1<(0:Int))))) (some (false,())) (bIf ((hide (decide (r.1>(18:Int))))) (some (false,())) (J1 n (r,()))):=(yae _).trans (by kernel_rfl)
theorem e1 (n:Nat)(r:ybU):J1 n (r,())=bIf ((hide (r.1 != (0:Int)))) (bnd (ydY.f n r (r.1,(0,([],((0,(false,(0,(0,((List.replicate 32 0),(0,((0,(0,(false,()))),([],())))))))),([],(false,([],([],()))))))))) λu1=>some (u1.1,())) (bIf ((hide (decide (((r.2.2.1.length:Nat):Int)>(16384:Int))))) (some (false,())) (bnd (yd6.f n r.2.2.2.1) λu2=>bIf ((!u2.1)) (bnd (ycS.f n r.2.2.2.1) λu3=>bIf ((!u3.1)) (some (false,())) (J2 n (r,()))) (J2 n (r,())))):=(yae _).trans (by kernel_rfl)
theorem e2 (n:Nat)(r:ybU):J2 n (r,())=bIf ((hide (decide (((r.2.2.2.2.1.length:Nat):Int)>(100:Int))))) (some (false,())) (bIf ((hide (decide (((r.2.2.2.2.2.2.1.length:Nat):Int)>(8:Int))))) (some (false,())) (bIf ((hide (decide (((r.2.2.2.2.2.2.2.1.length:Nat):Int)>(16:Int))))) (some (false,())) (J3 n (r,())))):=(yae _).trans (by kernel_rfl)
theorem e3 (n:Nat)(r:ybU):J3 n (r,())=bnd (yca.f n r.2.2.2.2.1) λu1=>bIf ((!u1.1)) (bnd (ycb.f n r.2.2.2.2.2.2.1) λu2=>bIf ((!u2.1)) (bnd (ybT.f n r.2.2.2.2.2.2.2.1) λu3=>some ((!u3.1),())) (some (false,()))) (some (false,())):=(yae _).trans (by kernel_rfl)
theorem ok (n:Nat):FnOk Tryz.prog 56 ia io (fRun (X n) n T Tryz.f56 ia io):=yaG mixed tabIs (yad (yac (ydY.ok n)) (yad (yac (yd6.ok n)) (yad (yac (ycS.ok n)) (yad (yac (yca.ok n)) (yad (yac (ycb.ok n)) (yad (yac (ybT.ok n)) (yav))))))) Tryz.func56 (by kernel_rfl) rfl
def en (n:Nat):Entry:=yaB 56 ia io (fRun (X n) n T Tryz.f56 ia io)
end yd5
namespace ycy
abbrev ia:List Ai:=[.fn (.str 2) [(.p (.r 0 (.int .u8)) (.d .unit))],.dat (.slice ycs)]
abbrev io:List (Nat×Oi):=[]
abbrev R:Type:=DOut ia io
def X (n:Nat):Ctx:=⟨⟨tab,[yao.en n,yay.en n,yaV.en n,ybE.en n],0,[]⟩,43,bnOf 0 ia⟩
abbrev g1:List Si:=[.ref 2 2 ybP,.dat 13 (.slice ycs),.dat 14 (.int .i64),.dat 15 (.int .i64),.box 2 (.p (.p (.al 500000 ybK) (.d .unit)) (.d .unit)),.box 500000 (.p (.r 100000500000000 (.int .u8)) (.d .unit))]
def T:CT:=(.s .o (.s .o (.s .o (.b (.l g1 .o)))))
def J1 (n:Nat)(m:Nat):(List (ycF))×Int×Int×ya7×yaP×Unit→Option R:=jL (X n) n T (yaM Tryz.f63) (endK ia io) g1 [1,1,1,0] [] m
def f (n:Nat)(wc0:yaP)(list:List (ycF)):Option R:=fRun (X n) n T Tryz.f63 ia io (wc0,list,())
theorem e0 (n:Nat)(wc0:yaP)(list:List (ycF)):f n wc0 list=bnd (yao.f n wc0 (IntKind.u64.wrap ((list.length:Nat):Int))) λu1=>J1 n n (list,((list.length:Nat):Int),0,(((),()),()),u1.1,()):=(yae _).trans (by kernel_rfl)
theorem e1 (n m:Nat)(t13:List (ycF))(t14:Int)(t15:Int)(w_:ya7)(b500000:yaP):J1 n (m+1) (t13,t14,t15,w_,b500000,())=bIf ((hide (decide (t15<t14)))) (gIf (0≤t15∧t15<((t13.length:Nat):Int)) (bnd (yay.f n b500000 ((List.getD t13 t15.toNat (Va.dflt ycs)).1)) λu1=>bnd (yaV.f n u1.1 (((List.getD t13 t15.toNat (Va.dflt ycs)).2).1)) λu2=>bIf ((!(((List.getD t13 t15.toNat (Va.dflt ycs)).2).1))) (bnd (ybE.f n u2.1 ((((List.getD t13 t15.toNat (Va.dflt ycs)).2).2).1)) λu3=>bnd (yaV.f n u3.1 (((((List.getD t13 t15.toNat (Va.dflt ycs)).2).2).2).1)) λu4=>J1 n m (t13,t14,(IntKind.i64.wrap (t15+(1:Int))),(((),w_.1.2),w_.2),u4.1,())) (J1 n m (t13,t14,(IntKind.i64.wrap (t15+(1:Int))),(((),w_.1.2),w_.2),u2.1,())))) (some (b500000,())):=(yae _).trans (by kernel_rfl)
theorem ok (n:Nat):FnOk Tryz.prog 63 ia io (fRun (X n) n T Tryz.f63 ia io):=yaG mixed tabIs (yad (yac (yao.ok n)) (yad (yac (yay.ok n)) (yad (yac (yaV.ok n)) (yad (yac (ybE.ok n)) (yav))))) Tryz.func63 (by kernel_rfl) rfl
def en (n:Nat):Entry:=yaB 63 ia io (fRun (X n) n T Tryz.f63 ia io)
end ycy
namespace ycD
abbrev ia:List Ai:=[.dat yci]
abbrev io:List (Nat×Oi):=[(2,.dat (.slice (.int .u8))),(3,.dat (.int .i64))]
abbrev R:Type:=DOut ia io
def X (n:Nat):Ctx:=⟨⟨tab,[yd5.en n,ybW.en n,yao.en n,ycg.en n,yay.en n,yaV.en n,ybE.en n,ycy.en n],0,[]⟩,106,bnOf 0 ia⟩
abbrev g1:List Si:=[.ref 1 1 yci,.ref 4 4 ybP,.box 1 (.d yci),.box 4 (.p (.p (.al 1500000000012 ybK) (.d .unit)) (.d .unit)),.box 1500000000012 (.p (.r 1600000000012000 (.int .u8)) (.d .unit))]
abbrev g2:List Si:=[.ref 1 1 yci,.ref 4 4 ybP,.dat 68 (.slice (.int .i64)),.dat 69 (.int .i64),.dat 70 (.int .i64),.box 1 (.d yci),.box 4 (.p (.p (.al 1500000000012 ybK) (.d .unit)) (.d .unit)),.box 1500000000012 (.p (.r 1600000000012000 (.int .u8)) (.d .unit))]
abbrev g3:List Si:=[.ref 1 1 yci,.ref 4 4 ybP,.box 1 (.d yci),.box 4 (.p (.p (.al 1500000000012 ybK) (.d .unit)) (.d .unit)),.box 1500000000012 (.p (.r 1600000000012000 (.int .u8)) (.d .unit))]
abbrev g4:List Si:=[.ref 4 4 ybP,.dat 90 (.slice .str),.dat 91 (.int .i64),.dat 92 (.int .i64),.box 4 (.p (.p (.al 1500000000012 ybK) (.d .unit)) (.d .unit)),.box 1500000000012 (.p (.r 1600000000012000 (.int .u8)) (.d .unit))]
abbrev g5:List Si:=[.ref 4 4 ybP,.box 4 (.p (.p (.al 1500000000012 ybK) (.d .unit)) (.d .unit)),.box 1500000000012 (.p (.r 1600000000012000 (.int .u8)) (.d .unit))]
def T:CT:=(.s .o (.s .o (.s .o (.s .o (.s .o (.s .o (.s .o (.r g1 (.s .o (.s .o (.s (.s .o (.b (.l g2 .o))) (.r g3 (.s .o (.s (.s .o (.b (.l g4 .o))) (.r g5 .o)))))))))))))))
def J1 (n:Nat):ybU×ya7×yaP×Unit→Option R:=jR (X n) n T (yaM Tryz.f28) (endK ia io) g1 [1,1,1,1,1,1,1] []
def J2 (n:Nat)(m:Nat):(List (Int))×Int×Int×ybU×ya7×yaP×Unit→Option R:=jL (X n) n T (yaM Tryz.f28) (endK ia io) g2 [1,1,1,1,1,1,1,1,1,0,1,0] [] m
def J3 (n:Nat):ybU×ya7×yaP×Unit→Option R:=jR (X n) n T (yaM Tryz.f28) (endK ia io) g3 [1,1,1,1,1,1,1,1,1,1] []
def J4 (n:Nat)(m:Nat):(List (ByteArray))×Int×Int×ya7×yaP×Unit→Option R:=jL (X n) n T (yaM Tryz.f28) (endK ia io) g4 [1,1,1,1,1,1,1,1,1,1,1,0,1,0] [] m
def J5 (n:Nat):ya7×yaP×Unit→Option R:=jR (X n) n T (yaM Tryz.f28) (endK ia io) g5 [1,1,1,1,1,1,1,1,1,1,1,1] []
def f (n:Nat)(r:ybU):Option R:=fRun (X n) n T Tryz.f28 ia io (r,())
theorem e0 (n:Nat)(r:ybU):f n r=bnd (yd5.f n r) λu1=>bIf ((!u1.1)) (some ([],2,())) (bnd (ybW.f n) λu2=>bnd (yao.f n u2.1 (IntKind.u64.wrap r.1)) λu3=>bIf ((hide (r.1 != (0:Int)))) (bnd (ycg.f n u3.1) λu4=>some (u4.1,0,())) (bnd (yao.f n u3.1 r.2.1) λu5=>bnd (yay.f n u5.1 (yaT r.2.2.1)) λu6=>bnd (yaV.f n u6.1 (hide (r.2.2.2.1.1 != (0:Int)))) λu7=>bIf ((hide (r.2.2.2.1.1 != (0:Int)))) (bnd (ybE.f n u7.1 r.2.2.2.1) λu8=>J1 n (r,(((),()),()),u8.1,())) (J1 n (r,(((),()),()),u7.1,())))):=(yae _).trans (by kernel_rfl)
theorem e1 (n:Nat)(r:ybU)(w_:ya7)(b1500000000012:yaP):J1 n (r,w_,b1500000000012,())=bnd (ycy.f n b1500000000012 r.2.2.2.2.1) λu1=>bnd (yaV.f n u1.1 r.2.2.2.2.2.1) λu2=>bnd (yao.f n u2.1 (IntKind.u64.wrap ((r.2.2.2.2.2.2.1.length:Nat):Int))) λu3=>J2 n n (r.2.2.2.2.2.2.1,((r.2.2.2.2.2.2.1.length:Nat):Int),0,r,(((),w_.1.2),w_.2),u3.1,()):=(yae _).trans (by kernel_rfl)
theorem e2 (n m:Nat)(t68:List (Int))(t69:Int)(t70:Int)(r:ybU)(w_:ya7)(b1500000000012:yaP):J2 n (m+1) (t68,t69,t70,r,w_,b1500000000012,())=bIf ((hide (decide (t70<t69)))) (gIf (0≤t70∧t70<((t68.length:Nat):Int)) (bnd (yao.f n b1500000000012 (IntKind.u64.wrap (List.getD t68 t70.toNat 0))) λu1=>J2 n m (t68,t69,(IntKind.i64.wrap (t70+(1:Int))),r,(((),w_.1.2),w_.2),u1.1,()))) (J3 n (r,(((),w_.1.2),w_.2),b1500000000012,())):=(yae _).trans (by kernel_rfl)
theorem e3 (n:Nat)(r:ybU)(w_:ya7)(b1500000000012:yaP):J3 n (r,w_,b1500000000012,())=bnd (yao.f n b1500000000012 (IntKind.u64.wrap ((r.2.2.2.2.2.2.2.1.length:Nat):Int))) λu1=>J4 n n (r.2.2.2.2.2.2.2.1,((r.2.2.2.2.2.2.2.1.length:Nat):Int),0,(((),w_.1.2),w_.2),u1.1,()):=(yae _).trans (by kernel_rfl)
theorem e4 (n m:Nat)(t90:List (ByteArray))(t91:Int)(t92:Int)(w_:ya7)(b1500000000012:yaP):J4 n (m+1) (t90,t91,t92,w_,b1500000000012,())=bIf ((hide (decide (t92<t91)))) (gIf (0≤t92∧t92<((t90.length:Nat):Int)) (bnd (yay.f n b1500000000012 (List.getD t90 t92.toNat (⟨#[]⟩:ByteArray))) λu1=>J4 n m (t90,t91,(IntKind.i64.wrap (t92+(1:Int))),(((),w_.1.2),w_.2),u1.1,()))) (J5 n ((((),w_.1.2),w_.2),b1500000000012,())):=(yae _).trans (by kernel_rfl)
theorem e5 (n:Nat)(w_:ya7)(b1500000000012:yaP):J5 n (w_,b1500000000012,())=bnd (ycg.f n b1500000000012) λu1=>some (u1.1,0,()):=(yae _).trans (by kernel_rfl)
theorem ok (n:Nat):FnOk Tryz.prog 28 ia io (fRun (X n) n T Tryz.f28 ia io):=yaG mixed tabIs (yad (yac (yd5.ok n)) (yad (yac (ybW.ok n)) (yad (yac (yao.ok n)) (yad (yac (ycg.ok n)) (yad (yac (yay.ok n)) (yad (yac (yaV.ok n)) (yad (yac (ybE.ok n)) (yad (yac (ycy.ok n)) (yav))))))))) Tryz.func28 (by kernel_rfl) rfl
def en (n:Nat):Entry:=yaB 28 ia io (fRun (X n) n T Tryz.f28 ia io)
end ycD
namespace ydg
abbrev ia:List Ai:=[.dat (.int .i64)]
abbrev io:List (Nat×Oi):=[(2,.dat .str)]
abbrev R:Type:=DOut ia io
def X (n:Nat):Ctx:=⟨⟨tab,[ybz.en n],0,[]⟩,6,bnOf 0 ia⟩
def T:CT := .o
def f (n:Nat)(n_:Int):Option R:=fRun (X n) n T Tryz.f32 ia io (n_,())
theorem e0 (n:Nat)(n_:Int):f n n_=bnd (ybz.f n (IntKind.u64.wrap n_)) λu1=>some (u1.1,()):=(yae _).trans (by kernel_rfl)
theorem ok (n:Nat):FnOk Tryz.prog 32 ia io (fRun (X n) n T Tryz.f32 ia io):=yaG mixed tabIs (yad (yac (ybz.ok n)) (yav)) Tryz.func32 (by kernel_rfl) rfl
def en (n:Nat):Entry:=yaB 32 ia io (fRun (X n) n T Tryz.f32 ia io)
end ydg
namespace yd4
abbrev ia:List Ai:=[.dat yan,.dat yan]
abbrev io:List (Nat×Oi):=[(4,.dat .bool)]
abbrev R:Type:=DOut ia io
def X (n:Nat):Ctx:=⟨⟨tab,[ybn.en n,yde.en n,ydA.en n,ybX.en n,ybb.en n],0,[]⟩,132,bnOf 0 ia⟩
abbrev g1:List Si:=[.ref 2 2 yan,.ref 3 3 yan,.box 2 (.d yan),.box 3 (.d yan)]
abbrev g2:List Si:=[.ref 2 2 yan,.ref 3 3 yan,.box 2 (.d yan),.box 3 (.d yan)]
def T:CT:=(.s .o (.s .o (.r g1 (.s .o (.r g2 .o)))))
def J1 (n:Nat):yak×yak×Unit→Option R:=jR (X n) n T (yaM Tryz.f77) (endK ia io) g1 [1,1] []
def J2 (n:Nat):yak×yak×Unit→Option R:=jR (X n) n T (yaM Tryz.f77) (endK ia io) g2 [1,1,1] []
def f (n:Nat)(t:yak)(o:yak):Option R:=fRun (X n) n T Tryz.f77 ia io (t,o,())
theorem e0 (n:Nat)(t:yak)(o:yak):f n t o=bIf ((hide (t.1 != o.1))) (some (false,())) (bIf ((hide (!eqS t.2.1 o.2.1))) (some (false,())) (bIf ((hide (!eqS t.2.2.1 o.2.2.1))) (some (false,())) (bIf ((hide (!eqS t.2.2.2.1 o.2.2.2.1))) (some (false,())) (bIf ((hide (t.2.2.2.2.1 != o.2.2.2.2.1))) (some (false,())) (bIf ((hide (!(eqD yaO t.2.2.2.2.2.2.2.1 o.2.2.2.2.2.2.2.1)))) (some (false,())) (bIf ((hide (!(t.2.2.2.2.2.2.2.2.1==o.2.2.2.2.2.2.2.2.1)))) (some (false,())) (bIf ((hide (!(eqD yaA t.2.2.2.2.2.2.2.2.2.1 o.2.2.2.2.2.2.2.2.2.1)))) (some (false,())) (J1 n (t,o,()))))))))):=(yae _).trans (by kernel_rfl)
theorem e1 (n:Nat)(A:yak)(r:yak):J1 n (A,r,())=bIf ((hide (A.2.2.2.2.2.2.2.2.2.2.2.2.1 != r.2.2.2.2.2.2.2.2.2.2.2.2.1))) (some (false,())) (bIf ((hide (!eqS A.2.2.2.2.2.2.2.2.2.2.2.2.2.2.1 r.2.2.2.2.2.2.2.2.2.2.2.2.2.2.1))) (some (false,())) (bIf ((hide (!eqS A.2.2.2.2.2.2.2.2.2.2.2.2.2.2.2.1 r.2.2.2.2.2.2.2.2.2.2.2.2.2.2.2.1))) (some (false,())) (bIf ((hide (!eqS A.2.2.2.2.2.2.2.2.2.2.2.2.2.2.2.2.1 r.2.2.2.2.2.2.2.2.2.2.2.2.2.2.2.2.1))) (some (false,())) (bIf ((hide (!(eqD ya0 A.2.2.2.2.2.2.2.2.2.2.2.2.2.2.2.2.2.1 r.2.2.2.2.2.2.2.2.2.2.2.2.2.2.2.2.2.1)))) (some (false,())) (bIf ((hide (A.2.2.2.2.2.2.2.2.2.2.2.2.2.2.2.2.2.2.1 != r.2.2.2.2.2.2.2.2.2.2.2.2.2.2.2.2.2.2.1))) (some (false,())) (J2 n (A,r,()))))))):=(yae _).trans (by kernel_rfl)
theorem e2 (n:Nat)(A:yak)(r:yak):J2 n (A,r,())=bnd (ybn.f n A.2.2.2.2.2.1 r.2.2.2.2.2.1) λu1=>bIf (u1.1) (bnd (yde.f n A.2.2.2.2.2.2.1 r.2.2.2.2.2.2.1) λu2=>bIf (u2.1) (bnd (ydA.f n A.2.2.2.2.2.2.2.2.2.2.1 r.2.2.2.2.2.2.2.2.2.2.1) λu3=>bIf (u3.1) (bnd (ybX.f n A.2.2.2.2.2.2.2.2.2.2.2.1 r.2.2.2.2.2.2.2.2.2.2.2.1) λu4=>bIf (u4.1) (bnd (ybb.f n A.2.2.2.2.2.2.2.2.2.2.2.2.2.1 r.2.2.2.2.2.2.2.2.2.2.2.2.2.1) λu5=>some (u5.1,())) (some (false,()))) (some (false,()))) (some (false,()))) (some (false,())):=(yae _).trans (by kernel_rfl)
theorem ok (n:Nat):FnOk Tryz.prog 77 ia io (fRun (X n) n T Tryz.f77 ia io):=yaG mixed tabIs (yad (yac (ybn.ok n)) (yad (yac (yde.ok n)) (yad (yac (ydA.ok n)) (yad (yac (ybX.ok n)) (yad (yac (ybb.ok n)) (yav)))))) Tryz.func77 (by kernel_rfl) rfl
def en (n:Nat):Entry:=yaB 77 ia io (fRun (X n) n T Tryz.f77 ia io)
end yd4
namespace yb2
abbrev ia:List Ai:=[.dat yan,.dat yan]
abbrev io:List (Nat×Oi):=[(4,.dat .bool)]
abbrev R:Type:=DOut ia io
def X (n:Nat):Ctx:=⟨⟨tab,[ydW.en n],0,[]⟩,158,bnOf 0 ia⟩
abbrev g1:List Si:=[.ref 2 2 yan,.ref 3 3 yan,.box 2 (.d yan),.box 3 (.d yan)]
abbrev g2:List Si:=[.ref 2 2 yan,.ref 3 3 yan,.box 2 (.d yan),.box 3 (.d yan)]
abbrev g3:List Si:=[.ref 2 2 yan,.ref 3 3 yan,.dat 7 (.int .i64),.box 2 (.d yan),.box 3 (.d yan)]
abbrev g4:List Si:=[]
def T:CT:=(.s .o (.s .o (.r g1 (.s .o (.s .o (.s .o (.r g2 (.s (.s .o (.b (.l g3 .o))) (.r g4 .o)))))))))
def J1 (n:Nat):yak×yak×Unit→Option R:=jR (X n) n T (yaM Tryz.f26) (endK ia io) g1 [1,1] []
def J2 (n:Nat):yak×yak×Unit→Option R:=jR (X n) n T (yaM Tryz.f26) (endK ia io) g2 [1,1,1,1,1] []
def J3 (n:Nat)(m:Nat):Int×yak×yak×Unit→Option R:=jL (X n) n T (yaM Tryz.f26) (endK ia io) g3 [1,1,1,1,1,0,1,0] [] m
def J4 (n:Nat):Unit→Option R:=jR (X n) n T (yaM Tryz.f26) (endK ia io) g4 [1,1,1,1,1,1] []
def f (n:Nat)(t:yak)(o:yak):Option R:=fRun (X n) n T Tryz.f26 ia io (t,o,())
theorem e0 (n:Nat)(t:yak)(o:yak):f n t o=bIf ((hide (t.1 != o.1))) (some (false,())) (bIf ((hide (!eqS t.2.1 o.2.1))) (some (false,())) (bIf ((hide (!eqS t.2.2.1 o.2.2.1))) (some (false,())) (bIf ((hide (!eqS t.2.2.2.1 o.2.2.2.1))) (some (false,())) (bIf ((hide (t.2.2.2.2.1 != o.2.2.2.2.1))) (some (false,())) (bIf ((hide (!eqS (yaT t.2.2.2.2.2.1) (yaT o.2.2.2.2.2.1)))) (some (false,())) (bIf ((hide (!(eqD yaO t.2.2.2.2.2.2.2.1 o.2.2.2.2.2.2.2.1)))) (some (false,())) (bIf ((hide (!(t.2.2.2.2.2.2.2.2.1==o.2.2.2.2.2.2.2.2.1)))) (some (false,())) (bIf ((hide (!(eqD yaA t.2.2.2.2.2.2.2.2.2.1 o.2.2.2.2.2.2.2.2.2.1)))) (some (false,())) (bIf ((hide (t.2.2.2.2.2.2.2.2.2.2.2.2.1 != o.2.2.2.2.2.2.2.2.2.2.2.2.1))) (some (false,())) (bIf ((hide (!eqS t.2.2.2.2.2.2.2.2.2.2.2.2.2.2.1 o.2.2.2.2.2.2.2.2.2.2.2.2.2.2.1))) (some (false,())) (bIf ((hide (!eqS t.2.2.2.2.2.2.2.2.2.2.2.2.2.2.2.1 o.2.2.2.2.2.2.2.2.2.2.2.2.2.2.2.1))) (some (false,())) (bIf ((hide (!eqS t.2.2.2.2.2.2.2.2.2.2.2.2.2.2.2.2.1 o.2.2.2.2.2.2.2.2.2.2.2.2.2.2.2.2.1))) (some (false,())) (bIf ((hide (!(eqD ya0 t.2.2.2.2.2.2.2.2.2.2.2.2.2.2.2.2.2.1 o.2.2.2.2.2.2.2.2.2.2.2.2.2.2.2.2.2.1)))) (some (false,())) (bIf ((hide (t.2.2.2.2.2.2.2.2.2.2.2.2.2.2.2.2.2.2.1 != o.2.2.2.2.2.2.2.2.2.2.2.2.2.2.2.2.2.2.1))) (some (false,())) (J1 n (t,o,())))))))))))))))):=(yae _).trans (by kernel_rfl)
theorem e1 (n:Nat)(A:yak)(r:yak):J1 n (A,r,())=bnd (ydW.f n (0,(0,((⟨#[]⟩:ByteArray),((⟨#[]⟩:ByteArray),(0,((0,(false,(0,(0,((List.replicate 32 0),(0,((0,(0,(false,()))),([],())))))))),((0,(0,(false,()))),(A.2.2.2.2.2.2.1,((0,(0,())),(A.2.2.2.2.2.2.2.2.2.2.1,(A.2.2.2.2.2.2.2.2.2.2.2.1,((0,(0,(0,((List.replicate 32 0),())))),())))))))))))) (0,(0,((⟨#[]⟩:ByteArray),((⟨#[]⟩:ByteArray),(0,((0,(false,(0,(0,((List.replicate 32 0),(0,((0,(0,(false,()))),([],())))))))),((0,(0,(false,()))),(r.2.2.2.2.2.2.1,((0,(0,())),(r.2.2.2.2.2.2.2.2.2.2.1,(r.2.2.2.2.2.2.2.2.2.2.2.1,((0,(0,(0,((List.replicate 32 0),())))),()))))))))))))) λu1=>bIf ((!u1.1)) (some (false,())) (bIf ((hide (((A.2.2.2.2.2.2.2.2.2.2.2.2.2.1.length:Nat):Int) != ((r.2.2.2.2.2.2.2.2.2.2.2.2.2.1.length:Nat):Int)))) (some (false,())) (J2 n (A,r,()))):=(yae _).trans (by kernel_rfl)
theorem e2 (n:Nat)(A:yak)(r:yak):J2 n (A,r,())=J3 n n (0,A,r,()):=(yae _).trans (by kernel_rfl)
theorem e3 (n m:Nat)(t7:Int)(A:yak)(r:yak):J3 n (m+1) (t7,A,r,())=bIf ((hide (decide (t7<((A.2.2.2.2.2.2.2.2.2.2.2.2.2.1.length:Nat):Int))))) (gIf (0≤t7∧t7<((A.2.2.2.2.2.2.2.2.2.2.2.2.2.1.length:Nat):Int)) (gIf (0≤t7∧t7<((r.2.2.2.2.2.2.2.2.2.2.2.2.2.1.length:Nat):Int)) (bIf ((hide ((List.getD A.2.2.2.2.2.2.2.2.2.2.2.2.2.1 t7.toNat 0) != (List.getD r.2.2.2.2.2.2.2.2.2.2.2.2.2.1 t7.toNat 0)))) (some (false,())) (J3 n m ((IntKind.i64.wrap (t7+(1:Int))),A,r,()))))) (J4 n (())):=(yae _).trans (by kernel_rfl)
theorem e4 (n:Nat):J4 n (())=some (true,()):=(yae _).trans (by kernel_rfl)
theorem ok (n:Nat):FnOk Tryz.prog 26 ia io (fRun (X n) n T Tryz.f26 ia io):=yaG mixed tabIs (yad (yac (ydW.ok n)) (yav)) Tryz.func26 (by kernel_rfl) rfl
def en (n:Nat):Entry:=yaB 26 ia io (fRun (X n) n T Tryz.f26 ia io)
end yb2
namespace ycv
abbrev ia:List Ai:=[.fn (.str 2) [(.p (.r 0 (.int .u8)) (.d .unit))],.dat yan]
abbrev io:List (Nat×Oi):=[(4,.argc 2 500000 (.d ybK))]
abbrev R:Type:=DOut ia io
def X (n:Nat):Ctx:=⟨⟨tab,[yao.en n,yay.en n],0,[]⟩,15,bnOf 0 ia⟩
def T:CT := .o
def f (n:Nat)(wc0:yaP)(r:yak):Option R:=fRun (X n) n T Tryz.f137 ia io (wc0,r,())
theorem e0 (n:Nat)(wc0:yaP)(r:yak):f n wc0 r=bnd (yay.f n wc0 r.2.2.2.1) λu1=>bnd (yao.f n u1.1 r.2.2.2.2.1) λu2=>some (u2.1,()):=(yae _).trans (by kernel_rfl)
theorem ok (n:Nat):FnOk Tryz.prog 137 ia io (fRun (X n) n T Tryz.f137 ia io):=yaG mixed tabIs (yad (yac (yao.ok n)) (yad (yac (yay.ok n)) (yav))) Tryz.func137 (by kernel_rfl) rfl
def en (n:Nat):Entry:=yaB 137 ia io (fRun (X n) n T Tryz.f137 ia io)
end ycv
namespace yag
abbrev ia:List Ai:=[.fn (.str 2) [(.p (.r 0 (.int .u8)) (.d .unit))],.dat yan]
abbrev io:List (Nat×Oi):=[]
abbrev R:Type:=DOut ia io
def X (n:Nat):Ctx:=⟨⟨tab,[yao.en n,yay.en n,yaV.en n,ybL.en n,ybJ.en n,ybc.en n,ycG.en n,yb7.en n,yb1.en n,ycv.en n],0,[]⟩,230,bnOf 0 ia⟩
abbrev g1:List Si:=[.ref 2 2 ybP,.ref 3 3 yan,.dat 7 (.int .i64),.dat 8 .bool,.box 2 (.p (.p (.al 500000 ybK) (.d .unit)) (.d .unit)),.box 3 (.d yan),.box 500000 (.p (.r 100000500000000 (.int .u8)) (.d .unit))]
abbrev g2:List Si:=[.ref 2 2 ybP,.ref 3 3 yan,.dat 7 (.int .i64),.dat 52 .bool,.box 2 (.p (.p (.al 500000 ybK) (.d .unit)) (.d .unit)),.box 3 (.d yan),.box 500000 (.p (.r 100000500000000 (.int .u8)) (.d .unit))]
abbrev g3:List Si:=[.ref 2 2 ybP,.dat 190 (.slice (.int .i64)),.dat 191 (.int .i64),.dat 192 (.int .i64),.box 2 (.p (.p (.al 500000 ybK) (.d .unit)) (.d .unit)),.box 500000 (.p (.r 100000500000000 (.int .u8)) (.d .unit))]
def T:CT:=(.s .o (.s .o (.b (.s .o (.r g1 (.c .o (.s .o (.c .o (.s .o (.c .o (.s .o (.c .o (.s .o (.r g2 (.c .o (.s .o (.c .o (.s .o (.c .o (.s .o (.c .o (.s .o (.c .o (.s .o (.c .o (.s .o (.c .o (.s .o (.c .o (.s .o (.c .o (.s .o (.c .o (.s .o (.c (.s .o (.s .o (.b (.l g3 .o)))) .o)))))))))))))))))))))))))))))))))))
def J1 (n:Nat):Int×Bool×ya7×yak×yaP×Unit→Option R:=jR (X n) n T (yaM Tryz.f76) (endK ia io) g1 [1,1,0,1] []
def J2 (n:Nat):Int×Bool×ya7×yak×yaP×Unit→Option R:=jR (X n) n T (yaM Tryz.f76) (endK ia io) g2 [1,1,0,1,1,1,1,1,1,1,1,1] []
def J3 (n:Nat)(m:Nat):(List (Int))×Int×Int×ya7×yaP×Unit→Option R:=jL (X n) n T (yaM Tryz.f76) (endK ia io) g3 [1,1,0,1,1,1,1,1,1,1,1,1,1,1,1,1,1,1,1,1,1,1,1,1,1,1,1,1,1,1,1,1,0,1,1,0] [] m
def f (n:Nat)(tc0:yaP)(o:yak):Option R:=fRun (X n) n T Tryz.f76 ia io (tc0,o,())
theorem e0 (n:Nat)(tc0:yaP)(o:yak):f n tc0 o=bIf ((hide (o.1==(1:Int)))) (J1 n (o.1,true,(((),()),()),o,tc0,())) (J1 n (o.1,(hide (o.1==(3:Int))),(((),()),()),o,tc0,())):=(yae _).trans (by kernel_rfl)
theorem e1 (n:Nat)(t7:Int)(t8:Bool)(A:ya7)(r:yak)(b500000:yaP):J1 n (t7,t8,A,r,b500000,())=bIf (t8) (bnd (ycG.f n b500000 r.2.2.2.2.2.2.2.2.2.1) λu1=>some (u1.1,())) (bIf ((hide (t7==(4:Int)))) (bnd (yb7.f n b500000 r.2.2.2.2.2.2.2.2.2.2.1) λu2=>some (u2.1,())) (bIf ((hide (t7==(5:Int)))) (bnd (yb1.f n b500000 r.2.2.2.2.2.2.2.2.2.2.2.1) λu3=>some (u3.1,())) (bIf ((hide (t7==(6:Int)))) (bnd (yay.f n b500000 r.2.2.2.1) λu4=>bnd (yay.f n u4.1 (yaT r.2.2.2.2.2.1)) λu5=>bnd (ybc.f n u5.1 r.2.2.2.2.2.2.1) λu6=>bnd (ybJ.f n u6.1 r.2.2.2.2.2.2.2.1) λu7=>some (u7.1,())) (bIf ((hide (t7==(7:Int)))) (J2 n (t7,true,(((),A.1.2),A.2),r,b500000,())) (J2 n (t7,(hide (t7==(8:Int))),(((),A.1.2),A.2),r,b500000,())))))):=(yae _).trans (by kernel_rfl)
theorem e2 (n:Nat)(t7:Int)(t52:Bool)(A:ya7)(r:yak)(b500000:yaP):J2 n (t7,t52,A,r,b500000,())=bIf (t52) (bnd (ycv.f n b500000 r) λu1=>some (u1.1,())) (bIf ((hide (t7==(9:Int)))) (bnd (yay.f n b500000 r.2.2.2.1) λu2=>some (u2.1,())) (bIf ((hide (t7==(10:Int)))) (bnd (ycv.f n b500000 r) λu3=>bnd (yaV.f n u3.1 r.2.2.2.2.2.2.2.2.1) λu4=>some (u4.1,())) (bIf ((hide (t7==(11:Int)))) (bnd (ycv.f n b500000 r) λu5=>bnd (ybJ.f n u5.1 r.2.2.2.2.2.2.2.1) λu6=>bnd (yaV.f n u6.1 r.2.2.2.2.2.2.2.2.1) λu7=>some (u7.1,())) (bIf ((hide (t7==(12:Int)))) (bnd (ycv.f n b500000 r) λu8=>bnd (ybJ.f n u8.1 r.2.2.2.2.2.2.2.1) λu9=>some (u9.1,())) (bIf ((hide (t7==(13:Int)))) (bnd (ycv.f n b500000 r) λu10=>bnd (ybc.f n u10.1 r.2.2.2.2.2.2.1) λu11=>some (u11.1,())) (bIf ((hide (t7==(14:Int)))) (bnd (yay.f n b500000 r.2.2.2.2.2.2.2.2.2.2.2.2.2.2.2.1) λu12=>bnd (yay.f n u12.1 r.2.2.2.2.2.2.2.2.2.2.2.2.2.2.2.2.1) λu13=>bnd (yay.f n u13.1 r.2.2.2.2.2.2.2.2.2.2.2.2.2.2.1) λu14=>bnd (yao.f n u14.1 (IntKind.u64.wrap r.2.2.2.2.2.2.2.2.2.2.2.2.2.2.2.2.2.2.1)) λu15=>some (u15.1,())) (bIf ((hide (t7==(15:Int)))) (bnd (yay.f n b500000 r.2.2.2.2.2.2.2.2.2.2.2.2.2.2.2.1) λu16=>bnd (yay.f n u16.1 r.2.2.2.2.2.2.2.2.2.2.2.2.2.2.2.2.2.1.2.1) λu17=>bnd (yao.f n u17.1 r.2.2.2.2.2.2.2.2.2.2.2.2.2.2.2.2.2.1.2.2.1) λu18=>bnd (yao.f n u18.1 (IntKind.u64.wrap r.2.2.2.2.2.2.2.2.2.2.2.2.2.2.2.2.2.2.1)) λu19=>some (u19.1,())) (bIf ((hide (t7==(16:Int)))) (bnd (yay.f n b500000 r.2.2.2.1) λu20=>bnd (ybc.f n u20.1 r.2.2.2.2.2.2.1) λu21=>some (u21.1,())) (bIf ((hide (t7==(17:Int)))) (bnd (yao.f n b500000 r.2.2.2.2.1) λu22=>bnd (yao.f n u22.1 (IntKind.u64.wrap r.2.2.2.2.2.2.2.2.2.2.2.2.1)) λu23=>bnd (yay.f n u23.1 (yaT r.2.2.2.2.2.1)) λu24=>some (u24.1,())) (bIf ((hide (t7==(18:Int)))) (bnd (yao.f n b500000 r.2.2.2.2.1) λu25=>bnd (yao.f n u25.1 (IntKind.u64.wrap ((r.2.2.2.2.2.2.2.2.2.2.2.2.2.1.length:Nat):Int))) λu26=>J3 n n (r.2.2.2.2.2.2.2.2.2.2.2.2.2.1,((r.2.2.2.2.2.2.2.2.2.2.2.2.2.1.length:Nat):Int),0,(((),A.1.2),A.2),u26.1,())) (bIf ((hide (t7==(19:Int)))) (bnd (yao.f n b500000 r.2.2.2.2.1) λu27=>some (u27.1,())) (bIf ((hide (t7==(20:Int)))) (bnd (yay.f n b500000 r.2.2.2.1) λu28=>bnd (yay.f n u28.1 r.2.2.2.2.2.2.2.2.2.2.2.2.2.2.2.2.2.1.1) λu29=>bnd (yay.f n u29.1 r.2.2.2.2.2.2.2.2.2.2.2.2.2.2.2.2.2.1.2.1) λu30=>bnd (yao.f n u30.1 r.2.2.2.2.2.2.2.2.2.2.2.2.2.2.2.2.2.1.2.2.1) λu31=>some (u31.1,())) (some (b500000,())))))))))))))):=(yae _).trans (by kernel_rfl)
theorem e3 (n m:Nat)(t190:List (Int))(t191:Int)(t192:Int)(A:ya7)(b500000:yaP):J3 n (m+1) (t190,t191,t192,A,b500000,())=bIf ((hide (decide (t192<t191)))) (gIf (0≤t192∧t192<((t190.length:Nat):Int)) (bnd (ybL.f n b500000 (List.getD t190 t192.toNat 0)) λu1=>J3 n m (t190,t191,(IntKind.i64.wrap (t192+(1:Int))),(((),A.1.2),A.2),u1.1,()))) (some (b500000,())):=(yae _).trans (by kernel_rfl)
theorem ok (n:Nat):FnOk Tryz.prog 76 ia io (fRun (X n) n T Tryz.f76 ia io):=yaG mixed tabIs (yad (yac (yao.ok n)) (yad (yac (yay.ok n)) (yad (yac (yaV.ok n)) (yad (yac (ybL.ok n)) (yad (yac (ybJ.ok n)) (yad (yac (ybc.ok n)) (yad (yac (ycG.ok n)) (yad (yac (yb7.ok n)) (yad (yac (yb1.ok n)) (yad (yac (ycv.ok n)) (yav))))))))))) Tryz.func76 (by kernel_rfl) rfl
def en (n:Nat):Entry:=yaB 76 ia io (fRun (X n) n T Tryz.f76 ia io)
end yag
namespace ycX
abbrev ia:List Ai:=[.dat yan]
abbrev io:List (Nat×Oi):=[(2,.dat (.slice (.int .u8))),(3,.dat (.int .i64))]
abbrev R:Type:=DOut ia io
def X (n:Nat):Ctx:=⟨⟨tab,[ybW.en n,yao.en n,ycg.en n,yay.en n,yaH.en n,yag.en n],0,[]⟩,41,bnOf 0 ia⟩
abbrev g1:List Si:=[.ref 1 1 yan,.ref 4 4 ybP,.dat 27 .bool,.box 1 (.d yan),.box 4 (.p (.p (.al 1500000000008 ybK) (.d .unit)) (.d .unit)),.box 1500000000008 (.p (.r 1600000000008000 (.int .u8)) (.d .unit))]
abbrev g2:List Si:=[.ref 1 1 yan,.ref 4 4 ybP,.box 1 (.d yan),.box 4 (.p (.p (.al 1500000000008 ybK) (.d .unit)) (.d .unit)),.box 1500000000008 (.p (.r 1600000000008000 (.int .u8)) (.d .unit))]
def T:CT:=(.s .o (.s .o (.s .o (.s .o (.s (.s .o (.r g1 .o)) (.r g2 .o))))))
def J1 (n:Nat):Bool×yak×ya7×yaP×Unit→Option R:=jR (X n) n T (yaM Tryz.f42) (endK ia io) g1 [1,1,1,1,0,1] []
def J2 (n:Nat):yak×ya7×yaP×Unit→Option R:=jR (X n) n T (yaM Tryz.f42) (endK ia io) g2 [1,1,1,1,1] []
def f (n:Nat)(r:yak):Option R:=fRun (X n) n T Tryz.f42 ia io (r,())
theorem e0 (n:Nat)(r:yak):f n r=bnd (yaH.f n r) λu1=>bIf ((!u1.1)) (some ([],2,())) (bnd (ybW.f n) λu2=>bnd (yao.f n u2.1 (IntKind.u64.wrap r.1)) λu3=>bnd (yay.f n u3.1 r.2.1) λu4=>bIf ((hide (r.1 != (21:Int)))) (J1 n ((hide (r.1 != (22:Int))),r,(((),()),()),u4.1,())) (J1 n (false,r,(((),()),()),u4.1,()))):=(yae _).trans (by kernel_rfl)
theorem e1 (n:Nat)(t27:Bool)(r:yak)(w_:ya7)(b1500000000008:yaP):J1 n (t27,r,w_,b1500000000008,())=bIf (t27) (bnd (yay.f n b1500000000008 r.2.2.1) λu1=>J2 n (r,(((),w_.1.2),w_.2),u1.1,())) (J2 n (r,(((),w_.1.2),w_.2),b1500000000008,())):=(yae _).trans (by kernel_rfl)
theorem e2 (n:Nat)(r:yak)(w_:ya7)(b1500000000008:yaP):J2 n (r,w_,b1500000000008,())=bnd (yag.f n b1500000000008 r) λu1=>bnd (ycg.f n u1.1) λu2=>some (u2.1,0,()):=(yae _).trans (by kernel_rfl)
theorem ok (n:Nat):FnOk Tryz.prog 42 ia io (fRun (X n) n T Tryz.f42 ia io):=yaG mixed tabIs (yad (yac (ybW.ok n)) (yad (yac (yao.ok n)) (yad (yac (ycg.ok n)) (yad (yac (yay.ok n)) (yad (yac (yaH.ok n)) (yad (yac (yag.ok n)) (yav))))))) Tryz.func42 (by kernel_rfl) rfl
def en (n:Nat):Entry:=yaB 42 ia io (fRun (X n) n T Tryz.f42 ia io)
end ycX
namespace yal
abbrev ia:List Ai:=[.dat yan]
abbrev io:List (Nat×Oi):=[(2,.dat .str)]
abbrev R:Type:=DOut ia io
def X (n:Nat):Ctx:=⟨⟨tab,[ydg.en n,ybz.en n,ybd.en n,ycc.en n,yd8.en n,ydk.en n,ybS.en n,ydj.en n,ycK.en n,ycw.en n],0,[]⟩,194,bnOf 0 ia⟩
abbrev g1:List Si:=[.ref 1 1 yan,.dat 3 .str,.dat 4 .str,.dat 16 (.int .i64),.dat 17 .bool,.box 1 (.d yan)]
abbrev g2:List Si:=[.ref 1 1 yan,.dat 3 .str,.dat 4 .str,.dat 16 (.int .i64),.dat 49 .bool,.box 1 (.d yan)]
abbrev g3:List Si:=[.ref 1 1 yan,.dat 5 .str,.dat 6 (.int .i64),.box 1 (.d yan)]
abbrev g4:List Si:=[.dat 5 .str]
abbrev g5:List Si:=[]
def T:CT:=(.s .o (.s .o (.s .o (.s (.s .o (.b (.s .o (.r g1 (.c .o (.s .o (.c .o (.s .o (.c .o (.s .o (.c .o (.s .o (.r g2 (.c .o (.s .o (.c .o (.s .o (.c .o (.s .o (.c .o (.s .o (.c .o (.s .o (.c .o (.s .o (.c .o (.s .o (.c .o (.s .o (.c .o (.s .o (.c .o (.s .o (.c (.s .o (.s (.s .o (.b (.l g3 .o))) (.r g4 .o))) .o)))))))))))))))))))))))))))))))))) (.r g5 .o)))))
def J1 (n:Nat):ByteArray×ByteArray×Int×Bool×yak×Unit→Option R:=jR (X n) n T (yaM Tryz.f48) (endK ia io) g1 [1,1,1,0,1,0,1] []
def J2 (n:Nat):ByteArray×ByteArray×Int×Bool×yak×Unit→Option R:=jR (X n) n T (yaM Tryz.f48) (endK ia io) g2 [1,1,1,0,1,0,1,1,1,1,1,1,1,1,1] []
def J3 (n:Nat)(m:Nat):ByteArray×Int×yak×Unit→Option R:=jL (X n) n T (yaM Tryz.f48) (endK ia io) g3 [1,1,1,0,1,0,1,1,1,1,1,1,1,1,1,1,1,1,1,1,1,1,1,1,1,1,1,1,1,1,1,1,1,1,1,0,1,0,1,0] [] m
def J4 (n:Nat):ByteArray×Unit→Option R:=jR (X n) n T (yaM Tryz.f48) (endK ia io) g4 [1,1,1,0,1,0,1,1,1,1,1,1,1,1,1,1,1,1,1,1,1,1,1,1,1,1,1,1,1,1,1,1,1,1,1,0,1,1] []
def J5 (n:Nat):Unit→Option R:=jR (X n) n T (yaM Tryz.f48) (endK ia io) g5 [1,1,1,1] []
def f (n:Nat)(t:yak):Option R:=fRun (X n) n T Tryz.f48 ia io (t,())
theorem e0 (n:Nat)(t:yak):f n t=bnd (ybd.f n t.2.2.2.1) λu1=>bnd (ybz.f n t.2.2.2.2.1) λu2=>gIf (u1.1.size+u2.1.size≤4611686018427387904) (bIf ((hide (t.1==(1:Int)))) (J1 n (u1.1,(u1.1++u2.1),t.1,true,t,())) (J1 n (u1.1,(u1.1++u2.1),t.1,(hide (t.1==(3:Int))),t,()))):=(yae _).trans (by kernel_rfl)
theorem e1 (n:Nat)(r:ByteArray)(r':ByteArray)(t16:Int)(t17:Bool)(o:yak):J1 n (r,r',t16,t17,o,())=bIf (t17) (bnd (ydj.f n o.2.2.2.2.2.2.2.2.2.1) λu1=>some (u1.1,())) (bIf ((hide (t16==(4:Int)))) (bnd (ycK.f n o.2.2.2.2.2.2.2.2.2.2.1) λu2=>some (u2.1,())) (bIf ((hide (t16==(5:Int)))) (bnd (ycw.f n o.2.2.2.2.2.2.2.2.2.2.2.1) λu3=>some (u3.1,())) (bIf ((hide (t16==(6:Int)))) (bnd (ybd.f n (yaT o.2.2.2.2.2.1)) λu4=>gIf (r.size+u4.1.size≤4611686018427387904) (bnd (ybS.f n o.2.2.2.2.2.2.1) λu5=>gIf ((r++u4.1).size+u5.1.size≤4611686018427387904) (bnd (ydk.f n o.2.2.2.2.2.2.2.1) λu6=>gIf (((r++u4.1)++u5.1).size+u6.1.size≤4611686018427387904) (some ((((r++u4.1)++u5.1)++u6.1),()))))) (bIf ((hide (t16==(7:Int)))) (J2 n (r,r',t16,true,o,())) (J2 n (r,r',t16,(hide (t16==(8:Int))),o,())))))):=(yae _).trans (by kernel_rfl)
theorem e2 (n:Nat)(r:ByteArray)(r':ByteArray)(t16:Int)(t49:Bool)(o:yak):J2 n (r,r',t16,t49,o,())=bIf (t49) (some (r',())) (bIf ((hide (t16==(9:Int)))) (some (r,())) (bIf ((hide (t16==(10:Int)))) (bnd (ycc.f n o.2.2.2.2.2.2.2.2.1) λu1=>gIf (r'.size+u1.1.size≤4611686018427387904) (some ((r'++u1.1),()))) (bIf ((hide (t16==(11:Int)))) (bnd (ydk.f n o.2.2.2.2.2.2.2.1) λu2=>gIf (r'.size+u2.1.size≤4611686018427387904) (bnd (ycc.f n o.2.2.2.2.2.2.2.2.1) λu3=>gIf ((r'++u2.1).size+u3.1.size≤4611686018427387904) (some (((r'++u2.1)++u3.1),())))) (bIf ((hide (t16==(12:Int)))) (bnd (ydk.f n o.2.2.2.2.2.2.2.1) λu4=>gIf (r'.size+u4.1.size≤4611686018427387904) (some ((r'++u4.1),()))) (bIf ((hide (t16==(13:Int)))) (bnd (ybS.f n o.2.2.2.2.2.2.1) λu5=>gIf (r'.size+u5.1.size≤4611686018427387904) (some ((r'++u5.1),()))) (bIf ((hide (t16==(14:Int)))) (bnd (ybd.f n o.2.2.2.2.2.2.2.2.2.2.2.2.2.2.2.1) λu6=>bnd (ybd.f n o.2.2.2.2.2.2.2.2.2.2.2.2.2.2.2.2.1) λu7=>gIf (u6.1.size+u7.1.size≤4611686018427387904) (bnd (ybd.f n o.2.2.2.2.2.2.2.2.2.2.2.2.2.2.1) λu8=>gIf ((u6.1++u7.1).size+u8.1.size≤4611686018427387904) (bnd (ydg.f n o.2.2.2.2.2.2.2.2.2.2.2.2.2.2.2.2.2.2.1) λu9=>gIf (((u6.1++u7.1)++u8.1).size+u9.1.size≤4611686018427387904) (some ((((u6.1++u7.1)++u8.1)++u9.1),()))))) (bIf ((hide (t16==(15:Int)))) (bnd (ybd.f n o.2.2.2.2.2.2.2.2.2.2.2.2.2.2.2.1) λu10=>bnd (ybd.f n o.2.2.2.2.2.2.2.2.2.2.2.2.2.2.2.2.2.1.2.1) λu11=>gIf (u10.1.size+u11.1.size≤4611686018427387904) (bnd (ybz.f n o.2.2.2.2.2.2.2.2.2.2.2.2.2.2.2.2.2.1.2.2.1) λu12=>gIf ((u10.1++u11.1).size+u12.1.size≤4611686018427387904) (bnd (ydg.f n o.2.2.2.2.2.2.2.2.2.2.2.2.2.2.2.2.2.2.1) λu13=>gIf (((u10.1++u11.1)++u12.1).size+u13.1.size≤4611686018427387904) (some ((((u10.1++u11.1)++u12.1)++u13.1),()))))) (bIf ((hide (t16==(16:Int)))) (bnd (ybS.f n o.2.2.2.2.2.2.1) λu14=>gIf (r.size+u14.1.size≤4611686018427387904) (some ((r++u14.1),()))) (bIf ((hide (t16==(17:Int)))) (bnd (ybz.f n o.2.2.2.2.1) λu15=>bnd (ydg.f n o.2.2.2.2.2.2.2.2.2.2.2.2.1) λu16=>gIf (u15.1.size+u16.1.size≤4611686018427387904) (bnd (ybd.f n (yaT o.2.2.2.2.2.1)) λu17=>gIf ((u15.1++u16.1).size+u17.1.size≤4611686018427387904) (some (((u15.1++u16.1)++u17.1),())))) (bIf ((hide (t16==(18:Int)))) (bnd (ybz.f n o.2.2.2.2.1) λu18=>bnd (ydg.f n ((o.2.2.2.2.2.2.2.2.2.2.2.2.2.1.length:Nat):Int)) λu19=>gIf (u18.1.size+u19.1.size≤4611686018427387904) (J3 n n ((u18.1++u19.1),0,o,()))) (bIf ((hide (t16==(19:Int)))) (bnd (ybz.f n o.2.2.2.2.1) λu20=>some (u20.1,())) (bIf ((hide (t16==(20:Int)))) (bnd (ybd.f n o.2.2.2.2.2.2.2.2.2.2.2.2.2.2.2.2.2.1.1) λu21=>gIf (r.size+u21.1.size≤4611686018427387904) (bnd (ybd.f n o.2.2.2.2.2.2.2.2.2.2.2.2.2.2.2.2.2.1.2.1) λu22=>gIf ((r++u21.1).size+u22.1.size≤4611686018427387904) (bnd (ybz.f n o.2.2.2.2.2.2.2.2.2.2.2.2.2.2.2.2.2.1.2.2.1) λu23=>gIf (((r++u21.1)++u22.1).size+u23.1.size≤4611686018427387904) (some ((((r++u21.1)++u22.1)++u23.1),()))))) (J5 n (())))))))))))))):=(yae _).trans (by kernel_rfl)
theorem e3 (n m:Nat)(a:ByteArray)(y_:Int)(o:yak):J3 n (m+1) (a,y_,o,())=bIf ((hide (decide (y_<((o.2.2.2.2.2.2.2.2.2.2.2.2.2.1.length:Nat):Int))))) (gIf (0≤y_∧y_<((o.2.2.2.2.2.2.2.2.2.2.2.2.2.1.length:Nat):Int)) (bnd (yd8.f n (List.getD o.2.2.2.2.2.2.2.2.2.2.2.2.2.1 y_.toNat 0)) λu1=>gIf (a.size+u1.1.size≤4611686018427387904) (J3 n m ((a++u1.1),(IntKind.i64.wrap (y_+(1:Int))),o,())))) (J4 n (a,())):=(yae _).trans (by kernel_rfl)
theorem e4 (n:Nat)(a:ByteArray):J4 n (a,())=some (a,()):=(yae _).trans (by kernel_rfl)
theorem e5 (n:Nat):J5 n (())=some ((⟨#[]⟩:ByteArray),()):=(yae _).trans (by kernel_rfl)
theorem ok (n:Nat):FnOk Tryz.prog 48 ia io (fRun (X n) n T Tryz.f48 ia io):=yaG mixed tabIs (yad (yac (ydg.ok n)) (yad (yac (ybz.ok n)) (yad (yac (ybd.ok n)) (yad (yac (ycc.ok n)) (yad (yac (yd8.ok n)) (yad (yac (ydk.ok n)) (yad (yac (ybS.ok n)) (yad (yac (ydj.ok n)) (yad (yac (ycK.ok n)) (yad (yac (ycw.ok n)) (yav))))))))))) Tryz.func48 (by kernel_rfl) rfl
def en (n:Nat):Entry:=yaB 48 ia io (fRun (X n) n T Tryz.f48 ia io)
end yal
namespace yem
abbrev ia:List Ai:=[.dat yan]
abbrev io:List (Nat×Oi):=[(2,.dat .str),(3,.dat (.int .i64))]
abbrev R:Type:=DOut ia io
def X (n:Nat):Ctx:=⟨⟨tab,[ydg.en n,ybd.en n,yb0.en n,yal.en n],0,[]⟩,27,bnOf 0 ia⟩
abbrev g1:List Si:=[.ref 1 1 yan,.dat 4 .str,.box 1 (.d yan)]
def T:CT:=(.s .o (.s .o (.s .o (.s .o (.r g1 .o)))))
def J1 (n:Nat):ByteArray×yak×Unit→Option R:=jR (X n) n T (yaM Tryz.f23) (endK ia io) g1 [1,1,1,1] []
def f (n:Nat)(r:yak):Option R:=fRun (X n) n T Tryz.f23 ia io (r,())
theorem e0 (n:Nat)(r:yak):f n r=bnd (yb0.f n r) λu1=>bIf ((!u1.1)) (some ((⟨#[]⟩:ByteArray),2,())) (bnd (ydg.f n r.1) λu2=>bnd (ybd.f n r.2.1) λu3=>gIf (u2.1.size+u3.1.size≤4611686018427387904) (bIf ((hide (decide (r.1<(21:Int))))) (bnd (ybd.f n r.2.2.1) λu4=>gIf ((u2.1++u3.1).size+u4.1.size≤4611686018427387904) (J1 n (((u2.1++u3.1)++u4.1),r,()))) (J1 n ((u2.1++u3.1),r,())))):=(yae _).trans (by kernel_rfl)
theorem e1 (n:Nat)(s_:ByteArray)(r:yak):J1 n (s_,r,())=bnd (yal.f n r) λu1=>gIf (s_.size+u1.1.size≤4611686018427387904) (some ((s_++u1.1),0,())):=(yae _).trans (by kernel_rfl)
theorem ok (n:Nat):FnOk Tryz.prog 23 ia io (fRun (X n) n T Tryz.f23 ia io):=yaG mixed tabIs (yad (yac (ydg.ok n)) (yad (yac (ybd.ok n)) (yad (yac (yb0.ok n)) (yad (yac (yal.ok n)) (yav))))) Tryz.func23 (by kernel_rfl) rfl
def en (n:Nat):Entry:=yaB 23 ia io (fRun (X n) n T Tryz.f23 ia io)
end yem
namespace yfb
abbrev ia:List Ai:=[.dat (.slice (.int .u8))]
abbrev io:List (Nat×Oi):=[(2,.new 0 (.d yaK))]
abbrev R:Type:=DOut ia io
def X (n:Nat):Ctx:=⟨⟨tab,[yb5.en n],0,[]⟩,7,bnOf 0 ia⟩
def T:CT := .o
def f (n:Nat)(b:List (Int)):Option R:=fRun (X n) n T Tryz.f204 ia io (b,())
theorem e0 (n:Nat)(b:List (Int)):f n b=bnd (yb5.f n b) λu1=>some ((u1.1,(0,())),()):=(yae _).trans (by kernel_rfl)
theorem ok (n:Nat):FnOk Tryz.prog 204 ia io (fRun (X n) n T Tryz.f204 ia io):=yaG mixed tabIs (yad (yac (yb5.ok n)) (yav)) Tryz.func204 (by kernel_rfl) rfl
def en (n:Nat):Entry:=yaB 204 ia io (fRun (X n) n T Tryz.f204 ia io)
end yfb
namespace ydz
abbrev ia:List Ai:=[.dat (.slice (.int .u8))]
abbrev io:List (Nat×Oi):=[(2,.newc 1 (.d yaK))]
abbrev R:Type:=DOut ia io
def X (n:Nat):Ctx:=⟨⟨tab,[yfb.en n],0,[]⟩,6,bnOf 0 ia⟩
def T:CT := .o
def f (n:Nat)(b:List (Int)):Option R:=fRun (X n) n T Tryz.f153 ia io (b,())
theorem e0 (n:Nat)(b:List (Int)):f n b=bnd (yfb.f n b) λu1=>some (u1.1,()):=(yae _).trans (by kernel_rfl)
theorem ok (n:Nat):FnOk Tryz.prog 153 ia io (fRun (X n) n T Tryz.f153 ia io):=yaG mixed tabIs (yad (yac (yfb.ok n)) (yav)) Tryz.func153 (by kernel_rfl) rfl
def en (n:Nat):Entry:=yaB 153 ia io (fRun (X n) n T Tryz.f153 ia io)
end ydz
namespace ycN
abbrev ia:List Ai:=[.fn (.str 2) [(.d yaK)]]
abbrev io:List (Nat×Oi):=[(2,.val (.r 0 (.int .u8)))]
abbrev R:Type:=DOut ia io
def X (n:Nat):Ctx:=⟨⟨tab,[yax.en n],0,[]⟩,12,bnOf 0 ia⟩
def T:CT := .o
def f (n:Nat)(rc0:yam):Option R:=fRun (X n) n T Tryz.f210 ia io (rc0,())
theorem e0 (n:Nat)(rc0:yam):f n rc0=bnd (yax.f n rc0) λu1=>bIf ((hide (!eqS u1.1 (⟨#[]⟩:ByteArray)))) (some ((ybN u1.1),u1.2.1,())) (some ([],u1.2.1,())):=(yae _).trans (by kernel_rfl)
theorem ok (n:Nat):FnOk Tryz.prog 210 ia io (fRun (X n) n T Tryz.f210 ia io):=yaG mixed tabIs (yad (yac (yax.ok n)) (yav)) Tryz.func210 (by kernel_rfl) rfl
def en (n:Nat):Entry:=yaB 210 ia io (fRun (X n) n T Tryz.f210 ia io)
end ycN
namespace yai
abbrev ia:List Ai:=[.fn (.str 2) [(.d yaK)],.ptr (.p (.d (.int .i64)) (.p (.d .str) (.p (.d .str) (.p (.d .str) (.p (.d (.int .u64)) (.p (.r 0 (.int .u8)) (.p (.r 0 yaw) (.p (.d yaO) (.p (.d .bool) (.p (.d yaA) (.p (.r 0 yaC) (.p (.r 0 yaD) (.p (.d (.int .i64)) (.p (.r 0 (.int .i64)) (.d (.pair .str (.pair .str (.pair .str (.pair ya0 (.pair (.int .i64) .unit))))))))))))))))))))]
abbrev io:List (Nat×Oi):=[]
abbrev R:Type:=DOut ia io
def X (n:Nat):Ctx:=⟨⟨tab,[yaQ.en n,yax.en n,ya1.en n],0,[]⟩,52,bnOf 0 ia⟩
abbrev g1:List Si:=[.ref 1 502000 yan,.ref 2 2 ybP,.box 2 (.p (.p (.al 500000 yaK) (.d .unit)) (.d .unit)),.box 500000 (.d yaK),.box 502000 (.p (.d (.int .i64)) (.p (.d .str) (.p (.d .str) (.p (.d .str) (.p (.d (.int .u64)) (.p (.r 100000502000000 (.int .u8)) (.p (.r 100000502000001 yaw) (.p (.d yaO) (.p (.d .bool) (.p (.d yaA) (.p (.r 100000502000002 yaC) (.p (.r 100000502000003 yaD) (.p (.d (.int .i64)) (.p (.r 100000502000004 (.int .i64)) (.d (.pair .str (.pair .str (.pair .str (.pair ya0 (.pair (.int .i64) .unit))))))))))))))))))))]
def T:CT:=(.s .o (.s .o (.s .o (.r g1 .o))))
def J1 (n:Nat):ya7×yam×yak×Unit→Option R:=jR (X n) n T (yaM Tryz.f214) (endK ia io) g1 [1,1,1] []
def f (n:Nat)(rc0:yam)(out:yak):Option R:=fRun (X n) n T Tryz.f214 ia io (rc0,out,())
theorem e0 (n:Nat)(rc0:yam)(out:yak):f n rc0 out=bnd (yax.f n rc0) λu1=>bIf ((hide (out.1==(14:Int)))) (bnd (yax.f n u1.2.1) λu2=>bnd (yax.f n u2.2.1) λu3=>J1 n ((((),()),()),u3.2.1,(out.1,(out.2.1,(out.2.2.1,(out.2.2.2.1,(out.2.2.2.2.1,(out.2.2.2.2.2.1,(out.2.2.2.2.2.2.1,(out.2.2.2.2.2.2.2.1,(out.2.2.2.2.2.2.2.2.1,(out.2.2.2.2.2.2.2.2.2.1,(out.2.2.2.2.2.2.2.2.2.2.1,(out.2.2.2.2.2.2.2.2.2.2.2.1,(out.2.2.2.2.2.2.2.2.2.2.2.2.1,(out.2.2.2.2.2.2.2.2.2.2.2.2.2.1,(u3.1,(u1.1,(u2.1,out.2.2.2.2.2.2.2.2.2.2.2.2.2.2.2.2.2))))))))))))))))),())) (bnd (yax.f n u1.2.1) λu4=>bnd (ya1.f n u4.2.1) λu5=>J1 n ((((),()),()),u5.2.1,(out.1,(out.2.1,(out.2.2.1,(out.2.2.2.1,(out.2.2.2.2.1,(out.2.2.2.2.2.1,(out.2.2.2.2.2.2.1,(out.2.2.2.2.2.2.2.1,(out.2.2.2.2.2.2.2.2.1,(out.2.2.2.2.2.2.2.2.2.1,(out.2.2.2.2.2.2.2.2.2.2.1,(out.2.2.2.2.2.2.2.2.2.2.2.1,(out.2.2.2.2.2.2.2.2.2.2.2.2.1,(out.2.2.2.2.2.2.2.2.2.2.2.2.2.1,(out.2.2.2.2.2.2.2.2.2.2.2.2.2.2.1,(u1.1,(out.2.2.2.2.2.2.2.2.2.2.2.2.2.2.2.2.1,((out.2.2.2.2.2.2.2.2.2.2.2.2.2.2.2.2.2.1.1,(u4.1,(u5.1,out.2.2.2.2.2.2.2.2.2.2.2.2.2.2.2.2.2.1.2.2.2))),out.2.2.2.2.2.2.2.2.2.2.2.2.2.2.2.2.2.2)))))))))))))))))),())):=(yae _).trans (by kernel_rfl)
theorem e1 (n:Nat)(r:ya7)(b500000:yam)(out:yak):J1 n (r,b500000,out,())=bnd (yaQ.f n b500000) λu1=>some (u1.2.1,(out.1,(out.2.1,(out.2.2.1,(out.2.2.2.1,(out.2.2.2.2.1,(out.2.2.2.2.2.1,(out.2.2.2.2.2.2.1,(out.2.2.2.2.2.2.2.1,(out.2.2.2.2.2.2.2.2.1,(out.2.2.2.2.2.2.2.2.2.1,(out.2.2.2.2.2.2.2.2.2.2.1,(out.2.2.2.2.2.2.2.2.2.2.2.1,(out.2.2.2.2.2.2.2.2.2.2.2.2.1,(out.2.2.2.2.2.2.2.2.2.2.2.2.2.1,(out.2.2.2.2.2.2.2.2.2.2.2.2.2.2.1,(out.2.2.2.2.2.2.2.2.2.2.2.2.2.2.2.1,(out.2.2.2.2.2.2.2.2.2.2.2.2.2.2.2.2.1,(out.2.2.2.2.2.2.2.2.2.2.2.2.2.2.2.2.2.1,(u1.1,out.2.2.2.2.2.2.2.2.2.2.2.2.2.2.2.2.2.2.2))))))))))))))))))),()):=(yae _).trans (by kernel_rfl)
theorem ok (n:Nat):FnOk Tryz.prog 214 ia io (fRun (X n) n T Tryz.f214 ia io):=yaG mixed tabIs (yad (yac (yaQ.ok n)) (yad (yac (yax.ok n)) (yad (yac (ya1.ok n)) (yav)))) Tryz.func214 (by kernel_rfl) rfl
def en (n:Nat):Entry:=yaB 214 ia io (fRun (X n) n T Tryz.f214 ia io)
end yai
namespace ybf
abbrev ia:List Ai:=[.fn (.str 2) [(.d yaK)]]
abbrev io:List (Nat×Oi):=[(2,.val (.r 0 (.int .i64)))]
abbrev R:Type:=DOut ia io
def X (n:Nat):Ctx:=⟨⟨tab,[yaR.en n,ycf.en n],0,[]⟩,19,bnOf 0 ia⟩
abbrev g1:List Si:=[.ref 1 1 ybP,.val 3 (.r 200300 (.int .i64)),.dat 7 (.int .i64),.dat 8 (.int .i64),.box 1 (.p (.p (.al 500000 yaK) (.d .unit)) (.d .unit)),.box 500000 (.d yaK)]
abbrev g2:List Si:=[.val 3 (.r 200300 (.int .i64)),.box 500000 (.d yaK)]
def T:CT:=(.s .o (.s .o (.s (.s .o (.b (.l g1 .o))) (.r g2 .o))))
def J1 (n:Nat)(m:Nat):(List (Int))×Int×Int×ya7×yam×Unit→Option R:=jL (X n) n T (yaM Tryz.f216) (endK ia io) g1 [1,1,0,1,0] [] m
def J2 (n:Nat):(List (Int))×yam×Unit→Option R:=jR (X n) n T (yaM Tryz.f216) (endK ia io) g2 [1,1,1] []
def f (n:Nat)(rc0:yam):Option R:=fRun (X n) n T Tryz.f216 ia io (rc0,())
theorem e0 (n:Nat)(rc0:yam):f n rc0=bnd (yaR.f n rc0 16) λu1=>J1 n n ([],u1.1,0,(((),()),()),u1.2.1,()):=(yae _).trans (by kernel_rfl)
theorem e1 (n m:Nat)(out:List (Int))(t7:Int)(t8:Int)(r:ya7)(b500000:yam):J1 n (m+1) (out,t7,t8,r,b500000,())=bIf ((hide (decide (t8<t7)))) (bnd (ycf.f n b500000) λu1=>gIf ((out.length+1)*8≤70368744177664) (J1 n m ((out++([u1.1]:List (Int))),t7,(IntKind.i64.wrap (t8+(1:Int))),(((),r.1.2),r.2),u1.2.1,()))) (J2 n (out,b500000,())):=(yae _).trans (by kernel_rfl)
theorem e2 (n:Nat)(out:List (Int))(b500000:yam):J2 n (out,b500000,())=some (out,b500000,()):=(yae _).trans (by kernel_rfl)
theorem ok (n:Nat):FnOk Tryz.prog 216 ia io (fRun (X n) n T Tryz.f216 ia io):=yaG mixed tabIs (yad (yac (yaR.ok n)) (yad (yac (ycf.ok n)) (yav))) Tryz.func216 (by kernel_rfl) rfl
def en (n:Nat):Entry:=yaB 216 ia io (fRun (X n) n T Tryz.f216 ia io)
end ybf
namespace yaF
abbrev ia:List Ai:=[.fn (.str 2) [(.d yaK)],.ptr (.p (.d (.int .i64)) (.p (.d .str) (.p (.d .str) (.p (.d .str) (.p (.d (.int .u64)) (.p (.r 0 (.int .u8)) (.p (.r 0 yaw) (.p (.d yaO) (.p (.d .bool) (.p (.d yaA) (.p (.r 0 yaC) (.p (.r 0 yaD) (.p (.d (.int .i64)) (.p (.r 0 (.int .i64)) (.d (.pair .str (.pair .str (.pair .str (.pair ya0 (.pair (.int .i64) .unit))))))))))))))))))))]
abbrev io:List (Nat×Oi):=[]
abbrev R:Type:=DOut ia io
def X (n:Nat):Ctx:=⟨⟨tab,[yax.en n,ya1.en n],0,[]⟩,18,bnOf 0 ia⟩
def T:CT := .o
def f (n:Nat)(rc0:yam)(out:yak):Option R:=fRun (X n) n T Tryz.f237 ia io (rc0,out,())
theorem e0 (n:Nat)(rc0:yam)(out:yak):f n rc0 out=bnd (yax.f n rc0) λu1=>bnd (ya1.f n u1.2.1) λu2=>some (u2.2.1,(out.1,(out.2.1,(out.2.2.1,(u1.1,(u2.1,out.2.2.2.2.2))))),()):=(yae _).trans (by kernel_rfl)
theorem ok (n:Nat):FnOk Tryz.prog 237 ia io (fRun (X n) n T Tryz.f237 ia io):=yaG mixed tabIs (yad (yac (yax.ok n)) (yad (yac (ya1.ok n)) (yav))) Tryz.func237 (by kernel_rfl) rfl
def en (n:Nat):Entry:=yaB 237 ia io (fRun (X n) n T Tryz.f237 ia io)
end yaF
namespace yas
abbrev ia:List Ai:=[.fn (.str 2) [(.d yaK)],.ptr (.p (.d (.int .i64)) (.p (.d .str) (.p (.d .str) (.p (.d .str) (.p (.d (.int .u64)) (.p (.r 0 (.int .u8)) (.p (.r 0 yaw) (.p (.d yaO) (.p (.d .bool) (.p (.d yaA) (.p (.r 0 yaC) (.p (.r 0 yaD) (.p (.d (.int .i64)) (.p (.r 0 (.int .i64)) (.d (.pair .str (.pair .str (.pair .str (.pair ya0 (.pair (.int .i64) .unit))))))))))))))))))))]
abbrev io:List (Nat×Oi):=[]
abbrev R:Type:=DOut ia io
def X (n:Nat):Ctx:=⟨⟨tab,[yaX.en n,ybH.en n,ya2.en n,yaF.en n],0,[]⟩,51,bnOf 0 ia⟩
def T:CT := .o
def f (n:Nat)(rc0:yam)(out:yak):Option R:=fRun (X n) n T Tryz.f213 ia io (rc0,out,())
theorem e0 (n:Nat)(rc0:yam)(out:yak):f n rc0 out=bnd (yaF.f n rc0 out) λu1=>bIf ((hide (u1.2.1.1==(10:Int)))) (bnd (ya2.f n u1.1) λu2=>some (u2.2.1,(u1.2.1.1,(u1.2.1.2.1,(u1.2.1.2.2.1,(u1.2.1.2.2.2.1,(u1.2.1.2.2.2.2.1,(u1.2.1.2.2.2.2.2.1,(u1.2.1.2.2.2.2.2.2.1,(u1.2.1.2.2.2.2.2.2.2.1,(u2.1,u1.2.1.2.2.2.2.2.2.2.2.2))))))))),())) (bIf ((hide (u1.2.1.1==(11:Int)))) (bnd (ybH.f n u1.1) λu3=>bnd (ya2.f n u3.2.1) λu4=>some (u4.2.1,(u1.2.1.1,(u1.2.1.2.1,(u1.2.1.2.2.1,(u1.2.1.2.2.2.1,(u1.2.1.2.2.2.2.1,(u1.2.1.2.2.2.2.2.1,(u1.2.1.2.2.2.2.2.2.1,(u3.1,(u4.1,u1.2.1.2.2.2.2.2.2.2.2.2))))))))),())) (bIf ((hide (u1.2.1.1==(12:Int)))) (bnd (ybH.f n u1.1) λu5=>some (u5.2.1,(u1.2.1.1,(u1.2.1.2.1,(u1.2.1.2.2.1,(u1.2.1.2.2.2.1,(u1.2.1.2.2.2.2.1,(u1.2.1.2.2.2.2.2.1,(u1.2.1.2.2.2.2.2.2.1,(u5.1,u1.2.1.2.2.2.2.2.2.2.2)))))))),())) (bIf ((hide (u1.2.1.1==(13:Int)))) (bnd (yaX.f n u1.1) λu6=>some (u6.2.1,(u1.2.1.1,(u1.2.1.2.1,(u1.2.1.2.2.1,(u1.2.1.2.2.2.1,(u1.2.1.2.2.2.2.1,(u1.2.1.2.2.2.2.2.1,(u6.1,u1.2.1.2.2.2.2.2.2.2))))))),())) (some (u1.1,u1.2.1,()))))):=(yae _).trans (by kernel_rfl)
theorem ok (n:Nat):FnOk Tryz.prog 213 ia io (fRun (X n) n T Tryz.f213 ia io):=yaG mixed tabIs (yad (yac (yaX.ok n)) (yad (yac (ybH.ok n)) (yad (yac (ya2.ok n)) (yad (yac (yaF.ok n)) (yav))))) Tryz.func213 (by kernel_rfl) rfl
def en (n:Nat):Entry:=yaB 213 ia io (fRun (X n) n T Tryz.f213 ia io)
end yas
namespace yaa
abbrev ia:List Ai:=[.fn (.str 2) [(.d yaK)],.ptr (.p (.d (.int .i64)) (.p (.d .str) (.p (.d .str) (.p (.d .str) (.p (.d (.int .u64)) (.p (.r 0 (.int .u8)) (.p (.r 0 yaw) (.p (.d yaO) (.p (.d .bool) (.p (.d yaA) (.p (.r 0 yaC) (.p (.r 0 yaD) (.p (.d (.int .i64)) (.p (.r 0 (.int .i64)) (.d (.pair .str (.pair .str (.pair .str (.pair ya0 (.pair (.int .i64) .unit))))))))))))))))))))]
abbrev io:List (Nat×Oi):=[]
abbrev R:Type:=DOut ia io
def X (n:Nat):Ctx:=⟨⟨tab,[yaQ.en n,yax.en n,ycp.en n,ya9.en n,ya5.en n,ycN.en n,yaX.en n,ybH.en n,yas.en n,yai.en n,ya1.en n,ybf.en n],0,[]⟩,175,bnOf 0 ia⟩
abbrev g1:List Si:=[.ref 1 502000 yan,.ref 2 2 ybP,.dat 7 (.int .i64),.dat 8 .bool,.box 2 (.p (.p (.al 500000 yaK) (.d .unit)) (.d .unit)),.box 500000 (.d yaK),.box 502000 (.p (.d (.int .i64)) (.p (.d .str) (.p (.d .str) (.p (.d .str) (.p (.d (.int .u64)) (.p (.r 100000502000000 (.int .u8)) (.p (.r 100000502000001 yaw) (.p (.d yaO) (.p (.d .bool) (.p (.d yaA) (.p (.r 100000502000002 yaC) (.p (.r 100000502000003 yaD) (.p (.d (.int .i64)) (.p (.r 100000502000004 (.int .i64)) (.d (.pair .str (.pair .str (.pair .str (.pair ya0 (.pair (.int .i64) .unit))))))))))))))))))))]
abbrev g2:List Si:=[.ref 1 502000 yan,.ref 2 2 ybP,.dat 7 (.int .i64),.dat 59 .bool,.box 2 (.p (.p (.al 500000 yaK) (.d .unit)) (.d .unit)),.box 500000 (.d yaK),.box 502000 (.p (.d (.int .i64)) (.p (.d .str) (.p (.d .str) (.p (.d .str) (.p (.d (.int .u64)) (.p (.r 100000502000000 (.int .u8)) (.p (.r 100000502000001 yaw) (.p (.d yaO) (.p (.d .bool) (.p (.d yaA) (.p (.r 100000502000002 yaC) (.p (.r 100000502000003 yaD) (.p (.d (.int .i64)) (.p (.r 100000502000004 (.int .i64)) (.d (.pair .str (.pair .str (.pair .str (.pair ya0 (.pair (.int .i64) .unit))))))))))))))))))))]
abbrev g3:List Si:=[.ref 1 502000 yan,.ref 2 2 ybP,.dat 7 (.int .i64),.dat 78 .bool,.box 2 (.p (.p (.al 500000 yaK) (.d .unit)) (.d .unit)),.box 500000 (.d yaK),.box 502000 (.p (.d (.int .i64)) (.p (.d .str) (.p (.d .str) (.p (.d .str) (.p (.d (.int .u64)) (.p (.r 100000502000000 (.int .u8)) (.p (.r 100000502000001 yaw) (.p (.d yaO) (.p (.d .bool) (.p (.d yaA) (.p (.r 100000502000002 yaC) (.p (.r 100000502000003 yaD) (.p (.d (.int .i64)) (.p (.r 100000502000004 (.int .i64)) (.d (.pair .str (.pair .str (.pair .str (.pair ya0 (.pair (.int .i64) .unit))))))))))))))))))))]
def T:CT:=(.s .o (.s .o (.b (.s .o (.r g1 (.c .o (.s .o (.c .o (.s .o (.c .o (.s .o (.c .o (.s .o (.r g2 (.c .o (.s .o (.c .o (.s .o (.r g3 .o)))))))))))))))))))
def J1 (n:Nat):Int×Bool×ya7×yam×yak×Unit→Option R:=jR (X n) n T (yaM Tryz.f156) (endK ia io) g1 [1,1,0,1] []
def J2 (n:Nat):Int×Bool×ya7×yam×yak×Unit→Option R:=jR (X n) n T (yaM Tryz.f156) (endK ia io) g2 [1,1,0,1,1,1,1,1,1,1,1,1] []
def J3 (n:Nat):Int×Bool×ya7×yam×yak×Unit→Option R:=jR (X n) n T (yaM Tryz.f156) (endK ia io) g3 [1,1,0,1,1,1,1,1,1,1,1,1,1,1,1,1] []
def f (n:Nat)(tc0:yam)(o:yak):Option R:=fRun (X n) n T Tryz.f156 ia io (tc0,o,())
theorem e0 (n:Nat)(tc0:yam)(o:yak):f n tc0 o=bIf ((hide (o.1==(1:Int)))) (J1 n (o.1,true,(((),()),()),tc0,o,())) (J1 n (o.1,(hide (o.1==(3:Int))),(((),()),()),tc0,o,())):=(yae _).trans (by kernel_rfl)
theorem e1 (n:Nat)(t7:Int)(t8:Bool)(A:ya7)(b500000:yam)(o:yak):J1 n (t7,t8,A,b500000,o,())=bIf (t8) (bnd (ycp.f n b500000) λu1=>some (u1.2.1,(o.1,(o.2.1,(o.2.2.1,(o.2.2.2.1,(o.2.2.2.2.1,(o.2.2.2.2.2.1,(o.2.2.2.2.2.2.1,(o.2.2.2.2.2.2.2.1,(o.2.2.2.2.2.2.2.2.1,(u1.1,o.2.2.2.2.2.2.2.2.2.2)))))))))),())) (bIf ((hide (t7==(4:Int)))) (bnd (ya9.f n b500000) λu2=>some (u2.2.1,(o.1,(o.2.1,(o.2.2.1,(o.2.2.2.1,(o.2.2.2.2.1,(o.2.2.2.2.2.1,(o.2.2.2.2.2.2.1,(o.2.2.2.2.2.2.2.1,(o.2.2.2.2.2.2.2.2.1,(o.2.2.2.2.2.2.2.2.2.1,(u2.1,o.2.2.2.2.2.2.2.2.2.2.2))))))))))),())) (bIf ((hide (t7==(5:Int)))) (bnd (ya5.f n b500000) λu3=>some (u3.2.1,(o.1,(o.2.1,(o.2.2.1,(o.2.2.2.1,(o.2.2.2.2.1,(o.2.2.2.2.2.1,(o.2.2.2.2.2.2.1,(o.2.2.2.2.2.2.2.1,(o.2.2.2.2.2.2.2.2.1,(o.2.2.2.2.2.2.2.2.2.1,(o.2.2.2.2.2.2.2.2.2.2.1,(u3.1,o.2.2.2.2.2.2.2.2.2.2.2.2)))))))))))),())) (bIf ((hide (t7==(6:Int)))) (bnd (yax.f n b500000) λu4=>bnd (ycN.f n u4.2.1) λu5=>bnd (yaX.f n u5.2.1) λu6=>bnd (ybH.f n u6.2.1) λu7=>some (u7.2.1,(o.1,(o.2.1,(o.2.2.1,(u4.1,(o.2.2.2.2.1,(u5.1,(u6.1,(u7.1,o.2.2.2.2.2.2.2.2)))))))),())) (bIf ((hide (t7==(7:Int)))) (J2 n (t7,true,(((),A.1.2),A.2),b500000,o,())) (bIf ((hide (t7==(8:Int)))) (J2 n (t7,true,(((),A.1.2),A.2),b500000,o,())) (bIf ((hide (t7==(10:Int)))) (J2 n (t7,true,(((),A.1.2),A.2),b500000,o,())) (bIf ((hide (t7==(11:Int)))) (J2 n (t7,true,(((),A.1.2),A.2),b500000,o,())) (bIf ((hide (t7==(12:Int)))) (J2 n (t7,true,(((),A.1.2),A.2),b500000,o,())) (J2 n (t7,(hide (t7==(13:Int))),(((),A.1.2),A.2),b500000,o,())))))))))):=(yae _).trans (by kernel_rfl)
theorem e2 (n:Nat)(t7:Int)(t59:Bool)(A:ya7)(b500000:yam)(o:yak):J2 n (t7,t59,A,b500000,o,())=bIf (t59) (bnd (yas.f n b500000 o) λu1=>some (u1.1,u1.2.1,())) (bIf ((hide (t7==(9:Int)))) (bnd (yax.f n b500000) λu2=>some (u2.2.1,(o.1,(o.2.1,(o.2.2.1,(u2.1,o.2.2.2.2)))),())) (bIf ((hide (t7==(14:Int)))) (J3 n (t7,true,(((),A.1.2),A.2),b500000,o,())) (J3 n (t7,(hide (t7==(15:Int))),(((),A.1.2),A.2),b500000,o,())))):=(yae _).trans (by kernel_rfl)
theorem e3 (n:Nat)(t7:Int)(t78:Bool)(A:ya7)(b500000:yam)(o:yak):J3 n (t7,t78,A,b500000,o,())=bIf (t78) (bnd (yai.f n b500000 o) λu1=>some (u1.1,u1.2.1,())) (bIf ((hide (t7==(16:Int)))) (bnd (yax.f n b500000) λu2=>bnd (yaX.f n u2.2.1) λu3=>some (u3.2.1,(o.1,(o.2.1,(o.2.2.1,(u2.1,(o.2.2.2.2.1,(o.2.2.2.2.2.1,(u3.1,o.2.2.2.2.2.2.2))))))),())) (bIf ((hide (t7==(17:Int)))) (bnd (ya1.f n b500000) λu4=>bnd (yaQ.f n u4.2.1) λu5=>bnd (ycN.f n u5.2.1) λu6=>some (u6.2.1,(o.1,(o.2.1,(o.2.2.1,(o.2.2.2.1,(u4.1,(u6.1,(o.2.2.2.2.2.2.1,(o.2.2.2.2.2.2.2.1,(o.2.2.2.2.2.2.2.2.1,(o.2.2.2.2.2.2.2.2.2.1,(o.2.2.2.2.2.2.2.2.2.2.1,(o.2.2.2.2.2.2.2.2.2.2.2.1,(u5.1,o.2.2.2.2.2.2.2.2.2.2.2.2.2))))))))))))),())) (bIf ((hide (t7==(18:Int)))) (bnd (ya1.f n b500000) λu7=>bnd (ybf.f n u7.2.1) λu8=>some (u8.2.1,(o.1,(o.2.1,(o.2.2.1,(o.2.2.2.1,(u7.1,(o.2.2.2.2.2.1,(o.2.2.2.2.2.2.1,(o.2.2.2.2.2.2.2.1,(o.2.2.2.2.2.2.2.2.1,(o.2.2.2.2.2.2.2.2.2.1,(o.2.2.2.2.2.2.2.2.2.2.1,(o.2.2.2.2.2.2.2.2.2.2.2.1,(o.2.2.2.2.2.2.2.2.2.2.2.2.1,(u8.1,o.2.2.2.2.2.2.2.2.2.2.2.2.2.2)))))))))))))),())) (bIf ((hide (t7==(19:Int)))) (bnd (ya1.f n b500000) λu9=>some (u9.2.1,(o.1,(o.2.1,(o.2.2.1,(o.2.2.2.1,(u9.1,o.2.2.2.2.2))))),())) (bIf ((hide (t7==(20:Int)))) (bnd (yax.f n b500000) λu10=>bnd (yax.f n u10.2.1) λu11=>bnd (yax.f n u11.2.1) λu12=>bnd (ya1.f n u12.2.1) λu13=>some (u13.2.1,(o.1,(o.2.1,(o.2.2.1,(u10.1,(o.2.2.2.2.1,(o.2.2.2.2.2.1,(o.2.2.2.2.2.2.1,(o.2.2.2.2.2.2.2.1,(o.2.2.2.2.2.2.2.2.1,(o.2.2.2.2.2.2.2.2.2.1,(o.2.2.2.2.2.2.2.2.2.2.1,(o.2.2.2.2.2.2.2.2.2.2.2.1,(o.2.2.2.2.2.2.2.2.2.2.2.2.1,(o.2.2.2.2.2.2.2.2.2.2.2.2.2.1,(o.2.2.2.2.2.2.2.2.2.2.2.2.2.2.1,(o.2.2.2.2.2.2.2.2.2.2.2.2.2.2.2.1,(o.2.2.2.2.2.2.2.2.2.2.2.2.2.2.2.2.1,((u11.1,(u12.1,(u13.1,o.2.2.2.2.2.2.2.2.2.2.2.2.2.2.2.2.2.1.2.2.2))),o.2.2.2.2.2.2.2.2.2.2.2.2.2.2.2.2.2.2)))))))))))))))))),())) (some (b500000,o,()))))))):=(yae _).trans (by kernel_rfl)
theorem ok (n:Nat):FnOk Tryz.prog 156 ia io (fRun (X n) n T Tryz.f156 ia io):=yaG mixed tabIs (yad (yac (yaQ.ok n)) (yad (yac (yax.ok n)) (yad (yac (ycp.ok n)) (yad (yac (ya9.ok n)) (yad (yac (ya5.ok n)) (yad (yac (ycN.ok n)) (yad (yac (yaX.ok n)) (yad (yac (ybH.ok n)) (yad (yac (yas.ok n)) (yad (yac (yai.ok n)) (yad (yac (ya1.ok n)) (yad (yac (ybf.ok n)) (yav))))))))))))) Tryz.func156 (by kernel_rfl) rfl
def en (n:Nat):Entry:=yaB 156 ia io (fRun (X n) n T Tryz.f156 ia io)
end yaa
namespace ybs
abbrev ia:List Ai:=[.dat (.slice (.int .u8))]
abbrev io:List (Nat×Oi):=[(2,.cel (.d yan)),(3,.dat (.int .i64))]
abbrev R:Type:=DOut ia io
def X (n:Nat):Ctx:=⟨⟨tab,[ycX.en n,ybn.en n,ydz.en n,yaQ.en n,yax.en n,yaa.en n,ydc.en n],0,[]⟩,56,bnOf 0 ia⟩
abbrev g1:List Si:=[.dat 0 (.slice (.int .u8)),.ref 2 2 yan,.ref 4 4 ybP,.ref 5 5 yan,.dat 27 .bool,.box 2 (.p (.d (.int .i64)) (.p (.d .str) (.p (.d .str) (.p (.d .str) (.p (.d (.int .u64)) (.p (.r 100000000002000 (.int .u8)) (.p (.r 100000000002001 yaw) (.p (.d yaO) (.p (.d .bool) (.p (.d yaA) (.p (.r 100000000002002 yaC) (.p (.r 100000000002003 yaD) (.p (.d (.int .i64)) (.p (.r 100000000002004 (.int .i64)) (.d (.pair .str (.pair .str (.pair .str (.pair ya0 (.pair (.int .i64) .unit)))))))))))))))))))),.box 4 (.p (.p (.al 1500000000009 yaK) (.d .unit)) (.d .unit)),.box 5 (.p (.d (.int .i64)) (.p (.d .str) (.p (.d .str) (.p (.d .str) (.p (.d (.int .u64)) (.p (.r 100000000005000 (.int .u8)) (.p (.r 100000000005001 yaw) (.p (.d yaO) (.p (.d .bool) (.p (.d yaA) (.p (.r 100000000005002 yaC) (.p (.r 100000000005003 yaD) (.p (.d (.int .i64)) (.p (.r 100000000005004 (.int .i64)) (.d (.pair .str (.pair .str (.pair .str (.pair ya0 (.pair (.int .i64) .unit)))))))))))))))))))),.box 1500000000009 (.d yaK)]
abbrev g2:List Si:=[.dat 0 (.slice (.int .u8)),.ref 2 2 yan,.ref 4 4 ybP,.ref 5 5 yan,.box 2 (.p (.d (.int .i64)) (.p (.d .str) (.p (.d .str) (.p (.d .str) (.p (.d (.int .u64)) (.p (.r 100000000002000 (.int .u8)) (.p (.r 100000000002001 yaw) (.p (.d yaO) (.p (.d .bool) (.p (.d yaA) (.p (.r 100000000002002 yaC) (.p (.r 100000000002003 yaD) (.p (.d (.int .i64)) (.p (.r 100000000002004 (.int .i64)) (.d (.pair .str (.pair .str (.pair .str (.pair ya0 (.pair (.int .i64) .unit)))))))))))))))))))),.box 4 (.p (.p (.al 1500000000009 yaK) (.d .unit)) (.d .unit)),.box 5 (.p (.d (.int .i64)) (.p (.d .str) (.p (.d .str) (.p (.d .str) (.p (.d (.int .u64)) (.p (.r 100000000005000 (.int .u8)) (.p (.r 100000000005001 yaw) (.p (.d yaO) (.p (.d .bool) (.p (.d yaA) (.p (.r 100000000005002 yaC) (.p (.r 100000000005003 yaD) (.p (.d (.int .i64)) (.p (.r 100000000005004 (.int .i64)) (.d (.pair .str (.pair .str (.pair .str (.pair ya0 (.pair (.int .i64) .unit)))))))))))))))))))),.box 1500000000009 (.d yaK)]
abbrev g3:List Si:=[.ref 2 2 yan,.ref 5 5 yan,.dat 53 .bool,.box 2 (.p (.d (.int .i64)) (.p (.d .str) (.p (.d .str) (.p (.d .str) (.p (.d (.int .u64)) (.p (.r 100000000002000 (.int .u8)) (.p (.r 100000000002001 yaw) (.p (.d yaO) (.p (.d .bool) (.p (.d yaA) (.p (.r 100000000002002 yaC) (.p (.r 100000000002003 yaD) (.p (.d (.int .i64)) (.p (.r 100000000002004 (.int .i64)) (.d (.pair .str (.pair .str (.pair .str (.pair ya0 (.pair (.int .i64) .unit)))))))))))))))))))),.box 5 (.d yan)]
abbrev g4:List Si:=[.ref 2 2 yan,.ref 5 5 yan,.box 2 (.p (.d (.int .i64)) (.p (.d .str) (.p (.d .str) (.p (.d .str) (.p (.d (.int .u64)) (.p (.r 100000000002000 (.int .u8)) (.p (.r 100000000002001 yaw) (.p (.d yaO) (.p (.d .bool) (.p (.d yaA) (.p (.r 100000000002002 yaC) (.p (.r 100000000002003 yaD) (.p (.d (.int .i64)) (.p (.r 100000000002004 (.int .i64)) (.d (.pair .str (.pair .str (.pair .str (.pair ya0 (.pair (.int .i64) .unit)))))))))))))))))))),.box 5 (.d yan)]
def T:CT:=(.s .o (.s .o (.s .o (.s .o (.s (.s .o (.r g1 .o)) (.r g2 (.s .o (.s .o (.s (.s .o (.s .o (.r g3 .o))) (.r g4 .o))))))))))
def J1 (n:Nat):(List (Int))×Bool×yak×ya7×yak×yam×Unit→Option R:=jR (X n) n T (yaM Tryz.f97) (endK ia io) g1 [1,1,1,1,0,1] []
def J2 (n:Nat):(List (Int))×yak×ya7×yak×yam×Unit→Option R:=jR (X n) n T (yaM Tryz.f97) (endK ia io) g2 [1,1,1,1,1] []
def J3 (n:Nat):Bool×yak×yak×Unit→Option R:=jR (X n) n T (yaM Tryz.f97) (endK ia io) g3 [1,1,1,1,1,1,1,0,1,1] []
def J4 (n:Nat):yak×yak×Unit→Option R:=jR (X n) n T (yaM Tryz.f97) (endK ia io) g4 [1,1,1,1,1,1,1,1] []
def f (n:Nat)(b:List (Int)):Option R:=fRun (X n) n T Tryz.f97 ia io (b,())
theorem e0 (n:Nat)(b:List (Int)):f n b=bnd (ydz.f n b) λu1=>bnd (yaQ.f n u1.1) λu2=>bnd (yax.f n u2.2.1) λu3=>bIf ((hide (u2.1 != (21:Int)))) (J1 n (b,(hide (u2.1 != (22:Int))),zq,(((),()),()),(u2.1,(u3.1,((⟨#[]⟩:ByteArray),((⟨#[]⟩:ByteArray),(0,([],([],((0,(0,(false,()))),(false,((0,(0,())),([],([],(0,([],((⟨#[]⟩:ByteArray),((⟨#[]⟩:ByteArray),((⟨#[]⟩:ByteArray),(((⟨#[]⟩:ByteArray),((⟨#[]⟩:ByteArray),(0,()))),(0,()))))))))))))))))))),u3.2.1,())) (J1 n (b,false,zq,(((),()),()),(u2.1,(u3.1,((⟨#[]⟩:ByteArray),((⟨#[]⟩:ByteArray),(0,([],([],((0,(0,(false,()))),(false,((0,(0,())),([],([],(0,([],((⟨#[]⟩:ByteArray),((⟨#[]⟩:ByteArray),((⟨#[]⟩:ByteArray),(((⟨#[]⟩:ByteArray),((⟨#[]⟩:ByteArray),(0,()))),(0,()))))))))))))))))))),u3.2.1,())):=(yae _).trans (by kernel_rfl)
theorem e1 (n:Nat)(b:List (Int))(t27:Bool)(b2:yak)(r:ya7)(out:yak)(b1500000000009:yam):J1 n (b,t27,b2,r,out,b1500000000009,())=bIf (t27) (bnd (yax.f n b1500000000009) λu1=>J2 n (b,b2,(((),r.1.2),r.2),(out.1,(out.2.1,(u1.1,out.2.2.2))),u1.2.1,())) (J2 n (b,b2,(((),r.1.2),r.2),out,b1500000000009,())):=(yae _).trans (by kernel_rfl)
theorem e2 (n:Nat)(b:List (Int))(b2:yak)(r:ya7)(out:yak)(b1500000000009:yam):J2 n (b,b2,r,out,b1500000000009,())=bnd (yaa.f n b1500000000009 out) λu1=>bnd (ydc.f n u1.1) λu2=>bIf ((hide (u2.1 != (0:Int)))) (some (zq,2,())) (bnd (ycX.f n u1.2.1) λu3=>bIf ((hide (u3.2.1 != (0:Int)))) (J3 n (true,b2,u1.2.1,())) (bnd (ybn.f n u3.1 b) λu4=>J3 n ((!u4.1),b2,u1.2.1,()))):=(yae _).trans (by kernel_rfl)
theorem e3 (n:Nat)(t53:Bool)(b2:yak)(out:yak):J3 n (t53,b2,out,())=bIf (t53) (some (zq,2,())) (J4 n (b2,out,())):=(yae _).trans (by kernel_rfl)
theorem e4 (n:Nat)(b2:yak)(out:yak):J4 n (b2,out,())=some (out,0,()):=(yae _).trans (by kernel_rfl)
theorem ok (n:Nat):FnOk Tryz.prog 97 ia io (fRun (X n) n T Tryz.f97 ia io):=yaG mixed tabIs (yad (yac (ycX.ok n)) (yad (yac (ybn.ok n)) (yad (yac (ydz.ok n)) (yad (yac (yaQ.ok n)) (yad (yac (yax.ok n)) (yad (yac (yaa.ok n)) (yad (yac (ydc.ok n)) (yav)))))))) Tryz.func97 (by kernel_rfl) rfl
def en (n:Nat):Entry:=yaB 97 ia io (fRun (X n) n T Tryz.f97 ia io)
end ybs
namespace ydf
abbrev ia:List Ai:=[.dat (.slice (.int .u8))]
abbrev io:List (Nat×Oi):=[(2,.dat .str)]
abbrev R:Type:=DOut ia io
def X (n:Nat):Ctx:=⟨⟨tab,[],0,[]⟩,28,bnOf 0 ia⟩
abbrev g1:List Si:=[.val 3 (.r 200300 (.int .u8)),.dat 10 (.slice (.int .u8)),.dat 11 (.int .i64),.dat 12 (.int .i64)]
abbrev g2:List Si:=[.val 3 (.r 200300 (.int .u8))]
def T:CT:=(.s .o (.s .o (.s (.s .o (.b (.l g1 .o))) (.r g2 .o))))
def J1 (n:Nat)(m:Nat):(List (Int))×(List (Int))×Int×Int×Unit→Option R:=jL (X n) n T (yaM Tryz.f29) (endK ia io) g1 [1,1,0,1,0] [] m
def J2 (n:Nat):(List (Int))×Unit→Option R:=jR (X n) n T (yaM Tryz.f29) (endK ia io) g2 [1,1,1] []
def f (n:Nat)(b:List (Int)):Option R:=fRun (X n) n T Tryz.f29 ia io (b,())
theorem e0 (n:Nat)(b:List (Int)):f n b=gIf (0≤(0:Int)∧(0:Int)≤(IntKind.i64.wrap ((2:Int)*((b.length:Nat):Int)))∧(IntKind.i64.wrap ((2:Int)*((b.length:Nat):Int)))*((1:Nat):Int)≤70368744177664∧1≤1∧1≤Ty.sz (.int .u8)) (J1 n n ([],b,((b.length:Nat):Int),0,())):=(yae _).trans (by kernel_rfl)
theorem e1 (n m:Nat)(out:List (Int))(t10:List (Int))(t11:Int)(t12:Int):J1 n (m+1) (out,t10,t11,t12,())=bIf ((hide (decide (t12<t11)))) (gIf (0≤t12∧t12<((t10.length:Nat):Int)) (gNo ((4:Int)<0) (gIf (0≤(shrI .u8 (List.getD t10 t12.toNat 0) 4)∧(shrI .u8 (List.getD t10 t12.toNat 0) 4)<((⟨#[48,49,50,51,52,53,54,55,56,57,97,98,99,100,101,102]⟩:ByteArray).size:Int)) (gIf (0≤(bitI .and .u8 (List.getD t10 t12.toNat 0) 15)∧(bitI .and .u8 (List.getD t10 t12.toNat 0) 15)<((⟨#[48,49,50,51,52,53,54,55,56,57,97,98,99,100,101,102]⟩:ByteArray).size:Int)) (gIf ((out.length+2)*1≤70368744177664) (J1 n m ((out++([(bt (⟨#[48,49,50,51,52,53,54,55,56,57,97,98,99,100,101,102]⟩:ByteArray) (shrI .u8 (List.getD t10 t12.toNat 0) 4)),(bt (⟨#[48,49,50,51,52,53,54,55,56,57,97,98,99,100,101,102]⟩:ByteArray) (bitI .and .u8 (List.getD t10 t12.toNat 0) 15))]:List (Int))),t10,t11,(IntKind.i64.wrap (t12+(1:Int))),()))))))) (J2 n (out,())):=(yae _).trans (by kernel_rfl)
theorem e2 (n:Nat)(out:List (Int)):J2 n (out,())=some ((yaT out),()):=(yae _).trans (by kernel_rfl)
theorem ok (n:Nat):FnOk Tryz.prog 29 ia io (fRun (X n) n T Tryz.f29 ia io):=yaG mixed tabIs (yav) Tryz.func29 (by kernel_rfl) rfl
def en (n:Nat):Entry:=yaB 29 ia io (fRun (X n) n T Tryz.f29 ia io)
end ydf
namespace yda
abbrev ia:List Ai:=[.dat (.int .u64)]
abbrev io:List (Nat×Oi):=[(2,.dat .str)]
abbrev R:Type:=DOut ia io
def X (n:Nat):Ctx:=⟨⟨tab,[],0,[]⟩,23,bnOf 0 ia⟩
abbrev g1:List Si:=[.dat 0 (.int .u64),.dat 3 .str]
abbrev g2:List Si:=[.dat 3 .str]
def T:CT:=(.s .o (.s .o (.s (.b (.l g1 .o)) (.r g2 .o))))
def J1 (n:Nat)(m:Nat):Int×ByteArray×Unit→Option R:=jL (X n) n T (yaM Tryz.f38) (endK ia io) g1 [1,1,0,0] [] m
def J2 (n:Nat):ByteArray×Unit→Option R:=jR (X n) n T (yaM Tryz.f38) (endK ia io) g2 [1,1,1] []
def f (n:Nat)(n_:Int):Option R:=fRun (X n) n T Tryz.f38 ia io (n_,())
theorem e0 (n:Nat)(n_:Int):f n n_=gNo ((10:Int)=0) (J1 n n (n_,(yaT ([(IntKind.u8.wrap (IntKind.u64.wrap ((48:Int)+(Int.tmod n_ 10))))]:List (Int))),())):=(yae _).trans (by kernel_rfl)
theorem e1 (n m:Nat)(n_:Int)(s_:ByteArray):J1 n (m+1) (n_,s_,())=bIf ((hide (decide (n_≥(10:Int))))) (gNo ((10:Int)=0) (gNo ((10:Int)=0) (gIf ((yaT ([(IntKind.u8.wrap (IntKind.u64.wrap ((48:Int)+(Int.tmod (IntKind.u64.wrap (Int.tdiv n_ 10)) 10))))]:List (Int))).size+s_.size≤4611686018427387904) (J1 n m ((IntKind.u64.wrap (Int.tdiv n_ 10)),((yaT ([(IntKind.u8.wrap (IntKind.u64.wrap ((48:Int)+(Int.tmod (IntKind.u64.wrap (Int.tdiv n_ 10)) 10))))]:List (Int)))++s_),()))))) (J2 n (s_,())):=(yae _).trans (by kernel_rfl)
theorem e2 (n:Nat)(s_:ByteArray):J2 n (s_,())=some (s_,()):=(yae _).trans (by kernel_rfl)
theorem ok (n:Nat):FnOk Tryz.prog 38 ia io (fRun (X n) n T Tryz.f38 ia io):=yaG mixed tabIs (yav) Tryz.func38 (by kernel_rfl) rfl
def en (n:Nat):Entry:=yaB 38 ia io (fRun (X n) n T Tryz.f38 ia io)
end yda
namespace yc9
abbrev ia:List Ai:=[.dat (.int .i64)]
abbrev io:List (Nat×Oi):=[(2,.dat .str)]
abbrev R:Type:=DOut ia io
def X (n:Nat):Ctx:=⟨⟨tab,[yda.en n],0,[]⟩,15,bnOf 0 ia⟩
def T:CT := .o
def f (n:Nat)(n_:Int):Option R:=fRun (X n) n T Tryz.f17 ia io (n_,())
theorem e0 (n:Nat)(n_:Int):f n n_=bIf ((hide (decide (n_≥(0:Int))))) (bnd (yda.f n (IntKind.u64.wrap n_)) λu1=>some (u1.1,())) (bnd (yda.f n (IntKind.u64.wrap ((IntKind.u64.wrap (IntKind.i64.wrap (0-(IntKind.i64.wrap (n_+(1:Int))))))+(1:Int)))) λu2=>gIf ((⟨#[45]⟩:ByteArray).size+u2.1.size≤4611686018427387904) (some (((⟨#[45]⟩:ByteArray)++u2.1),()))):=(yae _).trans (by kernel_rfl)
theorem ok (n:Nat):FnOk Tryz.prog 17 ia io (fRun (X n) n T Tryz.f17 ia io):=yaG mixed tabIs (yad (yac (yda.ok n)) (yav)) Tryz.func17 (by kernel_rfl) rfl
def en (n:Nat):Entry:=yaB 17 ia io (fRun (X n) n T Tryz.f17 ia io)
end yc9
namespace yd7
abbrev ia:List Ai:=[.dat (.slice (.int .u8))]
abbrev io:List (Nat×Oi):=[(2,.dat .str)]
abbrev R:Type:=DOut ia io
def X (n:Nat):Ctx:=⟨⟨tab,[],0,[]⟩,42,bnOf 0 ia⟩
abbrev g1:List Si:=[.dat 0 (.slice (.int .u8)),.dat 3 .str,.dat 4 .str,.dat 5 (.int .i64)]
abbrev g2:List Si:=[.dat 4 .str]
def T:CT:=(.s .o (.s .o (.s .o (.s (.s .o (.b (.l g1 .o))) (.r g2 .o)))))
def J1 (n:Nat)(m:Nat):(List (Int))×ByteArray×ByteArray×Int×Unit→Option R:=jL (X n) n T (yaM Tryz.f16) (endK ia io) g1 [1,1,1,0,1,0] [] m
def J2 (n:Nat):ByteArray×Unit→Option R:=jR (X n) n T (yaM Tryz.f16) (endK ia io) g2 [1,1,1,1] []
def f (n:Nat)(b:List (Int)):Option R:=fRun (X n) n T Tryz.f16 ia io (b,())
theorem e0 (n:Nat)(b:List (Int)):f n b=J1 n n (b,(⟨#[48,49,50,51,52,53,54,55,56,57,97,98,99,100,101,102]⟩:ByteArray),(⟨#[]⟩:ByteArray),0,()):=(yae _).trans (by kernel_rfl)
theorem e1 (n m:Nat)(b:List (Int))(d:ByteArray)(out:ByteArray)(i:Int):J1 n (m+1) (b,d,out,i,())=bIf ((hide (decide (i<((b.length:Nat):Int))))) (gIf (0≤i∧i<((b.length:Nat):Int)) (gNo ((16:Int)=0) (gIf (0≤i∧i<((b.length:Nat):Int)) (gNo ((16:Int)=0) (gIf (0≤(IntKind.u8.wrap ((IntKind.u8.wrap (Int.tdiv (List.getD b i.toNat 0) 16))+(1:Int)))∧(IntKind.u8.wrap ((IntKind.u8.wrap (Int.tdiv (List.getD b i.toNat 0) 16))+(1:Int)))≤(d.size:Int)) (gIf (0≤(IntKind.u8.wrap (Int.tdiv (List.getD b i.toNat 0) 16))∧(IntKind.u8.wrap (Int.tdiv (List.getD b i.toNat 0) 16))≤(IntKind.u8.wrap ((IntKind.u8.wrap (Int.tdiv (List.getD b i.toNat 0) 16))+(1:Int)))) (gIf (0≤i∧i<((b.length:Nat):Int)) (gNo ((16:Int)=0) (gIf (0≤i∧i<((b.length:Nat):Int)) (gNo ((16:Int)=0) (gIf (0≤(IntKind.u8.wrap ((Int.tmod (List.getD b i.toNat 0) 16)+(1:Int)))∧(IntKind.u8.wrap ((Int.tmod (List.getD b i.toNat 0) 16)+(1:Int)))≤(d.size:Int)) (gIf (0≤(Int.tmod (List.getD b i.toNat 0) 16)∧(Int.tmod (List.getD b i.toNat 0) 16)≤(IntKind.u8.wrap ((Int.tmod (List.getD b i.toNat 0) 16)+(1:Int)))) (gIf ((d.extract ((IntKind.u8.wrap (Int.tdiv (List.getD b i.toNat 0) 16)).toNat) ((IntKind.u8.wrap ((IntKind.u8.wrap (Int.tdiv (List.getD b i.toNat 0) 16))+(1:Int))).toNat)).size+(d.extract ((Int.tmod (List.getD b i.toNat 0) 16).toNat) ((IntKind.u8.wrap ((Int.tmod (List.getD b i.toNat 0) 16)+(1:Int))).toNat)).size≤4611686018427387904) (gIf (out.size+((d.extract ((IntKind.u8.wrap (Int.tdiv (List.getD b i.toNat 0) 16)).toNat) ((IntKind.u8.wrap ((IntKind.u8.wrap (Int.tdiv (List.getD b i.toNat 0) 16))+(1:Int))).toNat))++(d.extract ((Int.tmod (List.getD b i.toNat 0) 16).toNat) ((IntKind.u8.wrap ((Int.tmod (List.getD b i.toNat 0) 16)+(1:Int))).toNat))).size≤4611686018427387904) (J1 n m (b,d,(out++((d.extract ((IntKind.u8.wrap (Int.tdiv (List.getD b i.toNat 0) 16)).toNat) ((IntKind.u8.wrap ((IntKind.u8.wrap (Int.tdiv (List.getD b i.toNat 0) 16))+(1:Int))).toNat))++(d.extract ((Int.tmod (List.getD b i.toNat 0) 16).toNat) ((IntKind.u8.wrap ((Int.tmod (List.getD b i.toNat 0) 16)+(1:Int))).toNat)))),(IntKind.i64.wrap (i+(1:Int))),())))))))))))))))) (J2 n (out,())):=(yae _).trans (by kernel_rfl)
theorem e2 (n:Nat)(out:ByteArray):J2 n (out,())=some (out,()):=(yae _).trans (by kernel_rfl)
theorem ok (n:Nat):FnOk Tryz.prog 16 ia io (fRun (X n) n T Tryz.f16 ia io):=yaG mixed tabIs (yav) Tryz.func16 (by kernel_rfl) rfl
def en (n:Nat):Entry:=yaB 16 ia io (fRun (X n) n T Tryz.f16 ia io)
end yd7
namespace ycI
abbrev ia:List Ai:=[.dat .str]
abbrev io:List (Nat×Oi):=[(2,.val (.r 0 (.int .u8))),(3,.dat (.int .i64))]
abbrev R:Type:=DOut ia io
def X (n:Nat):Ctx:=⟨⟨tab,[ycm.en],0,[]⟩,42,bnOf 0 ia⟩
abbrev g1:List Si:=[.dat 0 .str,.val 4 (.r 200400 (.int .u8)),.dat 5 (.int .i64)]
abbrev g2:List Si:=[.dat 0 .str,.val 4 (.r 200400 (.int .u8)),.dat 5 (.int .i64),.dat 6 (.int .i64),.dat 7 (.int .i64)]
abbrev g3:List Si:=[.dat 0 .str,.val 4 (.r 200400 (.int .u8)),.dat 5 (.int .i64)]
abbrev g4:List Si:=[.val 4 (.r 200400 (.int .u8))]
def T:CT:=(.s .o (.s .o (.s .o (.s (.s .o (.b (.l g1 (.s .o (.s (.b (.s .o (.s .o (.r g2 .o)))) (.r g3 .o)))))) (.r g4 .o)))))
def J1 (n:Nat)(m:Nat):ByteArray×(List (Int))×Int×Unit→Option R:=jL (X n) n T (yaM Tryz.f96) (endK ia io) g1 [1,1,1,0,1,0] [] m
def J2 (n m1:Nat):ByteArray×(List (Int))×Int×Int×Int×Unit→Option R:=jR (X n) n T (yaM Tryz.f96) (endK ia io) g2 [1,1,1,0,1,0,0,1,0,0,1,1] [m1]
def J3 (n m1:Nat):ByteArray×(List (Int))×Int×Unit→Option R:=jR (X n) n T (yaM Tryz.f96) (endK ia io) g3 [1,1,1,0,1,0,0,1,1] [m1]
def J4 (n:Nat):(List (Int))×Unit→Option R:=jR (X n) n T (yaM Tryz.f96) (endK ia io) g4 [1,1,1,1] []
def f (n:Nat)(s_:ByteArray):Option R:=fRun (X n) n T Tryz.f96 ia io (s_,())
theorem e0 (n:Nat)(s_:ByteArray):f n s_=gNo ((2:Int)=0) (bIf ((hide ((Int.tmod (s_.size:Int) 2) != (0:Int)))) (some ([],5,())) (J1 n n (s_,[],0,()))):=(yae _).trans (by kernel_rfl)
theorem e1 (n m:Nat)(s_:ByteArray)(out:List (Int))(i:Int):J1 n (m+1) (s_,out,i,())=bIf ((hide (decide (i<(s_.size:Int))))) (gIf (0≤i∧i<(s_.size:Int)) (bnd (ycm.f (⟨#[48,49,50,51,52,53,54,55,56,57,97,98,99,100,101,102]⟩:ByteArray) (bt s_ i)) λu1=>gIf (0≤(IntKind.i64.wrap (i+(1:Int)))∧(IntKind.i64.wrap (i+(1:Int)))<(s_.size:Int)) (bnd (ycm.f (⟨#[48,49,50,51,52,53,54,55,56,57,97,98,99,100,101,102]⟩:ByteArray) (bt s_ (IntKind.i64.wrap (i+(1:Int))))) λu2=>bIf ((hide (decide (u1.1<(0:Int))))) (some ([],5,())) (bIf ((hide (decide (u2.1<(0:Int))))) (some ([],5,())) (J2 n m (s_,out,i,u1.1,u2.1,())))))) (J4 n (out,())):=(yae _).trans (by kernel_rfl)
theorem e2 (n m1:Nat)(s_:ByteArray)(out:List (Int))(i:Int)(hi:Int)(lo:Int):J2 n m1 (s_,out,i,hi,lo,())=gNo ((4:Int)<0) (gIf ((out.length+1)*1≤70368744177664) (J3 n m1 (s_,(out++([(IntKind.u8.wrap (bitI .or .i64 (shlI .i64 hi 4) lo))]:List (Int))),i,()))):=(yae _).trans (by kernel_rfl)
theorem e3 (n m1:Nat)(s_:ByteArray)(out:List (Int))(i:Int):J3 n m1 (s_,out,i,())=J1 n m1 (s_,out,(IntKind.i64.wrap (i+(2:Int))),()):=(yae _).trans (by kernel_rfl)
theorem e4 (n:Nat)(out:List (Int)):J4 n (out,())=some (out,0,()):=(yae _).trans (by kernel_rfl)
theorem ok (n:Nat):FnOk Tryz.prog 96 ia io (fRun (X n) n T Tryz.f96 ia io):=yaG mixed tabIs (yad (yac (ycm.ok)) (yav)) Tryz.func96 (by kernel_rfl) rfl
def en (n:Nat):Entry:=yaB 96 ia io (fRun (X n) n T Tryz.f96 ia io)
end ycI
namespace ybw
abbrev ia:List Ai:=[.dat .str,.dat .str]
abbrev io:List (Nat×Oi):=[(4,.dat .bool)]
abbrev R:Type:=DOut ia io
def X (n:Nat):Ctx:=⟨⟨tab,[],0,[]⟩,18,bnOf 0 ia⟩
def T:CT := .o
def f (n:Nat)(s_:ByteArray)(prefix_:ByteArray):Option R:=fRun (X n) n T Tryz.f203 ia io (s_,prefix_,())
theorem e0 (n:Nat)(s_:ByteArray)(prefix_:ByteArray):f n s_ prefix_=bIf ((hide (decide ((s_.size:Int)≥(prefix_.size:Int))))) (gIf (0≤(prefix_.size:Int)∧(prefix_.size:Int)≤(s_.size:Int)) (gIf (0≤(0:Int)∧(0:Int)≤(prefix_.size:Int)) (some ((hide (eqS (s_.extract 0 ((prefix_.size:Int).toNat)) prefix_)),())))) (some (false,())):=(yae _).trans (by kernel_rfl)
theorem ok (n:Nat):FnOk Tryz.prog 203 ia io (fRun (X n) n T Tryz.f203 ia io):=yaG mixed tabIs (yav) Tryz.func203 (by kernel_rfl) rfl
def en (n:Nat):Entry:=yaB 203 ia io (fRun (X n) n T Tryz.f203 ia io)
end ybw
namespace ybO
abbrev ia:List Ai:=[.dat .str,.dat .str]
abbrev io:List (Nat×Oi):=[(4,.dat .str),(5,.dat .bool)]
abbrev R:Type:=DOut ia io
def X (n:Nat):Ctx:=⟨⟨tab,[ybw.en n],0,[]⟩,15,bnOf 0 ia⟩
def T:CT := .o
def f (n:Nat)(s_:ByteArray)(prefix_:ByteArray):Option R:=fRun (X n) n T Tryz.f151 ia io (s_,prefix_,())
theorem e0 (n:Nat)(s_:ByteArray)(prefix_:ByteArray):f n s_ prefix_=bnd (ybw.f n s_ prefix_) λu1=>bIf ((!u1.1)) (some (s_,false,())) (gIf (0≤(s_.size:Int)∧(s_.size:Int)≤(s_.size:Int)) (gIf (0≤(prefix_.size:Int)∧(prefix_.size:Int)≤(s_.size:Int)) (some ((s_.extract ((prefix_.size:Int).toNat) (((s_.size:Int)).toNat)),true,())))):=(yae _).trans (by kernel_rfl)
theorem ok (n:Nat):FnOk Tryz.prog 151 ia io (fRun (X n) n T Tryz.f151 ia io):=yaG mixed tabIs (yad (yac (ybw.ok n)) (yav)) Tryz.func151 (by kernel_rfl) rfl
def en (n:Nat):Entry:=yaB 151 ia io (fRun (X n) n T Tryz.f151 ia io)
end ybO
namespace yc7
abbrev ia:List Ai:=[.dat .str,.dat .str]
abbrev io:List (Nat×Oi):=[(4,.dat .str),(5,.dat .bool)]
abbrev R:Type:=DOut ia io
def X (n:Nat):Ctx:=⟨⟨tab,[ybO.en n],0,[]⟩,11,bnOf 0 ia⟩
def T:CT := .o
def f (n:Nat)(s_:ByteArray)(prefix_:ByteArray):Option R:=fRun (X n) n T Tryz.f95 ia io (s_,prefix_,())
theorem e0 (n:Nat)(s_:ByteArray)(prefix_:ByteArray):f n s_ prefix_=bnd (ybO.f n s_ prefix_) λu1=>some (u1.1,u1.2.1,()):=(yae _).trans (by kernel_rfl)
theorem ok (n:Nat):FnOk Tryz.prog 95 ia io (fRun (X n) n T Tryz.f95 ia io):=yaG mixed tabIs (yad (yac (ybO.ok n)) (yav)) Tryz.func95 (by kernel_rfl) rfl
def en (n:Nat):Entry:=yaB 95 ia io (fRun (X n) n T Tryz.f95 ia io)
end yc7
namespace ydx
abbrev ia:List Ai:=[.dat .str]
abbrev io:List (Nat×Oi):=[(2,.cel (.p (.d (.int .i64)) (.p (.d yan) (.p (.d (.int .i64)) (.p (.d (.int .i64)) (.p (.r 0 (.int .i64)) (.d .unit))))))),(3,.dat .bool)]
abbrev R:Type:=DOut ia io
def X (n:Nat):Ctx:=⟨⟨tab,[yaH.en n,yc7.en n,ycI.en n,ybs.en n],0,[]⟩,40,bnOf 0 ia⟩
def T:CT := .o
def f (n:Nat)(w_:ByteArray):Option R:=fRun (X n) n T Tryz.f50 ia io (w_,())
theorem e0 (n:Nat)(w_:ByteArray):f n w_=bnd (yc7.f n w_ (⟨#[120]⟩:ByteArray)) λu1=>bnd (ycI.f n u1.1) λu2=>bnd (ybs.f n u2.1) λu3=>bIf (u1.2.1) (bIf ((hide (u2.2.1==(0:Int)))) (bIf ((hide (u3.2.1==(0:Int)))) (bnd (yaH.f n u3.1) λu4=>some ((2,(u3.1,(0,(0,([],()))))),u4.1,())) (some ((2,(u3.1,(0,(0,([],()))))),false,()))) (some ((2,(u3.1,(0,(0,([],()))))),false,()))) (some ((2,(u3.1,(0,(0,([],()))))),false,())):=(yae _).trans (by kernel_rfl)
theorem ok (n:Nat):FnOk Tryz.prog 50 ia io (fRun (X n) n T Tryz.f50 ia io):=yaG mixed tabIs (yad (yac (yaH.ok n)) (yad (yac (yc7.ok n)) (yad (yac (ycI.ok n)) (yad (yac (ybs.ok n)) (yav))))) Tryz.func50 (by kernel_rfl) rfl
def en (n:Nat):Entry:=yaB 50 ia io (fRun (X n) n T Tryz.f50 ia io)
end ydx
namespace ycr
abbrev ia:List Ai:=[.dat (.slice (.int .i64))]
abbrev io:List (Nat×Oi):=[(2,.cel (.p (.d (.int .i64)) (.p (.p (.d (.int .i64)) (.p (.d .str) (.p (.d .str) (.p (.d .str) (.p (.d (.int .u64)) (.p (.r 0 (.int .u8)) (.p (.r 0 yaw) (.p (.d yaO) (.p (.d .bool) (.p (.d yaA) (.p (.r 0 yaC) (.p (.r 0 yaD) (.p (.d (.int .i64)) (.p (.r 0 (.int .i64)) (.d (.pair .str (.pair .str (.pair .str (.pair ya0 (.pair (.int .i64) .unit)))))))))))))))))))) (.p (.d (.int .i64)) (.p (.d (.int .i64)) (.p (.r 0 (.int .i64)) (.d .unit))))))),(3,.dat .bool)]
abbrev R:Type:=DOut ia io
def X (n:Nat):Ctx:=⟨⟨tab,[],0,[]⟩,45,bnOf 0 ia⟩
abbrev g1:List Si:=[.dat 0 (.slice (.int .i64)),.ref 2 2 yaY,.dat 21 .bool,.box 2 (.p (.d (.int .i64)) (.p (.p (.d (.int .i64)) (.p (.d .str) (.p (.d .str) (.p (.d .str) (.p (.d (.int .u64)) (.p (.r 100000000002000 (.int .u8)) (.p (.r 100000000002001 yaw) (.p (.d yaO) (.p (.d .bool) (.p (.d yaA) (.p (.r 100000000002002 yaC) (.p (.r 100000000002003 yaD) (.p (.d (.int .i64)) (.p (.r 100000000002004 (.int .i64)) (.d (.pair .str (.pair .str (.pair .str (.pair ya0 (.pair (.int .i64) .unit)))))))))))))))))))) (.p (.d (.int .i64)) (.p (.d (.int .i64)) (.p (.r 100000000002005 (.int .i64)) (.d .unit))))))]
abbrev g2:List Si:=[.dat 0 (.slice (.int .i64)),.ref 2 2 yaY,.box 2 (.p (.d (.int .i64)) (.p (.p (.d (.int .i64)) (.p (.d .str) (.p (.d .str) (.p (.d .str) (.p (.d (.int .u64)) (.p (.r 100000000002000 (.int .u8)) (.p (.r 100000000002001 yaw) (.p (.d yaO) (.p (.d .bool) (.p (.d yaA) (.p (.r 100000000002002 yaC) (.p (.r 100000000002003 yaD) (.p (.d (.int .i64)) (.p (.r 100000000002004 (.int .i64)) (.d (.pair .str (.pair .str (.pair .str (.pair ya0 (.pair (.int .i64) .unit)))))))))))))))))))) (.p (.d (.int .i64)) (.p (.d (.int .i64)) (.p (.r 100000000002005 (.int .i64)) (.d .unit))))))]
abbrev g3:List Si:=[.ref 2 2 yaY,.ref 4 4 yaY,.dat 31 (.slice (.int .i64)),.dat 32 (.int .i64),.dat 33 (.int .i64),.box 2 (.p (.d (.int .i64)) (.p (.p (.d (.int .i64)) (.p (.d .str) (.p (.d .str) (.p (.d .str) (.p (.d (.int .u64)) (.p (.r 100000000002000 (.int .u8)) (.p (.r 100000000002001 yaw) (.p (.d yaO) (.p (.d .bool) (.p (.d yaA) (.p (.r 100000000002002 yaC) (.p (.r 100000000002003 yaD) (.p (.d (.int .i64)) (.p (.r 100000000002004 (.int .i64)) (.d (.pair .str (.pair .str (.pair .str (.pair ya0 (.pair (.int .i64) .unit)))))))))))))))))))) (.p (.d (.int .i64)) (.p (.d (.int .i64)) (.p (.r 100000000002005 (.int .i64)) (.d .unit)))))),.box 4 (.p (.d (.int .i64)) (.p (.p (.d (.int .i64)) (.p (.d .str) (.p (.d .str) (.p (.d .str) (.p (.d (.int .u64)) (.p (.r 100000000004000 (.int .u8)) (.p (.r 100000000004001 yaw) (.p (.d yaO) (.p (.d .bool) (.p (.d yaA) (.p (.r 100000000004002 yaC) (.p (.r 100000000004003 yaD) (.p (.d (.int .i64)) (.p (.r 100000000004004 (.int .i64)) (.d (.pair .str (.pair .str (.pair .str (.pair ya0 (.pair (.int .i64) .unit)))))))))))))))))))) (.p (.d (.int .i64)) (.p (.d (.int .i64)) (.p (.r 100000000004005 (.int .i64)) (.d .unit))))))]
abbrev g4:List Si:=[.ref 2 2 yaY,.ref 4 4 yaY,.box 2 (.p (.d (.int .i64)) (.p (.p (.d (.int .i64)) (.p (.d .str) (.p (.d .str) (.p (.d .str) (.p (.d (.int .u64)) (.p (.r 100000000002000 (.int .u8)) (.p (.r 100000000002001 yaw) (.p (.d yaO) (.p (.d .bool) (.p (.d yaA) (.p (.r 100000000002002 yaC) (.p (.r 100000000002003 yaD) (.p (.d (.int .i64)) (.p (.r 100000000002004 (.int .i64)) (.d (.pair .str (.pair .str (.pair .str (.pair ya0 (.pair (.int .i64) .unit)))))))))))))))))))) (.p (.d (.int .i64)) (.p (.d (.int .i64)) (.p (.r 100000000002005 (.int .i64)) (.d .unit)))))),.box 4 (.p (.d (.int .i64)) (.p (.p (.d (.int .i64)) (.p (.d .str) (.p (.d .str) (.p (.d .str) (.p (.d (.int .u64)) (.p (.r 100000000004000 (.int .u8)) (.p (.r 100000000004001 yaw) (.p (.d yaO) (.p (.d .bool) (.p (.d yaA) (.p (.r 100000000004002 yaC) (.p (.r 100000000004003 yaD) (.p (.d (.int .i64)) (.p (.r 100000000004004 (.int .i64)) (.d (.pair .str (.pair .str (.pair .str (.pair ya0 (.pair (.int .i64) .unit)))))))))))))))))))) (.p (.d (.int .i64)) (.p (.d (.int .i64)) (.p (.r 100000000004005 (.int .i64)) (.d .unit))))))]
def T:CT:=(.s .o (.s (.s .o (.r g1 .o)) (.r g2 (.s .o (.s (.s .o (.b (.l g3 .o))) (.r g4 .o))))))
def J1 (n:Nat):(List (Int))×Bool×yaW×Unit→Option R:=jR (X n) n T (yaM Tryz.f52) (endK ia io) g1 [1,0,1] []
def J2 (n:Nat):(List (Int))×yaW×Unit→Option R:=jR (X n) n T (yaM Tryz.f52) (endK ia io) g2 [1,1] []
def J3 (n:Nat)(m:Nat):(List (Int))×Int×Int×yaW×yaW×Unit→Option R:=jL (X n) n T (yaM Tryz.f52) (endK ia io) g3 [1,1,1,0,1,0] [] m
def J4 (n:Nat):yaW×yaW×Unit→Option R:=jR (X n) n T (yaM Tryz.f52) (endK ia io) g4 [1,1,1,1] []
def f (n:Nat)(n_:List (Int)):Option R:=fRun (X n) n T Tryz.f52 ia io (n_,())
theorem e0 (n:Nat)(n_:List (Int)):f n n_=bIf ((hide (decide (((n_.length:Nat):Int)<(2:Int))))) (J1 n (n_,true,(0,(zq,(0,(0,([],()))))),())) (gIf (0≤(1:Int)∧(1:Int)<((n_.length:Nat):Int)) (bIf ((hide (decide ((List.getD n_ 1 0)<(0:Int))))) (J1 n (n_,true,(0,(zq,(0,(0,([],()))))),())) (gIf (0≤(1:Int)∧(1:Int)<((n_.length:Nat):Int)) (J1 n (n_,(hide (decide ((List.getD n_ 1 0)>(255:Int)))),(0,(zq,(0,(0,([],()))))),()))))):=(yae _).trans (by kernel_rfl)
theorem e1 (n:Nat)(n_:List (Int))(t21:Bool)(b2:yaW):J1 n (n_,t21,b2,())=bIf (t21) (some ((0,(zq,(0,(0,([],()))))),false,())) (J2 n (n_,b2,())):=(yae _).trans (by kernel_rfl)
theorem e2 (n:Nat)(n_:List (Int))(b2:yaW):J2 n (n_,b2,())=gIf (0≤(0:Int)∧(0:Int)<((n_.length:Nat):Int)) (gIf (0≤(1:Int)∧(1:Int)<((n_.length:Nat):Int)) (gIf (0≤((n_.length:Nat):Int)∧((n_.length:Nat):Int)≤((n_.length:Nat):Int)) (gIf (0≤(2:Int)∧(2:Int)≤((n_.length:Nat):Int)) (J3 n n (((n_.take ((((n_.length:Nat):Int)).toNat)).drop 2),((((n_.take ((((n_.length:Nat):Int)).toNat)).drop 2).length:Nat):Int),0,b2,(8,(zq,((List.getD n_ 1 0),((List.getD n_ 0 0),([],()))))),()))))):=(yae _).trans (by kernel_rfl)
theorem e3 (n m:Nat)(t31:List (Int))(t32:Int)(t33:Int)(b2:yaW)(a:yaW):J3 n (m+1) (t31,t32,t33,b2,a,())=bIf ((hide (decide (t33<t32)))) (gIf (0≤t33∧t33<((t31.length:Nat):Int)) (gIf ((a.2.2.2.2.1.length+1)*8≤70368744177664) (J3 n m (t31,t32,(IntKind.i64.wrap (t33+(1:Int))),b2,(a.1,(a.2.1,(a.2.2.1,(a.2.2.2.1,((a.2.2.2.2.1++([(List.getD t31 t33.toNat 0)]:List (Int))),a.2.2.2.2.2))))),())))) (J4 n (b2,a,())):=(yae _).trans (by kernel_rfl)
theorem e4 (n:Nat)(b2:yaW)(a:yaW):J4 n (b2,a,())=some (a,true,()):=(yae _).trans (by kernel_rfl)
theorem ok (n:Nat):FnOk Tryz.prog 52 ia io (fRun (X n) n T Tryz.f52 ia io):=yaG mixed tabIs (yav) Tryz.func52 (by kernel_rfl) rfl
def en (n:Nat):Entry:=yaB 52 ia io (fRun (X n) n T Tryz.f52 ia io)
end ycr
namespace ycL
abbrev ia:List Ai:=[.dat (.slice .str)]
abbrev io:List (Nat×Oi):=[(2,.val (.r 0 (.int .i64))),(3,.dat .bool)]
abbrev R:Type:=DOut ia io
def X (n:Nat):Ctx:=⟨⟨tab,[ye8.en],0,[]⟩,28,bnOf 0 ia⟩
abbrev g1:List Si:=[.val 4 (.r 200400 (.int .i64)),.dat 9 (.slice .str),.dat 10 (.int .i64),.dat 11 (.int .i64)]
abbrev g2:List Si:=[.val 4 (.r 200400 (.int .i64))]
def T:CT:=(.s .o (.s .o (.s (.s .o (.b (.l g1 .o))) (.r g2 .o))))
def J1 (n:Nat)(m:Nat):(List (Int))×(List (ByteArray))×Int×Int×Unit→Option R:=jL (X n) n T (yaM Tryz.f51) (endK ia io) g1 [1,1,0,1,0] [] m
def J2 (n:Nat):(List (Int))×Unit→Option R:=jR (X n) n T (yaM Tryz.f51) (endK ia io) g2 [1,1,1] []
def f (n:Nat)(w_:List (ByteArray)):Option R:=fRun (X n) n T Tryz.f51 ia io (w_,())
theorem e0 (n:Nat)(w_:List (ByteArray)):f n w_=J1 n n ([],w_,((w_.length:Nat):Int),0,()):=(yae _).trans (by kernel_rfl)
theorem e1 (n m:Nat)(out:List (Int))(t9:List (ByteArray))(t10:Int)(t11:Int):J1 n (m+1) (out,t9,t10,t11,())=bIf ((hide (decide (t11<t10)))) (gIf (0≤t11∧t11<((t9.length:Nat):Int)) (bnd (ye8.f (List.getD t9 t11.toNat (⟨#[]⟩:ByteArray))) λu1=>bIf ((!u1.2.1)) (some ([],false,())) (gIf ((out.length+1)*8≤70368744177664) (J1 n m ((out++([u1.1]:List (Int))),t9,t10,(IntKind.i64.wrap (t11+(1:Int))),()))))) (J2 n (out,())):=(yae _).trans (by kernel_rfl)
theorem e2 (n:Nat)(out:List (Int)):J2 n (out,())=some (out,true,()):=(yae _).trans (by kernel_rfl)
theorem ok (n:Nat):FnOk Tryz.prog 51 ia io (fRun (X n) n T Tryz.f51 ia io):=yaG mixed tabIs (yad (yac (ye8.ok)) (yav)) Tryz.func51 (by kernel_rfl) rfl
def en (n:Nat):Entry:=yaB 51 ia io (fRun (X n) n T Tryz.f51 ia io)
end ycL
namespace ybg
abbrev ia:List Ai:=[.dat (.slice .str)]
abbrev io:List (Nat×Oi):=[(2,.cel (.p (.d (.int .i64)) (.p (.d yan) (.p (.d (.int .i64)) (.p (.d (.int .i64)) (.p (.r 0 (.int .i64)) (.d .unit))))))),(3,.dat .bool)]
abbrev R:Type:=DOut ia io
def X (n:Nat):Ctx:=⟨⟨tab,[ydS.en,ydx.en n,ycL.en n,ycr.en n],0,[]⟩,80,bnOf 0 ia⟩
abbrev g1:List Si:=[.dat 0 (.slice .str),.ref 2 2 yaY,.dat 30 .bool,.box 2 (.p (.d (.int .i64)) (.p (.p (.d (.int .i64)) (.p (.d .str) (.p (.d .str) (.p (.d .str) (.p (.d (.int .u64)) (.p (.r 100000000002000 (.int .u8)) (.p (.r 100000000002001 yaw) (.p (.d yaO) (.p (.d .bool) (.p (.d yaA) (.p (.r 100000000002002 yaC) (.p (.r 100000000002003 yaD) (.p (.d (.int .i64)) (.p (.r 100000000002004 (.int .i64)) (.d (.pair .str (.pair .str (.pair .str (.pair ya0 (.pair (.int .i64) .unit)))))))))))))))))))) (.p (.d (.int .i64)) (.p (.d (.int .i64)) (.p (.r 100000000002005 (.int .i64)) (.d .unit))))))]
abbrev g2:List Si:=[.dat 0 (.slice .str),.ref 2 2 yaY,.box 2 (.p (.d (.int .i64)) (.p (.p (.d (.int .i64)) (.p (.d .str) (.p (.d .str) (.p (.d .str) (.p (.d (.int .u64)) (.p (.r 100000000002000 (.int .u8)) (.p (.r 100000000002001 yaw) (.p (.d yaO) (.p (.d .bool) (.p (.d yaA) (.p (.r 100000000002002 yaC) (.p (.r 100000000002003 yaD) (.p (.d (.int .i64)) (.p (.r 100000000002004 (.int .i64)) (.d (.pair .str (.pair .str (.pair .str (.pair ya0 (.pair (.int .i64) .unit)))))))))))))))))))) (.p (.d (.int .i64)) (.p (.d (.int .i64)) (.p (.r 100000000002005 (.int .i64)) (.d .unit))))))]
def T:CT:=(.s .o (.s .o (.s (.s .o (.r g1 .o)) (.r g2 .o))))
def J1 (n:Nat):(List (ByteArray))×Bool×yaW×Unit→Option R:=jR (X n) n T (yaM Tryz.f24) (endK ia io) g1 [1,1,0,1] []
def J2 (n:Nat):(List (ByteArray))×yaW×Unit→Option R:=jR (X n) n T (yaM Tryz.f24) (endK ia io) g2 [1,1,1] []
def f (n:Nat)(w_:List (ByteArray)):Option R:=fRun (X n) n T Tryz.f24 ia io (w_,())
theorem e0 (n:Nat)(w_:List (ByteArray)):f n w_=bnd (ydS.f) λu1=>gIf (0≤(0:Int)∧(0:Int)<((w_.length:Nat):Int)) (bIf ((smGet u1.1 (List.getD w_ 0 (⟨#[]⟩:ByteArray))).2) (some (((smGet u1.1 (List.getD w_ 0 (⟨#[]⟩:ByteArray))).1,(zq,(0,(0,([],()))))),(hide (((w_.length:Nat):Int)==(1:Int))),())) (gIf (0≤(0:Int)∧(0:Int)<((w_.length:Nat):Int)) (bIf ((hide (eqS (List.getD w_ 0 (⟨#[]⟩:ByteArray)) (⟨#[97,115,107]⟩:ByteArray)))) (J1 n (w_,(hide (((w_.length:Nat):Int)==(2:Int))),(0,(zq,(0,(0,([],()))))),())) (J1 n (w_,false,(0,(zq,(0,(0,([],()))))),()))))):=(yae _).trans (by kernel_rfl)
theorem e1 (n:Nat)(w_:List (ByteArray))(t30:Bool)(b2:yaW):J1 n (w_,t30,b2,())=bIf (t30) (gIf (0≤(1:Int)∧(1:Int)<((w_.length:Nat):Int)) (bnd (ydx.f n (List.getD w_ 1 (⟨#[]⟩:ByteArray))) λu1=>some (u1.1,u1.2.1,()))) (J2 n (w_,b2,())):=(yae _).trans (by kernel_rfl)
theorem e2 (n:Nat)(w_:List (ByteArray))(b2:yaW):J2 n (w_,b2,())=gIf (0≤((w_.length:Nat):Int)∧((w_.length:Nat):Int)≤((w_.length:Nat):Int)) (gIf (0≤(1:Int)∧(1:Int)≤((w_.length:Nat):Int)) (bnd (ycL.f n ((w_.take ((((w_.length:Nat):Int)).toNat)).drop 1)) λu1=>bIf ((!u1.2.1)) (some ((0,(zq,(0,(0,([],()))))),false,())) (gIf (0≤(0:Int)∧(0:Int)<((w_.length:Nat):Int)) (bIf ((hide (eqS (List.getD w_ 0 (⟨#[]⟩:ByteArray)) (⟨#[99,114,97,115,104]⟩:ByteArray)))) (bnd (ycr.f n u1.1) λu2=>some (u2.1,u2.2.1,())) (bIf ((hide (((u1.1.length:Nat):Int) != (1:Int)))) (some ((0,(zq,(0,(0,([],()))))),false,())) (gIf (0≤(0:Int)∧(0:Int)<((w_.length:Nat):Int)) (bIf ((hide (eqS (List.getD w_ 0 (⟨#[]⟩:ByteArray)) (⟨#[99,108,111,99,107]⟩:ByteArray)))) (gIf (0≤(0:Int)∧(0:Int)<((u1.1.length:Nat):Int)) (some ((3,(zq,((List.getD u1.1 (0+0) 0),(0,([],()))))),true,()))) (gIf (0≤(0:Int)∧(0:Int)<((w_.length:Nat):Int)) (bIf ((hide (eqS (List.getD w_ 0 (⟨#[]⟩:ByteArray)) (⟨#[102,97,105,108]⟩:ByteArray)))) (gIf (0≤(0:Int)∧(0:Int)<((u1.1.length:Nat):Int)) (some ((7,(zq,(0,((List.getD u1.1 (0+0) 0),([],()))))),true,()))) (some ((0,(zq,(0,(0,([],()))))),false,()))))))))))):=(yae _).trans (by kernel_rfl)
theorem ok (n:Nat):FnOk Tryz.prog 24 ia io (fRun (X n) n T Tryz.f24 ia io):=yaG mixed tabIs (yad (yac (ydS.ok)) (yad (yac (ydx.ok n)) (yad (yac (ycL.ok n)) (yad (yac (ycr.ok n)) (yav))))) Tryz.func24 (by kernel_rfl) rfl
def en (n:Nat):Entry:=yaB 24 ia io (fRun (X n) n T Tryz.f24 ia io)
end ybg
namespace ybt
abbrev ia:List Ai:=[.dat .str]
abbrev io:List (Nat×Oi):=[(2,.cel (.p (.d (.int .i64)) (.p (.d yan) (.p (.d (.int .i64)) (.p (.d (.int .i64)) (.p (.r 0 (.int .i64)) (.d .unit))))))),(3,.dat (.int .i64))]
abbrev R:Type:=DOut ia io
def X (n:Nat):Ctx:=⟨⟨tab,[ybg.en n,yb8.en],0,[]⟩,16,bnOf 0 ia⟩
def T:CT := .o
def f (n:Nat)(s_:ByteArray):Option R:=fRun (X n) n T Tryz.f11 ia io (s_,())
theorem e0 (n:Nat)(s_:ByteArray):f n s_=bnd (yb8.f s_ (⟨#[32]⟩:ByteArray)) λu1=>bnd (ybg.f n u1.1) λu2=>bIf ((!u2.2.1)) (some ((0,(zq,(0,(0,([],()))))),5,())) (some (u2.1,0,())):=(yae _).trans (by kernel_rfl)
theorem ok (n:Nat):FnOk Tryz.prog 11 ia io (fRun (X n) n T Tryz.f11 ia io):=yaG mixed tabIs (yad (yac (ybg.ok n)) (yad (yac (yb8.ok)) (yav))) Tryz.func11 (by kernel_rfl) rfl
def en (n:Nat):Entry:=yaB 11 ia io (fRun (X n) n T Tryz.f11 ia io)
end ybt
namespace ycO
abbrev ia:List Ai:=[.dat yci]
abbrev io:List (Nat×Oi):=[(2,.dat .str)]
abbrev R:Type:=DOut ia io
def X (n:Nat):Ctx:=⟨⟨tab,[ycD.en n,ydf.en n,ydl.en],0,[]⟩,24,bnOf 0 ia⟩
abbrev g1:List Si:=[.ref 1 1 yci,.dat 3 (.slice (.int .u8)),.dat 16 .bool,.box 1 (.d yci)]
abbrev g2:List Si:=[.ref 1 1 yci,.box 1 (.d yci)]
def T:CT:=(.s .o (.s .o (.s (.s .o (.r g1 .o)) (.r g2 .o))))
def J1 (n:Nat):(List (Int))×Bool×ybU×Unit→Option R:=jR (X n) n T (yaM Tryz.f14) (endK ia io) g1 [1,1,0,1] []
def J2 (n:Nat):ybU×Unit→Option R:=jR (X n) n T (yaM Tryz.f14) (endK ia io) g2 [1,1,1] []
def f (n:Nat)(r:ybU):Option R:=fRun (X n) n T Tryz.f14 ia io (r,())
theorem e0 (n:Nat)(r:ybU):f n r=bnd (ycD.f n r) λu1=>bIf ((hide (r.1==(0:Int)))) (J1 n (u1.1,(hide (u1.2.1==(0:Int))),r,())) (J1 n (u1.1,false,r,())):=(yae _).trans (by kernel_rfl)
theorem e1 (n:Nat)(b:List (Int))(t16:Bool)(r:ybU):J1 n (b,t16,r,())=bIf (t16) (bnd (ydf.f n b) λu1=>gIf ((⟨#[111,107,32]⟩:ByteArray).size+u1.1.size≤4611686018427387904) (some (((⟨#[111,107,32]⟩:ByteArray)++u1.1),()))) (J2 n (r,())):=(yae _).trans (by kernel_rfl)
theorem e2 (n:Nat)(r:ybU):J2 n (r,())=bnd (ydl.f r.1) λu1=>gIf ((⟨#[101,114,114,111,114,32]⟩:ByteArray).size+u1.1.size≤4611686018427387904) (some (((⟨#[101,114,114,111,114,32]⟩:ByteArray)++u1.1),())):=(yae _).trans (by kernel_rfl)
theorem ok (n:Nat):FnOk Tryz.prog 14 ia io (fRun (X n) n T Tryz.f14 ia io):=yaG mixed tabIs (yad (yac (ycD.ok n)) (yad (yac (ydf.ok n)) (yad (yac (ydl.ok)) (yav)))) Tryz.func14 (by kernel_rfl) rfl
def en (n:Nat):Entry:=yaB 14 ia io (fRun (X n) n T Tryz.f14 ia io)
end ycO
namespace ybx
abbrev ia:List Ai:=[.dat .str]
abbrev io:List (Nat×Oi):=[(2,.val (.r 0 yaY)),(3,.dat (.int .i64)),(4,.dat (.int .i64))]
abbrev R:Type:=DOut ia io
def X (n:Nat):Ctx:=⟨⟨tab,[ybt.en n,ydU.en],0,[]⟩,43,bnOf 0 ia⟩
abbrev g1:List Si:=[.dat 0 .str,.val 5 (.r 200500 yaY),.dat 6 (.int .i64)]
abbrev g2:List Si:=[.val 5 (.r 200500 yaY)]
def T:CT:=(.s .o (.s .o (.s .o (.s (.s .o (.b (.l g1 .o))) (.r g2 .o)))))
def J1 (n:Nat)(m:Nat):ByteArray×(List (yaW))×Int×Unit→Option R:=jL (X n) n T (yaM Tryz.f13) (endK ia io) g1 [1,1,1,0,1,0] [] m
def J2 (n:Nat):(List (yaW))×Unit→Option R:=jR (X n) n T (yaM Tryz.f13) (endK ia io) g2 [1,1,1,1] []
def f (n:Nat)(s_:ByteArray):Option R:=fRun (X n) n T Tryz.f13 ia io (s_,())
theorem e0 (n:Nat)(s_:ByteArray):f n s_=bIf ((hide (decide ((s_.size:Int)>(65536:Int))))) (some ([],0,9,())) (J1 n n (s_,[],1,())):=(yae _).trans (by kernel_rfl)
theorem e1 (n m:Nat)(s_:ByteArray)(out:List (yaW))(n_:Int):J1 n (m+1) (s_,out,n_,())=bIf ((hide (!eqS s_ (⟨#[]⟩:ByteArray)))) (bnd (ydU.f s_ (⟨#[10]⟩:ByteArray)) λu1=>bnd (ybt.f n u1.1) λu2=>bIf ((hide (u2.2.1 != (0:Int)))) (some ([],n_,u2.2.1,())) (gIf ((out.length+1)*384≤70368744177664) (J1 n m (u1.2.1,(out++([u2.1]:List (yaW))),(IntKind.i64.wrap (n_+(1:Int))),())))) (J2 n (out,())):=(yae _).trans (by kernel_rfl)
theorem e2 (n:Nat)(out:List (yaW)):J2 n (out,())=bIf ((hide (decide (((out.length:Nat):Int)>(4096:Int))))) (some ([],0,9,())) (some (out,0,0,())):=(yae _).trans (by kernel_rfl)
theorem ok (n:Nat):FnOk Tryz.prog 13 ia io (fRun (X n) n T Tryz.f13 ia io):=yaG mixed tabIs (yad (yac (ybt.ok n)) (yad (yac (ydU.ok)) (yav))) Tryz.func13 (by kernel_rfl) rfl
def en (n:Nat):Entry:=yaB 13 ia io (fRun (X n) n T Tryz.f13 ia io)
end ybx
namespace ycT
abbrev ia:List Ai:=[.dat yaY]
abbrev io:List (Nat×Oi):=[(2,.dat .bool)]
abbrev R:Type:=DOut ia io
def X (n:Nat):Ctx:=⟨⟨tab,[yd4.en n],0,[]⟩,23,bnOf 0 ia⟩
def T:CT := .o
def f (n:Nat)(a:yaW):Option R:=fRun (X n) n T Tryz.f43 ia io (a,())
theorem e0 (n:Nat)(a:yaW):f n a=bnd (yd4.f n a.2.1 zq) λu1=>bIf (u1.1) (bIf ((hide (a.2.2.1==(0:Int)))) (bIf ((hide (a.2.2.2.1==(0:Int)))) (some ((hide (((a.2.2.2.2.1.length:Nat):Int)==(0:Int))),())) (some (false,()))) (some (false,()))) (some (false,())):=(yae _).trans (by kernel_rfl)
theorem ok (n:Nat):FnOk Tryz.prog 43 ia io (fRun (X n) n T Tryz.f43 ia io):=yaG mixed tabIs (yad (yac (yd4.ok n)) (yav)) Tryz.func43 (by kernel_rfl) rfl
def en (n:Nat):Entry:=yaB 43 ia io (fRun (X n) n T Tryz.f43 ia io)
end ycT
namespace ycH
abbrev ia:List Ai:=[.dat yaY]
abbrev io:List (Nat×Oi):=[(2,.val (.r 0 .str)),(3,.dat .bool)]
abbrev R:Type:=DOut ia io
def X (n:Nat):Ctx:=⟨⟨tab,[ydf.en n,ydl.en,ycX.en n,ycT.en n,ydt.en,F_script_word.en],0,[]⟩,101,bnOf 0 ia⟩
abbrev g1:List Si:=[.ref 1 1 yaY,.ref 4 4 yaY,.val 7 (.r 200700 .str),.dat 65 (.slice (.int .i64)),.dat 66 (.int .i64),.dat 67 (.int .i64),.box 1 (.d yaY),.box 4 (.p (.d (.int .i64)) (.p (.d yan) (.p (.d (.int .i64)) (.p (.d (.int .i64)) (.p (.r 100000000004000 (.int .i64)) (.d .unit))))))]
abbrev g2:List Si:=[.ref 1 1 yaY,.ref 4 4 yaY,.val 7 (.r 200700 .str),.box 1 (.d yaY),.box 4 (.p (.d (.int .i64)) (.p (.d yan) (.p (.d (.int .i64)) (.p (.d (.int .i64)) (.p (.r 100000000004000 (.int .i64)) (.d .unit))))))]
abbrev g3:List Si:=[.ref 1 1 yaY,.box 1 (.d yaY)]
def T:CT:=(.s .o (.s .o (.s (.s .o (.b (.s .o (.c .o (.s .o (.c .o (.s .o (.c .o (.s .o (.c (.s .o (.s .o (.s (.s .o (.b (.l g1 .o))) (.r g2 .o)))) .o)))))))))) (.r g3 .o))))
def J1 (n:Nat)(m:Nat):(List (ByteArray))×(List (Int))×Int×Int×yaW×yaW×Unit→Option R:=jL (X n) n T (yaM Tryz.f20) (endK ia io) g1 [1,1,0,1,0,1,1,1,1,1,1,1,0,1,1,0,1,0] [] m
def J2 (n:Nat):(List (ByteArray))×yaW×yaW×Unit→Option R:=jR (X n) n T (yaM Tryz.f20) (endK ia io) g2 [1,1,0,1,0,1,1,1,1,1,1,1,0,1,1,1] []
def J3 (n:Nat):yaW×Unit→Option R:=jR (X n) n T (yaM Tryz.f20) (endK ia io) g3 [1,1,1] []
def f (n:Nat)(a:yaW):Option R:=fRun (X n) n T Tryz.f20 ia io (a,())
theorem e0 (n:Nat)(a:yaW):f n a=bIf ((hide (a.1==(2:Int)))) (bnd (ycX.f n a.2.1) λu1=>bnd (ydf.f n u1.1) λu2=>gIf ((⟨#[120]⟩:ByteArray).size+u2.1.size≤4611686018427387904) (bIf ((hide (u1.2.1==(0:Int)))) (bnd (ycT.f n (a.1,(zq,a.2.2))) λu3=>some (([(⟨#[97,115,107]⟩:ByteArray),((⟨#[120]⟩:ByteArray)++u2.1)]:List (ByteArray)),u3.1,())) (some (([(⟨#[97,115,107]⟩:ByteArray),((⟨#[120]⟩:ByteArray)++u2.1)]:List (ByteArray)),false,())))) (bIf ((hide (a.1==(3:Int)))) (bnd (ydt.f a.2.2.1 10) λu4=>bnd (ycT.f n (a.1,(a.2.1,(0,a.2.2.2)))) λu5=>some (([(⟨#[99,108,111,99,107]⟩:ByteArray),u4.1]:List (ByteArray)),u5.1,())) (bIf ((hide (a.1==(7:Int)))) (bnd (ydl.f a.2.2.2.1) λu6=>bnd (ycT.f n (a.1,(a.2.1,(a.2.2.1,(0,a.2.2.2.2))))) λu7=>some (([(⟨#[102,97,105,108]⟩:ByteArray),u6.1]:List (ByteArray)),u7.1,())) (bIf ((hide (a.1==(8:Int)))) (bnd (ydl.f a.2.2.2.1) λu8=>bnd (ydt.f a.2.2.1 10) λu9=>J1 n n (([(⟨#[99,114,97,115,104]⟩:ByteArray),u8.1,u9.1]:List (ByteArray)),a.2.2.2.2.1,((a.2.2.2.2.1.length:Nat):Int),0,a,(a.1,(a.2.1,(0,(0,([],a.2.2.2.2.2))))),())) (J3 n (a,()))))):=(yae _).trans (by kernel_rfl)
theorem e1 (n m:Nat)(out:List (ByteArray))(t65:List (Int))(t66:Int)(t67:Int)(a:yaW)(rest_:yaW):J1 n (m+1) (out,t65,t66,t67,a,rest_,())=bIf ((hide (decide (t67<t66)))) (gIf (0≤t67∧t67<((t65.length:Nat):Int)) (bnd (ydl.f (List.getD t65 t67.toNat 0)) λu1=>gIf ((out.length+1)*16≤70368744177664) (J1 n m ((out++([u1.1]:List (ByteArray))),t65,t66,(IntKind.i64.wrap (t67+(1:Int))),a,rest_,())))) (J2 n (out,a,rest_,())):=(yae _).trans (by kernel_rfl)
theorem e2 (n:Nat)(out:List (ByteArray))(a:yaW)(rest_:yaW):J2 n (out,a,rest_,())=bnd (ycT.f n rest_) λu1=>bIf (u1.1) (bIf ((hide (decide (a.2.2.1≥(0:Int))))) (some (out,(hide (decide (a.2.2.1≤(255:Int)))),())) (some (out,false,()))) (some (out,false,())):=(yae _).trans (by kernel_rfl)
theorem e3 (n:Nat)(a:yaW):J3 n (a,())=bnd (F_script_word.f a.1) λu1=>bIf ((hide (!eqS u1.1 (⟨#[]⟩:ByteArray)))) (bnd (ycT.f n a) λu2=>some (([u1.1]:List (ByteArray)),u2.1,())) (some (([u1.1]:List (ByteArray)),false,())):=(yae _).trans (by kernel_rfl)
theorem ok (n:Nat):FnOk Tryz.prog 20 ia io (fRun (X n) n T Tryz.f20 ia io):=yaG mixed tabIs (yad (yac (ydf.ok n)) (yad (yac (ydl.ok)) (yad (yac (ycX.ok n)) (yad (yac (ycT.ok n)) (yad (yac (ydt.ok)) (yad (yac (F_script_word.ok)) (yav))))))) Tryz.func20 (by kernel_rfl) rfl
def en (n:Nat):Entry:=yaB 20 ia io (fRun (X n) n T Tryz.f20 ia io)
end ycH
namespace ybZ
abbrev ia:List Ai:=[.dat yaY]
abbrev io:List (Nat×Oi):=[(2,.dat .str),(3,.dat (.int .i64))]
abbrev R:Type:=DOut ia io
def X (n:Nat):Ctx:=⟨⟨tab,[ycH.en n,yeX.en],0,[]⟩,15,bnOf 0 ia⟩
def T:CT := .o
def f (n:Nat)(a:yaW):Option R:=fRun (X n) n T Tryz.f8 ia io (a,())
theorem e0 (n:Nat)(a:yaW):f n a=bnd (ycH.f n a) λu1=>bIf ((!u1.2.1)) (some ((⟨#[]⟩:ByteArray),1,())) (bnd (yeX.f u1.1 (⟨#[32]⟩:ByteArray)) λu2=>some (u2.1,0,())):=(yae _).trans (by kernel_rfl)
theorem ok (n:Nat):FnOk Tryz.prog 8 ia io (fRun (X n) n T Tryz.f8 ia io):=yaG mixed tabIs (yad (yac (ycH.ok n)) (yad (yac (yeX.ok)) (yav))) Tryz.func8 (by kernel_rfl) rfl
def en (n:Nat):Entry:=yaB 8 ia io (fRun (X n) n T Tryz.f8 ia io)
end ybZ
namespace ydR
abbrev ia:List Ai:=[]
abbrev io:List (Nat×Oi):=[(0,.dat .bool)]
abbrev R:Type:=DOut ia io
def X (n:Nat):Ctx:=⟨⟨tab,[ybZ.en n,ybt.en n,ybx.en n,ycO.en n],0,[]⟩,66,bnOf 0 ia⟩
def T:CT := .o
def f (n:Nat):Option R:=fRun (X n) n T Tryz.f10 ia io (())
theorem e0 (n:Nat):f n=bnd (ybt.f n (⟨#[99,114,97,115,104,32,49,32,53,32,50,32,48]⟩:ByteArray)) λu1=>bnd (ybZ.f n (3,(zq,((-5),(0,([],())))))) λu2=>bnd (ybx.f n (⟨#[111,112,101,110,10,115,119,101,101,112]⟩:ByteArray)) λu3=>bIf ((hide (u1.2.1==(0:Int)))) (bIf ((hide (u2.2.1==(0:Int)))) (bIf ((hide (u3.2.2.1==(0:Int)))) (bIf ((hide (u3.2.1==(0:Int)))) (bIf ((hide (u1.1.2.2.2.1==(1:Int)))) (bIf ((hide (u1.1.2.2.1==(5:Int)))) (bIf ((hide (((u1.1.2.2.2.2.1.length:Nat):Int)==(2:Int)))) (bIf ((hide (eqS u2.1 (⟨#[99,108,111,99,107,32,45,53]⟩:ByteArray)))) (bIf ((hide (((u3.1.length:Nat):Int)==(2:Int)))) (bnd (ycO.f n (7,(0,([],((0,(false,(0,(0,((List.replicate 32 0),(0,((0,(0,(false,()))),([],())))))))),([],(false,([],([],()))))))))) λu4=>some ((hide (eqS u4.1 (⟨#[101,114,114,111,114,32,55]⟩:ByteArray))),())) (some (false,()))) (some (false,()))) (some (false,()))) (some (false,()))) (some (false,()))) (some (false,()))) (some (false,()))) (some (false,()))) (some (false,())):=(yae _).trans (by kernel_rfl)
theorem ok (n:Nat):FnOk Tryz.prog 10 ia io (fRun (X n) n T Tryz.f10 ia io):=yaG mixed tabIs (yad (yac (ybZ.ok n)) (yad (yac (ybt.ok n)) (yad (yac (ybx.ok n)) (yad (yac (ycO.ok n)) (yav))))) Tryz.func10 (by kernel_rfl) rfl
def en (n:Nat):Entry:=yaB 10 ia io (fRun (X n) n T Tryz.f10 ia io)
end ydR
namespace yc4
abbrev ia:List Ai:=[.dat yaY]
abbrev io:List (Nat×Oi):=[(2,.dat .bool)]
abbrev R:Type:=DOut ia io
def X (n:Nat):Ctx:=⟨⟨tab,[yb2.en n],0,[]⟩,23,bnOf 0 ia⟩
def T:CT := .o
def f (n:Nat)(a:yaW):Option R:=fRun (X n) n T Tryz.f22 ia io (a,())
theorem e0 (n:Nat)(a:yaW):f n a=bnd (yb2.f n a.2.1 zq) λu1=>bIf (u1.1) (bIf ((hide (a.2.2.1==(0:Int)))) (bIf ((hide (a.2.2.2.1==(0:Int)))) (some ((hide (((a.2.2.2.2.1.length:Nat):Int)==(0:Int))),())) (some (false,()))) (some (false,()))) (some (false,())):=(yae _).trans (by kernel_rfl)
theorem ok (n:Nat):FnOk Tryz.prog 22 ia io (fRun (X n) n T Tryz.f22 ia io):=yaG mixed tabIs (yad (yac (yb2.ok n)) (yav)) Tryz.func22 (by kernel_rfl) rfl
def en (n:Nat):Entry:=yaB 22 ia io (fRun (X n) n T Tryz.f22 ia io)
end yc4
namespace ydw
abbrev ia:List Ai:=[.dat yaY]
abbrev io:List (Nat×Oi):=[(2,.dat .str),(3,.dat .bool)]
abbrev R:Type:=DOut ia io
def X (n:Nat):Ctx:=⟨⟨tab,[yd7.en n,yc9.en n,yc4.en n,yem.en n],0,[]⟩,109,bnOf 0 ia⟩
abbrev g1:List Si:=[.ref 1 1 yaY,.ref 4 4 yaY,.dat 7 .str,.dat 8 (.int .i64),.box 1 (.d yaY),.box 4 (.p (.d (.int .i64)) (.p (.d yan) (.p (.d (.int .i64)) (.p (.d (.int .i64)) (.p (.r 100000000004000 (.int .i64)) (.d .unit))))))]
abbrev g2:List Si:=[.ref 1 1 yaY,.ref 4 4 yaY,.dat 7 .str,.box 1 (.d yaY),.box 4 (.p (.d (.int .i64)) (.p (.d yan) (.p (.d (.int .i64)) (.p (.d (.int .i64)) (.p (.r 100000000004000 (.int .i64)) (.d .unit))))))]
abbrev g3:List Si:=[]
def T:CT:=(.s .o (.s .o (.s (.s .o (.b (.s .o (.c .o (.s .o (.c .o (.s .o (.c .o (.s .o (.c .o (.s .o (.c .o (.s .o (.c .o (.s .o (.c .o (.s .o (.c (.s .o (.s .o (.s .o (.s .o (.s (.s .o (.b (.l g1 .o))) (.r g2 .o)))))) .o)))))))))))))))))) (.r g3 .o))))
def J1 (n:Nat)(m:Nat):ByteArray×Int×yaW×yaW×Unit→Option R:=jL (X n) n T (yaM Tryz.f9) (endK ia io) g1 [1,1,0,1,0,1,1,1,1,1,1,1,1,1,1,1,1,1,1,1,0,1,1,1,1,0,1,0] [] m
def J2 (n:Nat):ByteArray×yaW×yaW×Unit→Option R:=jR (X n) n T (yaM Tryz.f9) (endK ia io) g2 [1,1,0,1,0,1,1,1,1,1,1,1,1,1,1,1,1,1,1,1,0,1,1,1,1,1] []
def J3 (n:Nat):Unit→Option R:=jR (X n) n T (yaM Tryz.f9) (endK ia io) g3 [1,1,1] []
def f (n:Nat)(a:yaW):Option R:=fRun (X n) n T Tryz.f9 ia io (a,())
theorem e0 (n:Nat)(a:yaW):f n a=bIf ((hide (a.1==(1:Int)))) (bnd (yc4.f n a) λu1=>some ((⟨#[111,112,101,110]⟩:ByteArray),u1.1,())) (bIf ((hide (a.1==(4:Int)))) (bnd (yc4.f n a) λu2=>some ((⟨#[115,119,101,101,112]⟩:ByteArray),u2.1,())) (bIf ((hide (a.1==(5:Int)))) (bnd (yc4.f n a) λu3=>some ((⟨#[99,111,108,108,101,99,116]⟩:ByteArray),u3.1,())) (bIf ((hide (a.1==(6:Int)))) (bnd (yc4.f n a) λu4=>some ((⟨#[99,104,101,99,107]⟩:ByteArray),u4.1,())) (bIf ((hide (a.1==(2:Int)))) (bnd (yem.f n a.2.1) λu5=>bnd (yd7.f n (ybN u5.1)) λu6=>gIf ((⟨#[97,115,107,32,120]⟩:ByteArray).size+u6.1.size≤4611686018427387904) (bIf ((hide (u5.2.1==(0:Int)))) (bnd (yc4.f n (a.1,(zq,a.2.2))) λu7=>some (((⟨#[97,115,107,32,120]⟩:ByteArray)++u6.1),u7.1,())) (some (((⟨#[97,115,107,32,120]⟩:ByteArray)++u6.1),false,())))) (bIf ((hide (a.1==(3:Int)))) (bnd (yc9.f n a.2.2.1) λu8=>gIf ((⟨#[99,108,111,99,107,32]⟩:ByteArray).size+u8.1.size≤4611686018427387904) (bnd (yc4.f n (a.1,(a.2.1,(0,a.2.2.2)))) λu9=>some (((⟨#[99,108,111,99,107,32]⟩:ByteArray)++u8.1),u9.1,()))) (bIf ((hide (a.1==(7:Int)))) (bnd (yc9.f n a.2.2.2.1) λu10=>gIf ((⟨#[102,97,105,108,32]⟩:ByteArray).size+u10.1.size≤4611686018427387904) (bnd (yc4.f n (a.1,(a.2.1,(a.2.2.1,(0,a.2.2.2.2))))) λu11=>some (((⟨#[102,97,105,108,32]⟩:ByteArray)++u10.1),u11.1,()))) (bIf ((hide (a.1==(8:Int)))) (bnd (yc9.f n a.2.2.2.1) λu12=>gIf ((⟨#[99,114,97,115,104,32]⟩:ByteArray).size+u12.1.size≤4611686018427387904) (gIf (((⟨#[99,114,97,115,104,32]⟩:ByteArray)++u12.1).size+(⟨#[32]⟩:ByteArray).size≤4611686018427387904) (bnd (yc9.f n a.2.2.1) λu13=>gIf ((((⟨#[99,114,97,115,104,32]⟩:ByteArray)++u12.1)++(⟨#[32]⟩:ByteArray)).size+u13.1.size≤4611686018427387904) (J1 n n (((((⟨#[99,114,97,115,104,32]⟩:ByteArray)++u12.1)++(⟨#[32]⟩:ByteArray))++u13.1),0,a,(a.1,(a.2.1,(0,(0,([],a.2.2.2.2.2))))),()))))) (J3 n (()))))))))):=(yae _).trans (by kernel_rfl)
theorem e1 (n m:Nat)(s_:ByteArray)(i:Int)(a:yaW)(b:yaW):J1 n (m+1) (s_,i,a,b,())=bIf ((hide (decide (i<((a.2.2.2.2.1.length:Nat):Int))))) (gIf (0≤i∧i<((a.2.2.2.2.1.length:Nat):Int)) (bnd (yc9.f n (List.getD a.2.2.2.2.1 i.toNat 0)) λu1=>gIf ((⟨#[32]⟩:ByteArray).size+u1.1.size≤4611686018427387904) (gIf (s_.size+((⟨#[32]⟩:ByteArray)++u1.1).size≤4611686018427387904) (J1 n m ((s_++((⟨#[32]⟩:ByteArray)++u1.1)),(IntKind.i64.wrap (i+(1:Int))),a,b,()))))) (J2 n (s_,a,b,())):=(yae _).trans (by kernel_rfl)
theorem e2 (n:Nat)(s_:ByteArray)(a:yaW)(b:yaW):J2 n (s_,a,b,())=bnd (yc4.f n b) λu1=>bIf (u1.1) (bIf ((hide (decide (a.2.2.1≥(0:Int))))) (some (s_,(hide (decide (a.2.2.1≤(255:Int)))),())) (some (s_,false,()))) (some (s_,false,())):=(yae _).trans (by kernel_rfl)
theorem e3 (n:Nat):J3 n (())=some ((⟨#[]⟩:ByteArray),false,()):=(yae _).trans (by kernel_rfl)
theorem ok (n:Nat):FnOk Tryz.prog 9 ia io (fRun (X n) n T Tryz.f9 ia io):=yaG mixed tabIs (yad (yac (yd7.ok n)) (yad (yac (yc9.ok n)) (yad (yac (yc4.ok n)) (yad (yac (yem.ok n)) (yav))))) Tryz.func9 (by kernel_rfl) rfl
def en (n:Nat):Entry:=yaB 9 ia io (fRun (X n) n T Tryz.f9 ia io)
end ydw
namespace ydJ
abbrev ia:List Ai:=[.dat yaY,.dat yaY]
abbrev io:List (Nat×Oi):=[(4,.dat .bool)]
abbrev R:Type:=DOut ia io
def X (n:Nat):Ctx:=⟨⟨tab,[yb2.en n],0,[]⟩,60,bnOf 0 ia⟩
abbrev g1:List Si:=[.ref 2 2 yaY,.ref 3 3 yaY,.box 2 (.d yaY),.box 3 (.d yaY)]
abbrev g2:List Si:=[.ref 2 2 yaY,.ref 3 3 yaY,.dat 5 (.int .i64),.box 2 (.d yaY),.box 3 (.d yaY)]
abbrev g3:List Si:=[]
def T:CT:=(.s .o (.s .o (.r g1 (.s (.s .o (.b (.l g2 .o))) (.r g3 .o)))))
def J1 (n:Nat):yaW×yaW×Unit→Option R:=jR (X n) n T (yaM Tryz.f12) (endK ia io) g1 [1,1] []
def J2 (n:Nat)(m:Nat):Int×yaW×yaW×Unit→Option R:=jL (X n) n T (yaM Tryz.f12) (endK ia io) g2 [1,1,0,1,0] [] m
def J3 (n:Nat):Unit→Option R:=jR (X n) n T (yaM Tryz.f12) (endK ia io) g3 [1,1,1] []
def f (n:Nat)(a:yaW)(b:yaW):Option R:=fRun (X n) n T Tryz.f12 ia io (a,b,())
theorem e0 (n:Nat)(a:yaW)(b:yaW):f n a b=bIf ((hide (a.1 != b.1))) (some (false,())) (bIf ((hide (a.2.2.1 != b.2.2.1))) (some (false,())) (bIf ((hide (a.2.2.2.1 != b.2.2.2.1))) (some (false,())) (bnd (yb2.f n a.2.1 b.2.1) λu1=>bIf ((!u1.1)) (some (false,())) (bIf ((hide (((a.2.2.2.2.1.length:Nat):Int) != ((b.2.2.2.2.1.length:Nat):Int)))) (some (false,())) (J1 n (a,b,())))))):=(yae _).trans (by kernel_rfl)
theorem e1 (n:Nat)(a:yaW)(b:yaW):J1 n (a,b,())=J2 n n (0,a,b,()):=(yae _).trans (by kernel_rfl)
theorem e2 (n m:Nat)(i:Int)(a:yaW)(b:yaW):J2 n (m+1) (i,a,b,())=bIf ((hide (decide (i<((a.2.2.2.2.1.length:Nat):Int))))) (gIf (0≤i∧i<((a.2.2.2.2.1.length:Nat):Int)) (gIf (0≤i∧i<((b.2.2.2.2.1.length:Nat):Int)) (bIf ((hide ((List.getD a.2.2.2.2.1 i.toNat 0) != (List.getD b.2.2.2.2.1 i.toNat 0)))) (some (false,())) (J2 n m ((IntKind.i64.wrap (i+(1:Int))),a,b,()))))) (J3 n (())):=(yae _).trans (by kernel_rfl)
theorem e3 (n:Nat):J3 n (())=some (true,()):=(yae _).trans (by kernel_rfl)
theorem ok (n:Nat):FnOk Tryz.prog 12 ia io (fRun (X n) n T Tryz.f12 ia io):=yaG mixed tabIs (yad (yac (yb2.ok n)) (yav)) Tryz.func12 (by kernel_rfl) rfl
def en (n:Nat):Entry:=yaB 12 ia io (fRun (X n) n T Tryz.f12 ia io)
end ydJ
end
end Go.Proofs.YtdlkpmohjhjmfaaGreatDoor
namespace Go.Proofs
open Go.Shelf
def Tryz.l170_ren:Go.Shelf.Ren:=⟨fun | 170=>39 | n=>n,fun | 70=>88 | 3=>3 | 0=>0 | 72=>90 | 37=>23 | 5=>5 | n=>n,fun | n=>n⟩
theorem Tryz.l170:Go.Proofs.Lays.n170 Tryz.prog Tryz.l170_ren:={
 mixed:=by kernel_rfl
 f170:=Tryz.func39.trans (congrArg some (by kernel_rfl))
 t0:=Tryz.underlying0
 a0:=Tryz.isAgg0
 z0:=Tryz.sizeOf0
 v0:=Tryz.zeroValue0
 t3:=Tryz.underlying3
 a3:=Tryz.isAgg3
 z3:=Tryz.sizeOf3
 v3:=Tryz.zeroValue3
 t37:=Tryz.underlying23
 a37:=Tryz.isAgg23
 z37:=Tryz.sizeOf23
 v37:=Tryz.zeroValue23
 t70:=Tryz.underlying88
 a70:=Tryz.isAgg88
 z70:=Tryz.sizeOf88
 v70:=Tryz.zeroValue88
 t72:=Tryz.underlying90
 a72:=Tryz.isAgg90
 z72:=Tryz.sizeOf90
 v72:=Tryz.zeroValue90 }
end Go.Proofs
namespace Go.Proofs.YtdlkpmohjhjmfaaGreatDoor
open Go Go.Va Go.Proofs Go.RowKit
noncomputable def goS (n:Nat):List yaW→Bool→List UInt8→Option (ByteArray×Int)
 | [],full,out=>some (if full then (⟨#[]⟩,9) else (⟨out.toArray⟩,0))
 | a::r,full,out=>match ybZ.f n a with
  | none=>none
  | some (s,e,_)=>
   if e≠0 then some (⟨#[]⟩,e)
   else if s.size≤4294967296 then
    if full||decide (out.length+s.size≥65536) then goS n r true out else goS n r false (out++s.data.toList++[10])
   else none
theorem V_agg {E:Env}{w:World}{T:Ty}{d:Den T}{x:Value}(ha:T.agg=true):V E w (.data T d) x↔∃ c:Array Value,x = .agg c∧Rd E.S w T d c.toList:=by
 simp[V,AV.isAgg,ha,C]
theorem tup2_inv {E:Env}{w:World}{s:ByteArray}{e:Int}{x:Value}(h:V E w (.tup (.cons (.data .str s) (.cons (.data (.int .i64) e) .done))) x):x = .tuple #[.string s,.int .i64 e]:=by
 rw[V_one rfl]at h
 obtain⟨c,h0,y,ys,hc,h1,z,zs,hd,h2,h3⟩:=h
 injection h0 with h0
 rw[if_neg (by simp[AV.isAgg,Ty.agg])]at h1 h2
 have h1:y = .string s:=by simpa[C,Rd]using h1
 have h2:z = .int .i64 e:=by simpa[C,Rd]using h2
 have h3:zs=[]:=h3
 subst h1 h2 h3 hd
 obtain⟨c⟩:=c
 have hc:c=_:=hc
 rw[h0,hc]
theorem line_calls {n:Nat}{a:yaW}{s:ByteArray}{e:Int}(h:ybZ.f n a=some (s,e,())){w:World}{S:Nat→Prop}(hS:∀ b,S b→b<w.heap.size)
  (hgl:(∀ p∈Gl.tab,S p.1∧∃ cs,p.2 cs∧At w ⟨p.1,0,none⟩ cs)∧∀ p∈Gl.ex,S p.1∧∃ o,w.heap[p.1]?=some o∧p.2 o) {c:Array Value} (hr:Rd S w yaY a c.toList) :
  Calls Tryz.prog 8 #[.agg c] w λen w'=>en = .returned (.tuple #[.string s,.int .i64 e])∧Grow w w':=by
 let E:Env:=⟨λ_=>none,λ_=>none,λ_=>False,S⟩
 have hh:HREL (λb=>b<w.heap.size) (λb=>b<w.heap.size) E (yev (inSig 0 ybZ.ia) (a,())) w:=
  by
  have e:yev (inSig 0 ybZ.ia) (a,())=λ_ => .un:=rfl
  rw[e]
  exact⟨λr=>⟨id,rfl⟩,λr r' b h=>by simp[Ent.isLive]at h,λr b h=>by simp[Ent.isLive]at h,hS,λb h=>h,λb hb => .inl (hS b hb),hgl⟩
 have hc:C E w (ydN (yeK 0 ybZ.ia (a,()))) [.agg c]:=by
  refine⟨.agg c,[],rfl,?_,rfl⟩
  exact (V_agg (E:=E) (by rfl)).2 ⟨c,rfl,hr⟩
 have:=(ybZ.ok n).run (a,()) _ h _ _ E w [.agg c] hh hc
 refine this.mono ?_
 rintro en w' ⟨E',x,rfl,g1,g2,g3⟩
 refine⟨?_,g2.keepP.os,g2.keepP.tape,g2.keepP.output,g2.keepP.size,λb hb=>g2.keepP.block b hb hb⟩
 rw[tup2_inv g3]
theorem tyAct:TyIs Tryz.prog yaY 37:=(tyB_ok Tryz.prog yaY).1 37 (by kernel_rfl)
structure ActT (T N:Nat)(Z:Array Value):Prop where
 agg:∀ w,(isAgg T).run Tryz.prog w = .ok true w
 size:∀ w,(Go.sizeOf T).run Tryz.prog w = .ok N w
 zero:∀ w,(zeroValue T).run Tryz.prog w = .ok (.agg Z) w
 n:N=28
 z:Z.size=N
theorem ekTy:∃ T N Z,T=37∧ActT T N Z:=⟨37,28,_,rfl,λw=>Go.Va.run_isAgg tyAct,λw=>Go.Va.run_sizeOf tyAct,Tryz.zeroValue37,rfl,rfl⟩
theorem act_cells {w:World}{a:Addr}{C:Array Value}{N:Nat}(hl:C.size=N)(h:At w a C.toList):(loadCellsFrom a 0 N #[]).run Tryz.prog w = .ok C w:=by
 have:=run_loadCells_at (P:=Tryz.prog) h
 rw[Array.toArray_toList,Array.length_toList,hl]at this
 exact this
theorem act_copy (wr:World){T N:Nat}{Z C:Array Value}(hz:Z.size=N)(hl:C.size=N)(h1:∀ v∈C.toList,v.oneCell'=true):∃ (w2:World),
  (storeCells ⟨wr.heap.size,0,none⟩ C.toList).run Tryz.prog (wr.alloc (.cells Z T)) = .ok () w2 ∧
  Grow wr w2∧w2.heap.size=wr.heap.size+1∧(loadCellsFrom ⟨wr.heap.size,0,none⟩ 0 N #[]).run Tryz.prog w2 = .ok C w2:=by
 have hzl:Z.toList.length=N:=by simpa using hz
 have hll:C.toList.length=N:=by simpa using hl
 have hb0:(wr.alloc (.cells Z T)).heap[wr.heap.size]?=some (.cells Z.toList.toArray T (0,0)):=by
  rw[Array.toArray_toList];exact heap_alloc_new wr _
 obtain⟨w2,g1,g2,g3⟩:=yeC (P:=Tryz.prog) C.toList 0 (wr.alloc (.cells Z T)) wr.heap.size 0 Z.toList T (0,0) hb0 (.inl rfl) (by rw[hzl,hll];omega) h1
 have hsz:(wr.alloc (.cells Z T)).heap.size=wr.heap.size+1:=by show (wr.heap.push _).size=_;simp
 have g4:w2.heap[wr.heap.size]?=some (.cells C T (0,0)):=by
  rw[g3,hll,Nat.zero_add,Nat.zero_add,List.take_zero,List.nil_append,List.drop_of_length_le (by omega),List.append_nil,Array.toArray_toList]
 exact⟨w2,g1,⟨g2.os,g2.tape,g2.output,by rw[g2.size,hsz];omega,λb hb=>(g2.block b (by omega)).trans (heap_alloc_old wr _ hb)⟩,by rw[g2.size,hsz],act_cells hl (At.block (c1:=[]) (c2:=[]) g4 (by simp))⟩
theorem belowOf {a b:World}{B:Nat}(h:Grow a b)(hB:B≤a.heap.size):Below B a b:=⟨h.os,h.tape,h.output,by have:=h.size;omega,λx hx=>h.block x (by omega)⟩
theorem builder_grow {T e B b:Nat}{bs:List Value}{w w':World}(h:Lib.IsBuilder T e B b bs w)(g:Grow w w'):Lib.IsBuilder T e B b bs w':=by
 have key:∀ p,Lib.BuilderAt T e B b p bs w→Lib.BuilderAt T e B b p bs w':=by
  rintro p ⟨h1,v,h2,⟨h3,h4⟩,h5⟩
  have lt:∀ {i:Nat} {o:Obj},w.heap[i]?=some o→i<w.heap.size:=fun {i o} h=>by
   rcases Nat.lt_or_ge i w.heap.size with hl | hl
   ·exact hl
   ·rw[Array.getElem?_eq_none hl]at h;exact nomatch h
  refine⟨h1,v,(g.block b (lt h2)).trans h2,⟨h3,?_⟩,h5⟩
  rcases h4 with h4 | ⟨x,cap,cur,q1,q2,q3,q4,q5,q6,q7⟩
  ·exact .inl h4
  ·exact .inr ⟨x,cap,cur,q1,q2,(g.block x (lt q3)).trans q3,q4,q5,q6,q7⟩
 exact h.imp (key _) (key _)
theorem goS_step {n:Nat}{a:yaW}{r:List yaW}{full:Bool}{out:List UInt8}{u:ByteArray×Int}(h:goS n (a::r) full out=some u) :
  ∃ (s:ByteArray) (e:Int),ybZ.f n a=some (s,e,())∧((e≠0∧(e != 0)=true∧u=(⟨#[]⟩,e))∨(e=0∧s.size≤4294967296∧((full=true∧goS n r true out=some u) ∨
   (full=false∧65536≤out.length+s.size∧goS n r true out=some u)∨(full=false∧out.length+s.size<65536∧goS n r false (out++s.data.toList++[10])=some u)))):=by
 unfold goS at h
 cases hL:ybZ.f n a with
 | none=>rw[hL]at h;exact nomatch h
 | some x=>
  obtain⟨s,e,⟨⟩⟩:=x
  rw[hL]at h
  dsimp only at h
  refine⟨s,e,rfl,?_⟩
  by_cases he:e=0
  ·right
   subst he
   rw[if_neg (by decide)]at h
   refine⟨rfl,?_⟩
   split at h
   ·next hs=>
    refine⟨hs,?_⟩
    cases full with
    | true=>exact .inl ⟨rfl,by simpa using h⟩
    | false=>
     right
     by_cases hf:65536≤out.length+s.size
     ·left;exact⟨rfl,hf,by simpa[hf]using h⟩
     ·right;exact⟨rfl,by omega,by simpa[hf]using h⟩
   ·exact nomatch h
  ·left
   rw[if_pos he]at h
   injection h with h
   exact⟨he,bne_iff_ne.2 he,h.symm⟩
theorem goS_end {n:Nat}{full:Bool}{out:List UInt8}{u:ByteArray×Int}(h:goS n [] full out=some u):(full=true∧u=(⟨#[]⟩,9))∨(full=false∧u=(⟨out.toArray⟩,0)):=by
 unfold goS at h
 injection h with h
 cases full with
 | true=>exact .inl ⟨rfl,h.symm⟩
 | false=>exact .inr ⟨rfl,h.symm⟩
theorem ne_nil_of {α:Type}{l:List α}{k:Nat}(h:k<l.length):¬ l=[]:=λe=>by rw[e]at h;exact absurd h (Nat.not_lt_zero _)
theorem drop_at {α:Type}{l:List α}{k:Nat}{a:α}(h:l[k]?=some a):l.drop k=a::l.drop (k+1):=by
 obtain⟨h5,h6⟩:=List.getElem?_eq_some_iff.1 h
 rw[List.drop_eq_getElem_cons h5,h6]
theorem dec_nlt {k m:Nat}(h:¬ k<m):decide ((k:Int)<(m:Int))=false:=decide_eq_false (λhh=>h (Int.ofNat_lt.1 hh))
theorem meas_up {k m:Nat}(h:k<m):m-(intOf (Value.int .i64 ((k+1:Nat):Int))).toNat<m-(intOf (Value.int .i64 (k:Int))).toNat:=by
 show m-((k+1:Nat):Int).toNat<m-(k:Int).toNat
 rw[Int.toNat_natCast,Int.toNat_natCast];omega
theorem len_lt {α:Type}{l:List α}{k:Nat}(h:k<l.length):∃ a,l[k]?=some a:=⟨l[k],List.getElem?_eq_getElem h⟩
theorem wrap_sum {a b:Nat}(ha:a≤65536)(hb:b≤4294967296):wrap64 ((a:Int)+(b:Int))=((a+b:Nat):Int):=by
 rw[show (a:Int)+(b:Int)=((a+b:Nat):Int) by omega]
 exact IntWalk.wrap64_in _ ⟨by omega,by omega⟩
theorem dec_ge' {a b:Nat}(ha:a≤65536)(hb:b≤4294967296)(h:65536≤a+b):decide ((65536:Int)≤wrap64 ((a:Int)+(b:Int)))=true:=by
 rw[wrap_sum ha hb];exact decide_eq_true (by omega)
theorem dec_nge' {a b:Nat}(h:a+b<65536):decide ((65536:Int)≤wrap64 ((a:Int)+(b:Int)))=false:=by
 rw[wrap_sum (by omega) (by omega)];exact decide_eq_false (by omega)
theorem dec_4096 (m:Nat):decide ((4096:Int)<(m:Int))=decide (m>4096):=decide_eq_decide.2 (by omega)
theorem drop_len {α:Type}{l:List α}{k:Nat}(hk:k≤l.length)(h:¬ k<l.length):l.drop k=[]:=List.drop_of_length_le (by omega)
theorem bts (s:ByteArray)(out:List UInt8):Lib.byteCells out++Lib.strCells (s++⟨#[10]⟩)=Lib.byteCells (out++s.data.toList++[10]):=by
 rw[Lib.strCells_eq,← Lib.byteCells_append]
 congr 1
 rw[List.append_assoc]
 congr 1
theorem len_bc (out:List UInt8):(Lib.byteCells out).length=out.length:=Lib.byteCells_length out
theorem out_len {out:List UInt8}{s:ByteArray}(h:out.length+s.size<65536):(out++s.data.toList++[10]).length≤65536:=by
 rw[List.length_append,List.length_append,List.length_singleton]
 have:s.data.toList.length=s.size:=rfl
 omega
theorem ws_len {out:List UInt8}{s:ByteArray}(h:out.length+s.size<65536):(Lib.byteCells out).length+(s++⟨#[10]⟩:ByteArray).size≤140737488355328:=by
 rw[Lib.byteCells_length,ByteArray.size_append]
 change out.length+(s.size+1)≤_
 omega
theorem atBuilder {B:Nat}{bs:List Value}{w:World}(h:Lib.BuilderAt 90 5 B B (.pointer (some ⟨B,0,none⟩)) bs w):Lib.IsBuilder 90 5 B B bs w := .inr h
theorem builder_new (w:World):Lib.IsBuilder 90 5 w.heap.size w.heap.size (Lib.byteCells []) (w.alloc (.cells #[.pointer none,.slice none 0 0] 90)):=
 .inl ⟨Nat.le_refl _,.slice none 0 0,heap_alloc_new w _,⟨rfl,.inl ⟨rfl,rfl⟩⟩,λh=>nomatch h⟩
theorem below_alloc (w:World){o:Obj}:Below w.heap.size w (w.alloc o):=belowOf (Va.Grow.alloc w o) (Nat.le_refl _)
end Go.Proofs.YtdlkpmohjhjmfaaGreatDoor
namespace Go.Proofs.YtdlkpmohjhjmfaaGreatDoor
open Go Go.Va Go.Proofs Go.RowKit
set_option maxRecDepth 100000 in
theorem script_walk (n:Nat)(l:List yaW)(sl:Option Addr)(bk o c:Nat)(w:World)(hsl:l=[]∨(sl=some ⟨bk,o,none⟩∧bk<w.heap.size))(hl:l.length≤140737488355328)(u:ByteArray×Int)(hu:goS n l (decide (l.length>4096)) []=some u)
  {S:Nat→Prop} (hS:∀ b,S b→b<w.heap.size)
  (hgl:(∀ p∈Gl.tab,S p.1∧∃ cs,p.2 cs∧At w ⟨p.1,0,none⟩ cs)∧∀ p∈Gl.ex,S p.1∧∃ o,w.heap[p.1]?=some o∧p.2 o)
  (hel:∀ k a,l[k]?=some a→∃ C:Array Value,C.size=28∧Rd S w yaY a C.toList∧At w ⟨bk,o+k*28,none⟩ C.toList∧∀ v∈C.toList,v.oneCell'=true) :
  Calls Tryz.prog 19 #[.slice sl l.length c] w λe w'=>e = .returned (.tuple #[.string u.1,.int .i64 u.2])∧Below w.heap.size w w':=by
 have mixed:=mixed
 obtain⟨T,N,Z,hT,AT⟩:=ekTy
 have e1:Op.load 37 (Operand.tmp 17)=Op.load T (Operand.tmp 17):=by rw[hT]
 have e2:Op.alloc 37=Op.alloc T:=by rw[hT]
 have e3:Op.store 37 (Operand.tmp 7) (Operand.tmp 18)=Op.store T (Operand.tmp 7) (Operand.tmp 18):=by rw[hT]
 have e4:Op.load 37 (Operand.tmp 7)=Op.load T (Operand.tmp 7):=by rw[hT]
 clear hT
 have aggT:=AT.agg
 have sizeT:=AT.size
 have zeroT:=AT.zero
 have Hel:=Any.hidU hel
 have Hgl:=Any.hidU hgl
 have HS:=Any.hidU hS
 clear hel hgl hS
 go_enter Tryz.func19,Tryz.ntmps19
 go_wp2_with fail
 go_loopw [5,15] (λfv i wr=>∃ (k:Nat) (full:Bool) (out:List UInt8),k≤l.length∧i = .int .i64 k∧fv = .bool full∧goS n (l.drop k) full out=some u∧Hid (Lib.IsBuilder 90 5 w.heap.size w.heap.size (Lib.byteCells out) wr)∧Hid (Below w.heap.size w wr)∧out.length≤65536) (λ_ i _=>l.length-(intOf i).toNat)
 case atStart=>
  exact⟨0,decide (l.length>4096),[],Nat.zero_le _,rfl,congrArg Value.bool (dec_4096 _),hu,Any.hidU (builder_new w),Any.hidU (below_alloc w),Nat.zero_le _⟩
 case round=>
  obtain⟨k,full,out,hk,rfl,rfl,hg,HB,HW,ho⟩:=hrel
  by_cases hkn:k<l.length
  ·obtain⟨rfl,hbk⟩:=hsl.resolve_left (ne_nil_of hkn)
   obtain⟨a,ha⟩:=len_lt hkn
   obtain⟨C,hlen,hrd,hat,hone⟩:=Hel.out k a ha
   have hCN:C.size=N:=hlen.trans AT.n.symm
   have h0:(loadCellsFrom ⟨bk,o+k*28,none⟩ 0 N #[]).run Tryz.prog wr = .ok C wr:=act_cells hCN ((growBelow HW.out).keep (λb=>b<w.heap.size) |>.at hbk hat)
   obtain⟨w2,h1,h2,h3,h4⟩:=act_copy wr (T:=T) AT.z hCN hone
   have Hrd:=Any.hidU hrd
   have H2:=Any.hidU h2
   clear hat hrd hlen h2 hone
   rw[e1,e2,e3,e4]
   rw[drop_at ha]at hg
   obtain⟨s,e,hL,hcase⟩:=goS_step hg
   have hwr:w.heap.size≤wr.heap.size:=HW.out.size
   have HG2:=Any.hidU ((growBelow HW.out).trans H2.out)
   clear ha hg
   go_wp2_with fail
   refine (line_calls hL (S:=S) (λb hb=>Nat.lt_of_lt_of_le (HS.out b hb) HG2.out.size) ⟨λp hp => ?_,λp hp => ?_⟩ (Rd.keep (HG2.out.keep S) (λ_ h=>h) _ _ _ Hrd.out)).mono ?_
   ·obtain⟨q1,cs,q2,q3⟩:=Hgl.out.1 p hp
    exact⟨q1,cs,q2,(HG2.out.keep S).at q1 q3⟩
   ·obtain⟨q1,ob,q2,q3⟩:=Hgl.out.2 p hp
    exact⟨q1,ob,(HG2.out.block p.1 (HS.out _ q1)).trans q2,q3⟩
   rintro en w3 ⟨rfl,hg3⟩
   have HB3:=Any.hidU (builder_grow HB.out (H2.out.trans hg3))
   have HW3:=Any.hidU (HW.out.trans (belowOf (H2.out.trans hg3) hwr))
   have hsz3:w.heap.size≤w3.heap.size:=HW3.out.size
   clear hg3 HB HW h0 h1 h4 h3 HG2 H2 Hrd
   obtain⟨he,hb,rfl⟩ | ⟨rfl,hs32,⟨rfl,hgo⟩ | ⟨rfl,hf,hgo⟩ | ⟨rfl,hf,hgo⟩⟩:=hcase
   ·go_wp2_with fail
    go_ret2
    exact⟨rfl,HW3.out⟩
   ·go_wp2_with fail
    exact⟨⟨k+1,true,out,hkn,rfl,rfl,hgo,HB3,HW3,ho⟩,meas_up hkn⟩
   ·go_wp2_with fail
    refine (Any.Builder_Len Tryz.l170 w.heap.size w.heap.size _ w3 HB3.out).mono ?_
    rintro en w4 ⟨rfl,rfl⟩
    rw[len_bc]
    have hd:=dec_ge' ho hs32 hf
    have HO:=Any.hidU ho
    clear ho hs32 hf
    go_wp2_with fail
    exact⟨⟨k+1,true,out,hkn,rfl,(by first | rfl | exact congrArg Value.bool hd),hgo,HB3,HW3,HO.out⟩,meas_up hkn⟩
   ·go_wp2_with fail
    refine (Any.Builder_Len Tryz.l170 w.heap.size w.heap.size _ w3 HB3.out).mono ?_
    rintro en w4 ⟨rfl,rfl⟩
    rw[len_bc]
    have hd:=dec_nge' hf
    have HF:=Any.hidU hf
    clear ho hf
    go_wp2_with fail
    refine (Any.Builder_WriteString { Tryz.l156 with } extra156 w.heap.size w.heap.size _ _ w4 HB3.out (ws_len HF.out) hsz3).mono ?_
    rintro en w5 ⟨rfl,hba,hbel⟩
    rw[bts]at hba
    have HB5:=Any.hidU (atBuilder hba)
    have HW5:=Any.hidU (HW3.out.trans hbel)
    clear hba hbel HB3 HW3
    go_wp2_with fail
    exact⟨⟨k+1,false,out++s.data.toList++[10],hkn,rfl,(by first | rfl | exact congrArg Value.bool hd),hgo,HB5,HW5,out_len HF.out⟩,meas_up hkn⟩
  ·rw[drop_len hk hkn]at hg
   have hdn:=dec_nlt hkn
   have hwr:w.heap.size≤wr.heap.size:=HW.out.size
   obtain⟨rfl,rfl⟩ | ⟨rfl,rfl⟩:=goS_end hg
   ·clear hg
    go_wp2_with fail
    go_ret2
    exact⟨rfl,HW.out⟩
   ·clear hg
    go_wp2_with fail
    refine (Any.Builder_String_any { Tryz.l156 with } extra156 w.heap.size w.heap.size out wr HB.out hwr).mono ?_
    rintro en w4 ⟨rfl,hb⟩
    have HW4:=Any.hidU (HW.out.trans hb)
    clear hb HB HW
    go_wp2_with fail
    go_ret2
    exact⟨rfl,HW4.out⟩
end Go.Proofs.YtdlkpmohjhjmfaaGreatDoor
namespace Go.Proofs.YtdlkpmohjhjmfaaGreatDoor
open Go Go.Va Go.Proofs Go.RowKit
namespace ye6
abbrev ia:List Ai:=[.dat (.slice yaY)]
abbrev io:List (Nat×Oi):=[(2,.dat .str),(3,.dat (.int .i64))]
noncomputable def f (n:Nat)(l:List yaW):Option (DOut ia io):=if l.length≤140737488355328 then (goS n l (decide (l.length>4096)) []).map λu=>(u.1,u.2,()) else none
theorem ok (n:Nat):FnOk Tryz.prog 19 ia io (λv=>f n v.1):=by
 refine⟨⟨Tryz.f19,Tryz.func19,by kernel_rfl,by kernel_rfl⟩,λv u hv P0 S0 E w vals hh hc => ?_⟩
 unfold f at hv
 split at hv
 ·next hlen=>
  obtain⟨x,vs,rfl,h1,h2⟩:=hc
  have h2:vs=[]:=h2
  subst h2
  obtain⟨a,cap,rfl,hcap,hd⟩:=V_slice.1 h1
  obtain⟨u0,hg,rfl⟩:∃ u0,goS n v.1 (decide (v.1.length>4096)) []=some u0∧u=(u0.1,u0.2,()):=by
   cases hgo:goS n v.1 (decide (v.1.length>4096)) [] with
   | none=>rw[hgo]at hv;exact nomatch hv
   | some u0=>rw[hgo]at hv;injection hv with hv;exact⟨u0,rfl,hv.symm⟩
  have fin:∀ (bk o:Nat),(v.1=[]∨(a=some ⟨bk,o,none⟩∧bk<w.heap.size))→(∀ k b,v.1[k]?=some b→∃ C:Array Value,C.size=28∧Rd E.S w yaY b C.toList∧At w ⟨bk,o+k*28,none⟩ C.toList∧∀ v∈C.toList,v.oneCell'=true) →
    Calls Tryz.prog 19 #[.slice a v.1.length cap] w λen w'=>∃ E' x,en = .returned x∧HREL P0 S0 E' (yev (gOut ia io) (u0.1,u0.2,())) w'∧Pub (bnOf 0 ia) P0 E w E' w'∧V E' w' (oneAV (yfD id id 0 io (boxSig 0 ia) (u0.1,u0.2,()))) x:=by
   intro bk o hsl hel
   refine (script_walk n v.1 a bk o cap w hsl hlen u0 hg (S:=E.S) hh.sIn hh.gl hel).mono ?_
   rintro en w' ⟨rfl,hb⟩
   have hgr:=growBelow hb
   refine⟨E,_,rfl,?_,(Ext.grow (P0:=P0) hgr).pub,?_⟩
   ·have e1:yev (inSig 0 ia) v=yev (gOut ia io) (u0.1,u0.2,()):=rfl
    rw[← e1];exact hh.grow hgr
   ·refine (V_one rfl).2 ⟨#[.string u0.1,.int .i64 u0.2],rfl,?_⟩
    exact⟨.string u0.1,[.int .i64 u0.2],rfl,rfl,.int .i64 u0.2,[],rfl,rfl,rfl⟩
  rcases hd with hd | ⟨ad,rfl,hS,cells,g1,g2⟩
  ·exact fin 0 0 (.inl hd) (λk b hk=>by rw[hd]at hk;exact nomatch hk)
  ·obtain⟨ab,ao,asp⟩:=ad
   have has:asp=none:=g2.1
   subst has
   refine fin ab ao (.inr ⟨rfl,hh.sIn _ hS⟩) (λk b hk => ?_)
   obtain⟨hk1,hk2⟩:=List.getElem?_eq_some_iff.1 hk
   obtain⟨c1,c',c2,m1,m2,m3,_,_⟩:=RdL.get (λx c=>Rd.length E.S w yaY x c) v.1 cells g1 k hk1
   rw[hk2]at m3
   rw[m1]at g2
   have hp:=At.part g2
   rw[m2]at hp
   exact⟨c'.toArray,by rw[List.size_toArray];exact Rd.length E.S w yaY _ _ m3,m3,hp,Rd.one E.S w yaY _ _ m3⟩
 ·exact nomatch hv
noncomputable def en (n:Nat):Entry:=yaB 19 ia io (λv=>f n v.1)
end ye6
end Go.Proofs.YtdlkpmohjhjmfaaGreatDoor
namespace Go.Proofs.YtdlkpmohjhjmfaaGreatDoor
open Go Go.Va Go.Proofs
noncomputable section
namespace ya4
abbrev ia:List Ai:=[.dat (.slice yaY)]
abbrev io:List (Nat×Oi):=[(2,.dat .bool)]
abbrev R:Type:=DOut ia io
def X (n:Nat):Ctx:=⟨⟨tab,[ydw.en n,ydR.en n,ydJ.en n,ybx.en n,ye6.en n],0,[]⟩,112,bnOf 0 ia⟩
abbrev g1:List Si:=[.dat 0 (.slice yaY),.dat 3 .str,.dat 4 (.int .i64),.dat 5 .str,.dat 6 (.int .i64)]
abbrev g2:List Si:=[.dat 0 (.slice yaY),.dat 3 .str,.dat 4 (.int .i64),.dat 5 .str]
abbrev g3:List Si:=[.dat 0 (.slice yaY),.dat 3 .str,.dat 4 (.int .i64),.dat 5 .str,.dat 54 .bool]
abbrev g4:List Si:=[.dat 0 (.slice yaY),.dat 3 .str,.dat 4 (.int .i64),.dat 5 .str]
abbrev g5:List Si:=[.dat 0 (.slice yaY),.val 9 (.r 200900 yaY)]
abbrev g6:List Si:=[.dat 0 (.slice yaY),.val 9 (.r 200900 yaY),.dat 12 (.int .i64)]
abbrev g7:List Si:=[]
def T:CT:=(.s .o (.s .o (.s .o (.s (.s .o (.b (.l g1 .o))) (.r g2 (.s (.s .o (.r g3 .o)) (.r g4 (.s .o (.s .o (.r g5 (.s (.s .o (.b (.l g6 .o))) (.r g7 .o))))))))))))
def J1 (n:Nat)(m:Nat):(List (yaW))×ByteArray×Int×ByteArray×Int×Unit→Option R:=jL (X n) n T (yaM Tryz.f7) (endK ia io) g1 [1,1,1,0,1,0] [] m
def J2 (n:Nat):(List (yaW))×ByteArray×Int×ByteArray×Unit→Option R:=jR (X n) n T (yaM Tryz.f7) (endK ia io) g2 [1,1,1,1] []
def J3 (n:Nat):(List (yaW))×ByteArray×Int×ByteArray×Bool×Unit→Option R:=jR (X n) n T (yaM Tryz.f7) (endK ia io) g3 [1,1,1,1,0,1] []
def J4 (n:Nat):(List (yaW))×ByteArray×Int×ByteArray×Unit→Option R:=jR (X n) n T (yaM Tryz.f7) (endK ia io) g4 [1,1,1,1,1] []
def J5 (n:Nat):(List (yaW))×(List (yaW))×Unit→Option R:=jR (X n) n T (yaM Tryz.f7) (endK ia io) g5 [1,1,1,1,1,1,1] []
def J6 (n:Nat)(m:Nat):(List (yaW))×(List (yaW))×Int×Unit→Option R:=jL (X n) n T (yaM Tryz.f7) (endK ia io) g6 [1,1,1,1,1,1,1,0,1,0] [] m
def J7 (n:Nat):Unit→Option R:=jR (X n) n T (yaM Tryz.f7) (endK ia io) g7 [1,1,1,1,1,1,1,1] []
def f (n:Nat)(list:List (yaW)):Option R:=fRun (X n) n T Tryz.f7 ia io (list,())
theorem e0 (n:Nat)(list:List (yaW)):f n list=bnd (ye6.f n list) λu1=>J1 n n (list,u1.1,u1.2.1,(⟨#[]⟩:ByteArray),0,()):=(yae _).trans (by kernel_rfl)
theorem e1 (n m:Nat)(list:List (yaW))(s_:ByteArray)(e_:Int)(want:ByteArray)(i:Int):J1 n (m+1) (list,s_,e_,want,i,())=bIf ((hide (decide (i<((list.length:Nat):Int))))) (gIf (0≤i∧i<((list.length:Nat):Int)) (bnd (ydw.f n (List.getD list i.toNat (Va.dflt yaY))) λu1=>bIf ((!u1.2.1)) (bnd (ydR.f n) λu2=>bIf (u2.1) (bIf ((hide (e_==(1:Int)))) (some ((hide (eqS s_ (⟨#[]⟩:ByteArray))),())) (some (false,()))) (some (false,()))) (gIf (u1.1.size+(⟨#[10]⟩:ByteArray).size≤4611686018427387904) (gIf (want.size+(u1.1++(⟨#[10]⟩:ByteArray)).size≤4611686018427387904) (J1 n m (list,s_,e_,(want++(u1.1++(⟨#[10]⟩:ByteArray))),(IntKind.i64.wrap (i+(1:Int))),())))))) (J2 n (list,s_,e_,want,())):=(yae _).trans (by kernel_rfl)
theorem e2 (n:Nat)(list:List (yaW))(s_:ByteArray)(e_:Int)(want:ByteArray):J2 n (list,s_,e_,want,())=bIf ((hide (decide (((list.length:Nat):Int)>(4096:Int))))) (J3 n (list,s_,e_,want,true,())) (J3 n (list,s_,e_,want,(hide (decide ((want.size:Int)>(65536:Int)))),())):=(yae _).trans (by kernel_rfl)
theorem e3 (n:Nat)(list:List (yaW))(s_:ByteArray)(e_:Int)(want:ByteArray)(t54:Bool):J3 n (list,s_,e_,want,t54,())=bIf (t54) (bnd (ydR.f n) λu1=>bIf (u1.1) (bIf ((hide (e_==(9:Int)))) (some ((hide (eqS s_ (⟨#[]⟩:ByteArray))),())) (some (false,()))) (some (false,()))) (J4 n (list,s_,e_,want,())):=(yae _).trans (by kernel_rfl)
theorem e4 (n:Nat)(list:List (yaW))(s_:ByteArray)(e_:Int)(want:ByteArray):J4 n (list,s_,e_,want,())=bnd (ybx.f n s_) λu1=>bnd (ydR.f n) λu2=>bIf ((!u2.1)) (some (false,())) (bIf ((hide (e_ != (0:Int)))) (some (false,())) (bIf ((hide (!eqS s_ want))) (some (false,())) (bIf ((hide (u1.2.1 != (0:Int)))) (some (false,())) (bIf ((hide (u1.2.2.1 != (0:Int)))) (some (false,())) (bIf ((hide (((u1.1.length:Nat):Int) != ((list.length:Nat):Int)))) (some (false,())) (J5 n (list,u1.1,()))))))):=(yae _).trans (by kernel_rfl)
theorem e5 (n:Nat)(list:List (yaW))(l:List (yaW)):J5 n (list,l,())=J6 n n (list,l,0,()):=(yae _).trans (by kernel_rfl)
theorem e6 (n m:Nat)(list:List (yaW))(l:List (yaW))(i:Int):J6 n (m+1) (list,l,i,())=bIf ((hide (decide (i<((l.length:Nat):Int))))) (gIf (0≤i∧i<((l.length:Nat):Int)) (gIf (0≤i∧i<((list.length:Nat):Int)) (bnd (ydJ.f n (List.getD l (0+i.toNat) (Va.dflt yaY)) (List.getD list i.toNat (Va.dflt yaY))) λu1=>bIf ((!u1.1)) (some (false,())) (J6 n m (list,l,(IntKind.i64.wrap (i+(1:Int))),()))))) (J7 n (())):=(yae _).trans (by kernel_rfl)
theorem e7 (n:Nat):J7 n (())=some (true,()):=(yae _).trans (by kernel_rfl)
theorem ok (n:Nat):FnOk Tryz.prog 7 ia io (fRun (X n) n T Tryz.f7 ia io):=yaG mixed tabIs (yad (yac (ydw.ok n)) (yad (yac (ydR.ok n)) (yad (yac (ydJ.ok n)) (yad (yac (ybx.ok n)) (yad (yac (ye6.ok n)) (yav)))))) Tryz.func7 (by kernel_rfl) rfl
def en (n:Nat):Entry:=yaB 7 ia io (fRun (X n) n T Tryz.f7 ia io)
end ya4
end
end Go.Proofs.YtdlkpmohjhjmfaaGreatDoor
