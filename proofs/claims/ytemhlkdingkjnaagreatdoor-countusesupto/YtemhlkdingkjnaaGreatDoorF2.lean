/-
  What the functions compute, by the abstract interpreter.
-/
import Derived.Test.YtemhlkdingkjnaaGreatDoorF0
import Derived.Test.YtemhlkdingkjnaaGreatDoorF1
set_option linter.unusedVariables false
set_option linter.unusedSimpArgs false
namespace Go.Proofs.YtemhlkdingkjnaaGreatDoor
open Go Go.Va Go.Proofs
namespace F_ref16_Uses
abbrev ia:List Ai:=[.dat T_api_State]
abbrev io:List (Nat×Oi):=[(2,.val (.r 0 T_count_Use))]
abbrev R:Type:=DOut ia io
noncomputable def X (n:Nat):Ctx:=⟨⟨tab,[F_ref16_All.en n],0,[]⟩,74,bnOf 0 ia⟩
abbrev g1:List Si:=[.val 3 (.r 200300 T_count_Use),.val 4 (.r 200400 T_count_Use),.dat 5 (.int .i64)]
abbrev g2:List Si:=[.val 3 (.r 200300 T_count_Use),.val 4 (.r 200400 T_count_Use),.dat 5 (.int .i64),.dat 6 (.int .i64),.dat 7 .bool,.dat 8 (.int .i64)]
abbrev g3:List Si:=[.val 3 (.r 200300 T_count_Use),.val 4 (.r 200400 T_count_Use),.dat 5 (.int .i64),.dat 6 (.int .i64),.dat 7 .bool,.dat 8 (.int .i64)]
abbrev g4:List Si:=[.val 3 (.r 200300 T_count_Use),.val 4 (.r 200400 T_count_Use),.dat 5 (.int .i64),.dat 6 (.int .i64),.dat 7 .bool,.dat 8 (.int .i64)]
abbrev g5:List Si:=[.val 3 (.r 200300 T_count_Use),.val 4 (.r 200400 T_count_Use),.dat 5 (.int .i64),.dat 6 (.int .i64),.dat 7 .bool]
abbrev g6:List Si:=[.val 3 (.r 200300 T_count_Use),.val 4 (.r 200400 T_count_Use),.dat 5 (.int .i64)]
abbrev g7:List Si:=[.val 4 (.r 200400 T_count_Use)]
noncomputable def T:CT:=(.s .o (.s .o (.s .o (.s (.s .o (.b (.l g1 (.s .o (.s (.b (.s .o (.s .o (.s (.s .o (.b (.l g2 (.s .o (.s (.b (.s .o (.r g3 .o))) (.r g4 .o)))))) (.r g5 .o))))) (.r g6 .o)))))) (.r g7 .o)))))
noncomputable def J1 (n:Nat)(m:Nat):(List (D_count_Use))×(List (D_count_Use))×Int×Unit→Option R:=jL (X n) n T (bodyOf Tryz.f23) (endK ia io) g1 [1,1,1,0,1,0] [] m
noncomputable def J2 (n m1:Nat)(m:Nat):(List (D_count_Use))×(List (D_count_Use))×Int×Int×Bool×Int×Unit→Option R:=jL (X n) n T (bodyOf Tryz.f23) (endK ia io) g2 [1,1,1,0,1,0,0,1,0,0,1,1,0,1,0] [m1] m
noncomputable def J3 (n m1 m2:Nat):(List (D_count_Use))×(List (D_count_Use))×Int×Int×Bool×Int×Unit→Option R:=jR (X n) n T (bodyOf Tryz.f23) (endK ia io) g3 [1,1,1,0,1,0,0,1,0,0,1,1,0,1,0,0,1,0,0,1] [m1,m2]
noncomputable def J4 (n m1 m2:Nat):(List (D_count_Use))×(List (D_count_Use))×Int×Int×Bool×Int×Unit→Option R:=jR (X n) n T (bodyOf Tryz.f23) (endK ia io) g4 [1,1,1,0,1,0,0,1,0,0,1,1,0,1,0,0,1,1] [m1,m2]
noncomputable def J5 (n m1:Nat):(List (D_count_Use))×(List (D_count_Use))×Int×Int×Bool×Unit→Option R:=jR (X n) n T (bodyOf Tryz.f23) (endK ia io) g5 [1,1,1,0,1,0,0,1,0,0,1,1,1] [m1]
noncomputable def J6 (n m1:Nat):(List (D_count_Use))×(List (D_count_Use))×Int×Unit→Option R:=jR (X n) n T (bodyOf Tryz.f23) (endK ia io) g6 [1,1,1,0,1,0,0,1,1] [m1]
noncomputable def J7 (n:Nat):(List (D_count_Use))×Unit→Option R:=jR (X n) n T (bodyOf Tryz.f23) (endK ia io) g7 [1,1,1,1] []
noncomputable def f (n:Nat)(s_:D_api_State):Option R:=fRun (X n) n T Tryz.f23 ia io (s_,())
theorem e0 (n:Nat)(s_:D_api_State):f n s_ =
  bnd (F_ref16_All.f n s_) λu1=>
  J1 n n (u1.1,([]:List (D_count_Use)),0,()):=(hideF_eq _).trans (by kernel_rfl)
theorem e1 (n m:Nat)(all:List (D_count_Use))(out:List (D_count_Use))(i:Int):J1 n (m+1) (all,out,i,()) =
  bIf ((hide (decide (i<((all.length:Nat):Int))))) (
    J2 n m n (all,out,i,0,false,0,())
    ) (
    J7 n (out,())
    ):=(hideF_eq _).trans (by kernel_rfl)
theorem e2 (n m1 m:Nat) (all:List (D_count_Use)) (out:List (D_count_Use)) (i:Int) (at_:Int) (there:Bool) (k_:Int):J2 n m1 (m+1) (all,out,i,at_,there,k_,()) =
  bIf ((hide (decide (k_<((out.length:Nat):Int))))) (
    gIf (0≤k_∧k_<((out.length:Nat):Int)) (
      gIf (0≤i∧i<((all.length:Nat):Int)) (
        bIf ((hide (((List.getD out (0+k_.toNat) (Va.dflt T_count_Use)).1)==((List.getD all (0+i.toNat) (Va.dflt T_count_Use)).1)))) (
          gIf (0≤k_∧k_<((out.length:Nat):Int)) (
            gIf (0≤k_∧k_<((out.length:Nat):Int)) (
              J3 n m1 m (all,(List.set out (0+k_.toNat) ((List.getD out (0+k_.toNat) (Va.dflt T_count_Use)).1,((IntKind.i64.wrap ((((List.getD out (0+k_.toNat) (Va.dflt T_count_Use)).2).1)+(1:Int))),((List.getD out (0+k_.toNat) (Va.dflt T_count_Use)).2).2))),i,at_,true,k_,())
              )
            )
          ) (
          J3 n m1 m (all,out,i,at_,there,k_,())
          )
        )
      )
    ) (
    J5 n m1 (all,out,i,at_,there,())
    ):=(hideF_eq _).trans (by kernel_rfl)
theorem e3 (n m1 m2:Nat) (all:List (D_count_Use)) (out:List (D_count_Use)) (i:Int) (at_:Int) (there:Bool) (k_:Int):J3 n m1 m2 (all,out,i,at_,there,k_,()) =
  gIf (0≤k_∧k_<((out.length:Nat):Int)) (
    gIf (0≤i∧i<((all.length:Nat):Int)) (
      bIf ((hide (decide (((List.getD out (0+k_.toNat) (Va.dflt T_count_Use)).1)<((List.getD all (0+i.toNat) (Va.dflt T_count_Use)).1))))) (
        J4 n m1 m2 (all,out,i,(IntKind.i64.wrap (k_+(1:Int))),there,k_,())
        ) (
        J4 n m1 m2 (all,out,i,at_,there,k_,())
        )
      )
    ):=(hideF_eq _).trans (by kernel_rfl)
theorem e4 (n m1 m2:Nat)(all:List (D_count_Use))(out:List (D_count_Use))(i:Int)(at_:Int)(there:Bool)(k_:Int):J4 n m1 m2 (all,out,i,at_,there,k_,()) =
  J2 n m1 m2 (all,out,i,at_,there,(IntKind.i64.wrap (k_+(1:Int))),()):=(hideF_eq _).trans (by kernel_rfl)
theorem e5 (n m1:Nat) (all:List (D_count_Use)) (out:List (D_count_Use)) (i:Int) (at_:Int) (there:Bool):J5 n m1 (all,out,i,at_,there,()) =
  bIf ((!there)) (
    gIf (0≤at_∧at_≤((out.length:Nat):Int)) (
      gIf (0 ≤ (0 : Int)∧(0:Int)≤at_) (
        gIf ((([] : List (D_count_Use)).length+((out.drop 0).take (at_.toNat-0)).length)*56≤70368744177664) (
          gIf (0≤i∧i<((all.length:Nat):Int)) (
            gIf (((([]:List (D_count_Use))++((out.drop 0).take (at_.toNat-0))).length+1)*56≤70368744177664) (
              gIf (0≤((out.length:Nat):Int)∧((out.length:Nat):Int)≤((out.length:Nat):Int)) (
                gIf (0≤at_∧at_≤((out.length:Nat):Int)) (
                  gIf ((((([]:List (D_count_Use))++((out.drop 0).take (at_.toNat-0)))++([(List.getD all (0+i.toNat) (Va.dflt T_count_Use))]:List (D_count_Use))).length+((out.drop at_.toNat).take (((((out.length:Nat):Int)).toNat)-at_.toNat)).length)*56≤70368744177664) (
                    J6 n m1 (all,(((([]:List (D_count_Use))++((out.drop 0).take (at_.toNat-0)))++([(List.getD all (0+i.toNat) (Va.dflt T_count_Use))]:List (D_count_Use)))++((out.drop at_.toNat).take (((((out.length:Nat):Int)).toNat)-at_.toNat))),i,())
                    )
                  )
                )
              )
            )
          )
        )
      )
    ) (
    J6 n m1 (all,out,i,())
    ):=(hideF_eq _).trans (by kernel_rfl)
theorem e6 (n m1:Nat)(all:List (D_count_Use))(out:List (D_count_Use))(i:Int):J6 n m1 (all,out,i,()) =
  J1 n m1 (all,out,(IntKind.i64.wrap (i+(1:Int))),()):=(hideF_eq _).trans (by kernel_rfl)
theorem e7 (n:Nat)(out:List (D_count_Use)):J7 n (out,()) =
  some (out,()):=(hideF_eq _).trans (by kernel_rfl)
theorem phi (n:Nat):∀ e∈(X n).c.Φ,EntryOk Tryz.prog e:=allE_cons (mkEntry_ok (F_ref16_All.ok n)) (allE_nil)
theorem ok (n:Nat):FnOk Tryz.prog 23 ia io (fRun (X n) n T Tryz.f23 ia io):=tree_ok mixed tabIs (phi n) Tryz.func23 (by kernel_rfl) rfl
noncomputable def en (n:Nat):Entry:=mkEntry 23 ia io (fRun (X n) n T Tryz.f23 ia io)
end F_ref16_Uses
end Go.Proofs.YtemhlkdingkjnaaGreatDoor
namespace Go.Proofs.YtemhlkdingkjnaaGreatDoor
open Go Go.Va Go.Proofs
namespace F_law16_CountUses
abbrev ia:List Ai:=[.dat T_api_State]
abbrev io:List (Nat×Oi):=[(2,.dat .bool)]
abbrev R:Type:=DOut ia io
noncomputable def X (n:Nat):Ctx:=⟨⟨tab,[F_count_Uses.en n,F_ref16_Uses.en n,F_law16_awake.en,F_count_Bytes.en n],0,[]⟩,46,bnOf 0 ia⟩
abbrev g1:List Si:=[.ref 1 1 T_api_State,.dat 3 (.slice T_count_Use),.val 4 (.r 200400 T_count_Use),.box 1 (.d T_api_State)]
abbrev g2:List Si:=[.ref 1 1 T_api_State,.dat 3 (.slice T_count_Use),.val 4 (.r 200400 T_count_Use),.dat 5 (.int .i64),.dat 6 (.int .i64),.box 1 (.d T_api_State)]
abbrev g3:List Si:=[.ref 1 1 T_api_State,.dat 5 (.int .i64),.box 1 (.d T_api_State)]
noncomputable def T:CT:=(.s .o (.s .o (.s .o (.r g1 (.s .o (.s (.s .o (.b (.l g2 .o))) (.r g3 .o)))))))
noncomputable def J1 (n:Nat):(List (D_count_Use))×(List (D_count_Use))×D_api_State×Unit→Option R:=jR (X n) n T (bodyOf Tryz.f4) (endK ia io) g1 [1,1,1] []
noncomputable def J2 (n:Nat)(m:Nat):(List (D_count_Use))×(List (D_count_Use))×Int×Int×D_api_State×Unit→Option R:=jL (X n) n T (bodyOf Tryz.f4) (endK ia io) g2 [1,1,1,1,0,1,0] [] m
noncomputable def J3 (n:Nat):Int×D_api_State×Unit→Option R:=jR (X n) n T (bodyOf Tryz.f4) (endK ia io) g3 [1,1,1,1,1] []
noncomputable def f (n:Nat)(s_:D_api_State):Option R:=fRun (X n) n T Tryz.f4 ia io (s_,())
theorem e0 (n:Nat)(s_:D_api_State):f n s_ =
  bnd (F_count_Uses.f n s_) λu1=>
  bnd (F_ref16_Uses.f n s_) λu2=>
  bnd (F_law16_awake.f) λu3=>
  bIf ((!u3.1)) (
    some (false,())
    ) (
    bIf ((hide (((u1.1.length:Nat):Int) != ((u2.1.length:Nat):Int)))) (
      some (false,())
      ) (
      J1 n (u1.1,u2.1,s_,())
      )
    ):=(hideF_eq _).trans (by kernel_rfl)
theorem e1 (n:Nat)(a:List (D_count_Use))(b:List (D_count_Use))(s_:D_api_State):J1 n (a,b,s_,()) =
  J2 n n (a,b,0,0,s_,()):=(hideF_eq _).trans (by kernel_rfl)
theorem e2 (n m:Nat) (a:List (D_count_Use)) (b:List (D_count_Use)) (sum:Int) (i:Int) (s_:D_api_State):J2 n (m+1) (a,b,sum,i,s_,()) =
  bIf ((hide (decide (i<((a.length:Nat):Int))))) (
    gIf (0≤i∧i<((a.length:Nat):Int)) (
      gIf (0≤i∧i<((b.length:Nat):Int)) (
        bIf ((hide (!(eqD T_count_Use (List.getD a i.toNat (Va.dflt T_count_Use)) (List.getD b (0+i.toNat) (Va.dflt T_count_Use)))))) (
          some (false,())
          ) (
          gIf (0≤i∧i<((a.length:Nat):Int)) (
            J2 n m (a,b,(IntKind.i64.wrap (sum+((((List.getD a i.toNat (Va.dflt T_count_Use)).2).2).1))),(IntKind.i64.wrap (i+(1:Int))),s_,())
            )
          )
        )
      )
    ) (
    J3 n (sum,s_,())
    ):=(hideF_eq _).trans (by kernel_rfl)
theorem e3 (n:Nat)(sum:Int)(s_:D_api_State):J3 n (sum,s_,()) =
  bnd (F_count_Bytes.f n s_) λu1=>
  some ((hide (u1.1==sum)),()):=(hideF_eq _).trans (by kernel_rfl)
theorem phi (n:Nat):∀ e∈(X n).c.Φ,EntryOk Tryz.prog e:=allE_cons (mkEntry_ok (F_count_Uses.ok n)) (allE_cons (mkEntry_ok (F_ref16_Uses.ok n)) (allE_cons (mkEntry_ok (F_law16_awake.ok)) (allE_cons (mkEntry_ok (F_count_Bytes.ok n)) (allE_nil))))
theorem ok (n:Nat):FnOk Tryz.prog 4 ia io (fRun (X n) n T Tryz.f4 ia io):=tree_ok mixed tabIs (phi n) Tryz.func4 (by kernel_rfl) rfl
noncomputable def en (n:Nat):Entry:=mkEntry 4 ia io (fRun (X n) n T Tryz.f4 ia io)
end F_law16_CountUses
end Go.Proofs.YtemhlkdingkjnaaGreatDoor
