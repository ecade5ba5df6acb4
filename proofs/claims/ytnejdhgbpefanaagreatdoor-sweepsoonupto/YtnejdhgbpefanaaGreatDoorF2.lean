/-
  What the functions compute, by the abstract interpreter.
-/
import Derived.Test.YtnejdhgbpefanaaGreatDoorF0
import Derived.Test.YtnejdhgbpefanaaGreatDoorF1
set_option linter.unusedVariables false
set_option linter.unusedSimpArgs false
namespace Go.Proofs.YtnejdhgbpefanaaGreatDoor
open Go Go.Va Go.Proofs
namespace F_ref22_erased
abbrev ia:List Ai:=[.dat (.slice T_api_Rule),.dat T_api_Object,.dat (.int .i64),.dat (.int .i64)]
abbrev io:List (Nat×Oi):=[(8,.dat .bool)]
abbrev R:Type:=DOut ia io
noncomputable def X (n:Nat):Ctx:=⟨⟨tab,[F_ref22_Meant.en n,F_ref12_Held.en n],0,[]⟩,84,bnOf 0 ia⟩
abbrev g1:List Si:=[.dat 0 (.slice T_api_Rule),.dat 2 (.int .i64),.dat 3 (.int .i64),.ref 5 5 T_api_Object,.ref 9 9 T_api_Version,.dat 10 (.int .i64),.box 5 (.d T_api_Object),.box 9 (.d T_api_Version)]
abbrev g2:List Si:=[.dat 0 (.slice T_api_Rule),.dat 2 (.int .i64),.dat 3 (.int .i64),.ref 5 5 T_api_Object,.ref 9 9 T_api_Version,.dat 10 (.int .i64),.box 5 (.d T_api_Object),.box 9 (.d T_api_Version)]
abbrev g3:List Si:=[.dat 0 (.slice T_api_Rule),.dat 2 (.int .i64),.dat 3 (.int .i64),.ref 5 5 T_api_Object,.ref 9 9 T_api_Version,.dat 10 (.int .i64),.box 5 (.d T_api_Object),.box 9 (.d T_api_Version)]
abbrev g4:List Si:=[]
noncomputable def T:CT:=(.s .o (.s .o (.s .o (.s (.s .o (.b (.l g1 (.s .o (.s (.b (.s .o (.s .o (.r g2 .o)))) (.r g3 .o)))))) (.r g4 .o)))))
noncomputable def J1 (n:Nat)(m:Nat):(List (D_api_Rule))×Int×Int×Int×D_api_Object×D_api_Version×Unit→Option R:=jL (X n) n T (bodyOf Tryz.f77) (endK ia io) g1 [1,1,1,0,1,0] [] m
noncomputable def J2 (n m1:Nat):(List (D_api_Rule))×Int×Int×Int×D_api_Object×D_api_Version×Unit→Option R:=jR (X n) n T (bodyOf Tryz.f77) (endK ia io) g2 [1,1,1,0,1,0,0,1,0,0,1,1] [m1]
noncomputable def J3 (n m1:Nat):(List (D_api_Rule))×Int×Int×Int×D_api_Object×D_api_Version×Unit→Option R:=jR (X n) n T (bodyOf Tryz.f77) (endK ia io) g3 [1,1,1,0,1,0,0,1,1] [m1]
noncomputable def J4 (n:Nat):Unit→Option R:=jR (X n) n T (bodyOf Tryz.f77) (endK ia io) g4 [1,1,1,1] []
noncomputable def f (n:Nat)(l:List (D_api_Rule))(o:D_api_Object)(n_:Int)(t:Int):Option R:=fRun (X n) n T Tryz.f77 ia io (l,o,n_,t,())
theorem e0 (n:Nat)(l:List (D_api_Rule))(o:D_api_Object)(n_:Int)(t:Int):f n l o n_ t =
  gIf (0≤n_∧n_<((o.2.1.length:Nat):Int)) (
    bnd (F_ref12_Held.f n ((((((((List.getD o.2.1 n_.toNat (Va.dflt T_api_Version)).2).2).2).2).2).2).1) t) λu1=>
    bIf (u1.1) (
      some (false,())
      ) (
      J1 n n (l,n_,t,0,o,(List.getD o.2.1 n_.toNat (Va.dflt T_api_Version)),())
      )
    ):=(hideF_eq _).trans (by kernel_rfl)
theorem e1 (n m : Nat) (l:List (D_api_Rule)) (n_:Int) (t:Int) (i:Int) (o:D_api_Object) (v_:D_api_Version):J1 n (m+1) (l,n_,t,i,o,v_,()) =
  bIf ((hide (decide (i<((l.length:Nat):Int))))) (
    gIf (0≤i∧i<((l.length:Nat):Int)) (
      bnd (F_ref22_Meant.f n (List.getD l i.toNat (Va.dflt T_api_Rule)) o) λu1=>
      bIf ((!u1.1)) (
        J3 n m (l,n_,t,i,o,v_,())
        ) (
        bIf ((hide (decide (n_<(IntKind.i64.wrap (((o.2.1.length:Nat):Int)-(1:Int))))))) (
          gIf (0≤i∧i<((l.length:Nat):Int)) (
            bIf ((hide (decide ((((((List.getD l i.toNat (Va.dflt T_api_Rule)).2).2).2).1)>(0:Int))))) (
              gIf (0≤(IntKind.i64.wrap (n_+(1:Int)))∧(IntKind.i64.wrap (n_+(1:Int)))<((o.2.1.length:Nat):Int)) (
                gIf (0≤i∧i<((l.length:Nat):Int)) (
                  bIf ((hide (decide (t≥(IntKind.i64.wrap ((((((((List.getD o.2.1 ((IntKind.i64.wrap (n_+(1:Int))).toNat) (Va.dflt T_api_Version)).2).2).2).2).2).1)+(IntKind.i64.wrap ((((((List.getD l i.toNat (Va.dflt T_api_Rule)).2).2).2).1)*(86400:Int))))))))) (
                    some (true,())
                    ) (
                    J2 n m (l,n_,t,i,o,v_,())
                    )
                  )
                )
              ) (
              J2 n m (l,n_,t,i,o,v_,())
              )
            )
          ) (
          J2 n m (l,n_,t,i,o,v_,())
          )
        )
      )
    ) (
    J4 n (())
    ):=(hideF_eq _).trans (by kernel_rfl)
theorem e2 (n m1:Nat) (l:List (D_api_Rule)) (n_:Int) (t:Int) (i:Int) (o:D_api_Object) (v_:D_api_Version):J2 n m1 (l,n_,t,i,o,v_,()) =
  bIf ((hide (((o.2.1.length:Nat):Int)==(1:Int)))) (
    bIf (v_.2.1) (
      gIf (0≤i∧i<((l.length:Nat):Int)) (
        bIf ((((((List.getD l i.toNat (Va.dflt T_api_Rule)).2).2).2).2).1) (
          bIf ((hide (decide (t≥(-62135596800:Int))))) (
            some (true,())
            ) (
            J3 n m1 (l,n_,t,i,o,v_,())
            )
          ) (
          J3 n m1 (l,n_,t,i,o,v_,())
          )
        )
      ) (
      J3 n m1 (l,n_,t,i,o,v_,())
      )
    ) (
    J3 n m1 (l,n_,t,i,o,v_,())
    ):=(hideF_eq _).trans (by kernel_rfl)
theorem e3 (n m1:Nat)(l:List (D_api_Rule))(n_:Int)(t:Int)(i:Int)(o:D_api_Object)(v_:D_api_Version):J3 n m1 (l,n_,t,i,o,v_,()) =
  J1 n m1 (l,n_,t,(IntKind.i64.wrap (i+(1:Int))),o,v_,()):=(hideF_eq _).trans (by kernel_rfl)
theorem e4 (n:Nat):J4 n (()) =
  some (false,()):=(hideF_eq _).trans (by kernel_rfl)
theorem phi (n:Nat):∀ e∈(X n).c.Φ,EntryOk Tryz.prog e:=allE_cons (mkEntry_ok (F_ref22_Meant.ok n)) (allE_cons (mkEntry_ok (F_ref12_Held.ok n)) (allE_nil))
theorem ok (n:Nat):FnOk Tryz.prog 77 ia io (fRun (X n) n T Tryz.f77 ia io):=tree_ok mixed tabIs (phi n) Tryz.func77 (by kernel_rfl) rfl
noncomputable def en (n:Nat):Entry:=mkEntry 77 ia io (fRun (X n) n T Tryz.f77 ia io)
end F_ref22_erased
end Go.Proofs.YtnejdhgbpefanaaGreatDoor
namespace Go.Proofs.YtnejdhgbpefanaaGreatDoor
open Go Go.Va Go.Proofs
namespace F_ref22_Due
abbrev ia:List Ai:=[.dat (.slice T_api_Rule),.dat T_api_Object,.dat (.int .i64)]
abbrev io:List (Nat×Oi):=[(6,.dat (.int .u64)),(7,.dat .bool),(8,.dat (.int .i64))]
abbrev R:Type:=DOut ia io
noncomputable def X (n:Nat):Ctx:=⟨⟨tab,[F_ref14_Rules.en n,F_ref13_Sound.en n,F_ref22_erased.en n,F_ref22_Meant.en n],0,[]⟩,84,bnOf 0 ia⟩
abbrev g1:List Si:=[.dat 0 (.slice T_api_Rule),.dat 2 (.int .i64),.ref 4 4 T_api_Object,.dat 19 .bool,.box 4 (.d T_api_Object)]
abbrev g2:List Si:=[.dat 0 (.slice T_api_Rule),.dat 2 (.int .i64),.ref 4 4 T_api_Object,.box 4 (.d T_api_Object)]
abbrev g3:List Si:=[.dat 0 (.slice T_api_Rule),.dat 2 (.int .i64),.ref 4 4 T_api_Object,.dat 9 (.int .i64),.box 4 (.d T_api_Object)]
abbrev g4:List Si:=[.dat 0 (.slice T_api_Rule),.dat 2 (.int .i64),.ref 4 4 T_api_Object,.box 4 (.d T_api_Object)]
abbrev g5:List Si:=[.dat 0 (.slice T_api_Rule),.dat 2 (.int .i64),.ref 4 4 T_api_Object,.ref 10 10 T_api_Version,.dat 11 (.int .i64),.box 4 (.d T_api_Object),.box 10 (.d T_api_Version)]
abbrev g6:List Si:=[.dat 0 (.slice T_api_Rule),.dat 2 (.int .i64),.ref 4 4 T_api_Object,.ref 10 10 T_api_Version,.dat 11 (.int .i64),.dat 83 .bool,.box 4 (.d T_api_Object),.box 10 (.d T_api_Version)]
abbrev g7:List Si:=[.dat 0 (.slice T_api_Rule),.dat 2 (.int .i64),.ref 4 4 T_api_Object,.ref 10 10 T_api_Version,.dat 11 (.int .i64),.box 4 (.d T_api_Object),.box 10 (.d T_api_Version)]
abbrev g8:List Si:=[]
noncomputable def T:CT:=(.s .o (.s (.s .o (.r g1 .o)) (.r g2 (.s (.s .o (.b (.l g3 .o))) (.r g4 (.s .o (.s (.s .o (.b (.l g5 (.s .o (.s (.b (.s .o (.r g6 .o))) (.r g7 .o)))))) (.r g8 .o))))))))
noncomputable def J1 (n:Nat):(List (D_api_Rule))×Int×Bool×D_api_Object×Unit→Option R:=jR (X n) n T (bodyOf Tryz.f29) (endK ia io) g1 [1,0,1] []
noncomputable def J2 (n:Nat):(List (D_api_Rule))×Int×D_api_Object×Unit→Option R:=jR (X n) n T (bodyOf Tryz.f29) (endK ia io) g2 [1,1] []
noncomputable def J3 (n:Nat)(m:Nat):(List (D_api_Rule))×Int×Int×D_api_Object×Unit→Option R:=jL (X n) n T (bodyOf Tryz.f29) (endK ia io) g3 [1,1,0,1,0] [] m
noncomputable def J4 (n:Nat):(List (D_api_Rule))×Int×D_api_Object×Unit→Option R:=jR (X n) n T (bodyOf Tryz.f29) (endK ia io) g4 [1,1,1] []
noncomputable def J5 (n:Nat)(m:Nat):(List (D_api_Rule))×Int×Int×D_api_Object×D_api_Version×Unit→Option R:=jL (X n) n T (bodyOf Tryz.f29) (endK ia io) g5 [1,1,1,1,0,1,0] [] m
noncomputable def J6 (n m5:Nat):(List (D_api_Rule))×Int×Int×Bool×D_api_Object×D_api_Version×Unit→Option R:=jR (X n) n T (bodyOf Tryz.f29) (endK ia io) g6 [1,1,1,1,0,1,0,0,1,0,0,1] [m5]
noncomputable def J7 (n m5:Nat):(List (D_api_Rule))×Int×Int×D_api_Object×D_api_Version×Unit→Option R:=jR (X n) n T (bodyOf Tryz.f29) (endK ia io) g7 [1,1,1,1,0,1,0,0,1,1] [m5]
noncomputable def J8 (n:Nat):Unit→Option R:=jR (X n) n T (bodyOf Tryz.f29) (endK ia io) g8 [1,1,1,1,1] []
noncomputable def f (n:Nat)(l:List (D_api_Rule))(o:D_api_Object)(t:Int):Option R:=fRun (X n) n T Tryz.f29 ia io (l,o,t,())
theorem e0 (n:Nat)(l:List (D_api_Rule))(o:D_api_Object)(t:Int):f n l o t =
  bnd (F_ref14_Rules.f n l) λu1=>
  bIf ((!u1.1)) (
    J1 n (l,t,true,o,())
    ) (
    bnd (F_ref13_Sound.f n o) λu2=>
    J1 n (l,t,(!u2.1),o,())
    ):=(hideF_eq _).trans (by kernel_rfl)
theorem e1 (n:Nat)(l:List (D_api_Rule))(t:Int)(t19:Bool)(o:D_api_Object):J1 n (l,t,t19,o,()) =
  bIf (t19) (
    some (0,false,2,())
    ) (
    J2 n (l,t,o,())
    ):=(hideF_eq _).trans (by kernel_rfl)
theorem e2 (n:Nat)(l:List (D_api_Rule))(t:Int)(o:D_api_Object):J2 n (l,t,o,()) =
  J3 n n (l,t,0,o,()):=(hideF_eq _).trans (by kernel_rfl)
theorem e3 (n m:Nat) (l:List (D_api_Rule)) (t:Int) (n_:Int) (o:D_api_Object):J3 n (m+1) (l,t,n_,o,()) =
  bIf ((hide (decide (n_<((o.2.1.length:Nat):Int))))) (
    bnd (F_ref22_erased.f n l o n_ t) λu1=>
    bIf (u1.1) (
      gIf (0≤n_∧n_<((o.2.1.length:Nat):Int)) (
        some ((List.getD o.2.1 n_.toNat (Va.dflt T_api_Version)).1,false,0,())
        )
      ) (
      J3 n m (l,t,(IntKind.i64.wrap (n_+(1:Int))),o,())
      )
    ) (
    J4 n (l,t,o,())
    ):=(hideF_eq _).trans (by kernel_rfl)
theorem e4 (n:Nat)(l:List (D_api_Rule))(t:Int)(o:D_api_Object):J4 n (l,t,o,()) =
  gIf (0≤(IntKind.i64.wrap (((o.2.1.length:Nat):Int)-(1:Int)))∧(IntKind.i64.wrap (((o.2.1.length:Nat):Int)-(1:Int)))<((o.2.1.length:Nat):Int)) (
    J5 n n (l,t,0,o,(List.getD o.2.1 ((IntKind.i64.wrap (((o.2.1.length:Nat):Int)-(1:Int))).toNat) (Va.dflt T_api_Version)),())
    ):=(hideF_eq _).trans (by kernel_rfl)
theorem e5 (n m : Nat) (l:List (D_api_Rule)) (t:Int) (i:Int) (o:D_api_Object) (v_:D_api_Version):J5 n (m+1) (l,t,i,o,v_,()) =
  bIf ((hide (decide (i<((l.length:Nat):Int))))) (
    gIf (0≤i∧i<((l.length:Nat):Int)) (
      bnd (F_ref22_Meant.f n (List.getD l i.toNat (Va.dflt T_api_Rule)) o) λu1=>
      bIf (u1.1) (
        gIf (0≤i∧i<((l.length:Nat):Int)) (
          bIf ((hide (decide (((((List.getD l i.toNat (Va.dflt T_api_Rule)).2).2).1)>(0:Int))))) (
            bIf ((!v_.2.1)) (
              gIf (0≤i∧i<((l.length:Nat):Int)) (
                J6 n m (l,t,i,(hide (decide (t≥(IntKind.i64.wrap (v_.2.2.2.2.2.1+(IntKind.i64.wrap (((((List.getD l i.toNat (Va.dflt T_api_Rule)).2).2).1)*(86400:Int)))))))),o,v_,())
                )
              ) (
              J6 n m (l,t,i,false,o,v_,())
              )
            ) (
            J6 n m (l,t,i,false,o,v_,())
            )
          )
        ) (
        J6 n m (l,t,i,false,o,v_,())
        )
      )
    ) (
    J8 n (())
    ):=(hideF_eq _).trans (by kernel_rfl)
theorem e6 (n m5:Nat)(l:List (D_api_Rule))(t:Int)(i:Int)(t83:Bool)(o:D_api_Object)(v_:D_api_Version):J6 n m5 (l,t,i,t83,o,v_,()) =
  bIf (t83) (
    some (0,true,0,())
    ) (
    J7 n m5 (l,t,i,o,v_,())
    ):=(hideF_eq _).trans (by kernel_rfl)
theorem e7 (n m5:Nat)(l:List (D_api_Rule))(t:Int)(i:Int)(o:D_api_Object)(v_:D_api_Version):J7 n m5 (l,t,i,o,v_,()) =
  J5 n m5 (l,t,(IntKind.i64.wrap (i+(1:Int))),o,v_,()):=(hideF_eq _).trans (by kernel_rfl)
theorem e8 (n:Nat):J8 n (()) =
  some (0,false,0,()):=(hideF_eq _).trans (by kernel_rfl)
theorem phi (n:Nat):∀ e∈(X n).c.Φ,EntryOk Tryz.prog e:=allE_cons (mkEntry_ok (F_ref14_Rules.ok n)) (allE_cons (mkEntry_ok (F_ref13_Sound.ok n)) (allE_cons (mkEntry_ok (F_ref22_erased.ok n)) (allE_cons (mkEntry_ok (F_ref22_Meant.ok n)) (allE_nil))))
theorem ok (n:Nat):FnOk Tryz.prog 29 ia io (fRun (X n) n T Tryz.f29 ia io):=tree_ok mixed tabIs (phi n) Tryz.func29 (by kernel_rfl) rfl
noncomputable def en (n:Nat):Entry:=mkEntry 29 ia io (fRun (X n) n T Tryz.f29 ia io)
end F_ref22_Due
end Go.Proofs.YtnejdhgbpefanaaGreatDoor
namespace Go.Proofs.YtnejdhgbpefanaaGreatDoor
open Go Go.Va Go.Proofs
namespace F_law25_awake
abbrev ia:List Ai:=[]
abbrev io:List (Nat×Oi):=[(0,.dat .bool)]
noncomputable def f:Option (DOut ia io):=some (true,())
theorem ok:FnOk Tryz.prog 26 ia io (λ_=>f):=by
  refine leaf_ok ⟨Tryz.f26,Tryz.func26,by kernel_rfl,by kernel_rfl⟩ rfl (λ_=>rfl) (λ_=>rfl) (λv u h E w vals hgl hc => ?_)
  have hc:vals=[]:=hc
  subst hc
  unfold f at h
  injection h with h
  subst h
  refine (Aw25.runs w).mono ?_
  rintro en w' ⟨rfl,hb⟩
  exact⟨_,rfl,hb,λE=>V_bool.2 rfl⟩
noncomputable def en:Entry:=mkEntry 26 ia io (λ_=>f)
end F_law25_awake
end Go.Proofs.YtnejdhgbpefanaaGreatDoor
namespace Go.Proofs.YtnejdhgbpefanaaGreatDoor
open Go Go.Va Go.Proofs
namespace F_law25_SweepSoon
abbrev ia:List Ai:=[.dat T_api_State]
abbrev io:List (Nat×Oi):=[(2,.dat .bool)]
abbrev R:Type:=DOut ia io
noncomputable def X (n:Nat):Ctx:=⟨⟨tab,[F_ref15_Sound.en n,F_law25_awake.en,F_sweep_Soon.en n,F_ref22_Due.en n],0,[]⟩,140,bnOf 0 ia⟩
abbrev g1:List Si:=[.ref 1 1 T_api_State,.dat 3 (.int .i64),.dat 4 .bool,.dat 5 (.int .i64),.dat 6 .bool,.dat 7 (.int .i64),.box 1 (.d T_api_State)]
abbrev g2:List Si:=[.ref 1 1 T_api_State,.dat 3 (.int .i64),.dat 4 .bool,.dat 5 (.int .i64),.dat 6 .bool,.dat 7 (.int .i64),.dat 8 (.int .i64),.box 1 (.d T_api_State)]
abbrev g3:List Si:=[.ref 1 1 T_api_State,.dat 3 (.int .i64),.dat 4 .bool,.dat 5 (.int .i64),.dat 7 (.int .i64),.dat 8 (.int .i64),.ref 9 9 T_api_Object,.box 1 (.d T_api_State),.box 9 (.d T_api_Object)]
abbrev g4:List Si:=[.ref 1 1 T_api_State,.dat 3 (.int .i64),.dat 4 .bool,.dat 5 (.int .i64),.dat 6 .bool,.dat 7 (.int .i64),.dat 8 (.int .i64),.ref 9 9 T_api_Object,.dat 93 .bool,.box 1 (.d T_api_State),.box 9 (.d T_api_Object)]
abbrev g5:List Si:=[.ref 1 1 T_api_State,.dat 3 (.int .i64),.dat 4 .bool,.dat 5 (.int .i64),.dat 6 .bool,.dat 7 (.int .i64),.dat 8 (.int .i64),.ref 9 9 T_api_Object,.box 1 (.d T_api_State),.box 9 (.d T_api_Object)]
abbrev g6:List Si:=[.ref 1 1 T_api_State,.dat 3 (.int .i64),.dat 4 .bool,.dat 5 (.int .i64),.dat 6 .bool,.dat 7 (.int .i64),.dat 8 (.int .i64),.box 1 (.d T_api_State)]
abbrev g7:List Si:=[.ref 1 1 T_api_State,.dat 3 (.int .i64),.dat 4 .bool,.dat 5 (.int .i64),.dat 6 .bool,.dat 7 (.int .i64),.box 1 (.d T_api_State)]
abbrev g8:List Si:=[.dat 3 (.int .i64),.dat 4 .bool,.dat 5 (.int .i64),.dat 6 .bool]
noncomputable def T:CT:=(.s .o (.s .o (.s .o (.s .o (.s (.s .o (.b (.l g1 (.s .o (.s (.b (.s .o (.b (.l g2 (.s .o (.s (.b (.s .o (.s .o (.s .o (.r g3 (.s .o (.s .o (.c (.s .o (.s (.s .o (.r g4 .o)) (.r g5 .o))) .o)))))))) (.r g6 .o))))))) (.r g7 .o)))))) (.r g8 .o))))))
noncomputable def J1 (n:Nat)(m:Nat):Int×Bool×Int×Bool×Int×D_api_State×Unit→Option R:=jL (X n) n T (bodyOf Tryz.f7) (endK ia io) g1 [1,1,1,1,0,1,0] [] m
noncomputable def J2 (n m1:Nat)(m:Nat):Int×Bool×Int×Bool×Int×Int×D_api_State×Unit→Option R:=jL (X n) n T (bodyOf Tryz.f7) (endK ia io) g2 [1,1,1,1,0,1,0,0,1,0,0,1,0] [m1] m
noncomputable def J3 (n m1 m2:Nat):Int×Bool×Int×Int×Int×D_api_State×D_api_Object×Unit→Option R:=jR (X n) n T (bodyOf Tryz.f7) (endK ia io) g3 [1,1,1,1,0,1,0,0,1,0,0,1,0,0,1,0,0,1,1,1] [m1,m2]
noncomputable def J4 (n m1 m2:Nat):Int×Bool×Int×Bool×Int×Int×Bool×D_api_State×D_api_Object×Unit→Option R:=jR (X n) n T (bodyOf Tryz.f7) (endK ia io) g4 [1,1,1,1,0,1,0,0,1,0,0,1,0,0,1,0,0,1,1,1,1,1,0,1,0,1] [m1,m2]
noncomputable def J5 (n m1 m2:Nat):Int×Bool×Int×Bool×Int×Int×D_api_State×D_api_Object×Unit→Option R:=jR (X n) n T (bodyOf Tryz.f7) (endK ia io) g5 [1,1,1,1,0,1,0,0,1,0,0,1,0,0,1,0,0,1,1,1,1,1,0,1,1] [m1,m2]
noncomputable def J6 (n m1 m2:Nat):Int×Bool×Int×Bool×Int×Int×D_api_State×Unit→Option R:=jR (X n) n T (bodyOf Tryz.f7) (endK ia io) g6 [1,1,1,1,0,1,0,0,1,0,0,1,0,0,1,1] [m1,m2]
noncomputable def J7 (n m1:Nat):Int×Bool×Int×Bool×Int×D_api_State×Unit→Option R:=jR (X n) n T (bodyOf Tryz.f7) (endK ia io) g7 [1,1,1,1,0,1,0,0,1,1] [m1]
noncomputable def J8 (n:Nat):Int×Bool×Int×Bool×Unit→Option R:=jR (X n) n T (bodyOf Tryz.f7) (endK ia io) g8 [1,1,1,1,1] []
noncomputable def f (n:Nat)(t:D_api_State):Option R:=fRun (X n) n T Tryz.f7 ia io (t,())
theorem e0 (n:Nat) (t:D_api_State):f n t =
  bnd (F_sweep_Soon.f n t) λu1=>
  bnd (F_ref15_Sound.f n t) λu2=>
  bIf ((!u2.1)) (
    bnd (F_law25_awake.f) λu3=>
    bIf (u3.1) (
      bIf ((!u1.2.1)) (
        some ((hide (u1.1==(0:Int))),())
        ) (
        some (false,())
        )
      ) (
      some (false,())
      )
    ) (
    J1 n n (u1.1,u1.2.1,0,false,0,t,())
    ):=(hideF_eq _).trans (by kernel_rfl)
theorem e1 (n m:Nat)(r:Int)(r':Bool)(a:Int)(y_:Bool)(t7:Int)(o:D_api_State):J1 n (m+1) (r,r',a,y_,t7,o,()) =
  bIf ((hide (decide (t7<((o.2.2.2.1.length:Nat):Int))))) (
    J2 n m n (r,r',a,y_,t7,0,o,())
    ) (
    J8 n (r,r',a,y_,())
    ):=(hideF_eq _).trans (by kernel_rfl)
theorem e2 (n m1 m:Nat) (r:Int) (r':Bool) (a:Int) (y_:Bool) (t7:Int) (t8:Int) (o:D_api_State):J2 n m1 (m+1) (r,r',a,y_,t7,t8,o,()) =
  gIf (0 ≤ t7 ∧ t7<((o.2.2.2.1.length:Nat):Int)) (
    bIf ((hide (decide (t8<((((((((List.getD o.2.2.2.1 t7.toNat (Va.dflt T_api_Bucket)).2).2).2).2).1).length:Nat):Int))))) (
      gIf (0≤t7∧t7<((o.2.2.2.1.length:Nat):Int)) (
        gIf (0≤t8∧t8<((((((((List.getD o.2.2.2.1 t7.toNat (Va.dflt T_api_Bucket)).2).2).2).2).1).length:Nat):Int)) (
          gIf (0≤t7∧t7<((o.2.2.2.1.length:Nat):Int)) (
            bnd (F_ref22_Due.f n ((((List.getD o.2.2.2.1 t7.toNat (Va.dflt T_api_Bucket)).2).2).1) (List.getD ((((((List.getD o.2.2.2.1 t7.toNat (Va.dflt T_api_Bucket)).2).2).2).2).1) t8.toNat (Va.dflt T_api_Object)) 253402300799) λu1=>
            bIf ((hide (u1.1==(0:Int)))) (
              bIf ((!u1.2.1)) (
                J6 n m1 m (r,r',a,y_,t7,t8,o,())
                ) (
                J3 n m1 m (r,r',a,t7,t8,o,(List.getD ((((((List.getD o.2.2.2.1 t7.toNat (Va.dflt T_api_Bucket)).2).2).2).2).1) t8.toNat (Va.dflt T_api_Object)),())
                )
              ) (
              J3 n m1 m (r,r',a,t7,t8,o,(List.getD ((((((List.getD o.2.2.2.1 t7.toNat (Va.dflt T_api_Bucket)).2).2).2).2).1) t8.toNat (Va.dflt T_api_Object)),())
              )
            )
          )
        )
      ) (
      J7 n m1 (r,r',a,y_,t7,o,())
      )
    ):=(hideF_eq _).trans (by kernel_rfl)
theorem e3 (n m1 m2:Nat) (r:Int) (r':Bool) (a:Int) (t7:Int) (t8:Int) (o:D_api_State) (b9:D_api_Object):J3 n m1 m2 (r,r',a,t7,t8,o,b9,()) =
  bIf (r') (
    gIf (0≤t7∧t7<((o.2.2.2.1.length:Nat):Int)) (
      bnd (F_ref22_Due.f n ((((List.getD o.2.2.2.1 t7.toNat (Va.dflt T_api_Bucket)).2).2).1) b9 r) λu1=>
      bIf ((hide (u1.1 != (0:Int)))) (
        J4 n m1 m2 (r,r',a,true,t7,t8,true,o,b9,())
        ) (
        J4 n m1 m2 (r,r',a,true,t7,t8,u1.2.1,o,b9,())
        )
      )
    ) (
    J6 n m1 m2 (r,r',a,true,t7,t8,o,())
    ):=(hideF_eq _).trans (by kernel_rfl)
theorem e4 (n m1 m2:Nat)(r:Int)(r':Bool)(a:Int)(y_:Bool)(t7:Int)(t8:Int)(t93:Bool)(o:D_api_State)(b9:D_api_Object):J4 n m1 m2 (r,r',a,y_,t7,t8,t93,o,b9,()) =
  bIf (t93) (
    J5 n m1 m2 (r,r',(IntKind.i64.wrap (a+(1:Int))),y_,t7,t8,o,b9,())
    ) (
    J5 n m1 m2 (r,r',a,y_,t7,t8,o,b9,())
    ):=(hideF_eq _).trans (by kernel_rfl)
theorem e5 (n m1 m2:Nat) (r:Int) (r':Bool) (a:Int) (y_:Bool) (t7:Int) (t8:Int) (o:D_api_State) (b9:D_api_Object):J5 n m1 m2 (r,r',a,y_,t7,t8,o,b9,()) =
  gIf (0≤t7∧t7<((o.2.2.2.1.length:Nat):Int)) (
    bnd (F_ref22_Due.f n ((((List.getD o.2.2.2.1 t7.toNat (Va.dflt T_api_Bucket)).2).2).1) b9 (IntKind.i64.wrap (r-(1:Int)))) λu1=>
    bIf ((hide (decide (r>(-62135596800:Int))))) (
      bIf ((hide (u1.1 != (0:Int)))) (
        some (false,())
        ) (
        bIf (u1.2.1) (
          some (false,())
          ) (
          J6 n m1 m2 (r,r',a,y_,t7,t8,o,())
          )
        )
      ) (
      J6 n m1 m2 (r,r',a,y_,t7,t8,o,())
      )
    ):=(hideF_eq _).trans (by kernel_rfl)
theorem e6 (n m1 m2:Nat)(r:Int)(r':Bool)(a:Int)(y_:Bool)(t7:Int)(t8:Int)(o:D_api_State):J6 n m1 m2 (r,r',a,y_,t7,t8,o,()) =
  J2 n m1 m2 (r,r',a,y_,t7,(IntKind.i64.wrap (t8+(1:Int))),o,()):=(hideF_eq _).trans (by kernel_rfl)
theorem e7 (n m1:Nat)(r:Int)(r':Bool)(a:Int)(y_:Bool)(t7:Int)(o:D_api_State):J7 n m1 (r,r',a,y_,t7,o,()) =
  J1 n m1 (r,r',a,y_,(IntKind.i64.wrap (t7+(1:Int))),o,()):=(hideF_eq _).trans (by kernel_rfl)
theorem e8 (n:Nat) (r:Int) (r':Bool) (a:Int) (y_:Bool):J8 n (r,r',a,y_,()) =
  bnd (F_law25_awake.f) λu1=>
  bIf (u1.1) (
    bIf ((hide (r'==y_))) (
      bIf (r') (
        bIf ((hide (decide (a>(0:Int))))) (
          some (true,())
          ) (
          bIf ((!r')) (
            some ((hide (r==(0:Int))),())
            ) (
            some (false,())
            )
          )
        ) (
        bIf ((!r')) (
          some ((hide (r==(0:Int))),())
          ) (
          some (false,())
          )
        )
      ) (
      some (false,())
      )
    ) (
    some (false,())
    ):=(hideF_eq _).trans (by kernel_rfl)
theorem phi (n:Nat):∀ e∈(X n).c.Φ,EntryOk Tryz.prog e:=allE_cons (mkEntry_ok (F_ref15_Sound.ok n)) (allE_cons (mkEntry_ok (F_law25_awake.ok)) (allE_cons (mkEntry_ok (F_sweep_Soon.ok n)) (allE_cons (mkEntry_ok (F_ref22_Due.ok n)) (allE_nil))))
theorem ok (n:Nat):FnOk Tryz.prog 7 ia io (fRun (X n) n T Tryz.f7 ia io):=tree_ok mixed tabIs (phi n) Tryz.func7 (by kernel_rfl) rfl
noncomputable def en (n:Nat):Entry:=mkEntry 7 ia io (fRun (X n) n T Tryz.f7 ia io)
end F_law25_SweepSoon
end Go.Proofs.YtnejdhgbpefanaaGreatDoor
