/-
  What the functions compute, by the abstract interpreter.
-/
import Derived.Test.YtcpkhpboemfglaaGreatDoorF0
set_option linter.unusedVariables false
set_option linter.unusedSimpArgs false
namespace Go.Proofs.YtcpkhpboemfglaaGreatDoor
open Go Go.Va Go.Proofs
namespace yd1
abbrev ia:List Ai:=[.dat yas,.dat yas]
abbrev io:List (Nat×Oi):=[(4,.dat .bool)]
abbrev R:Type:=DOut ia io
noncomputable def X (n:Nat):Ctx:=⟨⟨tab,[ycS.en n,ydb.en n,ybL.en n,ybq.en n,ybu.en n],0,[]⟩,132,bnOf 0 ia⟩
abbrev g1:List Si:=[.ref 2 2 yas,.ref 3 3 yas,.box 2 (.d yas),.box 3 (.d yas)]
abbrev g2:List Si:=[.ref 2 2 yas,.ref 3 3 yas,.box 2 (.d yas),.box 3 (.d yas)]
noncomputable def T:CT:=(.s .o (.s .o (.r g1 (.s .o (.r g2 .o)))))
noncomputable def J1 (n:Nat):yao×yao×Unit→Option R:=jR (X n) n T (yaX Tryz.f32) (endK ia io) g1 [1,1] []
noncomputable def J2 (n:Nat):yao×yao×Unit→Option R:=jR (X n) n T (yaX Tryz.f32) (endK ia io) g2 [1,1,1] []
noncomputable def f (n:Nat)(t:yao)(o:yao):Option R:=fRun (X n) n T Tryz.f32 ia io (t,o,())
theorem e0 (n : Nat) (t:yao) (o:yao):f n t o =
  bIf ((hide (t.1 != o.1))) (
    some (false,())
    ) (
    bIf ((hide (!eqS t.2.1 o.2.1))) (
      some (false,())
      ) (
      bIf ((hide (!eqS t.2.2.1 o.2.2.1))) (
        some (false,())
        ) (
        bIf ((hide (!eqS t.2.2.2.1 o.2.2.2.1))) (
          some (false,())
          ) (
          bIf ((hide (t.2.2.2.2.1 != o.2.2.2.2.1))) (
            some (false,())
            ) (
            bIf ((hide (!(eqD yaT t.2.2.2.2.2.2.2.1 o.2.2.2.2.2.2.2.1)))) (
              some (false,())
              ) (
              bIf ((hide (!(t.2.2.2.2.2.2.2.2.1==o.2.2.2.2.2.2.2.2.1)))) (
                some (false,())
                ) (
                bIf ((hide (!(eqD yaC t.2.2.2.2.2.2.2.2.2.1 o.2.2.2.2.2.2.2.2.2.1)))) (
                  some (false,())
                  ) (
                  J1 n (t,o,())
                  )
                )
              )
            )
          )
        )
      )
    ):=(yaj _).trans (by kernel_rfl)
theorem e1 (n : Nat) (A:yao) (r:yao):J1 n (A,r,()) =
  bIf ((hide (A.2.2.2.2.2.2.2.2.2.2.2.2.1 != r.2.2.2.2.2.2.2.2.2.2.2.2.1))) (
    some (false,())
    ) (
    bIf ((hide (!eqS A.2.2.2.2.2.2.2.2.2.2.2.2.2.2.1 r.2.2.2.2.2.2.2.2.2.2.2.2.2.2.1))) (
      some (false,())
      ) (
      bIf ((hide (!eqS A.2.2.2.2.2.2.2.2.2.2.2.2.2.2.2.1 r.2.2.2.2.2.2.2.2.2.2.2.2.2.2.2.1))) (
        some (false,())
        ) (
        bIf ((hide (!eqS A.2.2.2.2.2.2.2.2.2.2.2.2.2.2.2.2.1 r.2.2.2.2.2.2.2.2.2.2.2.2.2.2.2.2.1))) (
          some (false,())
          ) (
          bIf ((hide (!(eqD ya1 A.2.2.2.2.2.2.2.2.2.2.2.2.2.2.2.2.2.1 r.2.2.2.2.2.2.2.2.2.2.2.2.2.2.2.2.2.1)))) (
            some (false,())
            ) (
            bIf ((hide (A.2.2.2.2.2.2.2.2.2.2.2.2.2.2.2.2.2.2.1 != r.2.2.2.2.2.2.2.2.2.2.2.2.2.2.2.2.2.2.1))) (
              some (false,())
              ) (
              J2 n (A,r,())
              )
            )
          )
        )
      )
    ):=(yaj _).trans (by kernel_rfl)
theorem e2 (n:Nat) (A:yao) (r:yao):J2 n (A,r,()) =
  bnd (ybq.f n A.2.2.2.2.2.1 r.2.2.2.2.2.1) λu1=>
  bIf (u1.1) (
    bnd (ycS.f n A.2.2.2.2.2.2.1 r.2.2.2.2.2.2.1) λu2=>
    bIf (u2.1) (
      bnd (ydb.f n A.2.2.2.2.2.2.2.2.2.2.1 r.2.2.2.2.2.2.2.2.2.2.1) λu3=>
      bIf (u3.1) (
        bnd (ybL.f n A.2.2.2.2.2.2.2.2.2.2.2.1 r.2.2.2.2.2.2.2.2.2.2.2.1) λu4=>
        bIf (u4.1) (
          bnd (ybu.f n A.2.2.2.2.2.2.2.2.2.2.2.2.2.1 r.2.2.2.2.2.2.2.2.2.2.2.2.2.1) λu5=>
          some (u5.1,())
          ) (
          some (false,())
          )
        ) (
        some (false,())
        )
      ) (
      some (false,())
      )
    ) (
    some (false,())
    ):=(yaj _).trans (by kernel_rfl)
theorem phi (n:Nat):∀ e∈(X n).c.Φ,EntryOk Tryz.prog e:=yah (yab (ycS.ok n)) (yah (yab (ydb.ok n)) (yah (yab (ybL.ok n)) (yah (yab (ybq.ok n)) (yah (yab (ybu.ok n)) (yaz)))))
theorem ok (n:Nat):FnOk Tryz.prog 32 ia io (fRun (X n) n T Tryz.f32 ia io):=yaM mixed tabIs (phi n) Tryz.func32 (by kernel_rfl) rfl
noncomputable def en (n:Nat):Entry:=yaI 32 ia io (fRun (X n) n T Tryz.f32 ia io)
end yd1
end Go.Proofs.YtcpkhpboemfglaaGreatDoor

namespace Go.Proofs.YtcpkhpboemfglaaGreatDoor
open Go Go.Va Go.Proofs
namespace ybH
abbrev ia:List Ai:=[.dat yas,.dat yas]
abbrev io:List (Nat×Oi):=[(4,.dat .bool)]
abbrev R:Type:=DOut ia io
noncomputable def X (n:Nat):Ctx:=⟨⟨tab,[yds.en n],0,[]⟩,158,bnOf 0 ia⟩
abbrev g1:List Si:=[.ref 2 2 yas,.ref 3 3 yas,.box 2 (.d yas),.box 3 (.d yas)]
abbrev g2:List Si:=[.ref 2 2 yas,.ref 3 3 yas,.box 2 (.d yas),.box 3 (.d yas)]
abbrev g3:List Si:=[.ref 2 2 yas,.ref 3 3 yas,.dat 7 (.int .i64),.box 2 (.d yas),.box 3 (.d yas)]
abbrev g4:List Si:=[]
noncomputable def T:CT:=(.s .o (.s .o (.r g1 (.s .o (.s .o (.s .o (.r g2 (.s (.s .o (.b (.l g3 .o))) (.r g4 .o)))))))))
noncomputable def J1 (n:Nat):yao×yao×Unit→Option R:=jR (X n) n T (yaX Tryz.f24) (endK ia io) g1 [1,1] []
noncomputable def J2 (n:Nat):yao×yao×Unit→Option R:=jR (X n) n T (yaX Tryz.f24) (endK ia io) g2 [1,1,1,1,1] []
noncomputable def J3 (n:Nat)(m:Nat):Int×yao×yao×Unit→Option R:=jL (X n) n T (yaX Tryz.f24) (endK ia io) g3 [1,1,1,1,1,0,1,0] [] m
noncomputable def J4 (n:Nat):Unit→Option R:=jR (X n) n T (yaX Tryz.f24) (endK ia io) g4 [1,1,1,1,1,1] []
noncomputable def f (n:Nat)(t:yao)(o:yao):Option R:=fRun (X n) n T Tryz.f24 ia io (t,o,())
theorem e0 (n : Nat) (t : yao) (o:yao):f n t o =
  bIf ((hide (t.1 != o.1))) (
    some (false,())
    ) (
    bIf ((hide (!eqS t.2.1 o.2.1))) (
      some (false,())
      ) (
      bIf ((hide (!eqS t.2.2.1 o.2.2.1))) (
        some (false,())
        ) (
        bIf ((hide (!eqS t.2.2.2.1 o.2.2.2.1))) (
          some (false,())
          ) (
          bIf ((hide (t.2.2.2.2.1 != o.2.2.2.2.1))) (
            some (false,())
            ) (
            bIf ((hide (!eqS (ya4 t.2.2.2.2.2.1) (ya4 o.2.2.2.2.2.1)))) (
              some (false,())
              ) (
              bIf ((hide (!(eqD yaT t.2.2.2.2.2.2.2.1 o.2.2.2.2.2.2.2.1)))) (
                some (false,())
                ) (
                bIf ((hide (!(t.2.2.2.2.2.2.2.2.1==o.2.2.2.2.2.2.2.2.1)))) (
                  some (false,())
                  ) (
                  bIf ((hide (!(eqD yaC t.2.2.2.2.2.2.2.2.2.1 o.2.2.2.2.2.2.2.2.2.1)))) (
                    some (false,())
                    ) (
                    bIf ((hide (t.2.2.2.2.2.2.2.2.2.2.2.2.1 != o.2.2.2.2.2.2.2.2.2.2.2.2.1))) (
                      some (false,())
                      ) (
                      bIf ((hide (!eqS t.2.2.2.2.2.2.2.2.2.2.2.2.2.2.1 o.2.2.2.2.2.2.2.2.2.2.2.2.2.2.1))) (
                        some (false,())
                        ) (
                        bIf ((hide (!eqS t.2.2.2.2.2.2.2.2.2.2.2.2.2.2.2.1 o.2.2.2.2.2.2.2.2.2.2.2.2.2.2.2.1))) (
                          some (false,())
                          ) (
                          bIf ((hide (!eqS t.2.2.2.2.2.2.2.2.2.2.2.2.2.2.2.2.1 o.2.2.2.2.2.2.2.2.2.2.2.2.2.2.2.2.1))) (
                            some (false,())
                            ) (
                            bIf ((hide (!(eqD ya1 t.2.2.2.2.2.2.2.2.2.2.2.2.2.2.2.2.2.1 o.2.2.2.2.2.2.2.2.2.2.2.2.2.2.2.2.2.1)))) (
                              some (false,())
                              ) (
                              bIf ((hide (t.2.2.2.2.2.2.2.2.2.2.2.2.2.2.2.2.2.2.1 != o.2.2.2.2.2.2.2.2.2.2.2.2.2.2.2.2.2.2.1))) (
                                some (false,())
                                ) (
                                J1 n (t,o,())
                                )
                              )
                            )
                          )
                        )
                      )
                    )
                  )
                )
              )
            )
          )
        )
      )
    ):=(yaj _).trans (by kernel_rfl)
theorem e1 (n:Nat)(A:yao)(r:yao):J1 n (A,r,()) =
  bnd (yds.f n (0,(0,((⟨#[]⟩:ByteArray),((⟨#[]⟩:ByteArray),(0,((0,(false,(0,(0,((List.replicate 32 0),(0,((0,(0,(false,()))),([],())))))))),((0,(0,(false,()))),(A.2.2.2.2.2.2.1,((0,(0,())),(A.2.2.2.2.2.2.2.2.2.2.1,(A.2.2.2.2.2.2.2.2.2.2.2.1,((0,(0,(0,((List.replicate 32 0),())))),())))))))))))) (0,(0,((⟨#[]⟩:ByteArray),((⟨#[]⟩:ByteArray),(0,((0,(false,(0,(0,((List.replicate 32 0),(0,((0,(0,(false,()))),([],())))))))),((0,(0,(false,()))),(r.2.2.2.2.2.2.1,((0,(0,())),(r.2.2.2.2.2.2.2.2.2.2.1,(r.2.2.2.2.2.2.2.2.2.2.2.1,((0,(0,(0,((List.replicate 32 0),())))),()))))))))))))) λu1=>
  bIf ((!u1.1)) (
    some (false,())
    ) (
    bIf ((hide (((A.2.2.2.2.2.2.2.2.2.2.2.2.2.1.length:Nat):Int) != ((r.2.2.2.2.2.2.2.2.2.2.2.2.2.1.length:Nat):Int)))) (
      some (false,())
      ) (
      J2 n (A,r,())
      )
    ):=(yaj _).trans (by kernel_rfl)
theorem e2 (n:Nat)(A:yao)(r:yao):J2 n (A,r,()) =
  J3 n n (0,A,r,()):=(yaj _).trans (by kernel_rfl)
theorem e3 (n m:Nat) (t7:Int) (A:yao) (r:yao):J3 n (m+1) (t7,A,r,()) =
  bIf ((hide (decide (t7<((A.2.2.2.2.2.2.2.2.2.2.2.2.2.1.length:Nat):Int))))) (
    gIf (0≤t7∧t7<((A.2.2.2.2.2.2.2.2.2.2.2.2.2.1.length:Nat):Int)) (
      gIf (0≤t7∧t7<((r.2.2.2.2.2.2.2.2.2.2.2.2.2.1.length:Nat):Int)) (
        bIf ((hide ((List.getD A.2.2.2.2.2.2.2.2.2.2.2.2.2.1 t7.toNat 0) != (List.getD r.2.2.2.2.2.2.2.2.2.2.2.2.2.1 t7.toNat 0)))) (
          some (false,())
          ) (
          J3 n m ((IntKind.i64.wrap (t7+(1:Int))),A,r,())
          )
        )
      )
    ) (
    J4 n (())
    ):=(yaj _).trans (by kernel_rfl)
theorem e4 (n:Nat):J4 n (()) =
  some (true,()):=(yaj _).trans (by kernel_rfl)
theorem phi (n:Nat):∀ e∈(X n).c.Φ,EntryOk Tryz.prog e:=yah (yab (yds.ok n)) (yaz)
theorem ok (n:Nat):FnOk Tryz.prog 24 ia io (fRun (X n) n T Tryz.f24 ia io):=yaM mixed tabIs (phi n) Tryz.func24 (by kernel_rfl) rfl
noncomputable def en (n:Nat):Entry:=yaI 24 ia io (fRun (X n) n T Tryz.f24 ia io)
end ybH
end Go.Proofs.YtcpkhpboemfglaaGreatDoor

namespace Go.Proofs.YtcpkhpboemfglaaGreatDoor
open Go Go.Va Go.Proofs
namespace yez
abbrev ia:List Ai:=[]
abbrev io:List (Nat×Oi):=[(0,.new 0 (.p (.r 0 (.int .u8)) (.d .unit)))]
abbrev R:Type:=DOut ia io
noncomputable def X (n:Nat):Ctx:=⟨⟨tab,[],0,[]⟩,3,bnOf 0 ia⟩
noncomputable def T:CT := .o
noncomputable def f (n:Nat):Option R:=fRun (X n) n T Tryz.f101 ia io (())
theorem e0 (n:Nat):f n =
  some (([],()),()):=(yaj _).trans (by kernel_rfl)
theorem phi (n:Nat):∀ e∈(X n).c.Φ,EntryOk Tryz.prog e:=yaz
theorem ok (n:Nat):FnOk Tryz.prog 101 ia io (fRun (X n) n T Tryz.f101 ia io):=yaM mixed tabIs (phi n) Tryz.func101 (by kernel_rfl) rfl
noncomputable def en (n:Nat):Entry:=yaI 101 ia io (fRun (X n) n T Tryz.f101 ia io)
end yez
end Go.Proofs.YtcpkhpboemfglaaGreatDoor

namespace Go.Proofs.YtcpkhpboemfglaaGreatDoor
open Go Go.Va Go.Proofs
namespace ybY
abbrev ia:List Ai:=[]
abbrev io:List (Nat×Oi):=[(0,.newc 1 (.p (.r 0 (.int .u8)) (.d .unit)))]
abbrev R:Type:=DOut ia io
noncomputable def X (n:Nat):Ctx:=⟨⟨tab,[yez.en n],0,[]⟩,3,bnOf 0 ia⟩
noncomputable def T:CT := .o
noncomputable def f (n:Nat):Option R:=fRun (X n) n T Tryz.f36 ia io (())
theorem e0 (n:Nat):f n =
  bnd (yez.f n) λu1=>
  some ((u1.1.1,u1.1.2),()):=(yaj _).trans (by kernel_rfl)
theorem phi (n:Nat):∀ e∈(X n).c.Φ,EntryOk Tryz.prog e:=yah (yab (yez.ok n)) (yaz)
theorem ok (n:Nat):FnOk Tryz.prog 36 ia io (fRun (X n) n T Tryz.f36 ia io):=yaM mixed tabIs (phi n) Tryz.func36 (by kernel_rfl) rfl
noncomputable def en (n:Nat):Entry:=yaI 36 ia io (fRun (X n) n T Tryz.f36 ia io)
end ybY
end Go.Proofs.YtcpkhpboemfglaaGreatDoor

namespace Go.Proofs.YtcpkhpboemfglaaGreatDoor
open Go Go.Va Go.Proofs
namespace yce
abbrev ia:List Ai:=[.fn (.str 2) [(.p (.r 0 (.int .u8)) (.d .unit))],.dat yas]
abbrev io:List (Nat×Oi):=[(4,.argc 2 500000 (.d yby))]
abbrev R:Type:=DOut ia io
noncomputable def X (n:Nat):Ctx:=⟨⟨tab,[yau.en n,yay.en n],0,[]⟩,15,bnOf 0 ia⟩
noncomputable def T:CT := .o
noncomputable def f (n:Nat)(wc0:yaO)(r:yao):Option R:=fRun (X n) n T Tryz.f169 ia io (wc0,r,())
theorem e0 (n:Nat)(wc0:yaO)(r:yao):f n wc0 r =
  bnd (yay.f n (wc0.1,wc0.2) r.2.2.2.1) λu1=>
  bnd (yau.f n (u1.1.1,u1.1.2) r.2.2.2.2.1) λu2=>
  some ((u2.1.1,u2.1.2),()):=(yaj _).trans (by kernel_rfl)
theorem phi (n:Nat):∀ e∈(X n).c.Φ,EntryOk Tryz.prog e:=yah (yab (yau.ok n)) (yah (yab (yay.ok n)) (yaz))
theorem ok (n:Nat):FnOk Tryz.prog 169 ia io (fRun (X n) n T Tryz.f169 ia io):=yaM mixed tabIs (phi n) Tryz.func169 (by kernel_rfl) rfl
noncomputable def en (n:Nat):Entry:=yaI 169 ia io (fRun (X n) n T Tryz.f169 ia io)
end yce
end Go.Proofs.YtcpkhpboemfglaaGreatDoor

namespace Go.Proofs.YtcpkhpboemfglaaGreatDoor
open Go Go.Va Go.Proofs
namespace yai
abbrev ia:List Ai:=[.fn (.str 2) [(.p (.r 0 (.int .u8)) (.d .unit))],.dat yas]
abbrev io:List (Nat×Oi):=[]
abbrev R:Type:=DOut ia io
noncomputable def X (n:Nat):Ctx:=⟨⟨tab,[yau.en n,yay.en n,yaW.en n,ybC.en n,ycp.en n,ybT.en n,ybO.en n,ybB.en n,ybc.en n,yce.en n],0,[]⟩,230,bnOf 0 ia⟩
abbrev g1:List Si:=[.ref 2 2 ybE,.ref 3 3 yas,.dat 7 (.int .i64),.dat 8 .bool,.box 2 (.p (.p (.al 500000 yby) (.d .unit)) (.d .unit)),.box 3 (.d yas),.box 500000 (.p (.r 100000500000000 (.int .u8)) (.d .unit))]
abbrev g2:List Si:=[.ref 2 2 ybE,.ref 3 3 yas,.dat 7 (.int .i64),.dat 52 .bool,.box 2 (.p (.p (.al 500000 yby) (.d .unit)) (.d .unit)),.box 3 (.d yas),.box 500000 (.p (.r 100000500000000 (.int .u8)) (.d .unit))]
abbrev g3:List Si:=[.ref 2 2 ybE,.dat 190 (.slice (.int .i64)),.dat 191 (.int .i64),.dat 192 (.int .i64),.box 2 (.p (.p (.al 500000 yby) (.d .unit)) (.d .unit)),.box 500000 (.p (.r 100000500000000 (.int .u8)) (.d .unit))]
noncomputable def T:CT:=(.s .o (.s .o (.b (.s .o (.r g1 (.c .o (.s .o (.c .o (.s .o (.c .o (.s .o (.c .o (.s .o (.r g2 (.c .o (.s .o (.c .o (.s .o (.c .o (.s .o (.c .o (.s .o (.c .o (.s .o (.c .o (.s .o (.c .o (.s .o (.c .o (.s .o (.c .o (.s .o (.c .o (.s .o (.c (.s .o (.s .o (.b (.l g3 .o)))) .o)))))))))))))))))))))))))))))))))))
noncomputable def J1 (n:Nat):Int×Bool×ya7×yao×yaO×Unit→Option R:=jR (X n) n T (yaX Tryz.f98) (endK ia io) g1 [1,1,0,1] []
noncomputable def J2 (n:Nat):Int×Bool×ya7×yao×yaO×Unit→Option R:=jR (X n) n T (yaX Tryz.f98) (endK ia io) g2 [1,1,0,1,1,1,1,1,1,1,1,1] []
noncomputable def J3 (n:Nat)(m:Nat):(List (Int))×Int×Int×ya7×yaO×Unit→Option R:=jL (X n) n T (yaX Tryz.f98) (endK ia io) g3 [1,1,0,1,1,1,1,1,1,1,1,1,1,1,1,1,1,1,1,1,1,1,1,1,1,1,1,1,1,1,1,1,0,1,1,0] [] m
noncomputable def f (n:Nat)(tc0:yaO)(o:yao):Option R:=fRun (X n) n T Tryz.f98 ia io (tc0,o,())
theorem e0 (n:Nat)(tc0:yaO)(o:yao):f n tc0 o =
  bIf ((hide (o.1==(1:Int)))) (
    J1 n (o.1,true,(((),()),()),o,(tc0.1,tc0.2),())
    ) (
    J1 n (o.1,(hide (o.1==(3:Int))),(((),()),()),o,(tc0.1,tc0.2),())
    ):=(yaj _).trans (by kernel_rfl)
theorem e1 (n:Nat) (t7:Int) (t8:Bool) (A:ya7) (r:yao) (b500000:yaO):J1 n (t7,t8,A,r,b500000,()) =
  bIf (t8) (
    bnd (ycp.f n (b500000.1,b500000.2) r.2.2.2.2.2.2.2.2.2.1) λu1=>
    some ((u1.1.1,u1.1.2),())
    ) (
    bIf ((hide (t7==(4:Int)))) (
      bnd (ybT.f n (b500000.1,b500000.2) r.2.2.2.2.2.2.2.2.2.2.1) λu2=>
      some ((u2.1.1,u2.1.2),())
      ) (
      bIf ((hide (t7==(5:Int)))) (
        bnd (ybO.f n (b500000.1,b500000.2) r.2.2.2.2.2.2.2.2.2.2.2.1) λu3=>
        some ((u3.1.1,u3.1.2),())
        ) (
        bIf ((hide (t7==(6:Int)))) (
          bnd (yay.f n (b500000.1,b500000.2) r.2.2.2.1) λu4=>
          bnd (yay.f n (u4.1.1,u4.1.2) (ya4 r.2.2.2.2.2.1)) λu5=>
          bnd (ybc.f n (u5.1.1,u5.1.2) r.2.2.2.2.2.2.1) λu6=>
          bnd (ybB.f n (u6.1.1,u6.1.2) r.2.2.2.2.2.2.2.1) λu7=>
          some ((u7.1.1,u7.1.2),())
          ) (
          bIf ((hide (t7==(7:Int)))) (
            J2 n (t7,true,(((),A.1.2),A.2),r,(b500000.1,b500000.2),())
            ) (
            J2 n (t7,(hide (t7==(8:Int))),(((),A.1.2),A.2),r,(b500000.1,b500000.2),())
            )
          )
        )
      )
    ):=(yaj _).trans (by kernel_rfl)
theorem e2 (n : Nat) (t7:Int) (t52:Bool) (A:ya7) (r:yao) (b500000:yaO):J2 n (t7,t52,A,r,b500000,()) =
  bIf (t52) (
    bnd (yce.f n (b500000.1,b500000.2) r) λu1=>
    some ((u1.1.1,u1.1.2),())
    ) (
    bIf ((hide (t7 == (9:Int)))) (
      bnd (yay.f n (b500000.1,b500000.2) r.2.2.2.1) λu2=>
      some ((u2.1.1,u2.1.2),())
      ) (
      bIf ((hide (t7 == (10 : Int)))) (
        bnd (yce.f n (b500000.1,b500000.2) r) λu3=>
        bnd (yaW.f n (u3.1.1,u3.1.2) r.2.2.2.2.2.2.2.2.1) λu4=>
        some ((u4.1.1,u4.1.2),())
        ) (
        bIf ((hide (t7 == (11:Int)))) (
          bnd (yce.f n (b500000.1,b500000.2) r) λu5=>
          bnd (ybB.f n (u5.1.1,u5.1.2) r.2.2.2.2.2.2.2.1) λu6=>
          bnd (yaW.f n (u6.1.1,u6.1.2) r.2.2.2.2.2.2.2.2.1) λu7=>
          some ((u7.1.1,u7.1.2),())
          ) (
          bIf ((hide (t7 == (12:Int)))) (
            bnd (yce.f n (b500000.1,b500000.2) r) λu8=>
            bnd (ybB.f n (u8.1.1,u8.1.2) r.2.2.2.2.2.2.2.1) λu9=>
            some ((u9.1.1,u9.1.2),())
            ) (
            bIf ((hide (t7==(13:Int)))) (
              bnd (yce.f n (b500000.1,b500000.2) r) λu10=>
              bnd (ybc.f n (u10.1.1,u10.1.2) r.2.2.2.2.2.2.1) λu11=>
              some ((u11.1.1,u11.1.2),())
              ) (
              bIf ((hide (t7==(14:Int)))) (
                bnd (yay.f n (b500000.1,b500000.2) r.2.2.2.2.2.2.2.2.2.2.2.2.2.2.2.1) λu12=>
                bnd (yay.f n (u12.1.1,u12.1.2) r.2.2.2.2.2.2.2.2.2.2.2.2.2.2.2.2.1) λu13=>
                bnd (yay.f n (u13.1.1,u13.1.2) r.2.2.2.2.2.2.2.2.2.2.2.2.2.2.1) λu14=>
                bnd (yau.f n (u14.1.1,u14.1.2) (IntKind.u64.wrap r.2.2.2.2.2.2.2.2.2.2.2.2.2.2.2.2.2.2.1)) λu15=>
                some ((u15.1.1,u15.1.2),())
                ) (
                bIf ((hide (t7==(15:Int)))) (
                  bnd (yay.f n (b500000.1,b500000.2) r.2.2.2.2.2.2.2.2.2.2.2.2.2.2.2.1) λu16=>
                  bnd (yay.f n (u16.1.1,u16.1.2) r.2.2.2.2.2.2.2.2.2.2.2.2.2.2.2.2.2.1.2.1) λu17=>
                  bnd (yau.f n (u17.1.1,u17.1.2) r.2.2.2.2.2.2.2.2.2.2.2.2.2.2.2.2.2.1.2.2.1) λu18=>
                  bnd (yau.f n (u18.1.1,u18.1.2) (IntKind.u64.wrap r.2.2.2.2.2.2.2.2.2.2.2.2.2.2.2.2.2.2.1)) λu19=>
                  some ((u19.1.1,u19.1.2),())
                  ) (
                  bIf ((hide (t7==(16:Int)))) (
                    bnd (yay.f n (b500000.1,b500000.2) r.2.2.2.1) λu20=>
                    bnd (ybc.f n (u20.1.1,u20.1.2) r.2.2.2.2.2.2.1) λu21=>
                    some ((u21.1.1,u21.1.2),())
                    ) (
                    bIf ((hide (t7==(17:Int)))) (
                      bnd (yau.f n (b500000.1,b500000.2) r.2.2.2.2.1) λu22=>
                      bnd (yau.f n (u22.1.1,u22.1.2) (IntKind.u64.wrap r.2.2.2.2.2.2.2.2.2.2.2.2.1)) λu23=>
                      bnd (yay.f n (u23.1.1,u23.1.2) (ya4 r.2.2.2.2.2.1)) λu24=>
                      some ((u24.1.1,u24.1.2),())
                      ) (
                      bIf ((hide (t7==(18:Int)))) (
                        bnd (yau.f n (b500000.1,b500000.2) r.2.2.2.2.1) λu25=>
                        bnd (yau.f n (u25.1.1,u25.1.2) (IntKind.u64.wrap ((r.2.2.2.2.2.2.2.2.2.2.2.2.2.1.length:Nat):Int))) λu26=>
                        J3 n n (r.2.2.2.2.2.2.2.2.2.2.2.2.2.1,((r.2.2.2.2.2.2.2.2.2.2.2.2.2.1.length:Nat):Int),0,(((),A.1.2),A.2),(u26.1.1,u26.1.2),())
                        ) (
                        bIf ((hide (t7==(19:Int)))) (
                          bnd (yau.f n (b500000.1,b500000.2) r.2.2.2.2.1) λu27=>
                          some ((u27.1.1,u27.1.2),())
                          ) (
                          bIf ((hide (t7==(20:Int)))) (
                            bnd (yay.f n (b500000.1,b500000.2) r.2.2.2.1) λu28=>
                            bnd (yay.f n (u28.1.1,u28.1.2) r.2.2.2.2.2.2.2.2.2.2.2.2.2.2.2.2.2.1.1) λu29=>
                            bnd (yay.f n (u29.1.1,u29.1.2) r.2.2.2.2.2.2.2.2.2.2.2.2.2.2.2.2.2.1.2.1) λu30=>
                            bnd (yau.f n (u30.1.1,u30.1.2) r.2.2.2.2.2.2.2.2.2.2.2.2.2.2.2.2.2.1.2.2.1) λu31=>
                            some ((u31.1.1,u31.1.2),())
                            ) (
                            some ((b500000.1,b500000.2),())
                            )
                          )
                        )
                      )
                    )
                  )
                )
              )
            )
          )
        )
      )
    ):=(yaj _).trans (by kernel_rfl)
theorem e3 (n m:Nat)(t190:List (Int))(t191:Int)(t192:Int)(A:ya7)(b500000:yaO):J3 n (m+1) (t190,t191,t192,A,b500000,()) =
  bIf ((hide (decide (t192<t191)))) (
    gIf (0≤t192∧t192<((t190.length:Nat):Int)) (
      bnd (ybC.f n (b500000.1,b500000.2) (List.getD t190 t192.toNat 0)) λu1=>
      J3 n m (t190,t191,(IntKind.i64.wrap (t192+(1:Int))),(((),A.1.2),A.2),(u1.1.1,u1.1.2),())
      )
    ) (
    some ((b500000.1,b500000.2),())
    ):=(yaj _).trans (by kernel_rfl)
theorem phi (n:Nat):∀ e∈(X n).c.Φ,EntryOk Tryz.prog e:=yah (yab (yau.ok n)) (yah (yab (yay.ok n)) (yah (yab (yaW.ok n)) (yah (yab (ybC.ok n)) (yah (yab (ycp.ok n)) (yah (yab (ybT.ok n)) (yah (yab (ybO.ok n)) (yah (yab (ybB.ok n)) (yah (yab (ybc.ok n)) (yah (yab (yce.ok n)) (yaz))))))))))
theorem ok (n:Nat):FnOk Tryz.prog 98 ia io (fRun (X n) n T Tryz.f98 ia io):=yaM mixed tabIs (phi n) Tryz.func98 (by kernel_rfl) rfl
noncomputable def en (n:Nat):Entry:=yaI 98 ia io (fRun (X n) n T Tryz.f98 ia io)
end yai
end Go.Proofs.YtcpkhpboemfglaaGreatDoor

namespace Go.Proofs.YtcpkhpboemfglaaGreatDoor
open Go Go.Va Go.Proofs
namespace ybM
abbrev ia:List Ai:=[.dat yas]
abbrev io:List (Nat×Oi):=[(2,.dat (.slice (.int .u8))),(3,.dat (.int .i64))]
abbrev R:Type:=DOut ia io
noncomputable def X (n:Nat):Ctx:=⟨⟨tab,[ybY.en n,yau.en n,yb0.en n,yay.en n,yaL.en n,yai.en n],0,[]⟩,41,bnOf 0 ia⟩
abbrev g1:List Si:=[.ref 1 1 yas,.ref 4 4 ybE,.dat 27 .bool,.box 1 (.d yas),.box 4 (.p (.p (.al 1500000000008 yby) (.d .unit)) (.d .unit)),.box 1500000000008 (.p (.r 1600000000008000 (.int .u8)) (.d .unit))]
abbrev g2:List Si:=[.ref 1 1 yas,.ref 4 4 ybE,.box 1 (.d yas),.box 4 (.p (.p (.al 1500000000008 yby) (.d .unit)) (.d .unit)),.box 1500000000008 (.p (.r 1600000000008000 (.int .u8)) (.d .unit))]
noncomputable def T:CT:=(.s .o (.s .o (.s .o (.s .o (.s (.s .o (.r g1 .o)) (.r g2 .o))))))
noncomputable def J1 (n:Nat):Bool×yao×ya7×yaO×Unit→Option R:=jR (X n) n T (yaX Tryz.f31) (endK ia io) g1 [1,1,1,1,0,1] []
noncomputable def J2 (n:Nat):yao×ya7×yaO×Unit→Option R:=jR (X n) n T (yaX Tryz.f31) (endK ia io) g2 [1,1,1,1,1] []
noncomputable def f (n:Nat)(r:yao):Option R:=fRun (X n) n T Tryz.f31 ia io (r,())
theorem e0 (n:Nat)(r:yao):f n r =
  bnd (yaL.f n r) λu1=>
  bIf ((!u1.1)) (
    some ([],2,())
    ) (
    bnd (ybY.f n) λu2=>
    bnd (yau.f n (u2.1.1,u2.1.2) (IntKind.u64.wrap r.1)) λu3=>
    bnd (yay.f n (u3.1.1,u3.1.2) r.2.1) λu4=>
    bIf ((hide (r.1 != (21:Int)))) (
      J1 n ((hide (r.1 != (22:Int))),r,(((),()),()),(u4.1.1,u4.1.2),())
      ) (
      J1 n (false,r,(((),()),()),(u4.1.1,u4.1.2),())
      )
    ):=(yaj _).trans (by kernel_rfl)
theorem e1 (n:Nat)(t27:Bool)(r:yao)(w_:ya7)(b1500000000008:yaO):J1 n (t27,r,w_,b1500000000008,()) =
  bIf (t27) (
    bnd (yay.f n (b1500000000008.1,b1500000000008.2) r.2.2.1) λu1=>
    J2 n (r,(((),w_.1.2),w_.2),(u1.1.1,u1.1.2),())
    ) (
    J2 n (r,(((),w_.1.2),w_.2),(b1500000000008.1,b1500000000008.2),())
    ):=(yaj _).trans (by kernel_rfl)
theorem e2 (n:Nat)(r:yao)(w_:ya7)(b1500000000008:yaO):J2 n (r,w_,b1500000000008,()) =
  bnd (yai.f n (b1500000000008.1,b1500000000008.2) r) λu1=>
  bnd (yb0.f n (u1.1.1,u1.1.2)) λu2=>
  some (u2.1,0,()):=(yaj _).trans (by kernel_rfl)
theorem phi (n:Nat):∀ e∈(X n).c.Φ,EntryOk Tryz.prog e:=yah (yab (ybY.ok n)) (yah (yab (yau.ok n)) (yah (yab (yb0.ok n)) (yah (yab (yay.ok n)) (yah (yab (yaL.ok n)) (yah (yab (yai.ok n)) (yaz))))))
theorem ok (n:Nat):FnOk Tryz.prog 31 ia io (fRun (X n) n T Tryz.f31 ia io):=yaM mixed tabIs (phi n) Tryz.func31 (by kernel_rfl) rfl
noncomputable def en (n:Nat):Entry:=yaI 31 ia io (fRun (X n) n T Tryz.f31 ia io)
end ybM
end Go.Proofs.YtcpkhpboemfglaaGreatDoor

namespace Go.Proofs.YtcpkhpboemfglaaGreatDoor
open Go Go.Va Go.Proofs
namespace yc7
abbrev ia:List Ai:=[.dat (.int .i64)]
abbrev io:List (Nat×Oi):=[(2,.dat .str)]
abbrev R:Type:=DOut ia io
noncomputable def X (n:Nat):Ctx:=⟨⟨tab,[ybt.en n],0,[]⟩,6,bnOf 0 ia⟩
noncomputable def T:CT := .o
noncomputable def f (n:Nat)(n_:Int):Option R:=fRun (X n) n T Tryz.f71 ia io (n_,())
theorem e0 (n:Nat)(n_:Int):f n n_ =
  bnd (ybt.f n (IntKind.u64.wrap n_)) λu1=>
  some (u1.1,()):=(yaj _).trans (by kernel_rfl)
theorem phi (n:Nat):∀ e∈(X n).c.Φ,EntryOk Tryz.prog e:=yah (yab (ybt.ok n)) (yaz)
theorem ok (n:Nat):FnOk Tryz.prog 71 ia io (fRun (X n) n T Tryz.f71 ia io):=yaM mixed tabIs (phi n) Tryz.func71 (by kernel_rfl) rfl
noncomputable def en (n:Nat):Entry:=yaI 71 ia io (fRun (X n) n T Tryz.f71 ia io)
end yc7
end Go.Proofs.YtcpkhpboemfglaaGreatDoor

namespace Go.Proofs.YtcpkhpboemfglaaGreatDoor
open Go Go.Va Go.Proofs
namespace yar
abbrev ia:List Ai:=[.dat yas]
abbrev io:List (Nat×Oi):=[(2,.dat .str)]
abbrev R:Type:=DOut ia io
noncomputable def X (n:Nat):Ctx:=⟨⟨tab,[yc7.en n,ybd.en n,ybt.en n,ybW.en n,ydC.en n,yc2.en n,ybG.en n,ycU.en n,ycr.en n,ycg.en n],0,[]⟩,194,bnOf 0 ia⟩
abbrev g1:List Si:=[.ref 1 1 yas,.dat 3 .str,.dat 4 .str,.dat 16 (.int .i64),.dat 17 .bool,.box 1 (.d yas)]
abbrev g2:List Si:=[.ref 1 1 yas,.dat 3 .str,.dat 4 .str,.dat 16 (.int .i64),.dat 49 .bool,.box 1 (.d yas)]
abbrev g3:List Si:=[.ref 1 1 yas,.dat 5 .str,.dat 6 (.int .i64),.box 1 (.d yas)]
abbrev g4:List Si:=[.dat 5 .str]
abbrev g5:List Si:=[]
noncomputable def T:CT:=(.s .o (.s .o (.s .o (.s (.s .o (.b (.s .o (.r g1 (.c .o (.s .o (.c .o (.s .o (.c .o (.s .o (.c .o (.s .o (.r g2 (.c .o (.s .o (.c .o (.s .o (.c .o (.s .o (.c .o (.s .o (.c .o (.s .o (.c .o (.s .o (.c .o (.s .o (.c .o (.s .o (.c .o (.s .o (.c .o (.s .o (.c (.s .o (.s (.s .o (.b (.l g3 .o))) (.r g4 .o))) .o)))))))))))))))))))))))))))))))))) (.r g5 .o)))))
noncomputable def J1 (n:Nat):ByteArray×ByteArray×Int×Bool×yao×Unit→Option R:=jR (X n) n T (yaX Tryz.f73) (endK ia io) g1 [1,1,1,0,1,0,1] []
noncomputable def J2 (n:Nat):ByteArray×ByteArray×Int×Bool×yao×Unit→Option R:=jR (X n) n T (yaX Tryz.f73) (endK ia io) g2 [1,1,1,0,1,0,1,1,1,1,1,1,1,1,1] []
noncomputable def J3 (n:Nat)(m:Nat):ByteArray×Int×yao×Unit→Option R:=jL (X n) n T (yaX Tryz.f73) (endK ia io) g3 [1,1,1,0,1,0,1,1,1,1,1,1,1,1,1,1,1,1,1,1,1,1,1,1,1,1,1,1,1,1,1,1,1,1,1,0,1,0,1,0] [] m
noncomputable def J4 (n:Nat):ByteArray×Unit→Option R:=jR (X n) n T (yaX Tryz.f73) (endK ia io) g4 [1,1,1,0,1,0,1,1,1,1,1,1,1,1,1,1,1,1,1,1,1,1,1,1,1,1,1,1,1,1,1,1,1,1,1,0,1,1] []
noncomputable def J5 (n:Nat):Unit→Option R:=jR (X n) n T (yaX Tryz.f73) (endK ia io) g5 [1,1,1,1] []
noncomputable def f (n:Nat)(t:yao):Option R:=fRun (X n) n T Tryz.f73 ia io (t,())
theorem e0 (n:Nat)(t:yao):f n t =
  bnd (ybd.f n t.2.2.2.1) λu1=>
  bnd (ybt.f n t.2.2.2.2.1) λu2=>
  gIf (u1.1.size+u2.1.size≤4611686018427387904) (
    bIf ((hide (t.1==(1:Int)))) (
      J1 n (u1.1,(u1.1++u2.1),t.1,true,t,())
      ) (
      J1 n (u1.1,(u1.1++u2.1),t.1,(hide (t.1==(3:Int))),t,())
      )
    ):=(yaj _).trans (by kernel_rfl)
theorem e1 (n : Nat) (r:ByteArray) (r':ByteArray) (t16:Int) (t17:Bool) (o:yao):J1 n (r,r',t16,t17,o,()) =
  bIf (t17) (
    bnd (ycU.f n o.2.2.2.2.2.2.2.2.2.1) λu1=>
    some (u1.1,())
    ) (
    bIf ((hide (t16==(4:Int)))) (
      bnd (ycr.f n o.2.2.2.2.2.2.2.2.2.2.1) λu2=>
      some (u2.1,())
      ) (
      bIf ((hide (t16==(5:Int)))) (
        bnd (ycg.f n o.2.2.2.2.2.2.2.2.2.2.2.1) λu3=>
        some (u3.1,())
        ) (
        bIf ((hide (t16==(6:Int)))) (
          bnd (ybd.f n (ya4 o.2.2.2.2.2.1)) λu4=>
          gIf (r.size+u4.1.size≤4611686018427387904) (
            bnd (ybG.f n o.2.2.2.2.2.2.1) λu5=>
            gIf ((r++u4.1).size+u5.1.size≤4611686018427387904) (
              bnd (yc2.f n o.2.2.2.2.2.2.2.1) λu6=>
              gIf (((r++u4.1)++u5.1).size+u6.1.size≤4611686018427387904) (
                some ((((r++u4.1)++u5.1)++u6.1),())
                )
              )
            )
          ) (
          bIf ((hide (t16==(7:Int)))) (
            J2 n (r,r',t16,true,o,())
            ) (
            J2 n (r,r',t16,(hide (t16==(8:Int))),o,())
            )
          )
        )
      )
    ):=(yaj _).trans (by kernel_rfl)
theorem e2 (n : Nat) (r : ByteArray) (r':ByteArray) (t16:Int) (t49:Bool) (o:yao):J2 n (r,r',t16,t49,o,()) =
  bIf (t49) (
    some (r',())
    ) (
    bIf ((hide (t16 == (9 : Int)))) (
      some (r,())
      ) (
      bIf ((hide (t16 == (10:Int)))) (
        bnd (ybW.f n o.2.2.2.2.2.2.2.2.1) λu1=>
        gIf (r'.size+u1.1.size≤4611686018427387904) (
          some ((r'++u1.1),())
          )
        ) (
        bIf ((hide (t16 == (11:Int)))) (
          bnd (yc2.f n o.2.2.2.2.2.2.2.1) λu2=>
          gIf (r'.size+u2.1.size≤4611686018427387904) (
            bnd (ybW.f n o.2.2.2.2.2.2.2.2.1) λu3=>
            gIf ((r'++u2.1).size+u3.1.size≤4611686018427387904) (
              some (((r'++u2.1)++u3.1),())
              )
            )
          ) (
          bIf ((hide (t16 == (12:Int)))) (
            bnd (yc2.f n o.2.2.2.2.2.2.2.1) λu4=>
            gIf (r'.size+u4.1.size≤4611686018427387904) (
              some ((r'++u4.1),())
              )
            ) (
            bIf ((hide (t16 == (13:Int)))) (
              bnd (ybG.f n o.2.2.2.2.2.2.1) λu5=>
              gIf (r'.size+u5.1.size≤4611686018427387904) (
                some ((r'++u5.1),())
                )
              ) (
              bIf ((hide (t16 == (14:Int)))) (
                bnd (ybd.f n o.2.2.2.2.2.2.2.2.2.2.2.2.2.2.2.1) λu6=>
                bnd (ybd.f n o.2.2.2.2.2.2.2.2.2.2.2.2.2.2.2.2.1) λu7=>
                gIf (u6.1.size+u7.1.size≤4611686018427387904) (
                  bnd (ybd.f n o.2.2.2.2.2.2.2.2.2.2.2.2.2.2.1) λu8=>
                  gIf ((u6.1++u7.1).size+u8.1.size≤4611686018427387904) (
                    bnd (yc7.f n o.2.2.2.2.2.2.2.2.2.2.2.2.2.2.2.2.2.2.1) λu9=>
                    gIf (((u6.1++u7.1)++u8.1).size+u9.1.size≤4611686018427387904) (
                      some ((((u6.1++u7.1)++u8.1)++u9.1),())
                      )
                    )
                  )
                ) (
                bIf ((hide (t16 == (15:Int)))) (
                  bnd (ybd.f n o.2.2.2.2.2.2.2.2.2.2.2.2.2.2.2.1) λu10=>
                  bnd (ybd.f n o.2.2.2.2.2.2.2.2.2.2.2.2.2.2.2.2.2.1.2.1) λu11=>
                  gIf (u10.1.size+u11.1.size≤4611686018427387904) (
                    bnd (ybt.f n o.2.2.2.2.2.2.2.2.2.2.2.2.2.2.2.2.2.1.2.2.1) λu12=>
                    gIf ((u10.1++u11.1).size+u12.1.size≤4611686018427387904) (
                      bnd (yc7.f n o.2.2.2.2.2.2.2.2.2.2.2.2.2.2.2.2.2.2.1) λu13=>
                      gIf (((u10.1++u11.1)++u12.1).size+u13.1.size≤4611686018427387904) (
                        some ((((u10.1++u11.1)++u12.1)++u13.1),())
                        )
                      )
                    )
                  ) (
                  bIf ((hide (t16 == (16:Int)))) (
                    bnd (ybG.f n o.2.2.2.2.2.2.1) λu14=>
                    gIf (r.size+u14.1.size≤4611686018427387904) (
                      some ((r++u14.1),())
                      )
                    ) (
                    bIf ((hide (t16==(17:Int)))) (
                      bnd (ybt.f n o.2.2.2.2.1) λu15=>
                      bnd (yc7.f n o.2.2.2.2.2.2.2.2.2.2.2.2.1) λu16=>
                      gIf (u15.1.size+u16.1.size≤4611686018427387904) (
                        bnd (ybd.f n (ya4 o.2.2.2.2.2.1)) λu17=>
                        gIf ((u15.1++u16.1).size+u17.1.size≤4611686018427387904) (
                          some (((u15.1++u16.1)++u17.1),())
                          )
                        )
                      ) (
                      bIf ((hide (t16==(18:Int)))) (
                        bnd (ybt.f n o.2.2.2.2.1) λu18=>
                        bnd (yc7.f n ((o.2.2.2.2.2.2.2.2.2.2.2.2.2.1.length:Nat):Int)) λu19=>
                        gIf (u18.1.size+u19.1.size≤4611686018427387904) (
                          J3 n n ((u18.1++u19.1),0,o,())
                          )
                        ) (
                        bIf ((hide (t16==(19:Int)))) (
                          bnd (ybt.f n o.2.2.2.2.1) λu20=>
                          some (u20.1,())
                          ) (
                          bIf ((hide (t16==(20:Int)))) (
                            bnd (ybd.f n o.2.2.2.2.2.2.2.2.2.2.2.2.2.2.2.2.2.1.1) λu21=>
                            gIf (r.size+u21.1.size≤4611686018427387904) (
                              bnd (ybd.f n o.2.2.2.2.2.2.2.2.2.2.2.2.2.2.2.2.2.1.2.1) λu22=>
                              gIf ((r++u21.1).size+u22.1.size≤4611686018427387904) (
                                bnd (ybt.f n o.2.2.2.2.2.2.2.2.2.2.2.2.2.2.2.2.2.1.2.2.1) λu23=>
                                gIf (((r++u21.1)++u22.1).size+u23.1.size≤4611686018427387904) (
                                  some ((((r++u21.1)++u22.1)++u23.1),())
                                  )
                                )
                              )
                            ) (
                            J5 n (())
                            )
                          )
                        )
                      )
                    )
                  )
                )
              )
            )
          )
        )
      )
    ):=(yaj _).trans (by kernel_rfl)
theorem e3 (n m:Nat) (a:ByteArray) (y_:Int) (o:yao):J3 n (m+1) (a,y_,o,()) =
  bIf ((hide (decide (y_<((o.2.2.2.2.2.2.2.2.2.2.2.2.2.1.length:Nat):Int))))) (
    gIf (0≤y_∧y_<((o.2.2.2.2.2.2.2.2.2.2.2.2.2.1.length:Nat):Int)) (
      bnd (ydC.f n (List.getD o.2.2.2.2.2.2.2.2.2.2.2.2.2.1 y_.toNat 0)) λu1=>
      gIf (a.size+u1.1.size≤4611686018427387904) (
        J3 n m ((a++u1.1),(IntKind.i64.wrap (y_+(1:Int))),o,())
        )
      )
    ) (
    J4 n (a,())
    ):=(yaj _).trans (by kernel_rfl)
theorem e4 (n:Nat)(a:ByteArray):J4 n (a,()) =
  some (a,()):=(yaj _).trans (by kernel_rfl)
theorem e5 (n:Nat):J5 n (()) =
  some ((⟨#[]⟩:ByteArray),()):=(yaj _).trans (by kernel_rfl)
theorem phi (n:Nat):∀ e∈(X n).c.Φ,EntryOk Tryz.prog e:=yah (yab (yc7.ok n)) (yah (yab (ybd.ok n)) (yah (yab (ybt.ok n)) (yah (yab (ybW.ok n)) (yah (yab (ydC.ok n)) (yah (yab (yc2.ok n)) (yah (yab (ybG.ok n)) (yah (yab (ycU.ok n)) (yah (yab (ycr.ok n)) (yah (yab (ycg.ok n)) (yaz))))))))))
theorem ok (n:Nat):FnOk Tryz.prog 73 ia io (fRun (X n) n T Tryz.f73 ia io):=yaM mixed tabIs (phi n) Tryz.func73 (by kernel_rfl) rfl
noncomputable def en (n:Nat):Entry:=yaI 73 ia io (fRun (X n) n T Tryz.f73 ia io)
end yar
end Go.Proofs.YtcpkhpboemfglaaGreatDoor

namespace Go.Proofs.YtcpkhpboemfglaaGreatDoor
open Go Go.Va Go.Proofs
namespace ycR
abbrev ia:List Ai:=[.dat yas]
abbrev io:List (Nat×Oi):=[(2,.dat .str),(3,.dat (.int .i64))]
abbrev R:Type:=DOut ia io
noncomputable def X (n:Nat):Ctx:=⟨⟨tab,[ybm.en n,yc7.en n,ybd.en n,yar.en n],0,[]⟩,27,bnOf 0 ia⟩
abbrev g1:List Si:=[.ref 1 1 yas,.dat 4 .str,.box 1 (.d yas)]
noncomputable def T:CT:=(.s .o (.s .o (.s .o (.s .o (.r g1 .o)))))
noncomputable def J1 (n:Nat):ByteArray×yao×Unit→Option R:=jR (X n) n T (yaX Tryz.f22) (endK ia io) g1 [1,1,1,1] []
noncomputable def f (n:Nat)(r:yao):Option R:=fRun (X n) n T Tryz.f22 ia io (r,())
theorem e0 (n:Nat) (r:yao):f n r =
  bnd (ybm.f n r) λu1=>
  bIf ((!u1.1)) (
    some ((⟨#[]⟩:ByteArray),2,())
    ) (
    bnd (yc7.f n r.1) λu2=>
    bnd (ybd.f n r.2.1) λu3=>
    gIf (u2.1.size+u3.1.size≤4611686018427387904) (
      bIf ((hide (decide (r.1<(21:Int))))) (
        bnd (ybd.f n r.2.2.1) λu4=>
        gIf ((u2.1++u3.1).size+u4.1.size≤4611686018427387904) (
          J1 n (((u2.1++u3.1)++u4.1),r,())
          )
        ) (
        J1 n ((u2.1++u3.1),r,())
        )
      )
    ):=(yaj _).trans (by kernel_rfl)
theorem e1 (n:Nat)(s_:ByteArray)(r:yao):J1 n (s_,r,()) =
  bnd (yar.f n r) λu1=>
  gIf (s_.size+u1.1.size≤4611686018427387904) (
    some ((s_++u1.1),0,())
    ):=(yaj _).trans (by kernel_rfl)
theorem phi (n:Nat):∀ e∈(X n).c.Φ,EntryOk Tryz.prog e:=yah (yab (ybm.ok n)) (yah (yab (yc7.ok n)) (yah (yab (ybd.ok n)) (yah (yab (yar.ok n)) (yaz))))
theorem ok (n:Nat):FnOk Tryz.prog 22 ia io (fRun (X n) n T Tryz.f22 ia io):=yaM mixed tabIs (phi n) Tryz.func22 (by kernel_rfl) rfl
noncomputable def en (n:Nat):Entry:=yaI 22 ia io (fRun (X n) n T Tryz.f22 ia io)
end ycR
end Go.Proofs.YtcpkhpboemfglaaGreatDoor

namespace Go.Proofs.YtcpkhpboemfglaaGreatDoor
open Go Go.Va Go.Proofs
namespace yeq
abbrev ia:List Ai:=[.dat (.slice (.int .u8))]
abbrev io:List (Nat×Oi):=[(2,.new 0 (.d yaK))]
abbrev R:Type:=DOut ia io
noncomputable def X (n:Nat):Ctx:=⟨⟨tab,[ybS.en n],0,[]⟩,7,bnOf 0 ia⟩
noncomputable def T:CT := .o
noncomputable def f (n:Nat)(b:List (Int)):Option R:=fRun (X n) n T Tryz.f137 ia io (b,())
theorem e0 (n:Nat)(b:List (Int)):f n b =
  bnd (ybS.f n b) λu1=>
  some ((u1.1,(0,())),()):=(yaj _).trans (by kernel_rfl)
theorem phi (n:Nat):∀ e∈(X n).c.Φ,EntryOk Tryz.prog e:=yah (yab (ybS.ok n)) (yaz)
theorem ok (n:Nat):FnOk Tryz.prog 137 ia io (fRun (X n) n T Tryz.f137 ia io):=yaM mixed tabIs (phi n) Tryz.func137 (by kernel_rfl) rfl
noncomputable def en (n:Nat):Entry:=yaI 137 ia io (fRun (X n) n T Tryz.f137 ia io)
end yeq
end Go.Proofs.YtcpkhpboemfglaaGreatDoor

namespace Go.Proofs.YtcpkhpboemfglaaGreatDoor
open Go Go.Va Go.Proofs
namespace yda
abbrev ia:List Ai:=[.dat (.slice (.int .u8))]
abbrev io:List (Nat×Oi):=[(2,.newc 1 (.d yaK))]
abbrev R:Type:=DOut ia io
noncomputable def X (n:Nat):Ctx:=⟨⟨tab,[yeq.en n],0,[]⟩,6,bnOf 0 ia⟩
noncomputable def T:CT := .o
noncomputable def f (n:Nat)(b:List (Int)):Option R:=fRun (X n) n T Tryz.f65 ia io (b,())
theorem e0 (n:Nat)(b:List (Int)):f n b =
  bnd (yeq.f n b) λu1=>
  some (u1.1,()):=(yaj _).trans (by kernel_rfl)
theorem phi (n:Nat):∀ e∈(X n).c.Φ,EntryOk Tryz.prog e:=yah (yab (yeq.ok n)) (yaz)
theorem ok (n:Nat):FnOk Tryz.prog 65 ia io (fRun (X n) n T Tryz.f65 ia io):=yaM mixed tabIs (phi n) Tryz.func65 (by kernel_rfl) rfl
noncomputable def en (n:Nat):Entry:=yaI 65 ia io (fRun (X n) n T Tryz.f65 ia io)
end yda
end Go.Proofs.YtcpkhpboemfglaaGreatDoor

namespace Go.Proofs.YtcpkhpboemfglaaGreatDoor
open Go Go.Va Go.Proofs
namespace ycs
abbrev ia:List Ai:=[.fn (.str 2) [(.d yaK)]]
abbrev io:List (Nat×Oi):=[(2,.val (.r 0 (.int .u8)))]
abbrev R:Type:=DOut ia io
noncomputable def X (n:Nat):Ctx:=⟨⟨tab,[yaw.en n],0,[]⟩,12,bnOf 0 ia⟩
noncomputable def T:CT := .o
noncomputable def f (n:Nat)(rc0:yat):Option R:=fRun (X n) n T Tryz.f150 ia io (rc0,())
theorem e0 (n:Nat)(rc0:yat):f n rc0 =
  bnd (yaw.f n rc0) λu1=>
  bIf ((hide (!eqS u1.1 (⟨#[]⟩:ByteArray)))) (
    some ((ycN u1.1),u1.2.1,())
    ) (
    some ([],u1.2.1,())
    ):=(yaj _).trans (by kernel_rfl)
theorem phi (n:Nat):∀ e∈(X n).c.Φ,EntryOk Tryz.prog e:=yah (yab (yaw.ok n)) (yaz)
theorem ok (n:Nat):FnOk Tryz.prog 150 ia io (fRun (X n) n T Tryz.f150 ia io):=yaM mixed tabIs (phi n) Tryz.func150 (by kernel_rfl) rfl
noncomputable def en (n:Nat):Entry:=yaI 150 ia io (fRun (X n) n T Tryz.f150 ia io)
end ycs
end Go.Proofs.YtcpkhpboemfglaaGreatDoor

namespace Go.Proofs.YtcpkhpboemfglaaGreatDoor
open Go Go.Va Go.Proofs
namespace yam
abbrev ia:List Ai:=[.fn (.str 2) [(.d yaK)],.ptr (.p (.d (.int .i64)) (.p (.d .str) (.p (.d .str) (.p (.d .str) (.p (.d (.int .u64)) (.p (.r 0 (.int .u8)) (.p (.r 0 yax) (.p (.d yaT) (.p (.d .bool) (.p (.d yaC) (.p (.r 0 yaF) (.p (.r 0 yaJ) (.p (.d (.int .i64)) (.p (.r 0 (.int .i64)) (.d (.pair .str (.pair .str (.pair .str (.pair ya1 (.pair (.int .i64) .unit))))))))))))))))))))]
abbrev io:List (Nat×Oi):=[]
abbrev R:Type:=DOut ia io
noncomputable def X (n:Nat):Ctx:=⟨⟨tab,[yaQ.en n,yaw.en n,ya0.en n],0,[]⟩,52,bnOf 0 ia⟩
abbrev g1:List Si:=[.ref 1 502000 yas,.ref 2 2 ybE,.box 2 (.p (.p (.al 500000 yaK) (.d .unit)) (.d .unit)),.box 500000 (.d yaK),.box 502000 (.p (.d (.int .i64)) (.p (.d .str) (.p (.d .str) (.p (.d .str) (.p (.d (.int .u64)) (.p (.r 100000502000000 (.int .u8)) (.p (.r 100000502000001 yax) (.p (.d yaT) (.p (.d .bool) (.p (.d yaC) (.p (.r 100000502000002 yaF) (.p (.r 100000502000003 yaJ) (.p (.d (.int .i64)) (.p (.r 100000502000004 (.int .i64)) (.d (.pair .str (.pair .str (.pair .str (.pair ya1 (.pair (.int .i64) .unit))))))))))))))))))))]
noncomputable def T:CT:=(.s .o (.s .o (.s .o (.r g1 .o))))
noncomputable def J1 (n:Nat):ya7×yat×yao×Unit→Option R:=jR (X n) n T (yaX Tryz.f152) (endK ia io) g1 [1,1,1] []
noncomputable def f (n:Nat)(rc0:yat)(out:yao):Option R:=fRun (X n) n T Tryz.f152 ia io (rc0,out,())
theorem e0 (n:Nat)(rc0:yat)(out:yao):f n rc0 out =
  bnd (yaw.f n rc0) λu1=>
  bIf ((hide (out.1==(14:Int)))) (
    bnd (yaw.f n u1.2.1) λu2=>
    bnd (yaw.f n u2.2.1) λu3=>
    J1 n ((((),()),()),u3.2.1,(out.1,(out.2.1,(out.2.2.1,(out.2.2.2.1,(out.2.2.2.2.1,(out.2.2.2.2.2.1,(out.2.2.2.2.2.2.1,(out.2.2.2.2.2.2.2.1,(out.2.2.2.2.2.2.2.2.1,(out.2.2.2.2.2.2.2.2.2.1,(out.2.2.2.2.2.2.2.2.2.2.1,(out.2.2.2.2.2.2.2.2.2.2.2.1,(out.2.2.2.2.2.2.2.2.2.2.2.2.1,(out.2.2.2.2.2.2.2.2.2.2.2.2.2.1,(u3.1,(u1.1,(u2.1,out.2.2.2.2.2.2.2.2.2.2.2.2.2.2.2.2.2))))))))))))))))),())
    ) (
    bnd (yaw.f n u1.2.1) λu4=>
    bnd (ya0.f n u4.2.1) λu5=>
    J1 n ((((),()),()),u5.2.1,(out.1,(out.2.1,(out.2.2.1,(out.2.2.2.1,(out.2.2.2.2.1,(out.2.2.2.2.2.1,(out.2.2.2.2.2.2.1,(out.2.2.2.2.2.2.2.1,(out.2.2.2.2.2.2.2.2.1,(out.2.2.2.2.2.2.2.2.2.1,(out.2.2.2.2.2.2.2.2.2.2.1,(out.2.2.2.2.2.2.2.2.2.2.2.1,(out.2.2.2.2.2.2.2.2.2.2.2.2.1,(out.2.2.2.2.2.2.2.2.2.2.2.2.2.1,(out.2.2.2.2.2.2.2.2.2.2.2.2.2.2.1,(u1.1,(out.2.2.2.2.2.2.2.2.2.2.2.2.2.2.2.2.1,((out.2.2.2.2.2.2.2.2.2.2.2.2.2.2.2.2.2.1.1,(u4.1,(u5.1,out.2.2.2.2.2.2.2.2.2.2.2.2.2.2.2.2.2.1.2.2.2))),out.2.2.2.2.2.2.2.2.2.2.2.2.2.2.2.2.2.2)))))))))))))))))),())
    ):=(yaj _).trans (by kernel_rfl)
theorem e1 (n:Nat)(r:ya7)(b500000:yat)(out:yao):J1 n (r,b500000,out,()) =
  bnd (yaQ.f n b500000) λu1=>
  some (u1.2.1,(out.1,(out.2.1,(out.2.2.1,(out.2.2.2.1,(out.2.2.2.2.1,(out.2.2.2.2.2.1,(out.2.2.2.2.2.2.1,(out.2.2.2.2.2.2.2.1,(out.2.2.2.2.2.2.2.2.1,(out.2.2.2.2.2.2.2.2.2.1,(out.2.2.2.2.2.2.2.2.2.2.1,(out.2.2.2.2.2.2.2.2.2.2.2.1,(out.2.2.2.2.2.2.2.2.2.2.2.2.1,(out.2.2.2.2.2.2.2.2.2.2.2.2.2.1,(out.2.2.2.2.2.2.2.2.2.2.2.2.2.2.1,(out.2.2.2.2.2.2.2.2.2.2.2.2.2.2.2.1,(out.2.2.2.2.2.2.2.2.2.2.2.2.2.2.2.2.1,(out.2.2.2.2.2.2.2.2.2.2.2.2.2.2.2.2.2.1,(u1.1,out.2.2.2.2.2.2.2.2.2.2.2.2.2.2.2.2.2.2.2))))))))))))))))))),()):=(yaj _).trans (by kernel_rfl)
theorem phi (n:Nat):∀ e∈(X n).c.Φ,EntryOk Tryz.prog e:=yah (yab (yaQ.ok n)) (yah (yab (yaw.ok n)) (yah (yab (ya0.ok n)) (yaz)))
theorem ok (n:Nat):FnOk Tryz.prog 152 ia io (fRun (X n) n T Tryz.f152 ia io):=yaM mixed tabIs (phi n) Tryz.func152 (by kernel_rfl) rfl
noncomputable def en (n:Nat):Entry:=yaI 152 ia io (fRun (X n) n T Tryz.f152 ia io)
end yam
end Go.Proofs.YtcpkhpboemfglaaGreatDoor

namespace Go.Proofs.YtcpkhpboemfglaaGreatDoor
open Go Go.Va Go.Proofs
namespace ybg
abbrev ia:List Ai:=[.fn (.str 2) [(.d yaK)]]
abbrev io:List (Nat×Oi):=[(2,.val (.r 0 (.int .i64)))]
abbrev R:Type:=DOut ia io
noncomputable def X (n:Nat):Ctx:=⟨⟨tab,[yaS.en n,ybZ.en n],0,[]⟩,19,bnOf 0 ia⟩
abbrev g1:List Si:=[.ref 1 1 ybE,.val 3 (.r 200300 (.int .i64)),.dat 7 (.int .i64),.dat 8 (.int .i64),.box 1 (.p (.p (.al 500000 yaK) (.d .unit)) (.d .unit)),.box 500000 (.d yaK)]
abbrev g2:List Si:=[.val 3 (.r 200300 (.int .i64)),.box 500000 (.d yaK)]
noncomputable def T:CT:=(.s .o (.s .o (.s (.s .o (.b (.l g1 .o))) (.r g2 .o))))
noncomputable def J1 (n:Nat)(m:Nat):(List (Int))×Int×Int×ya7×yat×Unit→Option R:=jL (X n) n T (yaX Tryz.f153) (endK ia io) g1 [1,1,0,1,0] [] m
noncomputable def J2 (n:Nat):(List (Int))×yat×Unit→Option R:=jR (X n) n T (yaX Tryz.f153) (endK ia io) g2 [1,1,1] []
noncomputable def f (n:Nat)(rc0:yat):Option R:=fRun (X n) n T Tryz.f153 ia io (rc0,())
theorem e0 (n:Nat)(rc0:yat):f n rc0 =
  bnd (yaS.f n rc0 16) λu1=>
  J1 n n ([],u1.1,0,(((),()),()),u1.2.1,()):=(yaj _).trans (by kernel_rfl)
theorem e1 (n m:Nat)(out:List (Int))(t7:Int)(t8:Int)(r:ya7)(b500000:yat):J1 n (m+1) (out,t7,t8,r,b500000,()) =
  bIf ((hide (decide (t8<t7)))) (
    bnd (ybZ.f n b500000) λu1=>
    gIf ((out.length+1)*8≤70368744177664) (
      J1 n m ((out++([u1.1]:List (Int))),t7,(IntKind.i64.wrap (t8+(1:Int))),(((),r.1.2),r.2),u1.2.1,())
      )
    ) (
    J2 n (out,b500000,())
    ):=(yaj _).trans (by kernel_rfl)
theorem e2 (n:Nat)(out:List (Int))(b500000:yat):J2 n (out,b500000,()) =
  some (out,b500000,()):=(yaj _).trans (by kernel_rfl)
theorem phi (n:Nat):∀ e∈(X n).c.Φ,EntryOk Tryz.prog e:=yah (yab (yaS.ok n)) (yah (yab (ybZ.ok n)) (yaz))
theorem ok (n:Nat):FnOk Tryz.prog 153 ia io (fRun (X n) n T Tryz.f153 ia io):=yaM mixed tabIs (phi n) Tryz.func153 (by kernel_rfl) rfl
noncomputable def en (n:Nat):Entry:=yaI 153 ia io (fRun (X n) n T Tryz.f153 ia io)
end ybg
end Go.Proofs.YtcpkhpboemfglaaGreatDoor

namespace Go.Proofs.YtcpkhpboemfglaaGreatDoor
open Go Go.Va Go.Proofs
namespace yaD
abbrev ia:List Ai:=[.fn (.str 2) [(.d yaK)],.ptr (.p (.d (.int .i64)) (.p (.d .str) (.p (.d .str) (.p (.d .str) (.p (.d (.int .u64)) (.p (.r 0 (.int .u8)) (.p (.r 0 yax) (.p (.d yaT) (.p (.d .bool) (.p (.d yaC) (.p (.r 0 yaF) (.p (.r 0 yaJ) (.p (.d (.int .i64)) (.p (.r 0 (.int .i64)) (.d (.pair .str (.pair .str (.pair .str (.pair ya1 (.pair (.int .i64) .unit))))))))))))))))))))]
abbrev io:List (Nat×Oi):=[]
abbrev R:Type:=DOut ia io
noncomputable def X (n:Nat):Ctx:=⟨⟨tab,[yaw.en n,ya0.en n],0,[]⟩,18,bnOf 0 ia⟩
noncomputable def T:CT := .o
noncomputable def f (n:Nat)(rc0:yat)(out:yao):Option R:=fRun (X n) n T Tryz.f188 ia io (rc0,out,())
theorem e0 (n:Nat)(rc0:yat)(out:yao):f n rc0 out =
  bnd (yaw.f n rc0) λu1=>
  bnd (ya0.f n u1.2.1) λu2=>
  some (u2.2.1,(out.1,(out.2.1,(out.2.2.1,(u1.1,(u2.1,(out.2.2.2.2.2.1,(out.2.2.2.2.2.2.1,(out.2.2.2.2.2.2.2.1,(out.2.2.2.2.2.2.2.2.1,(out.2.2.2.2.2.2.2.2.2.1,(out.2.2.2.2.2.2.2.2.2.2.1,(out.2.2.2.2.2.2.2.2.2.2.2.1,(out.2.2.2.2.2.2.2.2.2.2.2.2.1,(out.2.2.2.2.2.2.2.2.2.2.2.2.2.1,out.2.2.2.2.2.2.2.2.2.2.2.2.2.2)))))))))))))),()):=(yaj _).trans (by kernel_rfl)
theorem phi (n:Nat):∀ e∈(X n).c.Φ,EntryOk Tryz.prog e:=yah (yab (yaw.ok n)) (yah (yab (ya0.ok n)) (yaz))
theorem ok (n:Nat):FnOk Tryz.prog 188 ia io (fRun (X n) n T Tryz.f188 ia io):=yaM mixed tabIs (phi n) Tryz.func188 (by kernel_rfl) rfl
noncomputable def en (n:Nat):Entry:=yaI 188 ia io (fRun (X n) n T Tryz.f188 ia io)
end yaD
end Go.Proofs.YtcpkhpboemfglaaGreatDoor

namespace Go.Proofs.YtcpkhpboemfglaaGreatDoor
open Go Go.Va Go.Proofs
namespace yav
abbrev ia:List Ai:=[.fn (.str 2) [(.d yaK)],.ptr (.p (.d (.int .i64)) (.p (.d .str) (.p (.d .str) (.p (.d .str) (.p (.d (.int .u64)) (.p (.r 0 (.int .u8)) (.p (.r 0 yax) (.p (.d yaT) (.p (.d .bool) (.p (.d yaC) (.p (.r 0 yaF) (.p (.r 0 yaJ) (.p (.d (.int .i64)) (.p (.r 0 (.int .i64)) (.d (.pair .str (.pair .str (.pair .str (.pair ya1 (.pair (.int .i64) .unit))))))))))))))))))))]
abbrev io:List (Nat×Oi):=[]
abbrev R:Type:=DOut ia io
noncomputable def X (n:Nat):Ctx:=⟨⟨tab,[ybx.en n,yaY.en n,ya2.en n,yaD.en n],0,[]⟩,51,bnOf 0 ia⟩
noncomputable def T:CT := .o
noncomputable def f (n:Nat)(rc0:yat)(out:yao):Option R:=fRun (X n) n T Tryz.f151 ia io (rc0,out,())
theorem e0 (n:Nat) (rc0:yat) (out:yao):f n rc0 out =
  bnd (yaD.f n rc0 (out.1,(out.2.1,(out.2.2.1,(out.2.2.2.1,(out.2.2.2.2.1,(out.2.2.2.2.2.1,(out.2.2.2.2.2.2.1,(out.2.2.2.2.2.2.2.1,(out.2.2.2.2.2.2.2.2.1,(out.2.2.2.2.2.2.2.2.2.1,(out.2.2.2.2.2.2.2.2.2.2.1,(out.2.2.2.2.2.2.2.2.2.2.2.1,(out.2.2.2.2.2.2.2.2.2.2.2.2.1,(out.2.2.2.2.2.2.2.2.2.2.2.2.2.1,out.2.2.2.2.2.2.2.2.2.2.2.2.2.2))))))))))))))) λu1=>
  bIf ((hide (u1.2.1.1==(10:Int)))) (
    bnd (ya2.f n u1.1) λu2=>
    some (u2.2.1,(u1.2.1.1,(u1.2.1.2.1,(u1.2.1.2.2.1,(u1.2.1.2.2.2.1,(u1.2.1.2.2.2.2.1,(u1.2.1.2.2.2.2.2.1,(u1.2.1.2.2.2.2.2.2.1,(u1.2.1.2.2.2.2.2.2.2.1,(u2.1,(u1.2.1.2.2.2.2.2.2.2.2.2.1,(u1.2.1.2.2.2.2.2.2.2.2.2.2.1,(u1.2.1.2.2.2.2.2.2.2.2.2.2.2.1,(u1.2.1.2.2.2.2.2.2.2.2.2.2.2.2.1,(u1.2.1.2.2.2.2.2.2.2.2.2.2.2.2.2.1,u1.2.1.2.2.2.2.2.2.2.2.2.2.2.2.2.2)))))))))))))),())
    ) (
    bIf ((hide (u1.2.1.1==(11:Int)))) (
      bnd (ybx.f n u1.1) λu3=>
      bnd (ya2.f n u3.2.1) λu4=>
      some (u4.2.1,(u1.2.1.1,(u1.2.1.2.1,(u1.2.1.2.2.1,(u1.2.1.2.2.2.1,(u1.2.1.2.2.2.2.1,(u1.2.1.2.2.2.2.2.1,(u1.2.1.2.2.2.2.2.2.1,(u3.1,(u4.1,(u1.2.1.2.2.2.2.2.2.2.2.2.1,(u1.2.1.2.2.2.2.2.2.2.2.2.2.1,(u1.2.1.2.2.2.2.2.2.2.2.2.2.2.1,(u1.2.1.2.2.2.2.2.2.2.2.2.2.2.2.1,(u1.2.1.2.2.2.2.2.2.2.2.2.2.2.2.2.1,u1.2.1.2.2.2.2.2.2.2.2.2.2.2.2.2.2)))))))))))))),())
      ) (
      bIf ((hide (u1.2.1.1==(12:Int)))) (
        bnd (ybx.f n u1.1) λu5=>
        some (u5.2.1,(u1.2.1.1,(u1.2.1.2.1,(u1.2.1.2.2.1,(u1.2.1.2.2.2.1,(u1.2.1.2.2.2.2.1,(u1.2.1.2.2.2.2.2.1,(u1.2.1.2.2.2.2.2.2.1,(u5.1,(u1.2.1.2.2.2.2.2.2.2.2.1,(u1.2.1.2.2.2.2.2.2.2.2.2.1,(u1.2.1.2.2.2.2.2.2.2.2.2.2.1,(u1.2.1.2.2.2.2.2.2.2.2.2.2.2.1,(u1.2.1.2.2.2.2.2.2.2.2.2.2.2.2.1,(u1.2.1.2.2.2.2.2.2.2.2.2.2.2.2.2.1,u1.2.1.2.2.2.2.2.2.2.2.2.2.2.2.2.2)))))))))))))),())
        ) (
        bIf ((hide (u1.2.1.1==(13:Int)))) (
          bnd (yaY.f n u1.1) λu6=>
          some (u6.2.1,(u1.2.1.1,(u1.2.1.2.1,(u1.2.1.2.2.1,(u1.2.1.2.2.2.1,(u1.2.1.2.2.2.2.1,(u1.2.1.2.2.2.2.2.1,(u6.1,(u1.2.1.2.2.2.2.2.2.2.1,(u1.2.1.2.2.2.2.2.2.2.2.1,(u1.2.1.2.2.2.2.2.2.2.2.2.1,(u1.2.1.2.2.2.2.2.2.2.2.2.2.1,(u1.2.1.2.2.2.2.2.2.2.2.2.2.2.1,(u1.2.1.2.2.2.2.2.2.2.2.2.2.2.2.1,(u1.2.1.2.2.2.2.2.2.2.2.2.2.2.2.2.1,u1.2.1.2.2.2.2.2.2.2.2.2.2.2.2.2.2)))))))))))))),())
          ) (
          some (u1.1,(u1.2.1.1,(u1.2.1.2.1,(u1.2.1.2.2.1,(u1.2.1.2.2.2.1,(u1.2.1.2.2.2.2.1,(u1.2.1.2.2.2.2.2.1,(u1.2.1.2.2.2.2.2.2.1,(u1.2.1.2.2.2.2.2.2.2.1,(u1.2.1.2.2.2.2.2.2.2.2.1,(u1.2.1.2.2.2.2.2.2.2.2.2.1,(u1.2.1.2.2.2.2.2.2.2.2.2.2.1,(u1.2.1.2.2.2.2.2.2.2.2.2.2.2.1,(u1.2.1.2.2.2.2.2.2.2.2.2.2.2.2.1,(u1.2.1.2.2.2.2.2.2.2.2.2.2.2.2.2.1,u1.2.1.2.2.2.2.2.2.2.2.2.2.2.2.2.2)))))))))))))),())
          )
        )
      )
    ):=(yaj _).trans (by kernel_rfl)
theorem phi (n:Nat):∀ e∈(X n).c.Φ,EntryOk Tryz.prog e:=yah (yab (ybx.ok n)) (yah (yab (yaY.ok n)) (yah (yab (ya2.ok n)) (yah (yab (yaD.ok n)) (yaz))))
theorem ok (n:Nat):FnOk Tryz.prog 151 ia io (fRun (X n) n T Tryz.f151 ia io):=yaM mixed tabIs (phi n) Tryz.func151 (by kernel_rfl) rfl
noncomputable def en (n:Nat):Entry:=yaI 151 ia io (fRun (X n) n T Tryz.f151 ia io)
end yav
end Go.Proofs.YtcpkhpboemfglaaGreatDoor

namespace Go.Proofs.YtcpkhpboemfglaaGreatDoor
open Go Go.Va Go.Proofs
namespace yaa
abbrev ia:List Ai:=[.fn (.str 2) [(.d yaK)],.ptr (.p (.d (.int .i64)) (.p (.d .str) (.p (.d .str) (.p (.d .str) (.p (.d (.int .u64)) (.p (.r 0 (.int .u8)) (.p (.r 0 yax) (.p (.d yaT) (.p (.d .bool) (.p (.d yaC) (.p (.r 0 yaF) (.p (.r 0 yaJ) (.p (.d (.int .i64)) (.p (.r 0 (.int .i64)) (.d (.pair .str (.pair .str (.pair .str (.pair ya1 (.pair (.int .i64) .unit))))))))))))))))))))]
abbrev io:List (Nat×Oi):=[]
abbrev R:Type:=DOut ia io
noncomputable def X (n:Nat):Ctx:=⟨⟨tab,[yaQ.en n,yaw.en n,ya0.en n,yb7.en n,yba.en n,ya5.en n,ybx.en n,yaY.en n,ycs.en n,yav.en n,yam.en n,ybg.en n],0,[]⟩,175,bnOf 0 ia⟩
abbrev g1:List Si:=[.ref 1 502000 yas,.ref 2 2 ybE,.dat 7 (.int .i64),.dat 8 .bool,.box 2 (.p (.p (.al 500000 yaK) (.d .unit)) (.d .unit)),.box 500000 (.d yaK),.box 502000 (.p (.d (.int .i64)) (.p (.d .str) (.p (.d .str) (.p (.d .str) (.p (.d (.int .u64)) (.p (.r 100000502000000 (.int .u8)) (.p (.r 100000502000001 yax) (.p (.d yaT) (.p (.d .bool) (.p (.d yaC) (.p (.r 100000502000002 yaF) (.p (.r 100000502000003 yaJ) (.p (.d (.int .i64)) (.p (.r 100000502000004 (.int .i64)) (.d (.pair .str (.pair .str (.pair .str (.pair ya1 (.pair (.int .i64) .unit))))))))))))))))))))]
abbrev g2:List Si:=[.ref 1 502000 yas,.ref 2 2 ybE,.dat 7 (.int .i64),.dat 59 .bool,.box 2 (.p (.p (.al 500000 yaK) (.d .unit)) (.d .unit)),.box 500000 (.d yaK),.box 502000 (.p (.d (.int .i64)) (.p (.d .str) (.p (.d .str) (.p (.d .str) (.p (.d (.int .u64)) (.p (.r 100000502000000 (.int .u8)) (.p (.r 100000502000001 yax) (.p (.d yaT) (.p (.d .bool) (.p (.d yaC) (.p (.r 100000502000002 yaF) (.p (.r 100000502000003 yaJ) (.p (.d (.int .i64)) (.p (.r 100000502000004 (.int .i64)) (.d (.pair .str (.pair .str (.pair .str (.pair ya1 (.pair (.int .i64) .unit))))))))))))))))))))]
abbrev g3:List Si:=[.ref 1 502000 yas,.ref 2 2 ybE,.dat 7 (.int .i64),.dat 78 .bool,.box 2 (.p (.p (.al 500000 yaK) (.d .unit)) (.d .unit)),.box 500000 (.d yaK),.box 502000 (.p (.d (.int .i64)) (.p (.d .str) (.p (.d .str) (.p (.d .str) (.p (.d (.int .u64)) (.p (.r 100000502000000 (.int .u8)) (.p (.r 100000502000001 yax) (.p (.d yaT) (.p (.d .bool) (.p (.d yaC) (.p (.r 100000502000002 yaF) (.p (.r 100000502000003 yaJ) (.p (.d (.int .i64)) (.p (.r 100000502000004 (.int .i64)) (.d (.pair .str (.pair .str (.pair .str (.pair ya1 (.pair (.int .i64) .unit))))))))))))))))))))]
noncomputable def T:CT:=(.s .o (.s .o (.b (.s .o (.r g1 (.c .o (.s .o (.c .o (.s .o (.c .o (.s .o (.c .o (.s .o (.r g2 (.c .o (.s .o (.c .o (.s .o (.r g3 .o)))))))))))))))))))
noncomputable def J1 (n:Nat):Int×Bool×ya7×yat×yao×Unit→Option R:=jR (X n) n T (yaX Tryz.f76) (endK ia io) g1 [1,1,0,1] []
noncomputable def J2 (n:Nat):Int×Bool×ya7×yat×yao×Unit→Option R:=jR (X n) n T (yaX Tryz.f76) (endK ia io) g2 [1,1,0,1,1,1,1,1,1,1,1,1] []
noncomputable def J3 (n:Nat):Int×Bool×ya7×yat×yao×Unit→Option R:=jR (X n) n T (yaX Tryz.f76) (endK ia io) g3 [1,1,0,1,1,1,1,1,1,1,1,1,1,1,1,1] []
noncomputable def f (n:Nat)(tc0:yat)(o:yao):Option R:=fRun (X n) n T Tryz.f76 ia io (tc0,o,())
theorem e0 (n:Nat)(tc0:yat)(o:yao):f n tc0 o =
  bIf ((hide (o.1==(1:Int)))) (
    J1 n (o.1,true,(((),()),()),tc0,(o.1,(o.2.1,(o.2.2.1,(o.2.2.2.1,(o.2.2.2.2.1,(o.2.2.2.2.2.1,(o.2.2.2.2.2.2.1,(o.2.2.2.2.2.2.2.1,(o.2.2.2.2.2.2.2.2.1,(o.2.2.2.2.2.2.2.2.2.1,(o.2.2.2.2.2.2.2.2.2.2.1,(o.2.2.2.2.2.2.2.2.2.2.2.1,(o.2.2.2.2.2.2.2.2.2.2.2.2.1,(o.2.2.2.2.2.2.2.2.2.2.2.2.2.1,o.2.2.2.2.2.2.2.2.2.2.2.2.2.2)))))))))))))),())
    ) (
    J1 n (o.1,(hide (o.1==(3:Int))),(((),()),()),tc0,(o.1,(o.2.1,(o.2.2.1,(o.2.2.2.1,(o.2.2.2.2.1,(o.2.2.2.2.2.1,(o.2.2.2.2.2.2.1,(o.2.2.2.2.2.2.2.1,(o.2.2.2.2.2.2.2.2.1,(o.2.2.2.2.2.2.2.2.2.1,(o.2.2.2.2.2.2.2.2.2.2.1,(o.2.2.2.2.2.2.2.2.2.2.2.1,(o.2.2.2.2.2.2.2.2.2.2.2.2.1,(o.2.2.2.2.2.2.2.2.2.2.2.2.2.1,o.2.2.2.2.2.2.2.2.2.2.2.2.2.2)))))))))))))),())
    ):=(yaj _).trans (by kernel_rfl)
theorem e1 (n : Nat) (t7:Int) (t8:Bool) (A:ya7) (b500000:yat) (o:yao):J1 n (t7,t8,A,b500000,o,()) =
  bIf (t8) (
    bnd (yb7.f n b500000) λu1=>
    some (u1.2.1,(o.1,(o.2.1,(o.2.2.1,(o.2.2.2.1,(o.2.2.2.2.1,(o.2.2.2.2.2.1,(o.2.2.2.2.2.2.1,(o.2.2.2.2.2.2.2.1,(o.2.2.2.2.2.2.2.2.1,(u1.1,(o.2.2.2.2.2.2.2.2.2.2.1,(o.2.2.2.2.2.2.2.2.2.2.2.1,(o.2.2.2.2.2.2.2.2.2.2.2.2.1,(o.2.2.2.2.2.2.2.2.2.2.2.2.2.1,o.2.2.2.2.2.2.2.2.2.2.2.2.2.2)))))))))))))),())
    ) (
    bIf ((hide (t7==(4:Int)))) (
      bnd (yba.f n b500000) λu2=>
      some (u2.2.1,(o.1,(o.2.1,(o.2.2.1,(o.2.2.2.1,(o.2.2.2.2.1,(o.2.2.2.2.2.1,(o.2.2.2.2.2.2.1,(o.2.2.2.2.2.2.2.1,(o.2.2.2.2.2.2.2.2.1,(o.2.2.2.2.2.2.2.2.2.1,(u2.1,(o.2.2.2.2.2.2.2.2.2.2.2.1,(o.2.2.2.2.2.2.2.2.2.2.2.2.1,(o.2.2.2.2.2.2.2.2.2.2.2.2.2.1,o.2.2.2.2.2.2.2.2.2.2.2.2.2.2)))))))))))))),())
      ) (
      bIf ((hide (t7==(5:Int)))) (
        bnd (ya5.f n b500000) λu3=>
        some (u3.2.1,(o.1,(o.2.1,(o.2.2.1,(o.2.2.2.1,(o.2.2.2.2.1,(o.2.2.2.2.2.1,(o.2.2.2.2.2.2.1,(o.2.2.2.2.2.2.2.1,(o.2.2.2.2.2.2.2.2.1,(o.2.2.2.2.2.2.2.2.2.1,(o.2.2.2.2.2.2.2.2.2.2.1,(u3.1,(o.2.2.2.2.2.2.2.2.2.2.2.2.1,(o.2.2.2.2.2.2.2.2.2.2.2.2.2.1,o.2.2.2.2.2.2.2.2.2.2.2.2.2.2)))))))))))))),())
        ) (
        bIf ((hide (t7==(6:Int)))) (
          bnd (yaw.f n b500000) λu4=>
          bnd (ycs.f n u4.2.1) λu5=>
          bnd (yaY.f n u5.2.1) λu6=>
          bnd (ybx.f n u6.2.1) λu7=>
          some (u7.2.1,(o.1,(o.2.1,(o.2.2.1,(u4.1,(o.2.2.2.2.1,(u5.1,(u6.1,(u7.1,(o.2.2.2.2.2.2.2.2.1,(o.2.2.2.2.2.2.2.2.2.1,(o.2.2.2.2.2.2.2.2.2.2.1,(o.2.2.2.2.2.2.2.2.2.2.2.1,(o.2.2.2.2.2.2.2.2.2.2.2.2.1,(o.2.2.2.2.2.2.2.2.2.2.2.2.2.1,o.2.2.2.2.2.2.2.2.2.2.2.2.2.2)))))))))))))),())
          ) (
          bIf ((hide (t7==(7:Int)))) (
            J2 n (t7,true,(((),A.1.2),A.2),b500000,(o.1,(o.2.1,(o.2.2.1,(o.2.2.2.1,(o.2.2.2.2.1,(o.2.2.2.2.2.1,(o.2.2.2.2.2.2.1,(o.2.2.2.2.2.2.2.1,(o.2.2.2.2.2.2.2.2.1,(o.2.2.2.2.2.2.2.2.2.1,(o.2.2.2.2.2.2.2.2.2.2.1,(o.2.2.2.2.2.2.2.2.2.2.2.1,(o.2.2.2.2.2.2.2.2.2.2.2.2.1,(o.2.2.2.2.2.2.2.2.2.2.2.2.2.1,o.2.2.2.2.2.2.2.2.2.2.2.2.2.2)))))))))))))),())
            ) (
            bIf ((hide (t7==(8:Int)))) (
              J2 n (t7,true,(((),A.1.2),A.2),b500000,(o.1,(o.2.1,(o.2.2.1,(o.2.2.2.1,(o.2.2.2.2.1,(o.2.2.2.2.2.1,(o.2.2.2.2.2.2.1,(o.2.2.2.2.2.2.2.1,(o.2.2.2.2.2.2.2.2.1,(o.2.2.2.2.2.2.2.2.2.1,(o.2.2.2.2.2.2.2.2.2.2.1,(o.2.2.2.2.2.2.2.2.2.2.2.1,(o.2.2.2.2.2.2.2.2.2.2.2.2.1,(o.2.2.2.2.2.2.2.2.2.2.2.2.2.1,o.2.2.2.2.2.2.2.2.2.2.2.2.2.2)))))))))))))),())
              ) (
              bIf ((hide (t7==(10:Int)))) (
                J2 n (t7,true,(((),A.1.2),A.2),b500000,(o.1,(o.2.1,(o.2.2.1,(o.2.2.2.1,(o.2.2.2.2.1,(o.2.2.2.2.2.1,(o.2.2.2.2.2.2.1,(o.2.2.2.2.2.2.2.1,(o.2.2.2.2.2.2.2.2.1,(o.2.2.2.2.2.2.2.2.2.1,(o.2.2.2.2.2.2.2.2.2.2.1,(o.2.2.2.2.2.2.2.2.2.2.2.1,(o.2.2.2.2.2.2.2.2.2.2.2.2.1,(o.2.2.2.2.2.2.2.2.2.2.2.2.2.1,o.2.2.2.2.2.2.2.2.2.2.2.2.2.2)))))))))))))),())
                ) (
                bIf ((hide (t7==(11:Int)))) (
                  J2 n (t7,true,(((),A.1.2),A.2),b500000,(o.1,(o.2.1,(o.2.2.1,(o.2.2.2.1,(o.2.2.2.2.1,(o.2.2.2.2.2.1,(o.2.2.2.2.2.2.1,(o.2.2.2.2.2.2.2.1,(o.2.2.2.2.2.2.2.2.1,(o.2.2.2.2.2.2.2.2.2.1,(o.2.2.2.2.2.2.2.2.2.2.1,(o.2.2.2.2.2.2.2.2.2.2.2.1,(o.2.2.2.2.2.2.2.2.2.2.2.2.1,(o.2.2.2.2.2.2.2.2.2.2.2.2.2.1,o.2.2.2.2.2.2.2.2.2.2.2.2.2.2)))))))))))))),())
                  ) (
                  bIf ((hide (t7==(12:Int)))) (
                    J2 n (t7,true,(((),A.1.2),A.2),b500000,(o.1,(o.2.1,(o.2.2.1,(o.2.2.2.1,(o.2.2.2.2.1,(o.2.2.2.2.2.1,(o.2.2.2.2.2.2.1,(o.2.2.2.2.2.2.2.1,(o.2.2.2.2.2.2.2.2.1,(o.2.2.2.2.2.2.2.2.2.1,(o.2.2.2.2.2.2.2.2.2.2.1,(o.2.2.2.2.2.2.2.2.2.2.2.1,(o.2.2.2.2.2.2.2.2.2.2.2.2.1,(o.2.2.2.2.2.2.2.2.2.2.2.2.2.1,o.2.2.2.2.2.2.2.2.2.2.2.2.2.2)))))))))))))),())
                    ) (
                    J2 n (t7,(hide (t7==(13:Int))),(((),A.1.2),A.2),b500000,(o.1,(o.2.1,(o.2.2.1,(o.2.2.2.1,(o.2.2.2.2.1,(o.2.2.2.2.2.1,(o.2.2.2.2.2.2.1,(o.2.2.2.2.2.2.2.1,(o.2.2.2.2.2.2.2.2.1,(o.2.2.2.2.2.2.2.2.2.1,(o.2.2.2.2.2.2.2.2.2.2.1,(o.2.2.2.2.2.2.2.2.2.2.2.1,(o.2.2.2.2.2.2.2.2.2.2.2.2.1,(o.2.2.2.2.2.2.2.2.2.2.2.2.2.1,o.2.2.2.2.2.2.2.2.2.2.2.2.2.2)))))))))))))),())
                    )
                  )
                )
              )
            )
          )
        )
      )
    ):=(yaj _).trans (by kernel_rfl)
theorem e2 (n:Nat) (t7:Int) (t59:Bool) (A:ya7) (b500000:yat) (o:yao):J2 n (t7,t59,A,b500000,o,()) =
  bIf (t59) (
    bnd (yav.f n b500000 (o.1,(o.2.1,(o.2.2.1,(o.2.2.2.1,(o.2.2.2.2.1,(o.2.2.2.2.2.1,(o.2.2.2.2.2.2.1,(o.2.2.2.2.2.2.2.1,(o.2.2.2.2.2.2.2.2.1,(o.2.2.2.2.2.2.2.2.2.1,(o.2.2.2.2.2.2.2.2.2.2.1,(o.2.2.2.2.2.2.2.2.2.2.2.1,(o.2.2.2.2.2.2.2.2.2.2.2.2.1,(o.2.2.2.2.2.2.2.2.2.2.2.2.2.1,o.2.2.2.2.2.2.2.2.2.2.2.2.2.2))))))))))))))) λu1=>
    some (u1.1,(u1.2.1.1,(u1.2.1.2.1,(u1.2.1.2.2.1,(u1.2.1.2.2.2.1,(u1.2.1.2.2.2.2.1,(u1.2.1.2.2.2.2.2.1,(u1.2.1.2.2.2.2.2.2.1,(u1.2.1.2.2.2.2.2.2.2.1,(u1.2.1.2.2.2.2.2.2.2.2.1,(u1.2.1.2.2.2.2.2.2.2.2.2.1,(u1.2.1.2.2.2.2.2.2.2.2.2.2.1,(u1.2.1.2.2.2.2.2.2.2.2.2.2.2.1,(u1.2.1.2.2.2.2.2.2.2.2.2.2.2.2.1,(u1.2.1.2.2.2.2.2.2.2.2.2.2.2.2.2.1,u1.2.1.2.2.2.2.2.2.2.2.2.2.2.2.2.2)))))))))))))),())
    ) (
    bIf ((hide (t7==(9:Int)))) (
      bnd (yaw.f n b500000) λu2=>
      some (u2.2.1,(o.1,(o.2.1,(o.2.2.1,(u2.1,(o.2.2.2.2.1,(o.2.2.2.2.2.1,(o.2.2.2.2.2.2.1,(o.2.2.2.2.2.2.2.1,(o.2.2.2.2.2.2.2.2.1,(o.2.2.2.2.2.2.2.2.2.1,(o.2.2.2.2.2.2.2.2.2.2.1,(o.2.2.2.2.2.2.2.2.2.2.2.1,(o.2.2.2.2.2.2.2.2.2.2.2.2.1,(o.2.2.2.2.2.2.2.2.2.2.2.2.2.1,o.2.2.2.2.2.2.2.2.2.2.2.2.2.2)))))))))))))),())
      ) (
      bIf ((hide (t7==(14:Int)))) (
        J3 n (t7,true,(((),A.1.2),A.2),b500000,(o.1,(o.2.1,(o.2.2.1,(o.2.2.2.1,(o.2.2.2.2.1,(o.2.2.2.2.2.1,(o.2.2.2.2.2.2.1,(o.2.2.2.2.2.2.2.1,(o.2.2.2.2.2.2.2.2.1,(o.2.2.2.2.2.2.2.2.2.1,(o.2.2.2.2.2.2.2.2.2.2.1,(o.2.2.2.2.2.2.2.2.2.2.2.1,(o.2.2.2.2.2.2.2.2.2.2.2.2.1,(o.2.2.2.2.2.2.2.2.2.2.2.2.2.1,o.2.2.2.2.2.2.2.2.2.2.2.2.2.2)))))))))))))),())
        ) (
        J3 n (t7,(hide (t7==(15:Int))),(((),A.1.2),A.2),b500000,(o.1,(o.2.1,(o.2.2.1,(o.2.2.2.1,(o.2.2.2.2.1,(o.2.2.2.2.2.1,(o.2.2.2.2.2.2.1,(o.2.2.2.2.2.2.2.1,(o.2.2.2.2.2.2.2.2.1,(o.2.2.2.2.2.2.2.2.2.1,(o.2.2.2.2.2.2.2.2.2.2.1,(o.2.2.2.2.2.2.2.2.2.2.2.1,(o.2.2.2.2.2.2.2.2.2.2.2.2.1,(o.2.2.2.2.2.2.2.2.2.2.2.2.2.1,o.2.2.2.2.2.2.2.2.2.2.2.2.2.2)))))))))))))),())
        )
      )
    ):=(yaj _).trans (by kernel_rfl)
theorem e3 (n : Nat) (t7:Int) (t78:Bool) (A:ya7) (b500000:yat) (o:yao):J3 n (t7,t78,A,b500000,o,()) =
  bIf (t78) (
    bnd (yam.f n b500000 (o.1,(o.2.1,(o.2.2.1,(o.2.2.2.1,(o.2.2.2.2.1,(o.2.2.2.2.2.1,(o.2.2.2.2.2.2.1,(o.2.2.2.2.2.2.2.1,(o.2.2.2.2.2.2.2.2.1,(o.2.2.2.2.2.2.2.2.2.1,(o.2.2.2.2.2.2.2.2.2.2.1,(o.2.2.2.2.2.2.2.2.2.2.2.1,(o.2.2.2.2.2.2.2.2.2.2.2.2.1,(o.2.2.2.2.2.2.2.2.2.2.2.2.2.1,o.2.2.2.2.2.2.2.2.2.2.2.2.2.2))))))))))))))) λu1=>
    some (u1.1,(u1.2.1.1,(u1.2.1.2.1,(u1.2.1.2.2.1,(u1.2.1.2.2.2.1,(u1.2.1.2.2.2.2.1,(u1.2.1.2.2.2.2.2.1,(u1.2.1.2.2.2.2.2.2.1,(u1.2.1.2.2.2.2.2.2.2.1,(u1.2.1.2.2.2.2.2.2.2.2.1,(u1.2.1.2.2.2.2.2.2.2.2.2.1,(u1.2.1.2.2.2.2.2.2.2.2.2.2.1,(u1.2.1.2.2.2.2.2.2.2.2.2.2.2.1,(u1.2.1.2.2.2.2.2.2.2.2.2.2.2.2.1,(u1.2.1.2.2.2.2.2.2.2.2.2.2.2.2.2.1,u1.2.1.2.2.2.2.2.2.2.2.2.2.2.2.2.2)))))))))))))),())
    ) (
    bIf ((hide (t7==(16:Int)))) (
      bnd (yaw.f n b500000) λu2=>
      bnd (yaY.f n u2.2.1) λu3=>
      some (u3.2.1,(o.1,(o.2.1,(o.2.2.1,(u2.1,(o.2.2.2.2.1,(o.2.2.2.2.2.1,(u3.1,(o.2.2.2.2.2.2.2.1,(o.2.2.2.2.2.2.2.2.1,(o.2.2.2.2.2.2.2.2.2.1,(o.2.2.2.2.2.2.2.2.2.2.1,(o.2.2.2.2.2.2.2.2.2.2.2.1,(o.2.2.2.2.2.2.2.2.2.2.2.2.1,(o.2.2.2.2.2.2.2.2.2.2.2.2.2.1,o.2.2.2.2.2.2.2.2.2.2.2.2.2.2)))))))))))))),())
      ) (
      bIf ((hide (t7==(17:Int)))) (
        bnd (ya0.f n b500000) λu4=>
        bnd (yaQ.f n u4.2.1) λu5=>
        bnd (ycs.f n u5.2.1) λu6=>
        some (u6.2.1,(o.1,(o.2.1,(o.2.2.1,(o.2.2.2.1,(u4.1,(u6.1,(o.2.2.2.2.2.2.1,(o.2.2.2.2.2.2.2.1,(o.2.2.2.2.2.2.2.2.1,(o.2.2.2.2.2.2.2.2.2.1,(o.2.2.2.2.2.2.2.2.2.2.1,(o.2.2.2.2.2.2.2.2.2.2.2.1,(u5.1,(o.2.2.2.2.2.2.2.2.2.2.2.2.2.1,o.2.2.2.2.2.2.2.2.2.2.2.2.2.2)))))))))))))),())
        ) (
        bIf ((hide (t7==(18:Int)))) (
          bnd (ya0.f n b500000) λu7=>
          bnd (ybg.f n u7.2.1) λu8=>
          some (u8.2.1,(o.1,(o.2.1,(o.2.2.1,(o.2.2.2.1,(u7.1,(o.2.2.2.2.2.1,(o.2.2.2.2.2.2.1,(o.2.2.2.2.2.2.2.1,(o.2.2.2.2.2.2.2.2.1,(o.2.2.2.2.2.2.2.2.2.1,(o.2.2.2.2.2.2.2.2.2.2.1,(o.2.2.2.2.2.2.2.2.2.2.2.1,(o.2.2.2.2.2.2.2.2.2.2.2.2.1,(u8.1,o.2.2.2.2.2.2.2.2.2.2.2.2.2.2)))))))))))))),())
          ) (
          bIf ((hide (t7==(19:Int)))) (
            bnd (ya0.f n b500000) λu9=>
            some (u9.2.1,(o.1,(o.2.1,(o.2.2.1,(o.2.2.2.1,(u9.1,(o.2.2.2.2.2.1,(o.2.2.2.2.2.2.1,(o.2.2.2.2.2.2.2.1,(o.2.2.2.2.2.2.2.2.1,(o.2.2.2.2.2.2.2.2.2.1,(o.2.2.2.2.2.2.2.2.2.2.1,(o.2.2.2.2.2.2.2.2.2.2.2.1,(o.2.2.2.2.2.2.2.2.2.2.2.2.1,(o.2.2.2.2.2.2.2.2.2.2.2.2.2.1,o.2.2.2.2.2.2.2.2.2.2.2.2.2.2)))))))))))))),())
            ) (
            bIf ((hide (t7==(20:Int)))) (
              bnd (yaw.f n b500000) λu10=>
              bnd (yaw.f n u10.2.1) λu11=>
              bnd (yaw.f n u11.2.1) λu12=>
              bnd (ya0.f n u12.2.1) λu13=>
              some (u13.2.1,(o.1,(o.2.1,(o.2.2.1,(u10.1,(o.2.2.2.2.1,(o.2.2.2.2.2.1,(o.2.2.2.2.2.2.1,(o.2.2.2.2.2.2.2.1,(o.2.2.2.2.2.2.2.2.1,(o.2.2.2.2.2.2.2.2.2.1,(o.2.2.2.2.2.2.2.2.2.2.1,(o.2.2.2.2.2.2.2.2.2.2.2.1,(o.2.2.2.2.2.2.2.2.2.2.2.2.1,(o.2.2.2.2.2.2.2.2.2.2.2.2.2.1,(o.2.2.2.2.2.2.2.2.2.2.2.2.2.2.1,(o.2.2.2.2.2.2.2.2.2.2.2.2.2.2.2.1,(o.2.2.2.2.2.2.2.2.2.2.2.2.2.2.2.2.1,((u11.1,(u12.1,(u13.1,o.2.2.2.2.2.2.2.2.2.2.2.2.2.2.2.2.2.1.2.2.2))),o.2.2.2.2.2.2.2.2.2.2.2.2.2.2.2.2.2.2)))))))))))))))))),())
              ) (
              some (b500000,(o.1,(o.2.1,(o.2.2.1,(o.2.2.2.1,(o.2.2.2.2.1,(o.2.2.2.2.2.1,(o.2.2.2.2.2.2.1,(o.2.2.2.2.2.2.2.1,(o.2.2.2.2.2.2.2.2.1,(o.2.2.2.2.2.2.2.2.2.1,(o.2.2.2.2.2.2.2.2.2.2.1,(o.2.2.2.2.2.2.2.2.2.2.2.1,(o.2.2.2.2.2.2.2.2.2.2.2.2.1,(o.2.2.2.2.2.2.2.2.2.2.2.2.2.1,o.2.2.2.2.2.2.2.2.2.2.2.2.2.2)))))))))))))),())
              )
            )
          )
        )
      )
    ):=(yaj _).trans (by kernel_rfl)
theorem phi (n:Nat):∀ e∈(X n).c.Φ,EntryOk Tryz.prog e:=yah (yab (yaQ.ok n)) (yah (yab (yaw.ok n)) (yah (yab (ya0.ok n)) (yah (yab (yb7.ok n)) (yah (yab (yba.ok n)) (yah (yab (ya5.ok n)) (yah (yab (ybx.ok n)) (yah (yab (yaY.ok n)) (yah (yab (ycs.ok n)) (yah (yab (yav.ok n)) (yah (yab (yam.ok n)) (yah (yab (ybg.ok n)) (yaz))))))))))))
theorem ok (n:Nat):FnOk Tryz.prog 76 ia io (fRun (X n) n T Tryz.f76 ia io):=yaM mixed tabIs (phi n) Tryz.func76 (by kernel_rfl) rfl
noncomputable def en (n:Nat):Entry:=yaI 76 ia io (fRun (X n) n T Tryz.f76 ia io)
end yaa
end Go.Proofs.YtcpkhpboemfglaaGreatDoor

namespace Go.Proofs.YtcpkhpboemfglaaGreatDoor
open Go Go.Va Go.Proofs
namespace ya8
abbrev ia:List Ai:=[.dat (.slice (.int .u8))]
abbrev io:List (Nat×Oi):=[(2,.cel (.d yas)),(3,.dat (.int .i64))]
abbrev R:Type:=DOut ia io
noncomputable def X (n:Nat):Ctx:=⟨⟨tab,[ybM.en n,yda.en n,ycP.en n,ybq.en n,yaQ.en n,yaw.en n,yaa.en n],0,[]⟩,56,bnOf 0 ia⟩
abbrev g1:List Si:=[.dat 0 (.slice (.int .u8)),.ref 2 2 yas,.ref 4 4 ybE,.ref 5 5 yas,.dat 27 .bool,.box 2 (.p (.d (.int .i64)) (.p (.d .str) (.p (.d .str) (.p (.d .str) (.p (.d (.int .u64)) (.p (.r 100000000002000 (.int .u8)) (.p (.r 100000000002001 yax) (.p (.d yaT) (.p (.d .bool) (.p (.d yaC) (.p (.r 100000000002002 yaF) (.p (.r 100000000002003 yaJ) (.p (.d (.int .i64)) (.p (.r 100000000002004 (.int .i64)) (.d (.pair .str (.pair .str (.pair .str (.pair ya1 (.pair (.int .i64) .unit)))))))))))))))))))),.box 4 (.p (.p (.al 1500000000009 yaK) (.d .unit)) (.d .unit)),.box 5 (.p (.d (.int .i64)) (.p (.d .str) (.p (.d .str) (.p (.d .str) (.p (.d (.int .u64)) (.p (.r 100000000005000 (.int .u8)) (.p (.r 100000000005001 yax) (.p (.d yaT) (.p (.d .bool) (.p (.d yaC) (.p (.r 100000000005002 yaF) (.p (.r 100000000005003 yaJ) (.p (.d (.int .i64)) (.p (.r 100000000005004 (.int .i64)) (.d (.pair .str (.pair .str (.pair .str (.pair ya1 (.pair (.int .i64) .unit)))))))))))))))))))),.box 1500000000009 (.d yaK)]
abbrev g2:List Si:=[.dat 0 (.slice (.int .u8)),.ref 2 2 yas,.ref 4 4 ybE,.ref 5 5 yas,.box 2 (.p (.d (.int .i64)) (.p (.d .str) (.p (.d .str) (.p (.d .str) (.p (.d (.int .u64)) (.p (.r 100000000002000 (.int .u8)) (.p (.r 100000000002001 yax) (.p (.d yaT) (.p (.d .bool) (.p (.d yaC) (.p (.r 100000000002002 yaF) (.p (.r 100000000002003 yaJ) (.p (.d (.int .i64)) (.p (.r 100000000002004 (.int .i64)) (.d (.pair .str (.pair .str (.pair .str (.pair ya1 (.pair (.int .i64) .unit)))))))))))))))))))),.box 4 (.p (.p (.al 1500000000009 yaK) (.d .unit)) (.d .unit)),.box 5 (.p (.d (.int .i64)) (.p (.d .str) (.p (.d .str) (.p (.d .str) (.p (.d (.int .u64)) (.p (.r 100000000005000 (.int .u8)) (.p (.r 100000000005001 yax) (.p (.d yaT) (.p (.d .bool) (.p (.d yaC) (.p (.r 100000000005002 yaF) (.p (.r 100000000005003 yaJ) (.p (.d (.int .i64)) (.p (.r 100000000005004 (.int .i64)) (.d (.pair .str (.pair .str (.pair .str (.pair ya1 (.pair (.int .i64) .unit)))))))))))))))))))),.box 1500000000009 (.d yaK)]
abbrev g3:List Si:=[.ref 2 2 yas,.ref 5 5 yas,.dat 53 .bool,.box 2 (.p (.d (.int .i64)) (.p (.d .str) (.p (.d .str) (.p (.d .str) (.p (.d (.int .u64)) (.p (.r 100000000002000 (.int .u8)) (.p (.r 100000000002001 yax) (.p (.d yaT) (.p (.d .bool) (.p (.d yaC) (.p (.r 100000000002002 yaF) (.p (.r 100000000002003 yaJ) (.p (.d (.int .i64)) (.p (.r 100000000002004 (.int .i64)) (.d (.pair .str (.pair .str (.pair .str (.pair ya1 (.pair (.int .i64) .unit)))))))))))))))))))),.box 5 (.d yas)]
abbrev g4:List Si:=[.ref 2 2 yas,.ref 5 5 yas,.box 2 (.p (.d (.int .i64)) (.p (.d .str) (.p (.d .str) (.p (.d .str) (.p (.d (.int .u64)) (.p (.r 100000000002000 (.int .u8)) (.p (.r 100000000002001 yax) (.p (.d yaT) (.p (.d .bool) (.p (.d yaC) (.p (.r 100000000002002 yaF) (.p (.r 100000000002003 yaJ) (.p (.d (.int .i64)) (.p (.r 100000000002004 (.int .i64)) (.d (.pair .str (.pair .str (.pair .str (.pair ya1 (.pair (.int .i64) .unit)))))))))))))))))))),.box 5 (.d yas)]
noncomputable def T:CT:=(.s .o (.s .o (.s .o (.s .o (.s (.s .o (.r g1 .o)) (.r g2 (.s .o (.s .o (.s (.s .o (.s .o (.r g3 .o))) (.r g4 .o))))))))))
noncomputable def J1 (n:Nat):(List (Int))×Bool×yao×ya7×yao×yat×Unit→Option R:=jR (X n) n T (yaX Tryz.f23) (endK ia io) g1 [1,1,1,1,0,1] []
noncomputable def J2 (n:Nat):(List (Int))×yao×ya7×yao×yat×Unit→Option R:=jR (X n) n T (yaX Tryz.f23) (endK ia io) g2 [1,1,1,1,1] []
noncomputable def J3 (n:Nat):Bool×yao×yao×Unit→Option R:=jR (X n) n T (yaX Tryz.f23) (endK ia io) g3 [1,1,1,1,1,1,1,0,1,1] []
noncomputable def J4 (n:Nat):yao×yao×Unit→Option R:=jR (X n) n T (yaX Tryz.f23) (endK ia io) g4 [1,1,1,1,1,1,1,1] []
noncomputable def f (n:Nat)(b:List (Int)):Option R:=fRun (X n) n T Tryz.f23 ia io (b,())
theorem e0 (n:Nat)(b:List (Int)):f n b =
  bnd (yda.f n b) λu1=>
  bnd (yaQ.f n u1.1) λu2=>
  bnd (yaw.f n u2.2.1) λu3=>
  bIf ((hide (u2.1 != (21:Int)))) (
    J1 n (b,(hide (u2.1 != (22:Int))),(0,((⟨#[]⟩:ByteArray),((⟨#[]⟩:ByteArray),((⟨#[]⟩:ByteArray),(0,([],([],((0,(0,(false,()))),(false,((0,(0,())),([],([],(0,([],((⟨#[]⟩:ByteArray),((⟨#[]⟩:ByteArray),((⟨#[]⟩:ByteArray),(((⟨#[]⟩:ByteArray),((⟨#[]⟩:ByteArray),(0,()))),(0,()))))))))))))))))))),(((),()),()),(u2.1,(u3.1,((⟨#[]⟩:ByteArray),((⟨#[]⟩:ByteArray),(0,([],([],((0,(0,(false,()))),(false,((0,(0,())),([],([],(0,([],((⟨#[]⟩:ByteArray),((⟨#[]⟩:ByteArray),((⟨#[]⟩:ByteArray),(((⟨#[]⟩:ByteArray),((⟨#[]⟩:ByteArray),(0,()))),(0,()))))))))))))))))))),u3.2.1,())
    ) (
    J1 n (b,false,(0,((⟨#[]⟩:ByteArray),((⟨#[]⟩:ByteArray),((⟨#[]⟩:ByteArray),(0,([],([],((0,(0,(false,()))),(false,((0,(0,())),([],([],(0,([],((⟨#[]⟩:ByteArray),((⟨#[]⟩:ByteArray),((⟨#[]⟩:ByteArray),(((⟨#[]⟩:ByteArray),((⟨#[]⟩:ByteArray),(0,()))),(0,()))))))))))))))))))),(((),()),()),(u2.1,(u3.1,((⟨#[]⟩:ByteArray),((⟨#[]⟩:ByteArray),(0,([],([],((0,(0,(false,()))),(false,((0,(0,())),([],([],(0,([],((⟨#[]⟩:ByteArray),((⟨#[]⟩:ByteArray),((⟨#[]⟩:ByteArray),(((⟨#[]⟩:ByteArray),((⟨#[]⟩:ByteArray),(0,()))),(0,()))))))))))))))))))),u3.2.1,())
    ):=(yaj _).trans (by kernel_rfl)
theorem e1 (n:Nat)(b:List (Int))(t27:Bool)(b2:yao)(r:ya7)(out:yao)(b1500000000009:yat):J1 n (b,t27,b2,r,out,b1500000000009,()) =
  bIf (t27) (
    bnd (yaw.f n b1500000000009) λu1=>
    J2 n (b,(b2.1,(b2.2.1,(b2.2.2.1,(b2.2.2.2.1,(b2.2.2.2.2.1,(b2.2.2.2.2.2.1,(b2.2.2.2.2.2.2.1,(b2.2.2.2.2.2.2.2.1,(b2.2.2.2.2.2.2.2.2.1,(b2.2.2.2.2.2.2.2.2.2.1,(b2.2.2.2.2.2.2.2.2.2.2.1,(b2.2.2.2.2.2.2.2.2.2.2.2.1,(b2.2.2.2.2.2.2.2.2.2.2.2.2.1,(b2.2.2.2.2.2.2.2.2.2.2.2.2.2.1,b2.2.2.2.2.2.2.2.2.2.2.2.2.2.2)))))))))))))),(((),r.1.2),r.2),(out.1,(out.2.1,(u1.1,(out.2.2.2.1,(out.2.2.2.2.1,(out.2.2.2.2.2.1,(out.2.2.2.2.2.2.1,(out.2.2.2.2.2.2.2.1,(out.2.2.2.2.2.2.2.2.1,(out.2.2.2.2.2.2.2.2.2.1,(out.2.2.2.2.2.2.2.2.2.2.1,(out.2.2.2.2.2.2.2.2.2.2.2.1,(out.2.2.2.2.2.2.2.2.2.2.2.2.1,(out.2.2.2.2.2.2.2.2.2.2.2.2.2.1,out.2.2.2.2.2.2.2.2.2.2.2.2.2.2)))))))))))))),u1.2.1,())
    ) (
    J2 n (b,(b2.1,(b2.2.1,(b2.2.2.1,(b2.2.2.2.1,(b2.2.2.2.2.1,(b2.2.2.2.2.2.1,(b2.2.2.2.2.2.2.1,(b2.2.2.2.2.2.2.2.1,(b2.2.2.2.2.2.2.2.2.1,(b2.2.2.2.2.2.2.2.2.2.1,(b2.2.2.2.2.2.2.2.2.2.2.1,(b2.2.2.2.2.2.2.2.2.2.2.2.1,(b2.2.2.2.2.2.2.2.2.2.2.2.2.1,(b2.2.2.2.2.2.2.2.2.2.2.2.2.2.1,b2.2.2.2.2.2.2.2.2.2.2.2.2.2.2)))))))))))))),(((),r.1.2),r.2),(out.1,(out.2.1,(out.2.2.1,(out.2.2.2.1,(out.2.2.2.2.1,(out.2.2.2.2.2.1,(out.2.2.2.2.2.2.1,(out.2.2.2.2.2.2.2.1,(out.2.2.2.2.2.2.2.2.1,(out.2.2.2.2.2.2.2.2.2.1,(out.2.2.2.2.2.2.2.2.2.2.1,(out.2.2.2.2.2.2.2.2.2.2.2.1,(out.2.2.2.2.2.2.2.2.2.2.2.2.1,(out.2.2.2.2.2.2.2.2.2.2.2.2.2.1,out.2.2.2.2.2.2.2.2.2.2.2.2.2.2)))))))))))))),b1500000000009,())
    ):=(yaj _).trans (by kernel_rfl)
theorem e2 (n:Nat)(b:List (Int))(b2:yao)(r:ya7)(out:yao)(b1500000000009:yat):J2 n (b,b2,r,out,b1500000000009,()) =
  bnd (yaa.f n b1500000000009 (out.1,(out.2.1,(out.2.2.1,(out.2.2.2.1,(out.2.2.2.2.1,(out.2.2.2.2.2.1,(out.2.2.2.2.2.2.1,(out.2.2.2.2.2.2.2.1,(out.2.2.2.2.2.2.2.2.1,(out.2.2.2.2.2.2.2.2.2.1,(out.2.2.2.2.2.2.2.2.2.2.1,(out.2.2.2.2.2.2.2.2.2.2.2.1,(out.2.2.2.2.2.2.2.2.2.2.2.2.1,(out.2.2.2.2.2.2.2.2.2.2.2.2.2.1,out.2.2.2.2.2.2.2.2.2.2.2.2.2.2))))))))))))))) λu1=>
  bnd (ycP.f n u1.1) λu2=>
  bIf ((hide (u2.1 != (0:Int)))) (
    some ((0,((⟨#[]⟩:ByteArray),((⟨#[]⟩:ByteArray),((⟨#[]⟩:ByteArray),(0,([],([],((0,(0,(false,()))),(false,((0,(0,())),([],([],(0,([],((⟨#[]⟩:ByteArray),((⟨#[]⟩:ByteArray),((⟨#[]⟩:ByteArray),(((⟨#[]⟩:ByteArray),((⟨#[]⟩:ByteArray),(0,()))),(0,()))))))))))))))))))),2,())
    ) (
    bnd (ybM.f n (u1.2.1.1,(u1.2.1.2.1,(u1.2.1.2.2.1,(u1.2.1.2.2.2.1,(u1.2.1.2.2.2.2.1,(u1.2.1.2.2.2.2.2.1,(u1.2.1.2.2.2.2.2.2.1,(u1.2.1.2.2.2.2.2.2.2.1,(u1.2.1.2.2.2.2.2.2.2.2.1,(u1.2.1.2.2.2.2.2.2.2.2.2.1,(u1.2.1.2.2.2.2.2.2.2.2.2.2.1,(u1.2.1.2.2.2.2.2.2.2.2.2.2.2.1,(u1.2.1.2.2.2.2.2.2.2.2.2.2.2.2.1,(u1.2.1.2.2.2.2.2.2.2.2.2.2.2.2.2.1,u1.2.1.2.2.2.2.2.2.2.2.2.2.2.2.2.2))))))))))))))) λu3=>
    bIf ((hide (u3.2.1 != (0:Int)))) (
      J3 n (true,(b2.1,(b2.2.1,(b2.2.2.1,(b2.2.2.2.1,(b2.2.2.2.2.1,(b2.2.2.2.2.2.1,(b2.2.2.2.2.2.2.1,(b2.2.2.2.2.2.2.2.1,(b2.2.2.2.2.2.2.2.2.1,(b2.2.2.2.2.2.2.2.2.2.1,(b2.2.2.2.2.2.2.2.2.2.2.1,(b2.2.2.2.2.2.2.2.2.2.2.2.1,(b2.2.2.2.2.2.2.2.2.2.2.2.2.1,(b2.2.2.2.2.2.2.2.2.2.2.2.2.2.1,b2.2.2.2.2.2.2.2.2.2.2.2.2.2.2)))))))))))))),(u1.2.1.1,(u1.2.1.2.1,(u1.2.1.2.2.1,(u1.2.1.2.2.2.1,(u1.2.1.2.2.2.2.1,(u1.2.1.2.2.2.2.2.1,(u1.2.1.2.2.2.2.2.2.1,(u1.2.1.2.2.2.2.2.2.2.1,(u1.2.1.2.2.2.2.2.2.2.2.1,(u1.2.1.2.2.2.2.2.2.2.2.2.1,(u1.2.1.2.2.2.2.2.2.2.2.2.2.1,(u1.2.1.2.2.2.2.2.2.2.2.2.2.2.1,(u1.2.1.2.2.2.2.2.2.2.2.2.2.2.2.1,(u1.2.1.2.2.2.2.2.2.2.2.2.2.2.2.2.1,u1.2.1.2.2.2.2.2.2.2.2.2.2.2.2.2.2)))))))))))))),())
      ) (
      bnd (ybq.f n u3.1 b) λu4=>
      J3 n ((!u4.1),(b2.1,(b2.2.1,(b2.2.2.1,(b2.2.2.2.1,(b2.2.2.2.2.1,(b2.2.2.2.2.2.1,(b2.2.2.2.2.2.2.1,(b2.2.2.2.2.2.2.2.1,(b2.2.2.2.2.2.2.2.2.1,(b2.2.2.2.2.2.2.2.2.2.1,(b2.2.2.2.2.2.2.2.2.2.2.1,(b2.2.2.2.2.2.2.2.2.2.2.2.1,(b2.2.2.2.2.2.2.2.2.2.2.2.2.1,(b2.2.2.2.2.2.2.2.2.2.2.2.2.2.1,b2.2.2.2.2.2.2.2.2.2.2.2.2.2.2)))))))))))))),(u1.2.1.1,(u1.2.1.2.1,(u1.2.1.2.2.1,(u1.2.1.2.2.2.1,(u1.2.1.2.2.2.2.1,(u1.2.1.2.2.2.2.2.1,(u1.2.1.2.2.2.2.2.2.1,(u1.2.1.2.2.2.2.2.2.2.1,(u1.2.1.2.2.2.2.2.2.2.2.1,(u1.2.1.2.2.2.2.2.2.2.2.2.1,(u1.2.1.2.2.2.2.2.2.2.2.2.2.1,(u1.2.1.2.2.2.2.2.2.2.2.2.2.2.1,(u1.2.1.2.2.2.2.2.2.2.2.2.2.2.2.1,(u1.2.1.2.2.2.2.2.2.2.2.2.2.2.2.2.1,u1.2.1.2.2.2.2.2.2.2.2.2.2.2.2.2.2)))))))))))))),())
      )
    ):=(yaj _).trans (by kernel_rfl)
theorem e3 (n:Nat)(t53:Bool)(b2:yao)(out:yao):J3 n (t53,b2,out,()) =
  bIf (t53) (
    some ((0,((⟨#[]⟩:ByteArray),((⟨#[]⟩:ByteArray),((⟨#[]⟩:ByteArray),(0,([],([],((0,(0,(false,()))),(false,((0,(0,())),([],([],(0,([],((⟨#[]⟩:ByteArray),((⟨#[]⟩:ByteArray),((⟨#[]⟩:ByteArray),(((⟨#[]⟩:ByteArray),((⟨#[]⟩:ByteArray),(0,()))),(0,()))))))))))))))))))),2,())
    ) (
    J4 n ((b2.1,(b2.2.1,(b2.2.2.1,(b2.2.2.2.1,(b2.2.2.2.2.1,(b2.2.2.2.2.2.1,(b2.2.2.2.2.2.2.1,(b2.2.2.2.2.2.2.2.1,(b2.2.2.2.2.2.2.2.2.1,(b2.2.2.2.2.2.2.2.2.2.1,(b2.2.2.2.2.2.2.2.2.2.2.1,(b2.2.2.2.2.2.2.2.2.2.2.2.1,(b2.2.2.2.2.2.2.2.2.2.2.2.2.1,(b2.2.2.2.2.2.2.2.2.2.2.2.2.2.1,b2.2.2.2.2.2.2.2.2.2.2.2.2.2.2)))))))))))))),out,())
    ):=(yaj _).trans (by kernel_rfl)
theorem e4 (n:Nat)(b2:yao)(out:yao):J4 n (b2,out,()) =
  some (out,0,()):=(yaj _).trans (by kernel_rfl)
theorem phi (n:Nat):∀ e∈(X n).c.Φ,EntryOk Tryz.prog e:=yah (yab (ybM.ok n)) (yah (yab (yda.ok n)) (yah (yab (ycP.ok n)) (yah (yab (ybq.ok n)) (yah (yab (yaQ.ok n)) (yah (yab (yaw.ok n)) (yah (yab (yaa.ok n)) (yaz)))))))
theorem ok (n:Nat):FnOk Tryz.prog 23 ia io (fRun (X n) n T Tryz.f23 ia io):=yaM mixed tabIs (phi n) Tryz.func23 (by kernel_rfl) rfl
noncomputable def en (n:Nat):Entry:=yaI 23 ia io (fRun (X n) n T Tryz.f23 ia io)
end ya8
end Go.Proofs.YtcpkhpboemfglaaGreatDoor

namespace Go.Proofs.YtcpkhpboemfglaaGreatDoor
open Go Go.Va Go.Proofs
namespace ydD
abbrev ia:List Ai:=[.ptr (.p (.r 0 (.int .u8)) (.d .unit)),.dat (.arr 32 (.int .u8))]
abbrev io:List (Nat×Oi):=[(4,.arg 0 500000 (.d yby))]
abbrev R:Type:=DOut ia io
noncomputable def X (n:Nat):Ctx:=⟨⟨tab,[ybi.en n],0,[6]⟩,8,bnOf 0 ia⟩
noncomputable def T:CT := .o
noncomputable def f (n:Nat)(w_:yaO)(d:List (Int)):Option R:=fRun (X n) n T Tryz.f162 ia io (w_,d,())
theorem e0 (n:Nat)(w_:yaO)(d:List (Int)):f n w_ d =
  bnd (ybi.f n (w_.1,w_.2) d) λu1=>
  some ((u1.1.1,u1.1.2),()):=(yaj _).trans (by kernel_rfl)
theorem phi (n:Nat):∀ e∈(X n).c.Φ,EntryOk Tryz.prog e:=yah (yab (ybi.ok n)) (yaz)
theorem ok (n:Nat):FnOk Tryz.prog 162 ia io (fRun (X n) n T Tryz.f162 ia io):=yaM mixed tabIs (phi n) Tryz.func162 (by kernel_rfl) rfl
noncomputable def en (n:Nat):Entry:=yaI 162 ia io (fRun (X n) n T Tryz.f162 ia io)
end ydD
end Go.Proofs.YtcpkhpboemfglaaGreatDoor

namespace Go.Proofs.YtcpkhpboemfglaaGreatDoor
open Go Go.Va Go.Proofs
namespace yb9
abbrev ia:List Ai:=[.fn (.str 1) [(.p (.r 0 (.int .u8)) (.d .unit))],.dat yca]
abbrev io:List (Nat×Oi):=[]
abbrev R:Type:=DOut ia io
noncomputable def X (n:Nat):Ctx:=⟨⟨tab,[yau.en n,yaW.en n,ybC.en n,ybB.en n,ybc.en n,ydD.en n],0,[]⟩,37,bnOf 0 ia⟩
noncomputable def T:CT := .o
noncomputable def f (n:Nat)(wc0:yaO)(v_:ybw):Option R:=fRun (X n) n T Tryz.f85 ia io (wc0,v_,())
theorem e0 (n:Nat)(wc0:yaO)(v_:ybw):f n wc0 v_ =
  bnd (yau.f n (wc0.1,wc0.2) v_.1) λu1=>
  bnd (yaW.f n (u1.1.1,u1.1.2) v_.2.1) λu2=>
  bnd (ybC.f n (u2.1.1,u2.1.2) v_.2.2.2.2.2.1) λu3=>
  bIf (v_.2.1) (
    some ((u3.1.1,u3.1.2),())
    ) (
    bnd (yau.f n (u3.1.1,u3.1.2) (IntKind.u64.wrap v_.2.2.1)) λu4=>
    bnd (yau.f n (u4.1.1,u4.1.2) v_.2.2.2.1) λu5=>
    bnd (ydD.f n (u5.1.1,u5.1.2) v_.2.2.2.2.1) λu6=>
    bnd (ybB.f n (u6.1.1,u6.1.2) v_.2.2.2.2.2.2.1) λu7=>
    bnd (ybc.f n (u7.1.1,u7.1.2) v_.2.2.2.2.2.2.2.1) λu8=>
    some ((u8.1.1,u8.1.2),())
    ):=(yaj _).trans (by kernel_rfl)
theorem phi (n:Nat):∀ e∈(X n).c.Φ,EntryOk Tryz.prog e:=yah (yab (yau.ok n)) (yah (yab (yaW.ok n)) (yah (yab (ybC.ok n)) (yah (yab (ybB.ok n)) (yah (yab (ybc.ok n)) (yah (yab (ydD.ok n)) (yaz))))))
theorem ok (n:Nat):FnOk Tryz.prog 85 ia io (fRun (X n) n T Tryz.f85 ia io):=yaM mixed tabIs (phi n) Tryz.func85 (by kernel_rfl) rfl
noncomputable def en (n:Nat):Entry:=yaI 85 ia io (fRun (X n) n T Tryz.f85 ia io)
end yb9
end Go.Proofs.YtcpkhpboemfglaaGreatDoor

namespace Go.Proofs.YtcpkhpboemfglaaGreatDoor
open Go Go.Va Go.Proofs
namespace yeh
abbrev ia:List Ai:=[.dat yca]
abbrev io:List (Nat×Oi):=[(2,.dat .bool)]
abbrev R:Type:=DOut ia io
noncomputable def X (n:Nat):Ctx:=⟨⟨tab,[ybj.en n],0,[]⟩,6,bnOf 0 ia⟩
noncomputable def T:CT := .o
noncomputable def f (n:Nat)(v_:ybw):Option R:=fRun (X n) n T Tryz.f154 ia io (v_,())
theorem e0 (n:Nat)(v_:ybw):f n v_ =
  bnd (ybj.f n v_ (0,(false,(0,(0,((List.replicate 32 0),(0,((0,(0,(false,()))),([],()))))))))) λu1=>
  some (u1.1,()):=(yaj _).trans (by kernel_rfl)
theorem phi (n:Nat):∀ e∈(X n).c.Φ,EntryOk Tryz.prog e:=yah (yab (ybj.ok n)) (yaz)
theorem ok (n:Nat):FnOk Tryz.prog 154 ia io (fRun (X n) n T Tryz.f154 ia io):=yaM mixed tabIs (phi n) Tryz.func154 (by kernel_rfl) rfl
noncomputable def en (n:Nat):Entry:=yaI 154 ia io (fRun (X n) n T Tryz.f154 ia io)
end yeh
end Go.Proofs.YtcpkhpboemfglaaGreatDoor

namespace Go.Proofs.YtcpkhpboemfglaaGreatDoor
open Go Go.Va Go.Proofs
namespace yeM
abbrev ia:List Ai:=[.dat ycy]
abbrev io:List (Nat×Oi):=[(2,.dat .bool)]
abbrev R:Type:=DOut ia io
noncomputable def X (n:Nat):Ctx:=⟨⟨tab,[ydp.en n,yeh.en n],0,[]⟩,20,bnOf 0 ia⟩
noncomputable def T:CT := .o
noncomputable def f (n:Nat)(r:ycc):Option R:=fRun (X n) n T Tryz.f157 ia io (r,())
theorem e0 (n:Nat) (r:ycc):f n r =
  bIf ((hide (decide ((r.1.size:Int)>(200:Int))))) (
    some (false,())
    ) (
    bIf (r.2.1) (
      bIf ((!r.2.2.2.1)) (
        bnd (yeh.f n r.2.2.1) λu1=>
        some (u1.1,())
        ) (
        some (false,())
        )
      ) (
      bnd (ydp.f n r.2.2.1) λu2=>
      some (u2.1,())
      )
    ):=(yaj _).trans (by kernel_rfl)
theorem phi (n:Nat):∀ e∈(X n).c.Φ,EntryOk Tryz.prog e:=yah (yab (ydp.ok n)) (yah (yab (yeh.ok n)) (yaz))
theorem ok (n:Nat):FnOk Tryz.prog 157 ia io (fRun (X n) n T Tryz.f157 ia io):=yaM mixed tabIs (phi n) Tryz.func157 (by kernel_rfl) rfl
noncomputable def en (n:Nat):Entry:=yaI 157 ia io (fRun (X n) n T Tryz.f157 ia io)
end yeM
end Go.Proofs.YtcpkhpboemfglaaGreatDoor

namespace Go.Proofs.YtcpkhpboemfglaaGreatDoor
open Go Go.Va Go.Proofs
namespace F_wire_good_1
abbrev ia:List Ai:=[.dat ycy]
abbrev io:List (Nat×Oi):=[(2,.dat .bool)]
abbrev R:Type:=DOut ia io
noncomputable def X (n:Nat):Ctx:=⟨⟨tab,[yeM.en n],0,[]⟩,6,bnOf 0 ia⟩
noncomputable def T:CT := .o
noncomputable def f (n:Nat)(x_:ycc):Option R:=fRun (X n) n T Tryz.f156 ia io (x_,())
theorem e0 (n:Nat)(x_:ycc):f n x_ =
  bnd (yeM.f n x_) λu1=>
  some ((!u1.1),()):=(yaj _).trans (by kernel_rfl)
theorem phi (n:Nat):∀ e∈(X n).c.Φ,EntryOk Tryz.prog e:=yah (yab (yeM.ok n)) (yaz)
theorem ok (n:Nat):FnOk Tryz.prog 156 ia io (fRun (X n) n T Tryz.f156 ia io):=yaM mixed tabIs (phi n) Tryz.func156 (by kernel_rfl) rfl
noncomputable def en (n:Nat):Entry:=yaI 156 ia io (fRun (X n) n T Tryz.f156 ia io)
end F_wire_good_1
end Go.Proofs.YtcpkhpboemfglaaGreatDoor

namespace Go.Proofs.YtcpkhpboemfglaaGreatDoor
open Go Go.Va Go.Proofs
namespace ydm
abbrev ia:List Ai:=[.dat (.slice ycy),.fn (.fn 156) []]
abbrev io:List (Nat×Oi):=[(4,.dat (.int .i64))]
abbrev R:Type:=DOut ia io
noncomputable def X (n:Nat):Ctx:=⟨⟨tab,[F_wire_good_1.en n],0,[]⟩,19,bnOf 0 ia⟩
abbrev g1:List Si:=[.dat 0 (.slice ycy),.clo 1 (.fn 156) [],.dat 7 (.int .i64),.dat 8 (.int .i64)]
abbrev g2:List Si:=[]
noncomputable def T:CT:=(.s .o (.s (.s .o (.b (.l g1 .o))) (.r g2 .o)))
noncomputable def J1 (n:Nat)(m:Nat):(List (ycc))×Int×Int×Unit→Option R:=jL (X n) n T (yaX Tryz.f189) (endK ia io) g1 [1,0,1,0] [] m
noncomputable def J2 (n:Nat):Unit→Option R:=jR (X n) n T (yaX Tryz.f189) (endK ia io) g2 [1,1] []
noncomputable def f (n:Nat)(s_:List (ycc)):Option R:=fRun (X n) n T Tryz.f189 ia io (s_,())
theorem e0 (n:Nat)(s_:List (ycc)):f n s_ =
  J1 n n (s_,((s_.length:Nat):Int),0,()):=(yaj _).trans (by kernel_rfl)
theorem e1 (n m:Nat) (s_:List (ycc)) (t7:Int) (t8:Int):J1 n (m+1) (s_,t7,t8,()) =
  bIf ((hide (decide (t8<t7)))) (
    gIf (0≤t8∧t8<((s_.length:Nat):Int)) (
      bnd (F_wire_good_1.f n (List.getD s_ t8.toNat (Va.dflt ycy))) λu1=>
      bIf (u1.1) (
        some (t8,())
        ) (
        J1 n m (s_,t7,(IntKind.i64.wrap (t8+(1:Int))),())
        )
      )
    ) (
    J2 n (())
    ):=(yaj _).trans (by kernel_rfl)
theorem e2 (n:Nat):J2 n (()) =
  some ((-1),()):=(yaj _).trans (by kernel_rfl)
theorem phi (n:Nat):∀ e∈(X n).c.Φ,EntryOk Tryz.prog e:=yah (yab (F_wire_good_1.ok n)) (yaz)
theorem ok (n:Nat):FnOk Tryz.prog 189 ia io (fRun (X n) n T Tryz.f189 ia io):=yaM mixed tabIs (phi n) Tryz.func189 (by kernel_rfl) rfl
noncomputable def en (n:Nat):Entry:=yaI 189 ia io (fRun (X n) n T Tryz.f189 ia io)
end ydm
end Go.Proofs.YtcpkhpboemfglaaGreatDoor

namespace Go.Proofs.YtcpkhpboemfglaaGreatDoor
open Go Go.Va Go.Proofs
namespace yc1
abbrev ia:List Ai:=[.dat (.slice ycy),.fn (.fn 156) []]
abbrev io:List (Nat×Oi):=[(4,.dat .bool)]
abbrev R:Type:=DOut ia io
noncomputable def X (n:Nat):Ctx:=⟨⟨tab,[ydm.en n],0,[]⟩,9,bnOf 0 ia⟩
noncomputable def T:CT := .o
noncomputable def f (n:Nat)(s_:List (ycc)):Option R:=fRun (X n) n T Tryz.f155 ia io (s_,())
theorem e0 (n:Nat)(s_:List (ycc)):f n s_ =
  bnd (ydm.f n s_) λu1=>
  some ((hide (decide (u1.1≥(0:Int)))),()):=(yaj _).trans (by kernel_rfl)
theorem phi (n:Nat):∀ e∈(X n).c.Φ,EntryOk Tryz.prog e:=yah (yab (ydm.ok n)) (yaz)
theorem ok (n:Nat):FnOk Tryz.prog 155 ia io (fRun (X n) n T Tryz.f155 ia io):=yaM mixed tabIs (phi n) Tryz.func155 (by kernel_rfl) rfl
noncomputable def en (n:Nat):Entry:=yaI 155 ia io (fRun (X n) n T Tryz.f155 ia io)
end yc1
end Go.Proofs.YtcpkhpboemfglaaGreatDoor

namespace Go.Proofs.YtcpkhpboemfglaaGreatDoor
open Go Go.Va Go.Proofs
namespace F_wire_good_2
abbrev ia:List Ai:=[.dat (.int .i64)]
abbrev io:List (Nat×Oi):=[(2,.dat .bool)]
abbrev R:Type:=DOut ia io
noncomputable def X (n:Nat):Ctx:=⟨⟨tab,[],0,[]⟩,5,bnOf 0 ia⟩
noncomputable def T:CT := .o
noncomputable def f (n:Nat)(n_:Int):Option R:=fRun (X n) n T Tryz.f159 ia io (n_,())
theorem e0 (n:Nat)(n_:Int):f n n_ =
  some ((hide (decide (n_<(0:Int)))),()):=(yaj _).trans (by kernel_rfl)
theorem phi (n:Nat):∀ e∈(X n).c.Φ,EntryOk Tryz.prog e:=yaz
theorem ok (n:Nat):FnOk Tryz.prog 159 ia io (fRun (X n) n T Tryz.f159 ia io):=yaM mixed tabIs (phi n) Tryz.func159 (by kernel_rfl) rfl
noncomputable def en (n:Nat):Entry:=yaI 159 ia io (fRun (X n) n T Tryz.f159 ia io)
end F_wire_good_2
end Go.Proofs.YtcpkhpboemfglaaGreatDoor

namespace Go.Proofs.YtcpkhpboemfglaaGreatDoor
open Go Go.Va Go.Proofs
namespace ydn
abbrev ia:List Ai:=[.dat (.slice (.int .i64)),.fn (.fn 159) []]
abbrev io:List (Nat×Oi):=[(4,.dat (.int .i64))]
abbrev R:Type:=DOut ia io
noncomputable def X (n:Nat):Ctx:=⟨⟨tab,[F_wire_good_2.en n],0,[]⟩,19,bnOf 0 ia⟩
abbrev g1:List Si:=[.dat 0 (.slice (.int .i64)),.clo 1 (.fn 159) [],.dat 7 (.int .i64),.dat 8 (.int .i64)]
abbrev g2:List Si:=[]
noncomputable def T:CT:=(.s .o (.s (.s .o (.b (.l g1 .o))) (.r g2 .o)))
noncomputable def J1 (n:Nat)(m:Nat):(List (Int))×Int×Int×Unit→Option R:=jL (X n) n T (yaX Tryz.f190) (endK ia io) g1 [1,0,1,0] [] m
noncomputable def J2 (n:Nat):Unit→Option R:=jR (X n) n T (yaX Tryz.f190) (endK ia io) g2 [1,1] []
noncomputable def f (n:Nat)(s_:List (Int)):Option R:=fRun (X n) n T Tryz.f190 ia io (s_,())
theorem e0 (n:Nat)(s_:List (Int)):f n s_ =
  J1 n n (s_,((s_.length:Nat):Int),0,()):=(yaj _).trans (by kernel_rfl)
theorem e1 (n m:Nat) (s_:List (Int)) (t7:Int) (t8:Int):J1 n (m+1) (s_,t7,t8,()) =
  bIf ((hide (decide (t8<t7)))) (
    gIf (0≤t8∧t8<((s_.length:Nat):Int)) (
      bnd (F_wire_good_2.f n (List.getD s_ t8.toNat 0)) λu1=>
      bIf (u1.1) (
        some (t8,())
        ) (
        J1 n m (s_,t7,(IntKind.i64.wrap (t8+(1:Int))),())
        )
      )
    ) (
    J2 n (())
    ):=(yaj _).trans (by kernel_rfl)
theorem e2 (n:Nat):J2 n (()) =
  some ((-1),()):=(yaj _).trans (by kernel_rfl)
theorem phi (n:Nat):∀ e∈(X n).c.Φ,EntryOk Tryz.prog e:=yah (yab (F_wire_good_2.ok n)) (yaz)
theorem ok (n:Nat):FnOk Tryz.prog 190 ia io (fRun (X n) n T Tryz.f190 ia io):=yaM mixed tabIs (phi n) Tryz.func190 (by kernel_rfl) rfl
noncomputable def en (n:Nat):Entry:=yaI 190 ia io (fRun (X n) n T Tryz.f190 ia io)
end ydn
end Go.Proofs.YtcpkhpboemfglaaGreatDoor

namespace Go.Proofs.YtcpkhpboemfglaaGreatDoor
open Go Go.Va Go.Proofs
namespace ycZ
abbrev ia:List Ai:=[.dat (.slice (.int .i64)),.fn (.fn 159) []]
abbrev io:List (Nat×Oi):=[(4,.dat .bool)]
abbrev R:Type:=DOut ia io
noncomputable def X (n:Nat):Ctx:=⟨⟨tab,[ydn.en n],0,[]⟩,9,bnOf 0 ia⟩
noncomputable def T:CT := .o
noncomputable def f (n:Nat)(s_:List (Int)):Option R:=fRun (X n) n T Tryz.f158 ia io (s_,())
theorem e0 (n:Nat)(s_:List (Int)):f n s_ =
  bnd (ydn.f n s_) λu1=>
  some ((hide (decide (u1.1≥(0:Int)))),()):=(yaj _).trans (by kernel_rfl)
theorem phi (n:Nat):∀ e∈(X n).c.Φ,EntryOk Tryz.prog e:=yah (yab (ydn.ok n)) (yaz)
theorem ok (n:Nat):FnOk Tryz.prog 158 ia io (fRun (X n) n T Tryz.f158 ia io):=yaM mixed tabIs (phi n) Tryz.func158 (by kernel_rfl) rfl
noncomputable def en (n:Nat):Entry:=yaI 158 ia io (fRun (X n) n T Tryz.f158 ia io)
end ycZ
end Go.Proofs.YtcpkhpboemfglaaGreatDoor

namespace Go.Proofs.YtcpkhpboemfglaaGreatDoor
open Go Go.Va Go.Proofs
namespace F_wire_good_3
abbrev ia:List Ai:=[.dat .str]
abbrev io:List (Nat×Oi):=[(2,.dat .bool)]
abbrev R:Type:=DOut ia io
noncomputable def X (n:Nat):Ctx:=⟨⟨tab,[],0,[]⟩,6,bnOf 0 ia⟩
noncomputable def T:CT := .o
noncomputable def f (n:Nat)(s_:ByteArray):Option R:=fRun (X n) n T Tryz.f161 ia io (s_,())
theorem e0 (n:Nat)(s_:ByteArray):f n s_ =
  some ((hide (decide ((s_.size:Int)>(63:Int)))),()):=(yaj _).trans (by kernel_rfl)
theorem phi (n:Nat):∀ e∈(X n).c.Φ,EntryOk Tryz.prog e:=yaz
theorem ok (n:Nat):FnOk Tryz.prog 161 ia io (fRun (X n) n T Tryz.f161 ia io):=yaM mixed tabIs (phi n) Tryz.func161 (by kernel_rfl) rfl
noncomputable def en (n:Nat):Entry:=yaI 161 ia io (fRun (X n) n T Tryz.f161 ia io)
end F_wire_good_3
end Go.Proofs.YtcpkhpboemfglaaGreatDoor

namespace Go.Proofs.YtcpkhpboemfglaaGreatDoor
open Go Go.Va Go.Proofs
namespace ycY
abbrev ia:List Ai:=[.dat (.slice .str),.fn (.fn 161) []]
abbrev io:List (Nat×Oi):=[(4,.dat (.int .i64))]
abbrev R:Type:=DOut ia io
noncomputable def X (n:Nat):Ctx:=⟨⟨tab,[F_wire_good_3.en n],0,[]⟩,19,bnOf 0 ia⟩
abbrev g1:List Si:=[.dat 0 (.slice .str),.clo 1 (.fn 161) [],.dat 7 (.int .i64),.dat 8 (.int .i64)]
abbrev g2:List Si:=[]
noncomputable def T:CT:=(.s .o (.s (.s .o (.b (.l g1 .o))) (.r g2 .o)))
noncomputable def J1 (n:Nat)(m:Nat):(List (ByteArray))×Int×Int×Unit→Option R:=jL (X n) n T (yaX Tryz.f191) (endK ia io) g1 [1,0,1,0] [] m
noncomputable def J2 (n:Nat):Unit→Option R:=jR (X n) n T (yaX Tryz.f191) (endK ia io) g2 [1,1] []
noncomputable def f (n:Nat)(s_:List (ByteArray)):Option R:=fRun (X n) n T Tryz.f191 ia io (s_,())
theorem e0 (n:Nat)(s_:List (ByteArray)):f n s_ =
  J1 n n (s_,((s_.length:Nat):Int),0,()):=(yaj _).trans (by kernel_rfl)
theorem e1 (n m:Nat) (s_:List (ByteArray)) (t7:Int) (t8:Int):J1 n (m+1) (s_,t7,t8,()) =
  bIf ((hide (decide (t8<t7)))) (
    gIf (0≤t8∧t8<((s_.length:Nat):Int)) (
      bnd (F_wire_good_3.f n (List.getD s_ t8.toNat (⟨#[]⟩:ByteArray))) λu1=>
      bIf (u1.1) (
        some (t8,())
        ) (
        J1 n m (s_,t7,(IntKind.i64.wrap (t8+(1:Int))),())
        )
      )
    ) (
    J2 n (())
    ):=(yaj _).trans (by kernel_rfl)
theorem e2 (n:Nat):J2 n (()) =
  some ((-1),()):=(yaj _).trans (by kernel_rfl)
theorem phi (n:Nat):∀ e∈(X n).c.Φ,EntryOk Tryz.prog e:=yah (yab (F_wire_good_3.ok n)) (yaz)
theorem ok (n:Nat):FnOk Tryz.prog 191 ia io (fRun (X n) n T Tryz.f191 ia io):=yaM mixed tabIs (phi n) Tryz.func191 (by kernel_rfl) rfl
noncomputable def en (n:Nat):Entry:=yaI 191 ia io (fRun (X n) n T Tryz.f191 ia io)
end ycY
end Go.Proofs.YtcpkhpboemfglaaGreatDoor

namespace Go.Proofs.YtcpkhpboemfglaaGreatDoor
open Go Go.Va Go.Proofs
namespace ycK
abbrev ia:List Ai:=[.dat (.slice .str),.fn (.fn 161) []]
abbrev io:List (Nat×Oi):=[(4,.dat .bool)]
abbrev R:Type:=DOut ia io
noncomputable def X (n:Nat):Ctx:=⟨⟨tab,[ycY.en n],0,[]⟩,9,bnOf 0 ia⟩
noncomputable def T:CT := .o
noncomputable def f (n:Nat)(s_:List (ByteArray)):Option R:=fRun (X n) n T Tryz.f160 ia io (s_,())
theorem e0 (n:Nat)(s_:List (ByteArray)):f n s_ =
  bnd (ycY.f n s_) λu1=>
  some ((hide (decide (u1.1≥(0:Int)))),()):=(yaj _).trans (by kernel_rfl)
theorem phi (n:Nat):∀ e∈(X n).c.Φ,EntryOk Tryz.prog e:=yah (yab (ycY.ok n)) (yaz)
theorem ok (n:Nat):FnOk Tryz.prog 160 ia io (fRun (X n) n T Tryz.f160 ia io):=yaM mixed tabIs (phi n) Tryz.func160 (by kernel_rfl) rfl
noncomputable def en (n:Nat):Entry:=yaI 160 ia io (fRun (X n) n T Tryz.f160 ia io)
end ycK
end Go.Proofs.YtcpkhpboemfglaaGreatDoor

namespace Go.Proofs.YtcpkhpboemfglaaGreatDoor
open Go Go.Va Go.Proofs
namespace yeN
abbrev ia:List Ai:=[.dat ycy,.dat ycy]
abbrev io:List (Nat×Oi):=[(4,.dat .bool)]
abbrev R:Type:=DOut ia io
noncomputable def X (n:Nat):Ctx:=⟨⟨tab,[ybj.en n],0,[]⟩,31,bnOf 0 ia⟩
noncomputable def T:CT := .o
noncomputable def f (n:Nat)(a:ycc)(b:ycc):Option R:=fRun (X n) n T Tryz.f93 ia io (a,b,())
theorem e0 (n:Nat) (a:ycc) (b:ycc):f n a b =
  bIf ((hide (eqS a.1 b.1))) (
    bIf ((hide (a.2.1==b.2.1))) (
      bIf ((hide (a.2.2.2.1==b.2.2.2.1))) (
        bnd (ybj.f n a.2.2.1 b.2.2.1) λu1=>
        some (u1.1,())
        ) (
        some (false,())
        )
      ) (
      some (false,())
      )
    ) (
    some (false,())
    ):=(yaj _).trans (by kernel_rfl)
theorem phi (n:Nat):∀ e∈(X n).c.Φ,EntryOk Tryz.prog e:=yah (yab (ybj.ok n)) (yaz)
theorem ok (n:Nat):FnOk Tryz.prog 93 ia io (fRun (X n) n T Tryz.f93 ia io):=yaM mixed tabIs (phi n) Tryz.func93 (by kernel_rfl) rfl
noncomputable def en (n:Nat):Entry:=yaI 93 ia io (fRun (X n) n T Tryz.f93 ia io)
end yeN
end Go.Proofs.YtcpkhpboemfglaaGreatDoor

namespace Go.Proofs.YtcpkhpboemfglaaGreatDoor
open Go Go.Va Go.Proofs
namespace ybF
abbrev ia:List Ai:=[.dat (.slice ycy),.dat (.slice ycy),.fn (.fn 93) []]
abbrev io:List (Nat×Oi):=[(6,.dat .bool)]
abbrev R:Type:=DOut ia io
noncomputable def X (n:Nat):Ctx:=⟨⟨tab,[yeN.en n],0,[]⟩,32,bnOf 0 ia⟩
abbrev g1:List Si:=[.dat 1 (.slice ycy),.clo 2 (.fn 93) [],.dat 15 (.slice ycy),.dat 16 (.int .i64),.dat 17 (.int .i64)]
abbrev g2:List Si:=[]
noncomputable def T:CT:=(.s .o (.s .o (.s (.s .o (.b (.l g1 .o))) (.r g2 .o))))
noncomputable def J1 (n:Nat)(m:Nat):(List (ycc))×(List (ycc))×Int×Int×Unit→Option R:=jL (X n) n T (yaX Tryz.f92) (endK ia io) g1 [1,1,0,1,0] [] m
noncomputable def J2 (n:Nat):Unit→Option R:=jR (X n) n T (yaX Tryz.f92) (endK ia io) g2 [1,1,1] []
noncomputable def f (n:Nat)(s1:List (ycc))(s2:List (ycc)):Option R:=fRun (X n) n T Tryz.f92 ia io (s1,s2,())
theorem e0 (n:Nat)(s1:List (ycc))(s2:List (ycc)):f n s1 s2 =
  bIf ((hide (((s1.length:Nat):Int) != ((s2.length:Nat):Int)))) (
    some (false,())
    ) (
    J1 n n (s2,s1,((s1.length:Nat):Int),0,())
    ):=(yaj _).trans (by kernel_rfl)
theorem e1 (n m:Nat) (s2:List (ycc)) (t15:List (ycc)) (t16:Int) (t17:Int):J1 n (m+1) (s2,t15,t16,t17,()) =
  bIf ((hide (decide (t17<t16)))) (
    gIf (0≤t17∧t17<((t15.length:Nat):Int)) (
      gIf (0≤t17∧t17<((s2.length:Nat):Int)) (
        bnd (yeN.f n (List.getD t15 t17.toNat (Va.dflt ycy)) (List.getD s2 t17.toNat (Va.dflt ycy))) λu1=>
        bIf ((!u1.1)) (
          some (false,())
          ) (
          J1 n m (s2,t15,t16,(IntKind.i64.wrap (t17+(1:Int))),())
          )
        )
      )
    ) (
    J2 n (())
    ):=(yaj _).trans (by kernel_rfl)
theorem e2 (n:Nat):J2 n (()) =
  some (true,()):=(yaj _).trans (by kernel_rfl)
theorem phi (n:Nat):∀ e∈(X n).c.Φ,EntryOk Tryz.prog e:=yah (yab (yeN.ok n)) (yaz)
theorem ok (n:Nat):FnOk Tryz.prog 92 ia io (fRun (X n) n T Tryz.f92 ia io):=yaM mixed tabIs (phi n) Tryz.func92 (by kernel_rfl) rfl
noncomputable def en (n:Nat):Entry:=yaI 92 ia io (fRun (X n) n T Tryz.f92 ia io)
end ybF
end Go.Proofs.YtcpkhpboemfglaaGreatDoor

namespace Go.Proofs.YtcpkhpboemfglaaGreatDoor
open Go Go.Va Go.Proofs
namespace ybN
abbrev ia:List Ai:=[.dat (.slice .str),.dat (.slice .str)]
abbrev io:List (Nat×Oi):=[(4,.dat .bool)]
abbrev R:Type:=DOut ia io
noncomputable def X (n:Nat):Ctx:=⟨⟨tab,[],0,[]⟩,26,bnOf 0 ia⟩
abbrev g1:List Si:=[.dat 0 (.slice .str),.dat 1 (.slice .str),.dat 12 (.int .i64),.dat 13 (.int .i64)]
abbrev g2:List Si:=[]
noncomputable def T:CT:=(.s .o (.s .o (.s (.s .o (.b (.l g1 .o))) (.r g2 .o))))
noncomputable def J1 (n:Nat)(m:Nat):(List (ByteArray))×(List (ByteArray))×Int×Int×Unit→Option R:=jL (X n) n T (yaX Tryz.f95) (endK ia io) g1 [1,1,0,1,0] [] m
noncomputable def J2 (n:Nat):Unit→Option R:=jR (X n) n T (yaX Tryz.f95) (endK ia io) g2 [1,1,1] []
noncomputable def f (n:Nat)(s1:List (ByteArray))(s2:List (ByteArray)):Option R:=fRun (X n) n T Tryz.f95 ia io (s1,s2,())
theorem e0 (n:Nat)(s1:List (ByteArray))(s2:List (ByteArray)):f n s1 s2 =
  bIf ((hide (((s1.length:Nat):Int) != ((s2.length:Nat):Int)))) (
    some (false,())
    ) (
    J1 n n (s1,s2,((s1.length:Nat):Int),0,())
    ):=(yaj _).trans (by kernel_rfl)
theorem e1 (n m:Nat) (s1:List (ByteArray)) (s2:List (ByteArray)) (t12:Int) (t13:Int):J1 n (m+1) (s1,s2,t12,t13,()) =
  bIf ((hide (decide (t13<t12)))) (
    gIf (0≤t13∧t13<((s1.length:Nat):Int)) (
      gIf (0≤t13∧t13<((s2.length:Nat):Int)) (
        bIf ((hide (!eqS (List.getD s1 t13.toNat (⟨#[]⟩:ByteArray)) (List.getD s2 t13.toNat (⟨#[]⟩:ByteArray))))) (
          some (false,())
          ) (
          J1 n m (s1,s2,t12,(IntKind.i64.wrap (t13+(1:Int))),())
          )
        )
      )
    ) (
    J2 n (())
    ):=(yaj _).trans (by kernel_rfl)
theorem e2 (n:Nat):J2 n (()) =
  some (true,()):=(yaj _).trans (by kernel_rfl)
theorem phi (n:Nat):∀ e∈(X n).c.Φ,EntryOk Tryz.prog e:=yaz
theorem ok (n:Nat):FnOk Tryz.prog 95 ia io (fRun (X n) n T Tryz.f95 ia io):=yaM mixed tabIs (phi n) Tryz.func95 (by kernel_rfl) rfl
noncomputable def en (n:Nat):Entry:=yaI 95 ia io (fRun (X n) n T Tryz.f95 ia io)
end ybN
end Go.Proofs.YtcpkhpboemfglaaGreatDoor

namespace Go.Proofs.YtcpkhpboemfglaaGreatDoor
open Go Go.Va Go.Proofs
namespace ydZ
abbrev ia:List Ai:=[.dat ycG,.dat ycG]
abbrev io:List (Nat×Oi):=[(4,.dat .bool)]
abbrev R:Type:=DOut ia io
noncomputable def X (n:Nat):Ctx:=⟨⟨tab,[ybj.en n,ybq.en n,ybF.en n,ybu.en n,ybN.en n],0,[]⟩,59,bnOf 0 ia⟩
noncomputable def T:CT := .o
noncomputable def f (n:Nat)(a:ycl)(b:ycl):Option R:=fRun (X n) n T Tryz.f29 ia io (a,b,())
theorem e0 (n : Nat) (a:ycl) (b:ycl):f n a b =
  bIf ((hide (a.1==b.1))) (
    bIf ((hide (a.2.1==b.2.1))) (
      bIf ((hide (a.2.2.2.2.2.1==b.2.2.2.2.2.1))) (
        bnd (ybq.f n a.2.2.1 b.2.2.1) λu1=>
        bIf (u1.1) (
          bnd (ybj.f n a.2.2.2.1 b.2.2.2.1) λu2=>
          bIf (u2.1) (
            bnd (ybF.f n a.2.2.2.2.1 b.2.2.2.2.1) λu3=>
            bIf (u3.1) (
              bnd (ybu.f n a.2.2.2.2.2.2.1 b.2.2.2.2.2.2.1) λu4=>
              bIf (u4.1) (
                bnd (ybN.f n a.2.2.2.2.2.2.2.1 b.2.2.2.2.2.2.2.1) λu5=>
                some (u5.1,())
                ) (
                some (false,())
                )
              ) (
              some (false,())
              )
            ) (
            some (false,())
            )
          ) (
          some (false,())
          )
        ) (
        some (false,())
        )
      ) (
      some (false,())
      )
    ) (
    some (false,())
    ):=(yaj _).trans (by kernel_rfl)
theorem phi (n:Nat):∀ e∈(X n).c.Φ,EntryOk Tryz.prog e:=yah (yab (ybj.ok n)) (yah (yab (ybq.ok n)) (yah (yab (ybF.ok n)) (yah (yab (ybu.ok n)) (yah (yab (ybN.ok n)) (yaz)))))
theorem ok (n:Nat):FnOk Tryz.prog 29 ia io (fRun (X n) n T Tryz.f29 ia io):=yaM mixed tabIs (phi n) Tryz.func29 (by kernel_rfl) rfl
noncomputable def en (n:Nat):Entry:=yaI 29 ia io (fRun (X n) n T Tryz.f29 ia io)
end ydZ
end Go.Proofs.YtcpkhpboemfglaaGreatDoor

namespace Go.Proofs.YtcpkhpboemfglaaGreatDoor
open Go Go.Va Go.Proofs
namespace yea
abbrev ia:List Ai:=[.dat ycG]
abbrev io:List (Nat×Oi):=[(2,.dat .bool)]
abbrev R:Type:=DOut ia io
noncomputable def X (n:Nat):Ctx:=⟨⟨tab,[ydZ.en n,ydp.en n,yeh.en n,yc1.en n,ycZ.en n,ycK.en n],0,[]⟩,67,bnOf 0 ia⟩
abbrev g1:List Si:=[.ref 1 1 ycG,.box 1 (.d ycG)]
abbrev g2:List Si:=[.ref 1 1 ycG,.box 1 (.d ycG)]
abbrev g3:List Si:=[.ref 1 1 ycG,.box 1 (.d ycG)]
noncomputable def T:CT:=(.s .o (.s .o (.r g1 (.s .o (.s .o (.r g2 (.s .o (.r g3 .o))))))))
noncomputable def J1 (n:Nat):ycl×Unit→Option R:=jR (X n) n T (yaX Tryz.f82) (endK ia io) g1 [1,1] []
noncomputable def J2 (n:Nat):ycl×Unit→Option R:=jR (X n) n T (yaX Tryz.f82) (endK ia io) g2 [1,1,1,1] []
noncomputable def J3 (n:Nat):ycl×Unit→Option R:=jR (X n) n T (yaX Tryz.f82) (endK ia io) g3 [1,1,1,1,1] []
noncomputable def f (n:Nat)(r:ycl):Option R:=fRun (X n) n T Tryz.f82 ia io (r,())
theorem e0 (n:Nat)(r:ycl):f n r =
  bIf ((hide (decide (r.1<(0:Int))))) (
    some (false,())
    ) (
    bIf ((hide (decide (r.1>(18:Int))))) (
      some (false,())
      ) (
      J1 n (r,())
      )
    ):=(yaj _).trans (by kernel_rfl)
theorem e1 (n:Nat) (r:ycl):J1 n (r,()) =
  bIf ((hide (r.1 != (0:Int)))) (
    bnd (ydZ.f n r (r.1,(0,([],((0,(false,(0,(0,((List.replicate 32 0),(0,((0,(0,(false,()))),([],())))))))),([],(false,([],([],()))))))))) λu1=>
    some (u1.1,())
    ) (
    bIf ((hide (decide (((r.2.2.1.length:Nat):Int)>(16384:Int))))) (
      some (false,())
      ) (
      bnd (yeh.f n r.2.2.2.1) λu2=>
      bIf ((!u2.1)) (
        bnd (ydp.f n r.2.2.2.1) λu3=>
        bIf ((!u3.1)) (
          some (false,())
          ) (
          J2 n (r,())
          )
        ) (
        J2 n (r,())
        )
      )
    ):=(yaj _).trans (by kernel_rfl)
theorem e2 (n:Nat) (r:ycl):J2 n (r,()) =
  bIf ((hide (decide (((r.2.2.2.2.1.length:Nat):Int)>(100:Int))))) (
    some (false,())
    ) (
    bIf ((hide (decide (((r.2.2.2.2.2.2.1.length:Nat):Int)>(8:Int))))) (
      some (false,())
      ) (
      bIf ((hide (decide (((r.2.2.2.2.2.2.2.1.length:Nat):Int)>(16:Int))))) (
        some (false,())
        ) (
        J3 n (r,())
        )
      )
    ):=(yaj _).trans (by kernel_rfl)
theorem e3 (n:Nat)(r:ycl):J3 n (r,()) =
  bnd (yc1.f n r.2.2.2.2.1) λu1=>
  bIf ((!u1.1)) (
    bnd (ycZ.f n r.2.2.2.2.2.2.1) λu2=>
    bIf ((!u2.1)) (
      bnd (ycK.f n r.2.2.2.2.2.2.2.1) λu3=>
      some ((!u3.1),())
      ) (
      some (false,())
      )
    ) (
    some (false,())
    ):=(yaj _).trans (by kernel_rfl)
theorem phi (n:Nat):∀ e∈(X n).c.Φ,EntryOk Tryz.prog e:=yah (yab (ydZ.ok n)) (yah (yab (ydp.ok n)) (yah (yab (yeh.ok n)) (yah (yab (yc1.ok n)) (yah (yab (ycZ.ok n)) (yah (yab (ycK.ok n)) (yaz))))))
theorem ok (n:Nat):FnOk Tryz.prog 82 ia io (fRun (X n) n T Tryz.f82 ia io):=yaM mixed tabIs (phi n) Tryz.func82 (by kernel_rfl) rfl
noncomputable def en (n:Nat):Entry:=yaI 82 ia io (fRun (X n) n T Tryz.f82 ia io)
end yea
end Go.Proofs.YtcpkhpboemfglaaGreatDoor

namespace Go.Proofs.YtcpkhpboemfglaaGreatDoor
open Go Go.Va Go.Proofs
namespace yd0
abbrev ia:List Ai:=[.fn (.str 2) [(.p (.r 0 (.int .u8)) (.d .unit))],.dat (.slice ycy)]
abbrev io:List (Nat×Oi):=[]
abbrev R:Type:=DOut ia io
noncomputable def X (n:Nat):Ctx:=⟨⟨tab,[yau.en n,yay.en n,yaW.en n,yb9.en n],0,[]⟩,43,bnOf 0 ia⟩
abbrev g1:List Si:=[.ref 2 2 ybE,.dat 13 (.slice ycy),.dat 14 (.int .i64),.dat 15 (.int .i64),.box 2 (.p (.p (.al 500000 yby) (.d .unit)) (.d .unit)),.box 500000 (.p (.r 100000500000000 (.int .u8)) (.d .unit))]
noncomputable def T:CT:=(.s .o (.s .o (.s .o (.b (.l g1 .o)))))
noncomputable def J1 (n:Nat)(m:Nat):(List (ycc))×Int×Int×ya7×yaO×Unit→Option R:=jL (X n) n T (yaX Tryz.f86) (endK ia io) g1 [1,1,1,0] [] m
noncomputable def f (n:Nat)(wc0:yaO)(list:List (ycc)):Option R:=fRun (X n) n T Tryz.f86 ia io (wc0,list,())
theorem e0 (n:Nat)(wc0:yaO)(list:List (ycc)):f n wc0 list =
  bnd (yau.f n (wc0.1,wc0.2) (IntKind.u64.wrap ((list.length:Nat):Int))) λu1=>
  J1 n n (list,((list.length:Nat):Int),0,(((),()),()),(u1.1.1,u1.1.2),()):=(yaj _).trans (by kernel_rfl)
theorem e1 (n m:Nat) (t13:List (ycc)) (t14:Int) (t15:Int) (w_:ya7) (b500000:yaO):J1 n (m+1) (t13,t14,t15,w_,b500000,()) =
  bIf ((hide (decide (t15<t14)))) (
    gIf (0≤t15∧t15<((t13.length:Nat):Int)) (
      bnd (yay.f n (b500000.1,b500000.2) ((List.getD t13 t15.toNat (Va.dflt ycy)).1)) λu1=>
      bnd (yaW.f n (u1.1.1,u1.1.2) (((List.getD t13 t15.toNat (Va.dflt ycy)).2).1)) λu2=>
      bIf ((!(((List.getD t13 t15.toNat (Va.dflt ycy)).2).1))) (
        bnd (yb9.f n (u2.1.1,u2.1.2) ((((List.getD t13 t15.toNat (Va.dflt ycy)).2).2).1)) λu3=>
        bnd (yaW.f n (u3.1.1,u3.1.2) (((((List.getD t13 t15.toNat (Va.dflt ycy)).2).2).2).1)) λu4=>
        J1 n m (t13,t14,(IntKind.i64.wrap (t15+(1:Int))),(((),w_.1.2),w_.2),(u4.1.1,u4.1.2),())
        ) (
        J1 n m (t13,t14,(IntKind.i64.wrap (t15+(1:Int))),(((),w_.1.2),w_.2),(u2.1.1,u2.1.2),())
        )
      )
    ) (
    some ((b500000.1,b500000.2),())
    ):=(yaj _).trans (by kernel_rfl)
theorem phi (n:Nat):∀ e∈(X n).c.Φ,EntryOk Tryz.prog e:=yah (yab (yau.ok n)) (yah (yab (yay.ok n)) (yah (yab (yaW.ok n)) (yah (yab (yb9.ok n)) (yaz))))
theorem ok (n:Nat):FnOk Tryz.prog 86 ia io (fRun (X n) n T Tryz.f86 ia io):=yaM mixed tabIs (phi n) Tryz.func86 (by kernel_rfl) rfl
noncomputable def en (n:Nat):Entry:=yaI 86 ia io (fRun (X n) n T Tryz.f86 ia io)
end yd0
end Go.Proofs.YtcpkhpboemfglaaGreatDoor

namespace Go.Proofs.YtcpkhpboemfglaaGreatDoor
open Go Go.Va Go.Proofs
namespace yed
abbrev ia:List Ai:=[.dat ycG]
abbrev io:List (Nat×Oi):=[(2,.dat (.slice (.int .u8))),(3,.dat (.int .i64))]
abbrev R:Type:=DOut ia io
noncomputable def X (n:Nat):Ctx:=⟨⟨tab,[ybY.en n,yau.en n,yb0.en n,yea.en n,yay.en n,yaW.en n,yb9.en n,yd0.en n],0,[]⟩,106,bnOf 0 ia⟩
abbrev g1:List Si:=[.ref 1 1 ycG,.ref 4 4 ybE,.box 1 (.d ycG),.box 4 (.p (.p (.al 1500000000012 yby) (.d .unit)) (.d .unit)),.box 1500000000012 (.p (.r 1600000000012000 (.int .u8)) (.d .unit))]
abbrev g2:List Si:=[.ref 1 1 ycG,.ref 4 4 ybE,.dat 68 (.slice (.int .i64)),.dat 69 (.int .i64),.dat 70 (.int .i64),.box 1 (.d ycG),.box 4 (.p (.p (.al 1500000000012 yby) (.d .unit)) (.d .unit)),.box 1500000000012 (.p (.r 1600000000012000 (.int .u8)) (.d .unit))]
abbrev g3:List Si:=[.ref 1 1 ycG,.ref 4 4 ybE,.box 1 (.d ycG),.box 4 (.p (.p (.al 1500000000012 yby) (.d .unit)) (.d .unit)),.box 1500000000012 (.p (.r 1600000000012000 (.int .u8)) (.d .unit))]
abbrev g4:List Si:=[.ref 4 4 ybE,.dat 90 (.slice .str),.dat 91 (.int .i64),.dat 92 (.int .i64),.box 4 (.p (.p (.al 1500000000012 yby) (.d .unit)) (.d .unit)),.box 1500000000012 (.p (.r 1600000000012000 (.int .u8)) (.d .unit))]
abbrev g5:List Si:=[.ref 4 4 ybE,.box 4 (.p (.p (.al 1500000000012 yby) (.d .unit)) (.d .unit)),.box 1500000000012 (.p (.r 1600000000012000 (.int .u8)) (.d .unit))]
noncomputable def T:CT:=(.s .o (.s .o (.s .o (.s .o (.s .o (.s .o (.s .o (.r g1 (.s .o (.s .o (.s (.s .o (.b (.l g2 .o))) (.r g3 (.s .o (.s (.s .o (.b (.l g4 .o))) (.r g5 .o)))))))))))))))
noncomputable def J1 (n:Nat):ycl×ya7×yaO×Unit→Option R:=jR (X n) n T (yaX Tryz.f27) (endK ia io) g1 [1,1,1,1,1,1,1] []
noncomputable def J2 (n:Nat)(m:Nat):(List (Int))×Int×Int×ycl×ya7×yaO×Unit→Option R:=jL (X n) n T (yaX Tryz.f27) (endK ia io) g2 [1,1,1,1,1,1,1,1,1,0,1,0] [] m
noncomputable def J3 (n:Nat):ycl×ya7×yaO×Unit→Option R:=jR (X n) n T (yaX Tryz.f27) (endK ia io) g3 [1,1,1,1,1,1,1,1,1,1] []
noncomputable def J4 (n:Nat)(m:Nat):(List (ByteArray))×Int×Int×ya7×yaO×Unit→Option R:=jL (X n) n T (yaX Tryz.f27) (endK ia io) g4 [1,1,1,1,1,1,1,1,1,1,1,0,1,0] [] m
noncomputable def J5 (n:Nat):ya7×yaO×Unit→Option R:=jR (X n) n T (yaX Tryz.f27) (endK ia io) g5 [1,1,1,1,1,1,1,1,1,1,1,1] []
noncomputable def f (n:Nat)(r:ycl):Option R:=fRun (X n) n T Tryz.f27 ia io (r,())
theorem e0 (n:Nat) (r:ycl):f n r =
  bnd (yea.f n r) λu1=>
  bIf ((!u1.1)) (
    some ([],2,())
    ) (
    bnd (ybY.f n) λu2=>
    bnd (yau.f n (u2.1.1,u2.1.2) (IntKind.u64.wrap r.1)) λu3=>
    bIf ((hide (r.1 != (0:Int)))) (
      bnd (yb0.f n (u3.1.1,u3.1.2)) λu4=>
      some (u4.1,0,())
      ) (
      bnd (yau.f n (u3.1.1,u3.1.2) r.2.1) λu5=>
      bnd (yay.f n (u5.1.1,u5.1.2) (ya4 r.2.2.1)) λu6=>
      bnd (yaW.f n (u6.1.1,u6.1.2) (hide (r.2.2.2.1.1 != (0:Int)))) λu7=>
      bIf ((hide (r.2.2.2.1.1 != (0:Int)))) (
        bnd (yb9.f n (u7.1.1,u7.1.2) r.2.2.2.1) λu8=>
        J1 n (r,(((),()),()),(u8.1.1,u8.1.2),())
        ) (
        J1 n (r,(((),()),()),(u7.1.1,u7.1.2),())
        )
      )
    ):=(yaj _).trans (by kernel_rfl)
theorem e1 (n:Nat)(r:ycl)(w_:ya7)(b1500000000012:yaO):J1 n (r,w_,b1500000000012,()) =
  bnd (yd0.f n (b1500000000012.1,b1500000000012.2) r.2.2.2.2.1) λu1=>
  bnd (yaW.f n (u1.1.1,u1.1.2) r.2.2.2.2.2.1) λu2=>
  bnd (yau.f n (u2.1.1,u2.1.2) (IntKind.u64.wrap ((r.2.2.2.2.2.2.1.length:Nat):Int))) λu3=>
  J2 n n (r.2.2.2.2.2.2.1,((r.2.2.2.2.2.2.1.length:Nat):Int),0,r,(((),w_.1.2),w_.2),(u3.1.1,u3.1.2),()):=(yaj _).trans (by kernel_rfl)
theorem e2 (n m:Nat)(t68:List (Int))(t69:Int)(t70:Int)(r:ycl)(w_:ya7)(b1500000000012:yaO):J2 n (m+1) (t68,t69,t70,r,w_,b1500000000012,()) =
  bIf ((hide (decide (t70<t69)))) (
    gIf (0≤t70∧t70<((t68.length:Nat):Int)) (
      bnd (yau.f n (b1500000000012.1,b1500000000012.2) (IntKind.u64.wrap (List.getD t68 t70.toNat 0))) λu1=>
      J2 n m (t68,t69,(IntKind.i64.wrap (t70+(1:Int))),r,(((),w_.1.2),w_.2),(u1.1.1,u1.1.2),())
      )
    ) (
    J3 n (r,(((),w_.1.2),w_.2),(b1500000000012.1,b1500000000012.2),())
    ):=(yaj _).trans (by kernel_rfl)
theorem e3 (n:Nat)(r:ycl)(w_:ya7)(b1500000000012:yaO):J3 n (r,w_,b1500000000012,()) =
  bnd (yau.f n (b1500000000012.1,b1500000000012.2) (IntKind.u64.wrap ((r.2.2.2.2.2.2.2.1.length:Nat):Int))) λu1=>
  J4 n n (r.2.2.2.2.2.2.2.1,((r.2.2.2.2.2.2.2.1.length:Nat):Int),0,(((),w_.1.2),w_.2),(u1.1.1,u1.1.2),()):=(yaj _).trans (by kernel_rfl)
theorem e4 (n m:Nat)(t90:List (ByteArray))(t91:Int)(t92:Int)(w_:ya7)(b1500000000012:yaO):J4 n (m+1) (t90,t91,t92,w_,b1500000000012,()) =
  bIf ((hide (decide (t92<t91)))) (
    gIf (0≤t92∧t92<((t90.length:Nat):Int)) (
      bnd (yay.f n (b1500000000012.1,b1500000000012.2) (List.getD t90 t92.toNat (⟨#[]⟩:ByteArray))) λu1=>
      J4 n m (t90,t91,(IntKind.i64.wrap (t92+(1:Int))),(((),w_.1.2),w_.2),(u1.1.1,u1.1.2),())
      )
    ) (
    J5 n ((((),w_.1.2),w_.2),(b1500000000012.1,b1500000000012.2),())
    ):=(yaj _).trans (by kernel_rfl)
theorem e5 (n:Nat)(w_:ya7)(b1500000000012:yaO):J5 n (w_,b1500000000012,()) =
  bnd (yb0.f n (b1500000000012.1,b1500000000012.2)) λu1=>
  some (u1.1,0,()):=(yaj _).trans (by kernel_rfl)
theorem phi (n:Nat):∀ e∈(X n).c.Φ,EntryOk Tryz.prog e:=yah (yab (ybY.ok n)) (yah (yab (yau.ok n)) (yah (yab (yb0.ok n)) (yah (yab (yea.ok n)) (yah (yab (yay.ok n)) (yah (yab (yaW.ok n)) (yah (yab (yb9.ok n)) (yah (yab (yd0.ok n)) (yaz))))))))
theorem ok (n:Nat):FnOk Tryz.prog 27 ia io (fRun (X n) n T Tryz.f27 ia io):=yaM mixed tabIs (phi n) Tryz.func27 (by kernel_rfl) rfl
noncomputable def en (n:Nat):Entry:=yaI 27 ia io (fRun (X n) n T Tryz.f27 ia io)
end yed
end Go.Proofs.YtcpkhpboemfglaaGreatDoor

namespace Go.Proofs.YtcpkhpboemfglaaGreatDoor
open Go Go.Va Go.Proofs
namespace yb8
abbrev ia:List Ai:=[]
abbrev io:List (Nat×Oi):=[(0,.dat .bool)]
abbrev R:Type:=DOut ia io
noncomputable def X (n:Nat):Ctx:=⟨⟨tab,[ya8.en n,yed.en n,ybM.en n],0,[]⟩,47,bnOf 0 ia⟩
noncomputable def T:CT := .o
noncomputable def f (n:Nat):Option R:=fRun (X n) n T Tryz.f25 ia io (())
theorem e0 (n:Nat):f n =
  bnd (ybM.f n (7,((⟨#[109,101]⟩:ByteArray),((⟨#[97,98,99]⟩:ByteArray),((⟨#[107]⟩:ByteArray),(0,([],([],((0,(0,(false,()))),(false,((0,(0,())),([],([],(0,([],((⟨#[]⟩:ByteArray),((⟨#[]⟩:ByteArray),((⟨#[]⟩:ByteArray),(((⟨#[]⟩:ByteArray),((⟨#[]⟩:ByteArray),(0,()))),(0,())))))))))))))))))))) λu1=>
  bnd (ya8.f n u1.1) λu2=>
  bnd (yed.f n (7,(0,([],((0,(false,(0,(0,((List.replicate 32 0),(0,((0,(0,(false,()))),([],())))))))),([],(false,([],([],()))))))))) λu3=>
  bIf ((hide (u1.2.1==(0:Int)))) (
    bIf ((hide (u2.2.1==(0:Int)))) (
      bIf ((hide (u3.2.1==(0:Int)))) (
        bIf ((hide (eqS (ya4 u1.1) (⟨#[7,2,109,101,3,97,98,99,1,107,0]⟩:ByteArray)))) (
          bIf ((hide (eqS u2.1.2.2.2.1 (⟨#[107]⟩:ByteArray)))) (
            some ((hide (eqS (ya4 u3.1) (⟨#[7]⟩:ByteArray))),())
            ) (
            some (false,())
            )
          ) (
          some (false,())
          )
        ) (
        some (false,())
        )
      ) (
      some (false,())
      )
    ) (
    some (false,())
    ):=(yaj _).trans (by kernel_rfl)
theorem phi (n:Nat):∀ e∈(X n).c.Φ,EntryOk Tryz.prog e:=yah (yab (ya8.ok n)) (yah (yab (yed.ok n)) (yah (yab (ybM.ok n)) (yaz)))
theorem ok (n:Nat):FnOk Tryz.prog 25 ia io (fRun (X n) n T Tryz.f25 ia io):=yaM mixed tabIs (phi n) Tryz.func25 (by kernel_rfl) rfl
noncomputable def en (n:Nat):Entry:=yaI 25 ia io (fRun (X n) n T Tryz.f25 ia io)
end yb8
end Go.Proofs.YtcpkhpboemfglaaGreatDoor

namespace Go.Proofs.YtcpkhpboemfglaaGreatDoor
open Go Go.Va Go.Proofs
namespace ycq
abbrev ia:List Ai:=[.dat yas,.dat yas]
abbrev io:List (Nat×Oi):=[(4,.dat .bool)]
abbrev R:Type:=DOut ia io
noncomputable def X (n:Nat):Ctx:=⟨⟨tab,[ycR.en n,ybH.en n,yb8.en n,ybM.en n,yd1.en n],0,[]⟩,40,bnOf 0 ia⟩
noncomputable def T:CT := .o
noncomputable def f (n:Nat)(r:yao)(x_:yao):Option R:=fRun (X n) n T Tryz.f11 ia io (r,x_,())
theorem e0 (n:Nat) (r:yao) (x_:yao):f n r x_ =
  bnd (ybM.f n r) λu1=>
  bnd (ycR.f n r) λu2=>
  bnd (yb8.f n) λu3=>
  bIf (u3.1) (
    bIf ((hide (eqS (ya4 u1.1) u2.1))) (
      bIf ((hide (u1.2.1==u2.2.1))) (
        bnd (yd1.f n r x_) λu4=>
        bnd (ybH.f n r x_) λu5=>
        some ((hide (u4.1==u5.1)),())
        ) (
        some (false,())
        )
      ) (
      some (false,())
      )
    ) (
    some (false,())
    ):=(yaj _).trans (by kernel_rfl)
theorem phi (n:Nat):∀ e∈(X n).c.Φ,EntryOk Tryz.prog e:=yah (yab (ycR.ok n)) (yah (yab (ybH.ok n)) (yah (yab (yb8.ok n)) (yah (yab (ybM.ok n)) (yah (yab (yd1.ok n)) (yaz)))))
theorem ok (n:Nat):FnOk Tryz.prog 11 ia io (fRun (X n) n T Tryz.f11 ia io):=yaM mixed tabIs (phi n) Tryz.func11 (by kernel_rfl) rfl
noncomputable def en (n:Nat):Entry:=yaI 11 ia io (fRun (X n) n T Tryz.f11 ia io)
end ycq
end Go.Proofs.YtcpkhpboemfglaaGreatDoor

namespace Go.Proofs.YtcpkhpboemfglaaGreatDoor
open Go Go.Va Go.Proofs
namespace ybP
abbrev ia:List Ai:=[.dat yas,.dat (.slice (.int .u8))]
abbrev io:List (Nat×Oi):=[(4,.dat .bool)]
abbrev R:Type:=DOut ia io
noncomputable def X (n:Nat):Ctx:=⟨⟨tab,[ycR.en n,ya8.en n,ybH.en n,yb8.en n,ybm.en n],0,[]⟩,71,bnOf 0 ia⟩
abbrev g1:List Si:=[.dat 1 (.slice (.int .u8))]
noncomputable def T:CT:=(.s .o (.s .o (.s .o (.r g1 .o))))
noncomputable def J1 (n:Nat):(List (Int))×Unit→Option R:=jR (X n) n T (yaX Tryz.f8) (endK ia io) g1 [1,1,1] []
noncomputable def f (n:Nat)(r:yao)(b:List (Int)):Option R:=fRun (X n) n T Tryz.f8 ia io (r,b,())
theorem e0 (n:Nat) (r:yao) (b:List (Int)):f n r b =
  bnd (ycR.f n r) λu1=>
  bIf ((hide (u1.2.1==(0:Int)))) (
    bnd (ya8.f n (ycN u1.1)) λu2=>
    bIf ((hide (u2.2.1 != (0:Int)))) (
      some (false,())
      ) (
      bnd (ybH.f n u2.1 r) λu3=>
      bIf ((!u3.1)) (
        some (false,())
        ) (
        J1 n (b,())
        )
      )
    ) (
    J1 n (b,())
    ):=(yaj _).trans (by kernel_rfl)
theorem e1 (n:Nat) (b:List (Int)):J1 n (b,()) =
  bnd (ya8.f n b) λu1=>
  bIf ((hide (u1.2.1 != (0:Int)))) (
    bnd (yb8.f n) λu2=>
    bIf (u2.1) (
      bIf ((hide (u1.2.1==(2:Int)))) (
        bnd (ybH.f n u1.1 (0,((⟨#[]⟩:ByteArray),((⟨#[]⟩:ByteArray),((⟨#[]⟩:ByteArray),(0,([],([],((0,(0,(false,()))),(false,((0,(0,())),([],([],(0,([],((⟨#[]⟩:ByteArray),((⟨#[]⟩:ByteArray),((⟨#[]⟩:ByteArray),(((⟨#[]⟩:ByteArray),((⟨#[]⟩:ByteArray),(0,()))),(0,())))))))))))))))))))) λu3=>
        some (u3.1,())
        ) (
        some (false,())
        )
      ) (
      some (false,())
      )
    ) (
    bnd (ycR.f n u1.1) λu4=>
    bnd (yb8.f n) λu5=>
    bIf (u5.1) (
      bIf ((hide (u4.2.1==(0:Int)))) (
        bIf ((hide (eqS u4.1 (ya4 b)))) (
          bnd (ybm.f n u1.1) λu6=>
          some (u6.1,())
          ) (
          some (false,())
          )
        ) (
        some (false,())
        )
      ) (
      some (false,())
      )
    ):=(yaj _).trans (by kernel_rfl)
theorem phi (n:Nat):∀ e∈(X n).c.Φ,EntryOk Tryz.prog e:=yah (yab (ycR.ok n)) (yah (yab (ya8.ok n)) (yah (yab (ybH.ok n)) (yah (yab (yb8.ok n)) (yah (yab (ybm.ok n)) (yaz)))))
theorem ok (n:Nat):FnOk Tryz.prog 8 ia io (fRun (X n) n T Tryz.f8 ia io):=yaM mixed tabIs (phi n) Tryz.func8 (by kernel_rfl) rfl
noncomputable def en (n:Nat):Entry:=yaI 8 ia io (fRun (X n) n T Tryz.f8 ia io)
end ybP
end Go.Proofs.YtcpkhpboemfglaaGreatDoor

namespace Go.Proofs.YtcpkhpboemfglaaGreatDoor
open Go Go.Va Go.Proofs
namespace ybI
abbrev ia:List Ai:=[.dat yas,.dat (.int .u16),.dat (.slice (.int .u8))]
abbrev io:List (Nat×Oi):=[(6,.dat .bool)]
abbrev R:Type:=DOut ia io
noncomputable def X (n:Nat):Ctx:=⟨⟨tab,[ya8.en n,yb8.en n,ybm.en n,ybM.en n],0,[]⟩,66,bnOf 0 ia⟩
abbrev g1:List Si:=[.dat 1 (.int .u16),.dat 2 (.slice (.int .u8)),.ref 3 3 yas,.dat 7 (.slice (.int .u8)),.dat 8 (.int .i64),.dat 23 .bool,.box 3 (.d yas)]
abbrev g2:List Si:=[.dat 1 (.int .u16),.dat 2 (.slice (.int .u8)),.dat 7 (.slice (.int .u8))]
noncomputable def T:CT:=(.s .o (.s .o (.s (.s .o (.r g1 .o)) (.r g2 .o))))
noncomputable def J1 (n:Nat):Int×(List (Int))×(List (Int))×Int×Bool×yao×Unit→Option R:=jR (X n) n T (yaX Tryz.f10) (endK ia io) g1 [1,1,0,1] []
noncomputable def J2 (n:Nat):Int×(List (Int))×(List (Int))×Unit→Option R:=jR (X n) n T (yaX Tryz.f10) (endK ia io) g2 [1,1,1] []
noncomputable def f (n:Nat)(r:yao)(cut:Int)(more:List (Int)):Option R:=fRun (X n) n T Tryz.f10 ia io (r,cut,more,())
theorem e0 (n:Nat)(r:yao)(cut:Int)(more:List (Int)):f n r cut more =
  bnd (ybM.f n r) λu1=>
  bnd (yb8.f n) λu2=>
  bIf ((!u2.1)) (
    J1 n (cut,more,u1.1,u1.2.1,true,r,())
    ) (
    J1 n (cut,more,u1.1,u1.2.1,(hide (u1.2.1 != (0:Int))),r,())
    ):=(yaj _).trans (by kernel_rfl)
theorem e1 (n:Nat) (cut:Int) (more:List (Int)) (b:List (Int)) (e_:Int) (t23:Bool) (r:yao):J1 n (cut,more,b,e_,t23,r,()) =
  bIf (t23) (
    bnd (yb8.f n) λu1=>
    bIf (u1.1) (
      bIf ((hide (e_==(2:Int)))) (
        bnd (ybm.f n r) λu2=>
        some ((!u2.1),())
        ) (
        some (false,())
        )
      ) (
      some (false,())
      )
    ) (
    J2 n (cut,more,b,())
    ):=(yaj _).trans (by kernel_rfl)
theorem e2 (n : Nat) (cut:Int) (more:List (Int)) (b:List (Int)):J2 n (cut,more,b,()) =
  gNo (((b.length:Nat):Int)=0) (
    gIf (0≤(Int.tmod (IntKind.i64.wrap cut) ((b.length:Nat):Int))∧(Int.tmod (IntKind.i64.wrap cut) ((b.length:Nat):Int))≤((b.length:Nat):Int)) (
      gIf (0≤(0:Int)∧(0:Int)≤(Int.tmod (IntKind.i64.wrap cut) ((b.length:Nat):Int))) (
        gIf ((([]:List (Int)).length+((b.take ((Int.tmod (IntKind.i64.wrap cut) ((b.length:Nat):Int)).toNat)).drop 0).length)*1≤70368744177664) (
          bnd (ya8.f n (([]:List (Int))++((b.take ((Int.tmod (IntKind.i64.wrap cut) ((b.length:Nat):Int)).toNat)).drop 0))) λu1=>
          gIf ((([]:List (Int)).length+b.length)*1≤70368744177664) (
            gIf (((([]:List (Int))++b).length+more.length)*1≤70368744177664) (
              bnd (ya8.f n ((([]:List (Int))++b)++more)) λu2=>
              bIf ((hide (u1.2.1==(2:Int)))) (
                some ((hide ((hide (u2.2.1==(0:Int)))==(hide (((more.length:Nat):Int)==(0:Int))))),())
                ) (
                some (false,())
                )
              )
            )
          )
        )
      )
    ):=(yaj _).trans (by kernel_rfl)
theorem phi (n:Nat):∀ e∈(X n).c.Φ,EntryOk Tryz.prog e:=yah (yab (ya8.ok n)) (yah (yab (yb8.ok n)) (yah (yab (ybm.ok n)) (yah (yab (ybM.ok n)) (yaz))))
theorem ok (n:Nat):FnOk Tryz.prog 10 ia io (fRun (X n) n T Tryz.f10 ia io):=yaM mixed tabIs (phi n) Tryz.func10 (by kernel_rfl) rfl
noncomputable def en (n:Nat):Entry:=yaI 10 ia io (fRun (X n) n T Tryz.f10 ia io)
end ybI
end Go.Proofs.YtcpkhpboemfglaaGreatDoor

