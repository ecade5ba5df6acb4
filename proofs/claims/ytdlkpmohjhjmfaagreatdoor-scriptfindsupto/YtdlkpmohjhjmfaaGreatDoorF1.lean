/-
  What the functions compute, by the abstract interpreter.
-/
import Derived.Test.YtdlkpmohjhjmfaaGreatDoorF0
set_option linter.unusedVariables false
set_option linter.unusedSimpArgs false
namespace Go.Proofs.YtdlkpmohjhjmfaaGreatDoor
open Go Go.Va Go.Proofs
namespace yds
abbrev ia:List Ai:=[.dat yav,.dat yav]
abbrev io:List (Nat×Oi):=[(4,.dat .bool)]
abbrev R:Type:=DOut ia io
noncomputable def X (n:Nat):Ctx:=⟨⟨tab,[ybg.en n,ycJ.en n,ycY.en n,ybH.en n,ya4.en n],0,[]⟩,132,bnOf 0 ia⟩
abbrev g1:List Si:=[.ref 2 2 yav,.ref 3 3 yav,.box 2 (.d yav),.box 3 (.d yav)]
abbrev g2:List Si:=[.ref 2 2 yav,.ref 3 3 yav,.box 2 (.d yav),.box 3 (.d yav)]
noncomputable def T:CT:=(.s .o (.s .o (.r g1 (.s .o (.r g2 .o)))))
noncomputable def J1 (n:Nat):yap×yap×Unit→Option R:=jR (X n) n T (yaR Tryz.f77) (endK ia io) g1 [1,1] []
noncomputable def J2 (n:Nat):yap×yap×Unit→Option R:=jR (X n) n T (yaR Tryz.f77) (endK ia io) g2 [1,1,1] []
noncomputable def f (n:Nat)(t:yap)(o:yap):Option R:=fRun (X n) n T Tryz.f77 ia io (t,o,())
theorem e0 (n : Nat) (t:yap) (o:yap):f n t o =
  bIf ((hide (t.1 != o.1))) (
    some (false,())
    ) (
    bIf ((hide (!eqS t.2.1 o.2.1))) (
      some (false,())
      ) (
      bIf ((hide (!eqS t.2.2.1 o.2.2.1))) (
        some (false,())
        ) (
        bIf ((hide (!eqS t.2.2.2.1 o.2.2.2.1))) (
          some (false,())
          ) (
          bIf ((hide (t.2.2.2.2.1 != o.2.2.2.2.1))) (
            some (false,())
            ) (
            bIf ((hide (!(eqD yaK t.2.2.2.2.2.2.2.1 o.2.2.2.2.2.2.2.1)))) (
              some (false,())
              ) (
              bIf ((hide (!(t.2.2.2.2.2.2.2.2.1==o.2.2.2.2.2.2.2.2.1)))) (
                some (false,())
                ) (
                bIf ((hide (!(eqD yaz t.2.2.2.2.2.2.2.2.2.1 o.2.2.2.2.2.2.2.2.2.1)))) (
                  some (false,())
                  ) (
                  J1 n (t,o,())
                  )
                )
              )
            )
          )
        )
      )
    ):=(yah _).trans (by kernel_rfl)
theorem e1 (n : Nat) (A:yap) (r:yap):J1 n (A,r,()) =
  bIf ((hide (A.2.2.2.2.2.2.2.2.2.2.2.2.1 != r.2.2.2.2.2.2.2.2.2.2.2.2.1))) (
    some (false,())
    ) (
    bIf ((hide (!eqS A.2.2.2.2.2.2.2.2.2.2.2.2.2.2.1 r.2.2.2.2.2.2.2.2.2.2.2.2.2.2.1))) (
      some (false,())
      ) (
      bIf ((hide (!eqS A.2.2.2.2.2.2.2.2.2.2.2.2.2.2.2.1 r.2.2.2.2.2.2.2.2.2.2.2.2.2.2.2.1))) (
        some (false,())
        ) (
        bIf ((hide (!eqS A.2.2.2.2.2.2.2.2.2.2.2.2.2.2.2.2.1 r.2.2.2.2.2.2.2.2.2.2.2.2.2.2.2.2.1))) (
          some (false,())
          ) (
          bIf ((hide (!(eqD yaU A.2.2.2.2.2.2.2.2.2.2.2.2.2.2.2.2.2.1 r.2.2.2.2.2.2.2.2.2.2.2.2.2.2.2.2.2.1)))) (
            some (false,())
            ) (
            bIf ((hide (A.2.2.2.2.2.2.2.2.2.2.2.2.2.2.2.2.2.2.1 != r.2.2.2.2.2.2.2.2.2.2.2.2.2.2.2.2.2.2.1))) (
              some (false,())
              ) (
              J2 n (A,r,())
              )
            )
          )
        )
      )
    ):=(yah _).trans (by kernel_rfl)
theorem e2 (n:Nat) (A:yap) (r:yap):J2 n (A,r,()) =
  bnd (ybg.f n A.2.2.2.2.2.1 r.2.2.2.2.2.1) λu1=>
  bIf (u1.1) (
    bnd (ycJ.f n A.2.2.2.2.2.2.1 r.2.2.2.2.2.2.1) λu2=>
    bIf (u2.1) (
      bnd (ycY.f n A.2.2.2.2.2.2.2.2.2.2.1 r.2.2.2.2.2.2.2.2.2.2.1) λu3=>
      bIf (u3.1) (
        bnd (ybH.f n A.2.2.2.2.2.2.2.2.2.2.2.1 r.2.2.2.2.2.2.2.2.2.2.2.1) λu4=>
        bIf (u4.1) (
          bnd (ya4.f n A.2.2.2.2.2.2.2.2.2.2.2.2.2.1 r.2.2.2.2.2.2.2.2.2.2.2.2.2.1) λu5=>
          some (u5.1,())
          ) (
          some (false,())
          )
        ) (
        some (false,())
        )
      ) (
      some (false,())
      )
    ) (
    some (false,())
    ):=(yah _).trans (by kernel_rfl)
theorem phi (n:Nat):∀ e∈(X n).c.Φ,EntryOk Tryz.prog e:=yae (yac (ybg.ok n)) (yae (yac (ycJ.ok n)) (yae (yac (ycY.ok n)) (yae (yac (ybH.ok n)) (yae (yac (ya4.ok n)) (yax)))))
theorem ok (n:Nat):FnOk Tryz.prog 77 ia io (fRun (X n) n T Tryz.f77 ia io):=yaH mixed tabIs (phi n) Tryz.func77 (by kernel_rfl) rfl
noncomputable def en (n:Nat):Entry:=yaD 77 ia io (fRun (X n) n T Tryz.f77 ia io)
end yds
end Go.Proofs.YtdlkpmohjhjmfaaGreatDoor

namespace Go.Proofs.YtdlkpmohjhjmfaaGreatDoor
open Go Go.Va Go.Proofs
namespace ycn
abbrev ia:List Ai:=[.dat yav,.dat yav]
abbrev io:List (Nat×Oi):=[(4,.dat .bool)]
abbrev R:Type:=DOut ia io
noncomputable def X (n:Nat):Ctx:=⟨⟨tab,[ydk.en n],0,[]⟩,158,bnOf 0 ia⟩
abbrev g1:List Si:=[.ref 2 2 yav,.ref 3 3 yav,.box 2 (.d yav),.box 3 (.d yav)]
abbrev g2:List Si:=[.ref 2 2 yav,.ref 3 3 yav,.box 2 (.d yav),.box 3 (.d yav)]
abbrev g3:List Si:=[.ref 2 2 yav,.ref 3 3 yav,.dat 7 (.int .i64),.box 2 (.d yav),.box 3 (.d yav)]
abbrev g4:List Si:=[]
noncomputable def T:CT:=(.s .o (.s .o (.r g1 (.s .o (.s .o (.s .o (.r g2 (.s (.s .o (.b (.l g3 .o))) (.r g4 .o)))))))))
noncomputable def J1 (n:Nat):yap×yap×Unit→Option R:=jR (X n) n T (yaR Tryz.f26) (endK ia io) g1 [1,1] []
noncomputable def J2 (n:Nat):yap×yap×Unit→Option R:=jR (X n) n T (yaR Tryz.f26) (endK ia io) g2 [1,1,1,1,1] []
noncomputable def J3 (n:Nat)(m:Nat):Int×yap×yap×Unit→Option R:=jL (X n) n T (yaR Tryz.f26) (endK ia io) g3 [1,1,1,1,1,0,1,0] [] m
noncomputable def J4 (n:Nat):Unit→Option R:=jR (X n) n T (yaR Tryz.f26) (endK ia io) g4 [1,1,1,1,1,1] []
noncomputable def f (n:Nat)(t:yap)(o:yap):Option R:=fRun (X n) n T Tryz.f26 ia io (t,o,())
theorem e0 (n : Nat) (t : yap) (o:yap):f n t o =
  bIf ((hide (t.1 != o.1))) (
    some (false,())
    ) (
    bIf ((hide (!eqS t.2.1 o.2.1))) (
      some (false,())
      ) (
      bIf ((hide (!eqS t.2.2.1 o.2.2.1))) (
        some (false,())
        ) (
        bIf ((hide (!eqS t.2.2.2.1 o.2.2.2.1))) (
          some (false,())
          ) (
          bIf ((hide (t.2.2.2.2.1 != o.2.2.2.2.1))) (
            some (false,())
            ) (
            bIf ((hide (!eqS (ybp t.2.2.2.2.2.1) (ybp o.2.2.2.2.2.1)))) (
              some (false,())
              ) (
              bIf ((hide (!(eqD yaK t.2.2.2.2.2.2.2.1 o.2.2.2.2.2.2.2.1)))) (
                some (false,())
                ) (
                bIf ((hide (!(t.2.2.2.2.2.2.2.2.1==o.2.2.2.2.2.2.2.2.1)))) (
                  some (false,())
                  ) (
                  bIf ((hide (!(eqD yaz t.2.2.2.2.2.2.2.2.2.1 o.2.2.2.2.2.2.2.2.2.1)))) (
                    some (false,())
                    ) (
                    bIf ((hide (t.2.2.2.2.2.2.2.2.2.2.2.2.1 != o.2.2.2.2.2.2.2.2.2.2.2.2.1))) (
                      some (false,())
                      ) (
                      bIf ((hide (!eqS t.2.2.2.2.2.2.2.2.2.2.2.2.2.2.1 o.2.2.2.2.2.2.2.2.2.2.2.2.2.2.1))) (
                        some (false,())
                        ) (
                        bIf ((hide (!eqS t.2.2.2.2.2.2.2.2.2.2.2.2.2.2.2.1 o.2.2.2.2.2.2.2.2.2.2.2.2.2.2.2.1))) (
                          some (false,())
                          ) (
                          bIf ((hide (!eqS t.2.2.2.2.2.2.2.2.2.2.2.2.2.2.2.2.1 o.2.2.2.2.2.2.2.2.2.2.2.2.2.2.2.2.1))) (
                            some (false,())
                            ) (
                            bIf ((hide (!(eqD yaU t.2.2.2.2.2.2.2.2.2.2.2.2.2.2.2.2.2.1 o.2.2.2.2.2.2.2.2.2.2.2.2.2.2.2.2.2.1)))) (
                              some (false,())
                              ) (
                              bIf ((hide (t.2.2.2.2.2.2.2.2.2.2.2.2.2.2.2.2.2.2.1 != o.2.2.2.2.2.2.2.2.2.2.2.2.2.2.2.2.2.2.1))) (
                                some (false,())
                                ) (
                                J1 n (t,o,())
                                )
                              )
                            )
                          )
                        )
                      )
                    )
                  )
                )
              )
            )
          )
        )
      )
    ):=(yah _).trans (by kernel_rfl)
theorem e1 (n:Nat)(A:yap)(r:yap):J1 n (A,r,()) =
  bnd (ydk.f n (0,(0,((⟨#[]⟩:ByteArray),((⟨#[]⟩:ByteArray),(0,((0,(false,(0,(0,((List.replicate 32 0),(0,((0,(0,(false,()))),([],())))))))),((0,(0,(false,()))),(A.2.2.2.2.2.2.1,((0,(0,())),(A.2.2.2.2.2.2.2.2.2.2.1,(A.2.2.2.2.2.2.2.2.2.2.2.1,((0,(0,(0,((List.replicate 32 0),())))),())))))))))))) (0,(0,((⟨#[]⟩:ByteArray),((⟨#[]⟩:ByteArray),(0,((0,(false,(0,(0,((List.replicate 32 0),(0,((0,(0,(false,()))),([],())))))))),((0,(0,(false,()))),(r.2.2.2.2.2.2.1,((0,(0,())),(r.2.2.2.2.2.2.2.2.2.2.1,(r.2.2.2.2.2.2.2.2.2.2.2.1,((0,(0,(0,((List.replicate 32 0),())))),()))))))))))))) λu1=>
  bIf ((!u1.1)) (
    some (false,())
    ) (
    bIf ((hide (((A.2.2.2.2.2.2.2.2.2.2.2.2.2.1.length:Nat):Int) != ((r.2.2.2.2.2.2.2.2.2.2.2.2.2.1.length:Nat):Int)))) (
      some (false,())
      ) (
      J2 n (A,r,())
      )
    ):=(yah _).trans (by kernel_rfl)
theorem e2 (n:Nat)(A:yap)(r:yap):J2 n (A,r,()) =
  J3 n n (0,A,r,()):=(yah _).trans (by kernel_rfl)
theorem e3 (n m:Nat) (t7:Int) (A:yap) (r:yap):J3 n (m+1) (t7,A,r,()) =
  bIf ((hide (decide (t7<((A.2.2.2.2.2.2.2.2.2.2.2.2.2.1.length:Nat):Int))))) (
    gIf (0≤t7∧t7<((A.2.2.2.2.2.2.2.2.2.2.2.2.2.1.length:Nat):Int)) (
      gIf (0≤t7∧t7<((r.2.2.2.2.2.2.2.2.2.2.2.2.2.1.length:Nat):Int)) (
        bIf ((hide ((List.getD A.2.2.2.2.2.2.2.2.2.2.2.2.2.1 t7.toNat 0) != (List.getD r.2.2.2.2.2.2.2.2.2.2.2.2.2.1 t7.toNat 0)))) (
          some (false,())
          ) (
          J3 n m ((IntKind.i64.wrap (t7+(1:Int))),A,r,())
          )
        )
      )
    ) (
    J4 n (())
    ):=(yah _).trans (by kernel_rfl)
theorem e4 (n:Nat):J4 n (()) =
  some (true,()):=(yah _).trans (by kernel_rfl)
theorem phi (n:Nat):∀ e∈(X n).c.Φ,EntryOk Tryz.prog e:=yae (yac (ydk.ok n)) (yax)
theorem ok (n:Nat):FnOk Tryz.prog 26 ia io (fRun (X n) n T Tryz.f26 ia io):=yaH mixed tabIs (phi n) Tryz.func26 (by kernel_rfl) rfl
noncomputable def en (n:Nat):Entry:=yaD 26 ia io (fRun (X n) n T Tryz.f26 ia io)
end ycn
end Go.Proofs.YtdlkpmohjhjmfaaGreatDoor

namespace Go.Proofs.YtdlkpmohjhjmfaaGreatDoor
open Go Go.Va Go.Proofs
namespace yca
abbrev ia:List Ai:=[.fn (.str 2) [(.p (.r 0 (.int .u8)) (.d .unit))],.dat yav]
abbrev io:List (Nat×Oi):=[(4,.argc 2 500000 (.d ybr))]
abbrev R:Type:=DOut ia io
noncomputable def X (n:Nat):Ctx:=⟨⟨tab,[yam.en n,yas.en n],0,[]⟩,15,bnOf 0 ia⟩
noncomputable def T:CT := .o
noncomputable def f (n:Nat)(wc0:yaC)(r:yap):Option R:=fRun (X n) n T Tryz.f137 ia io (wc0,r,())
theorem e0 (n:Nat)(wc0:yaC)(r:yap):f n wc0 r =
  bnd (yas.f n (wc0.1,wc0.2) r.2.2.2.1) λu1=>
  bnd (yam.f n (u1.1.1,u1.1.2) r.2.2.2.2.1) λu2=>
  some ((u2.1.1,u2.1.2),()):=(yah _).trans (by kernel_rfl)
theorem phi (n:Nat):∀ e∈(X n).c.Φ,EntryOk Tryz.prog e:=yae (yac (yam.ok n)) (yae (yac (yas.ok n)) (yax))
theorem ok (n:Nat):FnOk Tryz.prog 137 ia io (fRun (X n) n T Tryz.f137 ia io):=yaH mixed tabIs (phi n) Tryz.func137 (by kernel_rfl) rfl
noncomputable def en (n:Nat):Entry:=yaD 137 ia io (fRun (X n) n T Tryz.f137 ia io)
end yca
end Go.Proofs.YtdlkpmohjhjmfaaGreatDoor

namespace Go.Proofs.YtdlkpmohjhjmfaaGreatDoor
open Go Go.Va Go.Proofs
namespace yad
abbrev ia:List Ai:=[.fn (.str 2) [(.p (.r 0 (.int .u8)) (.d .unit))],.dat yav]
abbrev io:List (Nat×Oi):=[]
abbrev R:Type:=DOut ia io
noncomputable def X (n:Nat):Ctx:=⟨⟨tab,[yam.en n,yas.en n,yaJ.en n,ybz.en n,ybw.en n,ya5.en n,ycj.en n,ybP.en n,ybL.en n,yca.en n],0,[]⟩,230,bnOf 0 ia⟩
abbrev g1:List Si:=[.ref 2 2 ybB,.ref 3 3 yav,.dat 7 (.int .i64),.dat 8 .bool,.box 2 (.p (.p (.al 500000 ybr) (.d .unit)) (.d .unit)),.box 3 (.d yav),.box 500000 (.p (.r 100000500000000 (.int .u8)) (.d .unit))]
abbrev g2:List Si:=[.ref 2 2 ybB,.ref 3 3 yav,.dat 7 (.int .i64),.dat 52 .bool,.box 2 (.p (.p (.al 500000 ybr) (.d .unit)) (.d .unit)),.box 3 (.d yav),.box 500000 (.p (.r 100000500000000 (.int .u8)) (.d .unit))]
abbrev g3:List Si:=[.ref 2 2 ybB,.dat 190 (.slice (.int .i64)),.dat 191 (.int .i64),.dat 192 (.int .i64),.box 2 (.p (.p (.al 500000 ybr) (.d .unit)) (.d .unit)),.box 500000 (.p (.r 100000500000000 (.int .u8)) (.d .unit))]
noncomputable def T:CT:=(.s .o (.s .o (.b (.s .o (.r g1 (.c .o (.s .o (.c .o (.s .o (.c .o (.s .o (.c .o (.s .o (.r g2 (.c .o (.s .o (.c .o (.s .o (.c .o (.s .o (.c .o (.s .o (.c .o (.s .o (.c .o (.s .o (.c .o (.s .o (.c .o (.s .o (.c .o (.s .o (.c .o (.s .o (.c (.s .o (.s .o (.b (.l g3 .o)))) .o)))))))))))))))))))))))))))))))))))
noncomputable def J1 (n:Nat):Int×Bool×yaY×yap×yaC×Unit→Option R:=jR (X n) n T (yaR Tryz.f76) (endK ia io) g1 [1,1,0,1] []
noncomputable def J2 (n:Nat):Int×Bool×yaY×yap×yaC×Unit→Option R:=jR (X n) n T (yaR Tryz.f76) (endK ia io) g2 [1,1,0,1,1,1,1,1,1,1,1,1] []
noncomputable def J3 (n:Nat)(m:Nat):(List (Int))×Int×Int×yaY×yaC×Unit→Option R:=jL (X n) n T (yaR Tryz.f76) (endK ia io) g3 [1,1,0,1,1,1,1,1,1,1,1,1,1,1,1,1,1,1,1,1,1,1,1,1,1,1,1,1,1,1,1,1,0,1,1,0] [] m
noncomputable def f (n:Nat)(tc0:yaC)(o:yap):Option R:=fRun (X n) n T Tryz.f76 ia io (tc0,o,())
theorem e0 (n:Nat)(tc0:yaC)(o:yap):f n tc0 o =
  bIf ((hide (o.1==(1:Int)))) (
    J1 n (o.1,true,(((),()),()),o,(tc0.1,tc0.2),())
    ) (
    J1 n (o.1,(hide (o.1==(3:Int))),(((),()),()),o,(tc0.1,tc0.2),())
    ):=(yah _).trans (by kernel_rfl)
theorem e1 (n:Nat) (t7:Int) (t8:Bool) (A:yaY) (r:yap) (b500000:yaC):J1 n (t7,t8,A,r,b500000,()) =
  bIf (t8) (
    bnd (ycj.f n (b500000.1,b500000.2) r.2.2.2.2.2.2.2.2.2.1) λu1=>
    some ((u1.1.1,u1.1.2),())
    ) (
    bIf ((hide (t7==(4:Int)))) (
      bnd (ybP.f n (b500000.1,b500000.2) r.2.2.2.2.2.2.2.2.2.2.1) λu2=>
      some ((u2.1.1,u2.1.2),())
      ) (
      bIf ((hide (t7==(5:Int)))) (
        bnd (ybL.f n (b500000.1,b500000.2) r.2.2.2.2.2.2.2.2.2.2.2.1) λu3=>
        some ((u3.1.1,u3.1.2),())
        ) (
        bIf ((hide (t7==(6:Int)))) (
          bnd (yas.f n (b500000.1,b500000.2) r.2.2.2.1) λu4=>
          bnd (yas.f n (u4.1.1,u4.1.2) (ybp r.2.2.2.2.2.1)) λu5=>
          bnd (ya5.f n (u5.1.1,u5.1.2) r.2.2.2.2.2.2.1) λu6=>
          bnd (ybw.f n (u6.1.1,u6.1.2) r.2.2.2.2.2.2.2.1) λu7=>
          some ((u7.1.1,u7.1.2),())
          ) (
          bIf ((hide (t7==(7:Int)))) (
            J2 n (t7,true,(((),A.1.2),A.2),r,(b500000.1,b500000.2),())
            ) (
            J2 n (t7,(hide (t7==(8:Int))),(((),A.1.2),A.2),r,(b500000.1,b500000.2),())
            )
          )
        )
      )
    ):=(yah _).trans (by kernel_rfl)
theorem e2 (n : Nat) (t7:Int) (t52:Bool) (A:yaY) (r:yap) (b500000:yaC):J2 n (t7,t52,A,r,b500000,()) =
  bIf (t52) (
    bnd (yca.f n (b500000.1,b500000.2) r) λu1=>
    some ((u1.1.1,u1.1.2),())
    ) (
    bIf ((hide (t7 == (9:Int)))) (
      bnd (yas.f n (b500000.1,b500000.2) r.2.2.2.1) λu2=>
      some ((u2.1.1,u2.1.2),())
      ) (
      bIf ((hide (t7 == (10 : Int)))) (
        bnd (yca.f n (b500000.1,b500000.2) r) λu3=>
        bnd (yaJ.f n (u3.1.1,u3.1.2) r.2.2.2.2.2.2.2.2.1) λu4=>
        some ((u4.1.1,u4.1.2),())
        ) (
        bIf ((hide (t7 == (11:Int)))) (
          bnd (yca.f n (b500000.1,b500000.2) r) λu5=>
          bnd (ybw.f n (u5.1.1,u5.1.2) r.2.2.2.2.2.2.2.1) λu6=>
          bnd (yaJ.f n (u6.1.1,u6.1.2) r.2.2.2.2.2.2.2.2.1) λu7=>
          some ((u7.1.1,u7.1.2),())
          ) (
          bIf ((hide (t7 == (12:Int)))) (
            bnd (yca.f n (b500000.1,b500000.2) r) λu8=>
            bnd (ybw.f n (u8.1.1,u8.1.2) r.2.2.2.2.2.2.2.1) λu9=>
            some ((u9.1.1,u9.1.2),())
            ) (
            bIf ((hide (t7==(13:Int)))) (
              bnd (yca.f n (b500000.1,b500000.2) r) λu10=>
              bnd (ya5.f n (u10.1.1,u10.1.2) r.2.2.2.2.2.2.1) λu11=>
              some ((u11.1.1,u11.1.2),())
              ) (
              bIf ((hide (t7==(14:Int)))) (
                bnd (yas.f n (b500000.1,b500000.2) r.2.2.2.2.2.2.2.2.2.2.2.2.2.2.2.1) λu12=>
                bnd (yas.f n (u12.1.1,u12.1.2) r.2.2.2.2.2.2.2.2.2.2.2.2.2.2.2.2.1) λu13=>
                bnd (yas.f n (u13.1.1,u13.1.2) r.2.2.2.2.2.2.2.2.2.2.2.2.2.2.1) λu14=>
                bnd (yam.f n (u14.1.1,u14.1.2) (IntKind.u64.wrap r.2.2.2.2.2.2.2.2.2.2.2.2.2.2.2.2.2.2.1)) λu15=>
                some ((u15.1.1,u15.1.2),())
                ) (
                bIf ((hide (t7==(15:Int)))) (
                  bnd (yas.f n (b500000.1,b500000.2) r.2.2.2.2.2.2.2.2.2.2.2.2.2.2.2.1) λu16=>
                  bnd (yas.f n (u16.1.1,u16.1.2) r.2.2.2.2.2.2.2.2.2.2.2.2.2.2.2.2.2.1.2.1) λu17=>
                  bnd (yam.f n (u17.1.1,u17.1.2) r.2.2.2.2.2.2.2.2.2.2.2.2.2.2.2.2.2.1.2.2.1) λu18=>
                  bnd (yam.f n (u18.1.1,u18.1.2) (IntKind.u64.wrap r.2.2.2.2.2.2.2.2.2.2.2.2.2.2.2.2.2.2.1)) λu19=>
                  some ((u19.1.1,u19.1.2),())
                  ) (
                  bIf ((hide (t7==(16:Int)))) (
                    bnd (yas.f n (b500000.1,b500000.2) r.2.2.2.1) λu20=>
                    bnd (ya5.f n (u20.1.1,u20.1.2) r.2.2.2.2.2.2.1) λu21=>
                    some ((u21.1.1,u21.1.2),())
                    ) (
                    bIf ((hide (t7==(17:Int)))) (
                      bnd (yam.f n (b500000.1,b500000.2) r.2.2.2.2.1) λu22=>
                      bnd (yam.f n (u22.1.1,u22.1.2) (IntKind.u64.wrap r.2.2.2.2.2.2.2.2.2.2.2.2.1)) λu23=>
                      bnd (yas.f n (u23.1.1,u23.1.2) (ybp r.2.2.2.2.2.1)) λu24=>
                      some ((u24.1.1,u24.1.2),())
                      ) (
                      bIf ((hide (t7==(18:Int)))) (
                        bnd (yam.f n (b500000.1,b500000.2) r.2.2.2.2.1) λu25=>
                        bnd (yam.f n (u25.1.1,u25.1.2) (IntKind.u64.wrap ((r.2.2.2.2.2.2.2.2.2.2.2.2.2.1.length:Nat):Int))) λu26=>
                        J3 n n (r.2.2.2.2.2.2.2.2.2.2.2.2.2.1,((r.2.2.2.2.2.2.2.2.2.2.2.2.2.1.length:Nat):Int),0,(((),A.1.2),A.2),(u26.1.1,u26.1.2),())
                        ) (
                        bIf ((hide (t7==(19:Int)))) (
                          bnd (yam.f n (b500000.1,b500000.2) r.2.2.2.2.1) λu27=>
                          some ((u27.1.1,u27.1.2),())
                          ) (
                          bIf ((hide (t7==(20:Int)))) (
                            bnd (yas.f n (b500000.1,b500000.2) r.2.2.2.1) λu28=>
                            bnd (yas.f n (u28.1.1,u28.1.2) r.2.2.2.2.2.2.2.2.2.2.2.2.2.2.2.2.2.1.1) λu29=>
                            bnd (yas.f n (u29.1.1,u29.1.2) r.2.2.2.2.2.2.2.2.2.2.2.2.2.2.2.2.2.1.2.1) λu30=>
                            bnd (yam.f n (u30.1.1,u30.1.2) r.2.2.2.2.2.2.2.2.2.2.2.2.2.2.2.2.2.1.2.2.1) λu31=>
                            some ((u31.1.1,u31.1.2),())
                            ) (
                            some ((b500000.1,b500000.2),())
                            )
                          )
                        )
                      )
                    )
                  )
                )
              )
            )
          )
        )
      )
    ):=(yah _).trans (by kernel_rfl)
theorem e3 (n m:Nat)(t190:List (Int))(t191:Int)(t192:Int)(A:yaY)(b500000:yaC):J3 n (m+1) (t190,t191,t192,A,b500000,()) =
  bIf ((hide (decide (t192<t191)))) (
    gIf (0≤t192∧t192<((t190.length:Nat):Int)) (
      bnd (ybz.f n (b500000.1,b500000.2) (List.getD t190 t192.toNat 0)) λu1=>
      J3 n m (t190,t191,(IntKind.i64.wrap (t192+(1:Int))),(((),A.1.2),A.2),(u1.1.1,u1.1.2),())
      )
    ) (
    some ((b500000.1,b500000.2),())
    ):=(yah _).trans (by kernel_rfl)
theorem phi (n:Nat):∀ e∈(X n).c.Φ,EntryOk Tryz.prog e:=yae (yac (yam.ok n)) (yae (yac (yas.ok n)) (yae (yac (yaJ.ok n)) (yae (yac (ybz.ok n)) (yae (yac (ybw.ok n)) (yae (yac (ya5.ok n)) (yae (yac (ycj.ok n)) (yae (yac (ybP.ok n)) (yae (yac (ybL.ok n)) (yae (yac (yca.ok n)) (yax))))))))))
theorem ok (n:Nat):FnOk Tryz.prog 76 ia io (fRun (X n) n T Tryz.f76 ia io):=yaH mixed tabIs (phi n) Tryz.func76 (by kernel_rfl) rfl
noncomputable def en (n:Nat):Entry:=yaD 76 ia io (fRun (X n) n T Tryz.f76 ia io)
end yad
end Go.Proofs.YtdlkpmohjhjmfaaGreatDoor

namespace Go.Proofs.YtdlkpmohjhjmfaaGreatDoor
open Go Go.Va Go.Proofs
namespace ycA
abbrev ia:List Ai:=[.dat yav]
abbrev io:List (Nat×Oi):=[(2,.dat (.slice (.int .u8))),(3,.dat (.int .i64))]
abbrev R:Type:=DOut ia io
noncomputable def X (n:Nat):Ctx:=⟨⟨tab,[ybF.en n,yam.en n,ybW.en n,yas.en n,yay.en n,yad.en n],0,[]⟩,41,bnOf 0 ia⟩
abbrev g1:List Si:=[.ref 1 1 yav,.ref 4 4 ybB,.dat 27 .bool,.box 1 (.d yav),.box 4 (.p (.p (.al 1500000000008 ybr) (.d .unit)) (.d .unit)),.box 1500000000008 (.p (.r 1600000000008000 (.int .u8)) (.d .unit))]
abbrev g2:List Si:=[.ref 1 1 yav,.ref 4 4 ybB,.box 1 (.d yav),.box 4 (.p (.p (.al 1500000000008 ybr) (.d .unit)) (.d .unit)),.box 1500000000008 (.p (.r 1600000000008000 (.int .u8)) (.d .unit))]
noncomputable def T:CT:=(.s .o (.s .o (.s .o (.s .o (.s (.s .o (.r g1 .o)) (.r g2 .o))))))
noncomputable def J1 (n:Nat):Bool×yap×yaY×yaC×Unit→Option R:=jR (X n) n T (yaR Tryz.f42) (endK ia io) g1 [1,1,1,1,0,1] []
noncomputable def J2 (n:Nat):yap×yaY×yaC×Unit→Option R:=jR (X n) n T (yaR Tryz.f42) (endK ia io) g2 [1,1,1,1,1] []
noncomputable def f (n:Nat)(r:yap):Option R:=fRun (X n) n T Tryz.f42 ia io (r,())
theorem e0 (n:Nat)(r:yap):f n r =
  bnd (yay.f n r) λu1=>
  bIf ((!u1.1)) (
    some ([],2,())
    ) (
    bnd (ybF.f n) λu2=>
    bnd (yam.f n (u2.1.1,u2.1.2) (IntKind.u64.wrap r.1)) λu3=>
    bnd (yas.f n (u3.1.1,u3.1.2) r.2.1) λu4=>
    bIf ((hide (r.1 != (21:Int)))) (
      J1 n ((hide (r.1 != (22:Int))),r,(((),()),()),(u4.1.1,u4.1.2),())
      ) (
      J1 n (false,r,(((),()),()),(u4.1.1,u4.1.2),())
      )
    ):=(yah _).trans (by kernel_rfl)
theorem e1 (n:Nat)(t27:Bool)(r:yap)(w_:yaY)(b1500000000008:yaC):J1 n (t27,r,w_,b1500000000008,()) =
  bIf (t27) (
    bnd (yas.f n (b1500000000008.1,b1500000000008.2) r.2.2.1) λu1=>
    J2 n (r,(((),w_.1.2),w_.2),(u1.1.1,u1.1.2),())
    ) (
    J2 n (r,(((),w_.1.2),w_.2),(b1500000000008.1,b1500000000008.2),())
    ):=(yah _).trans (by kernel_rfl)
theorem e2 (n:Nat)(r:yap)(w_:yaY)(b1500000000008:yaC):J2 n (r,w_,b1500000000008,()) =
  bnd (yad.f n (b1500000000008.1,b1500000000008.2) r) λu1=>
  bnd (ybW.f n (u1.1.1,u1.1.2)) λu2=>
  some (u2.1,0,()):=(yah _).trans (by kernel_rfl)
theorem phi (n:Nat):∀ e∈(X n).c.Φ,EntryOk Tryz.prog e:=yae (yac (ybF.ok n)) (yae (yac (yam.ok n)) (yae (yac (ybW.ok n)) (yae (yac (yas.ok n)) (yae (yac (yay.ok n)) (yae (yac (yad.ok n)) (yax))))))
theorem ok (n:Nat):FnOk Tryz.prog 42 ia io (fRun (X n) n T Tryz.f42 ia io):=yaH mixed tabIs (phi n) Tryz.func42 (by kernel_rfl) rfl
noncomputable def en (n:Nat):Entry:=yaD 42 ia io (fRun (X n) n T Tryz.f42 ia io)
end ycA
end Go.Proofs.YtdlkpmohjhjmfaaGreatDoor

namespace Go.Proofs.YtdlkpmohjhjmfaaGreatDoor
open Go Go.Va Go.Proofs
namespace yeB
abbrev ia:List Ai:=[.dat (.slice (.int .u8))]
abbrev io:List (Nat×Oi):=[(2,.new 0 (.d yaA))]
abbrev R:Type:=DOut ia io
noncomputable def X (n:Nat):Ctx:=⟨⟨tab,[ybN.en n],0,[]⟩,7,bnOf 0 ia⟩
noncomputable def T:CT := .o
noncomputable def f (n:Nat)(b:List (Int)):Option R:=fRun (X n) n T Tryz.f204 ia io (b,())
theorem e0 (n:Nat)(b:List (Int)):f n b =
  bnd (ybN.f n b) λu1=>
  some ((u1.1,(0,())),()):=(yah _).trans (by kernel_rfl)
theorem phi (n:Nat):∀ e∈(X n).c.Φ,EntryOk Tryz.prog e:=yae (yac (ybN.ok n)) (yax)
theorem ok (n:Nat):FnOk Tryz.prog 204 ia io (fRun (X n) n T Tryz.f204 ia io):=yaH mixed tabIs (phi n) Tryz.func204 (by kernel_rfl) rfl
noncomputable def en (n:Nat):Entry:=yaD 204 ia io (fRun (X n) n T Tryz.f204 ia io)
end yeB
end Go.Proofs.YtdlkpmohjhjmfaaGreatDoor

namespace Go.Proofs.YtdlkpmohjhjmfaaGreatDoor
open Go Go.Va Go.Proofs
namespace ydd
abbrev ia:List Ai:=[.dat (.slice (.int .u8))]
abbrev io:List (Nat×Oi):=[(2,.newc 1 (.d yaA))]
abbrev R:Type:=DOut ia io
noncomputable def X (n:Nat):Ctx:=⟨⟨tab,[yeB.en n],0,[]⟩,6,bnOf 0 ia⟩
noncomputable def T:CT := .o
noncomputable def f (n:Nat)(b:List (Int)):Option R:=fRun (X n) n T Tryz.f153 ia io (b,())
theorem e0 (n:Nat)(b:List (Int)):f n b =
  bnd (yeB.f n b) λu1=>
  some (u1.1,()):=(yah _).trans (by kernel_rfl)
theorem phi (n:Nat):∀ e∈(X n).c.Φ,EntryOk Tryz.prog e:=yae (yac (yeB.ok n)) (yax)
theorem ok (n:Nat):FnOk Tryz.prog 153 ia io (fRun (X n) n T Tryz.f153 ia io):=yaH mixed tabIs (phi n) Tryz.func153 (by kernel_rfl) rfl
noncomputable def en (n:Nat):Entry:=yaD 153 ia io (fRun (X n) n T Tryz.f153 ia io)
end ydd
end Go.Proofs.YtdlkpmohjhjmfaaGreatDoor

namespace Go.Proofs.YtdlkpmohjhjmfaaGreatDoor
open Go Go.Va Go.Proofs
namespace ycm
abbrev ia:List Ai:=[.fn (.str 2) [(.d yaA)]]
abbrev io:List (Nat×Oi):=[(2,.val (.r 0 (.int .u8)))]
abbrev R:Type:=DOut ia io
noncomputable def X (n:Nat):Ctx:=⟨⟨tab,[yar.en n],0,[]⟩,12,bnOf 0 ia⟩
noncomputable def T:CT := .o
noncomputable def f (n:Nat)(rc0:yal):Option R:=fRun (X n) n T Tryz.f210 ia io (rc0,())
theorem e0 (n:Nat)(rc0:yal):f n rc0 =
  bnd (yar.f n rc0) λu1=>
  bIf ((hide (!eqS u1.1 (⟨#[]⟩:ByteArray)))) (
    some ((ybJ u1.1),u1.2.1,())
    ) (
    some ([],u1.2.1,())
    ):=(yah _).trans (by kernel_rfl)
theorem phi (n:Nat):∀ e∈(X n).c.Φ,EntryOk Tryz.prog e:=yae (yac (yar.ok n)) (yax)
theorem ok (n:Nat):FnOk Tryz.prog 210 ia io (fRun (X n) n T Tryz.f210 ia io):=yaH mixed tabIs (phi n) Tryz.func210 (by kernel_rfl) rfl
noncomputable def en (n:Nat):Entry:=yaD 210 ia io (fRun (X n) n T Tryz.f210 ia io)
end ycm
end Go.Proofs.YtdlkpmohjhjmfaaGreatDoor

namespace Go.Proofs.YtdlkpmohjhjmfaaGreatDoor
open Go Go.Va Go.Proofs
namespace yat
abbrev ia:List Ai:=[.fn (.str 2) [(.d yaA)],.ptr (.p (.d (.int .i64)) (.p (.d .str) (.p (.d .str) (.p (.d .str) (.p (.d (.int .u64)) (.p (.r 0 (.int .u8)) (.p (.r 0 yaL) (.p (.d yaK) (.p (.d .bool) (.p (.d yaz) (.p (.r 0 yaG) (.p (.r 0 yaI) (.p (.d (.int .i64)) (.p (.r 0 (.int .i64)) (.d (.pair .str (.pair .str (.pair .str (.pair yaU (.pair (.int .i64) .unit))))))))))))))))))))]
abbrev io:List (Nat×Oi):=[]
abbrev R:Type:=DOut ia io
noncomputable def X (n:Nat):Ctx:=⟨⟨tab,[yaE.en n,yar.en n,yaQ.en n],0,[]⟩,52,bnOf 0 ia⟩
abbrev g1:List Si:=[.ref 1 502000 yav,.ref 2 2 ybB,.box 2 (.p (.p (.al 500000 yaA) (.d .unit)) (.d .unit)),.box 500000 (.d yaA),.box 502000 (.p (.d (.int .i64)) (.p (.d .str) (.p (.d .str) (.p (.d .str) (.p (.d (.int .u64)) (.p (.r 100000502000000 (.int .u8)) (.p (.r 100000502000001 yaL) (.p (.d yaK) (.p (.d .bool) (.p (.d yaz) (.p (.r 100000502000002 yaG) (.p (.r 100000502000003 yaI) (.p (.d (.int .i64)) (.p (.r 100000502000004 (.int .i64)) (.d (.pair .str (.pair .str (.pair .str (.pair yaU (.pair (.int .i64) .unit))))))))))))))))))))]
noncomputable def T:CT:=(.s .o (.s .o (.s .o (.r g1 .o))))
noncomputable def J1 (n:Nat):yaY×yal×yap×Unit→Option R:=jR (X n) n T (yaR Tryz.f214) (endK ia io) g1 [1,1,1] []
noncomputable def f (n:Nat)(rc0:yal)(out:yap):Option R:=fRun (X n) n T Tryz.f214 ia io (rc0,out,())
theorem e0 (n:Nat)(rc0:yal)(out:yap):f n rc0 out =
  bnd (yar.f n rc0) λu1=>
  bIf ((hide (out.1==(14:Int)))) (
    bnd (yar.f n u1.2.1) λu2=>
    bnd (yar.f n u2.2.1) λu3=>
    J1 n ((((),()),()),u3.2.1,(out.1,(out.2.1,(out.2.2.1,(out.2.2.2.1,(out.2.2.2.2.1,(out.2.2.2.2.2.1,(out.2.2.2.2.2.2.1,(out.2.2.2.2.2.2.2.1,(out.2.2.2.2.2.2.2.2.1,(out.2.2.2.2.2.2.2.2.2.1,(out.2.2.2.2.2.2.2.2.2.2.1,(out.2.2.2.2.2.2.2.2.2.2.2.1,(out.2.2.2.2.2.2.2.2.2.2.2.2.1,(out.2.2.2.2.2.2.2.2.2.2.2.2.2.1,(u3.1,(u1.1,(u2.1,out.2.2.2.2.2.2.2.2.2.2.2.2.2.2.2.2.2))))))))))))))))),())
    ) (
    bnd (yar.f n u1.2.1) λu4=>
    bnd (yaQ.f n u4.2.1) λu5=>
    J1 n ((((),()),()),u5.2.1,(out.1,(out.2.1,(out.2.2.1,(out.2.2.2.1,(out.2.2.2.2.1,(out.2.2.2.2.2.1,(out.2.2.2.2.2.2.1,(out.2.2.2.2.2.2.2.1,(out.2.2.2.2.2.2.2.2.1,(out.2.2.2.2.2.2.2.2.2.1,(out.2.2.2.2.2.2.2.2.2.2.1,(out.2.2.2.2.2.2.2.2.2.2.2.1,(out.2.2.2.2.2.2.2.2.2.2.2.2.1,(out.2.2.2.2.2.2.2.2.2.2.2.2.2.1,(out.2.2.2.2.2.2.2.2.2.2.2.2.2.2.1,(u1.1,(out.2.2.2.2.2.2.2.2.2.2.2.2.2.2.2.2.1,((out.2.2.2.2.2.2.2.2.2.2.2.2.2.2.2.2.2.1.1,(u4.1,(u5.1,out.2.2.2.2.2.2.2.2.2.2.2.2.2.2.2.2.2.1.2.2.2))),out.2.2.2.2.2.2.2.2.2.2.2.2.2.2.2.2.2.2)))))))))))))))))),())
    ):=(yah _).trans (by kernel_rfl)
theorem e1 (n:Nat)(r:yaY)(b500000:yal)(out:yap):J1 n (r,b500000,out,()) =
  bnd (yaE.f n b500000) λu1=>
  some (u1.2.1,(out.1,(out.2.1,(out.2.2.1,(out.2.2.2.1,(out.2.2.2.2.1,(out.2.2.2.2.2.1,(out.2.2.2.2.2.2.1,(out.2.2.2.2.2.2.2.1,(out.2.2.2.2.2.2.2.2.1,(out.2.2.2.2.2.2.2.2.2.1,(out.2.2.2.2.2.2.2.2.2.2.1,(out.2.2.2.2.2.2.2.2.2.2.2.1,(out.2.2.2.2.2.2.2.2.2.2.2.2.1,(out.2.2.2.2.2.2.2.2.2.2.2.2.2.1,(out.2.2.2.2.2.2.2.2.2.2.2.2.2.2.1,(out.2.2.2.2.2.2.2.2.2.2.2.2.2.2.2.1,(out.2.2.2.2.2.2.2.2.2.2.2.2.2.2.2.2.1,(out.2.2.2.2.2.2.2.2.2.2.2.2.2.2.2.2.2.1,(u1.1,out.2.2.2.2.2.2.2.2.2.2.2.2.2.2.2.2.2.2.2))))))))))))))))))),()):=(yah _).trans (by kernel_rfl)
theorem phi (n:Nat):∀ e∈(X n).c.Φ,EntryOk Tryz.prog e:=yae (yac (yaE.ok n)) (yae (yac (yar.ok n)) (yae (yac (yaQ.ok n)) (yax)))
theorem ok (n:Nat):FnOk Tryz.prog 214 ia io (fRun (X n) n T Tryz.f214 ia io):=yaH mixed tabIs (phi n) Tryz.func214 (by kernel_rfl) rfl
noncomputable def en (n:Nat):Entry:=yaD 214 ia io (fRun (X n) n T Tryz.f214 ia io)
end yat
end Go.Proofs.YtdlkpmohjhjmfaaGreatDoor

namespace Go.Proofs.YtdlkpmohjhjmfaaGreatDoor
open Go Go.Va Go.Proofs
namespace ya6
abbrev ia:List Ai:=[.fn (.str 2) [(.d yaA)]]
abbrev io:List (Nat×Oi):=[(2,.val (.r 0 (.int .i64)))]
abbrev R:Type:=DOut ia io
noncomputable def X (n:Nat):Ctx:=⟨⟨tab,[yaF.en n,ybV.en n],0,[]⟩,19,bnOf 0 ia⟩
abbrev g1:List Si:=[.ref 1 1 ybB,.val 3 (.r 200300 (.int .i64)),.dat 7 (.int .i64),.dat 8 (.int .i64),.box 1 (.p (.p (.al 500000 yaA) (.d .unit)) (.d .unit)),.box 500000 (.d yaA)]
abbrev g2:List Si:=[.val 3 (.r 200300 (.int .i64)),.box 500000 (.d yaA)]
noncomputable def T:CT:=(.s .o (.s .o (.s (.s .o (.b (.l g1 .o))) (.r g2 .o))))
noncomputable def J1 (n:Nat)(m:Nat):(List (Int))×Int×Int×yaY×yal×Unit→Option R:=jL (X n) n T (yaR Tryz.f216) (endK ia io) g1 [1,1,0,1,0] [] m
noncomputable def J2 (n:Nat):(List (Int))×yal×Unit→Option R:=jR (X n) n T (yaR Tryz.f216) (endK ia io) g2 [1,1,1] []
noncomputable def f (n:Nat)(rc0:yal):Option R:=fRun (X n) n T Tryz.f216 ia io (rc0,())
theorem e0 (n:Nat)(rc0:yal):f n rc0 =
  bnd (yaF.f n rc0 16) λu1=>
  J1 n n ([],u1.1,0,(((),()),()),u1.2.1,()):=(yah _).trans (by kernel_rfl)
theorem e1 (n m:Nat)(out:List (Int))(t7:Int)(t8:Int)(r:yaY)(b500000:yal):J1 n (m+1) (out,t7,t8,r,b500000,()) =
  bIf ((hide (decide (t8<t7)))) (
    bnd (ybV.f n b500000) λu1=>
    gIf ((out.length+1)*8≤70368744177664) (
      J1 n m ((out++([u1.1]:List (Int))),t7,(IntKind.i64.wrap (t8+(1:Int))),(((),r.1.2),r.2),u1.2.1,())
      )
    ) (
    J2 n (out,b500000,())
    ):=(yah _).trans (by kernel_rfl)
theorem e2 (n:Nat)(out:List (Int))(b500000:yal):J2 n (out,b500000,()) =
  some (out,b500000,()):=(yah _).trans (by kernel_rfl)
theorem phi (n:Nat):∀ e∈(X n).c.Φ,EntryOk Tryz.prog e:=yae (yac (yaF.ok n)) (yae (yac (ybV.ok n)) (yax))
theorem ok (n:Nat):FnOk Tryz.prog 216 ia io (fRun (X n) n T Tryz.f216 ia io):=yaH mixed tabIs (phi n) Tryz.func216 (by kernel_rfl) rfl
noncomputable def en (n:Nat):Entry:=yaD 216 ia io (fRun (X n) n T Tryz.f216 ia io)
end ya6
end Go.Proofs.YtdlkpmohjhjmfaaGreatDoor

namespace Go.Proofs.YtdlkpmohjhjmfaaGreatDoor
open Go Go.Va Go.Proofs
namespace yaV
abbrev ia:List Ai:=[.fn (.str 2) [(.d yaA)],.ptr (.p (.d (.int .i64)) (.p (.d .str) (.p (.d .str) (.p (.d .str) (.p (.d (.int .u64)) (.p (.r 0 (.int .u8)) (.p (.r 0 yaL) (.p (.d yaK) (.p (.d .bool) (.p (.d yaz) (.p (.r 0 yaG) (.p (.r 0 yaI) (.p (.d (.int .i64)) (.p (.r 0 (.int .i64)) (.d (.pair .str (.pair .str (.pair .str (.pair yaU (.pair (.int .i64) .unit))))))))))))))))))))]
abbrev io:List (Nat×Oi):=[]
abbrev R:Type:=DOut ia io
noncomputable def X (n:Nat):Ctx:=⟨⟨tab,[yar.en n,yaQ.en n],0,[]⟩,18,bnOf 0 ia⟩
noncomputable def T:CT := .o
noncomputable def f (n:Nat)(rc0:yal)(out:yap):Option R:=fRun (X n) n T Tryz.f237 ia io (rc0,out,())
theorem e0 (n:Nat)(rc0:yal)(out:yap):f n rc0 out =
  bnd (yar.f n rc0) λu1=>
  bnd (yaQ.f n u1.2.1) λu2=>
  some (u2.2.1,(out.1,(out.2.1,(out.2.2.1,(u1.1,(u2.1,(out.2.2.2.2.2.1,(out.2.2.2.2.2.2.1,(out.2.2.2.2.2.2.2.1,(out.2.2.2.2.2.2.2.2.1,(out.2.2.2.2.2.2.2.2.2.1,(out.2.2.2.2.2.2.2.2.2.2.1,(out.2.2.2.2.2.2.2.2.2.2.2.1,(out.2.2.2.2.2.2.2.2.2.2.2.2.1,(out.2.2.2.2.2.2.2.2.2.2.2.2.2.1,out.2.2.2.2.2.2.2.2.2.2.2.2.2.2)))))))))))))),()):=(yah _).trans (by kernel_rfl)
theorem phi (n:Nat):∀ e∈(X n).c.Φ,EntryOk Tryz.prog e:=yae (yac (yar.ok n)) (yae (yac (yaQ.ok n)) (yax))
theorem ok (n:Nat):FnOk Tryz.prog 237 ia io (fRun (X n) n T Tryz.f237 ia io):=yaH mixed tabIs (phi n) Tryz.func237 (by kernel_rfl) rfl
noncomputable def en (n:Nat):Entry:=yaD 237 ia io (fRun (X n) n T Tryz.f237 ia io)
end yaV
end Go.Proofs.YtdlkpmohjhjmfaaGreatDoor

namespace Go.Proofs.YtdlkpmohjhjmfaaGreatDoor
open Go Go.Va Go.Proofs
namespace yaM
abbrev ia:List Ai:=[.fn (.str 2) [(.d yaA)],.ptr (.p (.d (.int .i64)) (.p (.d .str) (.p (.d .str) (.p (.d .str) (.p (.d (.int .u64)) (.p (.r 0 (.int .u8)) (.p (.r 0 yaL) (.p (.d yaK) (.p (.d .bool) (.p (.d yaz) (.p (.r 0 yaG) (.p (.r 0 yaI) (.p (.d (.int .i64)) (.p (.r 0 (.int .i64)) (.d (.pair .str (.pair .str (.pair .str (.pair yaU (.pair (.int .i64) .unit))))))))))))))))))))]
abbrev io:List (Nat×Oi):=[]
abbrev R:Type:=DOut ia io
noncomputable def X (n:Nat):Ctx:=⟨⟨tab,[yaN.en n,yby.en n,yaS.en n,yaV.en n],0,[]⟩,51,bnOf 0 ia⟩
noncomputable def T:CT := .o
noncomputable def f (n:Nat)(rc0:yal)(out:yap):Option R:=fRun (X n) n T Tryz.f213 ia io (rc0,out,())
theorem e0 (n:Nat) (rc0:yal) (out:yap):f n rc0 out =
  bnd (yaV.f n rc0 (out.1,(out.2.1,(out.2.2.1,(out.2.2.2.1,(out.2.2.2.2.1,(out.2.2.2.2.2.1,(out.2.2.2.2.2.2.1,(out.2.2.2.2.2.2.2.1,(out.2.2.2.2.2.2.2.2.1,(out.2.2.2.2.2.2.2.2.2.1,(out.2.2.2.2.2.2.2.2.2.2.1,(out.2.2.2.2.2.2.2.2.2.2.2.1,(out.2.2.2.2.2.2.2.2.2.2.2.2.1,(out.2.2.2.2.2.2.2.2.2.2.2.2.2.1,out.2.2.2.2.2.2.2.2.2.2.2.2.2.2))))))))))))))) λu1=>
  bIf ((hide (u1.2.1.1==(10:Int)))) (
    bnd (yaS.f n u1.1) λu2=>
    some (u2.2.1,(u1.2.1.1,(u1.2.1.2.1,(u1.2.1.2.2.1,(u1.2.1.2.2.2.1,(u1.2.1.2.2.2.2.1,(u1.2.1.2.2.2.2.2.1,(u1.2.1.2.2.2.2.2.2.1,(u1.2.1.2.2.2.2.2.2.2.1,(u2.1,(u1.2.1.2.2.2.2.2.2.2.2.2.1,(u1.2.1.2.2.2.2.2.2.2.2.2.2.1,(u1.2.1.2.2.2.2.2.2.2.2.2.2.2.1,(u1.2.1.2.2.2.2.2.2.2.2.2.2.2.2.1,(u1.2.1.2.2.2.2.2.2.2.2.2.2.2.2.2.1,u1.2.1.2.2.2.2.2.2.2.2.2.2.2.2.2.2)))))))))))))),())
    ) (
    bIf ((hide (u1.2.1.1==(11:Int)))) (
      bnd (yby.f n u1.1) λu3=>
      bnd (yaS.f n u3.2.1) λu4=>
      some (u4.2.1,(u1.2.1.1,(u1.2.1.2.1,(u1.2.1.2.2.1,(u1.2.1.2.2.2.1,(u1.2.1.2.2.2.2.1,(u1.2.1.2.2.2.2.2.1,(u1.2.1.2.2.2.2.2.2.1,(u3.1,(u4.1,(u1.2.1.2.2.2.2.2.2.2.2.2.1,(u1.2.1.2.2.2.2.2.2.2.2.2.2.1,(u1.2.1.2.2.2.2.2.2.2.2.2.2.2.1,(u1.2.1.2.2.2.2.2.2.2.2.2.2.2.2.1,(u1.2.1.2.2.2.2.2.2.2.2.2.2.2.2.2.1,u1.2.1.2.2.2.2.2.2.2.2.2.2.2.2.2.2)))))))))))))),())
      ) (
      bIf ((hide (u1.2.1.1==(12:Int)))) (
        bnd (yby.f n u1.1) λu5=>
        some (u5.2.1,(u1.2.1.1,(u1.2.1.2.1,(u1.2.1.2.2.1,(u1.2.1.2.2.2.1,(u1.2.1.2.2.2.2.1,(u1.2.1.2.2.2.2.2.1,(u1.2.1.2.2.2.2.2.2.1,(u5.1,(u1.2.1.2.2.2.2.2.2.2.2.1,(u1.2.1.2.2.2.2.2.2.2.2.2.1,(u1.2.1.2.2.2.2.2.2.2.2.2.2.1,(u1.2.1.2.2.2.2.2.2.2.2.2.2.2.1,(u1.2.1.2.2.2.2.2.2.2.2.2.2.2.2.1,(u1.2.1.2.2.2.2.2.2.2.2.2.2.2.2.2.1,u1.2.1.2.2.2.2.2.2.2.2.2.2.2.2.2.2)))))))))))))),())
        ) (
        bIf ((hide (u1.2.1.1==(13:Int)))) (
          bnd (yaN.f n u1.1) λu6=>
          some (u6.2.1,(u1.2.1.1,(u1.2.1.2.1,(u1.2.1.2.2.1,(u1.2.1.2.2.2.1,(u1.2.1.2.2.2.2.1,(u1.2.1.2.2.2.2.2.1,(u6.1,(u1.2.1.2.2.2.2.2.2.2.1,(u1.2.1.2.2.2.2.2.2.2.2.1,(u1.2.1.2.2.2.2.2.2.2.2.2.1,(u1.2.1.2.2.2.2.2.2.2.2.2.2.1,(u1.2.1.2.2.2.2.2.2.2.2.2.2.2.1,(u1.2.1.2.2.2.2.2.2.2.2.2.2.2.2.1,(u1.2.1.2.2.2.2.2.2.2.2.2.2.2.2.2.1,u1.2.1.2.2.2.2.2.2.2.2.2.2.2.2.2.2)))))))))))))),())
          ) (
          some (u1.1,(u1.2.1.1,(u1.2.1.2.1,(u1.2.1.2.2.1,(u1.2.1.2.2.2.1,(u1.2.1.2.2.2.2.1,(u1.2.1.2.2.2.2.2.1,(u1.2.1.2.2.2.2.2.2.1,(u1.2.1.2.2.2.2.2.2.2.1,(u1.2.1.2.2.2.2.2.2.2.2.1,(u1.2.1.2.2.2.2.2.2.2.2.2.1,(u1.2.1.2.2.2.2.2.2.2.2.2.2.1,(u1.2.1.2.2.2.2.2.2.2.2.2.2.2.1,(u1.2.1.2.2.2.2.2.2.2.2.2.2.2.2.1,(u1.2.1.2.2.2.2.2.2.2.2.2.2.2.2.2.1,u1.2.1.2.2.2.2.2.2.2.2.2.2.2.2.2.2)))))))))))))),())
          )
        )
      )
    ):=(yah _).trans (by kernel_rfl)
theorem phi (n:Nat):∀ e∈(X n).c.Φ,EntryOk Tryz.prog e:=yae (yac (yaN.ok n)) (yae (yac (yby.ok n)) (yae (yac (yaS.ok n)) (yae (yac (yaV.ok n)) (yax))))
theorem ok (n:Nat):FnOk Tryz.prog 213 ia io (fRun (X n) n T Tryz.f213 ia io):=yaH mixed tabIs (phi n) Tryz.func213 (by kernel_rfl) rfl
noncomputable def en (n:Nat):Entry:=yaD 213 ia io (fRun (X n) n T Tryz.f213 ia io)
end yaM
end Go.Proofs.YtdlkpmohjhjmfaaGreatDoor

namespace Go.Proofs.YtdlkpmohjhjmfaaGreatDoor
open Go Go.Va Go.Proofs
namespace yaa
abbrev ia:List Ai:=[.fn (.str 2) [(.d yaA)],.ptr (.p (.d (.int .i64)) (.p (.d .str) (.p (.d .str) (.p (.d .str) (.p (.d (.int .u64)) (.p (.r 0 (.int .u8)) (.p (.r 0 yaL) (.p (.d yaK) (.p (.d .bool) (.p (.d yaz) (.p (.r 0 yaG) (.p (.r 0 yaI) (.p (.d (.int .i64)) (.p (.r 0 (.int .i64)) (.d (.pair .str (.pair .str (.pair .str (.pair yaU (.pair (.int .i64) .unit))))))))))))))))))))]
abbrev io:List (Nat×Oi):=[]
abbrev R:Type:=DOut ia io
noncomputable def X (n:Nat):Ctx:=⟨⟨tab,[yaE.en n,yar.en n,yb3.en n,ya1.en n,yaW.en n,ycm.en n,yaN.en n,yby.en n,yaM.en n,yat.en n,yaQ.en n,ya6.en n],0,[]⟩,175,bnOf 0 ia⟩
abbrev g1:List Si:=[.ref 1 502000 yav,.ref 2 2 ybB,.dat 7 (.int .i64),.dat 8 .bool,.box 2 (.p (.p (.al 500000 yaA) (.d .unit)) (.d .unit)),.box 500000 (.d yaA),.box 502000 (.p (.d (.int .i64)) (.p (.d .str) (.p (.d .str) (.p (.d .str) (.p (.d (.int .u64)) (.p (.r 100000502000000 (.int .u8)) (.p (.r 100000502000001 yaL) (.p (.d yaK) (.p (.d .bool) (.p (.d yaz) (.p (.r 100000502000002 yaG) (.p (.r 100000502000003 yaI) (.p (.d (.int .i64)) (.p (.r 100000502000004 (.int .i64)) (.d (.pair .str (.pair .str (.pair .str (.pair yaU (.pair (.int .i64) .unit))))))))))))))))))))]
abbrev g2:List Si:=[.ref 1 502000 yav,.ref 2 2 ybB,.dat 7 (.int .i64),.dat 59 .bool,.box 2 (.p (.p (.al 500000 yaA) (.d .unit)) (.d .unit)),.box 500000 (.d yaA),.box 502000 (.p (.d (.int .i64)) (.p (.d .str) (.p (.d .str) (.p (.d .str) (.p (.d (.int .u64)) (.p (.r 100000502000000 (.int .u8)) (.p (.r 100000502000001 yaL) (.p (.d yaK) (.p (.d .bool) (.p (.d yaz) (.p (.r 100000502000002 yaG) (.p (.r 100000502000003 yaI) (.p (.d (.int .i64)) (.p (.r 100000502000004 (.int .i64)) (.d (.pair .str (.pair .str (.pair .str (.pair yaU (.pair (.int .i64) .unit))))))))))))))))))))]
abbrev g3:List Si:=[.ref 1 502000 yav,.ref 2 2 ybB,.dat 7 (.int .i64),.dat 78 .bool,.box 2 (.p (.p (.al 500000 yaA) (.d .unit)) (.d .unit)),.box 500000 (.d yaA),.box 502000 (.p (.d (.int .i64)) (.p (.d .str) (.p (.d .str) (.p (.d .str) (.p (.d (.int .u64)) (.p (.r 100000502000000 (.int .u8)) (.p (.r 100000502000001 yaL) (.p (.d yaK) (.p (.d .bool) (.p (.d yaz) (.p (.r 100000502000002 yaG) (.p (.r 100000502000003 yaI) (.p (.d (.int .i64)) (.p (.r 100000502000004 (.int .i64)) (.d (.pair .str (.pair .str (.pair .str (.pair yaU (.pair (.int .i64) .unit))))))))))))))))))))]
noncomputable def T:CT:=(.s .o (.s .o (.b (.s .o (.r g1 (.c .o (.s .o (.c .o (.s .o (.c .o (.s .o (.c .o (.s .o (.r g2 (.c .o (.s .o (.c .o (.s .o (.r g3 .o)))))))))))))))))))
noncomputable def J1 (n:Nat):Int×Bool×yaY×yal×yap×Unit→Option R:=jR (X n) n T (yaR Tryz.f156) (endK ia io) g1 [1,1,0,1] []
noncomputable def J2 (n:Nat):Int×Bool×yaY×yal×yap×Unit→Option R:=jR (X n) n T (yaR Tryz.f156) (endK ia io) g2 [1,1,0,1,1,1,1,1,1,1,1,1] []
noncomputable def J3 (n:Nat):Int×Bool×yaY×yal×yap×Unit→Option R:=jR (X n) n T (yaR Tryz.f156) (endK ia io) g3 [1,1,0,1,1,1,1,1,1,1,1,1,1,1,1,1] []
noncomputable def f (n:Nat)(tc0:yal)(o:yap):Option R:=fRun (X n) n T Tryz.f156 ia io (tc0,o,())
theorem e0 (n:Nat)(tc0:yal)(o:yap):f n tc0 o =
  bIf ((hide (o.1==(1:Int)))) (
    J1 n (o.1,true,(((),()),()),tc0,(o.1,(o.2.1,(o.2.2.1,(o.2.2.2.1,(o.2.2.2.2.1,(o.2.2.2.2.2.1,(o.2.2.2.2.2.2.1,(o.2.2.2.2.2.2.2.1,(o.2.2.2.2.2.2.2.2.1,(o.2.2.2.2.2.2.2.2.2.1,(o.2.2.2.2.2.2.2.2.2.2.1,(o.2.2.2.2.2.2.2.2.2.2.2.1,(o.2.2.2.2.2.2.2.2.2.2.2.2.1,(o.2.2.2.2.2.2.2.2.2.2.2.2.2.1,o.2.2.2.2.2.2.2.2.2.2.2.2.2.2)))))))))))))),())
    ) (
    J1 n (o.1,(hide (o.1==(3:Int))),(((),()),()),tc0,(o.1,(o.2.1,(o.2.2.1,(o.2.2.2.1,(o.2.2.2.2.1,(o.2.2.2.2.2.1,(o.2.2.2.2.2.2.1,(o.2.2.2.2.2.2.2.1,(o.2.2.2.2.2.2.2.2.1,(o.2.2.2.2.2.2.2.2.2.1,(o.2.2.2.2.2.2.2.2.2.2.1,(o.2.2.2.2.2.2.2.2.2.2.2.1,(o.2.2.2.2.2.2.2.2.2.2.2.2.1,(o.2.2.2.2.2.2.2.2.2.2.2.2.2.1,o.2.2.2.2.2.2.2.2.2.2.2.2.2.2)))))))))))))),())
    ):=(yah _).trans (by kernel_rfl)
theorem e1 (n : Nat) (t7:Int) (t8:Bool) (A:yaY) (b500000:yal) (o:yap):J1 n (t7,t8,A,b500000,o,()) =
  bIf (t8) (
    bnd (yb3.f n b500000) λu1=>
    some (u1.2.1,(o.1,(o.2.1,(o.2.2.1,(o.2.2.2.1,(o.2.2.2.2.1,(o.2.2.2.2.2.1,(o.2.2.2.2.2.2.1,(o.2.2.2.2.2.2.2.1,(o.2.2.2.2.2.2.2.2.1,(u1.1,(o.2.2.2.2.2.2.2.2.2.2.1,(o.2.2.2.2.2.2.2.2.2.2.2.1,(o.2.2.2.2.2.2.2.2.2.2.2.2.1,(o.2.2.2.2.2.2.2.2.2.2.2.2.2.1,o.2.2.2.2.2.2.2.2.2.2.2.2.2.2)))))))))))))),())
    ) (
    bIf ((hide (t7==(4:Int)))) (
      bnd (ya1.f n b500000) λu2=>
      some (u2.2.1,(o.1,(o.2.1,(o.2.2.1,(o.2.2.2.1,(o.2.2.2.2.1,(o.2.2.2.2.2.1,(o.2.2.2.2.2.2.1,(o.2.2.2.2.2.2.2.1,(o.2.2.2.2.2.2.2.2.1,(o.2.2.2.2.2.2.2.2.2.1,(u2.1,(o.2.2.2.2.2.2.2.2.2.2.2.1,(o.2.2.2.2.2.2.2.2.2.2.2.2.1,(o.2.2.2.2.2.2.2.2.2.2.2.2.2.1,o.2.2.2.2.2.2.2.2.2.2.2.2.2.2)))))))))))))),())
      ) (
      bIf ((hide (t7==(5:Int)))) (
        bnd (yaW.f n b500000) λu3=>
        some (u3.2.1,(o.1,(o.2.1,(o.2.2.1,(o.2.2.2.1,(o.2.2.2.2.1,(o.2.2.2.2.2.1,(o.2.2.2.2.2.2.1,(o.2.2.2.2.2.2.2.1,(o.2.2.2.2.2.2.2.2.1,(o.2.2.2.2.2.2.2.2.2.1,(o.2.2.2.2.2.2.2.2.2.2.1,(u3.1,(o.2.2.2.2.2.2.2.2.2.2.2.2.1,(o.2.2.2.2.2.2.2.2.2.2.2.2.2.1,o.2.2.2.2.2.2.2.2.2.2.2.2.2.2)))))))))))))),())
        ) (
        bIf ((hide (t7==(6:Int)))) (
          bnd (yar.f n b500000) λu4=>
          bnd (ycm.f n u4.2.1) λu5=>
          bnd (yaN.f n u5.2.1) λu6=>
          bnd (yby.f n u6.2.1) λu7=>
          some (u7.2.1,(o.1,(o.2.1,(o.2.2.1,(u4.1,(o.2.2.2.2.1,(u5.1,(u6.1,(u7.1,(o.2.2.2.2.2.2.2.2.1,(o.2.2.2.2.2.2.2.2.2.1,(o.2.2.2.2.2.2.2.2.2.2.1,(o.2.2.2.2.2.2.2.2.2.2.2.1,(o.2.2.2.2.2.2.2.2.2.2.2.2.1,(o.2.2.2.2.2.2.2.2.2.2.2.2.2.1,o.2.2.2.2.2.2.2.2.2.2.2.2.2.2)))))))))))))),())
          ) (
          bIf ((hide (t7==(7:Int)))) (
            J2 n (t7,true,(((),A.1.2),A.2),b500000,(o.1,(o.2.1,(o.2.2.1,(o.2.2.2.1,(o.2.2.2.2.1,(o.2.2.2.2.2.1,(o.2.2.2.2.2.2.1,(o.2.2.2.2.2.2.2.1,(o.2.2.2.2.2.2.2.2.1,(o.2.2.2.2.2.2.2.2.2.1,(o.2.2.2.2.2.2.2.2.2.2.1,(o.2.2.2.2.2.2.2.2.2.2.2.1,(o.2.2.2.2.2.2.2.2.2.2.2.2.1,(o.2.2.2.2.2.2.2.2.2.2.2.2.2.1,o.2.2.2.2.2.2.2.2.2.2.2.2.2.2)))))))))))))),())
            ) (
            bIf ((hide (t7==(8:Int)))) (
              J2 n (t7,true,(((),A.1.2),A.2),b500000,(o.1,(o.2.1,(o.2.2.1,(o.2.2.2.1,(o.2.2.2.2.1,(o.2.2.2.2.2.1,(o.2.2.2.2.2.2.1,(o.2.2.2.2.2.2.2.1,(o.2.2.2.2.2.2.2.2.1,(o.2.2.2.2.2.2.2.2.2.1,(o.2.2.2.2.2.2.2.2.2.2.1,(o.2.2.2.2.2.2.2.2.2.2.2.1,(o.2.2.2.2.2.2.2.2.2.2.2.2.1,(o.2.2.2.2.2.2.2.2.2.2.2.2.2.1,o.2.2.2.2.2.2.2.2.2.2.2.2.2.2)))))))))))))),())
              ) (
              bIf ((hide (t7==(10:Int)))) (
                J2 n (t7,true,(((),A.1.2),A.2),b500000,(o.1,(o.2.1,(o.2.2.1,(o.2.2.2.1,(o.2.2.2.2.1,(o.2.2.2.2.2.1,(o.2.2.2.2.2.2.1,(o.2.2.2.2.2.2.2.1,(o.2.2.2.2.2.2.2.2.1,(o.2.2.2.2.2.2.2.2.2.1,(o.2.2.2.2.2.2.2.2.2.2.1,(o.2.2.2.2.2.2.2.2.2.2.2.1,(o.2.2.2.2.2.2.2.2.2.2.2.2.1,(o.2.2.2.2.2.2.2.2.2.2.2.2.2.1,o.2.2.2.2.2.2.2.2.2.2.2.2.2.2)))))))))))))),())
                ) (
                bIf ((hide (t7==(11:Int)))) (
                  J2 n (t7,true,(((),A.1.2),A.2),b500000,(o.1,(o.2.1,(o.2.2.1,(o.2.2.2.1,(o.2.2.2.2.1,(o.2.2.2.2.2.1,(o.2.2.2.2.2.2.1,(o.2.2.2.2.2.2.2.1,(o.2.2.2.2.2.2.2.2.1,(o.2.2.2.2.2.2.2.2.2.1,(o.2.2.2.2.2.2.2.2.2.2.1,(o.2.2.2.2.2.2.2.2.2.2.2.1,(o.2.2.2.2.2.2.2.2.2.2.2.2.1,(o.2.2.2.2.2.2.2.2.2.2.2.2.2.1,o.2.2.2.2.2.2.2.2.2.2.2.2.2.2)))))))))))))),())
                  ) (
                  bIf ((hide (t7==(12:Int)))) (
                    J2 n (t7,true,(((),A.1.2),A.2),b500000,(o.1,(o.2.1,(o.2.2.1,(o.2.2.2.1,(o.2.2.2.2.1,(o.2.2.2.2.2.1,(o.2.2.2.2.2.2.1,(o.2.2.2.2.2.2.2.1,(o.2.2.2.2.2.2.2.2.1,(o.2.2.2.2.2.2.2.2.2.1,(o.2.2.2.2.2.2.2.2.2.2.1,(o.2.2.2.2.2.2.2.2.2.2.2.1,(o.2.2.2.2.2.2.2.2.2.2.2.2.1,(o.2.2.2.2.2.2.2.2.2.2.2.2.2.1,o.2.2.2.2.2.2.2.2.2.2.2.2.2.2)))))))))))))),())
                    ) (
                    J2 n (t7,(hide (t7==(13:Int))),(((),A.1.2),A.2),b500000,(o.1,(o.2.1,(o.2.2.1,(o.2.2.2.1,(o.2.2.2.2.1,(o.2.2.2.2.2.1,(o.2.2.2.2.2.2.1,(o.2.2.2.2.2.2.2.1,(o.2.2.2.2.2.2.2.2.1,(o.2.2.2.2.2.2.2.2.2.1,(o.2.2.2.2.2.2.2.2.2.2.1,(o.2.2.2.2.2.2.2.2.2.2.2.1,(o.2.2.2.2.2.2.2.2.2.2.2.2.1,(o.2.2.2.2.2.2.2.2.2.2.2.2.2.1,o.2.2.2.2.2.2.2.2.2.2.2.2.2.2)))))))))))))),())
                    )
                  )
                )
              )
            )
          )
        )
      )
    ):=(yah _).trans (by kernel_rfl)
theorem e2 (n:Nat) (t7:Int) (t59:Bool) (A:yaY) (b500000:yal) (o:yap):J2 n (t7,t59,A,b500000,o,()) =
  bIf (t59) (
    bnd (yaM.f n b500000 (o.1,(o.2.1,(o.2.2.1,(o.2.2.2.1,(o.2.2.2.2.1,(o.2.2.2.2.2.1,(o.2.2.2.2.2.2.1,(o.2.2.2.2.2.2.2.1,(o.2.2.2.2.2.2.2.2.1,(o.2.2.2.2.2.2.2.2.2.1,(o.2.2.2.2.2.2.2.2.2.2.1,(o.2.2.2.2.2.2.2.2.2.2.2.1,(o.2.2.2.2.2.2.2.2.2.2.2.2.1,(o.2.2.2.2.2.2.2.2.2.2.2.2.2.1,o.2.2.2.2.2.2.2.2.2.2.2.2.2.2))))))))))))))) λu1=>
    some (u1.1,(u1.2.1.1,(u1.2.1.2.1,(u1.2.1.2.2.1,(u1.2.1.2.2.2.1,(u1.2.1.2.2.2.2.1,(u1.2.1.2.2.2.2.2.1,(u1.2.1.2.2.2.2.2.2.1,(u1.2.1.2.2.2.2.2.2.2.1,(u1.2.1.2.2.2.2.2.2.2.2.1,(u1.2.1.2.2.2.2.2.2.2.2.2.1,(u1.2.1.2.2.2.2.2.2.2.2.2.2.1,(u1.2.1.2.2.2.2.2.2.2.2.2.2.2.1,(u1.2.1.2.2.2.2.2.2.2.2.2.2.2.2.1,(u1.2.1.2.2.2.2.2.2.2.2.2.2.2.2.2.1,u1.2.1.2.2.2.2.2.2.2.2.2.2.2.2.2.2)))))))))))))),())
    ) (
    bIf ((hide (t7==(9:Int)))) (
      bnd (yar.f n b500000) λu2=>
      some (u2.2.1,(o.1,(o.2.1,(o.2.2.1,(u2.1,(o.2.2.2.2.1,(o.2.2.2.2.2.1,(o.2.2.2.2.2.2.1,(o.2.2.2.2.2.2.2.1,(o.2.2.2.2.2.2.2.2.1,(o.2.2.2.2.2.2.2.2.2.1,(o.2.2.2.2.2.2.2.2.2.2.1,(o.2.2.2.2.2.2.2.2.2.2.2.1,(o.2.2.2.2.2.2.2.2.2.2.2.2.1,(o.2.2.2.2.2.2.2.2.2.2.2.2.2.1,o.2.2.2.2.2.2.2.2.2.2.2.2.2.2)))))))))))))),())
      ) (
      bIf ((hide (t7==(14:Int)))) (
        J3 n (t7,true,(((),A.1.2),A.2),b500000,(o.1,(o.2.1,(o.2.2.1,(o.2.2.2.1,(o.2.2.2.2.1,(o.2.2.2.2.2.1,(o.2.2.2.2.2.2.1,(o.2.2.2.2.2.2.2.1,(o.2.2.2.2.2.2.2.2.1,(o.2.2.2.2.2.2.2.2.2.1,(o.2.2.2.2.2.2.2.2.2.2.1,(o.2.2.2.2.2.2.2.2.2.2.2.1,(o.2.2.2.2.2.2.2.2.2.2.2.2.1,(o.2.2.2.2.2.2.2.2.2.2.2.2.2.1,o.2.2.2.2.2.2.2.2.2.2.2.2.2.2)))))))))))))),())
        ) (
        J3 n (t7,(hide (t7==(15:Int))),(((),A.1.2),A.2),b500000,(o.1,(o.2.1,(o.2.2.1,(o.2.2.2.1,(o.2.2.2.2.1,(o.2.2.2.2.2.1,(o.2.2.2.2.2.2.1,(o.2.2.2.2.2.2.2.1,(o.2.2.2.2.2.2.2.2.1,(o.2.2.2.2.2.2.2.2.2.1,(o.2.2.2.2.2.2.2.2.2.2.1,(o.2.2.2.2.2.2.2.2.2.2.2.1,(o.2.2.2.2.2.2.2.2.2.2.2.2.1,(o.2.2.2.2.2.2.2.2.2.2.2.2.2.1,o.2.2.2.2.2.2.2.2.2.2.2.2.2.2)))))))))))))),())
        )
      )
    ):=(yah _).trans (by kernel_rfl)
theorem e3 (n : Nat) (t7:Int) (t78:Bool) (A:yaY) (b500000:yal) (o:yap):J3 n (t7,t78,A,b500000,o,()) =
  bIf (t78) (
    bnd (yat.f n b500000 (o.1,(o.2.1,(o.2.2.1,(o.2.2.2.1,(o.2.2.2.2.1,(o.2.2.2.2.2.1,(o.2.2.2.2.2.2.1,(o.2.2.2.2.2.2.2.1,(o.2.2.2.2.2.2.2.2.1,(o.2.2.2.2.2.2.2.2.2.1,(o.2.2.2.2.2.2.2.2.2.2.1,(o.2.2.2.2.2.2.2.2.2.2.2.1,(o.2.2.2.2.2.2.2.2.2.2.2.2.1,(o.2.2.2.2.2.2.2.2.2.2.2.2.2.1,o.2.2.2.2.2.2.2.2.2.2.2.2.2.2))))))))))))))) λu1=>
    some (u1.1,(u1.2.1.1,(u1.2.1.2.1,(u1.2.1.2.2.1,(u1.2.1.2.2.2.1,(u1.2.1.2.2.2.2.1,(u1.2.1.2.2.2.2.2.1,(u1.2.1.2.2.2.2.2.2.1,(u1.2.1.2.2.2.2.2.2.2.1,(u1.2.1.2.2.2.2.2.2.2.2.1,(u1.2.1.2.2.2.2.2.2.2.2.2.1,(u1.2.1.2.2.2.2.2.2.2.2.2.2.1,(u1.2.1.2.2.2.2.2.2.2.2.2.2.2.1,(u1.2.1.2.2.2.2.2.2.2.2.2.2.2.2.1,(u1.2.1.2.2.2.2.2.2.2.2.2.2.2.2.2.1,u1.2.1.2.2.2.2.2.2.2.2.2.2.2.2.2.2)))))))))))))),())
    ) (
    bIf ((hide (t7==(16:Int)))) (
      bnd (yar.f n b500000) λu2=>
      bnd (yaN.f n u2.2.1) λu3=>
      some (u3.2.1,(o.1,(o.2.1,(o.2.2.1,(u2.1,(o.2.2.2.2.1,(o.2.2.2.2.2.1,(u3.1,(o.2.2.2.2.2.2.2.1,(o.2.2.2.2.2.2.2.2.1,(o.2.2.2.2.2.2.2.2.2.1,(o.2.2.2.2.2.2.2.2.2.2.1,(o.2.2.2.2.2.2.2.2.2.2.2.1,(o.2.2.2.2.2.2.2.2.2.2.2.2.1,(o.2.2.2.2.2.2.2.2.2.2.2.2.2.1,o.2.2.2.2.2.2.2.2.2.2.2.2.2.2)))))))))))))),())
      ) (
      bIf ((hide (t7==(17:Int)))) (
        bnd (yaQ.f n b500000) λu4=>
        bnd (yaE.f n u4.2.1) λu5=>
        bnd (ycm.f n u5.2.1) λu6=>
        some (u6.2.1,(o.1,(o.2.1,(o.2.2.1,(o.2.2.2.1,(u4.1,(u6.1,(o.2.2.2.2.2.2.1,(o.2.2.2.2.2.2.2.1,(o.2.2.2.2.2.2.2.2.1,(o.2.2.2.2.2.2.2.2.2.1,(o.2.2.2.2.2.2.2.2.2.2.1,(o.2.2.2.2.2.2.2.2.2.2.2.1,(u5.1,(o.2.2.2.2.2.2.2.2.2.2.2.2.2.1,o.2.2.2.2.2.2.2.2.2.2.2.2.2.2)))))))))))))),())
        ) (
        bIf ((hide (t7==(18:Int)))) (
          bnd (yaQ.f n b500000) λu7=>
          bnd (ya6.f n u7.2.1) λu8=>
          some (u8.2.1,(o.1,(o.2.1,(o.2.2.1,(o.2.2.2.1,(u7.1,(o.2.2.2.2.2.1,(o.2.2.2.2.2.2.1,(o.2.2.2.2.2.2.2.1,(o.2.2.2.2.2.2.2.2.1,(o.2.2.2.2.2.2.2.2.2.1,(o.2.2.2.2.2.2.2.2.2.2.1,(o.2.2.2.2.2.2.2.2.2.2.2.1,(o.2.2.2.2.2.2.2.2.2.2.2.2.1,(u8.1,o.2.2.2.2.2.2.2.2.2.2.2.2.2.2)))))))))))))),())
          ) (
          bIf ((hide (t7==(19:Int)))) (
            bnd (yaQ.f n b500000) λu9=>
            some (u9.2.1,(o.1,(o.2.1,(o.2.2.1,(o.2.2.2.1,(u9.1,(o.2.2.2.2.2.1,(o.2.2.2.2.2.2.1,(o.2.2.2.2.2.2.2.1,(o.2.2.2.2.2.2.2.2.1,(o.2.2.2.2.2.2.2.2.2.1,(o.2.2.2.2.2.2.2.2.2.2.1,(o.2.2.2.2.2.2.2.2.2.2.2.1,(o.2.2.2.2.2.2.2.2.2.2.2.2.1,(o.2.2.2.2.2.2.2.2.2.2.2.2.2.1,o.2.2.2.2.2.2.2.2.2.2.2.2.2.2)))))))))))))),())
            ) (
            bIf ((hide (t7==(20:Int)))) (
              bnd (yar.f n b500000) λu10=>
              bnd (yar.f n u10.2.1) λu11=>
              bnd (yar.f n u11.2.1) λu12=>
              bnd (yaQ.f n u12.2.1) λu13=>
              some (u13.2.1,(o.1,(o.2.1,(o.2.2.1,(u10.1,(o.2.2.2.2.1,(o.2.2.2.2.2.1,(o.2.2.2.2.2.2.1,(o.2.2.2.2.2.2.2.1,(o.2.2.2.2.2.2.2.2.1,(o.2.2.2.2.2.2.2.2.2.1,(o.2.2.2.2.2.2.2.2.2.2.1,(o.2.2.2.2.2.2.2.2.2.2.2.1,(o.2.2.2.2.2.2.2.2.2.2.2.2.1,(o.2.2.2.2.2.2.2.2.2.2.2.2.2.1,(o.2.2.2.2.2.2.2.2.2.2.2.2.2.2.1,(o.2.2.2.2.2.2.2.2.2.2.2.2.2.2.2.1,(o.2.2.2.2.2.2.2.2.2.2.2.2.2.2.2.2.1,((u11.1,(u12.1,(u13.1,o.2.2.2.2.2.2.2.2.2.2.2.2.2.2.2.2.2.1.2.2.2))),o.2.2.2.2.2.2.2.2.2.2.2.2.2.2.2.2.2.2)))))))))))))))))),())
              ) (
              some (b500000,(o.1,(o.2.1,(o.2.2.1,(o.2.2.2.1,(o.2.2.2.2.1,(o.2.2.2.2.2.1,(o.2.2.2.2.2.2.1,(o.2.2.2.2.2.2.2.1,(o.2.2.2.2.2.2.2.2.1,(o.2.2.2.2.2.2.2.2.2.1,(o.2.2.2.2.2.2.2.2.2.2.1,(o.2.2.2.2.2.2.2.2.2.2.2.1,(o.2.2.2.2.2.2.2.2.2.2.2.2.1,(o.2.2.2.2.2.2.2.2.2.2.2.2.2.1,o.2.2.2.2.2.2.2.2.2.2.2.2.2.2)))))))))))))),())
              )
            )
          )
        )
      )
    ):=(yah _).trans (by kernel_rfl)
theorem phi (n:Nat):∀ e∈(X n).c.Φ,EntryOk Tryz.prog e:=yae (yac (yaE.ok n)) (yae (yac (yar.ok n)) (yae (yac (yb3.ok n)) (yae (yac (ya1.ok n)) (yae (yac (yaW.ok n)) (yae (yac (ycm.ok n)) (yae (yac (yaN.ok n)) (yae (yac (yby.ok n)) (yae (yac (yaM.ok n)) (yae (yac (yat.ok n)) (yae (yac (yaQ.ok n)) (yae (yac (ya6.ok n)) (yax))))))))))))
theorem ok (n:Nat):FnOk Tryz.prog 156 ia io (fRun (X n) n T Tryz.f156 ia io):=yaH mixed tabIs (phi n) Tryz.func156 (by kernel_rfl) rfl
noncomputable def en (n:Nat):Entry:=yaD 156 ia io (fRun (X n) n T Tryz.f156 ia io)
end yaa
end Go.Proofs.YtdlkpmohjhjmfaaGreatDoor

namespace Go.Proofs.YtdlkpmohjhjmfaaGreatDoor
open Go Go.Va Go.Proofs
namespace ybK
abbrev ia:List Ai:=[.dat (.slice (.int .u8))]
abbrev io:List (Nat×Oi):=[(2,.cel (.d yav)),(3,.dat (.int .i64))]
abbrev R:Type:=DOut ia io
noncomputable def X (n:Nat):Ctx:=⟨⟨tab,[ycA.en n,ybg.en n,ydd.en n,yaE.en n,yar.en n,yaa.en n,ycH.en n],0,[]⟩,56,bnOf 0 ia⟩
abbrev g1:List Si:=[.dat 0 (.slice (.int .u8)),.ref 2 2 yav,.ref 4 4 ybB,.ref 5 5 yav,.dat 27 .bool,.box 2 (.p (.d (.int .i64)) (.p (.d .str) (.p (.d .str) (.p (.d .str) (.p (.d (.int .u64)) (.p (.r 100000000002000 (.int .u8)) (.p (.r 100000000002001 yaL) (.p (.d yaK) (.p (.d .bool) (.p (.d yaz) (.p (.r 100000000002002 yaG) (.p (.r 100000000002003 yaI) (.p (.d (.int .i64)) (.p (.r 100000000002004 (.int .i64)) (.d (.pair .str (.pair .str (.pair .str (.pair yaU (.pair (.int .i64) .unit)))))))))))))))))))),.box 4 (.p (.p (.al 1500000000009 yaA) (.d .unit)) (.d .unit)),.box 5 (.p (.d (.int .i64)) (.p (.d .str) (.p (.d .str) (.p (.d .str) (.p (.d (.int .u64)) (.p (.r 100000000005000 (.int .u8)) (.p (.r 100000000005001 yaL) (.p (.d yaK) (.p (.d .bool) (.p (.d yaz) (.p (.r 100000000005002 yaG) (.p (.r 100000000005003 yaI) (.p (.d (.int .i64)) (.p (.r 100000000005004 (.int .i64)) (.d (.pair .str (.pair .str (.pair .str (.pair yaU (.pair (.int .i64) .unit)))))))))))))))))))),.box 1500000000009 (.d yaA)]
abbrev g2:List Si:=[.dat 0 (.slice (.int .u8)),.ref 2 2 yav,.ref 4 4 ybB,.ref 5 5 yav,.box 2 (.p (.d (.int .i64)) (.p (.d .str) (.p (.d .str) (.p (.d .str) (.p (.d (.int .u64)) (.p (.r 100000000002000 (.int .u8)) (.p (.r 100000000002001 yaL) (.p (.d yaK) (.p (.d .bool) (.p (.d yaz) (.p (.r 100000000002002 yaG) (.p (.r 100000000002003 yaI) (.p (.d (.int .i64)) (.p (.r 100000000002004 (.int .i64)) (.d (.pair .str (.pair .str (.pair .str (.pair yaU (.pair (.int .i64) .unit)))))))))))))))))))),.box 4 (.p (.p (.al 1500000000009 yaA) (.d .unit)) (.d .unit)),.box 5 (.p (.d (.int .i64)) (.p (.d .str) (.p (.d .str) (.p (.d .str) (.p (.d (.int .u64)) (.p (.r 100000000005000 (.int .u8)) (.p (.r 100000000005001 yaL) (.p (.d yaK) (.p (.d .bool) (.p (.d yaz) (.p (.r 100000000005002 yaG) (.p (.r 100000000005003 yaI) (.p (.d (.int .i64)) (.p (.r 100000000005004 (.int .i64)) (.d (.pair .str (.pair .str (.pair .str (.pair yaU (.pair (.int .i64) .unit)))))))))))))))))))),.box 1500000000009 (.d yaA)]
abbrev g3:List Si:=[.ref 2 2 yav,.ref 5 5 yav,.dat 53 .bool,.box 2 (.p (.d (.int .i64)) (.p (.d .str) (.p (.d .str) (.p (.d .str) (.p (.d (.int .u64)) (.p (.r 100000000002000 (.int .u8)) (.p (.r 100000000002001 yaL) (.p (.d yaK) (.p (.d .bool) (.p (.d yaz) (.p (.r 100000000002002 yaG) (.p (.r 100000000002003 yaI) (.p (.d (.int .i64)) (.p (.r 100000000002004 (.int .i64)) (.d (.pair .str (.pair .str (.pair .str (.pair yaU (.pair (.int .i64) .unit)))))))))))))))))))),.box 5 (.d yav)]
abbrev g4:List Si:=[.ref 2 2 yav,.ref 5 5 yav,.box 2 (.p (.d (.int .i64)) (.p (.d .str) (.p (.d .str) (.p (.d .str) (.p (.d (.int .u64)) (.p (.r 100000000002000 (.int .u8)) (.p (.r 100000000002001 yaL) (.p (.d yaK) (.p (.d .bool) (.p (.d yaz) (.p (.r 100000000002002 yaG) (.p (.r 100000000002003 yaI) (.p (.d (.int .i64)) (.p (.r 100000000002004 (.int .i64)) (.d (.pair .str (.pair .str (.pair .str (.pair yaU (.pair (.int .i64) .unit)))))))))))))))))))),.box 5 (.d yav)]
noncomputable def T:CT:=(.s .o (.s .o (.s .o (.s .o (.s (.s .o (.r g1 .o)) (.r g2 (.s .o (.s .o (.s (.s .o (.s .o (.r g3 .o))) (.r g4 .o))))))))))
noncomputable def J1 (n:Nat):(List (Int))×Bool×yap×yaY×yap×yal×Unit→Option R:=jR (X n) n T (yaR Tryz.f97) (endK ia io) g1 [1,1,1,1,0,1] []
noncomputable def J2 (n:Nat):(List (Int))×yap×yaY×yap×yal×Unit→Option R:=jR (X n) n T (yaR Tryz.f97) (endK ia io) g2 [1,1,1,1,1] []
noncomputable def J3 (n:Nat):Bool×yap×yap×Unit→Option R:=jR (X n) n T (yaR Tryz.f97) (endK ia io) g3 [1,1,1,1,1,1,1,0,1,1] []
noncomputable def J4 (n:Nat):yap×yap×Unit→Option R:=jR (X n) n T (yaR Tryz.f97) (endK ia io) g4 [1,1,1,1,1,1,1,1] []
noncomputable def f (n:Nat)(b:List (Int)):Option R:=fRun (X n) n T Tryz.f97 ia io (b,())
theorem e0 (n:Nat)(b:List (Int)):f n b =
  bnd (ydd.f n b) λu1=>
  bnd (yaE.f n u1.1) λu2=>
  bnd (yar.f n u2.2.1) λu3=>
  bIf ((hide (u2.1 != (21:Int)))) (
    J1 n (b,(hide (u2.1 != (22:Int))),(0,((⟨#[]⟩:ByteArray),((⟨#[]⟩:ByteArray),((⟨#[]⟩:ByteArray),(0,([],([],((0,(0,(false,()))),(false,((0,(0,())),([],([],(0,([],((⟨#[]⟩:ByteArray),((⟨#[]⟩:ByteArray),((⟨#[]⟩:ByteArray),(((⟨#[]⟩:ByteArray),((⟨#[]⟩:ByteArray),(0,()))),(0,()))))))))))))))))))),(((),()),()),(u2.1,(u3.1,((⟨#[]⟩:ByteArray),((⟨#[]⟩:ByteArray),(0,([],([],((0,(0,(false,()))),(false,((0,(0,())),([],([],(0,([],((⟨#[]⟩:ByteArray),((⟨#[]⟩:ByteArray),((⟨#[]⟩:ByteArray),(((⟨#[]⟩:ByteArray),((⟨#[]⟩:ByteArray),(0,()))),(0,()))))))))))))))))))),u3.2.1,())
    ) (
    J1 n (b,false,(0,((⟨#[]⟩:ByteArray),((⟨#[]⟩:ByteArray),((⟨#[]⟩:ByteArray),(0,([],([],((0,(0,(false,()))),(false,((0,(0,())),([],([],(0,([],((⟨#[]⟩:ByteArray),((⟨#[]⟩:ByteArray),((⟨#[]⟩:ByteArray),(((⟨#[]⟩:ByteArray),((⟨#[]⟩:ByteArray),(0,()))),(0,()))))))))))))))))))),(((),()),()),(u2.1,(u3.1,((⟨#[]⟩:ByteArray),((⟨#[]⟩:ByteArray),(0,([],([],((0,(0,(false,()))),(false,((0,(0,())),([],([],(0,([],((⟨#[]⟩:ByteArray),((⟨#[]⟩:ByteArray),((⟨#[]⟩:ByteArray),(((⟨#[]⟩:ByteArray),((⟨#[]⟩:ByteArray),(0,()))),(0,()))))))))))))))))))),u3.2.1,())
    ):=(yah _).trans (by kernel_rfl)
theorem e1 (n:Nat)(b:List (Int))(t27:Bool)(b2:yap)(r:yaY)(out:yap)(b1500000000009:yal):J1 n (b,t27,b2,r,out,b1500000000009,()) =
  bIf (t27) (
    bnd (yar.f n b1500000000009) λu1=>
    J2 n (b,(b2.1,(b2.2.1,(b2.2.2.1,(b2.2.2.2.1,(b2.2.2.2.2.1,(b2.2.2.2.2.2.1,(b2.2.2.2.2.2.2.1,(b2.2.2.2.2.2.2.2.1,(b2.2.2.2.2.2.2.2.2.1,(b2.2.2.2.2.2.2.2.2.2.1,(b2.2.2.2.2.2.2.2.2.2.2.1,(b2.2.2.2.2.2.2.2.2.2.2.2.1,(b2.2.2.2.2.2.2.2.2.2.2.2.2.1,(b2.2.2.2.2.2.2.2.2.2.2.2.2.2.1,b2.2.2.2.2.2.2.2.2.2.2.2.2.2.2)))))))))))))),(((),r.1.2),r.2),(out.1,(out.2.1,(u1.1,(out.2.2.2.1,(out.2.2.2.2.1,(out.2.2.2.2.2.1,(out.2.2.2.2.2.2.1,(out.2.2.2.2.2.2.2.1,(out.2.2.2.2.2.2.2.2.1,(out.2.2.2.2.2.2.2.2.2.1,(out.2.2.2.2.2.2.2.2.2.2.1,(out.2.2.2.2.2.2.2.2.2.2.2.1,(out.2.2.2.2.2.2.2.2.2.2.2.2.1,(out.2.2.2.2.2.2.2.2.2.2.2.2.2.1,out.2.2.2.2.2.2.2.2.2.2.2.2.2.2)))))))))))))),u1.2.1,())
    ) (
    J2 n (b,(b2.1,(b2.2.1,(b2.2.2.1,(b2.2.2.2.1,(b2.2.2.2.2.1,(b2.2.2.2.2.2.1,(b2.2.2.2.2.2.2.1,(b2.2.2.2.2.2.2.2.1,(b2.2.2.2.2.2.2.2.2.1,(b2.2.2.2.2.2.2.2.2.2.1,(b2.2.2.2.2.2.2.2.2.2.2.1,(b2.2.2.2.2.2.2.2.2.2.2.2.1,(b2.2.2.2.2.2.2.2.2.2.2.2.2.1,(b2.2.2.2.2.2.2.2.2.2.2.2.2.2.1,b2.2.2.2.2.2.2.2.2.2.2.2.2.2.2)))))))))))))),(((),r.1.2),r.2),(out.1,(out.2.1,(out.2.2.1,(out.2.2.2.1,(out.2.2.2.2.1,(out.2.2.2.2.2.1,(out.2.2.2.2.2.2.1,(out.2.2.2.2.2.2.2.1,(out.2.2.2.2.2.2.2.2.1,(out.2.2.2.2.2.2.2.2.2.1,(out.2.2.2.2.2.2.2.2.2.2.1,(out.2.2.2.2.2.2.2.2.2.2.2.1,(out.2.2.2.2.2.2.2.2.2.2.2.2.1,(out.2.2.2.2.2.2.2.2.2.2.2.2.2.1,out.2.2.2.2.2.2.2.2.2.2.2.2.2.2)))))))))))))),b1500000000009,())
    ):=(yah _).trans (by kernel_rfl)
theorem e2 (n:Nat)(b:List (Int))(b2:yap)(r:yaY)(out:yap)(b1500000000009:yal):J2 n (b,b2,r,out,b1500000000009,()) =
  bnd (yaa.f n b1500000000009 (out.1,(out.2.1,(out.2.2.1,(out.2.2.2.1,(out.2.2.2.2.1,(out.2.2.2.2.2.1,(out.2.2.2.2.2.2.1,(out.2.2.2.2.2.2.2.1,(out.2.2.2.2.2.2.2.2.1,(out.2.2.2.2.2.2.2.2.2.1,(out.2.2.2.2.2.2.2.2.2.2.1,(out.2.2.2.2.2.2.2.2.2.2.2.1,(out.2.2.2.2.2.2.2.2.2.2.2.2.1,(out.2.2.2.2.2.2.2.2.2.2.2.2.2.1,out.2.2.2.2.2.2.2.2.2.2.2.2.2.2))))))))))))))) λu1=>
  bnd (ycH.f n u1.1) λu2=>
  bIf ((hide (u2.1 != (0:Int)))) (
    some ((0,((⟨#[]⟩:ByteArray),((⟨#[]⟩:ByteArray),((⟨#[]⟩:ByteArray),(0,([],([],((0,(0,(false,()))),(false,((0,(0,())),([],([],(0,([],((⟨#[]⟩:ByteArray),((⟨#[]⟩:ByteArray),((⟨#[]⟩:ByteArray),(((⟨#[]⟩:ByteArray),((⟨#[]⟩:ByteArray),(0,()))),(0,()))))))))))))))))))),2,())
    ) (
    bnd (ycA.f n (u1.2.1.1,(u1.2.1.2.1,(u1.2.1.2.2.1,(u1.2.1.2.2.2.1,(u1.2.1.2.2.2.2.1,(u1.2.1.2.2.2.2.2.1,(u1.2.1.2.2.2.2.2.2.1,(u1.2.1.2.2.2.2.2.2.2.1,(u1.2.1.2.2.2.2.2.2.2.2.1,(u1.2.1.2.2.2.2.2.2.2.2.2.1,(u1.2.1.2.2.2.2.2.2.2.2.2.2.1,(u1.2.1.2.2.2.2.2.2.2.2.2.2.2.1,(u1.2.1.2.2.2.2.2.2.2.2.2.2.2.2.1,(u1.2.1.2.2.2.2.2.2.2.2.2.2.2.2.2.1,u1.2.1.2.2.2.2.2.2.2.2.2.2.2.2.2.2))))))))))))))) λu3=>
    bIf ((hide (u3.2.1 != (0:Int)))) (
      J3 n (true,(b2.1,(b2.2.1,(b2.2.2.1,(b2.2.2.2.1,(b2.2.2.2.2.1,(b2.2.2.2.2.2.1,(b2.2.2.2.2.2.2.1,(b2.2.2.2.2.2.2.2.1,(b2.2.2.2.2.2.2.2.2.1,(b2.2.2.2.2.2.2.2.2.2.1,(b2.2.2.2.2.2.2.2.2.2.2.1,(b2.2.2.2.2.2.2.2.2.2.2.2.1,(b2.2.2.2.2.2.2.2.2.2.2.2.2.1,(b2.2.2.2.2.2.2.2.2.2.2.2.2.2.1,b2.2.2.2.2.2.2.2.2.2.2.2.2.2.2)))))))))))))),(u1.2.1.1,(u1.2.1.2.1,(u1.2.1.2.2.1,(u1.2.1.2.2.2.1,(u1.2.1.2.2.2.2.1,(u1.2.1.2.2.2.2.2.1,(u1.2.1.2.2.2.2.2.2.1,(u1.2.1.2.2.2.2.2.2.2.1,(u1.2.1.2.2.2.2.2.2.2.2.1,(u1.2.1.2.2.2.2.2.2.2.2.2.1,(u1.2.1.2.2.2.2.2.2.2.2.2.2.1,(u1.2.1.2.2.2.2.2.2.2.2.2.2.2.1,(u1.2.1.2.2.2.2.2.2.2.2.2.2.2.2.1,(u1.2.1.2.2.2.2.2.2.2.2.2.2.2.2.2.1,u1.2.1.2.2.2.2.2.2.2.2.2.2.2.2.2.2)))))))))))))),())
      ) (
      bnd (ybg.f n u3.1 b) λu4=>
      J3 n ((!u4.1),(b2.1,(b2.2.1,(b2.2.2.1,(b2.2.2.2.1,(b2.2.2.2.2.1,(b2.2.2.2.2.2.1,(b2.2.2.2.2.2.2.1,(b2.2.2.2.2.2.2.2.1,(b2.2.2.2.2.2.2.2.2.1,(b2.2.2.2.2.2.2.2.2.2.1,(b2.2.2.2.2.2.2.2.2.2.2.1,(b2.2.2.2.2.2.2.2.2.2.2.2.1,(b2.2.2.2.2.2.2.2.2.2.2.2.2.1,(b2.2.2.2.2.2.2.2.2.2.2.2.2.2.1,b2.2.2.2.2.2.2.2.2.2.2.2.2.2.2)))))))))))))),(u1.2.1.1,(u1.2.1.2.1,(u1.2.1.2.2.1,(u1.2.1.2.2.2.1,(u1.2.1.2.2.2.2.1,(u1.2.1.2.2.2.2.2.1,(u1.2.1.2.2.2.2.2.2.1,(u1.2.1.2.2.2.2.2.2.2.1,(u1.2.1.2.2.2.2.2.2.2.2.1,(u1.2.1.2.2.2.2.2.2.2.2.2.1,(u1.2.1.2.2.2.2.2.2.2.2.2.2.1,(u1.2.1.2.2.2.2.2.2.2.2.2.2.2.1,(u1.2.1.2.2.2.2.2.2.2.2.2.2.2.2.1,(u1.2.1.2.2.2.2.2.2.2.2.2.2.2.2.2.1,u1.2.1.2.2.2.2.2.2.2.2.2.2.2.2.2.2)))))))))))))),())
      )
    ):=(yah _).trans (by kernel_rfl)
theorem e3 (n:Nat)(t53:Bool)(b2:yap)(out:yap):J3 n (t53,b2,out,()) =
  bIf (t53) (
    some ((0,((⟨#[]⟩:ByteArray),((⟨#[]⟩:ByteArray),((⟨#[]⟩:ByteArray),(0,([],([],((0,(0,(false,()))),(false,((0,(0,())),([],([],(0,([],((⟨#[]⟩:ByteArray),((⟨#[]⟩:ByteArray),((⟨#[]⟩:ByteArray),(((⟨#[]⟩:ByteArray),((⟨#[]⟩:ByteArray),(0,()))),(0,()))))))))))))))))))),2,())
    ) (
    J4 n ((b2.1,(b2.2.1,(b2.2.2.1,(b2.2.2.2.1,(b2.2.2.2.2.1,(b2.2.2.2.2.2.1,(b2.2.2.2.2.2.2.1,(b2.2.2.2.2.2.2.2.1,(b2.2.2.2.2.2.2.2.2.1,(b2.2.2.2.2.2.2.2.2.2.1,(b2.2.2.2.2.2.2.2.2.2.2.1,(b2.2.2.2.2.2.2.2.2.2.2.2.1,(b2.2.2.2.2.2.2.2.2.2.2.2.2.1,(b2.2.2.2.2.2.2.2.2.2.2.2.2.2.1,b2.2.2.2.2.2.2.2.2.2.2.2.2.2.2)))))))))))))),out,())
    ):=(yah _).trans (by kernel_rfl)
theorem e4 (n:Nat)(b2:yap)(out:yap):J4 n (b2,out,()) =
  some (out,0,()):=(yah _).trans (by kernel_rfl)
theorem phi (n:Nat):∀ e∈(X n).c.Φ,EntryOk Tryz.prog e:=yae (yac (ycA.ok n)) (yae (yac (ybg.ok n)) (yae (yac (ydd.ok n)) (yae (yac (yaE.ok n)) (yae (yac (yar.ok n)) (yae (yac (yaa.ok n)) (yae (yac (ycH.ok n)) (yax)))))))
theorem ok (n:Nat):FnOk Tryz.prog 97 ia io (fRun (X n) n T Tryz.f97 ia io):=yaH mixed tabIs (phi n) Tryz.func97 (by kernel_rfl) rfl
noncomputable def en (n:Nat):Entry:=yaD 97 ia io (fRun (X n) n T Tryz.f97 ia io)
end ybK
end Go.Proofs.YtdlkpmohjhjmfaaGreatDoor

namespace Go.Proofs.YtdlkpmohjhjmfaaGreatDoor
open Go Go.Va Go.Proofs
namespace ycK
abbrev ia:List Ai:=[.dat (.slice (.int .u8))]
abbrev io:List (Nat×Oi):=[(2,.dat .str)]
abbrev R:Type:=DOut ia io
noncomputable def X (n:Nat):Ctx:=⟨⟨tab,[],0,[]⟩,28,bnOf 0 ia⟩
abbrev g1:List Si:=[.val 3 (.r 200300 (.int .u8)),.dat 10 (.slice (.int .u8)),.dat 11 (.int .i64),.dat 12 (.int .i64)]
abbrev g2:List Si:=[.val 3 (.r 200300 (.int .u8))]
noncomputable def T:CT:=(.s .o (.s .o (.s (.s .o (.b (.l g1 .o))) (.r g2 .o))))
noncomputable def J1 (n:Nat)(m:Nat):(List (Int))×(List (Int))×Int×Int×Unit→Option R:=jL (X n) n T (yaR Tryz.f29) (endK ia io) g1 [1,1,0,1,0] [] m
noncomputable def J2 (n:Nat):(List (Int))×Unit→Option R:=jR (X n) n T (yaR Tryz.f29) (endK ia io) g2 [1,1,1] []
noncomputable def f (n:Nat)(b:List (Int)):Option R:=fRun (X n) n T Tryz.f29 ia io (b,())
theorem e0 (n:Nat)(b:List (Int)):f n b =
  gIf (0≤(0:Int)∧(0:Int)≤(IntKind.i64.wrap ((2:Int)*((b.length:Nat):Int)))∧(IntKind.i64.wrap ((2:Int)*((b.length:Nat):Int)))*((1:Nat):Int)≤70368744177664∧1≤1∧1≤Ty.sz (.int .u8)) (
    J1 n n ([],b,((b.length:Nat):Int),0,())
    ):=(yah _).trans (by kernel_rfl)
theorem e1 (n m:Nat) (out:List (Int)) (t10:List (Int)) (t11:Int) (t12:Int):J1 n (m+1) (out,t10,t11,t12,()) =
  bIf ((hide (decide (t12<t11)))) (
    gIf (0≤t12∧t12<((t10.length:Nat):Int)) (
      gNo ((4 : Int)<0) (
        gIf (0≤(shrI .u8 (List.getD t10 t12.toNat 0) 4)∧(shrI .u8 (List.getD t10 t12.toNat 0) 4)<((⟨#[48,49,50,51,52,53,54,55,56,57,97,98,99,100,101,102]⟩:ByteArray).size:Int)) (
          gIf (0≤(bitI .and .u8 (List.getD t10 t12.toNat 0) 15)∧(bitI .and .u8 (List.getD t10 t12.toNat 0) 15)<((⟨#[48,49,50,51,52,53,54,55,56,57,97,98,99,100,101,102]⟩:ByteArray).size:Int)) (
            gIf ((out.length+2)*1≤70368744177664) (
              J1 n m ((out++([(bt (⟨#[48,49,50,51,52,53,54,55,56,57,97,98,99,100,101,102]⟩:ByteArray) (shrI .u8 (List.getD t10 t12.toNat 0) 4)),(bt (⟨#[48,49,50,51,52,53,54,55,56,57,97,98,99,100,101,102]⟩:ByteArray) (bitI .and .u8 (List.getD t10 t12.toNat 0) 15))]:List (Int))),t10,t11,(IntKind.i64.wrap (t12+(1:Int))),())
              )
            )
          )
        )
      )
    ) (
    J2 n (out,())
    ):=(yah _).trans (by kernel_rfl)
theorem e2 (n:Nat)(out:List (Int)):J2 n (out,()) =
  some ((ybp out),()):=(yah _).trans (by kernel_rfl)
theorem phi (n:Nat):∀ e∈(X n).c.Φ,EntryOk Tryz.prog e:=yax
theorem ok (n:Nat):FnOk Tryz.prog 29 ia io (fRun (X n) n T Tryz.f29 ia io):=yaH mixed tabIs (phi n) Tryz.func29 (by kernel_rfl) rfl
noncomputable def en (n:Nat):Entry:=yaD 29 ia io (fRun (X n) n T Tryz.f29 ia io)
end ycK
end Go.Proofs.YtdlkpmohjhjmfaaGreatDoor

namespace Go.Proofs.YtdlkpmohjhjmfaaGreatDoor
open Go Go.Va Go.Proofs
namespace yct
abbrev ia:List Ai:=[.dat .str]
abbrev io:List (Nat×Oi):=[(2,.val (.r 0 (.int .u8))),(3,.dat (.int .i64))]
abbrev R:Type:=DOut ia io
noncomputable def X (n:Nat):Ctx:=⟨⟨tab,[ybY.en],0,[]⟩,42,bnOf 0 ia⟩
abbrev g1:List Si:=[.dat 0 .str,.val 4 (.r 200400 (.int .u8)),.dat 5 (.int .i64)]
abbrev g2:List Si:=[.dat 0 .str,.val 4 (.r 200400 (.int .u8)),.dat 5 (.int .i64),.dat 6 (.int .i64),.dat 7 (.int .i64)]
abbrev g3:List Si:=[.dat 0 .str,.val 4 (.r 200400 (.int .u8)),.dat 5 (.int .i64)]
abbrev g4:List Si:=[.val 4 (.r 200400 (.int .u8))]
noncomputable def T:CT:=(.s .o (.s .o (.s .o (.s (.s .o (.b (.l g1 (.s .o (.s (.b (.s .o (.s .o (.r g2 .o)))) (.r g3 .o)))))) (.r g4 .o)))))
noncomputable def J1 (n:Nat)(m:Nat):ByteArray×(List (Int))×Int×Unit→Option R:=jL (X n) n T (yaR Tryz.f96) (endK ia io) g1 [1,1,1,0,1,0] [] m
noncomputable def J2 (n m1:Nat):ByteArray×(List (Int))×Int×Int×Int×Unit→Option R:=jR (X n) n T (yaR Tryz.f96) (endK ia io) g2 [1,1,1,0,1,0,0,1,0,0,1,1] [m1]
noncomputable def J3 (n m1:Nat):ByteArray×(List (Int))×Int×Unit→Option R:=jR (X n) n T (yaR Tryz.f96) (endK ia io) g3 [1,1,1,0,1,0,0,1,1] [m1]
noncomputable def J4 (n:Nat):(List (Int))×Unit→Option R:=jR (X n) n T (yaR Tryz.f96) (endK ia io) g4 [1,1,1,1] []
noncomputable def f (n:Nat)(s_:ByteArray):Option R:=fRun (X n) n T Tryz.f96 ia io (s_,())
theorem e0 (n:Nat)(s_:ByteArray):f n s_ =
  gNo ((2:Int)=0) (
    bIf ((hide ((Int.tmod (s_.size:Int) 2) != (0:Int)))) (
      some ([],5,())
      ) (
      J1 n n (s_,[],0,())
      )
    ):=(yah _).trans (by kernel_rfl)
theorem e1 (n m:Nat) (s_:ByteArray) (out:List (Int)) (i:Int):J1 n (m+1) (s_,out,i,()) =
  bIf ((hide (decide (i<(s_.size:Int))))) (
    gIf (0≤i∧i<(s_.size:Int)) (
      bnd (ybY.f (⟨#[48,49,50,51,52,53,54,55,56,57,97,98,99,100,101,102]⟩:ByteArray) (bt s_ i)) λu1=>
      gIf (0≤(IntKind.i64.wrap (i+(1:Int)))∧(IntKind.i64.wrap (i+(1:Int)))<(s_.size:Int)) (
        bnd (ybY.f (⟨#[48,49,50,51,52,53,54,55,56,57,97,98,99,100,101,102]⟩:ByteArray) (bt s_ (IntKind.i64.wrap (i+(1:Int))))) λu2=>
        bIf ((hide (decide (u1.1<(0:Int))))) (
          some ([],5,())
          ) (
          bIf ((hide (decide (u2.1<(0:Int))))) (
            some ([],5,())
            ) (
            J2 n m (s_,out,i,u1.1,u2.1,())
            )
          )
        )
      )
    ) (
    J4 n (out,())
    ):=(yah _).trans (by kernel_rfl)
theorem e2 (n m1:Nat)(s_:ByteArray)(out:List (Int))(i:Int)(hi:Int)(lo:Int):J2 n m1 (s_,out,i,hi,lo,()) =
  gNo ((4:Int)<0) (
    gIf ((out.length+1)*1≤70368744177664) (
      J3 n m1 (s_,(out++([(IntKind.u8.wrap (bitI .or .i64 (shlI .i64 hi 4) lo))]:List (Int))),i,())
      )
    ):=(yah _).trans (by kernel_rfl)
theorem e3 (n m1:Nat)(s_:ByteArray)(out:List (Int))(i:Int):J3 n m1 (s_,out,i,()) =
  J1 n m1 (s_,out,(IntKind.i64.wrap (i+(2:Int))),()):=(yah _).trans (by kernel_rfl)
theorem e4 (n:Nat)(out:List (Int)):J4 n (out,()) =
  some (out,0,()):=(yah _).trans (by kernel_rfl)
theorem phi (n:Nat):∀ e∈(X n).c.Φ,EntryOk Tryz.prog e:=yae (yac (ybY.ok)) (yax)
theorem ok (n:Nat):FnOk Tryz.prog 96 ia io (fRun (X n) n T Tryz.f96 ia io):=yaH mixed tabIs (phi n) Tryz.func96 (by kernel_rfl) rfl
noncomputable def en (n:Nat):Entry:=yaD 96 ia io (fRun (X n) n T Tryz.f96 ia io)
end yct
end Go.Proofs.YtdlkpmohjhjmfaaGreatDoor

namespace Go.Proofs.YtdlkpmohjhjmfaaGreatDoor
open Go Go.Va Go.Proofs
namespace ybm
abbrev ia:List Ai:=[.dat .str,.dat .str]
abbrev io:List (Nat×Oi):=[(4,.dat .bool)]
abbrev R:Type:=DOut ia io
noncomputable def X (n:Nat):Ctx:=⟨⟨tab,[],0,[]⟩,18,bnOf 0 ia⟩
noncomputable def T:CT := .o
noncomputable def f (n:Nat)(s_:ByteArray)(prefix_:ByteArray):Option R:=fRun (X n) n T Tryz.f203 ia io (s_,prefix_,())
theorem e0 (n:Nat) (s_:ByteArray) (prefix_:ByteArray):f n s_ prefix_ =
  bIf ((hide (decide ((s_.size:Int)≥(prefix_.size:Int))))) (
    gIf (0≤(prefix_.size:Int)∧(prefix_.size:Int)≤(s_.size:Int)) (
      gIf (0≤(0:Int)∧(0:Int)≤(prefix_.size:Int)) (
        some ((hide (eqS (s_.extract 0 ((prefix_.size:Int).toNat)) prefix_)),())
        )
      )
    ) (
    some (false,())
    ):=(yah _).trans (by kernel_rfl)
theorem phi (n:Nat):∀ e∈(X n).c.Φ,EntryOk Tryz.prog e:=yax
theorem ok (n:Nat):FnOk Tryz.prog 203 ia io (fRun (X n) n T Tryz.f203 ia io):=yaH mixed tabIs (phi n) Tryz.func203 (by kernel_rfl) rfl
noncomputable def en (n:Nat):Entry:=yaD 203 ia io (fRun (X n) n T Tryz.f203 ia io)
end ybm
end Go.Proofs.YtdlkpmohjhjmfaaGreatDoor

namespace Go.Proofs.YtdlkpmohjhjmfaaGreatDoor
open Go Go.Va Go.Proofs
namespace ybA
abbrev ia:List Ai:=[.dat .str,.dat .str]
abbrev io:List (Nat×Oi):=[(4,.dat .str),(5,.dat .bool)]
abbrev R:Type:=DOut ia io
noncomputable def X (n:Nat):Ctx:=⟨⟨tab,[ybm.en n],0,[]⟩,15,bnOf 0 ia⟩
noncomputable def T:CT := .o
noncomputable def f (n:Nat)(s_:ByteArray)(prefix_:ByteArray):Option R:=fRun (X n) n T Tryz.f151 ia io (s_,prefix_,())
theorem e0 (n:Nat) (s_:ByteArray) (prefix_:ByteArray):f n s_ prefix_ =
  bnd (ybm.f n s_ prefix_) λu1=>
  bIf ((!u1.1)) (
    some (s_,false,())
    ) (
    gIf (0≤(s_.size:Int)∧(s_.size:Int)≤(s_.size:Int)) (
      gIf (0≤(prefix_.size:Int)∧(prefix_.size:Int)≤(s_.size:Int)) (
        some ((s_.extract ((prefix_.size:Int).toNat) (((s_.size:Int)).toNat)),true,())
        )
      )
    ):=(yah _).trans (by kernel_rfl)
theorem phi (n:Nat):∀ e∈(X n).c.Φ,EntryOk Tryz.prog e:=yae (yac (ybm.ok n)) (yax)
theorem ok (n:Nat):FnOk Tryz.prog 151 ia io (fRun (X n) n T Tryz.f151 ia io):=yaH mixed tabIs (phi n) Tryz.func151 (by kernel_rfl) rfl
noncomputable def en (n:Nat):Entry:=yaD 151 ia io (fRun (X n) n T Tryz.f151 ia io)
end ybA
end Go.Proofs.YtdlkpmohjhjmfaaGreatDoor

namespace Go.Proofs.YtdlkpmohjhjmfaaGreatDoor
open Go Go.Va Go.Proofs
namespace ycE
abbrev ia:List Ai:=[.dat .str,.dat .str]
abbrev io:List (Nat×Oi):=[(4,.dat .str),(5,.dat .bool)]
abbrev R:Type:=DOut ia io
noncomputable def X (n:Nat):Ctx:=⟨⟨tab,[ybA.en n],0,[]⟩,11,bnOf 0 ia⟩
noncomputable def T:CT := .o
noncomputable def f (n:Nat)(s_:ByteArray)(prefix_:ByteArray):Option R:=fRun (X n) n T Tryz.f95 ia io (s_,prefix_,())
theorem e0 (n:Nat)(s_:ByteArray)(prefix_:ByteArray):f n s_ prefix_ =
  bnd (ybA.f n s_ prefix_) λu1=>
  some (u1.1,u1.2.1,()):=(yah _).trans (by kernel_rfl)
theorem phi (n:Nat):∀ e∈(X n).c.Φ,EntryOk Tryz.prog e:=yae (yac (ybA.ok n)) (yax)
theorem ok (n:Nat):FnOk Tryz.prog 95 ia io (fRun (X n) n T Tryz.f95 ia io):=yaH mixed tabIs (phi n) Tryz.func95 (by kernel_rfl) rfl
noncomputable def en (n:Nat):Entry:=yaD 95 ia io (fRun (X n) n T Tryz.f95 ia io)
end ycE
end Go.Proofs.YtdlkpmohjhjmfaaGreatDoor

namespace Go.Proofs.YtdlkpmohjhjmfaaGreatDoor
open Go Go.Va Go.Proofs
namespace ydl
abbrev ia:List Ai:=[.dat .str]
abbrev io:List (Nat×Oi):=[(2,.cel (.p (.d (.int .i64)) (.p (.d yav) (.p (.d (.int .i64)) (.p (.d (.int .i64)) (.p (.r 0 (.int .i64)) (.d .unit))))))),(3,.dat .bool)]
abbrev R:Type:=DOut ia io
noncomputable def X (n:Nat):Ctx:=⟨⟨tab,[yay.en n,ycE.en n,yct.en n,ybK.en n],0,[]⟩,40,bnOf 0 ia⟩
noncomputable def T:CT := .o
noncomputable def f (n:Nat)(w_:ByteArray):Option R:=fRun (X n) n T Tryz.f50 ia io (w_,())
theorem e0 (n:Nat) (w_:ByteArray):f n w_ =
  bnd (ycE.f n w_ (⟨#[120]⟩:ByteArray)) λu1=>
  bnd (yct.f n u1.1) λu2=>
  bnd (ybK.f n u2.1) λu3=>
  bIf (u1.2.1) (
    bIf ((hide (u2.2.1==(0:Int)))) (
      bIf ((hide (u3.2.1==(0:Int)))) (
        bnd (yay.f n u3.1) λu4=>
        some ((2,(u3.1,(0,(0,([],()))))),u4.1,())
        ) (
        some ((2,(u3.1,(0,(0,([],()))))),false,())
        )
      ) (
      some ((2,(u3.1,(0,(0,([],()))))),false,())
      )
    ) (
    some ((2,(u3.1,(0,(0,([],()))))),false,())
    ):=(yah _).trans (by kernel_rfl)
theorem phi (n:Nat):∀ e∈(X n).c.Φ,EntryOk Tryz.prog e:=yae (yac (yay.ok n)) (yae (yac (ycE.ok n)) (yae (yac (yct.ok n)) (yae (yac (ybK.ok n)) (yax))))
theorem ok (n:Nat):FnOk Tryz.prog 50 ia io (fRun (X n) n T Tryz.f50 ia io):=yaH mixed tabIs (phi n) Tryz.func50 (by kernel_rfl) rfl
noncomputable def en (n:Nat):Entry:=yaD 50 ia io (fRun (X n) n T Tryz.f50 ia io)
end ydl
end Go.Proofs.YtdlkpmohjhjmfaaGreatDoor

namespace Go.Proofs.YtdlkpmohjhjmfaaGreatDoor
open Go Go.Va Go.Proofs
namespace yb6
abbrev ia:List Ai:=[.dat (.slice (.int .i64))]
abbrev io:List (Nat×Oi):=[(2,.cel (.p (.d (.int .i64)) (.p (.p (.d (.int .i64)) (.p (.d .str) (.p (.d .str) (.p (.d .str) (.p (.d (.int .u64)) (.p (.r 0 (.int .u8)) (.p (.r 0 yaL) (.p (.d yaK) (.p (.d .bool) (.p (.d yaz) (.p (.r 0 yaG) (.p (.r 0 yaI) (.p (.d (.int .i64)) (.p (.r 0 (.int .i64)) (.d (.pair .str (.pair .str (.pair .str (.pair yaU (.pair (.int .i64) .unit)))))))))))))))))))) (.p (.d (.int .i64)) (.p (.d (.int .i64)) (.p (.r 0 (.int .i64)) (.d .unit))))))),(3,.dat .bool)]
abbrev R:Type:=DOut ia io
noncomputable def X (n:Nat):Ctx:=⟨⟨tab,[],0,[]⟩,45,bnOf 0 ia⟩
abbrev g1:List Si:=[.dat 0 (.slice (.int .i64)),.ref 2 2 ybe,.dat 21 .bool,.box 2 (.p (.d (.int .i64)) (.p (.p (.d (.int .i64)) (.p (.d .str) (.p (.d .str) (.p (.d .str) (.p (.d (.int .u64)) (.p (.r 100000000002000 (.int .u8)) (.p (.r 100000000002001 yaL) (.p (.d yaK) (.p (.d .bool) (.p (.d yaz) (.p (.r 100000000002002 yaG) (.p (.r 100000000002003 yaI) (.p (.d (.int .i64)) (.p (.r 100000000002004 (.int .i64)) (.d (.pair .str (.pair .str (.pair .str (.pair yaU (.pair (.int .i64) .unit)))))))))))))))))))) (.p (.d (.int .i64)) (.p (.d (.int .i64)) (.p (.r 100000000002005 (.int .i64)) (.d .unit))))))]
abbrev g2:List Si:=[.dat 0 (.slice (.int .i64)),.ref 2 2 ybe,.box 2 (.p (.d (.int .i64)) (.p (.p (.d (.int .i64)) (.p (.d .str) (.p (.d .str) (.p (.d .str) (.p (.d (.int .u64)) (.p (.r 100000000002000 (.int .u8)) (.p (.r 100000000002001 yaL) (.p (.d yaK) (.p (.d .bool) (.p (.d yaz) (.p (.r 100000000002002 yaG) (.p (.r 100000000002003 yaI) (.p (.d (.int .i64)) (.p (.r 100000000002004 (.int .i64)) (.d (.pair .str (.pair .str (.pair .str (.pair yaU (.pair (.int .i64) .unit)))))))))))))))))))) (.p (.d (.int .i64)) (.p (.d (.int .i64)) (.p (.r 100000000002005 (.int .i64)) (.d .unit))))))]
abbrev g3:List Si:=[.ref 2 2 ybe,.ref 4 4 ybe,.dat 31 (.slice (.int .i64)),.dat 32 (.int .i64),.dat 33 (.int .i64),.box 2 (.p (.d (.int .i64)) (.p (.p (.d (.int .i64)) (.p (.d .str) (.p (.d .str) (.p (.d .str) (.p (.d (.int .u64)) (.p (.r 100000000002000 (.int .u8)) (.p (.r 100000000002001 yaL) (.p (.d yaK) (.p (.d .bool) (.p (.d yaz) (.p (.r 100000000002002 yaG) (.p (.r 100000000002003 yaI) (.p (.d (.int .i64)) (.p (.r 100000000002004 (.int .i64)) (.d (.pair .str (.pair .str (.pair .str (.pair yaU (.pair (.int .i64) .unit)))))))))))))))))))) (.p (.d (.int .i64)) (.p (.d (.int .i64)) (.p (.r 100000000002005 (.int .i64)) (.d .unit)))))),.box 4 (.p (.d (.int .i64)) (.p (.p (.d (.int .i64)) (.p (.d .str) (.p (.d .str) (.p (.d .str) (.p (.d (.int .u64)) (.p (.r 100000000004000 (.int .u8)) (.p (.r 100000000004001 yaL) (.p (.d yaK) (.p (.d .bool) (.p (.d yaz) (.p (.r 100000000004002 yaG) (.p (.r 100000000004003 yaI) (.p (.d (.int .i64)) (.p (.r 100000000004004 (.int .i64)) (.d (.pair .str (.pair .str (.pair .str (.pair yaU (.pair (.int .i64) .unit)))))))))))))))))))) (.p (.d (.int .i64)) (.p (.d (.int .i64)) (.p (.r 100000000004005 (.int .i64)) (.d .unit))))))]
abbrev g4:List Si:=[.ref 2 2 ybe,.ref 4 4 ybe,.box 2 (.p (.d (.int .i64)) (.p (.p (.d (.int .i64)) (.p (.d .str) (.p (.d .str) (.p (.d .str) (.p (.d (.int .u64)) (.p (.r 100000000002000 (.int .u8)) (.p (.r 100000000002001 yaL) (.p (.d yaK) (.p (.d .bool) (.p (.d yaz) (.p (.r 100000000002002 yaG) (.p (.r 100000000002003 yaI) (.p (.d (.int .i64)) (.p (.r 100000000002004 (.int .i64)) (.d (.pair .str (.pair .str (.pair .str (.pair yaU (.pair (.int .i64) .unit)))))))))))))))))))) (.p (.d (.int .i64)) (.p (.d (.int .i64)) (.p (.r 100000000002005 (.int .i64)) (.d .unit)))))),.box 4 (.p (.d (.int .i64)) (.p (.p (.d (.int .i64)) (.p (.d .str) (.p (.d .str) (.p (.d .str) (.p (.d (.int .u64)) (.p (.r 100000000004000 (.int .u8)) (.p (.r 100000000004001 yaL) (.p (.d yaK) (.p (.d .bool) (.p (.d yaz) (.p (.r 100000000004002 yaG) (.p (.r 100000000004003 yaI) (.p (.d (.int .i64)) (.p (.r 100000000004004 (.int .i64)) (.d (.pair .str (.pair .str (.pair .str (.pair yaU (.pair (.int .i64) .unit)))))))))))))))))))) (.p (.d (.int .i64)) (.p (.d (.int .i64)) (.p (.r 100000000004005 (.int .i64)) (.d .unit))))))]
noncomputable def T:CT:=(.s .o (.s (.s .o (.r g1 .o)) (.r g2 (.s .o (.s (.s .o (.b (.l g3 .o))) (.r g4 .o))))))
noncomputable def J1 (n:Nat):(List (Int))×Bool×yaZ×Unit→Option R:=jR (X n) n T (yaR Tryz.f52) (endK ia io) g1 [1,0,1] []
noncomputable def J2 (n:Nat):(List (Int))×yaZ×Unit→Option R:=jR (X n) n T (yaR Tryz.f52) (endK ia io) g2 [1,1] []
noncomputable def J3 (n:Nat)(m:Nat):(List (Int))×Int×Int×yaZ×yaZ×Unit→Option R:=jL (X n) n T (yaR Tryz.f52) (endK ia io) g3 [1,1,1,0,1,0] [] m
noncomputable def J4 (n:Nat):yaZ×yaZ×Unit→Option R:=jR (X n) n T (yaR Tryz.f52) (endK ia io) g4 [1,1,1,1] []
noncomputable def f (n:Nat)(n_:List (Int)):Option R:=fRun (X n) n T Tryz.f52 ia io (n_,())
theorem e0 (n:Nat) (n_:List (Int)):f n n_ =
  bIf ((hide (decide (((n_.length:Nat):Int)<(2:Int))))) (
    J1 n (n_,true,(0,((0,((⟨#[]⟩:ByteArray),((⟨#[]⟩:ByteArray),((⟨#[]⟩:ByteArray),(0,([],([],((0,(0,(false,()))),(false,((0,(0,())),([],([],(0,([],((⟨#[]⟩:ByteArray),((⟨#[]⟩:ByteArray),((⟨#[]⟩:ByteArray),(((⟨#[]⟩:ByteArray),((⟨#[]⟩:ByteArray),(0,()))),(0,()))))))))))))))))))),(0,(0,([],()))))),())
    ) (
    gIf (0≤(1:Int)∧(1:Int)<((n_.length:Nat):Int)) (
      bIf ((hide (decide ((List.getD n_ 1 0)<(0:Int))))) (
        J1 n (n_,true,(0,((0,((⟨#[]⟩:ByteArray),((⟨#[]⟩:ByteArray),((⟨#[]⟩:ByteArray),(0,([],([],((0,(0,(false,()))),(false,((0,(0,())),([],([],(0,([],((⟨#[]⟩:ByteArray),((⟨#[]⟩:ByteArray),((⟨#[]⟩:ByteArray),(((⟨#[]⟩:ByteArray),((⟨#[]⟩:ByteArray),(0,()))),(0,()))))))))))))))))))),(0,(0,([],()))))),())
        ) (
        gIf (0≤(1:Int)∧(1:Int)<((n_.length:Nat):Int)) (
          J1 n (n_,(hide (decide ((List.getD n_ 1 0)>(255:Int)))),(0,((0,((⟨#[]⟩:ByteArray),((⟨#[]⟩:ByteArray),((⟨#[]⟩:ByteArray),(0,([],([],((0,(0,(false,()))),(false,((0,(0,())),([],([],(0,([],((⟨#[]⟩:ByteArray),((⟨#[]⟩:ByteArray),((⟨#[]⟩:ByteArray),(((⟨#[]⟩:ByteArray),((⟨#[]⟩:ByteArray),(0,()))),(0,()))))))))))))))))))),(0,(0,([],()))))),())
          )
        )
      )
    ):=(yah _).trans (by kernel_rfl)
theorem e1 (n:Nat)(n_:List (Int))(t21:Bool)(b2:yaZ):J1 n (n_,t21,b2,()) =
  bIf (t21) (
    some ((0,((0,((⟨#[]⟩:ByteArray),((⟨#[]⟩:ByteArray),((⟨#[]⟩:ByteArray),(0,([],([],((0,(0,(false,()))),(false,((0,(0,())),([],([],(0,([],((⟨#[]⟩:ByteArray),((⟨#[]⟩:ByteArray),((⟨#[]⟩:ByteArray),(((⟨#[]⟩:ByteArray),((⟨#[]⟩:ByteArray),(0,()))),(0,()))))))))))))))))))),(0,(0,([],()))))),false,())
    ) (
    J2 n (n_,(b2.1,((b2.2.1.1,(b2.2.1.2.1,(b2.2.1.2.2.1,(b2.2.1.2.2.2.1,(b2.2.1.2.2.2.2.1,(b2.2.1.2.2.2.2.2.1,(b2.2.1.2.2.2.2.2.2.1,(b2.2.1.2.2.2.2.2.2.2.1,(b2.2.1.2.2.2.2.2.2.2.2.1,(b2.2.1.2.2.2.2.2.2.2.2.2.1,(b2.2.1.2.2.2.2.2.2.2.2.2.2.1,(b2.2.1.2.2.2.2.2.2.2.2.2.2.2.1,(b2.2.1.2.2.2.2.2.2.2.2.2.2.2.2.1,(b2.2.1.2.2.2.2.2.2.2.2.2.2.2.2.2.1,b2.2.1.2.2.2.2.2.2.2.2.2.2.2.2.2.2)))))))))))))),(b2.2.2.1,(b2.2.2.2.1,(b2.2.2.2.2.1,b2.2.2.2.2.2))))),())
    ):=(yah _).trans (by kernel_rfl)
theorem e2 (n:Nat) (n_:List (Int)) (b2:yaZ):J2 n (n_,b2,()) =
  gIf (0≤(0:Int)∧(0:Int)<((n_.length:Nat):Int)) (
    gIf (0≤(1:Int)∧(1:Int)<((n_.length:Nat):Int)) (
      gIf (0≤((n_.length:Nat):Int)∧((n_.length:Nat):Int)≤((n_.length:Nat):Int)) (
        gIf (0≤(2:Int)∧(2:Int)≤((n_.length:Nat):Int)) (
          J3 n n (((n_.take ((((n_.length:Nat):Int)).toNat)).drop 2),((((n_.take ((((n_.length:Nat):Int)).toNat)).drop 2).length:Nat):Int),0,(b2.1,((b2.2.1.1,(b2.2.1.2.1,(b2.2.1.2.2.1,(b2.2.1.2.2.2.1,(b2.2.1.2.2.2.2.1,(b2.2.1.2.2.2.2.2.1,(b2.2.1.2.2.2.2.2.2.1,(b2.2.1.2.2.2.2.2.2.2.1,(b2.2.1.2.2.2.2.2.2.2.2.1,(b2.2.1.2.2.2.2.2.2.2.2.2.1,(b2.2.1.2.2.2.2.2.2.2.2.2.2.1,(b2.2.1.2.2.2.2.2.2.2.2.2.2.2.1,(b2.2.1.2.2.2.2.2.2.2.2.2.2.2.2.1,(b2.2.1.2.2.2.2.2.2.2.2.2.2.2.2.2.1,b2.2.1.2.2.2.2.2.2.2.2.2.2.2.2.2.2)))))))))))))),(b2.2.2.1,(b2.2.2.2.1,(b2.2.2.2.2.1,b2.2.2.2.2.2))))),(8,((0,((⟨#[]⟩:ByteArray),((⟨#[]⟩:ByteArray),((⟨#[]⟩:ByteArray),(0,([],([],((0,(0,(false,()))),(false,((0,(0,())),([],([],(0,([],((⟨#[]⟩:ByteArray),((⟨#[]⟩:ByteArray),((⟨#[]⟩:ByteArray),(((⟨#[]⟩:ByteArray),((⟨#[]⟩:ByteArray),(0,()))),(0,()))))))))))))))))))),((List.getD n_ 1 0),((List.getD n_ 0 0),([],()))))),())
          )
        )
      )
    ):=(yah _).trans (by kernel_rfl)
theorem e3 (n m:Nat) (t31:List (Int)) (t32:Int) (t33:Int) (b2:yaZ) (a:yaZ):J3 n (m+1) (t31,t32,t33,b2,a,()) =
  bIf ((hide (decide (t33<t32)))) (
    gIf (0≤t33∧t33<((t31.length:Nat):Int)) (
      gIf ((a.2.2.2.2.1.length+1)*8≤70368744177664) (
        J3 n m (t31,t32,(IntKind.i64.wrap (t33+(1:Int))),(b2.1,((b2.2.1.1,(b2.2.1.2.1,(b2.2.1.2.2.1,(b2.2.1.2.2.2.1,(b2.2.1.2.2.2.2.1,(b2.2.1.2.2.2.2.2.1,(b2.2.1.2.2.2.2.2.2.1,(b2.2.1.2.2.2.2.2.2.2.1,(b2.2.1.2.2.2.2.2.2.2.2.1,(b2.2.1.2.2.2.2.2.2.2.2.2.1,(b2.2.1.2.2.2.2.2.2.2.2.2.2.1,(b2.2.1.2.2.2.2.2.2.2.2.2.2.2.1,(b2.2.1.2.2.2.2.2.2.2.2.2.2.2.2.1,(b2.2.1.2.2.2.2.2.2.2.2.2.2.2.2.2.1,b2.2.1.2.2.2.2.2.2.2.2.2.2.2.2.2.2)))))))))))))),(b2.2.2.1,(b2.2.2.2.1,(b2.2.2.2.2.1,b2.2.2.2.2.2))))),(a.1,((a.2.1.1,(a.2.1.2.1,(a.2.1.2.2.1,(a.2.1.2.2.2.1,(a.2.1.2.2.2.2.1,(a.2.1.2.2.2.2.2.1,(a.2.1.2.2.2.2.2.2.1,(a.2.1.2.2.2.2.2.2.2.1,(a.2.1.2.2.2.2.2.2.2.2.1,(a.2.1.2.2.2.2.2.2.2.2.2.1,(a.2.1.2.2.2.2.2.2.2.2.2.2.1,(a.2.1.2.2.2.2.2.2.2.2.2.2.2.1,(a.2.1.2.2.2.2.2.2.2.2.2.2.2.2.1,(a.2.1.2.2.2.2.2.2.2.2.2.2.2.2.2.1,a.2.1.2.2.2.2.2.2.2.2.2.2.2.2.2.2)))))))))))))),(a.2.2.1,(a.2.2.2.1,((a.2.2.2.2.1++([(List.getD t31 t33.toNat 0)]:List (Int))),a.2.2.2.2.2))))),())
        )
      )
    ) (
    J4 n ((b2.1,((b2.2.1.1,(b2.2.1.2.1,(b2.2.1.2.2.1,(b2.2.1.2.2.2.1,(b2.2.1.2.2.2.2.1,(b2.2.1.2.2.2.2.2.1,(b2.2.1.2.2.2.2.2.2.1,(b2.2.1.2.2.2.2.2.2.2.1,(b2.2.1.2.2.2.2.2.2.2.2.1,(b2.2.1.2.2.2.2.2.2.2.2.2.1,(b2.2.1.2.2.2.2.2.2.2.2.2.2.1,(b2.2.1.2.2.2.2.2.2.2.2.2.2.2.1,(b2.2.1.2.2.2.2.2.2.2.2.2.2.2.2.1,(b2.2.1.2.2.2.2.2.2.2.2.2.2.2.2.2.1,b2.2.1.2.2.2.2.2.2.2.2.2.2.2.2.2.2)))))))))))))),(b2.2.2.1,(b2.2.2.2.1,(b2.2.2.2.2.1,b2.2.2.2.2.2))))),(a.1,((a.2.1.1,(a.2.1.2.1,(a.2.1.2.2.1,(a.2.1.2.2.2.1,(a.2.1.2.2.2.2.1,(a.2.1.2.2.2.2.2.1,(a.2.1.2.2.2.2.2.2.1,(a.2.1.2.2.2.2.2.2.2.1,(a.2.1.2.2.2.2.2.2.2.2.1,(a.2.1.2.2.2.2.2.2.2.2.2.1,(a.2.1.2.2.2.2.2.2.2.2.2.2.1,(a.2.1.2.2.2.2.2.2.2.2.2.2.2.1,(a.2.1.2.2.2.2.2.2.2.2.2.2.2.2.1,(a.2.1.2.2.2.2.2.2.2.2.2.2.2.2.2.1,a.2.1.2.2.2.2.2.2.2.2.2.2.2.2.2.2)))))))))))))),(a.2.2.1,(a.2.2.2.1,(a.2.2.2.2.1,a.2.2.2.2.2))))),())
    ):=(yah _).trans (by kernel_rfl)
theorem e4 (n:Nat)(b2:yaZ)(a:yaZ):J4 n (b2,a,()) =
  some ((a.1,((a.2.1.1,(a.2.1.2.1,(a.2.1.2.2.1,(a.2.1.2.2.2.1,(a.2.1.2.2.2.2.1,(a.2.1.2.2.2.2.2.1,(a.2.1.2.2.2.2.2.2.1,(a.2.1.2.2.2.2.2.2.2.1,(a.2.1.2.2.2.2.2.2.2.2.1,(a.2.1.2.2.2.2.2.2.2.2.2.1,(a.2.1.2.2.2.2.2.2.2.2.2.2.1,(a.2.1.2.2.2.2.2.2.2.2.2.2.2.1,(a.2.1.2.2.2.2.2.2.2.2.2.2.2.2.1,(a.2.1.2.2.2.2.2.2.2.2.2.2.2.2.2.1,a.2.1.2.2.2.2.2.2.2.2.2.2.2.2.2.2)))))))))))))),(a.2.2.1,(a.2.2.2.1,(a.2.2.2.2.1,a.2.2.2.2.2))))),true,()):=(yah _).trans (by kernel_rfl)
theorem phi (n:Nat):∀ e∈(X n).c.Φ,EntryOk Tryz.prog e:=yax
theorem ok (n:Nat):FnOk Tryz.prog 52 ia io (fRun (X n) n T Tryz.f52 ia io):=yaH mixed tabIs (phi n) Tryz.func52 (by kernel_rfl) rfl
noncomputable def en (n:Nat):Entry:=yaD 52 ia io (fRun (X n) n T Tryz.f52 ia io)
end yb6
end Go.Proofs.YtdlkpmohjhjmfaaGreatDoor

namespace Go.Proofs.YtdlkpmohjhjmfaaGreatDoor
open Go Go.Va Go.Proofs
namespace yck
abbrev ia:List Ai:=[.dat (.slice .str)]
abbrev io:List (Nat×Oi):=[(2,.val (.r 0 (.int .i64))),(3,.dat .bool)]
abbrev R:Type:=DOut ia io
noncomputable def X (n:Nat):Ctx:=⟨⟨tab,[yef.en],0,[]⟩,28,bnOf 0 ia⟩
abbrev g1:List Si:=[.val 4 (.r 200400 (.int .i64)),.dat 9 (.slice .str),.dat 10 (.int .i64),.dat 11 (.int .i64)]
abbrev g2:List Si:=[.val 4 (.r 200400 (.int .i64))]
noncomputable def T:CT:=(.s .o (.s .o (.s (.s .o (.b (.l g1 .o))) (.r g2 .o))))
noncomputable def J1 (n:Nat)(m:Nat):(List (Int))×(List (ByteArray))×Int×Int×Unit→Option R:=jL (X n) n T (yaR Tryz.f51) (endK ia io) g1 [1,1,0,1,0] [] m
noncomputable def J2 (n:Nat):(List (Int))×Unit→Option R:=jR (X n) n T (yaR Tryz.f51) (endK ia io) g2 [1,1,1] []
noncomputable def f (n:Nat)(w_:List (ByteArray)):Option R:=fRun (X n) n T Tryz.f51 ia io (w_,())
theorem e0 (n:Nat)(w_:List (ByteArray)):f n w_ =
  J1 n n ([],w_,((w_.length:Nat):Int),0,()):=(yah _).trans (by kernel_rfl)
theorem e1 (n m:Nat) (out:List (Int)) (t9:List (ByteArray)) (t10:Int) (t11:Int):J1 n (m+1) (out,t9,t10,t11,()) =
  bIf ((hide (decide (t11<t10)))) (
    gIf (0≤t11∧t11<((t9.length:Nat):Int)) (
      bnd (yef.f (List.getD t9 t11.toNat (⟨#[]⟩:ByteArray))) λu1=>
      bIf ((!u1.2.1)) (
        some ([],false,())
        ) (
        gIf ((out.length+1)*8≤70368744177664) (
          J1 n m ((out++([u1.1]:List (Int))),t9,t10,(IntKind.i64.wrap (t11+(1:Int))),())
          )
        )
      )
    ) (
    J2 n (out,())
    ):=(yah _).trans (by kernel_rfl)
theorem e2 (n:Nat)(out:List (Int)):J2 n (out,()) =
  some (out,true,()):=(yah _).trans (by kernel_rfl)
theorem phi (n:Nat):∀ e∈(X n).c.Φ,EntryOk Tryz.prog e:=yae (yac (yef.ok)) (yax)
theorem ok (n:Nat):FnOk Tryz.prog 51 ia io (fRun (X n) n T Tryz.f51 ia io):=yaH mixed tabIs (phi n) Tryz.func51 (by kernel_rfl) rfl
noncomputable def en (n:Nat):Entry:=yaD 51 ia io (fRun (X n) n T Tryz.f51 ia io)
end yck
end Go.Proofs.YtdlkpmohjhjmfaaGreatDoor

namespace Go.Proofs.YtdlkpmohjhjmfaaGreatDoor
open Go Go.Va Go.Proofs
namespace ybb
abbrev ia:List Ai:=[.dat (.slice .str)]
abbrev io:List (Nat×Oi):=[(2,.cel (.p (.d (.int .i64)) (.p (.d yav) (.p (.d (.int .i64)) (.p (.d (.int .i64)) (.p (.r 0 (.int .i64)) (.d .unit))))))),(3,.dat .bool)]
abbrev R:Type:=DOut ia io
noncomputable def X (n:Nat):Ctx:=⟨⟨tab,[ydh.en,ydl.en n,yck.en n,yb6.en n],0,[]⟩,80,bnOf 0 ia⟩
abbrev g1:List Si:=[.dat 0 (.slice .str),.ref 2 2 ybe,.dat 30 .bool,.box 2 (.p (.d (.int .i64)) (.p (.p (.d (.int .i64)) (.p (.d .str) (.p (.d .str) (.p (.d .str) (.p (.d (.int .u64)) (.p (.r 100000000002000 (.int .u8)) (.p (.r 100000000002001 yaL) (.p (.d yaK) (.p (.d .bool) (.p (.d yaz) (.p (.r 100000000002002 yaG) (.p (.r 100000000002003 yaI) (.p (.d (.int .i64)) (.p (.r 100000000002004 (.int .i64)) (.d (.pair .str (.pair .str (.pair .str (.pair yaU (.pair (.int .i64) .unit)))))))))))))))))))) (.p (.d (.int .i64)) (.p (.d (.int .i64)) (.p (.r 100000000002005 (.int .i64)) (.d .unit))))))]
abbrev g2:List Si:=[.dat 0 (.slice .str),.ref 2 2 ybe,.box 2 (.p (.d (.int .i64)) (.p (.p (.d (.int .i64)) (.p (.d .str) (.p (.d .str) (.p (.d .str) (.p (.d (.int .u64)) (.p (.r 100000000002000 (.int .u8)) (.p (.r 100000000002001 yaL) (.p (.d yaK) (.p (.d .bool) (.p (.d yaz) (.p (.r 100000000002002 yaG) (.p (.r 100000000002003 yaI) (.p (.d (.int .i64)) (.p (.r 100000000002004 (.int .i64)) (.d (.pair .str (.pair .str (.pair .str (.pair yaU (.pair (.int .i64) .unit)))))))))))))))))))) (.p (.d (.int .i64)) (.p (.d (.int .i64)) (.p (.r 100000000002005 (.int .i64)) (.d .unit))))))]
noncomputable def T:CT:=(.s .o (.s .o (.s (.s .o (.r g1 .o)) (.r g2 .o))))
noncomputable def J1 (n:Nat):(List (ByteArray))×Bool×yaZ×Unit→Option R:=jR (X n) n T (yaR Tryz.f24) (endK ia io) g1 [1,1,0,1] []
noncomputable def J2 (n:Nat):(List (ByteArray))×yaZ×Unit→Option R:=jR (X n) n T (yaR Tryz.f24) (endK ia io) g2 [1,1,1] []
noncomputable def f (n:Nat)(w_:List (ByteArray)):Option R:=fRun (X n) n T Tryz.f24 ia io (w_,())
theorem e0 (n:Nat) (w_:List (ByteArray)):f n w_ =
  bnd (ydh.f) λu1=>
  gIf (0≤(0:Int)∧(0:Int)<((w_.length:Nat):Int)) (
    bIf ((smGet u1.1 (List.getD w_ 0 (⟨#[]⟩:ByteArray))).2) (
      some (((smGet u1.1 (List.getD w_ 0 (⟨#[]⟩:ByteArray))).1,((0,((⟨#[]⟩:ByteArray),((⟨#[]⟩:ByteArray),((⟨#[]⟩:ByteArray),(0,([],([],((0,(0,(false,()))),(false,((0,(0,())),([],([],(0,([],((⟨#[]⟩:ByteArray),((⟨#[]⟩:ByteArray),((⟨#[]⟩:ByteArray),(((⟨#[]⟩:ByteArray),((⟨#[]⟩:ByteArray),(0,()))),(0,()))))))))))))))))))),(0,(0,([],()))))),(hide (((w_.length:Nat):Int)==(1:Int))),())
      ) (
      gIf (0≤(0:Int)∧(0:Int)<((w_.length:Nat):Int)) (
        bIf ((hide (eqS (List.getD w_ 0 (⟨#[]⟩:ByteArray)) (⟨#[97,115,107]⟩:ByteArray)))) (
          J1 n (w_,(hide (((w_.length:Nat):Int)==(2:Int))),(0,((0,((⟨#[]⟩:ByteArray),((⟨#[]⟩:ByteArray),((⟨#[]⟩:ByteArray),(0,([],([],((0,(0,(false,()))),(false,((0,(0,())),([],([],(0,([],((⟨#[]⟩:ByteArray),((⟨#[]⟩:ByteArray),((⟨#[]⟩:ByteArray),(((⟨#[]⟩:ByteArray),((⟨#[]⟩:ByteArray),(0,()))),(0,()))))))))))))))))))),(0,(0,([],()))))),())
          ) (
          J1 n (w_,false,(0,((0,((⟨#[]⟩:ByteArray),((⟨#[]⟩:ByteArray),((⟨#[]⟩:ByteArray),(0,([],([],((0,(0,(false,()))),(false,((0,(0,())),([],([],(0,([],((⟨#[]⟩:ByteArray),((⟨#[]⟩:ByteArray),((⟨#[]⟩:ByteArray),(((⟨#[]⟩:ByteArray),((⟨#[]⟩:ByteArray),(0,()))),(0,()))))))))))))))))))),(0,(0,([],()))))),())
          )
        )
      )
    ):=(yah _).trans (by kernel_rfl)
theorem e1 (n:Nat)(w_:List (ByteArray))(t30:Bool)(b2:yaZ):J1 n (w_,t30,b2,()) =
  bIf (t30) (
    gIf (0≤(1:Int)∧(1:Int)<((w_.length:Nat):Int)) (
      bnd (ydl.f n (List.getD w_ 1 (⟨#[]⟩:ByteArray))) λu1=>
      some ((u1.1.1,(u1.1.2.1,(u1.1.2.2.1,(u1.1.2.2.2.1,(u1.1.2.2.2.2.1,u1.1.2.2.2.2.2))))),u1.2.1,())
      )
    ) (
    J2 n (w_,(b2.1,((b2.2.1.1,(b2.2.1.2.1,(b2.2.1.2.2.1,(b2.2.1.2.2.2.1,(b2.2.1.2.2.2.2.1,(b2.2.1.2.2.2.2.2.1,(b2.2.1.2.2.2.2.2.2.1,(b2.2.1.2.2.2.2.2.2.2.1,(b2.2.1.2.2.2.2.2.2.2.2.1,(b2.2.1.2.2.2.2.2.2.2.2.2.1,(b2.2.1.2.2.2.2.2.2.2.2.2.2.1,(b2.2.1.2.2.2.2.2.2.2.2.2.2.2.1,(b2.2.1.2.2.2.2.2.2.2.2.2.2.2.2.1,(b2.2.1.2.2.2.2.2.2.2.2.2.2.2.2.2.1,b2.2.1.2.2.2.2.2.2.2.2.2.2.2.2.2.2)))))))))))))),(b2.2.2.1,(b2.2.2.2.1,(b2.2.2.2.2.1,b2.2.2.2.2.2))))),())
    ):=(yah _).trans (by kernel_rfl)
theorem e2 (n : Nat) (w_:List (ByteArray)) (b2:yaZ):J2 n (w_,b2,()) =
  gIf (0≤((w_.length:Nat):Int)∧((w_.length:Nat):Int)≤((w_.length:Nat):Int)) (
    gIf (0 ≤ (1 : Int)∧(1:Int)≤((w_.length:Nat):Int)) (
      bnd (yck.f n ((w_.take ((((w_.length:Nat):Int)).toNat)).drop 1)) λu1=>
      bIf ((!u1.2.1)) (
        some ((0,((0,((⟨#[]⟩:ByteArray),((⟨#[]⟩:ByteArray),((⟨#[]⟩:ByteArray),(0,([],([],((0,(0,(false,()))),(false,((0,(0,())),([],([],(0,([],((⟨#[]⟩:ByteArray),((⟨#[]⟩:ByteArray),((⟨#[]⟩:ByteArray),(((⟨#[]⟩:ByteArray),((⟨#[]⟩:ByteArray),(0,()))),(0,()))))))))))))))))))),(0,(0,([],()))))),false,())
        ) (
        gIf (0 ≤ (0 : Int)∧(0:Int)<((w_.length:Nat):Int)) (
          bIf ((hide (eqS (List.getD w_ 0 (⟨#[]⟩:ByteArray)) (⟨#[99,114,97,115,104]⟩:ByteArray)))) (
            bnd (yb6.f n u1.1) λu2=>
            some ((u2.1.1,((u2.1.2.1.1,(u2.1.2.1.2.1,(u2.1.2.1.2.2.1,(u2.1.2.1.2.2.2.1,(u2.1.2.1.2.2.2.2.1,(u2.1.2.1.2.2.2.2.2.1,(u2.1.2.1.2.2.2.2.2.2.1,(u2.1.2.1.2.2.2.2.2.2.2.1,(u2.1.2.1.2.2.2.2.2.2.2.2.1,(u2.1.2.1.2.2.2.2.2.2.2.2.2.1,(u2.1.2.1.2.2.2.2.2.2.2.2.2.2.1,(u2.1.2.1.2.2.2.2.2.2.2.2.2.2.2.1,(u2.1.2.1.2.2.2.2.2.2.2.2.2.2.2.2.1,(u2.1.2.1.2.2.2.2.2.2.2.2.2.2.2.2.2.1,u2.1.2.1.2.2.2.2.2.2.2.2.2.2.2.2.2.2)))))))))))))),(u2.1.2.2.1,(u2.1.2.2.2.1,(u2.1.2.2.2.2.1,u2.1.2.2.2.2.2))))),u2.2.1,())
            ) (
            bIf ((hide (((u1.1.length:Nat):Int) != (1:Int)))) (
              some ((0,((0,((⟨#[]⟩:ByteArray),((⟨#[]⟩:ByteArray),((⟨#[]⟩:ByteArray),(0,([],([],((0,(0,(false,()))),(false,((0,(0,())),([],([],(0,([],((⟨#[]⟩:ByteArray),((⟨#[]⟩:ByteArray),((⟨#[]⟩:ByteArray),(((⟨#[]⟩:ByteArray),((⟨#[]⟩:ByteArray),(0,()))),(0,()))))))))))))))))))),(0,(0,([],()))))),false,())
              ) (
              gIf (0≤(0:Int)∧(0:Int)<((w_.length:Nat):Int)) (
                bIf ((hide (eqS (List.getD w_ 0 (⟨#[]⟩:ByteArray)) (⟨#[99,108,111,99,107]⟩:ByteArray)))) (
                  gIf (0≤(0:Int)∧(0:Int)<((u1.1.length:Nat):Int)) (
                    some ((3,((0,((⟨#[]⟩:ByteArray),((⟨#[]⟩:ByteArray),((⟨#[]⟩:ByteArray),(0,([],([],((0,(0,(false,()))),(false,((0,(0,())),([],([],(0,([],((⟨#[]⟩:ByteArray),((⟨#[]⟩:ByteArray),((⟨#[]⟩:ByteArray),(((⟨#[]⟩:ByteArray),((⟨#[]⟩:ByteArray),(0,()))),(0,()))))))))))))))))))),((List.getD u1.1 (0+0) 0),(0,([],()))))),true,())
                    )
                  ) (
                  gIf (0≤(0:Int)∧(0:Int)<((w_.length:Nat):Int)) (
                    bIf ((hide (eqS (List.getD w_ 0 (⟨#[]⟩:ByteArray)) (⟨#[102,97,105,108]⟩:ByteArray)))) (
                      gIf (0≤(0:Int)∧(0:Int)<((u1.1.length:Nat):Int)) (
                        some ((7,((0,((⟨#[]⟩:ByteArray),((⟨#[]⟩:ByteArray),((⟨#[]⟩:ByteArray),(0,([],([],((0,(0,(false,()))),(false,((0,(0,())),([],([],(0,([],((⟨#[]⟩:ByteArray),((⟨#[]⟩:ByteArray),((⟨#[]⟩:ByteArray),(((⟨#[]⟩:ByteArray),((⟨#[]⟩:ByteArray),(0,()))),(0,()))))))))))))))))))),(0,((List.getD u1.1 (0+0) 0),([],()))))),true,())
                        )
                      ) (
                      some ((0,((0,((⟨#[]⟩:ByteArray),((⟨#[]⟩:ByteArray),((⟨#[]⟩:ByteArray),(0,([],([],((0,(0,(false,()))),(false,((0,(0,())),([],([],(0,([],((⟨#[]⟩:ByteArray),((⟨#[]⟩:ByteArray),((⟨#[]⟩:ByteArray),(((⟨#[]⟩:ByteArray),((⟨#[]⟩:ByteArray),(0,()))),(0,()))))))))))))))))))),(0,(0,([],()))))),false,())
                      )
                    )
                  )
                )
              )
            )
          )
        )
      )
    ):=(yah _).trans (by kernel_rfl)
theorem phi (n:Nat):∀ e∈(X n).c.Φ,EntryOk Tryz.prog e:=yae (yac (ydh.ok)) (yae (yac (ydl.ok n)) (yae (yac (yck.ok n)) (yae (yac (yb6.ok n)) (yax))))
theorem ok (n:Nat):FnOk Tryz.prog 24 ia io (fRun (X n) n T Tryz.f24 ia io):=yaH mixed tabIs (phi n) Tryz.func24 (by kernel_rfl) rfl
noncomputable def en (n:Nat):Entry:=yaD 24 ia io (fRun (X n) n T Tryz.f24 ia io)
end ybb
end Go.Proofs.YtdlkpmohjhjmfaaGreatDoor

namespace Go.Proofs.YtdlkpmohjhjmfaaGreatDoor
open Go Go.Va Go.Proofs
namespace ybj
abbrev ia:List Ai:=[.dat .str]
abbrev io:List (Nat×Oi):=[(2,.cel (.p (.d (.int .i64)) (.p (.d yav) (.p (.d (.int .i64)) (.p (.d (.int .i64)) (.p (.r 0 (.int .i64)) (.d .unit))))))),(3,.dat (.int .i64))]
abbrev R:Type:=DOut ia io
noncomputable def X (n:Nat):Ctx:=⟨⟨tab,[ybb.en n,ycb.en],0,[]⟩,16,bnOf 0 ia⟩
noncomputable def T:CT := .o
noncomputable def f (n:Nat)(s_:ByteArray):Option R:=fRun (X n) n T Tryz.f11 ia io (s_,())
theorem e0 (n:Nat)(s_:ByteArray):f n s_ =
  bnd (ycb.f s_ (⟨#[32]⟩:ByteArray)) λu1=>
  bnd (ybb.f n u1.1) λu2=>
  bIf ((!u2.2.1)) (
    some ((0,((0,((⟨#[]⟩:ByteArray),((⟨#[]⟩:ByteArray),((⟨#[]⟩:ByteArray),(0,([],([],((0,(0,(false,()))),(false,((0,(0,())),([],([],(0,([],((⟨#[]⟩:ByteArray),((⟨#[]⟩:ByteArray),((⟨#[]⟩:ByteArray),(((⟨#[]⟩:ByteArray),((⟨#[]⟩:ByteArray),(0,()))),(0,()))))))))))))))))))),(0,(0,([],()))))),5,())
    ) (
    some ((u2.1.1,(u2.1.2.1,(u2.1.2.2.1,(u2.1.2.2.2.1,(u2.1.2.2.2.2.1,u2.1.2.2.2.2.2))))),0,())
    ):=(yah _).trans (by kernel_rfl)
theorem phi (n:Nat):∀ e∈(X n).c.Φ,EntryOk Tryz.prog e:=yae (yac (ybb.ok n)) (yae (yac (ycb.ok)) (yax))
theorem ok (n:Nat):FnOk Tryz.prog 11 ia io (fRun (X n) n T Tryz.f11 ia io):=yaH mixed tabIs (phi n) Tryz.func11 (by kernel_rfl) rfl
noncomputable def en (n:Nat):Entry:=yaD 11 ia io (fRun (X n) n T Tryz.f11 ia io)
end ybj
end Go.Proofs.YtdlkpmohjhjmfaaGreatDoor

namespace Go.Proofs.YtdlkpmohjhjmfaaGreatDoor
open Go Go.Va Go.Proofs
namespace ycl
abbrev ia:List Ai:=[.dat yb1]
abbrev io:List (Nat×Oi):=[(2,.dat .str)]
abbrev R:Type:=DOut ia io
noncomputable def X (n:Nat):Ctx:=⟨⟨tab,[ych.en n,ycK.en n,ycO.en],0,[]⟩,24,bnOf 0 ia⟩
abbrev g1:List Si:=[.ref 1 1 yb1,.dat 3 (.slice (.int .u8)),.dat 16 .bool,.box 1 (.d yb1)]
abbrev g2:List Si:=[.ref 1 1 yb1,.box 1 (.d yb1)]
noncomputable def T:CT:=(.s .o (.s .o (.s (.s .o (.r g1 .o)) (.r g2 .o))))
noncomputable def J1 (n:Nat):(List (Int))×Bool×ybG×Unit→Option R:=jR (X n) n T (yaR Tryz.f14) (endK ia io) g1 [1,1,0,1] []
noncomputable def J2 (n:Nat):ybG×Unit→Option R:=jR (X n) n T (yaR Tryz.f14) (endK ia io) g2 [1,1,1] []
noncomputable def f (n:Nat)(r:ybG):Option R:=fRun (X n) n T Tryz.f14 ia io (r,())
theorem e0 (n:Nat)(r:ybG):f n r =
  bnd (ych.f n r) λu1=>
  bIf ((hide (r.1==(0:Int)))) (
    J1 n (u1.1,(hide (u1.2.1==(0:Int))),r,())
    ) (
    J1 n (u1.1,false,r,())
    ):=(yah _).trans (by kernel_rfl)
theorem e1 (n:Nat)(b:List (Int))(t16:Bool)(r:ybG):J1 n (b,t16,r,()) =
  bIf (t16) (
    bnd (ycK.f n b) λu1=>
    gIf ((⟨#[111,107,32]⟩:ByteArray).size+u1.1.size≤4611686018427387904) (
      some (((⟨#[111,107,32]⟩:ByteArray)++u1.1),())
      )
    ) (
    J2 n (r,())
    ):=(yah _).trans (by kernel_rfl)
theorem e2 (n:Nat)(r:ybG):J2 n (r,()) =
  bnd (ycO.f r.1) λu1=>
  gIf ((⟨#[101,114,114,111,114,32]⟩:ByteArray).size+u1.1.size≤4611686018427387904) (
    some (((⟨#[101,114,114,111,114,32]⟩:ByteArray)++u1.1),())
    ):=(yah _).trans (by kernel_rfl)
theorem phi (n:Nat):∀ e∈(X n).c.Φ,EntryOk Tryz.prog e:=yae (yac (ych.ok n)) (yae (yac (ycK.ok n)) (yae (yac (ycO.ok)) (yax)))
theorem ok (n:Nat):FnOk Tryz.prog 14 ia io (fRun (X n) n T Tryz.f14 ia io):=yaH mixed tabIs (phi n) Tryz.func14 (by kernel_rfl) rfl
noncomputable def en (n:Nat):Entry:=yaD 14 ia io (fRun (X n) n T Tryz.f14 ia io)
end ycl
end Go.Proofs.YtdlkpmohjhjmfaaGreatDoor

namespace Go.Proofs.YtdlkpmohjhjmfaaGreatDoor
open Go Go.Va Go.Proofs
namespace ybv
abbrev ia:List Ai:=[.dat .str]
abbrev io:List (Nat×Oi):=[(2,.val (.r 0 ybe)),(3,.dat (.int .i64)),(4,.dat (.int .i64))]
abbrev R:Type:=DOut ia io
noncomputable def X (n:Nat):Ctx:=⟨⟨tab,[ybj.en n,ydg.en],0,[]⟩,43,bnOf 0 ia⟩
abbrev g1:List Si:=[.dat 0 .str,.val 5 (.r 200500 ybe),.dat 6 (.int .i64)]
abbrev g2:List Si:=[.val 5 (.r 200500 ybe)]
noncomputable def T:CT:=(.s .o (.s .o (.s .o (.s (.s .o (.b (.l g1 .o))) (.r g2 .o)))))
noncomputable def J1 (n:Nat)(m:Nat):ByteArray×(List (yaZ))×Int×Unit→Option R:=jL (X n) n T (yaR Tryz.f13) (endK ia io) g1 [1,1,1,0,1,0] [] m
noncomputable def J2 (n:Nat):(List (yaZ))×Unit→Option R:=jR (X n) n T (yaR Tryz.f13) (endK ia io) g2 [1,1,1,1] []
noncomputable def f (n:Nat)(s_:ByteArray):Option R:=fRun (X n) n T Tryz.f13 ia io (s_,())
theorem e0 (n:Nat)(s_:ByteArray):f n s_ =
  bIf ((hide (decide ((s_.size:Int)>(65536:Int))))) (
    some ([],0,9,())
    ) (
    J1 n n (s_,[],1,())
    ):=(yah _).trans (by kernel_rfl)
theorem e1 (n m:Nat) (s_:ByteArray) (out:List (yaZ)) (n_:Int):J1 n (m+1) (s_,out,n_,()) =
  bIf ((hide (!eqS s_ (⟨#[]⟩:ByteArray)))) (
    bnd (ydg.f s_ (⟨#[10]⟩:ByteArray)) λu1=>
    bnd (ybj.f n u1.1) λu2=>
    bIf ((hide (u2.2.1 != (0:Int)))) (
      some ([],n_,u2.2.1,())
      ) (
      gIf ((out.length+1)*384≤70368744177664) (
        J1 n m (u1.2.1,(out++([(u2.1.1,(u2.1.2.1,(u2.1.2.2.1,(u2.1.2.2.2.1,(u2.1.2.2.2.2.1,u2.1.2.2.2.2.2)))))]:List (yaZ))),(IntKind.i64.wrap (n_+(1:Int))),())
        )
      )
    ) (
    J2 n (out,())
    ):=(yah _).trans (by kernel_rfl)
theorem e2 (n:Nat)(out:List (yaZ)):J2 n (out,()) =
  bIf ((hide (decide (((out.length:Nat):Int)>(4096:Int))))) (
    some ([],0,9,())
    ) (
    some (out,0,0,())
    ):=(yah _).trans (by kernel_rfl)
theorem phi (n:Nat):∀ e∈(X n).c.Φ,EntryOk Tryz.prog e:=yae (yac (ybj.ok n)) (yae (yac (ydg.ok)) (yax))
theorem ok (n:Nat):FnOk Tryz.prog 13 ia io (fRun (X n) n T Tryz.f13 ia io):=yaH mixed tabIs (phi n) Tryz.func13 (by kernel_rfl) rfl
noncomputable def en (n:Nat):Entry:=yaD 13 ia io (fRun (X n) n T Tryz.f13 ia io)
end ybv
end Go.Proofs.YtdlkpmohjhjmfaaGreatDoor

namespace Go.Proofs.YtdlkpmohjhjmfaaGreatDoor
open Go Go.Va Go.Proofs
namespace ycF
abbrev ia:List Ai:=[.dat ybe]
abbrev io:List (Nat×Oi):=[(2,.dat .bool)]
abbrev R:Type:=DOut ia io
noncomputable def X (n:Nat):Ctx:=⟨⟨tab,[yds.en n],0,[]⟩,23,bnOf 0 ia⟩
noncomputable def T:CT := .o
noncomputable def f (n:Nat)(a:yaZ):Option R:=fRun (X n) n T Tryz.f43 ia io (a,())
theorem e0 (n:Nat) (a:yaZ):f n a =
  bnd (yds.f n a.2.1 (0,((⟨#[]⟩:ByteArray),((⟨#[]⟩:ByteArray),((⟨#[]⟩:ByteArray),(0,([],([],((0,(0,(false,()))),(false,((0,(0,())),([],([],(0,([],((⟨#[]⟩:ByteArray),((⟨#[]⟩:ByteArray),((⟨#[]⟩:ByteArray),(((⟨#[]⟩:ByteArray),((⟨#[]⟩:ByteArray),(0,()))),(0,())))))))))))))))))))) λu1=>
  bIf (u1.1) (
    bIf ((hide (a.2.2.1==(0:Int)))) (
      bIf ((hide (a.2.2.2.1==(0:Int)))) (
        some ((hide (((a.2.2.2.2.1.length:Nat):Int)==(0:Int))),())
        ) (
        some (false,())
        )
      ) (
      some (false,())
      )
    ) (
    some (false,())
    ):=(yah _).trans (by kernel_rfl)
theorem phi (n:Nat):∀ e∈(X n).c.Φ,EntryOk Tryz.prog e:=yae (yac (yds.ok n)) (yax)
theorem ok (n:Nat):FnOk Tryz.prog 43 ia io (fRun (X n) n T Tryz.f43 ia io):=yaH mixed tabIs (phi n) Tryz.func43 (by kernel_rfl) rfl
noncomputable def en (n:Nat):Entry:=yaD 43 ia io (fRun (X n) n T Tryz.f43 ia io)
end ycF
end Go.Proofs.YtdlkpmohjhjmfaaGreatDoor

namespace Go.Proofs.YtdlkpmohjhjmfaaGreatDoor
open Go Go.Va Go.Proofs
namespace ydN
abbrev ia:List Ai:=[.dat ybe]
abbrev io:List (Nat×Oi):=[(2,.val (.r 0 .str)),(3,.dat .bool)]
abbrev R:Type:=DOut ia io
noncomputable def X (n:Nat):Ctx:=⟨⟨tab,[ycK.en n,ycO.en,ycA.en n,ycF.en n,ycU.en,F_script_word.en],0,[]⟩,101,bnOf 0 ia⟩
abbrev g1:List Si:=[.ref 1 1 ybe,.ref 4 4 ybe,.val 7 (.r 200700 .str),.dat 65 (.slice (.int .i64)),.dat 66 (.int .i64),.dat 67 (.int .i64),.box 1 (.d ybe),.box 4 (.p (.d (.int .i64)) (.p (.d yav) (.p (.d (.int .i64)) (.p (.d (.int .i64)) (.p (.r 100000000004000 (.int .i64)) (.d .unit))))))]
abbrev g2:List Si:=[.ref 1 1 ybe,.ref 4 4 ybe,.val 7 (.r 200700 .str),.box 1 (.d ybe),.box 4 (.p (.d (.int .i64)) (.p (.d yav) (.p (.d (.int .i64)) (.p (.d (.int .i64)) (.p (.r 100000000004000 (.int .i64)) (.d .unit))))))]
abbrev g3:List Si:=[.ref 1 1 ybe,.box 1 (.d ybe)]
noncomputable def T:CT:=(.s .o (.s .o (.s (.s .o (.b (.s .o (.c .o (.s .o (.c .o (.s .o (.c .o (.s .o (.c (.s .o (.s .o (.s (.s .o (.b (.l g1 .o))) (.r g2 .o)))) .o)))))))))) (.r g3 .o))))
noncomputable def J1 (n:Nat)(m:Nat):(List (ByteArray))×(List (Int))×Int×Int×yaZ×yaZ×Unit→Option R:=jL (X n) n T (yaR Tryz.f20) (endK ia io) g1 [1,1,0,1,0,1,1,1,1,1,1,1,0,1,1,0,1,0] [] m
noncomputable def J2 (n:Nat):(List (ByteArray))×yaZ×yaZ×Unit→Option R:=jR (X n) n T (yaR Tryz.f20) (endK ia io) g2 [1,1,0,1,0,1,1,1,1,1,1,1,0,1,1,1] []
noncomputable def J3 (n:Nat):yaZ×Unit→Option R:=jR (X n) n T (yaR Tryz.f20) (endK ia io) g3 [1,1,1] []
noncomputable def f (n:Nat)(a:yaZ):Option R:=fRun (X n) n T Tryz.f20 ia io (a,())
theorem e0 (n:Nat) (a:yaZ):f n a =
  bIf ((hide (a.1==(2:Int)))) (
    bnd (ycA.f n a.2.1) λu1=>
    bnd (ycK.f n u1.1) λu2=>
    gIf ((⟨#[120]⟩:ByteArray).size+u2.1.size≤4611686018427387904) (
      bIf ((hide (u1.2.1==(0:Int)))) (
        bnd (ycF.f n (a.1,((0,((⟨#[]⟩:ByteArray),((⟨#[]⟩:ByteArray),((⟨#[]⟩:ByteArray),(0,([],([],((0,(0,(false,()))),(false,((0,(0,())),([],([],(0,([],((⟨#[]⟩:ByteArray),((⟨#[]⟩:ByteArray),((⟨#[]⟩:ByteArray),(((⟨#[]⟩:ByteArray),((⟨#[]⟩:ByteArray),(0,()))),(0,()))))))))))))))))))),a.2.2))) λu3=>
        some (([(⟨#[97,115,107]⟩:ByteArray),((⟨#[120]⟩:ByteArray)++u2.1)]:List (ByteArray)),u3.1,())
        ) (
        some (([(⟨#[97,115,107]⟩:ByteArray),((⟨#[120]⟩:ByteArray)++u2.1)]:List (ByteArray)),false,())
        )
      )
    ) (
    bIf ((hide (a.1==(3:Int)))) (
      bnd (ycU.f a.2.2.1 10) λu4=>
      bnd (ycF.f n (a.1,(a.2.1,(0,a.2.2.2)))) λu5=>
      some (([(⟨#[99,108,111,99,107]⟩:ByteArray),u4.1]:List (ByteArray)),u5.1,())
      ) (
      bIf ((hide (a.1==(7:Int)))) (
        bnd (ycO.f a.2.2.2.1) λu6=>
        bnd (ycF.f n (a.1,(a.2.1,(a.2.2.1,(0,a.2.2.2.2))))) λu7=>
        some (([(⟨#[102,97,105,108]⟩:ByteArray),u6.1]:List (ByteArray)),u7.1,())
        ) (
        bIf ((hide (a.1==(8:Int)))) (
          bnd (ycO.f a.2.2.2.1) λu8=>
          bnd (ycU.f a.2.2.1 10) λu9=>
          J1 n n (([(⟨#[99,114,97,115,104]⟩:ByteArray),u8.1,u9.1]:List (ByteArray)),a.2.2.2.2.1,((a.2.2.2.2.1.length:Nat):Int),0,a,(a.1,(a.2.1,(0,(0,([],a.2.2.2.2.2))))),())
          ) (
          J3 n (a,())
          )
        )
      )
    ):=(yah _).trans (by kernel_rfl)
theorem e1 (n m:Nat) (out:List (ByteArray)) (t65:List (Int)) (t66:Int) (t67:Int) (a:yaZ) (rest_:yaZ):J1 n (m+1) (out,t65,t66,t67,a,rest_,()) =
  bIf ((hide (decide (t67<t66)))) (
    gIf (0≤t67∧t67<((t65.length:Nat):Int)) (
      bnd (ycO.f (List.getD t65 t67.toNat 0)) λu1=>
      gIf ((out.length+1)*16≤70368744177664) (
        J1 n m ((out++([u1.1]:List (ByteArray))),t65,t66,(IntKind.i64.wrap (t67+(1:Int))),a,(rest_.1,(rest_.2.1,(rest_.2.2.1,(rest_.2.2.2.1,(rest_.2.2.2.2.1,rest_.2.2.2.2.2))))),())
        )
      )
    ) (
    J2 n (out,a,(rest_.1,(rest_.2.1,(rest_.2.2.1,(rest_.2.2.2.1,(rest_.2.2.2.2.1,rest_.2.2.2.2.2))))),())
    ):=(yah _).trans (by kernel_rfl)
theorem e2 (n:Nat)(out:List (ByteArray))(a:yaZ)(rest_:yaZ):J2 n (out,a,rest_,()) =
  bnd (ycF.f n (rest_.1,(rest_.2.1,(rest_.2.2.1,(rest_.2.2.2.1,(rest_.2.2.2.2.1,rest_.2.2.2.2.2)))))) λu1=>
  bIf (u1.1) (
    bIf ((hide (decide (a.2.2.1≥(0:Int))))) (
      some (out,(hide (decide (a.2.2.1≤(255:Int)))),())
      ) (
      some (out,false,())
      )
    ) (
    some (out,false,())
    ):=(yah _).trans (by kernel_rfl)
theorem e3 (n:Nat)(a:yaZ):J3 n (a,()) =
  bnd (F_script_word.f a.1) λu1=>
  bIf ((hide (!eqS u1.1 (⟨#[]⟩:ByteArray)))) (
    bnd (ycF.f n a) λu2=>
    some (([u1.1]:List (ByteArray)),u2.1,())
    ) (
    some (([u1.1]:List (ByteArray)),false,())
    ):=(yah _).trans (by kernel_rfl)
theorem phi (n:Nat):∀ e∈(X n).c.Φ,EntryOk Tryz.prog e:=yae (yac (ycK.ok n)) (yae (yac (ycO.ok)) (yae (yac (ycA.ok n)) (yae (yac (ycF.ok n)) (yae (yac (ycU.ok)) (yae (yac (F_script_word.ok)) (yax))))))
theorem ok (n:Nat):FnOk Tryz.prog 20 ia io (fRun (X n) n T Tryz.f20 ia io):=yaH mixed tabIs (phi n) Tryz.func20 (by kernel_rfl) rfl
noncomputable def en (n:Nat):Entry:=yaD 20 ia io (fRun (X n) n T Tryz.f20 ia io)
end ydN
end Go.Proofs.YtdlkpmohjhjmfaaGreatDoor

namespace Go.Proofs.YtdlkpmohjhjmfaaGreatDoor
open Go Go.Va Go.Proofs
namespace ydu
abbrev ia:List Ai:=[.dat ybe]
abbrev io:List (Nat×Oi):=[(2,.dat .str),(3,.dat (.int .i64))]
abbrev R:Type:=DOut ia io
noncomputable def X (n:Nat):Ctx:=⟨⟨tab,[ydN.en n,yey.en],0,[]⟩,15,bnOf 0 ia⟩
noncomputable def T:CT := .o
noncomputable def f (n:Nat)(a:yaZ):Option R:=fRun (X n) n T Tryz.f8 ia io (a,())
theorem e0 (n:Nat)(a:yaZ):f n a =
  bnd (ydN.f n a) λu1=>
  bIf ((!u1.2.1)) (
    some ((⟨#[]⟩:ByteArray),1,())
    ) (
    bnd (yey.f u1.1 (⟨#[32]⟩:ByteArray)) λu2=>
    some (u2.1,0,())
    ):=(yah _).trans (by kernel_rfl)
theorem phi (n:Nat):∀ e∈(X n).c.Φ,EntryOk Tryz.prog e:=yae (yac (ydN.ok n)) (yae (yac (yey.ok)) (yax))
theorem ok (n:Nat):FnOk Tryz.prog 8 ia io (fRun (X n) n T Tryz.f8 ia io):=yaH mixed tabIs (phi n) Tryz.func8 (by kernel_rfl) rfl
noncomputable def en (n:Nat):Entry:=yaD 8 ia io (fRun (X n) n T Tryz.f8 ia io)
end ydu
end Go.Proofs.YtdlkpmohjhjmfaaGreatDoor

namespace Go.Proofs.YtdlkpmohjhjmfaaGreatDoor
open Go Go.Va Go.Proofs
namespace yc3
abbrev ia:List Ai:=[]
abbrev io:List (Nat×Oi):=[(0,.dat .bool)]
abbrev R:Type:=DOut ia io
noncomputable def X (n:Nat):Ctx:=⟨⟨tab,[ydu.en n,ybj.en n,ybv.en n,ycl.en n],0,[]⟩,66,bnOf 0 ia⟩
noncomputable def T:CT := .o
noncomputable def f (n:Nat):Option R:=fRun (X n) n T Tryz.f10 ia io (())
theorem e0 (n : Nat):f n =
  bnd (ybj.f n (⟨#[99,114,97,115,104,32,49,32,53,32,50,32,48]⟩:ByteArray)) λu1=>
  bnd (ydu.f n (3,((0,((⟨#[]⟩:ByteArray),((⟨#[]⟩:ByteArray),((⟨#[]⟩:ByteArray),(0,([],([],((0,(0,(false,()))),(false,((0,(0,())),([],([],(0,([],((⟨#[]⟩:ByteArray),((⟨#[]⟩:ByteArray),((⟨#[]⟩:ByteArray),(((⟨#[]⟩:ByteArray),((⟨#[]⟩:ByteArray),(0,()))),(0,()))))))))))))))))))),((-5),(0,([],())))))) λu2=>
  bnd (ybv.f n (⟨#[111,112,101,110,10,115,119,101,101,112]⟩:ByteArray)) λu3=>
  bIf ((hide (u1.2.1==(0:Int)))) (
    bIf ((hide (u2.2.1==(0:Int)))) (
      bIf ((hide (u3.2.2.1==(0:Int)))) (
        bIf ((hide (u3.2.1==(0:Int)))) (
          bIf ((hide (u1.1.2.2.2.1==(1:Int)))) (
            bIf ((hide (u1.1.2.2.1==(5:Int)))) (
              bIf ((hide (((u1.1.2.2.2.2.1.length:Nat):Int)==(2:Int)))) (
                bIf ((hide (eqS u2.1 (⟨#[99,108,111,99,107,32,45,53]⟩:ByteArray)))) (
                  bIf ((hide (((u3.1.length:Nat):Int)==(2:Int)))) (
                    bnd (ycl.f n (7,(0,([],((0,(false,(0,(0,((List.replicate 32 0),(0,((0,(0,(false,()))),([],())))))))),([],(false,([],([],()))))))))) λu4=>
                    some ((hide (eqS u4.1 (⟨#[101,114,114,111,114,32,55]⟩:ByteArray))),())
                    ) (
                    some (false,())
                    )
                  ) (
                  some (false,())
                  )
                ) (
                some (false,())
                )
              ) (
              some (false,())
              )
            ) (
            some (false,())
            )
          ) (
          some (false,())
          )
        ) (
        some (false,())
        )
      ) (
      some (false,())
      )
    ) (
    some (false,())
    ):=(yah _).trans (by kernel_rfl)
theorem phi (n:Nat):∀ e∈(X n).c.Φ,EntryOk Tryz.prog e:=yae (yac (ydu.ok n)) (yae (yac (ybj.ok n)) (yae (yac (ybv.ok n)) (yae (yac (ycl.ok n)) (yax))))
theorem ok (n:Nat):FnOk Tryz.prog 10 ia io (fRun (X n) n T Tryz.f10 ia io):=yaH mixed tabIs (phi n) Tryz.func10 (by kernel_rfl) rfl
noncomputable def en (n:Nat):Entry:=yaD 10 ia io (fRun (X n) n T Tryz.f10 ia io)
end yc3
end Go.Proofs.YtdlkpmohjhjmfaaGreatDoor

namespace Go.Proofs.YtdlkpmohjhjmfaaGreatDoor
open Go Go.Va Go.Proofs
namespace ycN
abbrev ia:List Ai:=[.dat ybe,.dat ybe]
abbrev io:List (Nat×Oi):=[(4,.dat .bool)]
abbrev R:Type:=DOut ia io
noncomputable def X (n:Nat):Ctx:=⟨⟨tab,[ycn.en n],0,[]⟩,60,bnOf 0 ia⟩
abbrev g1:List Si:=[.ref 2 2 ybe,.ref 3 3 ybe,.box 2 (.d ybe),.box 3 (.d ybe)]
abbrev g2:List Si:=[.ref 2 2 ybe,.ref 3 3 ybe,.dat 5 (.int .i64),.box 2 (.d ybe),.box 3 (.d ybe)]
abbrev g3:List Si:=[]
noncomputable def T:CT:=(.s .o (.s .o (.r g1 (.s (.s .o (.b (.l g2 .o))) (.r g3 .o)))))
noncomputable def J1 (n:Nat):yaZ×yaZ×Unit→Option R:=jR (X n) n T (yaR Tryz.f12) (endK ia io) g1 [1,1] []
noncomputable def J2 (n:Nat)(m:Nat):Int×yaZ×yaZ×Unit→Option R:=jL (X n) n T (yaR Tryz.f12) (endK ia io) g2 [1,1,0,1,0] [] m
noncomputable def J3 (n:Nat):Unit→Option R:=jR (X n) n T (yaR Tryz.f12) (endK ia io) g3 [1,1,1] []
noncomputable def f (n:Nat)(a:yaZ)(b:yaZ):Option R:=fRun (X n) n T Tryz.f12 ia io (a,b,())
theorem e0 (n:Nat) (a:yaZ) (b:yaZ):f n a b =
  bIf ((hide (a.1 != b.1))) (
    some (false,())
    ) (
    bIf ((hide (a.2.2.1 != b.2.2.1))) (
      some (false,())
      ) (
      bIf ((hide (a.2.2.2.1 != b.2.2.2.1))) (
        some (false,())
        ) (
        bnd (ycn.f n a.2.1 b.2.1) λu1=>
        bIf ((!u1.1)) (
          some (false,())
          ) (
          bIf ((hide (((a.2.2.2.2.1.length:Nat):Int) != ((b.2.2.2.2.1.length:Nat):Int)))) (
            some (false,())
            ) (
            J1 n (a,b,())
            )
          )
        )
      )
    ):=(yah _).trans (by kernel_rfl)
theorem e1 (n:Nat)(a:yaZ)(b:yaZ):J1 n (a,b,()) =
  J2 n n (0,a,b,()):=(yah _).trans (by kernel_rfl)
theorem e2 (n m:Nat) (i:Int) (a:yaZ) (b:yaZ):J2 n (m+1) (i,a,b,()) =
  bIf ((hide (decide (i<((a.2.2.2.2.1.length:Nat):Int))))) (
    gIf (0≤i∧i<((a.2.2.2.2.1.length:Nat):Int)) (
      gIf (0≤i∧i<((b.2.2.2.2.1.length:Nat):Int)) (
        bIf ((hide ((List.getD a.2.2.2.2.1 i.toNat 0) != (List.getD b.2.2.2.2.1 i.toNat 0)))) (
          some (false,())
          ) (
          J2 n m ((IntKind.i64.wrap (i+(1:Int))),a,b,())
          )
        )
      )
    ) (
    J3 n (())
    ):=(yah _).trans (by kernel_rfl)
theorem e3 (n:Nat):J3 n (()) =
  some (true,()):=(yah _).trans (by kernel_rfl)
theorem phi (n:Nat):∀ e∈(X n).c.Φ,EntryOk Tryz.prog e:=yae (yac (ycn.ok n)) (yax)
theorem ok (n:Nat):FnOk Tryz.prog 12 ia io (fRun (X n) n T Tryz.f12 ia io):=yaH mixed tabIs (phi n) Tryz.func12 (by kernel_rfl) rfl
noncomputable def en (n:Nat):Entry:=yaD 12 ia io (fRun (X n) n T Tryz.f12 ia io)
end ycN
end Go.Proofs.YtdlkpmohjhjmfaaGreatDoor

namespace Go.Proofs.YtdlkpmohjhjmfaaGreatDoor
open Go Go.Va Go.Proofs
namespace ya3
abbrev ia:List Ai:=[.dat .str]
abbrev io:List (Nat×Oi):=[(2,.dat .bool)]
abbrev R:Type:=DOut ia io
noncomputable def X (n:Nat):Ctx:=⟨⟨tab,[yc3.en n,ybj.en n,ycN.en n,ybv.en n],0,[]⟩,129,bnOf 0 ia⟩
abbrev g1:List Si:=[.dat 0 .str,.val 3 (.r 200300 ybe),.dat 4 (.int .i64),.dat 5 (.int .i64),.dat 6 (.int .i64),.dat 7 (.int .i64)]
abbrev g2:List Si:=[.dat 0 .str,.val 3 (.r 200300 ybe),.dat 4 (.int .i64),.dat 5 (.int .i64),.dat 6 (.int .i64),.dat 7 (.int .i64),.dat 8 (.int .i64)]
abbrev g3:List Si:=[.dat 0 .str,.val 3 (.r 200300 ybe),.dat 4 (.int .i64),.dat 5 (.int .i64),.dat 6 (.int .i64),.dat 7 (.int .i64),.dat 8 (.int .i64)]
abbrev g4:List Si:=[.dat 0 .str,.val 3 (.r 200300 ybe),.dat 4 (.int .i64),.dat 5 (.int .i64),.dat 6 (.int .i64),.dat 7 (.int .i64),.dat 8 (.int .i64)]
abbrev g5:List Si:=[.dat 0 .str,.val 3 (.r 200300 ybe),.dat 4 (.int .i64),.dat 5 (.int .i64),.dat 6 (.int .i64),.dat 8 (.int .i64)]
abbrev g6:List Si:=[.val 3 (.r 200300 ybe),.dat 4 (.int .i64),.dat 5 (.int .i64),.dat 6 (.int .i64)]
noncomputable def T:CT:=(.s .o (.s .o (.s .o (.s .o (.s (.b (.l g1 (.s .o (.b (.s .o (.s (.b (.l g2 (.s .o (.r g3 .o)))) (.r g4 (.s .o (.s .o (.s .o (.s .o (.r g5 .o)))))))))))) (.r g6 .o))))))
noncomputable def J1 (n:Nat)(m:Nat):ByteArray×(List (yaZ))×Int×Int×Int×Int×Unit→Option R:=jL (X n) n T (yaR Tryz.f5) (endK ia io) g1 [1,1,1,1,0,0] [] m
noncomputable def J2 (n m1:Nat)(m:Nat):ByteArray×(List (yaZ))×Int×Int×Int×Int×Int×Unit→Option R:=jL (X n) n T (yaR Tryz.f5) (endK ia io) g2 [1,1,1,1,0,0,0,1,0,1,0,0] [m1] m
noncomputable def J3 (n m1 m2:Nat):ByteArray×(List (yaZ))×Int×Int×Int×Int×Int×Unit→Option R:=jR (X n) n T (yaR Tryz.f5) (endK ia io) g3 [1,1,1,1,0,0,0,1,0,1,0,0,0,1] [m1,m2]
noncomputable def J4 (n m1:Nat):ByteArray×(List (yaZ))×Int×Int×Int×Int×Int×Unit→Option R:=jR (X n) n T (yaR Tryz.f5) (endK ia io) g4 [1,1,1,1,0,0,0,1,0,1,1] [m1]
noncomputable def J5 (n m1:Nat):ByteArray×(List (yaZ))×Int×Int×Int×Int×Unit→Option R:=jR (X n) n T (yaR Tryz.f5) (endK ia io) g5 [1,1,1,1,0,0,0,1,0,1,1,1,1,1,1] [m1]
noncomputable def J6 (n:Nat):(List (yaZ))×Int×Int×Int×Unit→Option R:=jR (X n) n T (yaR Tryz.f5) (endK ia io) g6 [1,1,1,1,1] []
noncomputable def f (n:Nat)(s_:ByteArray):Option R:=fRun (X n) n T Tryz.f5 ia io (s_,())
theorem e0 (n:Nat) (s_:ByteArray):f n s_ =
  bnd (ybv.f n s_) λu1=>
  bIf ((hide (decide ((s_.size:Int)>(65536:Int))))) (
    bnd (yc3.f n) λu2=>
    bIf (u2.1) (
      bIf ((hide (u1.2.2.1==(9:Int)))) (
        bIf ((hide (u1.2.1==(0:Int)))) (
          some ((hide (((u1.1.length:Nat):Int)==(0:Int))),())
          ) (
          some (false,())
          )
        ) (
        some (false,())
        )
      ) (
      some (false,())
      )
    ) (
    J1 n n (s_,u1.1,u1.2.1,u1.2.2.1,0,0,())
    ):=(yah _).trans (by kernel_rfl)
theorem e1 (n m:Nat)(s_:ByteArray)(l:List (yaZ))(n_:Int)(e_:Int)(at_:Int)(from_:Int):J1 n (m+1) (s_,l,n_,e_,at_,from_,()) =
  bIf ((hide (decide (from_<(s_.size:Int))))) (
    J2 n m n (s_,l,n_,e_,at_,from_,from_,())
    ) (
    J6 n (l,n_,e_,at_,())
    ):=(yah _).trans (by kernel_rfl)
theorem e2 (n m1 m:Nat) (s_:ByteArray) (l:List (yaZ)) (n_:Int) (e_:Int) (at_:Int) (from_:Int) (end_:Int):J2 n m1 (m+1) (s_,l,n_,e_,at_,from_,end_,()) =
  bIf ((hide (decide (end_<(s_.size:Int))))) (
    gIf (0≤end_∧end_<(s_.size:Int)) (
      bIf ((hide ((bt s_ end_) != (10:Int)))) (
        J3 n m1 m (s_,l,n_,e_,at_,from_,end_,())
        ) (
        J4 n m1 (s_,l,n_,e_,at_,from_,end_,())
        )
      )
    ) (
    J4 n m1 (s_,l,n_,e_,at_,from_,end_,())
    ):=(yah _).trans (by kernel_rfl)
theorem e3 (n m1 m2:Nat)(s_:ByteArray)(l:List (yaZ))(n_:Int)(e_:Int)(at_:Int)(from_:Int)(end_:Int):J3 n m1 m2 (s_,l,n_,e_,at_,from_,end_,()) =
  J2 n m1 m2 (s_,l,n_,e_,at_,from_,(IntKind.i64.wrap (end_+(1:Int))),()):=(yah _).trans (by kernel_rfl)
theorem e4 (n m1:Nat) (s_:ByteArray) (l:List (yaZ)) (n_:Int) (e_:Int) (at_:Int) (from_:Int) (end_:Int):J4 n m1 (s_,l,n_,e_,at_,from_,end_,()) =
  gIf (0 ≤ end_ ∧ end_≤(s_.size:Int)) (
    gIf (0≤from_∧from_≤end_) (
      bnd (ybj.f n (s_.extract from_.toNat end_.toNat)) λu1=>
      bIf ((hide (u1.2.1 != (0:Int)))) (
        bnd (yc3.f n) λu2=>
        bIf (u2.1) (
          bIf ((hide (e_==(5:Int)))) (
            bIf ((hide (n_==(IntKind.i64.wrap (at_+(1:Int)))))) (
              some ((hide (((l.length:Nat):Int)==(0:Int))),())
              ) (
              some (false,())
              )
            ) (
            some (false,())
            )
          ) (
          some (false,())
          )
        ) (
        bIf ((hide (e_==(0:Int)))) (
          bIf ((hide (decide ((IntKind.i64.wrap (at_+(1:Int)))>((l.length:Nat):Int))))) (
            some (false,())
            ) (
            gIf (0≤(IntKind.i64.wrap ((IntKind.i64.wrap (at_+(1:Int)))-(1:Int)))∧(IntKind.i64.wrap ((IntKind.i64.wrap (at_+(1:Int)))-(1:Int)))<((l.length:Nat):Int)) (
              bnd (ycN.f n (u1.1.1,(u1.1.2.1,(u1.1.2.2.1,(u1.1.2.2.2.1,(u1.1.2.2.2.2.1,u1.1.2.2.2.2.2))))) (List.getD l (0+((IntKind.i64.wrap ((IntKind.i64.wrap (at_+(1:Int)))-(1:Int))).toNat)) (Va.dflt ybe))) λu3=>
              bIf ((!u3.1)) (
                some (false,())
                ) (
                J5 n m1 (s_,l,n_,e_,(IntKind.i64.wrap (at_+(1:Int))),end_,())
                )
              )
            )
          ) (
          J5 n m1 (s_,l,n_,e_,(IntKind.i64.wrap (at_+(1:Int))),end_,())
          )
        )
      )
    ):=(yah _).trans (by kernel_rfl)
theorem e5 (n m1:Nat)(s_:ByteArray)(l:List (yaZ))(n_:Int)(e_:Int)(at_:Int)(end_:Int):J5 n m1 (s_,l,n_,e_,at_,end_,()) =
  J1 n m1 (s_,l,n_,e_,at_,(IntKind.i64.wrap (end_+(1:Int))),()):=(yah _).trans (by kernel_rfl)
theorem e6 (n:Nat) (l:List (yaZ)) (n_:Int) (e_:Int) (at_:Int):J6 n (l,n_,e_,at_,()) =
  bIf ((hide (decide (at_>(4096:Int))))) (
    bnd (yc3.f n) λu1=>
    bIf (u1.1) (
      bIf ((hide (e_==(9:Int)))) (
        bIf ((hide (n_==(0:Int)))) (
          some ((hide (((l.length:Nat):Int)==(0:Int))),())
          ) (
          some (false,())
          )
        ) (
        some (false,())
        )
      ) (
      some (false,())
      )
    ) (
    bnd (yc3.f n) λu2=>
    bIf (u2.1) (
      bIf ((hide (e_==(0:Int)))) (
        bIf ((hide (n_==(0:Int)))) (
          some ((hide (((l.length:Nat):Int)==at_)),())
          ) (
          some (false,())
          )
        ) (
        some (false,())
        )
      ) (
      some (false,())
      )
    ):=(yah _).trans (by kernel_rfl)
theorem phi (n:Nat):∀ e∈(X n).c.Φ,EntryOk Tryz.prog e:=yae (yac (yc3.ok n)) (yae (yac (ybj.ok n)) (yae (yac (ycN.ok n)) (yae (yac (ybv.ok n)) (yax))))
theorem ok (n:Nat):FnOk Tryz.prog 5 ia io (fRun (X n) n T Tryz.f5 ia io):=yaH mixed tabIs (phi n) Tryz.func5 (by kernel_rfl) rfl
noncomputable def en (n:Nat):Entry:=yaD 5 ia io (fRun (X n) n T Tryz.f5 ia io)
end ya3
end Go.Proofs.YtdlkpmohjhjmfaaGreatDoor

