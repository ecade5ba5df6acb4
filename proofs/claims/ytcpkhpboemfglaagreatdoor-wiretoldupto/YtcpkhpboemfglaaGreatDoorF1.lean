/-
  What the functions compute, by the abstract interpreter.
-/
import Derived.Test.YtcpkhpboemfglaaGreatDoorF0
set_option linter.unusedVariables false
set_option linter.unusedSimpArgs false
namespace Go.Proofs.YtcpkhpboemfglaaGreatDoor
open Go Go.Va Go.Proofs
namespace F_wire_Tell
abbrev ia : List Ai := [.dat T_api_Reply]
abbrev io : List (Nat × Oi) := [(2, .dat (.slice (.int .u8))), (3, .dat (.int .i64))]
abbrev R : Type := DOut ia io
noncomputable def X (n : Nat) : Ctx := ⟨⟨tab, [F_entry_NewWriter.en n, F_pack_Writer_Num.en n, F_pack_Writer_Out.en n, F_wire_good.en n, F_pack_Writer_Text.en n, F_pack_Writer_Flag.en n, F_entry_Writer_Version.en n, F_wire_writer_rows.en n], 0, []⟩, 106, bnOf 0 ia⟩
abbrev g1 : List Si := [.ref 1 1 T_api_Reply, .ref 4 4 T_wire_reader, .box 1 (.d T_api_Reply), .box 4 (.p (.p (.al 1500000000012 T_pack_Writer) (.d .unit)) (.d .unit)), .box 1500000000012 (.p (.r 1600000000012000 (.int .u8)) (.d .unit))]
abbrev g2 : List Si := [.ref 1 1 T_api_Reply, .ref 4 4 T_wire_reader, .dat 68 (.slice (.int .i64)), .dat 69 (.int .i64), .dat 70 (.int .i64), .box 1 (.d T_api_Reply), .box 4 (.p (.p (.al 1500000000012 T_pack_Writer) (.d .unit)) (.d .unit)), .box 1500000000012 (.p (.r 1600000000012000 (.int .u8)) (.d .unit))]
abbrev g3 : List Si := [.ref 1 1 T_api_Reply, .ref 4 4 T_wire_reader, .box 1 (.d T_api_Reply), .box 4 (.p (.p (.al 1500000000012 T_pack_Writer) (.d .unit)) (.d .unit)), .box 1500000000012 (.p (.r 1600000000012000 (.int .u8)) (.d .unit))]
abbrev g4 : List Si := [.ref 4 4 T_wire_reader, .dat 90 (.slice .str), .dat 91 (.int .i64), .dat 92 (.int .i64), .box 4 (.p (.p (.al 1500000000012 T_pack_Writer) (.d .unit)) (.d .unit)), .box 1500000000012 (.p (.r 1600000000012000 (.int .u8)) (.d .unit))]
abbrev g5 : List Si := [.ref 4 4 T_wire_reader, .box 4 (.p (.p (.al 1500000000012 T_pack_Writer) (.d .unit)) (.d .unit)), .box 1500000000012 (.p (.r 1600000000012000 (.int .u8)) (.d .unit))]
noncomputable def T : CT := (.s .o (.s .o (.s .o (.s .o (.s .o (.s .o (.s .o (.r g1 (.s .o (.s .o (.s (.s .o (.b (.l g2 .o))) (.r g3 (.s .o (.s (.s .o (.b (.l g4 .o))) (.r g5 .o)))))))))))))))
noncomputable def J1 (n : Nat) : D_api_Reply × D_wire_reader × D_pack_Writer × Unit → Option R := jR (X n) n T (bodyOf Tryz.f27) (endK ia io) g1 [1, 1, 1, 1, 1, 1, 1] []
noncomputable def J2 (n : Nat) (m : Nat) : (List (Int)) × Int × Int × D_api_Reply × D_wire_reader × D_pack_Writer × Unit → Option R := jL (X n) n T (bodyOf Tryz.f27) (endK ia io) g2 [1, 1, 1, 1, 1, 1, 1, 1, 1, 0, 1, 0] [] m
noncomputable def J3 (n : Nat) : D_api_Reply × D_wire_reader × D_pack_Writer × Unit → Option R := jR (X n) n T (bodyOf Tryz.f27) (endK ia io) g3 [1, 1, 1, 1, 1, 1, 1, 1, 1, 1] []
noncomputable def J4 (n : Nat) (m : Nat) : (List (ByteArray)) × Int × Int × D_wire_reader × D_pack_Writer × Unit → Option R := jL (X n) n T (bodyOf Tryz.f27) (endK ia io) g4 [1, 1, 1, 1, 1, 1, 1, 1, 1, 1, 1, 0, 1, 0] [] m
noncomputable def J5 (n : Nat) : D_wire_reader × D_pack_Writer × Unit → Option R := jR (X n) n T (bodyOf Tryz.f27) (endK ia io) g5 [1, 1, 1, 1, 1, 1, 1, 1, 1, 1, 1, 1] []
noncomputable def f (n : Nat) (r : D_api_Reply) : Option R := fRun (X n) n T Tryz.f27 ia io (r, ())
theorem e0 (n : Nat) (r : D_api_Reply) : f n r =
  bnd (F_wire_good.f n r) fun u1 =>
  bIf ((!u1.1)) (
    some ([], 2, ())
    ) (
    bnd (F_entry_NewWriter.f n) fun u2 =>
    bnd (F_pack_Writer_Num.f n (u2.1.1, u2.1.2) (IntKind.u64.wrap r.1)) fun u3 =>
    bIf ((hide (r.1 != (0 : Int)))) (
      bnd (F_pack_Writer_Out.f n (u3.1.1, u3.1.2)) fun u4 =>
      some (u4.1, 0, ())
      ) (
      bnd (F_pack_Writer_Num.f n (u3.1.1, u3.1.2) r.2.1) fun u5 =>
      bnd (F_pack_Writer_Text.f n (u5.1.1, u5.1.2) (bytesOf r.2.2.1)) fun u6 =>
      bnd (F_pack_Writer_Flag.f n (u6.1.1, u6.1.2) (hide (r.2.2.2.1.1 != (0 : Int)))) fun u7 =>
      bIf ((hide (r.2.2.2.1.1 != (0 : Int)))) (
        bnd (F_entry_Writer_Version.f n (u7.1.1, u7.1.2) r.2.2.2.1) fun u8 =>
        J1 n (r, (((), ()), ()), (u8.1.1, u8.1.2), ())
        ) (
        J1 n (r, (((), ()), ()), (u7.1.1, u7.1.2), ())
        )
      )
    ) := (hideF_eq _).trans (by kernel_rfl)
theorem e1 (n : Nat) (r : D_api_Reply) (w_ : D_wire_reader) (b1500000000012 : D_pack_Writer) : J1 n (r, w_, b1500000000012, ()) =
  bnd (F_wire_writer_rows.f n (b1500000000012.1, b1500000000012.2) r.2.2.2.2.1) fun u1 =>
  bnd (F_pack_Writer_Flag.f n (u1.1.1, u1.1.2) r.2.2.2.2.2.1) fun u2 =>
  bnd (F_pack_Writer_Num.f n (u2.1.1, u2.1.2) (IntKind.u64.wrap ((r.2.2.2.2.2.2.1.length : Nat) : Int))) fun u3 =>
  J2 n n (r.2.2.2.2.2.2.1, ((r.2.2.2.2.2.2.1.length : Nat) : Int), 0, r, (((), w_.1.2), w_.2), (u3.1.1, u3.1.2), ()) := (hideF_eq _).trans (by kernel_rfl)
theorem e2 (n m : Nat) (t68 : List (Int)) (t69 : Int) (t70 : Int) (r : D_api_Reply) (w_ : D_wire_reader) (b1500000000012 : D_pack_Writer) : J2 n (m + 1) (t68, t69, t70, r, w_, b1500000000012, ()) =
  bIf ((hide (decide (t70 < t69)))) (
    gIf (0 ≤ t70 ∧ t70 < ((t68.length : Nat) : Int)) (
      bnd (F_pack_Writer_Num.f n (b1500000000012.1, b1500000000012.2) (IntKind.u64.wrap (List.getD t68 t70.toNat 0))) fun u1 =>
      J2 n m (t68, t69, (IntKind.i64.wrap (t70 + (1 : Int))), r, (((), w_.1.2), w_.2), (u1.1.1, u1.1.2), ())
      )
    ) (
    J3 n (r, (((), w_.1.2), w_.2), (b1500000000012.1, b1500000000012.2), ())
    ) := (hideF_eq _).trans (by kernel_rfl)
theorem e3 (n : Nat) (r : D_api_Reply) (w_ : D_wire_reader) (b1500000000012 : D_pack_Writer) : J3 n (r, w_, b1500000000012, ()) =
  bnd (F_pack_Writer_Num.f n (b1500000000012.1, b1500000000012.2) (IntKind.u64.wrap ((r.2.2.2.2.2.2.2.1.length : Nat) : Int))) fun u1 =>
  J4 n n (r.2.2.2.2.2.2.2.1, ((r.2.2.2.2.2.2.2.1.length : Nat) : Int), 0, (((), w_.1.2), w_.2), (u1.1.1, u1.1.2), ()) := (hideF_eq _).trans (by kernel_rfl)
theorem e4 (n m : Nat) (t90 : List (ByteArray)) (t91 : Int) (t92 : Int) (w_ : D_wire_reader) (b1500000000012 : D_pack_Writer) : J4 n (m + 1) (t90, t91, t92, w_, b1500000000012, ()) =
  bIf ((hide (decide (t92 < t91)))) (
    gIf (0 ≤ t92 ∧ t92 < ((t90.length : Nat) : Int)) (
      bnd (F_pack_Writer_Text.f n (b1500000000012.1, b1500000000012.2) (List.getD t90 t92.toNat (⟨#[]⟩ : ByteArray))) fun u1 =>
      J4 n m (t90, t91, (IntKind.i64.wrap (t92 + (1 : Int))), (((), w_.1.2), w_.2), (u1.1.1, u1.1.2), ())
      )
    ) (
    J5 n ((((), w_.1.2), w_.2), (b1500000000012.1, b1500000000012.2), ())
    ) := (hideF_eq _).trans (by kernel_rfl)
theorem e5 (n : Nat) (w_ : D_wire_reader) (b1500000000012 : D_pack_Writer) : J5 n (w_, b1500000000012, ()) =
  bnd (F_pack_Writer_Out.f n (b1500000000012.1, b1500000000012.2)) fun u1 =>
  some (u1.1, 0, ()) := (hideF_eq _).trans (by kernel_rfl)
theorem phi (n : Nat) : ∀ e ∈ (X n).c.Φ, EntryOk Tryz.prog e := allE_cons (mkEntry_ok (F_entry_NewWriter.ok n)) (allE_cons (mkEntry_ok (F_pack_Writer_Num.ok n)) (allE_cons (mkEntry_ok (F_pack_Writer_Out.ok n)) (allE_cons (mkEntry_ok (F_wire_good.ok n)) (allE_cons (mkEntry_ok (F_pack_Writer_Text.ok n)) (allE_cons (mkEntry_ok (F_pack_Writer_Flag.ok n)) (allE_cons (mkEntry_ok (F_entry_Writer_Version.ok n)) (allE_cons (mkEntry_ok (F_wire_writer_rows.ok n)) (allE_nil))))))))
theorem ok (n : Nat) : FnOk Tryz.prog 27 ia io (fRun (X n) n T Tryz.f27 ia io) := tree_ok mixed tabIs (phi n) Tryz.func27 (by kernel_rfl) rfl
noncomputable def en (n : Nat) : Entry := mkEntry 27 ia io (fRun (X n) n T Tryz.f27 ia io)
end F_wire_Tell
end Go.Proofs.YtcpkhpboemfglaaGreatDoor

namespace Go.Proofs.YtcpkhpboemfglaaGreatDoor
open Go Go.Va Go.Proofs
namespace F_ref23_Same
abbrev ia : List Ai := [.dat (.slice T_api_Row), .dat (.slice T_api_Row)]
abbrev io : List (Nat × Oi) := [(4, .dat .bool)]
abbrev R : Type := DOut ia io
noncomputable def X (n : Nat) : Ctx := ⟨⟨tab, [F_ref13_SameVersion.en n], 0, []⟩, 68, bnOf 0 ia⟩
abbrev g1 : List Si := [.dat 0 (.slice T_api_Row), .dat 1 (.slice T_api_Row), .dat 5 (.int .i64)]
abbrev g2 : List Si := [.dat 0 (.slice T_api_Row), .dat 1 (.slice T_api_Row), .dat 5 (.int .i64)]
abbrev g3 : List Si := []
noncomputable def T : CT := (.s .o (.s .o (.s (.s .o (.b (.l g1 (.s .o (.s .o (.r g2 .o)))))) (.r g3 .o))))
noncomputable def J1 (n : Nat) (m : Nat) : (List (D_api_Row)) × (List (D_api_Row)) × Int × Unit → Option R := jL (X n) n T (bodyOf Tryz.f96) (endK ia io) g1 [1, 1, 0, 1, 0] [] m
noncomputable def J2 (n m1 : Nat) : (List (D_api_Row)) × (List (D_api_Row)) × Int × Unit → Option R := jR (X n) n T (bodyOf Tryz.f96) (endK ia io) g2 [1, 1, 0, 1, 0, 0, 1, 1] [m1]
noncomputable def J3 (n : Nat) : Unit → Option R := jR (X n) n T (bodyOf Tryz.f96) (endK ia io) g3 [1, 1, 1] []
noncomputable def f (n : Nat) (a : List (D_api_Row)) (b : List (D_api_Row)) : Option R := fRun (X n) n T Tryz.f96 ia io (a, b, ())
theorem e0 (n : Nat) (a : List (D_api_Row)) (b : List (D_api_Row)) : f n a b =
  bIf ((hide (((a.length : Nat) : Int) != ((b.length : Nat) : Int)))) (
    some (false, ())
    ) (
    J1 n n (a, b, 0, ())
    ) := (hideF_eq _).trans (by kernel_rfl)
theorem e1 (n m : Nat) (a : List (D_api_Row)) (b : List (D_api_Row)) (i : Int) : J1 n (m + 1) (a, b, i, ()) =
  bIf ((hide (decide (i < ((a.length : Nat) : Int))))) (
    gIf (0 ≤ i ∧ i < ((a.length : Nat) : Int)) (
      gIf (0 ≤ i ∧ i < ((b.length : Nat) : Int)) (
        bIf ((hide (!eqS ((List.getD a i.toNat (Va.dflt T_api_Row)).1) ((List.getD b i.toNat (Va.dflt T_api_Row)).1)))) (
          some (false, ())
          ) (
          gIf (0 ≤ i ∧ i < ((a.length : Nat) : Int)) (
            gIf (0 ≤ i ∧ i < ((b.length : Nat) : Int)) (
              bIf ((hide (!((((List.getD a i.toNat (Va.dflt T_api_Row)).2).1) == (((List.getD b i.toNat (Va.dflt T_api_Row)).2).1))))) (
                some (false, ())
                ) (
                gIf (0 ≤ i ∧ i < ((a.length : Nat) : Int)) (
                  gIf (0 ≤ i ∧ i < ((b.length : Nat) : Int)) (
                    bIf ((hide (!((((((List.getD a i.toNat (Va.dflt T_api_Row)).2).2).2).1) == (((((List.getD b i.toNat (Va.dflt T_api_Row)).2).2).2).1))))) (
                      some (false, ())
                      ) (
                      gIf (0 ≤ i ∧ i < ((a.length : Nat) : Int)) (
                        gIf (0 ≤ i ∧ i < ((b.length : Nat) : Int)) (
                          bnd (F_ref13_SameVersion.f n ((((List.getD a i.toNat (Va.dflt T_api_Row)).2).2).1) ((((List.getD b i.toNat (Va.dflt T_api_Row)).2).2).1)) fun u1 =>
                          bIf ((!u1.1)) (
                            some (false, ())
                            ) (
                            J2 n m (a, b, i, ())
                            )
                          )
                        )
                      )
                    )
                  )
                )
              )
            )
          )
        )
      )
    ) (
    J3 n (())
    ) := (hideF_eq _).trans (by kernel_rfl)
theorem e2 (n m1 : Nat) (a : List (D_api_Row)) (b : List (D_api_Row)) (i : Int) : J2 n m1 (a, b, i, ()) =
  J1 n m1 (a, b, (IntKind.i64.wrap (i + (1 : Int))), ()) := (hideF_eq _).trans (by kernel_rfl)
theorem e3 (n : Nat) : J3 n (()) =
  some (true, ()) := (hideF_eq _).trans (by kernel_rfl)
theorem phi (n : Nat) : ∀ e ∈ (X n).c.Φ, EntryOk Tryz.prog e := allE_cons (mkEntry_ok (F_ref13_SameVersion.ok n)) (allE_nil)
theorem ok (n : Nat) : FnOk Tryz.prog 96 ia io (fRun (X n) n T Tryz.f96 ia io) := tree_ok mixed tabIs (phi n) Tryz.func96 (by kernel_rfl) rfl
noncomputable def en (n : Nat) : Entry := mkEntry 96 ia io (fRun (X n) n T Tryz.f96 ia io)
end F_ref23_Same
end Go.Proofs.YtcpkhpboemfglaaGreatDoor

namespace Go.Proofs.YtcpkhpboemfglaaGreatDoor
open Go Go.Va Go.Proofs
namespace F_ref24_Alike
abbrev ia : List Ai := [.dat T_api_Reply, .dat T_api_Reply]
abbrev io : List (Nat × Oi) := [(4, .dat .bool)]
abbrev R : Type := DOut ia io
noncomputable def X (n : Nat) : Ctx := ⟨⟨tab, [F_ref13_SameVersion.en n, F_ref23_Same.en n], 0, []⟩, 105, bnOf 0 ia⟩
abbrev g1 : List Si := [.ref 2 2 T_api_Reply, .ref 3 3 T_api_Reply, .box 2 (.d T_api_Reply), .box 3 (.d T_api_Reply)]
abbrev g2 : List Si := [.ref 2 2 T_api_Reply, .ref 3 3 T_api_Reply, .dat 5 (.int .i64), .box 2 (.d T_api_Reply), .box 3 (.d T_api_Reply)]
abbrev g3 : List Si := [.ref 2 2 T_api_Reply, .ref 3 3 T_api_Reply, .box 2 (.d T_api_Reply), .box 3 (.d T_api_Reply)]
abbrev g4 : List Si := [.ref 2 2 T_api_Reply, .ref 3 3 T_api_Reply, .dat 6 (.int .i64), .box 2 (.d T_api_Reply), .box 3 (.d T_api_Reply)]
abbrev g5 : List Si := []
noncomputable def T : CT := (.s .o (.s .o (.r g1 (.s (.s .o (.b (.l g2 .o))) (.r g3 (.s (.s .o (.b (.l g4 .o))) (.r g5 .o)))))))
noncomputable def J1 (n : Nat) : D_api_Reply × D_api_Reply × Unit → Option R := jR (X n) n T (bodyOf Tryz.f30) (endK ia io) g1 [1, 1] []
noncomputable def J2 (n : Nat) (m : Nat) : Int × D_api_Reply × D_api_Reply × Unit → Option R := jL (X n) n T (bodyOf Tryz.f30) (endK ia io) g2 [1, 1, 0, 1, 0] [] m
noncomputable def J3 (n : Nat) : D_api_Reply × D_api_Reply × Unit → Option R := jR (X n) n T (bodyOf Tryz.f30) (endK ia io) g3 [1, 1, 1] []
noncomputable def J4 (n : Nat) (m : Nat) : Int × D_api_Reply × D_api_Reply × Unit → Option R := jL (X n) n T (bodyOf Tryz.f30) (endK ia io) g4 [1, 1, 1, 0, 1, 0] [] m
noncomputable def J5 (n : Nat) : Unit → Option R := jR (X n) n T (bodyOf Tryz.f30) (endK ia io) g5 [1, 1, 1, 1] []
noncomputable def f (n : Nat) (a : D_api_Reply) (b : D_api_Reply) : Option R := fRun (X n) n T Tryz.f30 ia io (a, b, ())
theorem e0 (n : Nat) (a : D_api_Reply) (b : D_api_Reply) : f n a b =
  bIf ((hide (a.1 != b.1))) (
    some (false, ())
    ) (
    bIf ((hide (a.2.1 != b.2.1))) (
      some (false, ())
      ) (
      bIf ((hide (!(a.2.2.2.2.2.1 == b.2.2.2.2.2.1)))) (
        some (false, ())
        ) (
        bIf ((hide (!eqS (bytesOf a.2.2.1) (bytesOf b.2.2.1)))) (
          some (false, ())
          ) (
          bnd (F_ref13_SameVersion.f n a.2.2.2.1 b.2.2.2.1) fun u1 =>
          bIf ((!u1.1)) (
            some (false, ())
            ) (
            bnd (F_ref23_Same.f n a.2.2.2.2.1 b.2.2.2.2.1) fun u2 =>
            bIf ((!u2.1)) (
              some (false, ())
              ) (
              bIf ((hide (((a.2.2.2.2.2.2.1.length : Nat) : Int) != ((b.2.2.2.2.2.2.1.length : Nat) : Int)))) (
                some (false, ())
                ) (
                bIf ((hide (((a.2.2.2.2.2.2.2.1.length : Nat) : Int) != ((b.2.2.2.2.2.2.2.1.length : Nat) : Int)))) (
                  some (false, ())
                  ) (
                  J1 n (a, b, ())
                  )
                )
              )
            )
          )
        )
      )
    ) := (hideF_eq _).trans (by kernel_rfl)
theorem e1 (n : Nat) (a : D_api_Reply) (b : D_api_Reply) : J1 n (a, b, ()) =
  J2 n n (0, a, b, ()) := (hideF_eq _).trans (by kernel_rfl)
theorem e2 (n m : Nat) (i : Int) (a : D_api_Reply) (b : D_api_Reply) : J2 n (m + 1) (i, a, b, ()) =
  bIf ((hide (decide (i < ((a.2.2.2.2.2.2.1.length : Nat) : Int))))) (
    gIf (0 ≤ i ∧ i < ((a.2.2.2.2.2.2.1.length : Nat) : Int)) (
      gIf (0 ≤ i ∧ i < ((b.2.2.2.2.2.2.1.length : Nat) : Int)) (
        bIf ((hide ((List.getD a.2.2.2.2.2.2.1 i.toNat 0) != (List.getD b.2.2.2.2.2.2.1 i.toNat 0)))) (
          some (false, ())
          ) (
          J2 n m ((IntKind.i64.wrap (i + (1 : Int))), a, b, ())
          )
        )
      )
    ) (
    J3 n (a, b, ())
    ) := (hideF_eq _).trans (by kernel_rfl)
theorem e3 (n : Nat) (a : D_api_Reply) (b : D_api_Reply) : J3 n (a, b, ()) =
  J4 n n (0, a, b, ()) := (hideF_eq _).trans (by kernel_rfl)
theorem e4 (n m : Nat) (i : Int) (a : D_api_Reply) (b : D_api_Reply) : J4 n (m + 1) (i, a, b, ()) =
  bIf ((hide (decide (i < ((a.2.2.2.2.2.2.2.1.length : Nat) : Int))))) (
    gIf (0 ≤ i ∧ i < ((a.2.2.2.2.2.2.2.1.length : Nat) : Int)) (
      gIf (0 ≤ i ∧ i < ((b.2.2.2.2.2.2.2.1.length : Nat) : Int)) (
        bIf ((hide (!eqS (List.getD a.2.2.2.2.2.2.2.1 i.toNat (⟨#[]⟩ : ByteArray)) (List.getD b.2.2.2.2.2.2.2.1 i.toNat (⟨#[]⟩ : ByteArray))))) (
          some (false, ())
          ) (
          J4 n m ((IntKind.i64.wrap (i + (1 : Int))), a, b, ())
          )
        )
      )
    ) (
    J5 n (())
    ) := (hideF_eq _).trans (by kernel_rfl)
theorem e5 (n : Nat) : J5 n (()) =
  some (true, ()) := (hideF_eq _).trans (by kernel_rfl)
theorem phi (n : Nat) : ∀ e ∈ (X n).c.Φ, EntryOk Tryz.prog e := allE_cons (mkEntry_ok (F_ref13_SameVersion.ok n)) (allE_cons (mkEntry_ok (F_ref23_Same.ok n)) (allE_nil))
theorem ok (n : Nat) : FnOk Tryz.prog 30 ia io (fRun (X n) n T Tryz.f30 ia io) := tree_ok mixed tabIs (phi n) Tryz.func30 (by kernel_rfl) rfl
noncomputable def en (n : Nat) : Entry := mkEntry 30 ia io (fRun (X n) n T Tryz.f30 ia io)
end F_ref24_Alike
end Go.Proofs.YtcpkhpboemfglaaGreatDoor

namespace Go.Proofs.YtcpkhpboemfglaaGreatDoor
open Go Go.Va Go.Proofs
namespace F_ref26_none
abbrev ia : List Ai := [.dat T_api_Version]
abbrev io : List (Nat × Oi) := [(2, .dat .bool)]
abbrev R : Type := DOut ia io
noncomputable def X (n : Nat) : Ctx := ⟨⟨tab, [F_ref13_SameVersion.en n], 0, []⟩, 6, bnOf 0 ia⟩
noncomputable def T : CT := .o
noncomputable def f (n : Nat) (v_ : D_api_Version) : Option R := fRun (X n) n T Tryz.f90 ia io (v_, ())
theorem e0 (n : Nat) (v_ : D_api_Version) : f n v_ =
  bnd (F_ref13_SameVersion.f n v_ (0, (false, (0, (0, ((List.replicate 32 0), (0, ((0, (0, (false, ()))), ([], ()))))))))) fun u1 =>
  some (u1.1, ()) := (hideF_eq _).trans (by kernel_rfl)
theorem phi (n : Nat) : ∀ e ∈ (X n).c.Φ, EntryOk Tryz.prog e := allE_cons (mkEntry_ok (F_ref13_SameVersion.ok n)) (allE_nil)
theorem ok (n : Nat) : FnOk Tryz.prog 90 ia io (fRun (X n) n T Tryz.f90 ia io) := tree_ok mixed tabIs (phi n) Tryz.func90 (by kernel_rfl) rfl
noncomputable def en (n : Nat) : Entry := mkEntry 90 ia io (fRun (X n) n T Tryz.f90 ia io)
end F_ref26_none
end Go.Proofs.YtcpkhpboemfglaaGreatDoor

namespace Go.Proofs.YtcpkhpboemfglaaGreatDoor
open Go Go.Va Go.Proofs
namespace F_ref26_good
abbrev ia : List Ai := [.dat T_api_Reply]
abbrev io : List (Nat × Oi) := [(2, .dat .bool)]
abbrev R : Type := DOut ia io
noncomputable def X (n : Nat) : Ctx := ⟨⟨tab, [F_ref24_Alike.en n, F_ref13_Good.en n, F_ref26_none.en n], 0, []⟩, 125, bnOf 0 ia⟩
abbrev g1 : List Si := [.ref 1 1 T_api_Reply, .box 1 (.d T_api_Reply)]
abbrev g2 : List Si := [.ref 1 1 T_api_Reply, .box 1 (.d T_api_Reply)]
abbrev g3 : List Si := [.ref 1 1 T_api_Reply, .dat 3 (.int .i64), .box 1 (.d T_api_Reply)]
abbrev g4 : List Si := [.ref 1 1 T_api_Reply, .dat 3 (.int .i64), .box 1 (.d T_api_Reply)]
abbrev g5 : List Si := [.ref 1 1 T_api_Reply, .box 1 (.d T_api_Reply)]
abbrev g6 : List Si := [.ref 1 1 T_api_Reply, .dat 5 (.int .i64), .box 1 (.d T_api_Reply)]
abbrev g7 : List Si := [.ref 1 1 T_api_Reply, .box 1 (.d T_api_Reply)]
abbrev g8 : List Si := [.ref 1 1 T_api_Reply, .dat 6 (.int .i64), .box 1 (.d T_api_Reply)]
abbrev g9 : List Si := []
noncomputable def T : CT := (.s .o (.s .o (.r g1 (.s .o (.s .o (.r g2 (.s (.s .o (.b (.l g3 (.s .o (.s .o (.r g4 .o)))))) (.r g5 (.s (.s .o (.b (.l g6 .o))) (.r g7 (.s (.s .o (.b (.l g8 .o))) (.r g9 .o))))))))))))
noncomputable def J1 (n : Nat) : D_api_Reply × Unit → Option R := jR (X n) n T (bodyOf Tryz.f87) (endK ia io) g1 [1, 1] []
noncomputable def J2 (n : Nat) : D_api_Reply × Unit → Option R := jR (X n) n T (bodyOf Tryz.f87) (endK ia io) g2 [1, 1, 1, 1] []
noncomputable def J3 (n : Nat) (m : Nat) : Int × D_api_Reply × Unit → Option R := jL (X n) n T (bodyOf Tryz.f87) (endK ia io) g3 [1, 1, 1, 1, 0, 1, 0] [] m
noncomputable def J4 (n m3 : Nat) : Int × D_api_Reply × Unit → Option R := jR (X n) n T (bodyOf Tryz.f87) (endK ia io) g4 [1, 1, 1, 1, 0, 1, 0, 0, 1, 1] [m3]
noncomputable def J5 (n : Nat) : D_api_Reply × Unit → Option R := jR (X n) n T (bodyOf Tryz.f87) (endK ia io) g5 [1, 1, 1, 1, 1] []
noncomputable def J6 (n : Nat) (m : Nat) : Int × D_api_Reply × Unit → Option R := jL (X n) n T (bodyOf Tryz.f87) (endK ia io) g6 [1, 1, 1, 1, 1, 0, 1, 0] [] m
noncomputable def J7 (n : Nat) : D_api_Reply × Unit → Option R := jR (X n) n T (bodyOf Tryz.f87) (endK ia io) g7 [1, 1, 1, 1, 1, 1] []
noncomputable def J8 (n : Nat) (m : Nat) : Int × D_api_Reply × Unit → Option R := jL (X n) n T (bodyOf Tryz.f87) (endK ia io) g8 [1, 1, 1, 1, 1, 1, 0, 1, 0] [] m
noncomputable def J9 (n : Nat) : Unit → Option R := jR (X n) n T (bodyOf Tryz.f87) (endK ia io) g9 [1, 1, 1, 1, 1, 1, 1] []
noncomputable def f (n : Nat) (r : D_api_Reply) : Option R := fRun (X n) n T Tryz.f87 ia io (r, ())
theorem e0 (n : Nat) (r : D_api_Reply) : f n r =
  bIf ((hide (decide (r.1 < (0 : Int))))) (
    some (false, ())
    ) (
    bIf ((hide (decide (r.1 > (18 : Int))))) (
      some (false, ())
      ) (
      J1 n (r, ())
      )
    ) := (hideF_eq _).trans (by kernel_rfl)
theorem e1 (n : Nat) (r : D_api_Reply) : J1 n (r, ()) =
  bIf ((hide (r.1 != (0 : Int)))) (
    bnd (F_ref24_Alike.f n r (r.1, (0, ([], ((0, (false, (0, (0, ((List.replicate 32 0), (0, ((0, (0, (false, ()))), ([], ())))))))), ([], (false, ([], ([], ()))))))))) fun u1 =>
    some (u1.1, ())
    ) (
    bIf ((hide (decide (((r.2.2.1.length : Nat) : Int) > (16384 : Int))))) (
      some (false, ())
      ) (
      bnd (F_ref26_none.f n r.2.2.2.1) fun u2 =>
      bIf ((!u2.1)) (
        bnd (F_ref13_Good.f n r.2.2.2.1) fun u3 =>
        bIf ((!u3.1)) (
          some (false, ())
          ) (
          bIf ((hide (decide (((r.2.2.2.2.1.length : Nat) : Int) > (100 : Int))))) (
            some (false, ())
            ) (
            bIf ((hide (decide (((r.2.2.2.2.2.2.1.length : Nat) : Int) > (8 : Int))))) (
              some (false, ())
              ) (
              bIf ((hide (decide (((r.2.2.2.2.2.2.2.1.length : Nat) : Int) > (16 : Int))))) (
                some (false, ())
                ) (
                J2 n (r, ())
                )
              )
            )
          )
        ) (
        bIf ((hide (decide (((r.2.2.2.2.1.length : Nat) : Int) > (100 : Int))))) (
          some (false, ())
          ) (
          bIf ((hide (decide (((r.2.2.2.2.2.2.1.length : Nat) : Int) > (8 : Int))))) (
            some (false, ())
            ) (
            bIf ((hide (decide (((r.2.2.2.2.2.2.2.1.length : Nat) : Int) > (16 : Int))))) (
              some (false, ())
              ) (
              J2 n (r, ())
              )
            )
          )
        )
      )
    ) := (hideF_eq _).trans (by kernel_rfl)
theorem e2 (n : Nat) (r : D_api_Reply) : J2 n (r, ()) =
  J3 n n (0, r, ()) := (hideF_eq _).trans (by kernel_rfl)
theorem e3 (n m : Nat) (i : Int) (r : D_api_Reply) : J3 n (m + 1) (i, r, ()) =
  bIf ((hide (decide (i < ((r.2.2.2.2.1.length : Nat) : Int))))) (
    gIf (0 ≤ i ∧ i < ((r.2.2.2.2.1.length : Nat) : Int)) (
      bIf ((hide (decide ((((List.getD r.2.2.2.2.1 i.toNat (Va.dflt T_api_Row)).1).size : Int) > (200 : Int))))) (
        some (false, ())
        ) (
        bIf (((List.getD r.2.2.2.2.1 i.toNat (Va.dflt T_api_Row)).2).1) (
          bIf (((((List.getD r.2.2.2.2.1 i.toNat (Va.dflt T_api_Row)).2).2).2).1) (
            some (false, ())
            ) (
            bnd (F_ref26_none.f n ((((List.getD r.2.2.2.2.1 i.toNat (Va.dflt T_api_Row)).2).2).1)) fun u1 =>
            bIf ((!u1.1)) (
              some (false, ())
              ) (
              bIf ((!(((List.getD r.2.2.2.2.1 i.toNat (Va.dflt T_api_Row)).2).1))) (
                bnd (F_ref13_Good.f n ((((List.getD r.2.2.2.2.1 i.toNat (Va.dflt T_api_Row)).2).2).1)) fun u2 =>
                bIf ((!u2.1)) (
                  some (false, ())
                  ) (
                  J4 n m (i, r, ())
                  )
                ) (
                J4 n m (i, r, ())
                )
              )
            )
          ) (
          bIf ((!(((List.getD r.2.2.2.2.1 i.toNat (Va.dflt T_api_Row)).2).1))) (
            bnd (F_ref13_Good.f n ((((List.getD r.2.2.2.2.1 i.toNat (Va.dflt T_api_Row)).2).2).1)) fun u3 =>
            bIf ((!u3.1)) (
              some (false, ())
              ) (
              J4 n m (i, r, ())
              )
            ) (
            J4 n m (i, r, ())
            )
          )
        )
      )
    ) (
    J5 n (r, ())
    ) := (hideF_eq _).trans (by kernel_rfl)
theorem e4 (n m3 : Nat) (i : Int) (r : D_api_Reply) : J4 n m3 (i, r, ()) =
  J3 n m3 ((IntKind.i64.wrap (i + (1 : Int))), r, ()) := (hideF_eq _).trans (by kernel_rfl)
theorem e5 (n : Nat) (r : D_api_Reply) : J5 n (r, ()) =
  J6 n n (0, r, ()) := (hideF_eq _).trans (by kernel_rfl)
theorem e6 (n m : Nat) (i : Int) (r : D_api_Reply) : J6 n (m + 1) (i, r, ()) =
  bIf ((hide (decide (i < ((r.2.2.2.2.2.2.1.length : Nat) : Int))))) (
    gIf (0 ≤ i ∧ i < ((r.2.2.2.2.2.2.1.length : Nat) : Int)) (
      bIf ((hide (decide ((List.getD r.2.2.2.2.2.2.1 i.toNat 0) < (0 : Int))))) (
        some (false, ())
        ) (
        J6 n m ((IntKind.i64.wrap (i + (1 : Int))), r, ())
        )
      )
    ) (
    J7 n (r, ())
    ) := (hideF_eq _).trans (by kernel_rfl)
theorem e7 (n : Nat) (r : D_api_Reply) : J7 n (r, ()) =
  J8 n n (0, r, ()) := (hideF_eq _).trans (by kernel_rfl)
theorem e8 (n m : Nat) (i : Int) (r : D_api_Reply) : J8 n (m + 1) (i, r, ()) =
  bIf ((hide (decide (i < ((r.2.2.2.2.2.2.2.1.length : Nat) : Int))))) (
    gIf (0 ≤ i ∧ i < ((r.2.2.2.2.2.2.2.1.length : Nat) : Int)) (
      bIf ((hide (decide (((List.getD r.2.2.2.2.2.2.2.1 i.toNat (⟨#[]⟩ : ByteArray)).size : Int) > (63 : Int))))) (
        some (false, ())
        ) (
        J8 n m ((IntKind.i64.wrap (i + (1 : Int))), r, ())
        )
      )
    ) (
    J9 n (())
    ) := (hideF_eq _).trans (by kernel_rfl)
theorem e9 (n : Nat) : J9 n (()) =
  some (true, ()) := (hideF_eq _).trans (by kernel_rfl)
theorem phi (n : Nat) : ∀ e ∈ (X n).c.Φ, EntryOk Tryz.prog e := allE_cons (mkEntry_ok (F_ref24_Alike.ok n)) (allE_cons (mkEntry_ok (F_ref13_Good.ok n)) (allE_cons (mkEntry_ok (F_ref26_none.ok n)) (allE_nil)))
theorem ok (n : Nat) : FnOk Tryz.prog 87 ia io (fRun (X n) n T Tryz.f87 ia io) := tree_ok mixed tabIs (phi n) Tryz.func87 (by kernel_rfl) rfl
noncomputable def en (n : Nat) : Entry := mkEntry 87 ia io (fRun (X n) n T Tryz.f87 ia io)
end F_ref26_good
end Go.Proofs.YtcpkhpboemfglaaGreatDoor

namespace Go.Proofs.YtcpkhpboemfglaaGreatDoor
open Go Go.Va Go.Proofs
namespace F_ref26_num
abbrev ia : List Ai := [.dat (.int .i64)]
abbrev io : List (Nat × Oi) := [(2, .dat .str)]
abbrev R : Type := DOut ia io
noncomputable def X (n : Nat) : Ctx := ⟨⟨tab, [F_ref10_Num.en n], 0, []⟩, 6, bnOf 0 ia⟩
noncomputable def T : CT := .o
noncomputable def f (n : Nat) (n_ : Int) : Option R := fRun (X n) n T Tryz.f71 ia io (n_, ())
theorem e0 (n : Nat) (n_ : Int) : f n n_ =
  bnd (F_ref10_Num.f n (IntKind.u64.wrap n_)) fun u1 =>
  some (u1.1, ()) := (hideF_eq _).trans (by kernel_rfl)
theorem phi (n : Nat) : ∀ e ∈ (X n).c.Φ, EntryOk Tryz.prog e := allE_cons (mkEntry_ok (F_ref10_Num.ok n)) (allE_nil)
theorem ok (n : Nat) : FnOk Tryz.prog 71 ia io (fRun (X n) n T Tryz.f71 ia io) := tree_ok mixed tabIs (phi n) Tryz.func71 (by kernel_rfl) rfl
noncomputable def en (n : Nat) : Entry := mkEntry 71 ia io (fRun (X n) n T Tryz.f71 ia io)
end F_ref26_num
end Go.Proofs.YtcpkhpboemfglaaGreatDoor

namespace Go.Proofs.YtcpkhpboemfglaaGreatDoor
open Go Go.Va Go.Proofs
namespace F_ref26_Tell
abbrev ia : List Ai := [.dat T_api_Reply]
abbrev io : List (Nat × Oi) := [(2, .dat .str), (3, .dat (.int .i64))]
abbrev R : Type := DOut ia io
noncomputable def X (n : Nat) : Ctx := ⟨⟨tab, [F_ref26_num.en n, F_ref10_Text.en n, F_ref26_good.en n, F_ref10_Num.en n, F_ref10_Flag.en n, F_ref26_none.en n, F_ref14_PutVersion.en n], 0, []⟩, 130, bnOf 0 ia⟩
abbrev g1 : List Si := [.ref 1 1 T_api_Reply, .dat 4 .str, .box 1 (.d T_api_Reply)]
abbrev g2 : List Si := [.ref 1 1 T_api_Reply, .dat 4 .str, .dat 5 (.int .i64), .box 1 (.d T_api_Reply)]
abbrev g3 : List Si := [.ref 1 1 T_api_Reply, .dat 4 .str, .dat 5 (.int .i64), .box 1 (.d T_api_Reply)]
abbrev g4 : List Si := [.ref 1 1 T_api_Reply, .dat 4 .str, .box 1 (.d T_api_Reply)]
abbrev g5 : List Si := [.ref 1 1 T_api_Reply, .dat 4 .str, .dat 7 (.int .i64), .box 1 (.d T_api_Reply)]
abbrev g6 : List Si := [.ref 1 1 T_api_Reply, .dat 4 .str, .box 1 (.d T_api_Reply)]
abbrev g7 : List Si := [.ref 1 1 T_api_Reply, .dat 4 .str, .dat 8 (.int .i64), .box 1 (.d T_api_Reply)]
abbrev g8 : List Si := [.dat 4 .str]
noncomputable def T : CT := (.s .o (.s .o (.s .o (.s .o (.s .o (.s .o (.r g1 (.s .o (.s (.s .o (.b (.l g2 (.s .o (.s .o (.r g3 .o)))))) (.r g4 (.s .o (.s (.s .o (.b (.l g5 .o))) (.r g6 (.s .o (.s (.s .o (.b (.l g7 .o))) (.r g8 .o))))))))))))))))
noncomputable def J1 (n : Nat) : ByteArray × D_api_Reply × Unit → Option R := jR (X n) n T (bodyOf Tryz.f28) (endK ia io) g1 [1, 1, 1, 1, 1, 1] []
noncomputable def J2 (n : Nat) (m : Nat) : ByteArray × Int × D_api_Reply × Unit → Option R := jL (X n) n T (bodyOf Tryz.f28) (endK ia io) g2 [1, 1, 1, 1, 1, 1, 1, 0, 1, 0] [] m
noncomputable def J3 (n m2 : Nat) : ByteArray × Int × D_api_Reply × Unit → Option R := jR (X n) n T (bodyOf Tryz.f28) (endK ia io) g3 [1, 1, 1, 1, 1, 1, 1, 0, 1, 0, 0, 1, 1] [m2]
noncomputable def J4 (n : Nat) : ByteArray × D_api_Reply × Unit → Option R := jR (X n) n T (bodyOf Tryz.f28) (endK ia io) g4 [1, 1, 1, 1, 1, 1, 1, 1] []
noncomputable def J5 (n : Nat) (m : Nat) : ByteArray × Int × D_api_Reply × Unit → Option R := jL (X n) n T (bodyOf Tryz.f28) (endK ia io) g5 [1, 1, 1, 1, 1, 1, 1, 1, 1, 0, 1, 0] [] m
noncomputable def J6 (n : Nat) : ByteArray × D_api_Reply × Unit → Option R := jR (X n) n T (bodyOf Tryz.f28) (endK ia io) g6 [1, 1, 1, 1, 1, 1, 1, 1, 1, 1] []
noncomputable def J7 (n : Nat) (m : Nat) : ByteArray × Int × D_api_Reply × Unit → Option R := jL (X n) n T (bodyOf Tryz.f28) (endK ia io) g7 [1, 1, 1, 1, 1, 1, 1, 1, 1, 1, 1, 0, 1, 0] [] m
noncomputable def J8 (n : Nat) : ByteArray × Unit → Option R := jR (X n) n T (bodyOf Tryz.f28) (endK ia io) g8 [1, 1, 1, 1, 1, 1, 1, 1, 1, 1, 1, 1] []
noncomputable def f (n : Nat) (t : D_api_Reply) : Option R := fRun (X n) n T Tryz.f28 ia io (t, ())
theorem e0 (n : Nat) (t : D_api_Reply) : f n t =
  bnd (F_ref26_good.f n t) fun u1 =>
  bIf ((!u1.1)) (
    some ((⟨#[]⟩ : ByteArray), 2, ())
    ) (
    bnd (F_ref26_num.f n t.1) fun u2 =>
    bIf ((hide (t.1 != (0 : Int)))) (
      some (u2.1, 0, ())
      ) (
      bnd (F_ref10_Num.f n t.2.1) fun u3 =>
      bnd (F_ref10_Text.f n (bytesOf t.2.2.1)) fun u4 =>
      gIf (u3.1.size + u4.1.size ≤ 4611686018427387904) (
        bnd (F_ref26_none.f n t.2.2.2.1) fun u5 =>
        bnd (F_ref10_Flag.f n (!u5.1)) fun u6 =>
        gIf ((u3.1 ++ u4.1).size + u6.1.size ≤ 4611686018427387904) (
          gIf (u2.1.size + ((u3.1 ++ u4.1) ++ u6.1).size ≤ 4611686018427387904) (
            bnd (F_ref26_none.f n t.2.2.2.1) fun u7 =>
            bIf ((!u7.1)) (
              bnd (F_ref14_PutVersion.f n t.2.2.2.1) fun u8 =>
              gIf ((u2.1 ++ ((u3.1 ++ u4.1) ++ u6.1)).size + u8.1.size ≤ 4611686018427387904) (
                J1 n (((u2.1 ++ ((u3.1 ++ u4.1) ++ u6.1)) ++ u8.1), t, ())
                )
              ) (
              J1 n ((u2.1 ++ ((u3.1 ++ u4.1) ++ u6.1)), t, ())
              )
            )
          )
        )
      )
    ) := (hideF_eq _).trans (by kernel_rfl)
theorem e1 (n : Nat) (r : ByteArray) (o : D_api_Reply) : J1 n (r, o, ()) =
  bnd (F_ref26_num.f n ((o.2.2.2.2.1.length : Nat) : Int)) fun u1 =>
  gIf (r.size + u1.1.size ≤ 4611686018427387904) (
    J2 n n ((r ++ u1.1), 0, o, ())
    ) := (hideF_eq _).trans (by kernel_rfl)
theorem e2 (n m : Nat) (r : ByteArray) (a : Int) (o : D_api_Reply) : J2 n (m + 1) (r, a, o, ()) =
  bIf ((hide (decide (a < ((o.2.2.2.2.1.length : Nat) : Int))))) (
    gIf (0 ≤ a ∧ a < ((o.2.2.2.2.1.length : Nat) : Int)) (
      bnd (F_ref10_Text.f n ((List.getD o.2.2.2.2.1 a.toNat (Va.dflt T_api_Row)).1)) fun u1 =>
      bnd (F_ref10_Flag.f n (((List.getD o.2.2.2.2.1 a.toNat (Va.dflt T_api_Row)).2).1)) fun u2 =>
      gIf (u1.1.size + u2.1.size ≤ 4611686018427387904) (
        gIf (r.size + (u1.1 ++ u2.1).size ≤ 4611686018427387904) (
          bIf ((!(((List.getD o.2.2.2.2.1 a.toNat (Va.dflt T_api_Row)).2).1))) (
            bnd (F_ref14_PutVersion.f n ((((List.getD o.2.2.2.2.1 a.toNat (Va.dflt T_api_Row)).2).2).1)) fun u3 =>
            bnd (F_ref10_Flag.f n (((((List.getD o.2.2.2.2.1 a.toNat (Va.dflt T_api_Row)).2).2).2).1)) fun u4 =>
            gIf (u3.1.size + u4.1.size ≤ 4611686018427387904) (
              gIf ((r ++ (u1.1 ++ u2.1)).size + (u3.1 ++ u4.1).size ≤ 4611686018427387904) (
                J3 n m (((r ++ (u1.1 ++ u2.1)) ++ (u3.1 ++ u4.1)), a, o, ())
                )
              )
            ) (
            J3 n m ((r ++ (u1.1 ++ u2.1)), a, o, ())
            )
          )
        )
      )
    ) (
    J4 n (r, o, ())
    ) := (hideF_eq _).trans (by kernel_rfl)
theorem e3 (n m2 : Nat) (r : ByteArray) (a : Int) (o : D_api_Reply) : J3 n m2 (r, a, o, ()) =
  J2 n m2 (r, (IntKind.i64.wrap (a + (1 : Int))), o, ()) := (hideF_eq _).trans (by kernel_rfl)
theorem e4 (n : Nat) (r : ByteArray) (o : D_api_Reply) : J4 n (r, o, ()) =
  bnd (F_ref10_Flag.f n o.2.2.2.2.2.1) fun u1 =>
  bnd (F_ref26_num.f n ((o.2.2.2.2.2.2.1.length : Nat) : Int)) fun u2 =>
  gIf (u1.1.size + u2.1.size ≤ 4611686018427387904) (
    gIf (r.size + (u1.1 ++ u2.1).size ≤ 4611686018427387904) (
      J5 n n ((r ++ (u1.1 ++ u2.1)), 0, o, ())
      )
    ) := (hideF_eq _).trans (by kernel_rfl)
theorem e5 (n m : Nat) (r : ByteArray) (t7 : Int) (o : D_api_Reply) : J5 n (m + 1) (r, t7, o, ()) =
  bIf ((hide (decide (t7 < ((o.2.2.2.2.2.2.1.length : Nat) : Int))))) (
    gIf (0 ≤ t7 ∧ t7 < ((o.2.2.2.2.2.2.1.length : Nat) : Int)) (
      bnd (F_ref26_num.f n (List.getD o.2.2.2.2.2.2.1 t7.toNat 0)) fun u1 =>
      gIf (r.size + u1.1.size ≤ 4611686018427387904) (
        J5 n m ((r ++ u1.1), (IntKind.i64.wrap (t7 + (1 : Int))), o, ())
        )
      )
    ) (
    J6 n (r, o, ())
    ) := (hideF_eq _).trans (by kernel_rfl)
theorem e6 (n : Nat) (r : ByteArray) (o : D_api_Reply) : J6 n (r, o, ()) =
  bnd (F_ref26_num.f n ((o.2.2.2.2.2.2.2.1.length : Nat) : Int)) fun u1 =>
  gIf (r.size + u1.1.size ≤ 4611686018427387904) (
    J7 n n ((r ++ u1.1), 0, o, ())
    ) := (hideF_eq _).trans (by kernel_rfl)
theorem e7 (n m : Nat) (r : ByteArray) (t8 : Int) (o : D_api_Reply) : J7 n (m + 1) (r, t8, o, ()) =
  bIf ((hide (decide (t8 < ((o.2.2.2.2.2.2.2.1.length : Nat) : Int))))) (
    gIf (0 ≤ t8 ∧ t8 < ((o.2.2.2.2.2.2.2.1.length : Nat) : Int)) (
      bnd (F_ref10_Text.f n (List.getD o.2.2.2.2.2.2.2.1 t8.toNat (⟨#[]⟩ : ByteArray))) fun u1 =>
      gIf (r.size + u1.1.size ≤ 4611686018427387904) (
        J7 n m ((r ++ u1.1), (IntKind.i64.wrap (t8 + (1 : Int))), o, ())
        )
      )
    ) (
    J8 n (r, ())
    ) := (hideF_eq _).trans (by kernel_rfl)
theorem e8 (n : Nat) (r : ByteArray) : J8 n (r, ()) =
  some (r, 0, ()) := (hideF_eq _).trans (by kernel_rfl)
theorem phi (n : Nat) : ∀ e ∈ (X n).c.Φ, EntryOk Tryz.prog e := allE_cons (mkEntry_ok (F_ref26_num.ok n)) (allE_cons (mkEntry_ok (F_ref10_Text.ok n)) (allE_cons (mkEntry_ok (F_ref26_good.ok n)) (allE_cons (mkEntry_ok (F_ref10_Num.ok n)) (allE_cons (mkEntry_ok (F_ref10_Flag.ok n)) (allE_cons (mkEntry_ok (F_ref26_none.ok n)) (allE_cons (mkEntry_ok (F_ref14_PutVersion.ok n)) (allE_nil)))))))
theorem ok (n : Nat) : FnOk Tryz.prog 28 ia io (fRun (X n) n T Tryz.f28 ia io) := tree_ok mixed tabIs (phi n) Tryz.func28 (by kernel_rfl) rfl
noncomputable def en (n : Nat) : Entry := mkEntry 28 ia io (fRun (X n) n T Tryz.f28 ia io)
end F_ref26_Tell
end Go.Proofs.YtcpkhpboemfglaaGreatDoor

namespace Go.Proofs.YtcpkhpboemfglaaGreatDoor
open Go Go.Va Go.Proofs
namespace F_wire_writer_key
abbrev ia : List Ai := [.fn (.str 2) [(.p (.r 0 (.int .u8)) (.d .unit))], .dat T_api_Request]
abbrev io : List (Nat × Oi) := [(4, .argc 2 500000 (.d T_pack_Writer))]
abbrev R : Type := DOut ia io
noncomputable def X (n : Nat) : Ctx := ⟨⟨tab, [F_pack_Writer_Num.en n, F_pack_Writer_Text.en n], 0, []⟩, 15, bnOf 0 ia⟩
noncomputable def T : CT := .o
noncomputable def f (n : Nat) (wc0 : D_pack_Writer) (r : D_api_Request) : Option R := fRun (X n) n T Tryz.f169 ia io (wc0, r, ())
theorem e0 (n : Nat) (wc0 : D_pack_Writer) (r : D_api_Request) : f n wc0 r =
  bnd (F_pack_Writer_Text.f n (wc0.1, wc0.2) r.2.2.2.1) fun u1 =>
  bnd (F_pack_Writer_Num.f n (u1.1.1, u1.1.2) r.2.2.2.2.1) fun u2 =>
  some ((u2.1.1, u2.1.2), ()) := (hideF_eq _).trans (by kernel_rfl)
theorem phi (n : Nat) : ∀ e ∈ (X n).c.Φ, EntryOk Tryz.prog e := allE_cons (mkEntry_ok (F_pack_Writer_Num.ok n)) (allE_cons (mkEntry_ok (F_pack_Writer_Text.ok n)) (allE_nil))
theorem ok (n : Nat) : FnOk Tryz.prog 169 ia io (fRun (X n) n T Tryz.f169 ia io) := tree_ok mixed tabIs (phi n) Tryz.func169 (by kernel_rfl) rfl
noncomputable def en (n : Nat) : Entry := mkEntry 169 ia io (fRun (X n) n T Tryz.f169 ia io)
end F_wire_writer_key
end Go.Proofs.YtcpkhpboemfglaaGreatDoor

namespace Go.Proofs.YtcpkhpboemfglaaGreatDoor
open Go Go.Va Go.Proofs
namespace F_wire_writer_fields
abbrev ia : List Ai := [.fn (.str 2) [(.p (.r 0 (.int .u8)) (.d .unit))], .dat T_api_Request]
abbrev io : List (Nat × Oi) := []
abbrev R : Type := DOut ia io
noncomputable def X (n : Nat) : Ctx := ⟨⟨tab, [F_pack_Writer_Num.en n, F_pack_Writer_Text.en n, F_pack_Writer_Flag.en n, F_pack_Writer_Int.en n, F_entry_Writer_Default.en n, F_entry_Writer_Rules.en n, F_entry_Writer_Grants.en n, F_entry_Writer_Lock.en n, F_entry_Writer_Tags.en n, F_wire_writer_key.en n], 0, []⟩, 230, bnOf 0 ia⟩
abbrev g1 : List Si := [.ref 2 2 T_wire_reader, .ref 3 3 T_api_Request, .dat 7 (.int .i64), .dat 8 .bool, .box 2 (.p (.p (.al 500000 T_pack_Writer) (.d .unit)) (.d .unit)), .box 3 (.d T_api_Request), .box 500000 (.p (.r 100000500000000 (.int .u8)) (.d .unit))]
abbrev g2 : List Si := [.ref 2 2 T_wire_reader, .ref 3 3 T_api_Request, .dat 7 (.int .i64), .dat 52 .bool, .box 2 (.p (.p (.al 500000 T_pack_Writer) (.d .unit)) (.d .unit)), .box 3 (.d T_api_Request), .box 500000 (.p (.r 100000500000000 (.int .u8)) (.d .unit))]
abbrev g3 : List Si := [.ref 2 2 T_wire_reader, .dat 190 (.slice (.int .i64)), .dat 191 (.int .i64), .dat 192 (.int .i64), .box 2 (.p (.p (.al 500000 T_pack_Writer) (.d .unit)) (.d .unit)), .box 500000 (.p (.r 100000500000000 (.int .u8)) (.d .unit))]
noncomputable def T : CT := (.s .o (.s .o (.b (.s .o (.r g1 (.c .o (.s .o (.c .o (.s .o (.c .o (.s .o (.c .o (.s .o (.r g2 (.c .o (.s .o (.c .o (.s .o (.c .o (.s .o (.c .o (.s .o (.c .o (.s .o (.c .o (.s .o (.c .o (.s .o (.c .o (.s .o (.c .o (.s .o (.c .o (.s .o (.c (.s .o (.s .o (.b (.l g3 .o)))) .o)))))))))))))))))))))))))))))))))))
noncomputable def J1 (n : Nat) : Int × Bool × D_wire_reader × D_api_Request × D_pack_Writer × Unit → Option R := jR (X n) n T (bodyOf Tryz.f98) (endK ia io) g1 [1, 1, 0, 1] []
noncomputable def J2 (n : Nat) : Int × Bool × D_wire_reader × D_api_Request × D_pack_Writer × Unit → Option R := jR (X n) n T (bodyOf Tryz.f98) (endK ia io) g2 [1, 1, 0, 1, 1, 1, 1, 1, 1, 1, 1, 1] []
noncomputable def J3 (n : Nat) (m : Nat) : (List (Int)) × Int × Int × D_wire_reader × D_pack_Writer × Unit → Option R := jL (X n) n T (bodyOf Tryz.f98) (endK ia io) g3 [1, 1, 0, 1, 1, 1, 1, 1, 1, 1, 1, 1, 1, 1, 1, 1, 1, 1, 1, 1, 1, 1, 1, 1, 1, 1, 1, 1, 1, 1, 1, 1, 0, 1, 1, 0] [] m
noncomputable def f (n : Nat) (tc0 : D_pack_Writer) (o : D_api_Request) : Option R := fRun (X n) n T Tryz.f98 ia io (tc0, o, ())
theorem e0 (n : Nat) (tc0 : D_pack_Writer) (o : D_api_Request) : f n tc0 o =
  bIf ((hide (o.1 == (1 : Int)))) (
    J1 n (o.1, true, (((), ()), ()), o, (tc0.1, tc0.2), ())
    ) (
    J1 n (o.1, (hide (o.1 == (3 : Int))), (((), ()), ()), o, (tc0.1, tc0.2), ())
    ) := (hideF_eq _).trans (by kernel_rfl)
theorem e1 (n : Nat) (t7 : Int) (t8 : Bool) (A : D_wire_reader) (r : D_api_Request) (b500000 : D_pack_Writer) : J1 n (t7, t8, A, r, b500000, ()) =
  bIf (t8) (
    bnd (F_entry_Writer_Default.f n (b500000.1, b500000.2) r.2.2.2.2.2.2.2.2.2.1) fun u1 =>
    some ((u1.1.1, u1.1.2), ())
    ) (
    bIf ((hide (t7 == (4 : Int)))) (
      bnd (F_entry_Writer_Rules.f n (b500000.1, b500000.2) r.2.2.2.2.2.2.2.2.2.2.1) fun u2 =>
      some ((u2.1.1, u2.1.2), ())
      ) (
      bIf ((hide (t7 == (5 : Int)))) (
        bnd (F_entry_Writer_Grants.f n (b500000.1, b500000.2) r.2.2.2.2.2.2.2.2.2.2.2.1) fun u3 =>
        some ((u3.1.1, u3.1.2), ())
        ) (
        bIf ((hide (t7 == (6 : Int)))) (
          bnd (F_pack_Writer_Text.f n (b500000.1, b500000.2) r.2.2.2.1) fun u4 =>
          bnd (F_pack_Writer_Text.f n (u4.1.1, u4.1.2) (bytesOf r.2.2.2.2.2.1)) fun u5 =>
          bnd (F_entry_Writer_Tags.f n (u5.1.1, u5.1.2) r.2.2.2.2.2.2.1) fun u6 =>
          bnd (F_entry_Writer_Lock.f n (u6.1.1, u6.1.2) r.2.2.2.2.2.2.2.1) fun u7 =>
          some ((u7.1.1, u7.1.2), ())
          ) (
          bIf ((hide (t7 == (7 : Int)))) (
            J2 n (t7, true, (((), A.1.2), A.2), r, (b500000.1, b500000.2), ())
            ) (
            J2 n (t7, (hide (t7 == (8 : Int))), (((), A.1.2), A.2), r, (b500000.1, b500000.2), ())
            )
          )
        )
      )
    ) := (hideF_eq _).trans (by kernel_rfl)
theorem e2 (n : Nat) (t7 : Int) (t52 : Bool) (A : D_wire_reader) (r : D_api_Request) (b500000 : D_pack_Writer) : J2 n (t7, t52, A, r, b500000, ()) =
  bIf (t52) (
    bnd (F_wire_writer_key.f n (b500000.1, b500000.2) r) fun u1 =>
    some ((u1.1.1, u1.1.2), ())
    ) (
    bIf ((hide (t7 == (9 : Int)))) (
      bnd (F_pack_Writer_Text.f n (b500000.1, b500000.2) r.2.2.2.1) fun u2 =>
      some ((u2.1.1, u2.1.2), ())
      ) (
      bIf ((hide (t7 == (10 : Int)))) (
        bnd (F_wire_writer_key.f n (b500000.1, b500000.2) r) fun u3 =>
        bnd (F_pack_Writer_Flag.f n (u3.1.1, u3.1.2) r.2.2.2.2.2.2.2.2.1) fun u4 =>
        some ((u4.1.1, u4.1.2), ())
        ) (
        bIf ((hide (t7 == (11 : Int)))) (
          bnd (F_wire_writer_key.f n (b500000.1, b500000.2) r) fun u5 =>
          bnd (F_entry_Writer_Lock.f n (u5.1.1, u5.1.2) r.2.2.2.2.2.2.2.1) fun u6 =>
          bnd (F_pack_Writer_Flag.f n (u6.1.1, u6.1.2) r.2.2.2.2.2.2.2.2.1) fun u7 =>
          some ((u7.1.1, u7.1.2), ())
          ) (
          bIf ((hide (t7 == (12 : Int)))) (
            bnd (F_wire_writer_key.f n (b500000.1, b500000.2) r) fun u8 =>
            bnd (F_entry_Writer_Lock.f n (u8.1.1, u8.1.2) r.2.2.2.2.2.2.2.1) fun u9 =>
            some ((u9.1.1, u9.1.2), ())
            ) (
            bIf ((hide (t7 == (13 : Int)))) (
              bnd (F_wire_writer_key.f n (b500000.1, b500000.2) r) fun u10 =>
              bnd (F_entry_Writer_Tags.f n (u10.1.1, u10.1.2) r.2.2.2.2.2.2.1) fun u11 =>
              some ((u11.1.1, u11.1.2), ())
              ) (
              bIf ((hide (t7 == (14 : Int)))) (
                bnd (F_pack_Writer_Text.f n (b500000.1, b500000.2) r.2.2.2.2.2.2.2.2.2.2.2.2.2.2.2.1) fun u12 =>
                bnd (F_pack_Writer_Text.f n (u12.1.1, u12.1.2) r.2.2.2.2.2.2.2.2.2.2.2.2.2.2.2.2.1) fun u13 =>
                bnd (F_pack_Writer_Text.f n (u13.1.1, u13.1.2) r.2.2.2.2.2.2.2.2.2.2.2.2.2.2.1) fun u14 =>
                bnd (F_pack_Writer_Num.f n (u14.1.1, u14.1.2) (IntKind.u64.wrap r.2.2.2.2.2.2.2.2.2.2.2.2.2.2.2.2.2.2.1)) fun u15 =>
                some ((u15.1.1, u15.1.2), ())
                ) (
                bIf ((hide (t7 == (15 : Int)))) (
                  bnd (F_pack_Writer_Text.f n (b500000.1, b500000.2) r.2.2.2.2.2.2.2.2.2.2.2.2.2.2.2.1) fun u16 =>
                  bnd (F_pack_Writer_Text.f n (u16.1.1, u16.1.2) r.2.2.2.2.2.2.2.2.2.2.2.2.2.2.2.2.2.1.2.1) fun u17 =>
                  bnd (F_pack_Writer_Num.f n (u17.1.1, u17.1.2) r.2.2.2.2.2.2.2.2.2.2.2.2.2.2.2.2.2.1.2.2.1) fun u18 =>
                  bnd (F_pack_Writer_Num.f n (u18.1.1, u18.1.2) (IntKind.u64.wrap r.2.2.2.2.2.2.2.2.2.2.2.2.2.2.2.2.2.2.1)) fun u19 =>
                  some ((u19.1.1, u19.1.2), ())
                  ) (
                  bIf ((hide (t7 == (16 : Int)))) (
                    bnd (F_pack_Writer_Text.f n (b500000.1, b500000.2) r.2.2.2.1) fun u20 =>
                    bnd (F_entry_Writer_Tags.f n (u20.1.1, u20.1.2) r.2.2.2.2.2.2.1) fun u21 =>
                    some ((u21.1.1, u21.1.2), ())
                    ) (
                    bIf ((hide (t7 == (17 : Int)))) (
                      bnd (F_pack_Writer_Num.f n (b500000.1, b500000.2) r.2.2.2.2.1) fun u22 =>
                      bnd (F_pack_Writer_Num.f n (u22.1.1, u22.1.2) (IntKind.u64.wrap r.2.2.2.2.2.2.2.2.2.2.2.2.1)) fun u23 =>
                      bnd (F_pack_Writer_Text.f n (u23.1.1, u23.1.2) (bytesOf r.2.2.2.2.2.1)) fun u24 =>
                      some ((u24.1.1, u24.1.2), ())
                      ) (
                      bIf ((hide (t7 == (18 : Int)))) (
                        bnd (F_pack_Writer_Num.f n (b500000.1, b500000.2) r.2.2.2.2.1) fun u25 =>
                        bnd (F_pack_Writer_Num.f n (u25.1.1, u25.1.2) (IntKind.u64.wrap ((r.2.2.2.2.2.2.2.2.2.2.2.2.2.1.length : Nat) : Int))) fun u26 =>
                        J3 n n (r.2.2.2.2.2.2.2.2.2.2.2.2.2.1, ((r.2.2.2.2.2.2.2.2.2.2.2.2.2.1.length : Nat) : Int), 0, (((), A.1.2), A.2), (u26.1.1, u26.1.2), ())
                        ) (
                        bIf ((hide (t7 == (19 : Int)))) (
                          bnd (F_pack_Writer_Num.f n (b500000.1, b500000.2) r.2.2.2.2.1) fun u27 =>
                          some ((u27.1.1, u27.1.2), ())
                          ) (
                          bIf ((hide (t7 == (20 : Int)))) (
                            bnd (F_pack_Writer_Text.f n (b500000.1, b500000.2) r.2.2.2.1) fun u28 =>
                            bnd (F_pack_Writer_Text.f n (u28.1.1, u28.1.2) r.2.2.2.2.2.2.2.2.2.2.2.2.2.2.2.2.2.1.1) fun u29 =>
                            bnd (F_pack_Writer_Text.f n (u29.1.1, u29.1.2) r.2.2.2.2.2.2.2.2.2.2.2.2.2.2.2.2.2.1.2.1) fun u30 =>
                            bnd (F_pack_Writer_Num.f n (u30.1.1, u30.1.2) r.2.2.2.2.2.2.2.2.2.2.2.2.2.2.2.2.2.1.2.2.1) fun u31 =>
                            some ((u31.1.1, u31.1.2), ())
                            ) (
                            some ((b500000.1, b500000.2), ())
                            )
                          )
                        )
                      )
                    )
                  )
                )
              )
            )
          )
        )
      )
    ) := (hideF_eq _).trans (by kernel_rfl)
theorem e3 (n m : Nat) (t190 : List (Int)) (t191 : Int) (t192 : Int) (A : D_wire_reader) (b500000 : D_pack_Writer) : J3 n (m + 1) (t190, t191, t192, A, b500000, ()) =
  bIf ((hide (decide (t192 < t191)))) (
    gIf (0 ≤ t192 ∧ t192 < ((t190.length : Nat) : Int)) (
      bnd (F_pack_Writer_Int.f n (b500000.1, b500000.2) (List.getD t190 t192.toNat 0)) fun u1 =>
      J3 n m (t190, t191, (IntKind.i64.wrap (t192 + (1 : Int))), (((), A.1.2), A.2), (u1.1.1, u1.1.2), ())
      )
    ) (
    some ((b500000.1, b500000.2), ())
    ) := (hideF_eq _).trans (by kernel_rfl)
theorem phi (n : Nat) : ∀ e ∈ (X n).c.Φ, EntryOk Tryz.prog e := allE_cons (mkEntry_ok (F_pack_Writer_Num.ok n)) (allE_cons (mkEntry_ok (F_pack_Writer_Text.ok n)) (allE_cons (mkEntry_ok (F_pack_Writer_Flag.ok n)) (allE_cons (mkEntry_ok (F_pack_Writer_Int.ok n)) (allE_cons (mkEntry_ok (F_entry_Writer_Default.ok n)) (allE_cons (mkEntry_ok (F_entry_Writer_Rules.ok n)) (allE_cons (mkEntry_ok (F_entry_Writer_Grants.ok n)) (allE_cons (mkEntry_ok (F_entry_Writer_Lock.ok n)) (allE_cons (mkEntry_ok (F_entry_Writer_Tags.ok n)) (allE_cons (mkEntry_ok (F_wire_writer_key.ok n)) (allE_nil))))))))))
theorem ok (n : Nat) : FnOk Tryz.prog 98 ia io (fRun (X n) n T Tryz.f98 ia io) := tree_ok mixed tabIs (phi n) Tryz.func98 (by kernel_rfl) rfl
noncomputable def en (n : Nat) : Entry := mkEntry 98 ia io (fRun (X n) n T Tryz.f98 ia io)
end F_wire_writer_fields
end Go.Proofs.YtcpkhpboemfglaaGreatDoor

namespace Go.Proofs.YtcpkhpboemfglaaGreatDoor
open Go Go.Va Go.Proofs
namespace F_wire_Ask
abbrev ia : List Ai := [.dat T_api_Request]
abbrev io : List (Nat × Oi) := [(2, .dat (.slice (.int .u8))), (3, .dat (.int .i64))]
abbrev R : Type := DOut ia io
noncomputable def X (n : Nat) : Ctx := ⟨⟨tab, [F_entry_NewWriter.en n, F_pack_Writer_Num.en n, F_pack_Writer_Out.en n, F_pack_Writer_Text.en n, F_acts_Good.en n, F_wire_writer_fields.en n], 0, []⟩, 41, bnOf 0 ia⟩
abbrev g1 : List Si := [.ref 1 1 T_api_Request, .ref 4 4 T_wire_reader, .dat 27 .bool, .box 1 (.d T_api_Request), .box 4 (.p (.p (.al 1500000000008 T_pack_Writer) (.d .unit)) (.d .unit)), .box 1500000000008 (.p (.r 1600000000008000 (.int .u8)) (.d .unit))]
abbrev g2 : List Si := [.ref 1 1 T_api_Request, .ref 4 4 T_wire_reader, .box 1 (.d T_api_Request), .box 4 (.p (.p (.al 1500000000008 T_pack_Writer) (.d .unit)) (.d .unit)), .box 1500000000008 (.p (.r 1600000000008000 (.int .u8)) (.d .unit))]
noncomputable def T : CT := (.s .o (.s .o (.s .o (.s .o (.s (.s .o (.r g1 .o)) (.r g2 .o))))))
noncomputable def J1 (n : Nat) : Bool × D_api_Request × D_wire_reader × D_pack_Writer × Unit → Option R := jR (X n) n T (bodyOf Tryz.f31) (endK ia io) g1 [1, 1, 1, 1, 0, 1] []
noncomputable def J2 (n : Nat) : D_api_Request × D_wire_reader × D_pack_Writer × Unit → Option R := jR (X n) n T (bodyOf Tryz.f31) (endK ia io) g2 [1, 1, 1, 1, 1] []
noncomputable def f (n : Nat) (r : D_api_Request) : Option R := fRun (X n) n T Tryz.f31 ia io (r, ())
theorem e0 (n : Nat) (r : D_api_Request) : f n r =
  bnd (F_acts_Good.f n r) fun u1 =>
  bIf ((!u1.1)) (
    some ([], 2, ())
    ) (
    bnd (F_entry_NewWriter.f n) fun u2 =>
    bnd (F_pack_Writer_Num.f n (u2.1.1, u2.1.2) (IntKind.u64.wrap r.1)) fun u3 =>
    bnd (F_pack_Writer_Text.f n (u3.1.1, u3.1.2) r.2.1) fun u4 =>
    bIf ((hide (r.1 != (21 : Int)))) (
      J1 n ((hide (r.1 != (22 : Int))), r, (((), ()), ()), (u4.1.1, u4.1.2), ())
      ) (
      J1 n (false, r, (((), ()), ()), (u4.1.1, u4.1.2), ())
      )
    ) := (hideF_eq _).trans (by kernel_rfl)
theorem e1 (n : Nat) (t27 : Bool) (r : D_api_Request) (w_ : D_wire_reader) (b1500000000008 : D_pack_Writer) : J1 n (t27, r, w_, b1500000000008, ()) =
  bIf (t27) (
    bnd (F_pack_Writer_Text.f n (b1500000000008.1, b1500000000008.2) r.2.2.1) fun u1 =>
    J2 n (r, (((), w_.1.2), w_.2), (u1.1.1, u1.1.2), ())
    ) (
    J2 n (r, (((), w_.1.2), w_.2), (b1500000000008.1, b1500000000008.2), ())
    ) := (hideF_eq _).trans (by kernel_rfl)
theorem e2 (n : Nat) (r : D_api_Request) (w_ : D_wire_reader) (b1500000000008 : D_pack_Writer) : J2 n (r, w_, b1500000000008, ()) =
  bnd (F_wire_writer_fields.f n (b1500000000008.1, b1500000000008.2) r) fun u1 =>
  bnd (F_pack_Writer_Out.f n (u1.1.1, u1.1.2)) fun u2 =>
  some (u2.1, 0, ()) := (hideF_eq _).trans (by kernel_rfl)
theorem phi (n : Nat) : ∀ e ∈ (X n).c.Φ, EntryOk Tryz.prog e := allE_cons (mkEntry_ok (F_entry_NewWriter.ok n)) (allE_cons (mkEntry_ok (F_pack_Writer_Num.ok n)) (allE_cons (mkEntry_ok (F_pack_Writer_Out.ok n)) (allE_cons (mkEntry_ok (F_pack_Writer_Text.ok n)) (allE_cons (mkEntry_ok (F_acts_Good.ok n)) (allE_cons (mkEntry_ok (F_wire_writer_fields.ok n)) (allE_nil))))))
theorem ok (n : Nat) : FnOk Tryz.prog 31 ia io (fRun (X n) n T Tryz.f31 ia io) := tree_ok mixed tabIs (phi n) Tryz.func31 (by kernel_rfl) rfl
noncomputable def en (n : Nat) : Entry := mkEntry 31 ia io (fRun (X n) n T Tryz.f31 ia io)
end F_wire_Ask
end Go.Proofs.YtcpkhpboemfglaaGreatDoor

namespace Go.Proofs.YtcpkhpboemfglaaGreatDoor
open Go Go.Va Go.Proofs
namespace F_pack_Read
abbrev ia : List Ai := [.dat (.slice (.int .u8))]
abbrev io : List (Nat × Oi) := [(2, .new 0 (.d T_pack_Reader))]
abbrev R : Type := DOut ia io
noncomputable def X (n : Nat) : Ctx := ⟨⟨tab, [F_slices_Clone_byte.en n], 0, []⟩, 7, bnOf 0 ia⟩
noncomputable def T : CT := .o
noncomputable def f (n : Nat) (b : List (Int)) : Option R := fRun (X n) n T Tryz.f137 ia io (b, ())
theorem e0 (n : Nat) (b : List (Int)) : f n b =
  bnd (F_slices_Clone_byte.f n b) fun u1 =>
  some ((u1.1, (0, ())), ()) := (hideF_eq _).trans (by kernel_rfl)
theorem phi (n : Nat) : ∀ e ∈ (X n).c.Φ, EntryOk Tryz.prog e := allE_cons (mkEntry_ok (F_slices_Clone_byte.ok n)) (allE_nil)
theorem ok (n : Nat) : FnOk Tryz.prog 137 ia io (fRun (X n) n T Tryz.f137 ia io) := tree_ok mixed tabIs (phi n) Tryz.func137 (by kernel_rfl) rfl
noncomputable def en (n : Nat) : Entry := mkEntry 137 ia io (fRun (X n) n T Tryz.f137 ia io)
end F_pack_Read
end Go.Proofs.YtcpkhpboemfglaaGreatDoor

namespace Go.Proofs.YtcpkhpboemfglaaGreatDoor
open Go Go.Va Go.Proofs
namespace F_entry_NewReader
abbrev ia : List Ai := [.dat (.slice (.int .u8))]
abbrev io : List (Nat × Oi) := [(2, .newc 1 (.d T_pack_Reader))]
abbrev R : Type := DOut ia io
noncomputable def X (n : Nat) : Ctx := ⟨⟨tab, [F_pack_Read.en n], 0, []⟩, 6, bnOf 0 ia⟩
noncomputable def T : CT := .o
noncomputable def f (n : Nat) (b : List (Int)) : Option R := fRun (X n) n T Tryz.f65 ia io (b, ())
theorem e0 (n : Nat) (b : List (Int)) : f n b =
  bnd (F_pack_Read.f n b) fun u1 =>
  some (u1.1, ()) := (hideF_eq _).trans (by kernel_rfl)
theorem phi (n : Nat) : ∀ e ∈ (X n).c.Φ, EntryOk Tryz.prog e := allE_cons (mkEntry_ok (F_pack_Read.ok n)) (allE_nil)
theorem ok (n : Nat) : FnOk Tryz.prog 65 ia io (fRun (X n) n T Tryz.f65 ia io) := tree_ok mixed tabIs (phi n) Tryz.func65 (by kernel_rfl) rfl
noncomputable def en (n : Nat) : Entry := mkEntry 65 ia io (fRun (X n) n T Tryz.f65 ia io)
end F_entry_NewReader
end Go.Proofs.YtcpkhpboemfglaaGreatDoor

namespace Go.Proofs.YtcpkhpboemfglaaGreatDoor
open Go Go.Va Go.Proofs
namespace F_entry_Reader_Default
abbrev ia : List Ai := [.fn (.str 1) [(.d T_pack_Reader)]]
abbrev io : List (Nat × Oi) := [(2, .cel (.d T_api_Default))]
abbrev R : Type := DOut ia io
noncomputable def X (n : Nat) : Ctx := ⟨⟨tab, [F_entry_Reader_Small.en n], 0, []⟩, 11, bnOf 0 ia⟩
noncomputable def T : CT := .o
noncomputable def f (n : Nat) (rc0 : D_pack_Reader) : Option R := fRun (X n) n T Tryz.f141 ia io (rc0, ())
theorem e0 (n : Nat) (rc0 : D_pack_Reader) : f n rc0 =
  bnd (F_entry_Reader_Small.f n rc0) fun u1 =>
  bnd (F_entry_Reader_Small.f n u1.2.1) fun u2 =>
  some ((u1.1, (u2.1, ())), u2.2.1, ()) := (hideF_eq _).trans (by kernel_rfl)
theorem phi (n : Nat) : ∀ e ∈ (X n).c.Φ, EntryOk Tryz.prog e := allE_cons (mkEntry_ok (F_entry_Reader_Small.ok n)) (allE_nil)
theorem ok (n : Nat) : FnOk Tryz.prog 141 ia io (fRun (X n) n T Tryz.f141 ia io) := tree_ok mixed tabIs (phi n) Tryz.func141 (by kernel_rfl) rfl
noncomputable def en (n : Nat) : Entry := mkEntry 141 ia io (fRun (X n) n T Tryz.f141 ia io)
end F_entry_Reader_Default
end Go.Proofs.YtcpkhpboemfglaaGreatDoor

namespace Go.Proofs.YtcpkhpboemfglaaGreatDoor
open Go Go.Va Go.Proofs
namespace F_entry_Reader_Grants
abbrev ia : List Ai := [.fn (.str 1) [(.d T_pack_Reader)]]
abbrev io : List (Nat × Oi) := [(2, .val (.r 0 T_api_Grant))]
abbrev R : Type := DOut ia io
noncomputable def X (n : Nat) : Ctx := ⟨⟨tab, [F_pack_Reader_Count.en n, F_pack_Reader_Text.en n, F_pack_Reader_Flag.en n], 0, []⟩, 32, bnOf 0 ia⟩
abbrev g1 : List Si := [.ref 1 1 T_entry_Reader, .val 3 (.r 200300 T_api_Grant), .dat 7 (.int .i64), .dat 8 (.int .i64), .box 1 (.p (.al 500000 T_pack_Reader) (.d .unit)), .box 500000 (.d T_pack_Reader)]
abbrev g2 : List Si := [.val 3 (.r 200300 T_api_Grant), .box 500000 (.d T_pack_Reader)]
noncomputable def T : CT := (.s .o (.s .o (.s (.s .o (.b (.l g1 .o))) (.r g2 .o))))
noncomputable def J1 (n : Nat) (m : Nat) : (List (D_api_Grant)) × Int × Int × D_entry_Reader × D_pack_Reader × Unit → Option R := jL (X n) n T (bodyOf Tryz.f143) (endK ia io) g1 [1, 1, 0, 1, 0] [] m
noncomputable def J2 (n : Nat) : (List (D_api_Grant)) × D_pack_Reader × Unit → Option R := jR (X n) n T (bodyOf Tryz.f143) (endK ia io) g2 [1, 1, 1] []
noncomputable def f (n : Nat) (rc0 : D_pack_Reader) : Option R := fRun (X n) n T Tryz.f143 ia io (rc0, ())
theorem e0 (n : Nat) (rc0 : D_pack_Reader) : f n rc0 =
  bnd (F_pack_Reader_Count.f n rc0 8) fun u1 =>
  J1 n n ([], u1.1, 0, ((), ()), u1.2.1, ()) := (hideF_eq _).trans (by kernel_rfl)
theorem e1 (n m : Nat) (out : List (D_api_Grant)) (t7 : Int) (t8 : Int) (r : D_entry_Reader) (b500000 : D_pack_Reader) : J1 n (m + 1) (out, t7, t8, r, b500000, ()) =
  bIf ((hide (decide (t8 < t7)))) (
    bnd (F_pack_Reader_Flag.f n b500000) fun u1 =>
    bnd (F_pack_Reader_Text.f n u1.2.1) fun u2 =>
    bnd (F_pack_Reader_Text.f n u2.2.1) fun u3 =>
    bnd (F_pack_Reader_Text.f n u3.2.1) fun u4 =>
    gIf ((out.length + 1) * 56 ≤ 70368744177664) (
      J1 n m ((out ++ ([(u1.1, (u2.1, (u3.1, (u4.1, ()))))] : List (D_api_Grant))), t7, (IntKind.i64.wrap (t8 + (1 : Int))), ((), r.2), u4.2.1, ())
      )
    ) (
    J2 n (out, b500000, ())
    ) := (hideF_eq _).trans (by kernel_rfl)
theorem e2 (n : Nat) (out : List (D_api_Grant)) (b500000 : D_pack_Reader) : J2 n (out, b500000, ()) =
  some (out, b500000, ()) := (hideF_eq _).trans (by kernel_rfl)
theorem phi (n : Nat) : ∀ e ∈ (X n).c.Φ, EntryOk Tryz.prog e := allE_cons (mkEntry_ok (F_pack_Reader_Count.ok n)) (allE_cons (mkEntry_ok (F_pack_Reader_Text.ok n)) (allE_cons (mkEntry_ok (F_pack_Reader_Flag.ok n)) (allE_nil)))
theorem ok (n : Nat) : FnOk Tryz.prog 143 ia io (fRun (X n) n T Tryz.f143 ia io) := tree_ok mixed tabIs (phi n) Tryz.func143 (by kernel_rfl) rfl
noncomputable def en (n : Nat) : Entry := mkEntry 143 ia io (fRun (X n) n T Tryz.f143 ia io)
end F_entry_Reader_Grants
end Go.Proofs.YtcpkhpboemfglaaGreatDoor

namespace Go.Proofs.YtcpkhpboemfglaaGreatDoor
open Go Go.Va Go.Proofs
namespace F_entry_Reader_Rules
abbrev ia : List Ai := [.fn (.str 1) [(.d T_pack_Reader)]]
abbrev io : List (Nat × Oi) := [(2, .val (.r 0 T_api_Rule))]
abbrev R : Type := DOut ia io
noncomputable def X (n : Nat) : Ctx := ⟨⟨tab, [F_pack_Reader_Count.en n, F_entry_Reader_Small.en n, F_pack_Reader_Text.en n, F_entry_Reader_Tags.en n, F_pack_Reader_Flag.en n], 0, []⟩, 33, bnOf 0 ia⟩
abbrev g1 : List Si := [.ref 1 1 T_entry_Reader, .val 3 (.r 200300 T_api_Rule), .dat 7 (.int .i64), .dat 8 (.int .i64), .box 1 (.p (.al 500000 T_pack_Reader) (.d .unit)), .box 500000 (.d T_pack_Reader)]
abbrev g2 : List Si := [.val 3 (.r 200300 T_api_Rule), .box 500000 (.d T_pack_Reader)]
noncomputable def T : CT := (.s .o (.s .o (.s (.s .o (.b (.l g1 .o))) (.r g2 .o))))
noncomputable def J1 (n : Nat) (m : Nat) : (List (D_api_Rule)) × Int × Int × D_entry_Reader × D_pack_Reader × Unit → Option R := jL (X n) n T (bodyOf Tryz.f142) (endK ia io) g1 [1, 1, 0, 1, 0] [] m
noncomputable def J2 (n : Nat) : (List (D_api_Rule)) × D_pack_Reader × Unit → Option R := jR (X n) n T (bodyOf Tryz.f142) (endK ia io) g2 [1, 1, 1] []
noncomputable def f (n : Nat) (rc0 : D_pack_Reader) : Option R := fRun (X n) n T Tryz.f142 ia io (rc0, ())
theorem e0 (n : Nat) (rc0 : D_pack_Reader) : f n rc0 =
  bnd (F_pack_Reader_Count.f n rc0 8) fun u1 =>
  J1 n n ([], u1.1, 0, ((), ()), u1.2.1, ()) := (hideF_eq _).trans (by kernel_rfl)
theorem e1 (n m : Nat) (out : List (D_api_Rule)) (t7 : Int) (t8 : Int) (r : D_entry_Reader) (b500000 : D_pack_Reader) : J1 n (m + 1) (out, t7, t8, r, b500000, ()) =
  bIf ((hide (decide (t8 < t7)))) (
    bnd (F_pack_Reader_Text.f n b500000) fun u1 =>
    bnd (F_entry_Reader_Tags.f n u1.2.1) fun u2 =>
    bnd (F_entry_Reader_Small.f n u2.2.1) fun u3 =>
    bnd (F_entry_Reader_Small.f n u3.2.1) fun u4 =>
    bnd (F_pack_Reader_Flag.f n u4.2.1) fun u5 =>
    gIf ((out.length + 1) * 64 ≤ 70368744177664) (
      J1 n m ((out ++ ([(u1.1, (u2.1, (u3.1, (u4.1, (u5.1, ())))))] : List (D_api_Rule))), t7, (IntKind.i64.wrap (t8 + (1 : Int))), ((), r.2), u5.2.1, ())
      )
    ) (
    J2 n (out, b500000, ())
    ) := (hideF_eq _).trans (by kernel_rfl)
theorem e2 (n : Nat) (out : List (D_api_Rule)) (b500000 : D_pack_Reader) : J2 n (out, b500000, ()) =
  some (out, b500000, ()) := (hideF_eq _).trans (by kernel_rfl)
theorem phi (n : Nat) : ∀ e ∈ (X n).c.Φ, EntryOk Tryz.prog e := allE_cons (mkEntry_ok (F_pack_Reader_Count.ok n)) (allE_cons (mkEntry_ok (F_entry_Reader_Small.ok n)) (allE_cons (mkEntry_ok (F_pack_Reader_Text.ok n)) (allE_cons (mkEntry_ok (F_entry_Reader_Tags.ok n)) (allE_cons (mkEntry_ok (F_pack_Reader_Flag.ok n)) (allE_nil)))))
theorem ok (n : Nat) : FnOk Tryz.prog 142 ia io (fRun (X n) n T Tryz.f142 ia io) := tree_ok mixed tabIs (phi n) Tryz.func142 (by kernel_rfl) rfl
noncomputable def en (n : Nat) : Entry := mkEntry 142 ia io (fRun (X n) n T Tryz.f142 ia io)
end F_entry_Reader_Rules
end Go.Proofs.YtcpkhpboemfglaaGreatDoor

namespace Go.Proofs.YtcpkhpboemfglaaGreatDoor
open Go Go.Va Go.Proofs
namespace F_wire_reader_body
abbrev ia : List Ai := [.fn (.str 2) [(.d T_pack_Reader)]]
abbrev io : List (Nat × Oi) := [(2, .val (.r 0 (.int .u8)))]
abbrev R : Type := DOut ia io
noncomputable def X (n : Nat) : Ctx := ⟨⟨tab, [F_pack_Reader_Text.en n], 0, []⟩, 12, bnOf 0 ia⟩
noncomputable def T : CT := .o
noncomputable def f (n : Nat) (rc0 : D_pack_Reader) : Option R := fRun (X n) n T Tryz.f150 ia io (rc0, ())
theorem e0 (n : Nat) (rc0 : D_pack_Reader) : f n rc0 =
  bnd (F_pack_Reader_Text.f n rc0) fun u1 =>
  bIf ((hide (!eqS u1.1 (⟨#[]⟩ : ByteArray)))) (
    some ((ofBytes u1.1), u1.2.1, ())
    ) (
    some ([], u1.2.1, ())
    ) := (hideF_eq _).trans (by kernel_rfl)
theorem phi (n : Nat) : ∀ e ∈ (X n).c.Φ, EntryOk Tryz.prog e := allE_cons (mkEntry_ok (F_pack_Reader_Text.ok n)) (allE_nil)
theorem ok (n : Nat) : FnOk Tryz.prog 150 ia io (fRun (X n) n T Tryz.f150 ia io) := tree_ok mixed tabIs (phi n) Tryz.func150 (by kernel_rfl) rfl
noncomputable def en (n : Nat) : Entry := mkEntry 150 ia io (fRun (X n) n T Tryz.f150 ia io)
end F_wire_reader_body
end Go.Proofs.YtcpkhpboemfglaaGreatDoor

namespace Go.Proofs.YtcpkhpboemfglaaGreatDoor
open Go Go.Va Go.Proofs
namespace F_wire_reader_list
abbrev ia : List Ai := [.fn (.str 2) [(.d T_pack_Reader)], .ptr (.p (.d (.int .i64)) (.p (.d .str) (.p (.d .str) (.p (.d .str) (.p (.d (.int .u64)) (.p (.r 0 (.int .u8)) (.p (.r 0 T_api_Tag) (.p (.d T_api_Lock) (.p (.d .bool) (.p (.d T_api_Default) (.p (.r 0 T_api_Rule) (.p (.r 0 T_api_Grant) (.p (.d (.int .i64)) (.p (.r 0 (.int .i64)) (.d (.pair .str (.pair .str (.pair .str (.pair T_api_Spot (.pair (.int .i64) .unit))))))))))))))))))))]
abbrev io : List (Nat × Oi) := []
abbrev R : Type := DOut ia io
noncomputable def X (n : Nat) : Ctx := ⟨⟨tab, [F_entry_Reader_Small.en n, F_pack_Reader_Text.en n, F_pack_Reader_Num.en n], 0, []⟩, 52, bnOf 0 ia⟩
abbrev g1 : List Si := [.ref 1 502000 T_api_Request, .ref 2 2 T_wire_reader, .box 2 (.p (.p (.al 500000 T_pack_Reader) (.d .unit)) (.d .unit)), .box 500000 (.d T_pack_Reader), .box 502000 (.p (.d (.int .i64)) (.p (.d .str) (.p (.d .str) (.p (.d .str) (.p (.d (.int .u64)) (.p (.r 100000502000000 (.int .u8)) (.p (.r 100000502000001 T_api_Tag) (.p (.d T_api_Lock) (.p (.d .bool) (.p (.d T_api_Default) (.p (.r 100000502000002 T_api_Rule) (.p (.r 100000502000003 T_api_Grant) (.p (.d (.int .i64)) (.p (.r 100000502000004 (.int .i64)) (.d (.pair .str (.pair .str (.pair .str (.pair T_api_Spot (.pair (.int .i64) .unit))))))))))))))))))))]
noncomputable def T : CT := (.s .o (.s .o (.s .o (.r g1 .o))))
noncomputable def J1 (n : Nat) : D_wire_reader × D_pack_Reader × D_api_Request × Unit → Option R := jR (X n) n T (bodyOf Tryz.f152) (endK ia io) g1 [1, 1, 1] []
noncomputable def f (n : Nat) (rc0 : D_pack_Reader) (out : D_api_Request) : Option R := fRun (X n) n T Tryz.f152 ia io (rc0, out, ())
theorem e0 (n : Nat) (rc0 : D_pack_Reader) (out : D_api_Request) : f n rc0 out =
  bnd (F_pack_Reader_Text.f n rc0) fun u1 =>
  bIf ((hide (out.1 == (14 : Int)))) (
    bnd (F_pack_Reader_Text.f n u1.2.1) fun u2 =>
    bnd (F_pack_Reader_Text.f n u2.2.1) fun u3 =>
    J1 n ((((), ()), ()), u3.2.1, (out.1, (out.2.1, (out.2.2.1, (out.2.2.2.1, (out.2.2.2.2.1, (out.2.2.2.2.2.1, (out.2.2.2.2.2.2.1, (out.2.2.2.2.2.2.2.1, (out.2.2.2.2.2.2.2.2.1, (out.2.2.2.2.2.2.2.2.2.1, (out.2.2.2.2.2.2.2.2.2.2.1, (out.2.2.2.2.2.2.2.2.2.2.2.1, (out.2.2.2.2.2.2.2.2.2.2.2.2.1, (out.2.2.2.2.2.2.2.2.2.2.2.2.2.1, (u3.1, (u1.1, (u2.1, out.2.2.2.2.2.2.2.2.2.2.2.2.2.2.2.2.2))))))))))))))))), ())
    ) (
    bnd (F_pack_Reader_Text.f n u1.2.1) fun u4 =>
    bnd (F_pack_Reader_Num.f n u4.2.1) fun u5 =>
    J1 n ((((), ()), ()), u5.2.1, (out.1, (out.2.1, (out.2.2.1, (out.2.2.2.1, (out.2.2.2.2.1, (out.2.2.2.2.2.1, (out.2.2.2.2.2.2.1, (out.2.2.2.2.2.2.2.1, (out.2.2.2.2.2.2.2.2.1, (out.2.2.2.2.2.2.2.2.2.1, (out.2.2.2.2.2.2.2.2.2.2.1, (out.2.2.2.2.2.2.2.2.2.2.2.1, (out.2.2.2.2.2.2.2.2.2.2.2.2.1, (out.2.2.2.2.2.2.2.2.2.2.2.2.2.1, (out.2.2.2.2.2.2.2.2.2.2.2.2.2.2.1, (u1.1, (out.2.2.2.2.2.2.2.2.2.2.2.2.2.2.2.2.1, ((out.2.2.2.2.2.2.2.2.2.2.2.2.2.2.2.2.2.1.1, (u4.1, (u5.1, out.2.2.2.2.2.2.2.2.2.2.2.2.2.2.2.2.2.1.2.2.2))), out.2.2.2.2.2.2.2.2.2.2.2.2.2.2.2.2.2.2)))))))))))))))))), ())
    ) := (hideF_eq _).trans (by kernel_rfl)
theorem e1 (n : Nat) (r : D_wire_reader) (b500000 : D_pack_Reader) (out : D_api_Request) : J1 n (r, b500000, out, ()) =
  bnd (F_entry_Reader_Small.f n b500000) fun u1 =>
  some (u1.2.1, (out.1, (out.2.1, (out.2.2.1, (out.2.2.2.1, (out.2.2.2.2.1, (out.2.2.2.2.2.1, (out.2.2.2.2.2.2.1, (out.2.2.2.2.2.2.2.1, (out.2.2.2.2.2.2.2.2.1, (out.2.2.2.2.2.2.2.2.2.1, (out.2.2.2.2.2.2.2.2.2.2.1, (out.2.2.2.2.2.2.2.2.2.2.2.1, (out.2.2.2.2.2.2.2.2.2.2.2.2.1, (out.2.2.2.2.2.2.2.2.2.2.2.2.2.1, (out.2.2.2.2.2.2.2.2.2.2.2.2.2.2.1, (out.2.2.2.2.2.2.2.2.2.2.2.2.2.2.2.1, (out.2.2.2.2.2.2.2.2.2.2.2.2.2.2.2.2.1, (out.2.2.2.2.2.2.2.2.2.2.2.2.2.2.2.2.2.1, (u1.1, out.2.2.2.2.2.2.2.2.2.2.2.2.2.2.2.2.2.2.2))))))))))))))))))), ()) := (hideF_eq _).trans (by kernel_rfl)
theorem phi (n : Nat) : ∀ e ∈ (X n).c.Φ, EntryOk Tryz.prog e := allE_cons (mkEntry_ok (F_entry_Reader_Small.ok n)) (allE_cons (mkEntry_ok (F_pack_Reader_Text.ok n)) (allE_cons (mkEntry_ok (F_pack_Reader_Num.ok n)) (allE_nil)))
theorem ok (n : Nat) : FnOk Tryz.prog 152 ia io (fRun (X n) n T Tryz.f152 ia io) := tree_ok mixed tabIs (phi n) Tryz.func152 (by kernel_rfl) rfl
noncomputable def en (n : Nat) : Entry := mkEntry 152 ia io (fRun (X n) n T Tryz.f152 ia io)
end F_wire_reader_list
end Go.Proofs.YtcpkhpboemfglaaGreatDoor

namespace Go.Proofs.YtcpkhpboemfglaaGreatDoor
open Go Go.Va Go.Proofs
namespace F_wire_reader_numbers
abbrev ia : List Ai := [.fn (.str 2) [(.d T_pack_Reader)]]
abbrev io : List (Nat × Oi) := [(2, .val (.r 0 (.int .i64)))]
abbrev R : Type := DOut ia io
noncomputable def X (n : Nat) : Ctx := ⟨⟨tab, [F_pack_Reader_Count.en n, F_pack_Reader_Int.en n], 0, []⟩, 19, bnOf 0 ia⟩
abbrev g1 : List Si := [.ref 1 1 T_wire_reader, .val 3 (.r 200300 (.int .i64)), .dat 7 (.int .i64), .dat 8 (.int .i64), .box 1 (.p (.p (.al 500000 T_pack_Reader) (.d .unit)) (.d .unit)), .box 500000 (.d T_pack_Reader)]
abbrev g2 : List Si := [.val 3 (.r 200300 (.int .i64)), .box 500000 (.d T_pack_Reader)]
noncomputable def T : CT := (.s .o (.s .o (.s (.s .o (.b (.l g1 .o))) (.r g2 .o))))
noncomputable def J1 (n : Nat) (m : Nat) : (List (Int)) × Int × Int × D_wire_reader × D_pack_Reader × Unit → Option R := jL (X n) n T (bodyOf Tryz.f153) (endK ia io) g1 [1, 1, 0, 1, 0] [] m
noncomputable def J2 (n : Nat) : (List (Int)) × D_pack_Reader × Unit → Option R := jR (X n) n T (bodyOf Tryz.f153) (endK ia io) g2 [1, 1, 1] []
noncomputable def f (n : Nat) (rc0 : D_pack_Reader) : Option R := fRun (X n) n T Tryz.f153 ia io (rc0, ())
theorem e0 (n : Nat) (rc0 : D_pack_Reader) : f n rc0 =
  bnd (F_pack_Reader_Count.f n rc0 16) fun u1 =>
  J1 n n ([], u1.1, 0, (((), ()), ()), u1.2.1, ()) := (hideF_eq _).trans (by kernel_rfl)
theorem e1 (n m : Nat) (out : List (Int)) (t7 : Int) (t8 : Int) (r : D_wire_reader) (b500000 : D_pack_Reader) : J1 n (m + 1) (out, t7, t8, r, b500000, ()) =
  bIf ((hide (decide (t8 < t7)))) (
    bnd (F_pack_Reader_Int.f n b500000) fun u1 =>
    gIf ((out.length + 1) * 8 ≤ 70368744177664) (
      J1 n m ((out ++ ([u1.1] : List (Int))), t7, (IntKind.i64.wrap (t8 + (1 : Int))), (((), r.1.2), r.2), u1.2.1, ())
      )
    ) (
    J2 n (out, b500000, ())
    ) := (hideF_eq _).trans (by kernel_rfl)
theorem e2 (n : Nat) (out : List (Int)) (b500000 : D_pack_Reader) : J2 n (out, b500000, ()) =
  some (out, b500000, ()) := (hideF_eq _).trans (by kernel_rfl)
theorem phi (n : Nat) : ∀ e ∈ (X n).c.Φ, EntryOk Tryz.prog e := allE_cons (mkEntry_ok (F_pack_Reader_Count.ok n)) (allE_cons (mkEntry_ok (F_pack_Reader_Int.ok n)) (allE_nil))
theorem ok (n : Nat) : FnOk Tryz.prog 153 ia io (fRun (X n) n T Tryz.f153 ia io) := tree_ok mixed tabIs (phi n) Tryz.func153 (by kernel_rfl) rfl
noncomputable def en (n : Nat) : Entry := mkEntry 153 ia io (fRun (X n) n T Tryz.f153 ia io)
end F_wire_reader_numbers
end Go.Proofs.YtcpkhpboemfglaaGreatDoor

namespace Go.Proofs.YtcpkhpboemfglaaGreatDoor
open Go Go.Va Go.Proofs
namespace F_wire_reader_key
abbrev ia : List Ai := [.fn (.str 2) [(.d T_pack_Reader)], .ptr (.p (.d (.int .i64)) (.p (.d .str) (.p (.d .str) (.p (.d .str) (.p (.d (.int .u64)) (.p (.r 0 (.int .u8)) (.p (.r 0 T_api_Tag) (.p (.d T_api_Lock) (.p (.d .bool) (.p (.d T_api_Default) (.p (.r 0 T_api_Rule) (.p (.r 0 T_api_Grant) (.p (.d (.int .i64)) (.p (.r 0 (.int .i64)) (.d (.pair .str (.pair .str (.pair .str (.pair T_api_Spot (.pair (.int .i64) .unit))))))))))))))))))))]
abbrev io : List (Nat × Oi) := []
abbrev R : Type := DOut ia io
noncomputable def X (n : Nat) : Ctx := ⟨⟨tab, [F_pack_Reader_Text.en n, F_pack_Reader_Num.en n], 0, []⟩, 18, bnOf 0 ia⟩
noncomputable def T : CT := .o
noncomputable def f (n : Nat) (rc0 : D_pack_Reader) (out : D_api_Request) : Option R := fRun (X n) n T Tryz.f188 ia io (rc0, out, ())
theorem e0 (n : Nat) (rc0 : D_pack_Reader) (out : D_api_Request) : f n rc0 out =
  bnd (F_pack_Reader_Text.f n rc0) fun u1 =>
  bnd (F_pack_Reader_Num.f n u1.2.1) fun u2 =>
  some (u2.2.1, (out.1, (out.2.1, (out.2.2.1, (u1.1, (u2.1, (out.2.2.2.2.2.1, (out.2.2.2.2.2.2.1, (out.2.2.2.2.2.2.2.1, (out.2.2.2.2.2.2.2.2.1, (out.2.2.2.2.2.2.2.2.2.1, (out.2.2.2.2.2.2.2.2.2.2.1, (out.2.2.2.2.2.2.2.2.2.2.2.1, (out.2.2.2.2.2.2.2.2.2.2.2.2.1, (out.2.2.2.2.2.2.2.2.2.2.2.2.2.1, out.2.2.2.2.2.2.2.2.2.2.2.2.2.2)))))))))))))), ()) := (hideF_eq _).trans (by kernel_rfl)
theorem phi (n : Nat) : ∀ e ∈ (X n).c.Φ, EntryOk Tryz.prog e := allE_cons (mkEntry_ok (F_pack_Reader_Text.ok n)) (allE_cons (mkEntry_ok (F_pack_Reader_Num.ok n)) (allE_nil))
theorem ok (n : Nat) : FnOk Tryz.prog 188 ia io (fRun (X n) n T Tryz.f188 ia io) := tree_ok mixed tabIs (phi n) Tryz.func188 (by kernel_rfl) rfl
noncomputable def en (n : Nat) : Entry := mkEntry 188 ia io (fRun (X n) n T Tryz.f188 ia io)
end F_wire_reader_key
end Go.Proofs.YtcpkhpboemfglaaGreatDoor

namespace Go.Proofs.YtcpkhpboemfglaaGreatDoor
open Go Go.Va Go.Proofs
namespace F_wire_reader_version
abbrev ia : List Ai := [.fn (.str 2) [(.d T_pack_Reader)], .ptr (.p (.d (.int .i64)) (.p (.d .str) (.p (.d .str) (.p (.d .str) (.p (.d (.int .u64)) (.p (.r 0 (.int .u8)) (.p (.r 0 T_api_Tag) (.p (.d T_api_Lock) (.p (.d .bool) (.p (.d T_api_Default) (.p (.r 0 T_api_Rule) (.p (.r 0 T_api_Grant) (.p (.d (.int .i64)) (.p (.r 0 (.int .i64)) (.d (.pair .str (.pair .str (.pair .str (.pair T_api_Spot (.pair (.int .i64) .unit))))))))))))))))))))]
abbrev io : List (Nat × Oi) := []
abbrev R : Type := DOut ia io
noncomputable def X (n : Nat) : Ctx := ⟨⟨tab, [F_entry_Reader_Lock.en n, F_entry_Reader_Tags.en n, F_pack_Reader_Flag.en n, F_wire_reader_key.en n], 0, []⟩, 51, bnOf 0 ia⟩
noncomputable def T : CT := .o
noncomputable def f (n : Nat) (rc0 : D_pack_Reader) (out : D_api_Request) : Option R := fRun (X n) n T Tryz.f151 ia io (rc0, out, ())
theorem e0 (n : Nat) (rc0 : D_pack_Reader) (out : D_api_Request) : f n rc0 out =
  bnd (F_wire_reader_key.f n rc0 (out.1, (out.2.1, (out.2.2.1, (out.2.2.2.1, (out.2.2.2.2.1, (out.2.2.2.2.2.1, (out.2.2.2.2.2.2.1, (out.2.2.2.2.2.2.2.1, (out.2.2.2.2.2.2.2.2.1, (out.2.2.2.2.2.2.2.2.2.1, (out.2.2.2.2.2.2.2.2.2.2.1, (out.2.2.2.2.2.2.2.2.2.2.2.1, (out.2.2.2.2.2.2.2.2.2.2.2.2.1, (out.2.2.2.2.2.2.2.2.2.2.2.2.2.1, out.2.2.2.2.2.2.2.2.2.2.2.2.2.2))))))))))))))) fun u1 =>
  bIf ((hide (u1.2.1.1 == (10 : Int)))) (
    bnd (F_pack_Reader_Flag.f n u1.1) fun u2 =>
    some (u2.2.1, (u1.2.1.1, (u1.2.1.2.1, (u1.2.1.2.2.1, (u1.2.1.2.2.2.1, (u1.2.1.2.2.2.2.1, (u1.2.1.2.2.2.2.2.1, (u1.2.1.2.2.2.2.2.2.1, (u1.2.1.2.2.2.2.2.2.2.1, (u2.1, (u1.2.1.2.2.2.2.2.2.2.2.2.1, (u1.2.1.2.2.2.2.2.2.2.2.2.2.1, (u1.2.1.2.2.2.2.2.2.2.2.2.2.2.1, (u1.2.1.2.2.2.2.2.2.2.2.2.2.2.2.1, (u1.2.1.2.2.2.2.2.2.2.2.2.2.2.2.2.1, u1.2.1.2.2.2.2.2.2.2.2.2.2.2.2.2.2)))))))))))))), ())
    ) (
    bIf ((hide (u1.2.1.1 == (11 : Int)))) (
      bnd (F_entry_Reader_Lock.f n u1.1) fun u3 =>
      bnd (F_pack_Reader_Flag.f n u3.2.1) fun u4 =>
      some (u4.2.1, (u1.2.1.1, (u1.2.1.2.1, (u1.2.1.2.2.1, (u1.2.1.2.2.2.1, (u1.2.1.2.2.2.2.1, (u1.2.1.2.2.2.2.2.1, (u1.2.1.2.2.2.2.2.2.1, (u3.1, (u4.1, (u1.2.1.2.2.2.2.2.2.2.2.2.1, (u1.2.1.2.2.2.2.2.2.2.2.2.2.1, (u1.2.1.2.2.2.2.2.2.2.2.2.2.2.1, (u1.2.1.2.2.2.2.2.2.2.2.2.2.2.2.1, (u1.2.1.2.2.2.2.2.2.2.2.2.2.2.2.2.1, u1.2.1.2.2.2.2.2.2.2.2.2.2.2.2.2.2)))))))))))))), ())
      ) (
      bIf ((hide (u1.2.1.1 == (12 : Int)))) (
        bnd (F_entry_Reader_Lock.f n u1.1) fun u5 =>
        some (u5.2.1, (u1.2.1.1, (u1.2.1.2.1, (u1.2.1.2.2.1, (u1.2.1.2.2.2.1, (u1.2.1.2.2.2.2.1, (u1.2.1.2.2.2.2.2.1, (u1.2.1.2.2.2.2.2.2.1, (u5.1, (u1.2.1.2.2.2.2.2.2.2.2.1, (u1.2.1.2.2.2.2.2.2.2.2.2.1, (u1.2.1.2.2.2.2.2.2.2.2.2.2.1, (u1.2.1.2.2.2.2.2.2.2.2.2.2.2.1, (u1.2.1.2.2.2.2.2.2.2.2.2.2.2.2.1, (u1.2.1.2.2.2.2.2.2.2.2.2.2.2.2.2.1, u1.2.1.2.2.2.2.2.2.2.2.2.2.2.2.2.2)))))))))))))), ())
        ) (
        bIf ((hide (u1.2.1.1 == (13 : Int)))) (
          bnd (F_entry_Reader_Tags.f n u1.1) fun u6 =>
          some (u6.2.1, (u1.2.1.1, (u1.2.1.2.1, (u1.2.1.2.2.1, (u1.2.1.2.2.2.1, (u1.2.1.2.2.2.2.1, (u1.2.1.2.2.2.2.2.1, (u6.1, (u1.2.1.2.2.2.2.2.2.2.1, (u1.2.1.2.2.2.2.2.2.2.2.1, (u1.2.1.2.2.2.2.2.2.2.2.2.1, (u1.2.1.2.2.2.2.2.2.2.2.2.2.1, (u1.2.1.2.2.2.2.2.2.2.2.2.2.2.1, (u1.2.1.2.2.2.2.2.2.2.2.2.2.2.2.1, (u1.2.1.2.2.2.2.2.2.2.2.2.2.2.2.2.1, u1.2.1.2.2.2.2.2.2.2.2.2.2.2.2.2.2)))))))))))))), ())
          ) (
          some (u1.1, (u1.2.1.1, (u1.2.1.2.1, (u1.2.1.2.2.1, (u1.2.1.2.2.2.1, (u1.2.1.2.2.2.2.1, (u1.2.1.2.2.2.2.2.1, (u1.2.1.2.2.2.2.2.2.1, (u1.2.1.2.2.2.2.2.2.2.1, (u1.2.1.2.2.2.2.2.2.2.2.1, (u1.2.1.2.2.2.2.2.2.2.2.2.1, (u1.2.1.2.2.2.2.2.2.2.2.2.2.1, (u1.2.1.2.2.2.2.2.2.2.2.2.2.2.1, (u1.2.1.2.2.2.2.2.2.2.2.2.2.2.2.1, (u1.2.1.2.2.2.2.2.2.2.2.2.2.2.2.2.1, u1.2.1.2.2.2.2.2.2.2.2.2.2.2.2.2.2)))))))))))))), ())
          )
        )
      )
    ) := (hideF_eq _).trans (by kernel_rfl)
theorem phi (n : Nat) : ∀ e ∈ (X n).c.Φ, EntryOk Tryz.prog e := allE_cons (mkEntry_ok (F_entry_Reader_Lock.ok n)) (allE_cons (mkEntry_ok (F_entry_Reader_Tags.ok n)) (allE_cons (mkEntry_ok (F_pack_Reader_Flag.ok n)) (allE_cons (mkEntry_ok (F_wire_reader_key.ok n)) (allE_nil))))
theorem ok (n : Nat) : FnOk Tryz.prog 151 ia io (fRun (X n) n T Tryz.f151 ia io) := tree_ok mixed tabIs (phi n) Tryz.func151 (by kernel_rfl) rfl
noncomputable def en (n : Nat) : Entry := mkEntry 151 ia io (fRun (X n) n T Tryz.f151 ia io)
end F_wire_reader_version
end Go.Proofs.YtcpkhpboemfglaaGreatDoor

namespace Go.Proofs.YtcpkhpboemfglaaGreatDoor
open Go Go.Va Go.Proofs
namespace F_wire_reader_fields
abbrev ia : List Ai := [.fn (.str 2) [(.d T_pack_Reader)], .ptr (.p (.d (.int .i64)) (.p (.d .str) (.p (.d .str) (.p (.d .str) (.p (.d (.int .u64)) (.p (.r 0 (.int .u8)) (.p (.r 0 T_api_Tag) (.p (.d T_api_Lock) (.p (.d .bool) (.p (.d T_api_Default) (.p (.r 0 T_api_Rule) (.p (.r 0 T_api_Grant) (.p (.d (.int .i64)) (.p (.r 0 (.int .i64)) (.d (.pair .str (.pair .str (.pair .str (.pair T_api_Spot (.pair (.int .i64) .unit))))))))))))))))))))]
abbrev io : List (Nat × Oi) := []
abbrev R : Type := DOut ia io
noncomputable def X (n : Nat) : Ctx := ⟨⟨tab, [F_entry_Reader_Small.en n, F_pack_Reader_Text.en n, F_pack_Reader_Num.en n, F_entry_Reader_Default.en n, F_entry_Reader_Rules.en n, F_entry_Reader_Grants.en n, F_entry_Reader_Lock.en n, F_entry_Reader_Tags.en n, F_wire_reader_body.en n, F_wire_reader_version.en n, F_wire_reader_list.en n, F_wire_reader_numbers.en n], 0, []⟩, 175, bnOf 0 ia⟩
abbrev g1 : List Si := [.ref 1 502000 T_api_Request, .ref 2 2 T_wire_reader, .dat 7 (.int .i64), .dat 8 .bool, .box 2 (.p (.p (.al 500000 T_pack_Reader) (.d .unit)) (.d .unit)), .box 500000 (.d T_pack_Reader), .box 502000 (.p (.d (.int .i64)) (.p (.d .str) (.p (.d .str) (.p (.d .str) (.p (.d (.int .u64)) (.p (.r 100000502000000 (.int .u8)) (.p (.r 100000502000001 T_api_Tag) (.p (.d T_api_Lock) (.p (.d .bool) (.p (.d T_api_Default) (.p (.r 100000502000002 T_api_Rule) (.p (.r 100000502000003 T_api_Grant) (.p (.d (.int .i64)) (.p (.r 100000502000004 (.int .i64)) (.d (.pair .str (.pair .str (.pair .str (.pair T_api_Spot (.pair (.int .i64) .unit))))))))))))))))))))]
abbrev g2 : List Si := [.ref 1 502000 T_api_Request, .ref 2 2 T_wire_reader, .dat 7 (.int .i64), .dat 59 .bool, .box 2 (.p (.p (.al 500000 T_pack_Reader) (.d .unit)) (.d .unit)), .box 500000 (.d T_pack_Reader), .box 502000 (.p (.d (.int .i64)) (.p (.d .str) (.p (.d .str) (.p (.d .str) (.p (.d (.int .u64)) (.p (.r 100000502000000 (.int .u8)) (.p (.r 100000502000001 T_api_Tag) (.p (.d T_api_Lock) (.p (.d .bool) (.p (.d T_api_Default) (.p (.r 100000502000002 T_api_Rule) (.p (.r 100000502000003 T_api_Grant) (.p (.d (.int .i64)) (.p (.r 100000502000004 (.int .i64)) (.d (.pair .str (.pair .str (.pair .str (.pair T_api_Spot (.pair (.int .i64) .unit))))))))))))))))))))]
abbrev g3 : List Si := [.ref 1 502000 T_api_Request, .ref 2 2 T_wire_reader, .dat 7 (.int .i64), .dat 78 .bool, .box 2 (.p (.p (.al 500000 T_pack_Reader) (.d .unit)) (.d .unit)), .box 500000 (.d T_pack_Reader), .box 502000 (.p (.d (.int .i64)) (.p (.d .str) (.p (.d .str) (.p (.d .str) (.p (.d (.int .u64)) (.p (.r 100000502000000 (.int .u8)) (.p (.r 100000502000001 T_api_Tag) (.p (.d T_api_Lock) (.p (.d .bool) (.p (.d T_api_Default) (.p (.r 100000502000002 T_api_Rule) (.p (.r 100000502000003 T_api_Grant) (.p (.d (.int .i64)) (.p (.r 100000502000004 (.int .i64)) (.d (.pair .str (.pair .str (.pair .str (.pair T_api_Spot (.pair (.int .i64) .unit))))))))))))))))))))]
noncomputable def T : CT := (.s .o (.s .o (.b (.s .o (.r g1 (.c .o (.s .o (.c .o (.s .o (.c .o (.s .o (.c .o (.s .o (.r g2 (.c .o (.s .o (.c .o (.s .o (.r g3 .o)))))))))))))))))))
noncomputable def J1 (n : Nat) : Int × Bool × D_wire_reader × D_pack_Reader × D_api_Request × Unit → Option R := jR (X n) n T (bodyOf Tryz.f76) (endK ia io) g1 [1, 1, 0, 1] []
noncomputable def J2 (n : Nat) : Int × Bool × D_wire_reader × D_pack_Reader × D_api_Request × Unit → Option R := jR (X n) n T (bodyOf Tryz.f76) (endK ia io) g2 [1, 1, 0, 1, 1, 1, 1, 1, 1, 1, 1, 1] []
noncomputable def J3 (n : Nat) : Int × Bool × D_wire_reader × D_pack_Reader × D_api_Request × Unit → Option R := jR (X n) n T (bodyOf Tryz.f76) (endK ia io) g3 [1, 1, 0, 1, 1, 1, 1, 1, 1, 1, 1, 1, 1, 1, 1, 1] []
noncomputable def f (n : Nat) (tc0 : D_pack_Reader) (o : D_api_Request) : Option R := fRun (X n) n T Tryz.f76 ia io (tc0, o, ())
theorem e0 (n : Nat) (tc0 : D_pack_Reader) (o : D_api_Request) : f n tc0 o =
  bIf ((hide (o.1 == (1 : Int)))) (
    J1 n (o.1, true, (((), ()), ()), tc0, (o.1, (o.2.1, (o.2.2.1, (o.2.2.2.1, (o.2.2.2.2.1, (o.2.2.2.2.2.1, (o.2.2.2.2.2.2.1, (o.2.2.2.2.2.2.2.1, (o.2.2.2.2.2.2.2.2.1, (o.2.2.2.2.2.2.2.2.2.1, (o.2.2.2.2.2.2.2.2.2.2.1, (o.2.2.2.2.2.2.2.2.2.2.2.1, (o.2.2.2.2.2.2.2.2.2.2.2.2.1, (o.2.2.2.2.2.2.2.2.2.2.2.2.2.1, o.2.2.2.2.2.2.2.2.2.2.2.2.2.2)))))))))))))), ())
    ) (
    J1 n (o.1, (hide (o.1 == (3 : Int))), (((), ()), ()), tc0, (o.1, (o.2.1, (o.2.2.1, (o.2.2.2.1, (o.2.2.2.2.1, (o.2.2.2.2.2.1, (o.2.2.2.2.2.2.1, (o.2.2.2.2.2.2.2.1, (o.2.2.2.2.2.2.2.2.1, (o.2.2.2.2.2.2.2.2.2.1, (o.2.2.2.2.2.2.2.2.2.2.1, (o.2.2.2.2.2.2.2.2.2.2.2.1, (o.2.2.2.2.2.2.2.2.2.2.2.2.1, (o.2.2.2.2.2.2.2.2.2.2.2.2.2.1, o.2.2.2.2.2.2.2.2.2.2.2.2.2.2)))))))))))))), ())
    ) := (hideF_eq _).trans (by kernel_rfl)
theorem e1 (n : Nat) (t7 : Int) (t8 : Bool) (A : D_wire_reader) (b500000 : D_pack_Reader) (o : D_api_Request) : J1 n (t7, t8, A, b500000, o, ()) =
  bIf (t8) (
    bnd (F_entry_Reader_Default.f n b500000) fun u1 =>
    some (u1.2.1, (o.1, (o.2.1, (o.2.2.1, (o.2.2.2.1, (o.2.2.2.2.1, (o.2.2.2.2.2.1, (o.2.2.2.2.2.2.1, (o.2.2.2.2.2.2.2.1, (o.2.2.2.2.2.2.2.2.1, (u1.1, (o.2.2.2.2.2.2.2.2.2.2.1, (o.2.2.2.2.2.2.2.2.2.2.2.1, (o.2.2.2.2.2.2.2.2.2.2.2.2.1, (o.2.2.2.2.2.2.2.2.2.2.2.2.2.1, o.2.2.2.2.2.2.2.2.2.2.2.2.2.2)))))))))))))), ())
    ) (
    bIf ((hide (t7 == (4 : Int)))) (
      bnd (F_entry_Reader_Rules.f n b500000) fun u2 =>
      some (u2.2.1, (o.1, (o.2.1, (o.2.2.1, (o.2.2.2.1, (o.2.2.2.2.1, (o.2.2.2.2.2.1, (o.2.2.2.2.2.2.1, (o.2.2.2.2.2.2.2.1, (o.2.2.2.2.2.2.2.2.1, (o.2.2.2.2.2.2.2.2.2.1, (u2.1, (o.2.2.2.2.2.2.2.2.2.2.2.1, (o.2.2.2.2.2.2.2.2.2.2.2.2.1, (o.2.2.2.2.2.2.2.2.2.2.2.2.2.1, o.2.2.2.2.2.2.2.2.2.2.2.2.2.2)))))))))))))), ())
      ) (
      bIf ((hide (t7 == (5 : Int)))) (
        bnd (F_entry_Reader_Grants.f n b500000) fun u3 =>
        some (u3.2.1, (o.1, (o.2.1, (o.2.2.1, (o.2.2.2.1, (o.2.2.2.2.1, (o.2.2.2.2.2.1, (o.2.2.2.2.2.2.1, (o.2.2.2.2.2.2.2.1, (o.2.2.2.2.2.2.2.2.1, (o.2.2.2.2.2.2.2.2.2.1, (o.2.2.2.2.2.2.2.2.2.2.1, (u3.1, (o.2.2.2.2.2.2.2.2.2.2.2.2.1, (o.2.2.2.2.2.2.2.2.2.2.2.2.2.1, o.2.2.2.2.2.2.2.2.2.2.2.2.2.2)))))))))))))), ())
        ) (
        bIf ((hide (t7 == (6 : Int)))) (
          bnd (F_pack_Reader_Text.f n b500000) fun u4 =>
          bnd (F_wire_reader_body.f n u4.2.1) fun u5 =>
          bnd (F_entry_Reader_Tags.f n u5.2.1) fun u6 =>
          bnd (F_entry_Reader_Lock.f n u6.2.1) fun u7 =>
          some (u7.2.1, (o.1, (o.2.1, (o.2.2.1, (u4.1, (o.2.2.2.2.1, (u5.1, (u6.1, (u7.1, (o.2.2.2.2.2.2.2.2.1, (o.2.2.2.2.2.2.2.2.2.1, (o.2.2.2.2.2.2.2.2.2.2.1, (o.2.2.2.2.2.2.2.2.2.2.2.1, (o.2.2.2.2.2.2.2.2.2.2.2.2.1, (o.2.2.2.2.2.2.2.2.2.2.2.2.2.1, o.2.2.2.2.2.2.2.2.2.2.2.2.2.2)))))))))))))), ())
          ) (
          bIf ((hide (t7 == (7 : Int)))) (
            J2 n (t7, true, (((), A.1.2), A.2), b500000, (o.1, (o.2.1, (o.2.2.1, (o.2.2.2.1, (o.2.2.2.2.1, (o.2.2.2.2.2.1, (o.2.2.2.2.2.2.1, (o.2.2.2.2.2.2.2.1, (o.2.2.2.2.2.2.2.2.1, (o.2.2.2.2.2.2.2.2.2.1, (o.2.2.2.2.2.2.2.2.2.2.1, (o.2.2.2.2.2.2.2.2.2.2.2.1, (o.2.2.2.2.2.2.2.2.2.2.2.2.1, (o.2.2.2.2.2.2.2.2.2.2.2.2.2.1, o.2.2.2.2.2.2.2.2.2.2.2.2.2.2)))))))))))))), ())
            ) (
            bIf ((hide (t7 == (8 : Int)))) (
              J2 n (t7, true, (((), A.1.2), A.2), b500000, (o.1, (o.2.1, (o.2.2.1, (o.2.2.2.1, (o.2.2.2.2.1, (o.2.2.2.2.2.1, (o.2.2.2.2.2.2.1, (o.2.2.2.2.2.2.2.1, (o.2.2.2.2.2.2.2.2.1, (o.2.2.2.2.2.2.2.2.2.1, (o.2.2.2.2.2.2.2.2.2.2.1, (o.2.2.2.2.2.2.2.2.2.2.2.1, (o.2.2.2.2.2.2.2.2.2.2.2.2.1, (o.2.2.2.2.2.2.2.2.2.2.2.2.2.1, o.2.2.2.2.2.2.2.2.2.2.2.2.2.2)))))))))))))), ())
              ) (
              bIf ((hide (t7 == (10 : Int)))) (
                J2 n (t7, true, (((), A.1.2), A.2), b500000, (o.1, (o.2.1, (o.2.2.1, (o.2.2.2.1, (o.2.2.2.2.1, (o.2.2.2.2.2.1, (o.2.2.2.2.2.2.1, (o.2.2.2.2.2.2.2.1, (o.2.2.2.2.2.2.2.2.1, (o.2.2.2.2.2.2.2.2.2.1, (o.2.2.2.2.2.2.2.2.2.2.1, (o.2.2.2.2.2.2.2.2.2.2.2.1, (o.2.2.2.2.2.2.2.2.2.2.2.2.1, (o.2.2.2.2.2.2.2.2.2.2.2.2.2.1, o.2.2.2.2.2.2.2.2.2.2.2.2.2.2)))))))))))))), ())
                ) (
                bIf ((hide (t7 == (11 : Int)))) (
                  J2 n (t7, true, (((), A.1.2), A.2), b500000, (o.1, (o.2.1, (o.2.2.1, (o.2.2.2.1, (o.2.2.2.2.1, (o.2.2.2.2.2.1, (o.2.2.2.2.2.2.1, (o.2.2.2.2.2.2.2.1, (o.2.2.2.2.2.2.2.2.1, (o.2.2.2.2.2.2.2.2.2.1, (o.2.2.2.2.2.2.2.2.2.2.1, (o.2.2.2.2.2.2.2.2.2.2.2.1, (o.2.2.2.2.2.2.2.2.2.2.2.2.1, (o.2.2.2.2.2.2.2.2.2.2.2.2.2.1, o.2.2.2.2.2.2.2.2.2.2.2.2.2.2)))))))))))))), ())
                  ) (
                  bIf ((hide (t7 == (12 : Int)))) (
                    J2 n (t7, true, (((), A.1.2), A.2), b500000, (o.1, (o.2.1, (o.2.2.1, (o.2.2.2.1, (o.2.2.2.2.1, (o.2.2.2.2.2.1, (o.2.2.2.2.2.2.1, (o.2.2.2.2.2.2.2.1, (o.2.2.2.2.2.2.2.2.1, (o.2.2.2.2.2.2.2.2.2.1, (o.2.2.2.2.2.2.2.2.2.2.1, (o.2.2.2.2.2.2.2.2.2.2.2.1, (o.2.2.2.2.2.2.2.2.2.2.2.2.1, (o.2.2.2.2.2.2.2.2.2.2.2.2.2.1, o.2.2.2.2.2.2.2.2.2.2.2.2.2.2)))))))))))))), ())
                    ) (
                    J2 n (t7, (hide (t7 == (13 : Int))), (((), A.1.2), A.2), b500000, (o.1, (o.2.1, (o.2.2.1, (o.2.2.2.1, (o.2.2.2.2.1, (o.2.2.2.2.2.1, (o.2.2.2.2.2.2.1, (o.2.2.2.2.2.2.2.1, (o.2.2.2.2.2.2.2.2.1, (o.2.2.2.2.2.2.2.2.2.1, (o.2.2.2.2.2.2.2.2.2.2.1, (o.2.2.2.2.2.2.2.2.2.2.2.1, (o.2.2.2.2.2.2.2.2.2.2.2.2.1, (o.2.2.2.2.2.2.2.2.2.2.2.2.2.1, o.2.2.2.2.2.2.2.2.2.2.2.2.2.2)))))))))))))), ())
                    )
                  )
                )
              )
            )
          )
        )
      )
    ) := (hideF_eq _).trans (by kernel_rfl)
theorem e2 (n : Nat) (t7 : Int) (t59 : Bool) (A : D_wire_reader) (b500000 : D_pack_Reader) (o : D_api_Request) : J2 n (t7, t59, A, b500000, o, ()) =
  bIf (t59) (
    bnd (F_wire_reader_version.f n b500000 (o.1, (o.2.1, (o.2.2.1, (o.2.2.2.1, (o.2.2.2.2.1, (o.2.2.2.2.2.1, (o.2.2.2.2.2.2.1, (o.2.2.2.2.2.2.2.1, (o.2.2.2.2.2.2.2.2.1, (o.2.2.2.2.2.2.2.2.2.1, (o.2.2.2.2.2.2.2.2.2.2.1, (o.2.2.2.2.2.2.2.2.2.2.2.1, (o.2.2.2.2.2.2.2.2.2.2.2.2.1, (o.2.2.2.2.2.2.2.2.2.2.2.2.2.1, o.2.2.2.2.2.2.2.2.2.2.2.2.2.2))))))))))))))) fun u1 =>
    some (u1.1, (u1.2.1.1, (u1.2.1.2.1, (u1.2.1.2.2.1, (u1.2.1.2.2.2.1, (u1.2.1.2.2.2.2.1, (u1.2.1.2.2.2.2.2.1, (u1.2.1.2.2.2.2.2.2.1, (u1.2.1.2.2.2.2.2.2.2.1, (u1.2.1.2.2.2.2.2.2.2.2.1, (u1.2.1.2.2.2.2.2.2.2.2.2.1, (u1.2.1.2.2.2.2.2.2.2.2.2.2.1, (u1.2.1.2.2.2.2.2.2.2.2.2.2.2.1, (u1.2.1.2.2.2.2.2.2.2.2.2.2.2.2.1, (u1.2.1.2.2.2.2.2.2.2.2.2.2.2.2.2.1, u1.2.1.2.2.2.2.2.2.2.2.2.2.2.2.2.2)))))))))))))), ())
    ) (
    bIf ((hide (t7 == (9 : Int)))) (
      bnd (F_pack_Reader_Text.f n b500000) fun u2 =>
      some (u2.2.1, (o.1, (o.2.1, (o.2.2.1, (u2.1, (o.2.2.2.2.1, (o.2.2.2.2.2.1, (o.2.2.2.2.2.2.1, (o.2.2.2.2.2.2.2.1, (o.2.2.2.2.2.2.2.2.1, (o.2.2.2.2.2.2.2.2.2.1, (o.2.2.2.2.2.2.2.2.2.2.1, (o.2.2.2.2.2.2.2.2.2.2.2.1, (o.2.2.2.2.2.2.2.2.2.2.2.2.1, (o.2.2.2.2.2.2.2.2.2.2.2.2.2.1, o.2.2.2.2.2.2.2.2.2.2.2.2.2.2)))))))))))))), ())
      ) (
      bIf ((hide (t7 == (14 : Int)))) (
        J3 n (t7, true, (((), A.1.2), A.2), b500000, (o.1, (o.2.1, (o.2.2.1, (o.2.2.2.1, (o.2.2.2.2.1, (o.2.2.2.2.2.1, (o.2.2.2.2.2.2.1, (o.2.2.2.2.2.2.2.1, (o.2.2.2.2.2.2.2.2.1, (o.2.2.2.2.2.2.2.2.2.1, (o.2.2.2.2.2.2.2.2.2.2.1, (o.2.2.2.2.2.2.2.2.2.2.2.1, (o.2.2.2.2.2.2.2.2.2.2.2.2.1, (o.2.2.2.2.2.2.2.2.2.2.2.2.2.1, o.2.2.2.2.2.2.2.2.2.2.2.2.2.2)))))))))))))), ())
        ) (
        J3 n (t7, (hide (t7 == (15 : Int))), (((), A.1.2), A.2), b500000, (o.1, (o.2.1, (o.2.2.1, (o.2.2.2.1, (o.2.2.2.2.1, (o.2.2.2.2.2.1, (o.2.2.2.2.2.2.1, (o.2.2.2.2.2.2.2.1, (o.2.2.2.2.2.2.2.2.1, (o.2.2.2.2.2.2.2.2.2.1, (o.2.2.2.2.2.2.2.2.2.2.1, (o.2.2.2.2.2.2.2.2.2.2.2.1, (o.2.2.2.2.2.2.2.2.2.2.2.2.1, (o.2.2.2.2.2.2.2.2.2.2.2.2.2.1, o.2.2.2.2.2.2.2.2.2.2.2.2.2.2)))))))))))))), ())
        )
      )
    ) := (hideF_eq _).trans (by kernel_rfl)
theorem e3 (n : Nat) (t7 : Int) (t78 : Bool) (A : D_wire_reader) (b500000 : D_pack_Reader) (o : D_api_Request) : J3 n (t7, t78, A, b500000, o, ()) =
  bIf (t78) (
    bnd (F_wire_reader_list.f n b500000 (o.1, (o.2.1, (o.2.2.1, (o.2.2.2.1, (o.2.2.2.2.1, (o.2.2.2.2.2.1, (o.2.2.2.2.2.2.1, (o.2.2.2.2.2.2.2.1, (o.2.2.2.2.2.2.2.2.1, (o.2.2.2.2.2.2.2.2.2.1, (o.2.2.2.2.2.2.2.2.2.2.1, (o.2.2.2.2.2.2.2.2.2.2.2.1, (o.2.2.2.2.2.2.2.2.2.2.2.2.1, (o.2.2.2.2.2.2.2.2.2.2.2.2.2.1, o.2.2.2.2.2.2.2.2.2.2.2.2.2.2))))))))))))))) fun u1 =>
    some (u1.1, (u1.2.1.1, (u1.2.1.2.1, (u1.2.1.2.2.1, (u1.2.1.2.2.2.1, (u1.2.1.2.2.2.2.1, (u1.2.1.2.2.2.2.2.1, (u1.2.1.2.2.2.2.2.2.1, (u1.2.1.2.2.2.2.2.2.2.1, (u1.2.1.2.2.2.2.2.2.2.2.1, (u1.2.1.2.2.2.2.2.2.2.2.2.1, (u1.2.1.2.2.2.2.2.2.2.2.2.2.1, (u1.2.1.2.2.2.2.2.2.2.2.2.2.2.1, (u1.2.1.2.2.2.2.2.2.2.2.2.2.2.2.1, (u1.2.1.2.2.2.2.2.2.2.2.2.2.2.2.2.1, u1.2.1.2.2.2.2.2.2.2.2.2.2.2.2.2.2)))))))))))))), ())
    ) (
    bIf ((hide (t7 == (16 : Int)))) (
      bnd (F_pack_Reader_Text.f n b500000) fun u2 =>
      bnd (F_entry_Reader_Tags.f n u2.2.1) fun u3 =>
      some (u3.2.1, (o.1, (o.2.1, (o.2.2.1, (u2.1, (o.2.2.2.2.1, (o.2.2.2.2.2.1, (u3.1, (o.2.2.2.2.2.2.2.1, (o.2.2.2.2.2.2.2.2.1, (o.2.2.2.2.2.2.2.2.2.1, (o.2.2.2.2.2.2.2.2.2.2.1, (o.2.2.2.2.2.2.2.2.2.2.2.1, (o.2.2.2.2.2.2.2.2.2.2.2.2.1, (o.2.2.2.2.2.2.2.2.2.2.2.2.2.1, o.2.2.2.2.2.2.2.2.2.2.2.2.2.2)))))))))))))), ())
      ) (
      bIf ((hide (t7 == (17 : Int)))) (
        bnd (F_pack_Reader_Num.f n b500000) fun u4 =>
        bnd (F_entry_Reader_Small.f n u4.2.1) fun u5 =>
        bnd (F_wire_reader_body.f n u5.2.1) fun u6 =>
        some (u6.2.1, (o.1, (o.2.1, (o.2.2.1, (o.2.2.2.1, (u4.1, (u6.1, (o.2.2.2.2.2.2.1, (o.2.2.2.2.2.2.2.1, (o.2.2.2.2.2.2.2.2.1, (o.2.2.2.2.2.2.2.2.2.1, (o.2.2.2.2.2.2.2.2.2.2.1, (o.2.2.2.2.2.2.2.2.2.2.2.1, (u5.1, (o.2.2.2.2.2.2.2.2.2.2.2.2.2.1, o.2.2.2.2.2.2.2.2.2.2.2.2.2.2)))))))))))))), ())
        ) (
        bIf ((hide (t7 == (18 : Int)))) (
          bnd (F_pack_Reader_Num.f n b500000) fun u7 =>
          bnd (F_wire_reader_numbers.f n u7.2.1) fun u8 =>
          some (u8.2.1, (o.1, (o.2.1, (o.2.2.1, (o.2.2.2.1, (u7.1, (o.2.2.2.2.2.1, (o.2.2.2.2.2.2.1, (o.2.2.2.2.2.2.2.1, (o.2.2.2.2.2.2.2.2.1, (o.2.2.2.2.2.2.2.2.2.1, (o.2.2.2.2.2.2.2.2.2.2.1, (o.2.2.2.2.2.2.2.2.2.2.2.1, (o.2.2.2.2.2.2.2.2.2.2.2.2.1, (u8.1, o.2.2.2.2.2.2.2.2.2.2.2.2.2.2)))))))))))))), ())
          ) (
          bIf ((hide (t7 == (19 : Int)))) (
            bnd (F_pack_Reader_Num.f n b500000) fun u9 =>
            some (u9.2.1, (o.1, (o.2.1, (o.2.2.1, (o.2.2.2.1, (u9.1, (o.2.2.2.2.2.1, (o.2.2.2.2.2.2.1, (o.2.2.2.2.2.2.2.1, (o.2.2.2.2.2.2.2.2.1, (o.2.2.2.2.2.2.2.2.2.1, (o.2.2.2.2.2.2.2.2.2.2.1, (o.2.2.2.2.2.2.2.2.2.2.2.1, (o.2.2.2.2.2.2.2.2.2.2.2.2.1, (o.2.2.2.2.2.2.2.2.2.2.2.2.2.1, o.2.2.2.2.2.2.2.2.2.2.2.2.2.2)))))))))))))), ())
            ) (
            bIf ((hide (t7 == (20 : Int)))) (
              bnd (F_pack_Reader_Text.f n b500000) fun u10 =>
              bnd (F_pack_Reader_Text.f n u10.2.1) fun u11 =>
              bnd (F_pack_Reader_Text.f n u11.2.1) fun u12 =>
              bnd (F_pack_Reader_Num.f n u12.2.1) fun u13 =>
              some (u13.2.1, (o.1, (o.2.1, (o.2.2.1, (u10.1, (o.2.2.2.2.1, (o.2.2.2.2.2.1, (o.2.2.2.2.2.2.1, (o.2.2.2.2.2.2.2.1, (o.2.2.2.2.2.2.2.2.1, (o.2.2.2.2.2.2.2.2.2.1, (o.2.2.2.2.2.2.2.2.2.2.1, (o.2.2.2.2.2.2.2.2.2.2.2.1, (o.2.2.2.2.2.2.2.2.2.2.2.2.1, (o.2.2.2.2.2.2.2.2.2.2.2.2.2.1, (o.2.2.2.2.2.2.2.2.2.2.2.2.2.2.1, (o.2.2.2.2.2.2.2.2.2.2.2.2.2.2.2.1, (o.2.2.2.2.2.2.2.2.2.2.2.2.2.2.2.2.1, ((u11.1, (u12.1, (u13.1, o.2.2.2.2.2.2.2.2.2.2.2.2.2.2.2.2.2.1.2.2.2))), o.2.2.2.2.2.2.2.2.2.2.2.2.2.2.2.2.2.2)))))))))))))))))), ())
              ) (
              some (b500000, (o.1, (o.2.1, (o.2.2.1, (o.2.2.2.1, (o.2.2.2.2.1, (o.2.2.2.2.2.1, (o.2.2.2.2.2.2.1, (o.2.2.2.2.2.2.2.1, (o.2.2.2.2.2.2.2.2.1, (o.2.2.2.2.2.2.2.2.2.1, (o.2.2.2.2.2.2.2.2.2.2.1, (o.2.2.2.2.2.2.2.2.2.2.2.1, (o.2.2.2.2.2.2.2.2.2.2.2.2.1, (o.2.2.2.2.2.2.2.2.2.2.2.2.2.1, o.2.2.2.2.2.2.2.2.2.2.2.2.2.2)))))))))))))), ())
              )
            )
          )
        )
      )
    ) := (hideF_eq _).trans (by kernel_rfl)
theorem phi (n : Nat) : ∀ e ∈ (X n).c.Φ, EntryOk Tryz.prog e := allE_cons (mkEntry_ok (F_entry_Reader_Small.ok n)) (allE_cons (mkEntry_ok (F_pack_Reader_Text.ok n)) (allE_cons (mkEntry_ok (F_pack_Reader_Num.ok n)) (allE_cons (mkEntry_ok (F_entry_Reader_Default.ok n)) (allE_cons (mkEntry_ok (F_entry_Reader_Rules.ok n)) (allE_cons (mkEntry_ok (F_entry_Reader_Grants.ok n)) (allE_cons (mkEntry_ok (F_entry_Reader_Lock.ok n)) (allE_cons (mkEntry_ok (F_entry_Reader_Tags.ok n)) (allE_cons (mkEntry_ok (F_wire_reader_body.ok n)) (allE_cons (mkEntry_ok (F_wire_reader_version.ok n)) (allE_cons (mkEntry_ok (F_wire_reader_list.ok n)) (allE_cons (mkEntry_ok (F_wire_reader_numbers.ok n)) (allE_nil))))))))))))
theorem ok (n : Nat) : FnOk Tryz.prog 76 ia io (fRun (X n) n T Tryz.f76 ia io) := tree_ok mixed tabIs (phi n) Tryz.func76 (by kernel_rfl) rfl
noncomputable def en (n : Nat) : Entry := mkEntry 76 ia io (fRun (X n) n T Tryz.f76 ia io)
end F_wire_reader_fields
end Go.Proofs.YtcpkhpboemfglaaGreatDoor

namespace Go.Proofs.YtcpkhpboemfglaaGreatDoor
open Go Go.Va Go.Proofs
namespace F_wire_Asked
abbrev ia : List Ai := [.dat (.slice (.int .u8))]
abbrev io : List (Nat × Oi) := [(2, .cel (.d T_api_Request)), (3, .dat (.int .i64))]
abbrev R : Type := DOut ia io
noncomputable def X (n : Nat) : Ctx := ⟨⟨tab, [F_wire_Ask.en n, F_entry_NewReader.en n, F_pack_Reader_End.en n, F_bytes_Equal.en n, F_entry_Reader_Small.en n, F_pack_Reader_Text.en n, F_wire_reader_fields.en n], 0, []⟩, 56, bnOf 0 ia⟩
abbrev g1 : List Si := [.dat 0 (.slice (.int .u8)), .ref 2 2 T_api_Request, .ref 4 4 T_wire_reader, .ref 5 5 T_api_Request, .dat 27 .bool, .box 2 (.p (.d (.int .i64)) (.p (.d .str) (.p (.d .str) (.p (.d .str) (.p (.d (.int .u64)) (.p (.r 100000000002000 (.int .u8)) (.p (.r 100000000002001 T_api_Tag) (.p (.d T_api_Lock) (.p (.d .bool) (.p (.d T_api_Default) (.p (.r 100000000002002 T_api_Rule) (.p (.r 100000000002003 T_api_Grant) (.p (.d (.int .i64)) (.p (.r 100000000002004 (.int .i64)) (.d (.pair .str (.pair .str (.pair .str (.pair T_api_Spot (.pair (.int .i64) .unit)))))))))))))))))))), .box 4 (.p (.p (.al 1500000000009 T_pack_Reader) (.d .unit)) (.d .unit)), .box 5 (.p (.d (.int .i64)) (.p (.d .str) (.p (.d .str) (.p (.d .str) (.p (.d (.int .u64)) (.p (.r 100000000005000 (.int .u8)) (.p (.r 100000000005001 T_api_Tag) (.p (.d T_api_Lock) (.p (.d .bool) (.p (.d T_api_Default) (.p (.r 100000000005002 T_api_Rule) (.p (.r 100000000005003 T_api_Grant) (.p (.d (.int .i64)) (.p (.r 100000000005004 (.int .i64)) (.d (.pair .str (.pair .str (.pair .str (.pair T_api_Spot (.pair (.int .i64) .unit)))))))))))))))))))), .box 1500000000009 (.d T_pack_Reader)]
abbrev g2 : List Si := [.dat 0 (.slice (.int .u8)), .ref 2 2 T_api_Request, .ref 4 4 T_wire_reader, .ref 5 5 T_api_Request, .box 2 (.p (.d (.int .i64)) (.p (.d .str) (.p (.d .str) (.p (.d .str) (.p (.d (.int .u64)) (.p (.r 100000000002000 (.int .u8)) (.p (.r 100000000002001 T_api_Tag) (.p (.d T_api_Lock) (.p (.d .bool) (.p (.d T_api_Default) (.p (.r 100000000002002 T_api_Rule) (.p (.r 100000000002003 T_api_Grant) (.p (.d (.int .i64)) (.p (.r 100000000002004 (.int .i64)) (.d (.pair .str (.pair .str (.pair .str (.pair T_api_Spot (.pair (.int .i64) .unit)))))))))))))))))))), .box 4 (.p (.p (.al 1500000000009 T_pack_Reader) (.d .unit)) (.d .unit)), .box 5 (.p (.d (.int .i64)) (.p (.d .str) (.p (.d .str) (.p (.d .str) (.p (.d (.int .u64)) (.p (.r 100000000005000 (.int .u8)) (.p (.r 100000000005001 T_api_Tag) (.p (.d T_api_Lock) (.p (.d .bool) (.p (.d T_api_Default) (.p (.r 100000000005002 T_api_Rule) (.p (.r 100000000005003 T_api_Grant) (.p (.d (.int .i64)) (.p (.r 100000000005004 (.int .i64)) (.d (.pair .str (.pair .str (.pair .str (.pair T_api_Spot (.pair (.int .i64) .unit)))))))))))))))))))), .box 1500000000009 (.d T_pack_Reader)]
abbrev g3 : List Si := [.ref 2 2 T_api_Request, .ref 5 5 T_api_Request, .dat 53 .bool, .box 2 (.p (.d (.int .i64)) (.p (.d .str) (.p (.d .str) (.p (.d .str) (.p (.d (.int .u64)) (.p (.r 100000000002000 (.int .u8)) (.p (.r 100000000002001 T_api_Tag) (.p (.d T_api_Lock) (.p (.d .bool) (.p (.d T_api_Default) (.p (.r 100000000002002 T_api_Rule) (.p (.r 100000000002003 T_api_Grant) (.p (.d (.int .i64)) (.p (.r 100000000002004 (.int .i64)) (.d (.pair .str (.pair .str (.pair .str (.pair T_api_Spot (.pair (.int .i64) .unit)))))))))))))))))))), .box 5 (.d T_api_Request)]
abbrev g4 : List Si := [.ref 2 2 T_api_Request, .ref 5 5 T_api_Request, .box 2 (.p (.d (.int .i64)) (.p (.d .str) (.p (.d .str) (.p (.d .str) (.p (.d (.int .u64)) (.p (.r 100000000002000 (.int .u8)) (.p (.r 100000000002001 T_api_Tag) (.p (.d T_api_Lock) (.p (.d .bool) (.p (.d T_api_Default) (.p (.r 100000000002002 T_api_Rule) (.p (.r 100000000002003 T_api_Grant) (.p (.d (.int .i64)) (.p (.r 100000000002004 (.int .i64)) (.d (.pair .str (.pair .str (.pair .str (.pair T_api_Spot (.pair (.int .i64) .unit)))))))))))))))))))), .box 5 (.d T_api_Request)]
noncomputable def T : CT := (.s .o (.s .o (.s .o (.s .o (.s (.s .o (.r g1 .o)) (.r g2 (.s .o (.s .o (.s (.s .o (.s .o (.r g3 .o))) (.r g4 .o))))))))))
noncomputable def J1 (n : Nat) : (List (Int)) × Bool × D_api_Request × D_wire_reader × D_api_Request × D_pack_Reader × Unit → Option R := jR (X n) n T (bodyOf Tryz.f23) (endK ia io) g1 [1, 1, 1, 1, 0, 1] []
noncomputable def J2 (n : Nat) : (List (Int)) × D_api_Request × D_wire_reader × D_api_Request × D_pack_Reader × Unit → Option R := jR (X n) n T (bodyOf Tryz.f23) (endK ia io) g2 [1, 1, 1, 1, 1] []
noncomputable def J3 (n : Nat) : Bool × D_api_Request × D_api_Request × Unit → Option R := jR (X n) n T (bodyOf Tryz.f23) (endK ia io) g3 [1, 1, 1, 1, 1, 1, 1, 0, 1, 1] []
noncomputable def J4 (n : Nat) : D_api_Request × D_api_Request × Unit → Option R := jR (X n) n T (bodyOf Tryz.f23) (endK ia io) g4 [1, 1, 1, 1, 1, 1, 1, 1] []
noncomputable def f (n : Nat) (b : List (Int)) : Option R := fRun (X n) n T Tryz.f23 ia io (b, ())
theorem e0 (n : Nat) (b : List (Int)) : f n b =
  bnd (F_entry_NewReader.f n b) fun u1 =>
  bnd (F_entry_Reader_Small.f n u1.1) fun u2 =>
  bnd (F_pack_Reader_Text.f n u2.2.1) fun u3 =>
  bIf ((hide (u2.1 != (21 : Int)))) (
    J1 n (b, (hide (u2.1 != (22 : Int))), (0, ((⟨#[]⟩ : ByteArray), ((⟨#[]⟩ : ByteArray), ((⟨#[]⟩ : ByteArray), (0, ([], ([], ((0, (0, (false, ()))), (false, ((0, (0, ())), ([], ([], (0, ([], ((⟨#[]⟩ : ByteArray), ((⟨#[]⟩ : ByteArray), ((⟨#[]⟩ : ByteArray), (((⟨#[]⟩ : ByteArray), ((⟨#[]⟩ : ByteArray), (0, ()))), (0, ()))))))))))))))))))), (((), ()), ()), (u2.1, (u3.1, ((⟨#[]⟩ : ByteArray), ((⟨#[]⟩ : ByteArray), (0, ([], ([], ((0, (0, (false, ()))), (false, ((0, (0, ())), ([], ([], (0, ([], ((⟨#[]⟩ : ByteArray), ((⟨#[]⟩ : ByteArray), ((⟨#[]⟩ : ByteArray), (((⟨#[]⟩ : ByteArray), ((⟨#[]⟩ : ByteArray), (0, ()))), (0, ()))))))))))))))))))), u3.2.1, ())
    ) (
    J1 n (b, false, (0, ((⟨#[]⟩ : ByteArray), ((⟨#[]⟩ : ByteArray), ((⟨#[]⟩ : ByteArray), (0, ([], ([], ((0, (0, (false, ()))), (false, ((0, (0, ())), ([], ([], (0, ([], ((⟨#[]⟩ : ByteArray), ((⟨#[]⟩ : ByteArray), ((⟨#[]⟩ : ByteArray), (((⟨#[]⟩ : ByteArray), ((⟨#[]⟩ : ByteArray), (0, ()))), (0, ()))))))))))))))))))), (((), ()), ()), (u2.1, (u3.1, ((⟨#[]⟩ : ByteArray), ((⟨#[]⟩ : ByteArray), (0, ([], ([], ((0, (0, (false, ()))), (false, ((0, (0, ())), ([], ([], (0, ([], ((⟨#[]⟩ : ByteArray), ((⟨#[]⟩ : ByteArray), ((⟨#[]⟩ : ByteArray), (((⟨#[]⟩ : ByteArray), ((⟨#[]⟩ : ByteArray), (0, ()))), (0, ()))))))))))))))))))), u3.2.1, ())
    ) := (hideF_eq _).trans (by kernel_rfl)
theorem e1 (n : Nat) (b : List (Int)) (t27 : Bool) (b2 : D_api_Request) (r : D_wire_reader) (out : D_api_Request) (b1500000000009 : D_pack_Reader) : J1 n (b, t27, b2, r, out, b1500000000009, ()) =
  bIf (t27) (
    bnd (F_pack_Reader_Text.f n b1500000000009) fun u1 =>
    J2 n (b, (b2.1, (b2.2.1, (b2.2.2.1, (b2.2.2.2.1, (b2.2.2.2.2.1, (b2.2.2.2.2.2.1, (b2.2.2.2.2.2.2.1, (b2.2.2.2.2.2.2.2.1, (b2.2.2.2.2.2.2.2.2.1, (b2.2.2.2.2.2.2.2.2.2.1, (b2.2.2.2.2.2.2.2.2.2.2.1, (b2.2.2.2.2.2.2.2.2.2.2.2.1, (b2.2.2.2.2.2.2.2.2.2.2.2.2.1, (b2.2.2.2.2.2.2.2.2.2.2.2.2.2.1, b2.2.2.2.2.2.2.2.2.2.2.2.2.2.2)))))))))))))), (((), r.1.2), r.2), (out.1, (out.2.1, (u1.1, (out.2.2.2.1, (out.2.2.2.2.1, (out.2.2.2.2.2.1, (out.2.2.2.2.2.2.1, (out.2.2.2.2.2.2.2.1, (out.2.2.2.2.2.2.2.2.1, (out.2.2.2.2.2.2.2.2.2.1, (out.2.2.2.2.2.2.2.2.2.2.1, (out.2.2.2.2.2.2.2.2.2.2.2.1, (out.2.2.2.2.2.2.2.2.2.2.2.2.1, (out.2.2.2.2.2.2.2.2.2.2.2.2.2.1, out.2.2.2.2.2.2.2.2.2.2.2.2.2.2)))))))))))))), u1.2.1, ())
    ) (
    J2 n (b, (b2.1, (b2.2.1, (b2.2.2.1, (b2.2.2.2.1, (b2.2.2.2.2.1, (b2.2.2.2.2.2.1, (b2.2.2.2.2.2.2.1, (b2.2.2.2.2.2.2.2.1, (b2.2.2.2.2.2.2.2.2.1, (b2.2.2.2.2.2.2.2.2.2.1, (b2.2.2.2.2.2.2.2.2.2.2.1, (b2.2.2.2.2.2.2.2.2.2.2.2.1, (b2.2.2.2.2.2.2.2.2.2.2.2.2.1, (b2.2.2.2.2.2.2.2.2.2.2.2.2.2.1, b2.2.2.2.2.2.2.2.2.2.2.2.2.2.2)))))))))))))), (((), r.1.2), r.2), (out.1, (out.2.1, (out.2.2.1, (out.2.2.2.1, (out.2.2.2.2.1, (out.2.2.2.2.2.1, (out.2.2.2.2.2.2.1, (out.2.2.2.2.2.2.2.1, (out.2.2.2.2.2.2.2.2.1, (out.2.2.2.2.2.2.2.2.2.1, (out.2.2.2.2.2.2.2.2.2.2.1, (out.2.2.2.2.2.2.2.2.2.2.2.1, (out.2.2.2.2.2.2.2.2.2.2.2.2.1, (out.2.2.2.2.2.2.2.2.2.2.2.2.2.1, out.2.2.2.2.2.2.2.2.2.2.2.2.2.2)))))))))))))), b1500000000009, ())
    ) := (hideF_eq _).trans (by kernel_rfl)
theorem e2 (n : Nat) (b : List (Int)) (b2 : D_api_Request) (r : D_wire_reader) (out : D_api_Request) (b1500000000009 : D_pack_Reader) : J2 n (b, b2, r, out, b1500000000009, ()) =
  bnd (F_wire_reader_fields.f n b1500000000009 (out.1, (out.2.1, (out.2.2.1, (out.2.2.2.1, (out.2.2.2.2.1, (out.2.2.2.2.2.1, (out.2.2.2.2.2.2.1, (out.2.2.2.2.2.2.2.1, (out.2.2.2.2.2.2.2.2.1, (out.2.2.2.2.2.2.2.2.2.1, (out.2.2.2.2.2.2.2.2.2.2.1, (out.2.2.2.2.2.2.2.2.2.2.2.1, (out.2.2.2.2.2.2.2.2.2.2.2.2.1, (out.2.2.2.2.2.2.2.2.2.2.2.2.2.1, out.2.2.2.2.2.2.2.2.2.2.2.2.2.2))))))))))))))) fun u1 =>
  bnd (F_pack_Reader_End.f n u1.1) fun u2 =>
  bIf ((hide (u2.1 != (0 : Int)))) (
    some ((0, ((⟨#[]⟩ : ByteArray), ((⟨#[]⟩ : ByteArray), ((⟨#[]⟩ : ByteArray), (0, ([], ([], ((0, (0, (false, ()))), (false, ((0, (0, ())), ([], ([], (0, ([], ((⟨#[]⟩ : ByteArray), ((⟨#[]⟩ : ByteArray), ((⟨#[]⟩ : ByteArray), (((⟨#[]⟩ : ByteArray), ((⟨#[]⟩ : ByteArray), (0, ()))), (0, ()))))))))))))))))))), 2, ())
    ) (
    bnd (F_wire_Ask.f n (u1.2.1.1, (u1.2.1.2.1, (u1.2.1.2.2.1, (u1.2.1.2.2.2.1, (u1.2.1.2.2.2.2.1, (u1.2.1.2.2.2.2.2.1, (u1.2.1.2.2.2.2.2.2.1, (u1.2.1.2.2.2.2.2.2.2.1, (u1.2.1.2.2.2.2.2.2.2.2.1, (u1.2.1.2.2.2.2.2.2.2.2.2.1, (u1.2.1.2.2.2.2.2.2.2.2.2.2.1, (u1.2.1.2.2.2.2.2.2.2.2.2.2.2.1, (u1.2.1.2.2.2.2.2.2.2.2.2.2.2.2.1, (u1.2.1.2.2.2.2.2.2.2.2.2.2.2.2.2.1, u1.2.1.2.2.2.2.2.2.2.2.2.2.2.2.2.2))))))))))))))) fun u3 =>
    bIf ((hide (u3.2.1 != (0 : Int)))) (
      J3 n (true, (b2.1, (b2.2.1, (b2.2.2.1, (b2.2.2.2.1, (b2.2.2.2.2.1, (b2.2.2.2.2.2.1, (b2.2.2.2.2.2.2.1, (b2.2.2.2.2.2.2.2.1, (b2.2.2.2.2.2.2.2.2.1, (b2.2.2.2.2.2.2.2.2.2.1, (b2.2.2.2.2.2.2.2.2.2.2.1, (b2.2.2.2.2.2.2.2.2.2.2.2.1, (b2.2.2.2.2.2.2.2.2.2.2.2.2.1, (b2.2.2.2.2.2.2.2.2.2.2.2.2.2.1, b2.2.2.2.2.2.2.2.2.2.2.2.2.2.2)))))))))))))), (u1.2.1.1, (u1.2.1.2.1, (u1.2.1.2.2.1, (u1.2.1.2.2.2.1, (u1.2.1.2.2.2.2.1, (u1.2.1.2.2.2.2.2.1, (u1.2.1.2.2.2.2.2.2.1, (u1.2.1.2.2.2.2.2.2.2.1, (u1.2.1.2.2.2.2.2.2.2.2.1, (u1.2.1.2.2.2.2.2.2.2.2.2.1, (u1.2.1.2.2.2.2.2.2.2.2.2.2.1, (u1.2.1.2.2.2.2.2.2.2.2.2.2.2.1, (u1.2.1.2.2.2.2.2.2.2.2.2.2.2.2.1, (u1.2.1.2.2.2.2.2.2.2.2.2.2.2.2.2.1, u1.2.1.2.2.2.2.2.2.2.2.2.2.2.2.2.2)))))))))))))), ())
      ) (
      bnd (F_bytes_Equal.f n u3.1 b) fun u4 =>
      J3 n ((!u4.1), (b2.1, (b2.2.1, (b2.2.2.1, (b2.2.2.2.1, (b2.2.2.2.2.1, (b2.2.2.2.2.2.1, (b2.2.2.2.2.2.2.1, (b2.2.2.2.2.2.2.2.1, (b2.2.2.2.2.2.2.2.2.1, (b2.2.2.2.2.2.2.2.2.2.1, (b2.2.2.2.2.2.2.2.2.2.2.1, (b2.2.2.2.2.2.2.2.2.2.2.2.1, (b2.2.2.2.2.2.2.2.2.2.2.2.2.1, (b2.2.2.2.2.2.2.2.2.2.2.2.2.2.1, b2.2.2.2.2.2.2.2.2.2.2.2.2.2.2)))))))))))))), (u1.2.1.1, (u1.2.1.2.1, (u1.2.1.2.2.1, (u1.2.1.2.2.2.1, (u1.2.1.2.2.2.2.1, (u1.2.1.2.2.2.2.2.1, (u1.2.1.2.2.2.2.2.2.1, (u1.2.1.2.2.2.2.2.2.2.1, (u1.2.1.2.2.2.2.2.2.2.2.1, (u1.2.1.2.2.2.2.2.2.2.2.2.1, (u1.2.1.2.2.2.2.2.2.2.2.2.2.1, (u1.2.1.2.2.2.2.2.2.2.2.2.2.2.1, (u1.2.1.2.2.2.2.2.2.2.2.2.2.2.2.1, (u1.2.1.2.2.2.2.2.2.2.2.2.2.2.2.2.1, u1.2.1.2.2.2.2.2.2.2.2.2.2.2.2.2.2)))))))))))))), ())
      )
    ) := (hideF_eq _).trans (by kernel_rfl)
theorem e3 (n : Nat) (t53 : Bool) (b2 : D_api_Request) (out : D_api_Request) : J3 n (t53, b2, out, ()) =
  bIf (t53) (
    some ((0, ((⟨#[]⟩ : ByteArray), ((⟨#[]⟩ : ByteArray), ((⟨#[]⟩ : ByteArray), (0, ([], ([], ((0, (0, (false, ()))), (false, ((0, (0, ())), ([], ([], (0, ([], ((⟨#[]⟩ : ByteArray), ((⟨#[]⟩ : ByteArray), ((⟨#[]⟩ : ByteArray), (((⟨#[]⟩ : ByteArray), ((⟨#[]⟩ : ByteArray), (0, ()))), (0, ()))))))))))))))))))), 2, ())
    ) (
    J4 n ((b2.1, (b2.2.1, (b2.2.2.1, (b2.2.2.2.1, (b2.2.2.2.2.1, (b2.2.2.2.2.2.1, (b2.2.2.2.2.2.2.1, (b2.2.2.2.2.2.2.2.1, (b2.2.2.2.2.2.2.2.2.1, (b2.2.2.2.2.2.2.2.2.2.1, (b2.2.2.2.2.2.2.2.2.2.2.1, (b2.2.2.2.2.2.2.2.2.2.2.2.1, (b2.2.2.2.2.2.2.2.2.2.2.2.2.1, (b2.2.2.2.2.2.2.2.2.2.2.2.2.2.1, b2.2.2.2.2.2.2.2.2.2.2.2.2.2.2)))))))))))))), out, ())
    ) := (hideF_eq _).trans (by kernel_rfl)
theorem e4 (n : Nat) (b2 : D_api_Request) (out : D_api_Request) : J4 n (b2, out, ()) =
  some (out, 0, ()) := (hideF_eq _).trans (by kernel_rfl)
theorem phi (n : Nat) : ∀ e ∈ (X n).c.Φ, EntryOk Tryz.prog e := allE_cons (mkEntry_ok (F_wire_Ask.ok n)) (allE_cons (mkEntry_ok (F_entry_NewReader.ok n)) (allE_cons (mkEntry_ok (F_pack_Reader_End.ok n)) (allE_cons (mkEntry_ok (F_bytes_Equal.ok n)) (allE_cons (mkEntry_ok (F_entry_Reader_Small.ok n)) (allE_cons (mkEntry_ok (F_pack_Reader_Text.ok n)) (allE_cons (mkEntry_ok (F_wire_reader_fields.ok n)) (allE_nil)))))))
theorem ok (n : Nat) : FnOk Tryz.prog 23 ia io (fRun (X n) n T Tryz.f23 ia io) := tree_ok mixed tabIs (phi n) Tryz.func23 (by kernel_rfl) rfl
noncomputable def en (n : Nat) : Entry := mkEntry 23 ia io (fRun (X n) n T Tryz.f23 ia io)
end F_wire_Asked
end Go.Proofs.YtcpkhpboemfglaaGreatDoor

namespace Go.Proofs.YtcpkhpboemfglaaGreatDoor
open Go Go.Va Go.Proofs
namespace F_wire_reader_rows
abbrev ia : List Ai := [.fn (.str 2) [(.d T_pack_Reader)]]
abbrev io : List (Nat × Oi) := [(2, .val (.r 0 T_api_Row))]
abbrev R : Type := DOut ia io
noncomputable def X (n : Nat) : Ctx := ⟨⟨tab, [F_pack_Reader_Count.en n, F_pack_Reader_Text.en n, F_entry_Reader_Version.en n, F_pack_Reader_Flag.en n], 0, []⟩, 39, bnOf 0 ia⟩
abbrev g1 : List Si := [.ref 1 1 T_wire_reader, .val 3 (.r 200300 T_api_Row), .dat 8 (.int .i64), .dat 9 (.int .i64), .box 1 (.p (.p (.al 500000 T_pack_Reader) (.d .unit)) (.d .unit)), .box 500000 (.d T_pack_Reader)]
abbrev g2 : List Si := [.ref 1 1 T_wire_reader, .val 3 (.r 200300 T_api_Row), .ref 4 4 T_api_Row, .dat 8 (.int .i64), .dat 9 (.int .i64), .box 1 (.p (.p (.al 500000 T_pack_Reader) (.d .unit)) (.d .unit)), .box 4 (.p (.d .str) (.p (.d .bool) (.p (.p (.d (.int .u64)) (.p (.d .bool) (.p (.d (.int .i64)) (.p (.d (.int .u64)) (.p (.d (.arr 32 (.int .u8))) (.p (.d (.int .i64)) (.p (.d T_api_Lock) (.p (.r 100000000004000 T_api_Tag) (.d .unit))))))))) (.d (.pair .bool .unit))))), .box 500000 (.d T_pack_Reader)]
abbrev g3 : List Si := [.val 3 (.r 200300 T_api_Row), .box 500000 (.d T_pack_Reader)]
noncomputable def T : CT := (.s .o (.s .o (.s (.s .o (.b (.l g1 (.s .o (.s .o (.s (.b (.s .o (.s .o (.s .o (.r g2 .o))))) .o)))))) (.r g3 .o))))
noncomputable def J1 (n : Nat) (m : Nat) : (List (D_api_Row)) × Int × Int × D_wire_reader × D_pack_Reader × Unit → Option R := jL (X n) n T (bodyOf Tryz.f171) (endK ia io) g1 [1, 1, 0, 1, 0] [] m
noncomputable def J2 (n m1 : Nat) : (List (D_api_Row)) × Int × Int × D_wire_reader × D_api_Row × D_pack_Reader × Unit → Option R := jR (X n) n T (bodyOf Tryz.f171) (endK ia io) g2 [1, 1, 0, 1, 0, 0, 1, 1, 0, 0, 1, 1, 1] [m1]
noncomputable def J3 (n : Nat) : (List (D_api_Row)) × D_pack_Reader × Unit → Option R := jR (X n) n T (bodyOf Tryz.f171) (endK ia io) g3 [1, 1, 1] []
noncomputable def f (n : Nat) (rc0 : D_pack_Reader) : Option R := fRun (X n) n T Tryz.f171 ia io (rc0, ())
theorem e0 (n : Nat) (rc0 : D_pack_Reader) : f n rc0 =
  bnd (F_pack_Reader_Count.f n rc0 100) fun u1 =>
  J1 n n ([], u1.1, 0, (((), ()), ()), u1.2.1, ()) := (hideF_eq _).trans (by kernel_rfl)
theorem e1 (n m : Nat) (out : List (D_api_Row)) (t8 : Int) (t9 : Int) (r : D_wire_reader) (b500000 : D_pack_Reader) : J1 n (m + 1) (out, t8, t9, r, b500000, ()) =
  bIf ((hide (decide (t9 < t8)))) (
    bnd (F_pack_Reader_Text.f n b500000) fun u1 =>
    bnd (F_pack_Reader_Flag.f n u1.2.1) fun u2 =>
    bIf ((!u2.1)) (
      bnd (F_entry_Reader_Version.f n u2.2.1) fun u3 =>
      bnd (F_pack_Reader_Flag.f n u3.2.1) fun u4 =>
      J2 n m (out, t8, t9, (((), r.1.2), r.2), (u1.1, (u2.1, ((u3.1.1, (u3.1.2.1, (u3.1.2.2.1, (u3.1.2.2.2.1, (u3.1.2.2.2.2.1, (u3.1.2.2.2.2.2.1, (u3.1.2.2.2.2.2.2.1, (u3.1.2.2.2.2.2.2.2.1, u3.1.2.2.2.2.2.2.2.2)))))))), (u4.1, ())))), u4.2.1, ())
      ) (
      J2 n m (out, t8, t9, (((), r.1.2), r.2), (u1.1, (u2.1, ((0, (false, (0, (0, ((List.replicate 32 0), (0, ((0, (0, (false, ()))), ([], ())))))))), (false, ())))), u2.2.1, ())
      )
    ) (
    J3 n (out, b500000, ())
    ) := (hideF_eq _).trans (by kernel_rfl)
theorem e2 (n m1 : Nat) (out : List (D_api_Row)) (t8 : Int) (t9 : Int) (r : D_wire_reader) (x_ : D_api_Row) (b500000 : D_pack_Reader) : J2 n m1 (out, t8, t9, r, x_, b500000, ()) =
  gIf ((out.length + 1) * 152 ≤ 70368744177664) (
    J1 n m1 ((out ++ ([(x_.1, (x_.2.1, ((x_.2.2.1.1, (x_.2.2.1.2.1, (x_.2.2.1.2.2.1, (x_.2.2.1.2.2.2.1, (x_.2.2.1.2.2.2.2.1, (x_.2.2.1.2.2.2.2.2.1, (x_.2.2.1.2.2.2.2.2.2.1, (x_.2.2.1.2.2.2.2.2.2.2.1, x_.2.2.1.2.2.2.2.2.2.2.2)))))))), x_.2.2.2)))] : List (D_api_Row))), t8, (IntKind.i64.wrap (t9 + (1 : Int))), (((), r.1.2), r.2), b500000, ())
    ) := (hideF_eq _).trans (by kernel_rfl)
theorem e3 (n : Nat) (out : List (D_api_Row)) (b500000 : D_pack_Reader) : J3 n (out, b500000, ()) =
  some (out, b500000, ()) := (hideF_eq _).trans (by kernel_rfl)
theorem phi (n : Nat) : ∀ e ∈ (X n).c.Φ, EntryOk Tryz.prog e := allE_cons (mkEntry_ok (F_pack_Reader_Count.ok n)) (allE_cons (mkEntry_ok (F_pack_Reader_Text.ok n)) (allE_cons (mkEntry_ok (F_entry_Reader_Version.ok n)) (allE_cons (mkEntry_ok (F_pack_Reader_Flag.ok n)) (allE_nil))))
theorem ok (n : Nat) : FnOk Tryz.prog 171 ia io (fRun (X n) n T Tryz.f171 ia io) := tree_ok mixed tabIs (phi n) Tryz.func171 (by kernel_rfl) rfl
noncomputable def en (n : Nat) : Entry := mkEntry 171 ia io (fRun (X n) n T Tryz.f171 ia io)
end F_wire_reader_rows
end Go.Proofs.YtcpkhpboemfglaaGreatDoor

namespace Go.Proofs.YtcpkhpboemfglaaGreatDoor
open Go Go.Va Go.Proofs
namespace F_wire_reader_reply
abbrev ia : List Ai := [.fn (.str 2) [(.d T_pack_Reader)]]
abbrev io : List (Nat × Oi) := [(2, .cel (.p (.d (.int .i64)) (.p (.d (.int .u64)) (.p (.r 0 (.int .u8)) (.p (.p (.d (.int .u64)) (.p (.d .bool) (.p (.d (.int .i64)) (.p (.d (.int .u64)) (.p (.d (.arr 32 (.int .u8))) (.p (.d (.int .i64)) (.p (.d T_api_Lock) (.p (.r 0 T_api_Tag) (.d .unit))))))))) (.p (.r 0 T_api_Row) (.p (.d .bool) (.p (.r 0 (.int .i64)) (.p (.r 0 .str) (.d .unit))))))))))]
abbrev R : Type := DOut ia io
noncomputable def X (n : Nat) : Ctx := ⟨⟨tab, [F_pack_Reader_Count.en n, F_pack_Reader_Text.en n, F_pack_Reader_Num.en n, F_entry_Reader_Version.en n, F_wire_reader_body.en n, F_pack_Reader_Flag.en n, F_wire_reader_rows.en n], 0, []⟩, 62, bnOf 0 ia⟩
abbrev g1 : List Si := [.ref 1 1 T_wire_reader, .ref 2 2 T_api_Reply, .ref 3 3 T_api_Reply, .box 1 (.p (.p (.al 500000 T_pack_Reader) (.d .unit)) (.d .unit)), .box 2 (.p (.d (.int .i64)) (.p (.d (.int .u64)) (.p (.r 100000000002000 (.int .u8)) (.p (.p (.d (.int .u64)) (.p (.d .bool) (.p (.d (.int .i64)) (.p (.d (.int .u64)) (.p (.d (.arr 32 (.int .u8))) (.p (.d (.int .i64)) (.p (.d T_api_Lock) (.p (.r 100000000002001 T_api_Tag) (.d .unit))))))))) (.p (.r 100000000002002 T_api_Row) (.p (.d .bool) (.p (.r 100000000002003 (.int .i64)) (.p (.r 100000000002004 .str) (.d .unit))))))))), .box 3 (.p (.d (.int .i64)) (.p (.d (.int .u64)) (.p (.r 100000000003000 (.int .u8)) (.p (.p (.d (.int .u64)) (.p (.d .bool) (.p (.d (.int .i64)) (.p (.d (.int .u64)) (.p (.d (.arr 32 (.int .u8))) (.p (.d (.int .i64)) (.p (.d T_api_Lock) (.p (.r 100000000003001 T_api_Tag) (.d .unit))))))))) (.p (.r 100000000003002 T_api_Row) (.p (.d .bool) (.p (.r 100000000003003 (.int .i64)) (.p (.r 100000000003004 .str) (.d .unit))))))))), .box 500000 (.d T_pack_Reader)]
abbrev g2 : List Si := [.ref 1 1 T_wire_reader, .ref 2 2 T_api_Reply, .ref 3 3 T_api_Reply, .dat 31 (.int .i64), .dat 32 (.int .i64), .box 1 (.p (.p (.al 500000 T_pack_Reader) (.d .unit)) (.d .unit)), .box 2 (.p (.d (.int .i64)) (.p (.d (.int .u64)) (.p (.r 100000000002000 (.int .u8)) (.p (.p (.d (.int .u64)) (.p (.d .bool) (.p (.d (.int .i64)) (.p (.d (.int .u64)) (.p (.d (.arr 32 (.int .u8))) (.p (.d (.int .i64)) (.p (.d T_api_Lock) (.p (.r 100000000002001 T_api_Tag) (.d .unit))))))))) (.p (.r 100000000002002 T_api_Row) (.p (.d .bool) (.p (.r 100000000002003 (.int .i64)) (.p (.r 100000000002004 .str) (.d .unit))))))))), .box 3 (.p (.d (.int .i64)) (.p (.d (.int .u64)) (.p (.r 100000000003000 (.int .u8)) (.p (.p (.d (.int .u64)) (.p (.d .bool) (.p (.d (.int .i64)) (.p (.d (.int .u64)) (.p (.d (.arr 32 (.int .u8))) (.p (.d (.int .i64)) (.p (.d T_api_Lock) (.p (.r 100000000003001 T_api_Tag) (.d .unit))))))))) (.p (.r 100000000003002 T_api_Row) (.p (.d .bool) (.p (.r 100000000003003 (.int .i64)) (.p (.r 100000000003004 .str) (.d .unit))))))))), .box 500000 (.d T_pack_Reader)]
abbrev g3 : List Si := [.ref 1 1 T_wire_reader, .ref 2 2 T_api_Reply, .ref 3 3 T_api_Reply, .box 1 (.p (.p (.al 500000 T_pack_Reader) (.d .unit)) (.d .unit)), .box 2 (.p (.d (.int .i64)) (.p (.d (.int .u64)) (.p (.r 100000000002000 (.int .u8)) (.p (.p (.d (.int .u64)) (.p (.d .bool) (.p (.d (.int .i64)) (.p (.d (.int .u64)) (.p (.d (.arr 32 (.int .u8))) (.p (.d (.int .i64)) (.p (.d T_api_Lock) (.p (.r 100000000002001 T_api_Tag) (.d .unit))))))))) (.p (.r 100000000002002 T_api_Row) (.p (.d .bool) (.p (.r 100000000002003 (.int .i64)) (.p (.r 100000000002004 .str) (.d .unit))))))))), .box 3 (.p (.d (.int .i64)) (.p (.d (.int .u64)) (.p (.r 100000000003000 (.int .u8)) (.p (.p (.d (.int .u64)) (.p (.d .bool) (.p (.d (.int .i64)) (.p (.d (.int .u64)) (.p (.d (.arr 32 (.int .u8))) (.p (.d (.int .i64)) (.p (.d T_api_Lock) (.p (.r 100000000003001 T_api_Tag) (.d .unit))))))))) (.p (.r 100000000003002 T_api_Row) (.p (.d .bool) (.p (.r 100000000003003 (.int .i64)) (.p (.r 100000000003004 .str) (.d .unit))))))))), .box 500000 (.d T_pack_Reader)]
abbrev g4 : List Si := [.ref 1 1 T_wire_reader, .ref 2 2 T_api_Reply, .ref 3 3 T_api_Reply, .dat 48 (.int .i64), .dat 49 (.int .i64), .box 1 (.p (.p (.al 500000 T_pack_Reader) (.d .unit)) (.d .unit)), .box 2 (.p (.d (.int .i64)) (.p (.d (.int .u64)) (.p (.r 100000000002000 (.int .u8)) (.p (.p (.d (.int .u64)) (.p (.d .bool) (.p (.d (.int .i64)) (.p (.d (.int .u64)) (.p (.d (.arr 32 (.int .u8))) (.p (.d (.int .i64)) (.p (.d T_api_Lock) (.p (.r 100000000002001 T_api_Tag) (.d .unit))))))))) (.p (.r 100000000002002 T_api_Row) (.p (.d .bool) (.p (.r 100000000002003 (.int .i64)) (.p (.r 100000000002004 .str) (.d .unit))))))))), .box 3 (.p (.d (.int .i64)) (.p (.d (.int .u64)) (.p (.r 100000000003000 (.int .u8)) (.p (.p (.d (.int .u64)) (.p (.d .bool) (.p (.d (.int .i64)) (.p (.d (.int .u64)) (.p (.d (.arr 32 (.int .u8))) (.p (.d (.int .i64)) (.p (.d T_api_Lock) (.p (.r 100000000003001 T_api_Tag) (.d .unit))))))))) (.p (.r 100000000003002 T_api_Row) (.p (.d .bool) (.p (.r 100000000003003 (.int .i64)) (.p (.r 100000000003004 .str) (.d .unit))))))))), .box 500000 (.d T_pack_Reader)]
abbrev g5 : List Si := [.ref 2 2 T_api_Reply, .ref 3 3 T_api_Reply, .box 2 (.p (.d (.int .i64)) (.p (.d (.int .u64)) (.p (.r 100000000002000 (.int .u8)) (.p (.p (.d (.int .u64)) (.p (.d .bool) (.p (.d (.int .i64)) (.p (.d (.int .u64)) (.p (.d (.arr 32 (.int .u8))) (.p (.d (.int .i64)) (.p (.d T_api_Lock) (.p (.r 100000000002001 T_api_Tag) (.d .unit))))))))) (.p (.r 100000000002002 T_api_Row) (.p (.d .bool) (.p (.r 100000000002003 (.int .i64)) (.p (.r 100000000002004 .str) (.d .unit))))))))), .box 3 (.p (.d (.int .i64)) (.p (.d (.int .u64)) (.p (.r 100000000003000 (.int .u8)) (.p (.p (.d (.int .u64)) (.p (.d .bool) (.p (.d (.int .i64)) (.p (.d (.int .u64)) (.p (.d (.arr 32 (.int .u8))) (.p (.d (.int .i64)) (.p (.d T_api_Lock) (.p (.r 100000000003001 T_api_Tag) (.d .unit))))))))) (.p (.r 100000000003002 T_api_Row) (.p (.d .bool) (.p (.r 100000000003003 (.int .i64)) (.p (.r 100000000003004 .str) (.d .unit))))))))), .box 500000 (.d T_pack_Reader)]
noncomputable def T : CT := (.s .o (.s .o (.s .o (.s .o (.r g1 (.s .o (.s .o (.s (.s .o (.b (.l g2 .o))) (.r g3 (.s (.s .o (.b (.l g4 .o))) (.r g5 .o)))))))))))
noncomputable def J1 (n : Nat) : D_wire_reader × D_api_Reply × D_api_Reply × D_pack_Reader × Unit → Option R := jR (X n) n T (bodyOf Tryz.f99) (endK ia io) g1 [1, 1, 1, 1] []
noncomputable def J2 (n : Nat) (m : Nat) : Int × Int × D_wire_reader × D_api_Reply × D_api_Reply × D_pack_Reader × Unit → Option R := jL (X n) n T (bodyOf Tryz.f99) (endK ia io) g2 [1, 1, 1, 1, 1, 1, 0, 1, 0] [] m
noncomputable def J3 (n : Nat) : D_wire_reader × D_api_Reply × D_api_Reply × D_pack_Reader × Unit → Option R := jR (X n) n T (bodyOf Tryz.f99) (endK ia io) g3 [1, 1, 1, 1, 1, 1, 1] []
noncomputable def J4 (n : Nat) (m : Nat) : Int × Int × D_wire_reader × D_api_Reply × D_api_Reply × D_pack_Reader × Unit → Option R := jL (X n) n T (bodyOf Tryz.f99) (endK ia io) g4 [1, 1, 1, 1, 1, 1, 1, 0, 1, 0] [] m
noncomputable def J5 (n : Nat) : D_api_Reply × D_api_Reply × D_pack_Reader × Unit → Option R := jR (X n) n T (bodyOf Tryz.f99) (endK ia io) g5 [1, 1, 1, 1, 1, 1, 1, 1] []
noncomputable def f (n : Nat) (rc0 : D_pack_Reader) : Option R := fRun (X n) n T Tryz.f99 ia io (rc0, ())
theorem e0 (n : Nat) (rc0 : D_pack_Reader) : f n rc0 =
  bnd (F_pack_Reader_Num.f n rc0) fun u1 =>
  bnd (F_wire_reader_body.f n u1.2.1) fun u2 =>
  bnd (F_pack_Reader_Flag.f n u2.2.1) fun u3 =>
  bIf (u3.1) (
    bnd (F_entry_Reader_Version.f n u3.2.1) fun u4 =>
    J1 n ((((), ()), ()), (0, (0, ([], ((0, (false, (0, (0, ((List.replicate 32 0), (0, ((0, (0, (false, ()))), ([], ())))))))), ([], (false, ([], ([], ())))))))), (0, (u1.1, (u2.1, ((u4.1.1, (u4.1.2.1, (u4.1.2.2.1, (u4.1.2.2.2.1, (u4.1.2.2.2.2.1, (u4.1.2.2.2.2.2.1, (u4.1.2.2.2.2.2.2.1, (u4.1.2.2.2.2.2.2.2.1, u4.1.2.2.2.2.2.2.2.2)))))))), ([], (false, ([], ([], ())))))))), u4.2.1, ())
    ) (
    J1 n ((((), ()), ()), (0, (0, ([], ((0, (false, (0, (0, ((List.replicate 32 0), (0, ((0, (0, (false, ()))), ([], ())))))))), ([], (false, ([], ([], ())))))))), (0, (u1.1, (u2.1, ((0, (false, (0, (0, ((List.replicate 32 0), (0, ((0, (0, (false, ()))), ([], ())))))))), ([], (false, ([], ([], ())))))))), u3.2.1, ())
    ) := (hideF_eq _).trans (by kernel_rfl)
theorem e1 (n : Nat) (r : D_wire_reader) (b2 : D_api_Reply) (out : D_api_Reply) (b500000 : D_pack_Reader) : J1 n (r, b2, out, b500000, ()) =
  bnd (F_wire_reader_rows.f n b500000) fun u1 =>
  bnd (F_pack_Reader_Flag.f n u1.2.1) fun u2 =>
  bnd (F_pack_Reader_Count.f n u2.2.1 8) fun u3 =>
  J2 n n (u3.1, 0, (((), r.1.2), r.2), (b2.1, (b2.2.1, (b2.2.2.1, ((b2.2.2.2.1.1, (b2.2.2.2.1.2.1, (b2.2.2.2.1.2.2.1, (b2.2.2.2.1.2.2.2.1, (b2.2.2.2.1.2.2.2.2.1, (b2.2.2.2.1.2.2.2.2.2.1, (b2.2.2.2.1.2.2.2.2.2.2.1, (b2.2.2.2.1.2.2.2.2.2.2.2.1, b2.2.2.2.1.2.2.2.2.2.2.2.2)))))))), (b2.2.2.2.2.1, (b2.2.2.2.2.2.1, (b2.2.2.2.2.2.2.1, (b2.2.2.2.2.2.2.2.1, b2.2.2.2.2.2.2.2.2)))))))), (out.1, (out.2.1, (out.2.2.1, ((out.2.2.2.1.1, (out.2.2.2.1.2.1, (out.2.2.2.1.2.2.1, (out.2.2.2.1.2.2.2.1, (out.2.2.2.1.2.2.2.2.1, (out.2.2.2.1.2.2.2.2.2.1, (out.2.2.2.1.2.2.2.2.2.2.1, (out.2.2.2.1.2.2.2.2.2.2.2.1, out.2.2.2.1.2.2.2.2.2.2.2.2)))))))), (u1.1, (u2.1, (out.2.2.2.2.2.2.1, (out.2.2.2.2.2.2.2.1, out.2.2.2.2.2.2.2.2)))))))), u3.2.1, ()) := (hideF_eq _).trans (by kernel_rfl)
theorem e2 (n m : Nat) (t31 : Int) (t32 : Int) (r : D_wire_reader) (b2 : D_api_Reply) (out : D_api_Reply) (b500000 : D_pack_Reader) : J2 n (m + 1) (t31, t32, r, b2, out, b500000, ()) =
  bIf ((hide (decide (t32 < t31)))) (
    bnd (F_pack_Reader_Num.f n b500000) fun u1 =>
    gIf ((out.2.2.2.2.2.2.1.length + 1) * 8 ≤ 70368744177664) (
      J2 n m (t31, (IntKind.i64.wrap (t32 + (1 : Int))), (((), r.1.2), r.2), (b2.1, (b2.2.1, (b2.2.2.1, ((b2.2.2.2.1.1, (b2.2.2.2.1.2.1, (b2.2.2.2.1.2.2.1, (b2.2.2.2.1.2.2.2.1, (b2.2.2.2.1.2.2.2.2.1, (b2.2.2.2.1.2.2.2.2.2.1, (b2.2.2.2.1.2.2.2.2.2.2.1, (b2.2.2.2.1.2.2.2.2.2.2.2.1, b2.2.2.2.1.2.2.2.2.2.2.2.2)))))))), (b2.2.2.2.2.1, (b2.2.2.2.2.2.1, (b2.2.2.2.2.2.2.1, (b2.2.2.2.2.2.2.2.1, b2.2.2.2.2.2.2.2.2)))))))), (out.1, (out.2.1, (out.2.2.1, ((out.2.2.2.1.1, (out.2.2.2.1.2.1, (out.2.2.2.1.2.2.1, (out.2.2.2.1.2.2.2.1, (out.2.2.2.1.2.2.2.2.1, (out.2.2.2.1.2.2.2.2.2.1, (out.2.2.2.1.2.2.2.2.2.2.1, (out.2.2.2.1.2.2.2.2.2.2.2.1, out.2.2.2.1.2.2.2.2.2.2.2.2)))))))), (out.2.2.2.2.1, (out.2.2.2.2.2.1, ((out.2.2.2.2.2.2.1 ++ ([(IntKind.i64.wrap u1.1)] : List (Int))), (out.2.2.2.2.2.2.2.1, out.2.2.2.2.2.2.2.2)))))))), u1.2.1, ())
      )
    ) (
    J3 n ((((), r.1.2), r.2), (b2.1, (b2.2.1, (b2.2.2.1, ((b2.2.2.2.1.1, (b2.2.2.2.1.2.1, (b2.2.2.2.1.2.2.1, (b2.2.2.2.1.2.2.2.1, (b2.2.2.2.1.2.2.2.2.1, (b2.2.2.2.1.2.2.2.2.2.1, (b2.2.2.2.1.2.2.2.2.2.2.1, (b2.2.2.2.1.2.2.2.2.2.2.2.1, b2.2.2.2.1.2.2.2.2.2.2.2.2)))))))), (b2.2.2.2.2.1, (b2.2.2.2.2.2.1, (b2.2.2.2.2.2.2.1, (b2.2.2.2.2.2.2.2.1, b2.2.2.2.2.2.2.2.2)))))))), (out.1, (out.2.1, (out.2.2.1, ((out.2.2.2.1.1, (out.2.2.2.1.2.1, (out.2.2.2.1.2.2.1, (out.2.2.2.1.2.2.2.1, (out.2.2.2.1.2.2.2.2.1, (out.2.2.2.1.2.2.2.2.2.1, (out.2.2.2.1.2.2.2.2.2.2.1, (out.2.2.2.1.2.2.2.2.2.2.2.1, out.2.2.2.1.2.2.2.2.2.2.2.2)))))))), (out.2.2.2.2.1, (out.2.2.2.2.2.1, (out.2.2.2.2.2.2.1, (out.2.2.2.2.2.2.2.1, out.2.2.2.2.2.2.2.2)))))))), b500000, ())
    ) := (hideF_eq _).trans (by kernel_rfl)
theorem e3 (n : Nat) (r : D_wire_reader) (b2 : D_api_Reply) (out : D_api_Reply) (b500000 : D_pack_Reader) : J3 n (r, b2, out, b500000, ()) =
  bnd (F_pack_Reader_Count.f n b500000 16) fun u1 =>
  J4 n n (u1.1, 0, (((), r.1.2), r.2), (b2.1, (b2.2.1, (b2.2.2.1, ((b2.2.2.2.1.1, (b2.2.2.2.1.2.1, (b2.2.2.2.1.2.2.1, (b2.2.2.2.1.2.2.2.1, (b2.2.2.2.1.2.2.2.2.1, (b2.2.2.2.1.2.2.2.2.2.1, (b2.2.2.2.1.2.2.2.2.2.2.1, (b2.2.2.2.1.2.2.2.2.2.2.2.1, b2.2.2.2.1.2.2.2.2.2.2.2.2)))))))), (b2.2.2.2.2.1, (b2.2.2.2.2.2.1, (b2.2.2.2.2.2.2.1, (b2.2.2.2.2.2.2.2.1, b2.2.2.2.2.2.2.2.2)))))))), (out.1, (out.2.1, (out.2.2.1, ((out.2.2.2.1.1, (out.2.2.2.1.2.1, (out.2.2.2.1.2.2.1, (out.2.2.2.1.2.2.2.1, (out.2.2.2.1.2.2.2.2.1, (out.2.2.2.1.2.2.2.2.2.1, (out.2.2.2.1.2.2.2.2.2.2.1, (out.2.2.2.1.2.2.2.2.2.2.2.1, out.2.2.2.1.2.2.2.2.2.2.2.2)))))))), (out.2.2.2.2.1, (out.2.2.2.2.2.1, (out.2.2.2.2.2.2.1, (out.2.2.2.2.2.2.2.1, out.2.2.2.2.2.2.2.2)))))))), u1.2.1, ()) := (hideF_eq _).trans (by kernel_rfl)
theorem e4 (n m : Nat) (t48 : Int) (t49 : Int) (r : D_wire_reader) (b2 : D_api_Reply) (out : D_api_Reply) (b500000 : D_pack_Reader) : J4 n (m + 1) (t48, t49, r, b2, out, b500000, ()) =
  bIf ((hide (decide (t49 < t48)))) (
    bnd (F_pack_Reader_Text.f n b500000) fun u1 =>
    gIf ((out.2.2.2.2.2.2.2.1.length + 1) * 16 ≤ 70368744177664) (
      J4 n m (t48, (IntKind.i64.wrap (t49 + (1 : Int))), (((), r.1.2), r.2), (b2.1, (b2.2.1, (b2.2.2.1, ((b2.2.2.2.1.1, (b2.2.2.2.1.2.1, (b2.2.2.2.1.2.2.1, (b2.2.2.2.1.2.2.2.1, (b2.2.2.2.1.2.2.2.2.1, (b2.2.2.2.1.2.2.2.2.2.1, (b2.2.2.2.1.2.2.2.2.2.2.1, (b2.2.2.2.1.2.2.2.2.2.2.2.1, b2.2.2.2.1.2.2.2.2.2.2.2.2)))))))), (b2.2.2.2.2.1, (b2.2.2.2.2.2.1, (b2.2.2.2.2.2.2.1, (b2.2.2.2.2.2.2.2.1, b2.2.2.2.2.2.2.2.2)))))))), (out.1, (out.2.1, (out.2.2.1, ((out.2.2.2.1.1, (out.2.2.2.1.2.1, (out.2.2.2.1.2.2.1, (out.2.2.2.1.2.2.2.1, (out.2.2.2.1.2.2.2.2.1, (out.2.2.2.1.2.2.2.2.2.1, (out.2.2.2.1.2.2.2.2.2.2.1, (out.2.2.2.1.2.2.2.2.2.2.2.1, out.2.2.2.1.2.2.2.2.2.2.2.2)))))))), (out.2.2.2.2.1, (out.2.2.2.2.2.1, (out.2.2.2.2.2.2.1, ((out.2.2.2.2.2.2.2.1 ++ ([u1.1] : List (ByteArray))), out.2.2.2.2.2.2.2.2)))))))), u1.2.1, ())
      )
    ) (
    J5 n ((b2.1, (b2.2.1, (b2.2.2.1, ((b2.2.2.2.1.1, (b2.2.2.2.1.2.1, (b2.2.2.2.1.2.2.1, (b2.2.2.2.1.2.2.2.1, (b2.2.2.2.1.2.2.2.2.1, (b2.2.2.2.1.2.2.2.2.2.1, (b2.2.2.2.1.2.2.2.2.2.2.1, (b2.2.2.2.1.2.2.2.2.2.2.2.1, b2.2.2.2.1.2.2.2.2.2.2.2.2)))))))), (b2.2.2.2.2.1, (b2.2.2.2.2.2.1, (b2.2.2.2.2.2.2.1, (b2.2.2.2.2.2.2.2.1, b2.2.2.2.2.2.2.2.2)))))))), (out.1, (out.2.1, (out.2.2.1, ((out.2.2.2.1.1, (out.2.2.2.1.2.1, (out.2.2.2.1.2.2.1, (out.2.2.2.1.2.2.2.1, (out.2.2.2.1.2.2.2.2.1, (out.2.2.2.1.2.2.2.2.2.1, (out.2.2.2.1.2.2.2.2.2.2.1, (out.2.2.2.1.2.2.2.2.2.2.2.1, out.2.2.2.1.2.2.2.2.2.2.2.2)))))))), (out.2.2.2.2.1, (out.2.2.2.2.2.1, (out.2.2.2.2.2.2.1, (out.2.2.2.2.2.2.2.1, out.2.2.2.2.2.2.2.2)))))))), b500000, ())
    ) := (hideF_eq _).trans (by kernel_rfl)
theorem e5 (n : Nat) (b2 : D_api_Reply) (out : D_api_Reply) (b500000 : D_pack_Reader) : J5 n (b2, out, b500000, ()) =
  some ((out.1, (out.2.1, (out.2.2.1, ((out.2.2.2.1.1, (out.2.2.2.1.2.1, (out.2.2.2.1.2.2.1, (out.2.2.2.1.2.2.2.1, (out.2.2.2.1.2.2.2.2.1, (out.2.2.2.1.2.2.2.2.2.1, (out.2.2.2.1.2.2.2.2.2.2.1, (out.2.2.2.1.2.2.2.2.2.2.2.1, out.2.2.2.1.2.2.2.2.2.2.2.2)))))))), (out.2.2.2.2.1, (out.2.2.2.2.2.1, (out.2.2.2.2.2.2.1, (out.2.2.2.2.2.2.2.1, out.2.2.2.2.2.2.2.2)))))))), b500000, ()) := (hideF_eq _).trans (by kernel_rfl)
theorem phi (n : Nat) : ∀ e ∈ (X n).c.Φ, EntryOk Tryz.prog e := allE_cons (mkEntry_ok (F_pack_Reader_Count.ok n)) (allE_cons (mkEntry_ok (F_pack_Reader_Text.ok n)) (allE_cons (mkEntry_ok (F_pack_Reader_Num.ok n)) (allE_cons (mkEntry_ok (F_entry_Reader_Version.ok n)) (allE_cons (mkEntry_ok (F_wire_reader_body.ok n)) (allE_cons (mkEntry_ok (F_pack_Reader_Flag.ok n)) (allE_cons (mkEntry_ok (F_wire_reader_rows.ok n)) (allE_nil)))))))
theorem ok (n : Nat) : FnOk Tryz.prog 99 ia io (fRun (X n) n T Tryz.f99 ia io) := tree_ok mixed tabIs (phi n) Tryz.func99 (by kernel_rfl) rfl
noncomputable def en (n : Nat) : Entry := mkEntry 99 ia io (fRun (X n) n T Tryz.f99 ia io)
end F_wire_reader_reply
end Go.Proofs.YtcpkhpboemfglaaGreatDoor

namespace Go.Proofs.YtcpkhpboemfglaaGreatDoor
open Go Go.Va Go.Proofs
namespace F_wire_Told
abbrev ia : List Ai := [.dat (.slice (.int .u8))]
abbrev io : List (Nat × Oi) := [(2, .cel (.d T_api_Reply)), (3, .dat (.int .i64))]
abbrev R : Type := DOut ia io
noncomputable def X (n : Nat) : Ctx := ⟨⟨tab, [F_wire_Tell.en n, F_entry_NewReader.en n, F_pack_Reader_End.en n, F_bytes_Equal.en n, F_entry_Reader_Small.en n, F_wire_reader_reply.en n], 0, []⟩, 41, bnOf 0 ia⟩
abbrev g1 : List Si := [.dat 0 (.slice (.int .u8)), .ref 2 2 T_api_Reply, .ref 4 4 T_wire_reader, .ref 5 5 T_api_Reply, .box 2 (.p (.d (.int .i64)) (.p (.d (.int .u64)) (.p (.r 100000000002000 (.int .u8)) (.p (.p (.d (.int .u64)) (.p (.d .bool) (.p (.d (.int .i64)) (.p (.d (.int .u64)) (.p (.d (.arr 32 (.int .u8))) (.p (.d (.int .i64)) (.p (.d T_api_Lock) (.p (.r 100000000002001 T_api_Tag) (.d .unit))))))))) (.p (.r 100000000002002 T_api_Row) (.p (.d .bool) (.p (.r 100000000002003 (.int .i64)) (.p (.r 100000000002004 .str) (.d .unit))))))))), .box 4 (.p (.p (.al 1500000000009 T_pack_Reader) (.d .unit)) (.d .unit)), .box 5 (.p (.d (.int .i64)) (.p (.d (.int .u64)) (.p (.r 100000000005000 (.int .u8)) (.p (.p (.d (.int .u64)) (.p (.d .bool) (.p (.d (.int .i64)) (.p (.d (.int .u64)) (.p (.d (.arr 32 (.int .u8))) (.p (.d (.int .i64)) (.p (.d T_api_Lock) (.p (.r 100000000005001 T_api_Tag) (.d .unit))))))))) (.p (.r 100000000005002 T_api_Row) (.p (.d .bool) (.p (.r 100000000005003 (.int .i64)) (.p (.r 100000000005004 .str) (.d .unit))))))))), .box 1500000000009 (.d T_pack_Reader)]
abbrev g2 : List Si := [.ref 2 2 T_api_Reply, .ref 5 5 T_api_Reply, .dat 38 .bool, .box 2 (.p (.d (.int .i64)) (.p (.d (.int .u64)) (.p (.r 100000000002000 (.int .u8)) (.p (.p (.d (.int .u64)) (.p (.d .bool) (.p (.d (.int .i64)) (.p (.d (.int .u64)) (.p (.d (.arr 32 (.int .u8))) (.p (.d (.int .i64)) (.p (.d T_api_Lock) (.p (.r 100000000002001 T_api_Tag) (.d .unit))))))))) (.p (.r 100000000002002 T_api_Row) (.p (.d .bool) (.p (.r 100000000002003 (.int .i64)) (.p (.r 100000000002004 .str) (.d .unit))))))))), .box 5 (.d T_api_Reply)]
abbrev g3 : List Si := [.ref 2 2 T_api_Reply, .ref 5 5 T_api_Reply, .box 2 (.p (.d (.int .i64)) (.p (.d (.int .u64)) (.p (.r 100000000002000 (.int .u8)) (.p (.p (.d (.int .u64)) (.p (.d .bool) (.p (.d (.int .i64)) (.p (.d (.int .u64)) (.p (.d (.arr 32 (.int .u8))) (.p (.d (.int .i64)) (.p (.d T_api_Lock) (.p (.r 100000000002001 T_api_Tag) (.d .unit))))))))) (.p (.r 100000000002002 T_api_Row) (.p (.d .bool) (.p (.r 100000000002003 (.int .i64)) (.p (.r 100000000002004 .str) (.d .unit))))))))), .box 5 (.d T_api_Reply)]
noncomputable def T : CT := (.s .o (.s .o (.s .o (.s .o (.r g1 (.s .o (.s (.s .o (.s .o (.r g2 .o))) (.r g3 .o))))))))
noncomputable def J1 (n : Nat) : (List (Int)) × D_api_Reply × D_wire_reader × D_api_Reply × D_pack_Reader × Unit → Option R := jR (X n) n T (bodyOf Tryz.f33) (endK ia io) g1 [1, 1, 1, 1] []
noncomputable def J2 (n : Nat) : Bool × D_api_Reply × D_api_Reply × Unit → Option R := jR (X n) n T (bodyOf Tryz.f33) (endK ia io) g2 [1, 1, 1, 1, 1, 0, 1, 1] []
noncomputable def J3 (n : Nat) : D_api_Reply × D_api_Reply × Unit → Option R := jR (X n) n T (bodyOf Tryz.f33) (endK ia io) g3 [1, 1, 1, 1, 1, 1] []
noncomputable def f (n : Nat) (b : List (Int)) : Option R := fRun (X n) n T Tryz.f33 ia io (b, ())
theorem e0 (n : Nat) (b : List (Int)) : f n b =
  bnd (F_entry_NewReader.f n b) fun u1 =>
  bnd (F_entry_Reader_Small.f n u1.1) fun u2 =>
  bIf ((hide (u2.1 == (0 : Int)))) (
    bnd (F_wire_reader_reply.f n u2.2.1) fun u3 =>
    J1 n (b, (0, (0, ([], ((0, (false, (0, (0, ((List.replicate 32 0), (0, ((0, (0, (false, ()))), ([], ())))))))), ([], (false, ([], ([], ())))))))), (((), ()), ()), (u3.1.1, (u3.1.2.1, (u3.1.2.2.1, ((u3.1.2.2.2.1.1, (u3.1.2.2.2.1.2.1, (u3.1.2.2.2.1.2.2.1, (u3.1.2.2.2.1.2.2.2.1, (u3.1.2.2.2.1.2.2.2.2.1, (u3.1.2.2.2.1.2.2.2.2.2.1, (u3.1.2.2.2.1.2.2.2.2.2.2.1, (u3.1.2.2.2.1.2.2.2.2.2.2.2.1, u3.1.2.2.2.1.2.2.2.2.2.2.2.2)))))))), (u3.1.2.2.2.2.1, (u3.1.2.2.2.2.2.1, (u3.1.2.2.2.2.2.2.1, (u3.1.2.2.2.2.2.2.2.1, u3.1.2.2.2.2.2.2.2.2)))))))), u3.2.1, ())
    ) (
    J1 n (b, (0, (0, ([], ((0, (false, (0, (0, ((List.replicate 32 0), (0, ((0, (0, (false, ()))), ([], ())))))))), ([], (false, ([], ([], ())))))))), (((), ()), ()), (u2.1, (0, ([], ((0, (false, (0, (0, ((List.replicate 32 0), (0, ((0, (0, (false, ()))), ([], ())))))))), ([], (false, ([], ([], ())))))))), u2.2.1, ())
    ) := (hideF_eq _).trans (by kernel_rfl)
theorem e1 (n : Nat) (b : List (Int)) (b2 : D_api_Reply) (r : D_wire_reader) (out : D_api_Reply) (b1500000000009 : D_pack_Reader) : J1 n (b, b2, r, out, b1500000000009, ()) =
  bnd (F_pack_Reader_End.f n b1500000000009) fun u1 =>
  bIf ((hide (u1.1 != (0 : Int)))) (
    some ((0, (0, ([], ((0, (false, (0, (0, ((List.replicate 32 0), (0, ((0, (0, (false, ()))), ([], ())))))))), ([], (false, ([], ([], ())))))))), 2, ())
    ) (
    bnd (F_wire_Tell.f n (out.1, (out.2.1, (out.2.2.1, ((out.2.2.2.1.1, (out.2.2.2.1.2.1, (out.2.2.2.1.2.2.1, (out.2.2.2.1.2.2.2.1, (out.2.2.2.1.2.2.2.2.1, (out.2.2.2.1.2.2.2.2.2.1, (out.2.2.2.1.2.2.2.2.2.2.1, (out.2.2.2.1.2.2.2.2.2.2.2.1, out.2.2.2.1.2.2.2.2.2.2.2.2)))))))), (out.2.2.2.2.1, (out.2.2.2.2.2.1, (out.2.2.2.2.2.2.1, (out.2.2.2.2.2.2.2.1, out.2.2.2.2.2.2.2.2))))))))) fun u2 =>
    bIf ((hide (u2.2.1 != (0 : Int)))) (
      J2 n (true, (b2.1, (b2.2.1, (b2.2.2.1, ((b2.2.2.2.1.1, (b2.2.2.2.1.2.1, (b2.2.2.2.1.2.2.1, (b2.2.2.2.1.2.2.2.1, (b2.2.2.2.1.2.2.2.2.1, (b2.2.2.2.1.2.2.2.2.2.1, (b2.2.2.2.1.2.2.2.2.2.2.1, (b2.2.2.2.1.2.2.2.2.2.2.2.1, b2.2.2.2.1.2.2.2.2.2.2.2.2)))))))), (b2.2.2.2.2.1, (b2.2.2.2.2.2.1, (b2.2.2.2.2.2.2.1, (b2.2.2.2.2.2.2.2.1, b2.2.2.2.2.2.2.2.2)))))))), (out.1, (out.2.1, (out.2.2.1, ((out.2.2.2.1.1, (out.2.2.2.1.2.1, (out.2.2.2.1.2.2.1, (out.2.2.2.1.2.2.2.1, (out.2.2.2.1.2.2.2.2.1, (out.2.2.2.1.2.2.2.2.2.1, (out.2.2.2.1.2.2.2.2.2.2.1, (out.2.2.2.1.2.2.2.2.2.2.2.1, out.2.2.2.1.2.2.2.2.2.2.2.2)))))))), (out.2.2.2.2.1, (out.2.2.2.2.2.1, (out.2.2.2.2.2.2.1, (out.2.2.2.2.2.2.2.1, out.2.2.2.2.2.2.2.2)))))))), ())
      ) (
      bnd (F_bytes_Equal.f n u2.1 b) fun u3 =>
      J2 n ((!u3.1), (b2.1, (b2.2.1, (b2.2.2.1, ((b2.2.2.2.1.1, (b2.2.2.2.1.2.1, (b2.2.2.2.1.2.2.1, (b2.2.2.2.1.2.2.2.1, (b2.2.2.2.1.2.2.2.2.1, (b2.2.2.2.1.2.2.2.2.2.1, (b2.2.2.2.1.2.2.2.2.2.2.1, (b2.2.2.2.1.2.2.2.2.2.2.2.1, b2.2.2.2.1.2.2.2.2.2.2.2.2)))))))), (b2.2.2.2.2.1, (b2.2.2.2.2.2.1, (b2.2.2.2.2.2.2.1, (b2.2.2.2.2.2.2.2.1, b2.2.2.2.2.2.2.2.2)))))))), (out.1, (out.2.1, (out.2.2.1, ((out.2.2.2.1.1, (out.2.2.2.1.2.1, (out.2.2.2.1.2.2.1, (out.2.2.2.1.2.2.2.1, (out.2.2.2.1.2.2.2.2.1, (out.2.2.2.1.2.2.2.2.2.1, (out.2.2.2.1.2.2.2.2.2.2.1, (out.2.2.2.1.2.2.2.2.2.2.2.1, out.2.2.2.1.2.2.2.2.2.2.2.2)))))))), (out.2.2.2.2.1, (out.2.2.2.2.2.1, (out.2.2.2.2.2.2.1, (out.2.2.2.2.2.2.2.1, out.2.2.2.2.2.2.2.2)))))))), ())
      )
    ) := (hideF_eq _).trans (by kernel_rfl)
theorem e2 (n : Nat) (t38 : Bool) (b2 : D_api_Reply) (out : D_api_Reply) : J2 n (t38, b2, out, ()) =
  bIf (t38) (
    some ((0, (0, ([], ((0, (false, (0, (0, ((List.replicate 32 0), (0, ((0, (0, (false, ()))), ([], ())))))))), ([], (false, ([], ([], ())))))))), 2, ())
    ) (
    J3 n ((b2.1, (b2.2.1, (b2.2.2.1, ((b2.2.2.2.1.1, (b2.2.2.2.1.2.1, (b2.2.2.2.1.2.2.1, (b2.2.2.2.1.2.2.2.1, (b2.2.2.2.1.2.2.2.2.1, (b2.2.2.2.1.2.2.2.2.2.1, (b2.2.2.2.1.2.2.2.2.2.2.1, (b2.2.2.2.1.2.2.2.2.2.2.2.1, b2.2.2.2.1.2.2.2.2.2.2.2.2)))))))), (b2.2.2.2.2.1, (b2.2.2.2.2.2.1, (b2.2.2.2.2.2.2.1, (b2.2.2.2.2.2.2.2.1, b2.2.2.2.2.2.2.2.2)))))))), out, ())
    ) := (hideF_eq _).trans (by kernel_rfl)
theorem e3 (n : Nat) (b2 : D_api_Reply) (out : D_api_Reply) : J3 n (b2, out, ()) =
  some (out, 0, ()) := (hideF_eq _).trans (by kernel_rfl)
theorem phi (n : Nat) : ∀ e ∈ (X n).c.Φ, EntryOk Tryz.prog e := allE_cons (mkEntry_ok (F_wire_Tell.ok n)) (allE_cons (mkEntry_ok (F_entry_NewReader.ok n)) (allE_cons (mkEntry_ok (F_pack_Reader_End.ok n)) (allE_cons (mkEntry_ok (F_bytes_Equal.ok n)) (allE_cons (mkEntry_ok (F_entry_Reader_Small.ok n)) (allE_cons (mkEntry_ok (F_wire_reader_reply.ok n)) (allE_nil))))))
theorem ok (n : Nat) : FnOk Tryz.prog 33 ia io (fRun (X n) n T Tryz.f33 ia io) := tree_ok mixed tabIs (phi n) Tryz.func33 (by kernel_rfl) rfl
noncomputable def en (n : Nat) : Entry := mkEntry 33 ia io (fRun (X n) n T Tryz.f33 ia io)
end F_wire_Told
end Go.Proofs.YtcpkhpboemfglaaGreatDoor

namespace Go.Proofs.YtcpkhpboemfglaaGreatDoor
open Go Go.Va Go.Proofs
namespace F_law26_awake
abbrev ia : List Ai := []
abbrev io : List (Nat × Oi) := [(0, .dat .bool)]
abbrev R : Type := DOut ia io
noncomputable def X (n : Nat) : Ctx := ⟨⟨tab, [F_wire_Asked.en n, F_wire_Tell.en n, F_wire_Ask.en n], 0, []⟩, 47, bnOf 0 ia⟩
noncomputable def T : CT := .o
noncomputable def f (n : Nat) : Option R := fRun (X n) n T Tryz.f25 ia io (())
theorem e0 (n : Nat) : f n =
  bnd (F_wire_Ask.f n (7, ((⟨#[109, 101]⟩ : ByteArray), ((⟨#[97, 98, 99]⟩ : ByteArray), ((⟨#[107]⟩ : ByteArray), (0, ([], ([], ((0, (0, (false, ()))), (false, ((0, (0, ())), ([], ([], (0, ([], ((⟨#[]⟩ : ByteArray), ((⟨#[]⟩ : ByteArray), ((⟨#[]⟩ : ByteArray), (((⟨#[]⟩ : ByteArray), ((⟨#[]⟩ : ByteArray), (0, ()))), (0, ())))))))))))))))))))) fun u1 =>
  bnd (F_wire_Asked.f n u1.1) fun u2 =>
  bnd (F_wire_Tell.f n (7, (0, ([], ((0, (false, (0, (0, ((List.replicate 32 0), (0, ((0, (0, (false, ()))), ([], ())))))))), ([], (false, ([], ([], ()))))))))) fun u3 =>
  bIf ((hide (u1.2.1 == (0 : Int)))) (
    bIf ((hide (u2.2.1 == (0 : Int)))) (
      bIf ((hide (u3.2.1 == (0 : Int)))) (
        bIf ((hide (eqS (bytesOf u1.1) (⟨#[7, 2, 109, 101, 3, 97, 98, 99, 1, 107, 0]⟩ : ByteArray)))) (
          bIf ((hide (eqS u2.1.2.2.2.1 (⟨#[107]⟩ : ByteArray)))) (
            some ((hide (eqS (bytesOf u3.1) (⟨#[7]⟩ : ByteArray))), ())
            ) (
            some (false, ())
            )
          ) (
          some (false, ())
          )
        ) (
        some (false, ())
        )
      ) (
      some (false, ())
      )
    ) (
    some (false, ())
    ) := (hideF_eq _).trans (by kernel_rfl)
theorem phi (n : Nat) : ∀ e ∈ (X n).c.Φ, EntryOk Tryz.prog e := allE_cons (mkEntry_ok (F_wire_Asked.ok n)) (allE_cons (mkEntry_ok (F_wire_Tell.ok n)) (allE_cons (mkEntry_ok (F_wire_Ask.ok n)) (allE_nil)))
theorem ok (n : Nat) : FnOk Tryz.prog 25 ia io (fRun (X n) n T Tryz.f25 ia io) := tree_ok mixed tabIs (phi n) Tryz.func25 (by kernel_rfl) rfl
noncomputable def en (n : Nat) : Entry := mkEntry 25 ia io (fRun (X n) n T Tryz.f25 ia io)
end F_law26_awake
end Go.Proofs.YtcpkhpboemfglaaGreatDoor

namespace Go.Proofs.YtcpkhpboemfglaaGreatDoor
open Go Go.Va Go.Proofs
namespace F_law26_WireTold
abbrev ia : List Ai := [.dat T_api_Reply, .dat (.slice (.int .u8))]
abbrev io : List (Nat × Oi) := [(4, .dat .bool)]
abbrev R : Type := DOut ia io
noncomputable def X (n : Nat) : Ctx := ⟨⟨tab, [F_law26_awake.en n, F_ref26_Tell.en n, F_ref24_Alike.en n, F_wire_Told.en n], 0, []⟩, 67, bnOf 0 ia⟩
abbrev g1 : List Si := [.dat 1 (.slice (.int .u8))]
noncomputable def T : CT := (.s .o (.s .o (.s .o (.r g1 .o))))
noncomputable def J1 (n : Nat) : (List (Int)) × Unit → Option R := jR (X n) n T (bodyOf Tryz.f12) (endK ia io) g1 [1, 1, 1] []
noncomputable def f (n : Nat) (r : D_api_Reply) (b : List (Int)) : Option R := fRun (X n) n T Tryz.f12 ia io (r, b, ())
theorem e0 (n : Nat) (r : D_api_Reply) (b : List (Int)) : f n r b =
  bnd (F_ref26_Tell.f n r) fun u1 =>
  bIf ((hide (u1.2.1 == (0 : Int)))) (
    bnd (F_wire_Told.f n (ofBytes u1.1)) fun u2 =>
    bIf ((hide (u2.2.1 != (0 : Int)))) (
      some (false, ())
      ) (
      bnd (F_ref24_Alike.f n u2.1 r) fun u3 =>
      bIf ((!u3.1)) (
        some (false, ())
        ) (
        J1 n (b, ())
        )
      )
    ) (
    J1 n (b, ())
    ) := (hideF_eq _).trans (by kernel_rfl)
theorem e1 (n : Nat) (b : List (Int)) : J1 n (b, ()) =
  bnd (F_wire_Told.f n b) fun u1 =>
  bIf ((hide (u1.2.1 != (0 : Int)))) (
    bnd (F_law26_awake.f n) fun u2 =>
    bIf (u2.1) (
      bIf ((hide (u1.2.1 == (2 : Int)))) (
        bnd (F_ref24_Alike.f n u1.1 (0, (0, ([], ((0, (false, (0, (0, ((List.replicate 32 0), (0, ((0, (0, (false, ()))), ([], ())))))))), ([], (false, ([], ([], ()))))))))) fun u3 =>
        some (u3.1, ())
        ) (
        some (false, ())
        )
      ) (
      some (false, ())
      )
    ) (
    bnd (F_ref26_Tell.f n u1.1) fun u4 =>
    bnd (F_law26_awake.f n) fun u5 =>
    bIf (u5.1) (
      bIf ((hide (u4.2.1 == (0 : Int)))) (
        some ((hide (eqS u4.1 (bytesOf b))), ())
        ) (
        some (false, ())
        )
      ) (
      some (false, ())
      )
    ) := (hideF_eq _).trans (by kernel_rfl)
theorem phi (n : Nat) : ∀ e ∈ (X n).c.Φ, EntryOk Tryz.prog e := allE_cons (mkEntry_ok (F_law26_awake.ok n)) (allE_cons (mkEntry_ok (F_ref26_Tell.ok n)) (allE_cons (mkEntry_ok (F_ref24_Alike.ok n)) (allE_cons (mkEntry_ok (F_wire_Told.ok n)) (allE_nil))))
theorem ok (n : Nat) : FnOk Tryz.prog 12 ia io (fRun (X n) n T Tryz.f12 ia io) := tree_ok mixed tabIs (phi n) Tryz.func12 (by kernel_rfl) rfl
noncomputable def en (n : Nat) : Entry := mkEntry 12 ia io (fRun (X n) n T Tryz.f12 ia io)
end F_law26_WireTold
end Go.Proofs.YtcpkhpboemfglaaGreatDoor

