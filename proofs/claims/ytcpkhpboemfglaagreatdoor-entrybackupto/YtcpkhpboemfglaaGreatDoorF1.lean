/-
  What the functions compute, by the abstract interpreter.
-/
import Derived.Test.YtcpkhpboemfglaaGreatDoorF0
set_option linter.unusedVariables false
set_option linter.unusedSimpArgs false

namespace Go.Proofs.YtcpkhpboemfglaaGreatDoor
open Go Go.Va Go.Proofs
/- chartulary/chartularyref01.Pack -/
namespace F_ref01_Pack
abbrev ia : List Ai := [.dat (.int .u64)]
abbrev io : List (Nat × Oi) := [(2, .val (.r 0 (.int .u8)))]
abbrev R : Type := DOut ia io
noncomputable def X (n : Nat) : Ctx := ⟨⟨tab, [], 0, []⟩, 27, bnOf 0 ia⟩
abbrev g1 : List Si := [.dat 0 (.int .u64), .val 3 (.r 200300 (.int .u8))]
abbrev g2 : List Si := [.val 3 (.r 200300 (.int .u8))]
noncomputable def T : CT := (.s .o (.s .o (.s (.b (.l g1 .o)) (.r g2 .o))))
noncomputable def J1 (n : Nat) (m : Nat) : Int × (List (Int)) × Unit → Option R := jL (X n) n T (bodyOf Tryz.f163) (endK ia io) g1 [1, 1, 0, 0] [] m
noncomputable def J2 (n : Nat) : (List (Int)) × Unit → Option R := jR (X n) n T (bodyOf Tryz.f163) (endK ia io) g2 [1, 1, 1] []
noncomputable def f (n : Nat) (n_ : Int) : Option R := fRun (X n) n T Tryz.f163 ia io (n_, ())
theorem e0 (n : Nat) (n_ : Int) : f n n_ =
  gNo ((128 : Int) = 0) (
    J1 n n (n_, ([(IntKind.u8.wrap (Int.tmod n_ 128))] : List (Int)), ())
    ) := (hideF_eq _).trans (by kernel_rfl)
theorem e1 (n m : Nat) (n_ : Int) (out : List (Int)) : J1 n (m + 1) (n_, out, ()) =
  bIf ((hide (decide (n_ ≥ (128 : Int))))) (
    gIf (0 ≤ (IntKind.i64.wrap (((out.length : Nat) : Int) - (1 : Int))) ∧ (IntKind.i64.wrap (((out.length : Nat) : Int) - (1 : Int))) < ((out.length : Nat) : Int)) (
      gIf (0 ≤ (IntKind.i64.wrap (((out.length : Nat) : Int) - (1 : Int))) ∧ (IntKind.i64.wrap (((out.length : Nat) : Int) - (1 : Int))) < ((out.length : Nat) : Int)) (
        gNo ((128 : Int) = 0) (
          gNo ((128 : Int) = 0) (
            gIf (((List.set out (0 + ((IntKind.i64.wrap (((out.length : Nat) : Int) - (1 : Int))).toNat)) (IntKind.u8.wrap ((List.getD out (0 + ((IntKind.i64.wrap (((out.length : Nat) : Int) - (1 : Int))).toNat)) 0) + (128 : Int)))).length + 1) * 1 ≤ 70368744177664) (
              J1 n m ((IntKind.u64.wrap (Int.tdiv n_ 128)), ((List.set out (0 + ((IntKind.i64.wrap (((out.length : Nat) : Int) - (1 : Int))).toNat)) (IntKind.u8.wrap ((List.getD out (0 + ((IntKind.i64.wrap (((out.length : Nat) : Int) - (1 : Int))).toNat)) 0) + (128 : Int)))) ++ ([(IntKind.u8.wrap (Int.tmod (IntKind.u64.wrap (Int.tdiv n_ 128)) 128))] : List (Int))), ())
              )
            )
          )
        )
      )
    ) (
    J2 n (out, ())
    ) := (hideF_eq _).trans (by kernel_rfl)
theorem e2 (n : Nat) (out : List (Int)) : J2 n (out, ()) =
  some (out, ()) := (hideF_eq _).trans (by kernel_rfl)
theorem phi (n : Nat) : ∀ e ∈ (X n).c.Φ, EntryOk Tryz.prog e := allE_nil
theorem ok (n : Nat) : FnOk Tryz.prog 163 ia io (fRun (X n) n T Tryz.f163 ia io) := tree_ok mixed tabIs (phi n) Tryz.func163 (by kernel_rfl) rfl
noncomputable def en (n : Nat) : Entry := mkEntry 163 ia io (fRun (X n) n T Tryz.f163 ia io)
end F_ref01_Pack
end Go.Proofs.YtcpkhpboemfglaaGreatDoor


namespace Go.Proofs.YtcpkhpboemfglaaGreatDoor
open Go Go.Va Go.Proofs
/- chartulary/chartularyref10.Num -/
namespace F_ref10_Num
abbrev ia : List Ai := [.dat (.int .u64)]
abbrev io : List (Nat × Oi) := [(2, .dat .str)]
abbrev R : Type := DOut ia io
noncomputable def X (n : Nat) : Ctx := ⟨⟨tab, [F_ref01_Pack.en n], 0, []⟩, 6, bnOf 0 ia⟩
noncomputable def T : CT := .o
noncomputable def f (n : Nat) (n_ : Int) : Option R := fRun (X n) n T Tryz.f88 ia io (n_, ())
theorem e0 (n : Nat) (n_ : Int) : f n n_ =
  bnd (F_ref01_Pack.f n n_) fun u1 =>
  some ((bytesOf u1.1), ()) := (hideF_eq _).trans (by kernel_rfl)
theorem phi (n : Nat) : ∀ e ∈ (X n).c.Φ, EntryOk Tryz.prog e := allE_cons (mkEntry_ok (F_ref01_Pack.ok n)) (allE_nil)
theorem ok (n : Nat) : FnOk Tryz.prog 88 ia io (fRun (X n) n T Tryz.f88 ia io) := tree_ok mixed tabIs (phi n) Tryz.func88 (by kernel_rfl) rfl
noncomputable def en (n : Nat) : Entry := mkEntry 88 ia io (fRun (X n) n T Tryz.f88 ia io)
end F_ref10_Num
end Go.Proofs.YtcpkhpboemfglaaGreatDoor


namespace Go.Proofs.YtcpkhpboemfglaaGreatDoor
open Go Go.Va Go.Proofs
/- chartulary/chartularyref14.num -/
namespace F_ref14_num
abbrev ia : List Ai := [.dat (.int .i64)]
abbrev io : List (Nat × Oi) := [(2, .dat .str)]
abbrev R : Type := DOut ia io
noncomputable def X (n : Nat) : Ctx := ⟨⟨tab, [F_ref10_Num.en n], 0, []⟩, 6, bnOf 0 ia⟩
noncomputable def T : CT := .o
noncomputable def f (n : Nat) (n_ : Int) : Option R := fRun (X n) n T Tryz.f40 ia io (n_, ())
theorem e0 (n : Nat) (n_ : Int) : f n n_ =
  bnd (F_ref10_Num.f n (IntKind.u64.wrap n_)) fun u1 =>
  some (u1.1, ()) := (hideF_eq _).trans (by kernel_rfl)
theorem phi (n : Nat) : ∀ e ∈ (X n).c.Φ, EntryOk Tryz.prog e := allE_cons (mkEntry_ok (F_ref10_Num.ok n)) (allE_nil)
theorem ok (n : Nat) : FnOk Tryz.prog 40 ia io (fRun (X n) n T Tryz.f40 ia io) := tree_ok mixed tabIs (phi n) Tryz.func40 (by kernel_rfl) rfl
noncomputable def en (n : Nat) : Entry := mkEntry 40 ia io (fRun (X n) n T Tryz.f40 ia io)
end F_ref14_num
end Go.Proofs.YtcpkhpboemfglaaGreatDoor


namespace Go.Proofs.YtcpkhpboemfglaaGreatDoor
open Go Go.Va Go.Proofs
/- chartulary/chartularyref01.Zig -/
namespace F_ref01_Zig
abbrev ia : List Ai := [.dat (.int .i64)]
abbrev io : List (Nat × Oi) := [(2, .dat (.int .u64))]
abbrev R : Type := DOut ia io
noncomputable def X (n : Nat) : Ctx := ⟨⟨tab, [], 0, []⟩, 14, bnOf 0 ia⟩
noncomputable def T : CT := .o
noncomputable def f (n : Nat) (n_ : Int) : Option R := fRun (X n) n T Tryz.f173 ia io (n_, ())
theorem e0 (n : Nat) (n_ : Int) : f n n_ =
  bIf ((hide (decide (n_ ≥ (0 : Int))))) (
    some ((IntKind.u64.wrap ((2 : Int) * (IntKind.u64.wrap n_))), ())
    ) (
    some ((IntKind.u64.wrap ((IntKind.u64.wrap ((2 : Int) * (IntKind.u64.wrap (IntKind.i64.wrap (0 - (IntKind.i64.wrap (n_ + (1 : Int)))))))) + (1 : Int))), ())
    ) := (hideF_eq _).trans (by kernel_rfl)
theorem phi (n : Nat) : ∀ e ∈ (X n).c.Φ, EntryOk Tryz.prog e := allE_nil
theorem ok (n : Nat) : FnOk Tryz.prog 173 ia io (fRun (X n) n T Tryz.f173 ia io) := tree_ok mixed tabIs (phi n) Tryz.func173 (by kernel_rfl) rfl
noncomputable def en (n : Nat) : Entry := mkEntry 173 ia io (fRun (X n) n T Tryz.f173 ia io)
end F_ref01_Zig
end Go.Proofs.YtcpkhpboemfglaaGreatDoor


namespace Go.Proofs.YtcpkhpboemfglaaGreatDoor
open Go Go.Va Go.Proofs
/- chartulary/chartularyref10.Int -/
namespace F_ref10_Int
abbrev ia : List Ai := [.dat (.int .i64)]
abbrev io : List (Nat × Oi) := [(2, .dat .str)]
abbrev R : Type := DOut ia io
noncomputable def X (n : Nat) : Ctx := ⟨⟨tab, [F_ref10_Num.en n, F_ref01_Zig.en n], 0, []⟩, 6, bnOf 0 ia⟩
noncomputable def T : CT := .o
noncomputable def f (n : Nat) (n_ : Int) : Option R := fRun (X n) n T Tryz.f113 ia io (n_, ())
theorem e0 (n : Nat) (n_ : Int) : f n n_ =
  bnd (F_ref01_Zig.f n n_) fun u1 =>
  bnd (F_ref10_Num.f n u1.1) fun u2 =>
  some (u2.1, ()) := (hideF_eq _).trans (by kernel_rfl)
theorem phi (n : Nat) : ∀ e ∈ (X n).c.Φ, EntryOk Tryz.prog e := allE_cons (mkEntry_ok (F_ref10_Num.ok n)) (allE_cons (mkEntry_ok (F_ref01_Zig.ok n)) (allE_nil))
theorem ok (n : Nat) : FnOk Tryz.prog 113 ia io (fRun (X n) n T Tryz.f113 ia io) := tree_ok mixed tabIs (phi n) Tryz.func113 (by kernel_rfl) rfl
noncomputable def en (n : Nat) : Entry := mkEntry 113 ia io (fRun (X n) n T Tryz.f113 ia io)
end F_ref10_Int
end Go.Proofs.YtcpkhpboemfglaaGreatDoor


namespace Go.Proofs.YtcpkhpboemfglaaGreatDoor
open Go Go.Va Go.Proofs
/- chartulary/chartularyref10.Text -/
namespace F_ref10_Text
abbrev ia : List Ai := [.dat .str]
abbrev io : List (Nat × Oi) := [(2, .dat .str)]
abbrev R : Type := DOut ia io
noncomputable def X (n : Nat) : Ctx := ⟨⟨tab, [F_ref10_Num.en n], 0, []⟩, 9, bnOf 0 ia⟩
noncomputable def T : CT := .o
noncomputable def f (n : Nat) (s_ : ByteArray) : Option R := fRun (X n) n T Tryz.f72 ia io (s_, ())
theorem e0 (n : Nat) (s_ : ByteArray) : f n s_ =
  bnd (F_ref10_Num.f n (IntKind.u64.wrap (s_.size : Int))) fun u1 =>
  gIf (u1.1.size + s_.size ≤ 4611686018427387904) (
    some ((u1.1 ++ s_), ())
    ) := (hideF_eq _).trans (by kernel_rfl)
theorem phi (n : Nat) : ∀ e ∈ (X n).c.Φ, EntryOk Tryz.prog e := allE_cons (mkEntry_ok (F_ref10_Num.ok n)) (allE_nil)
theorem ok (n : Nat) : FnOk Tryz.prog 72 ia io (fRun (X n) n T Tryz.f72 ia io) := tree_ok mixed tabIs (phi n) Tryz.func72 (by kernel_rfl) rfl
noncomputable def en (n : Nat) : Entry := mkEntry 72 ia io (fRun (X n) n T Tryz.f72 ia io)
end F_ref10_Text
end Go.Proofs.YtcpkhpboemfglaaGreatDoor


namespace Go.Proofs.YtcpkhpboemfglaaGreatDoor
open Go Go.Va Go.Proofs
/- chartulary/chartularyref14.PutDefault -/
namespace F_ref14_PutDefault
abbrev ia : List Ai := [.dat T_api_Default]
abbrev io : List (Nat × Oi) := [(2, .dat .str)]
abbrev R : Type := DOut ia io
noncomputable def X (n : Nat) : Ctx := ⟨⟨tab, [F_ref14_num.en n], 0, []⟩, 10, bnOf 0 ia⟩
noncomputable def T : CT := .o
noncomputable def f (n : Nat) (d : D_api_Default) : Option R := fRun (X n) n T Tryz.f116 ia io (d, ())
theorem e0 (n : Nat) (d : D_api_Default) : f n d =
  bnd (F_ref14_num.f n d.1) fun u1 =>
  bnd (F_ref14_num.f n d.2.1) fun u2 =>
  gIf (u1.1.size + u2.1.size ≤ 4611686018427387904) (
    some ((u1.1 ++ u2.1), ())
    ) := (hideF_eq _).trans (by kernel_rfl)
theorem phi (n : Nat) : ∀ e ∈ (X n).c.Φ, EntryOk Tryz.prog e := allE_cons (mkEntry_ok (F_ref14_num.ok n)) (allE_nil)
theorem ok (n : Nat) : FnOk Tryz.prog 116 ia io (fRun (X n) n T Tryz.f116 ia io) := tree_ok mixed tabIs (phi n) Tryz.func116 (by kernel_rfl) rfl
noncomputable def en (n : Nat) : Entry := mkEntry 116 ia io (fRun (X n) n T Tryz.f116 ia io)
end F_ref14_PutDefault
end Go.Proofs.YtcpkhpboemfglaaGreatDoor


namespace Go.Proofs.YtcpkhpboemfglaaGreatDoor
open Go Go.Va Go.Proofs
/- chartulary/chartularyref10.Flag -/
namespace F_ref10_Flag
abbrev ia : List Ai := [.dat .bool]
abbrev io : List (Nat × Oi) := [(2, .dat .str)]
abbrev R : Type := DOut ia io
noncomputable def X (n : Nat) : Ctx := ⟨⟨tab, [], 0, []⟩, 4, bnOf 0 ia⟩
noncomputable def T : CT := .o
noncomputable def f (n : Nat) (b : Bool) : Option R := fRun (X n) n T Tryz.f89 ia io (b, ())
theorem e0 (n : Nat) (b : Bool) : f n b =
  bIf (b) (
    some ((⟨#[1]⟩ : ByteArray), ())
    ) (
    some ((⟨#[0]⟩ : ByteArray), ())
    ) := (hideF_eq _).trans (by kernel_rfl)
theorem phi (n : Nat) : ∀ e ∈ (X n).c.Φ, EntryOk Tryz.prog e := allE_nil
theorem ok (n : Nat) : FnOk Tryz.prog 89 ia io (fRun (X n) n T Tryz.f89 ia io) := tree_ok mixed tabIs (phi n) Tryz.func89 (by kernel_rfl) rfl
noncomputable def en (n : Nat) : Entry := mkEntry 89 ia io (fRun (X n) n T Tryz.f89 ia io)
end F_ref10_Flag
end Go.Proofs.YtcpkhpboemfglaaGreatDoor


namespace Go.Proofs.YtcpkhpboemfglaaGreatDoor
open Go Go.Va Go.Proofs
/- chartulary/chartularyref14.PutGrants -/
namespace F_ref14_PutGrants
abbrev ia : List Ai := [.dat (.slice T_api_Grant)]
abbrev io : List (Nat × Oi) := [(2, .dat .str)]
abbrev R : Type := DOut ia io
noncomputable def X (n : Nat) : Ctx := ⟨⟨tab, [F_ref14_num.en n, F_ref10_Text.en n, F_ref10_Flag.en n], 0, []⟩, 44, bnOf 0 ia⟩
abbrev g1 : List Si := [.dat 0 (.slice T_api_Grant), .dat 3 .str, .dat 4 (.int .i64)]
abbrev g2 : List Si := [.dat 3 .str]
noncomputable def T : CT := (.s .o (.s .o (.s (.s .o (.b (.l g1 .o))) (.r g2 .o))))
noncomputable def J1 (n : Nat) (m : Nat) : (List (D_api_Grant)) × ByteArray × Int × Unit → Option R := jL (X n) n T (bodyOf Tryz.f118) (endK ia io) g1 [1, 1, 0, 1, 0] [] m
noncomputable def J2 (n : Nat) : ByteArray × Unit → Option R := jR (X n) n T (bodyOf Tryz.f118) (endK ia io) g2 [1, 1, 1] []
noncomputable def f (n : Nat) (l : List (D_api_Grant)) : Option R := fRun (X n) n T Tryz.f118 ia io (l, ())
theorem e0 (n : Nat) (l : List (D_api_Grant)) : f n l =
  bnd (F_ref14_num.f n ((l.length : Nat) : Int)) fun u1 =>
  J1 n n (l, u1.1, 0, ()) := (hideF_eq _).trans (by kernel_rfl)
theorem e1 (n m : Nat) (l : List (D_api_Grant)) (s_ : ByteArray) (i : Int) : J1 n (m + 1) (l, s_, i, ()) =
  bIf ((hide (decide (i < ((l.length : Nat) : Int))))) (
    gIf (0 ≤ i ∧ i < ((l.length : Nat) : Int)) (
      bnd (F_ref10_Flag.f n ((List.getD l i.toNat (Va.dflt T_api_Grant)).1)) fun u1 =>
      gIf (0 ≤ i ∧ i < ((l.length : Nat) : Int)) (
        bnd (F_ref10_Text.f n (((List.getD l i.toNat (Va.dflt T_api_Grant)).2).1)) fun u2 =>
        gIf (u1.1.size + u2.1.size ≤ 4611686018427387904) (
          gIf (0 ≤ i ∧ i < ((l.length : Nat) : Int)) (
            bnd (F_ref10_Text.f n ((((List.getD l i.toNat (Va.dflt T_api_Grant)).2).2).1)) fun u3 =>
            gIf ((u1.1 ++ u2.1).size + u3.1.size ≤ 4611686018427387904) (
              gIf (0 ≤ i ∧ i < ((l.length : Nat) : Int)) (
                bnd (F_ref10_Text.f n (((((List.getD l i.toNat (Va.dflt T_api_Grant)).2).2).2).1)) fun u4 =>
                gIf (((u1.1 ++ u2.1) ++ u3.1).size + u4.1.size ≤ 4611686018427387904) (
                  gIf (s_.size + (((u1.1 ++ u2.1) ++ u3.1) ++ u4.1).size ≤ 4611686018427387904) (
                    J1 n m (l, (s_ ++ (((u1.1 ++ u2.1) ++ u3.1) ++ u4.1)), (IntKind.i64.wrap (i + (1 : Int))), ())
                    )
                  )
                )
              )
            )
          )
        )
      )
    ) (
    J2 n (s_, ())
    ) := (hideF_eq _).trans (by kernel_rfl)
theorem e2 (n : Nat) (s_ : ByteArray) : J2 n (s_, ()) =
  some (s_, ()) := (hideF_eq _).trans (by kernel_rfl)
theorem phi (n : Nat) : ∀ e ∈ (X n).c.Φ, EntryOk Tryz.prog e := allE_cons (mkEntry_ok (F_ref14_num.ok n)) (allE_cons (mkEntry_ok (F_ref10_Text.ok n)) (allE_cons (mkEntry_ok (F_ref10_Flag.ok n)) (allE_nil)))
theorem ok (n : Nat) : FnOk Tryz.prog 118 ia io (fRun (X n) n T Tryz.f118 ia io) := tree_ok mixed tabIs (phi n) Tryz.func118 (by kernel_rfl) rfl
noncomputable def en (n : Nat) : Entry := mkEntry 118 ia io (fRun (X n) n T Tryz.f118 ia io)
end F_ref14_PutGrants
end Go.Proofs.YtcpkhpboemfglaaGreatDoor


namespace Go.Proofs.YtcpkhpboemfglaaGreatDoor
open Go Go.Va Go.Proofs
/- chartulary/chartularyref14.PutLock -/
namespace F_ref14_PutLock
abbrev ia : List Ai := [.dat T_api_Lock]
abbrev io : List (Nat × Oi) := [(2, .dat .str)]
abbrev R : Type := DOut ia io
noncomputable def X (n : Nat) : Ctx := ⟨⟨tab, [F_ref14_num.en n, F_ref10_Flag.en n, F_ref10_Int.en n], 0, []⟩, 14, bnOf 0 ia⟩
noncomputable def T : CT := .o
noncomputable def f (n : Nat) (l : D_api_Lock) : Option R := fRun (X n) n T Tryz.f114 ia io (l, ())
theorem e0 (n : Nat) (l : D_api_Lock) : f n l =
  bnd (F_ref14_num.f n l.1) fun u1 =>
  bnd (F_ref10_Int.f n l.2.1) fun u2 =>
  gIf (u1.1.size + u2.1.size ≤ 4611686018427387904) (
    bnd (F_ref10_Flag.f n l.2.2.1) fun u3 =>
    gIf ((u1.1 ++ u2.1).size + u3.1.size ≤ 4611686018427387904) (
      some (((u1.1 ++ u2.1) ++ u3.1), ())
      )
    ) := (hideF_eq _).trans (by kernel_rfl)
theorem phi (n : Nat) : ∀ e ∈ (X n).c.Φ, EntryOk Tryz.prog e := allE_cons (mkEntry_ok (F_ref14_num.ok n)) (allE_cons (mkEntry_ok (F_ref10_Flag.ok n)) (allE_cons (mkEntry_ok (F_ref10_Int.ok n)) (allE_nil)))
theorem ok (n : Nat) : FnOk Tryz.prog 114 ia io (fRun (X n) n T Tryz.f114 ia io) := tree_ok mixed tabIs (phi n) Tryz.func114 (by kernel_rfl) rfl
noncomputable def en (n : Nat) : Entry := mkEntry 114 ia io (fRun (X n) n T Tryz.f114 ia io)
end F_ref14_PutLock
end Go.Proofs.YtcpkhpboemfglaaGreatDoor


namespace Go.Proofs.YtcpkhpboemfglaaGreatDoor
open Go Go.Va Go.Proofs
/- chartulary/chartularyref10.Digest -/
namespace F_ref10_Digest
abbrev ia : List Ai := [.dat (.arr 32 (.int .u8))]
abbrev io : List (Nat × Oi) := [(2, .dat .str)]
abbrev R : Type := DOut ia io
noncomputable def X (n : Nat) : Ctx := ⟨⟨tab, [], 0, []⟩, 17, bnOf 0 ia⟩
abbrev g1 : List Si := [.ref 1 1 (.arr 32 (.int .u8)), .dat 3 .str, .dat 4 (.int .i64), .box 1 (.d (.arr 32 (.int .u8)))]
abbrev g2 : List Si := [.dat 3 .str]
noncomputable def T : CT := (.s .o (.s .o (.s (.s .o (.b (.l g1 .o))) (.r g2 .o))))
noncomputable def J1 (n : Nat) (m : Nat) : ByteArray × Int × (List (Int)) × Unit → Option R := jL (X n) n T (bodyOf Tryz.f164) (endK ia io) g1 [1, 1, 0, 1, 0] [] m
noncomputable def J2 (n : Nat) : ByteArray × Unit → Option R := jR (X n) n T (bodyOf Tryz.f164) (endK ia io) g2 [1, 1, 1] []
noncomputable def f (n : Nat) (d : List (Int)) : Option R := fRun (X n) n T Tryz.f164 ia io (d, ())
theorem e0 (n : Nat) (d : List (Int)) : f n d =
  J1 n n ((⟨#[]⟩ : ByteArray), 0, d, ()) := (hideF_eq _).trans (by kernel_rfl)
theorem e1 (n m : Nat) (out : ByteArray) (i : Int) (d : List (Int)) : J1 n (m + 1) (out, i, d, ()) =
  bIf ((hide (decide (i < (32 : Int))))) (
    gIf (0 ≤ i ∧ i < ((32 : Nat) : Int)) (
      gIf (out.size + (bytesOf ([(List.getD d i.toNat 0)] : List (Int))).size ≤ 4611686018427387904) (
        J1 n m ((out ++ (bytesOf ([(List.getD d i.toNat 0)] : List (Int)))), (IntKind.i64.wrap (i + (1 : Int))), d, ())
        )
      )
    ) (
    J2 n (out, ())
    ) := (hideF_eq _).trans (by kernel_rfl)
theorem e2 (n : Nat) (out : ByteArray) : J2 n (out, ()) =
  some (out, ()) := (hideF_eq _).trans (by kernel_rfl)
theorem phi (n : Nat) : ∀ e ∈ (X n).c.Φ, EntryOk Tryz.prog e := allE_nil
theorem ok (n : Nat) : FnOk Tryz.prog 164 ia io (fRun (X n) n T Tryz.f164 ia io) := tree_ok mixed tabIs (phi n) Tryz.func164 (by kernel_rfl) rfl
noncomputable def en (n : Nat) : Entry := mkEntry 164 ia io (fRun (X n) n T Tryz.f164 ia io)
end F_ref10_Digest
end Go.Proofs.YtcpkhpboemfglaaGreatDoor


namespace Go.Proofs.YtcpkhpboemfglaaGreatDoor
open Go Go.Va Go.Proofs
/- chartulary/chartularyref14.PutPart -/
namespace F_ref14_PutPart
abbrev ia : List Ai := [.dat T_api_Part]
abbrev io : List (Nat × Oi) := [(2, .dat .str)]
abbrev R : Type := DOut ia io
noncomputable def X (n : Nat) : Ctx := ⟨⟨tab, [F_ref14_num.en n, F_ref10_Num.en n, F_ref10_Digest.en n], 0, []⟩, 18, bnOf 0 ia⟩
noncomputable def T : CT := .o
noncomputable def f (n : Nat) (p : D_api_Part) : Option R := fRun (X n) n T Tryz.f119 ia io (p, ())
theorem e0 (n : Nat) (p : D_api_Part) : f n p =
  bnd (F_ref14_num.f n p.1) fun u1 =>
  bnd (F_ref14_num.f n p.2.1) fun u2 =>
  gIf (u1.1.size + u2.1.size ≤ 4611686018427387904) (
    bnd (F_ref10_Num.f n p.2.2.1) fun u3 =>
    gIf ((u1.1 ++ u2.1).size + u3.1.size ≤ 4611686018427387904) (
      bnd (F_ref10_Digest.f n p.2.2.2.1) fun u4 =>
      gIf (((u1.1 ++ u2.1) ++ u3.1).size + u4.1.size ≤ 4611686018427387904) (
        some ((((u1.1 ++ u2.1) ++ u3.1) ++ u4.1), ())
        )
      )
    ) := (hideF_eq _).trans (by kernel_rfl)
theorem phi (n : Nat) : ∀ e ∈ (X n).c.Φ, EntryOk Tryz.prog e := allE_cons (mkEntry_ok (F_ref14_num.ok n)) (allE_cons (mkEntry_ok (F_ref10_Num.ok n)) (allE_cons (mkEntry_ok (F_ref10_Digest.ok n)) (allE_nil)))
theorem ok (n : Nat) : FnOk Tryz.prog 119 ia io (fRun (X n) n T Tryz.f119 ia io) := tree_ok mixed tabIs (phi n) Tryz.func119 (by kernel_rfl) rfl
noncomputable def en (n : Nat) : Entry := mkEntry 119 ia io (fRun (X n) n T Tryz.f119 ia io)
end F_ref14_PutPart
end Go.Proofs.YtcpkhpboemfglaaGreatDoor


namespace Go.Proofs.YtcpkhpboemfglaaGreatDoor
open Go Go.Va Go.Proofs
/- chartulary/chartularyref14.PutTags -/
namespace F_ref14_PutTags
abbrev ia : List Ai := [.dat (.slice T_api_Tag)]
abbrev io : List (Nat × Oi) := [(2, .dat .str)]
abbrev R : Type := DOut ia io
noncomputable def X (n : Nat) : Ctx := ⟨⟨tab, [F_ref14_num.en n, F_ref10_Text.en n], 0, []⟩, 30, bnOf 0 ia⟩
abbrev g1 : List Si := [.dat 0 (.slice T_api_Tag), .dat 3 .str, .dat 4 (.int .i64)]
abbrev g2 : List Si := [.dat 3 .str]
noncomputable def T : CT := (.s .o (.s .o (.s (.s .o (.b (.l g1 .o))) (.r g2 .o))))
noncomputable def J1 (n : Nat) (m : Nat) : (List (D_api_Tag)) × ByteArray × Int × Unit → Option R := jL (X n) n T (bodyOf Tryz.f115) (endK ia io) g1 [1, 1, 0, 1, 0] [] m
noncomputable def J2 (n : Nat) : ByteArray × Unit → Option R := jR (X n) n T (bodyOf Tryz.f115) (endK ia io) g2 [1, 1, 1] []
noncomputable def f (n : Nat) (l : List (D_api_Tag)) : Option R := fRun (X n) n T Tryz.f115 ia io (l, ())
theorem e0 (n : Nat) (l : List (D_api_Tag)) : f n l =
  bnd (F_ref14_num.f n ((l.length : Nat) : Int)) fun u1 =>
  J1 n n (l, u1.1, 0, ()) := (hideF_eq _).trans (by kernel_rfl)
theorem e1 (n m : Nat) (l : List (D_api_Tag)) (s_ : ByteArray) (i : Int) : J1 n (m + 1) (l, s_, i, ()) =
  bIf ((hide (decide (i < ((l.length : Nat) : Int))))) (
    gIf (0 ≤ i ∧ i < ((l.length : Nat) : Int)) (
      bnd (F_ref10_Text.f n ((List.getD l i.toNat (Va.dflt T_api_Tag)).1)) fun u1 =>
      gIf (0 ≤ i ∧ i < ((l.length : Nat) : Int)) (
        bnd (F_ref10_Text.f n (((List.getD l i.toNat (Va.dflt T_api_Tag)).2).1)) fun u2 =>
        gIf (u1.1.size + u2.1.size ≤ 4611686018427387904) (
          gIf (s_.size + (u1.1 ++ u2.1).size ≤ 4611686018427387904) (
            J1 n m (l, (s_ ++ (u1.1 ++ u2.1)), (IntKind.i64.wrap (i + (1 : Int))), ())
            )
          )
        )
      )
    ) (
    J2 n (s_, ())
    ) := (hideF_eq _).trans (by kernel_rfl)
theorem e2 (n : Nat) (s_ : ByteArray) : J2 n (s_, ()) =
  some (s_, ()) := (hideF_eq _).trans (by kernel_rfl)
theorem phi (n : Nat) : ∀ e ∈ (X n).c.Φ, EntryOk Tryz.prog e := allE_cons (mkEntry_ok (F_ref14_num.ok n)) (allE_cons (mkEntry_ok (F_ref10_Text.ok n)) (allE_nil))
theorem ok (n : Nat) : FnOk Tryz.prog 115 ia io (fRun (X n) n T Tryz.f115 ia io) := tree_ok mixed tabIs (phi n) Tryz.func115 (by kernel_rfl) rfl
noncomputable def en (n : Nat) : Entry := mkEntry 115 ia io (fRun (X n) n T Tryz.f115 ia io)
end F_ref14_PutTags
end Go.Proofs.YtcpkhpboemfglaaGreatDoor


namespace Go.Proofs.YtcpkhpboemfglaaGreatDoor
open Go Go.Va Go.Proofs
/- chartulary/chartularyref14.PutRules -/
namespace F_ref14_PutRules
abbrev ia : List Ai := [.dat (.slice T_api_Rule)]
abbrev io : List (Nat × Oi) := [(2, .dat .str)]
abbrev R : Type := DOut ia io
noncomputable def X (n : Nat) : Ctx := ⟨⟨tab, [F_ref14_num.en n, F_ref10_Text.en n, F_ref10_Flag.en n, F_ref14_PutTags.en n], 0, []⟩, 51, bnOf 0 ia⟩
abbrev g1 : List Si := [.dat 0 (.slice T_api_Rule), .dat 3 .str, .dat 4 (.int .i64)]
abbrev g2 : List Si := [.dat 3 .str]
noncomputable def T : CT := (.s .o (.s .o (.s (.s .o (.b (.l g1 .o))) (.r g2 .o))))
noncomputable def J1 (n : Nat) (m : Nat) : (List (D_api_Rule)) × ByteArray × Int × Unit → Option R := jL (X n) n T (bodyOf Tryz.f117) (endK ia io) g1 [1, 1, 0, 1, 0] [] m
noncomputable def J2 (n : Nat) : ByteArray × Unit → Option R := jR (X n) n T (bodyOf Tryz.f117) (endK ia io) g2 [1, 1, 1] []
noncomputable def f (n : Nat) (l : List (D_api_Rule)) : Option R := fRun (X n) n T Tryz.f117 ia io (l, ())
theorem e0 (n : Nat) (l : List (D_api_Rule)) : f n l =
  bnd (F_ref14_num.f n ((l.length : Nat) : Int)) fun u1 =>
  J1 n n (l, u1.1, 0, ()) := (hideF_eq _).trans (by kernel_rfl)
theorem e1 (n m : Nat) (l : List (D_api_Rule)) (s_ : ByteArray) (i : Int) : J1 n (m + 1) (l, s_, i, ()) =
  bIf ((hide (decide (i < ((l.length : Nat) : Int))))) (
    gIf (0 ≤ i ∧ i < ((l.length : Nat) : Int)) (
      bnd (F_ref10_Text.f n ((List.getD l i.toNat (Va.dflt T_api_Rule)).1)) fun u1 =>
      gIf (0 ≤ i ∧ i < ((l.length : Nat) : Int)) (
        bnd (F_ref14_PutTags.f n (((List.getD l i.toNat (Va.dflt T_api_Rule)).2).1)) fun u2 =>
        gIf (u1.1.size + u2.1.size ≤ 4611686018427387904) (
          gIf (0 ≤ i ∧ i < ((l.length : Nat) : Int)) (
            bnd (F_ref14_num.f n ((((List.getD l i.toNat (Va.dflt T_api_Rule)).2).2).1)) fun u3 =>
            gIf ((u1.1 ++ u2.1).size + u3.1.size ≤ 4611686018427387904) (
              gIf (0 ≤ i ∧ i < ((l.length : Nat) : Int)) (
                bnd (F_ref14_num.f n (((((List.getD l i.toNat (Va.dflt T_api_Rule)).2).2).2).1)) fun u4 =>
                gIf (((u1.1 ++ u2.1) ++ u3.1).size + u4.1.size ≤ 4611686018427387904) (
                  gIf (0 ≤ i ∧ i < ((l.length : Nat) : Int)) (
                    bnd (F_ref10_Flag.f n ((((((List.getD l i.toNat (Va.dflt T_api_Rule)).2).2).2).2).1)) fun u5 =>
                    gIf ((((u1.1 ++ u2.1) ++ u3.1) ++ u4.1).size + u5.1.size ≤ 4611686018427387904) (
                      gIf (s_.size + ((((u1.1 ++ u2.1) ++ u3.1) ++ u4.1) ++ u5.1).size ≤ 4611686018427387904) (
                        J1 n m (l, (s_ ++ ((((u1.1 ++ u2.1) ++ u3.1) ++ u4.1) ++ u5.1)), (IntKind.i64.wrap (i + (1 : Int))), ())
                        )
                      )
                    )
                  )
                )
              )
            )
          )
        )
      )
    ) (
    J2 n (s_, ())
    ) := (hideF_eq _).trans (by kernel_rfl)
theorem e2 (n : Nat) (s_ : ByteArray) : J2 n (s_, ()) =
  some (s_, ()) := (hideF_eq _).trans (by kernel_rfl)
theorem phi (n : Nat) : ∀ e ∈ (X n).c.Φ, EntryOk Tryz.prog e := allE_cons (mkEntry_ok (F_ref14_num.ok n)) (allE_cons (mkEntry_ok (F_ref10_Text.ok n)) (allE_cons (mkEntry_ok (F_ref10_Flag.ok n)) (allE_cons (mkEntry_ok (F_ref14_PutTags.ok n)) (allE_nil))))
theorem ok (n : Nat) : FnOk Tryz.prog 117 ia io (fRun (X n) n T Tryz.f117 ia io) := tree_ok mixed tabIs (phi n) Tryz.func117 (by kernel_rfl) rfl
noncomputable def en (n : Nat) : Entry := mkEntry 117 ia io (fRun (X n) n T Tryz.f117 ia io)
end F_ref14_PutRules
end Go.Proofs.YtcpkhpboemfglaaGreatDoor


namespace Go.Proofs.YtcpkhpboemfglaaGreatDoor
open Go Go.Va Go.Proofs
/- chartulary/chartularyref14.PutVersion -/
namespace F_ref14_PutVersion
abbrev ia : List Ai := [.dat T_api_Version]
abbrev io : List (Nat × Oi) := [(2, .dat .str)]
abbrev R : Type := DOut ia io
noncomputable def X (n : Nat) : Ctx := ⟨⟨tab, [F_ref14_num.en n, F_ref10_Num.en n, F_ref10_Flag.en n, F_ref10_Int.en n, F_ref14_PutLock.en n, F_ref14_PutTags.en n, F_ref10_Digest.en n], 0, []⟩, 39, bnOf 0 ia⟩
noncomputable def T : CT := .o
noncomputable def f (n : Nat) (v_ : D_api_Version) : Option R := fRun (X n) n T Tryz.f91 ia io (v_, ())
theorem e0 (n : Nat) (v_ : D_api_Version) : f n v_ =
  bnd (F_ref10_Num.f n v_.1) fun u1 =>
  bnd (F_ref10_Flag.f n v_.2.1) fun u2 =>
  gIf (u1.1.size + u2.1.size ≤ 4611686018427387904) (
    bnd (F_ref10_Int.f n v_.2.2.2.2.2.1) fun u3 =>
    gIf ((u1.1 ++ u2.1).size + u3.1.size ≤ 4611686018427387904) (
      bIf (v_.2.1) (
        some (((u1.1 ++ u2.1) ++ u3.1), ())
        ) (
        bnd (F_ref14_num.f n v_.2.2.1) fun u4 =>
        gIf (((u1.1 ++ u2.1) ++ u3.1).size + u4.1.size ≤ 4611686018427387904) (
          bnd (F_ref10_Num.f n v_.2.2.2.1) fun u5 =>
          gIf ((((u1.1 ++ u2.1) ++ u3.1) ++ u4.1).size + u5.1.size ≤ 4611686018427387904) (
            bnd (F_ref10_Digest.f n v_.2.2.2.2.1) fun u6 =>
            gIf (((((u1.1 ++ u2.1) ++ u3.1) ++ u4.1) ++ u5.1).size + u6.1.size ≤ 4611686018427387904) (
              bnd (F_ref14_PutLock.f n v_.2.2.2.2.2.2.1) fun u7 =>
              gIf ((((((u1.1 ++ u2.1) ++ u3.1) ++ u4.1) ++ u5.1) ++ u6.1).size + u7.1.size ≤ 4611686018427387904) (
                bnd (F_ref14_PutTags.f n v_.2.2.2.2.2.2.2.1) fun u8 =>
                gIf (((((((u1.1 ++ u2.1) ++ u3.1) ++ u4.1) ++ u5.1) ++ u6.1) ++ u7.1).size + u8.1.size ≤ 4611686018427387904) (
                  some ((((((((u1.1 ++ u2.1) ++ u3.1) ++ u4.1) ++ u5.1) ++ u6.1) ++ u7.1) ++ u8.1), ())
                  )
                )
              )
            )
          )
        )
      )
    ) := (hideF_eq _).trans (by kernel_rfl)
theorem phi (n : Nat) : ∀ e ∈ (X n).c.Φ, EntryOk Tryz.prog e := allE_cons (mkEntry_ok (F_ref14_num.ok n)) (allE_cons (mkEntry_ok (F_ref10_Num.ok n)) (allE_cons (mkEntry_ok (F_ref10_Flag.ok n)) (allE_cons (mkEntry_ok (F_ref10_Int.ok n)) (allE_cons (mkEntry_ok (F_ref14_PutLock.ok n)) (allE_cons (mkEntry_ok (F_ref14_PutTags.ok n)) (allE_cons (mkEntry_ok (F_ref10_Digest.ok n)) (allE_nil)))))))
theorem ok (n : Nat) : FnOk Tryz.prog 91 ia io (fRun (X n) n T Tryz.f91 ia io) := tree_ok mixed tabIs (phi n) Tryz.func91 (by kernel_rfl) rfl
noncomputable def en (n : Nat) : Entry := mkEntry 91 ia io (fRun (X n) n T Tryz.f91 ia io)
end F_ref14_PutVersion
end Go.Proofs.YtcpkhpboemfglaaGreatDoor


namespace Go.Proofs.YtcpkhpboemfglaaGreatDoor
open Go Go.Va Go.Proofs
/- chartulary/chartularyref14.put -/
namespace F_ref14_put
abbrev ia : List Ai := [.dat T_api_Entry]
abbrev io : List (Nat × Oi) := [(2, .dat .str)]
abbrev R : Type := DOut ia io
noncomputable def X (n : Nat) : Ctx := ⟨⟨tab, [F_ref14_num.en n, F_ref14_has.en n, F_ref10_Text.en n, F_ref10_Num.en n, F_ref14_PutVersion.en n, F_ref10_Int.en n, F_ref14_PutLock.en n, F_ref14_PutTags.en n, F_ref14_PutDefault.en n, F_ref14_PutRules.en n, F_ref14_PutGrants.en n, F_ref14_PutPart.en n], 0, []⟩, 97, bnOf 0 ia⟩
abbrev g1 : List Si := [.ref 1 1 T_api_Entry, .dat 3 .str, .dat 4 .str, .box 1 (.d T_api_Entry)]
abbrev g2 : List Si := [.ref 1 1 T_api_Entry, .dat 3 .str, .dat 4 .str, .dat 5 (.int .i64), .box 1 (.d T_api_Entry)]
abbrev g3 : List Si := [.ref 1 1 T_api_Entry, .dat 3 .str, .dat 4 .str, .dat 5 (.int .i64), .box 1 (.d T_api_Entry)]
abbrev g4 : List Si := [.dat 4 .str]
noncomputable def T : CT := (.s .o (.s .o (.s .o (.s .o (.r g1 (.s (.s .o (.b (.l g2 (.s .o (.s .o (.r g3 .o)))))) (.r g4 .o)))))))
noncomputable def J1 (n : Nat) : ByteArray × ByteArray × D_api_Entry × Unit → Option R := jR (X n) n T (bodyOf Tryz.f41) (endK ia io) g1 [1, 1, 1, 1] []
noncomputable def J2 (n : Nat) (m : Nat) : ByteArray × ByteArray × Int × D_api_Entry × Unit → Option R := jL (X n) n T (bodyOf Tryz.f41) (endK ia io) g2 [1, 1, 1, 1, 0, 1, 0] [] m
noncomputable def J3 (n m2 : Nat) : ByteArray × ByteArray × Int × D_api_Entry × Unit → Option R := jR (X n) n T (bodyOf Tryz.f41) (endK ia io) g3 [1, 1, 1, 1, 0, 1, 0, 0, 1, 1] [m2]
noncomputable def J4 (n : Nat) : ByteArray × Unit → Option R := jR (X n) n T (bodyOf Tryz.f41) (endK ia io) g4 [1, 1, 1, 1, 1] []
noncomputable def f (n : Nat) (e_ : D_api_Entry) : Option R := fRun (X n) n T Tryz.f41 ia io (e_, ())
theorem e0 (n : Nat) (e_ : D_api_Entry) : f n e_ =
  bnd (F_ref14_has.f n e_.1) fun u1 =>
  bnd (F_ref14_num.f n e_.1) fun u2 =>
  bnd (F_ref10_Int.f n e_.2.1) fun u3 =>
  gIf (u2.1.size + u3.1.size ≤ 4611686018427387904) (
    bIf ((hide (e_.1 != (1 : Int)))) (
      bnd (F_ref10_Text.f n e_.2.2.1) fun u4 =>
      gIf ((u2.1 ++ u3.1).size + u4.1.size ≤ 4611686018427387904) (
        J1 n (u1.1, ((u2.1 ++ u3.1) ++ u4.1), e_, ())
        )
      ) (
      J1 n (u1.1, (u2.1 ++ u3.1), e_, ())
      )
    ) := (hideF_eq _).trans (by kernel_rfl)
theorem e1 (n : Nat) (h : ByteArray) (s_ : ByteArray) (e_ : D_api_Entry) : J1 n (h, s_, e_, ()) =
  J2 n n (h, s_, 0, e_, ()) := (hideF_eq _).trans (by kernel_rfl)
theorem e2 (n m : Nat) (h : ByteArray) (s_ : ByteArray) (i : Int) (e_ : D_api_Entry) : J2 n (m + 1) (h, s_, i, e_, ()) =
  bIf ((hide (decide (i < (h.size : Int))))) (
    gIf (0 ≤ i ∧ i < (h.size : Int)) (
      bIf ((hide ((bt h i) == (107 : Int)))) (
        bnd (F_ref10_Text.f n e_.2.2.2.1) fun u1 =>
        gIf (s_.size + u1.1.size ≤ 4611686018427387904) (
          J3 n m (h, (s_ ++ u1.1), i, e_, ())
          )
        ) (
        bIf ((hide ((bt h i) == (105 : Int)))) (
          bnd (F_ref10_Num.f n e_.2.2.2.2.1) fun u2 =>
          gIf (s_.size + u2.1.size ≤ 4611686018427387904) (
            J3 n m (h, (s_ ++ u2.1), i, e_, ())
            )
          ) (
          bIf ((hide ((bt h i) == (118 : Int)))) (
            bnd (F_ref14_PutVersion.f n e_.2.2.2.2.2.1) fun u3 =>
            gIf (s_.size + u3.1.size ≤ 4611686018427387904) (
              J3 n m (h, (s_ ++ u3.1), i, e_, ())
              )
            ) (
            bIf ((hide ((bt h i) == (108 : Int)))) (
              bnd (F_ref14_PutLock.f n e_.2.2.2.2.2.2.1) fun u4 =>
              gIf (s_.size + u4.1.size ≤ 4611686018427387904) (
                J3 n m (h, (s_ ++ u4.1), i, e_, ())
                )
              ) (
              bIf ((hide ((bt h i) == (116 : Int)))) (
                bnd (F_ref14_PutTags.f n e_.2.2.2.2.2.2.2.1) fun u5 =>
                gIf (s_.size + u5.1.size ≤ 4611686018427387904) (
                  J3 n m (h, (s_ ++ u5.1), i, e_, ())
                  )
                ) (
                bIf ((hide ((bt h i) == (100 : Int)))) (
                  bnd (F_ref14_PutDefault.f n e_.2.2.2.2.2.2.2.2.1) fun u6 =>
                  gIf (s_.size + u6.1.size ≤ 4611686018427387904) (
                    J3 n m (h, (s_ ++ u6.1), i, e_, ())
                    )
                  ) (
                  bIf ((hide ((bt h i) == (114 : Int)))) (
                    bnd (F_ref14_PutRules.f n e_.2.2.2.2.2.2.2.2.2.1) fun u7 =>
                    gIf (s_.size + u7.1.size ≤ 4611686018427387904) (
                      J3 n m (h, (s_ ++ u7.1), i, e_, ())
                      )
                    ) (
                    bIf ((hide ((bt h i) == (103 : Int)))) (
                      bnd (F_ref14_PutGrants.f n e_.2.2.2.2.2.2.2.2.2.2.1) fun u8 =>
                      gIf (s_.size + u8.1.size ≤ 4611686018427387904) (
                        J3 n m (h, (s_ ++ u8.1), i, e_, ())
                        )
                      ) (
                      bIf ((hide ((bt h i) == (112 : Int)))) (
                        bnd (F_ref14_PutPart.f n e_.2.2.2.2.2.2.2.2.2.2.2.1) fun u9 =>
                        gIf (s_.size + u9.1.size ≤ 4611686018427387904) (
                          J3 n m (h, (s_ ++ u9.1), i, e_, ())
                          )
                        ) (
                        J3 n m (h, s_, i, e_, ())
                        )
                      )
                    )
                  )
                )
              )
            )
          )
        )
      )
    ) (
    J4 n (s_, ())
    ) := (hideF_eq _).trans (by kernel_rfl)
theorem e3 (n m2 : Nat) (h : ByteArray) (s_ : ByteArray) (i : Int) (e_ : D_api_Entry) : J3 n m2 (h, s_, i, e_, ()) =
  J2 n m2 (h, s_, (IntKind.i64.wrap (i + (1 : Int))), e_, ()) := (hideF_eq _).trans (by kernel_rfl)
theorem e4 (n : Nat) (s_ : ByteArray) : J4 n (s_, ()) =
  some (s_, ()) := (hideF_eq _).trans (by kernel_rfl)
theorem phi (n : Nat) : ∀ e ∈ (X n).c.Φ, EntryOk Tryz.prog e := allE_cons (mkEntry_ok (F_ref14_num.ok n)) (allE_cons (mkEntry_ok (F_ref14_has.ok n)) (allE_cons (mkEntry_ok (F_ref10_Text.ok n)) (allE_cons (mkEntry_ok (F_ref10_Num.ok n)) (allE_cons (mkEntry_ok (F_ref14_PutVersion.ok n)) (allE_cons (mkEntry_ok (F_ref10_Int.ok n)) (allE_cons (mkEntry_ok (F_ref14_PutLock.ok n)) (allE_cons (mkEntry_ok (F_ref14_PutTags.ok n)) (allE_cons (mkEntry_ok (F_ref14_PutDefault.ok n)) (allE_cons (mkEntry_ok (F_ref14_PutRules.ok n)) (allE_cons (mkEntry_ok (F_ref14_PutGrants.ok n)) (allE_cons (mkEntry_ok (F_ref14_PutPart.ok n)) (allE_nil))))))))))))
theorem ok (n : Nat) : FnOk Tryz.prog 41 ia io (fRun (X n) n T Tryz.f41 ia io) := tree_ok mixed tabIs (phi n) Tryz.func41 (by kernel_rfl) rfl
noncomputable def en (n : Nat) : Entry := mkEntry 41 ia io (fRun (X n) n T Tryz.f41 ia io)
end F_ref14_put
end Go.Proofs.YtcpkhpboemfglaaGreatDoor


namespace Go.Proofs.YtcpkhpboemfglaaGreatDoor
open Go Go.Va Go.Proofs
/- chartulary/chartularyref14.Encode -/
namespace F_ref14_Encode
abbrev ia : List Ai := [.dat (.slice T_api_Entry)]
abbrev io : List (Nat × Oi) := [(2, .dat .str), (3, .dat (.int .i64))]
abbrev R : Type := DOut ia io
noncomputable def X (n : Nat) : Ctx := ⟨⟨tab, [F_ref14_Sound.en n, F_ref14_num.en n, F_ref14_put.en n], 0, []⟩, 47, bnOf 0 ia⟩
abbrev g1 : List Si := [.dat 0 (.slice T_api_Entry)]
abbrev g2 : List Si := [.dat 0 (.slice T_api_Entry), .dat 4 .str, .dat 5 (.int .i64)]
abbrev g3 : List Si := [.dat 0 (.slice T_api_Entry), .dat 4 .str]
abbrev g4 : List Si := [.dat 0 (.slice T_api_Entry), .dat 4 .str, .dat 6 (.int .i64)]
abbrev g5 : List Si := [.dat 4 .str]
noncomputable def T : CT := (.s .o (.s .o (.r g1 (.s .o (.s (.s .o (.b (.l g2 .o))) (.r g3 (.s (.s .o (.b (.l g4 .o))) (.r g5 .o))))))))
noncomputable def J1 (n : Nat) : (List (D_api_Entry)) × Unit → Option R := jR (X n) n T (bodyOf Tryz.f14) (endK ia io) g1 [1, 1] []
noncomputable def J2 (n : Nat) (m : Nat) : (List (D_api_Entry)) × ByteArray × Int × Unit → Option R := jL (X n) n T (bodyOf Tryz.f14) (endK ia io) g2 [1, 1, 1, 0, 1, 0] [] m
noncomputable def J3 (n : Nat) : (List (D_api_Entry)) × ByteArray × Unit → Option R := jR (X n) n T (bodyOf Tryz.f14) (endK ia io) g3 [1, 1, 1, 1] []
noncomputable def J4 (n : Nat) (m : Nat) : (List (D_api_Entry)) × ByteArray × Int × Unit → Option R := jL (X n) n T (bodyOf Tryz.f14) (endK ia io) g4 [1, 1, 1, 1, 0, 1, 0] [] m
noncomputable def J5 (n : Nat) : ByteArray × Unit → Option R := jR (X n) n T (bodyOf Tryz.f14) (endK ia io) g5 [1, 1, 1, 1, 1] []
noncomputable def f (n : Nat) (l : List (D_api_Entry)) : Option R := fRun (X n) n T Tryz.f14 ia io (l, ())
theorem e0 (n : Nat) (l : List (D_api_Entry)) : f n l =
  bIf ((hide (decide (((l.length : Nat) : Int) < (1 : Int))))) (
    some ((⟨#[]⟩ : ByteArray), 9, ())
    ) (
    bIf ((hide (decide (((l.length : Nat) : Int) > (8 : Int))))) (
      some ((⟨#[]⟩ : ByteArray), 9, ())
      ) (
      J1 n (l, ())
      )
    ) := (hideF_eq _).trans (by kernel_rfl)
theorem e1 (n : Nat) (l : List (D_api_Entry)) : J1 n (l, ()) =
  bnd (F_ref14_num.f n ((l.length : Nat) : Int)) fun u1 =>
  J2 n n (l, u1.1, 0, ()) := (hideF_eq _).trans (by kernel_rfl)
theorem e2 (n m : Nat) (l : List (D_api_Entry)) (s_ : ByteArray) (i : Int) : J2 n (m + 1) (l, s_, i, ()) =
  bIf ((hide (decide (i < ((l.length : Nat) : Int))))) (
    gIf (0 ≤ i ∧ i < ((l.length : Nat) : Int)) (
      bnd (F_ref14_Sound.f n (List.getD l i.toNat (Va.dflt T_api_Entry))) fun u1 =>
      bIf ((!u1.1)) (
        some ((⟨#[]⟩ : ByteArray), 2, ())
        ) (
        J2 n m (l, s_, (IntKind.i64.wrap (i + (1 : Int))), ())
        )
      )
    ) (
    J3 n (l, s_, ())
    ) := (hideF_eq _).trans (by kernel_rfl)
theorem e3 (n : Nat) (l : List (D_api_Entry)) (s_ : ByteArray) : J3 n (l, s_, ()) =
  J4 n n (l, s_, 0, ()) := (hideF_eq _).trans (by kernel_rfl)
theorem e4 (n m : Nat) (l : List (D_api_Entry)) (s_ : ByteArray) (i : Int) : J4 n (m + 1) (l, s_, i, ()) =
  bIf ((hide (decide (i < ((l.length : Nat) : Int))))) (
    gIf (0 ≤ i ∧ i < ((l.length : Nat) : Int)) (
      bnd (F_ref14_put.f n (List.getD l i.toNat (Va.dflt T_api_Entry))) fun u1 =>
      gIf (s_.size + u1.1.size ≤ 4611686018427387904) (
        J4 n m (l, (s_ ++ u1.1), (IntKind.i64.wrap (i + (1 : Int))), ())
        )
      )
    ) (
    J5 n (s_, ())
    ) := (hideF_eq _).trans (by kernel_rfl)
theorem e5 (n : Nat) (s_ : ByteArray) : J5 n (s_, ()) =
  bIf ((hide (decide ((s_.size : Int) > (16384 : Int))))) (
    some ((⟨#[]⟩ : ByteArray), 17, ())
    ) (
    some (s_, 0, ())
    ) := (hideF_eq _).trans (by kernel_rfl)
theorem phi (n : Nat) : ∀ e ∈ (X n).c.Φ, EntryOk Tryz.prog e := allE_cons (mkEntry_ok (F_ref14_Sound.ok n)) (allE_cons (mkEntry_ok (F_ref14_num.ok n)) (allE_cons (mkEntry_ok (F_ref14_put.ok n)) (allE_nil)))
theorem ok (n : Nat) : FnOk Tryz.prog 14 ia io (fRun (X n) n T Tryz.f14 ia io) := tree_ok mixed tabIs (phi n) Tryz.func14 (by kernel_rfl) rfl
noncomputable def en (n : Nat) : Entry := mkEntry 14 ia io (fRun (X n) n T Tryz.f14 ia io)
end F_ref14_Encode
end Go.Proofs.YtcpkhpboemfglaaGreatDoor


namespace Go.Proofs.YtcpkhpboemfglaaGreatDoor
open Go Go.Va Go.Proofs
/- bytes.Equal -/
namespace F_bytes_Equal
abbrev ia : List Ai := [.dat (.slice (.int .u8)), .dat (.slice (.int .u8))]
abbrev io : List (Nat × Oi) := [(4, .dat .bool)]
abbrev R : Type := DOut ia io
noncomputable def X (n : Nat) : Ctx := ⟨⟨tab, [], 0, []⟩, 10, bnOf 0 ia⟩
noncomputable def T : CT := .o
noncomputable def f (n : Nat) (a : List (Int)) (b : List (Int)) : Option R := fRun (X n) n T Tryz.f69 ia io (a, b, ())
theorem e0 (n : Nat) (a : List (Int)) (b : List (Int)) : f n a b =
  some ((hide (eqS (bytesOf a) (bytesOf b))), ()) := (hideF_eq _).trans (by kernel_rfl)
theorem phi (n : Nat) : ∀ e ∈ (X n).c.Φ, EntryOk Tryz.prog e := allE_nil
theorem ok (n : Nat) : FnOk Tryz.prog 69 ia io (fRun (X n) n T Tryz.f69 ia io) := tree_ok mixed tabIs (phi n) Tryz.func69 (by kernel_rfl) rfl
noncomputable def en (n : Nat) : Entry := mkEntry 69 ia io (fRun (X n) n T Tryz.f69 ia io)
end F_bytes_Equal
end Go.Proofs.YtcpkhpboemfglaaGreatDoor


namespace Go.Proofs.YtcpkhpboemfglaaGreatDoor
open Go Go.Va Go.Proofs
/- chartulary/pack.Read -/
namespace F_pack_Read
abbrev ia : List Ai := [.dat (.slice (.int .u8))]
abbrev io : List (Nat × Oi) := [(2, .new 0 (.d T_pack_Reader))]
abbrev R : Type := DOut ia io
noncomputable def X (n : Nat) : Ctx := ⟨⟨tab, [F_slices_Clone_byte.en n], 0, []⟩, 7, bnOf 0 ia⟩
noncomputable def T : CT := .o
noncomputable def f (n : Nat) (b : List (Int)) : Option R := fRun (X n) n T Tryz.f137 ia io (b, ())
theorem e0 (n : Nat) (b : List (Int)) : f n b =
  bnd (F_slices_Clone_byte.f n b) fun u1 =>
  some ((u1.1, (0, ())), ()) := (hideF_eq _).trans (by kernel_rfl)
theorem phi (n : Nat) : ∀ e ∈ (X n).c.Φ, EntryOk Tryz.prog e := allE_cons (mkEntry_ok (F_slices_Clone_byte.ok n)) (allE_nil)
theorem ok (n : Nat) : FnOk Tryz.prog 137 ia io (fRun (X n) n T Tryz.f137 ia io) := tree_ok mixed tabIs (phi n) Tryz.func137 (by kernel_rfl) rfl
noncomputable def en (n : Nat) : Entry := mkEntry 137 ia io (fRun (X n) n T Tryz.f137 ia io)
end F_pack_Read
end Go.Proofs.YtcpkhpboemfglaaGreatDoor


namespace Go.Proofs.YtcpkhpboemfglaaGreatDoor
open Go Go.Va Go.Proofs
/- chartulary/entry.NewReader -/
namespace F_entry_NewReader
abbrev ia : List Ai := [.dat (.slice (.int .u8))]
abbrev io : List (Nat × Oi) := [(2, .newc 1 (.d T_pack_Reader))]
abbrev R : Type := DOut ia io
noncomputable def X (n : Nat) : Ctx := ⟨⟨tab, [F_pack_Read.en n], 0, []⟩, 6, bnOf 0 ia⟩
noncomputable def T : CT := .o
noncomputable def f (n : Nat) (b : List (Int)) : Option R := fRun (X n) n T Tryz.f65 ia io (b, ())
theorem e0 (n : Nat) (b : List (Int)) : f n b =
  bnd (F_pack_Read.f n b) fun u1 =>
  some (u1.1, ()) := (hideF_eq _).trans (by kernel_rfl)
theorem phi (n : Nat) : ∀ e ∈ (X n).c.Φ, EntryOk Tryz.prog e := allE_cons (mkEntry_ok (F_pack_Read.ok n)) (allE_nil)
theorem ok (n : Nat) : FnOk Tryz.prog 65 ia io (fRun (X n) n T Tryz.f65 ia io) := tree_ok mixed tabIs (phi n) Tryz.func65 (by kernel_rfl) rfl
noncomputable def en (n : Nat) : Entry := mkEntry 65 ia io (fRun (X n) n T Tryz.f65 ia io)
end F_entry_NewReader
end Go.Proofs.YtcpkhpboemfglaaGreatDoor


namespace Go.Proofs.YtcpkhpboemfglaaGreatDoor
open Go Go.Va Go.Proofs
/- chartulary/bits.Unpack -/
namespace F_bits_Unpack
abbrev ia : List Ai := [.dat (.slice (.int .u8))]
abbrev io : List (Nat × Oi) := [(2, .dat (.int .u64)), (3, .dat (.int .i64)), (4, .dat (.int .i64))]
abbrev R : Type := DOut ia io
noncomputable def X (n : Nat) : Ctx := ⟨⟨tab, [F_bytes_Equal.en n, F_bits_Pack.en n], 0, []⟩, 44, bnOf 0 ia⟩
abbrev g1 : List Si := [.dat 0 (.slice (.int .u8)), .dat 2 (.int .u64), .dat 7 (.slice (.int .u8)), .dat 8 (.int .i64), .dat 9 (.int .i64)]
abbrev g2 : List Si := [.dat 0 (.slice (.int .u8)), .dat 2 (.int .u64), .dat 5 (.int .i64), .dat 6 (.int .u8), .dat 7 (.slice (.int .u8)), .dat 8 (.int .i64), .dat 9 (.int .i64), .dat 19 .bool]
abbrev g3 : List Si := [.dat 0 (.slice (.int .u8)), .dat 2 (.int .u64), .dat 5 (.int .i64), .dat 6 (.int .u8), .dat 7 (.slice (.int .u8)), .dat 8 (.int .i64), .dat 9 (.int .i64)]
abbrev g4 : List Si := []
noncomputable def T : CT := (.s .o (.s (.s .o (.b (.l g1 (.s .o (.s .o (.s (.b (.s .o (.s (.s .o (.r g2 .o)) (.r g3 .o)))) .o)))))) (.r g4 .o)))
noncomputable def J1 (n : Nat) (m : Nat) : (List (Int)) × Int × (List (Int)) × Int × Int × Unit → Option R := jL (X n) n T (bodyOf Tryz.f185) (endK ia io) g1 [1, 0, 1, 0] [] m
noncomputable def J2 (n m1 : Nat) : (List (Int)) × Int × Int × Int × (List (Int)) × Int × Int × Bool × Unit → Option R := jR (X n) n T (bodyOf Tryz.f185) (endK ia io) g2 [1, 0, 1, 0, 0, 1, 1, 0, 0, 1, 0, 1] [m1]
noncomputable def J3 (n m1 : Nat) : (List (Int)) × Int × Int × Int × (List (Int)) × Int × Int × Unit → Option R := jR (X n) n T (bodyOf Tryz.f185) (endK ia io) g3 [1, 0, 1, 0, 0, 1, 1, 0, 0, 1, 1] [m1]
noncomputable def J4 (n : Nat) : Unit → Option R := jR (X n) n T (bodyOf Tryz.f185) (endK ia io) g4 [1, 1] []
noncomputable def f (n : Nat) (b : List (Int)) : Option R := fRun (X n) n T Tryz.f185 ia io (b, ())
theorem e0 (n : Nat) (b : List (Int)) : f n b =
  J1 n n (b, 0, b, ((b.length : Nat) : Int), 0, ()) := (hideF_eq _).trans (by kernel_rfl)
theorem e1 (n m : Nat) (b : List (Int)) (n_ : Int) (t7 : List (Int)) (t8 : Int) (t9 : Int) : J1 n (m + 1) (b, n_, t7, t8, t9, ()) =
  bIf ((hide (decide (t9 < t8)))) (
    gIf (0 ≤ t9 ∧ t9 < ((t7.length : Nat) : Int)) (
      bIf ((hide (t9 == (9 : Int)))) (
        J2 n m (b, n_, t9, (List.getD t7 t9.toNat 0), t7, t8, t9, (hide (decide ((List.getD t7 t9.toNat 0) > (1 : Int)))), ())
        ) (
        J2 n m (b, n_, t9, (List.getD t7 t9.toNat 0), t7, t8, t9, false, ())
        )
      )
    ) (
    J4 n (())
    ) := (hideF_eq _).trans (by kernel_rfl)
theorem e2 (n m1 : Nat) (b : List (Int)) (n_ : Int) (i : Int) (x_ : Int) (t7 : List (Int)) (t8 : Int) (t9 : Int) (t19 : Bool) : J2 n m1 (b, n_, i, x_, t7, t8, t9, t19, ()) =
  bIf (t19) (
    some (0, 0, 2, ())
    ) (
    J3 n m1 (b, n_, i, x_, t7, t8, t9, ())
    ) := (hideF_eq _).trans (by kernel_rfl)
theorem e3 (n m1 : Nat) (b : List (Int)) (n_ : Int) (i : Int) (x_ : Int) (t7 : List (Int)) (t8 : Int) (t9 : Int) : J3 n m1 (b, n_, i, x_, t7, t8, t9, ()) =
  gNo ((IntKind.u64.wrap ((7 : Int) * (IntKind.u64.wrap i))) < 0) (
    gNo ((7 : Int) < 0) (
      bIf ((hide ((shrI .u8 x_ 7) != (0 : Int)))) (
        J1 n m1 (b, (bitI .or .u64 n_ (shlI .u64 (IntKind.u64.wrap (bitI .andNot .u8 x_ 128)) (IntKind.u64.wrap ((7 : Int) * (IntKind.u64.wrap i))))), t7, t8, (IntKind.i64.wrap (t9 + (1 : Int))), ())
        ) (
        bnd (F_bits_Pack.f n (bitI .or .u64 n_ (shlI .u64 (IntKind.u64.wrap (bitI .andNot .u8 x_ 128)) (IntKind.u64.wrap ((7 : Int) * (IntKind.u64.wrap i)))))) fun u1 =>
        gIf (0 ≤ (IntKind.i64.wrap (i + (1 : Int))) ∧ (IntKind.i64.wrap (i + (1 : Int))) ≤ ((b.length : Nat) : Int)) (
          gIf (0 ≤ (0 : Int) ∧ (0 : Int) ≤ (IntKind.i64.wrap (i + (1 : Int)))) (
            bnd (F_bytes_Equal.f n u1.1 ((b.take ((IntKind.i64.wrap (i + (1 : Int))).toNat)).drop 0)) fun u2 =>
            bIf ((!u2.1)) (
              some (0, 0, 2, ())
              ) (
              some ((bitI .or .u64 n_ (shlI .u64 (IntKind.u64.wrap (bitI .andNot .u8 x_ 128)) (IntKind.u64.wrap ((7 : Int) * (IntKind.u64.wrap i))))), (IntKind.i64.wrap (i + (1 : Int))), 0, ())
              )
            )
          )
        )
      )
    ) := (hideF_eq _).trans (by kernel_rfl)
theorem e4 (n : Nat) : J4 n (()) =
  some (0, 0, 3, ()) := (hideF_eq _).trans (by kernel_rfl)
theorem phi (n : Nat) : ∀ e ∈ (X n).c.Φ, EntryOk Tryz.prog e := allE_cons (mkEntry_ok (F_bytes_Equal.ok n)) (allE_cons (mkEntry_ok (F_bits_Pack.ok n)) (allE_nil))
theorem ok (n : Nat) : FnOk Tryz.prog 185 ia io (fRun (X n) n T Tryz.f185 ia io) := tree_ok mixed tabIs (phi n) Tryz.func185 (by kernel_rfl) rfl
noncomputable def en (n : Nat) : Entry := mkEntry 185 ia io (fRun (X n) n T Tryz.f185 ia io)
end F_bits_Unpack
end Go.Proofs.YtcpkhpboemfglaaGreatDoor


namespace Go.Proofs.YtcpkhpboemfglaaGreatDoor
open Go Go.Va Go.Proofs
/- (*chartulary/pack.Reader).fail -/
namespace F_pack_Reader_fail
abbrev ia : List Ai := [.ptr (.d T_pack_Reader), .dat (.int .i64)]
abbrev io : List (Nat × Oi) := []
abbrev R : Type := DOut ia io
noncomputable def X (n : Nat) : Ctx := ⟨⟨tab, [], 0, []⟩, 13, bnOf 0 ia⟩
noncomputable def T : CT := .o
noncomputable def f (n : Nat) (r : D_pack_Reader) (e_ : Int) : Option R := fRun (X n) n T Tryz.f139 ia io (r, e_, ())
theorem e0 (n : Nat) (r : D_pack_Reader) (e_ : Int) : f n r e_ =
  bIf ((hide (r.2.1 == (0 : Int)))) (
    some ((r.1, (e_, r.2.2)), ())
    ) (
    some (r, ())
    ) := (hideF_eq _).trans (by kernel_rfl)
theorem phi (n : Nat) : ∀ e ∈ (X n).c.Φ, EntryOk Tryz.prog e := allE_nil
theorem ok (n : Nat) : FnOk Tryz.prog 139 ia io (fRun (X n) n T Tryz.f139 ia io) := tree_ok mixed tabIs (phi n) Tryz.func139 (by kernel_rfl) rfl
noncomputable def en (n : Nat) : Entry := mkEntry 139 ia io (fRun (X n) n T Tryz.f139 ia io)
end F_pack_Reader_fail
end Go.Proofs.YtcpkhpboemfglaaGreatDoor


namespace Go.Proofs.YtcpkhpboemfglaaGreatDoor
open Go Go.Va Go.Proofs
/- (*chartulary/pack.Reader).take -/
namespace F_pack_Reader_take
abbrev ia : List Ai := [.ptr (.d T_pack_Reader), .dat (.int .i64)]
abbrev io : List (Nat × Oi) := [(4, .dat (.slice (.int .u8)))]
abbrev R : Type := DOut ia io
noncomputable def X (n : Nat) : Ctx := ⟨⟨tab, [F_pack_Reader_fail.en n], 0, []⟩, 43, bnOf 0 ia⟩
abbrev g1 : List Si := [.ref 0 500000 T_pack_Reader, .dat 1 (.int .i64), .box 500000 (.d T_pack_Reader)]
noncomputable def T : CT := (.s .o (.s .o (.r g1 .o)))
noncomputable def J1 (n : Nat) : Int × D_pack_Reader × Unit → Option R := jR (X n) n T (bodyOf Tryz.f149) (endK ia io) g1 [1, 1] []
noncomputable def f (n : Nat) (r : D_pack_Reader) (n_ : Int) : Option R := fRun (X n) n T Tryz.f149 ia io (r, n_, ())
theorem e0 (n : Nat) (r : D_pack_Reader) (n_ : Int) : f n r n_ =
  bIf ((hide (r.2.1 == (0 : Int)))) (
    bIf ((hide (decide (n_ > ((r.1.length : Nat) : Int))))) (
      bnd (F_pack_Reader_fail.f n r 3) fun u1 =>
      J1 n (n_, u1.1, ())
      ) (
      J1 n (n_, r, ())
      )
    ) (
    J1 n (n_, r, ())
    ) := (hideF_eq _).trans (by kernel_rfl)
theorem e1 (n : Nat) (n_ : Int) (r : D_pack_Reader) : J1 n (n_, r, ()) =
  bIf ((hide (r.2.1 != (0 : Int)))) (
    some ([], r, ())
    ) (
    gIf (0 ≤ n_ ∧ n_ ≤ ((r.1.length : Nat) : Int)) (
      gIf (0 ≤ (0 : Int) ∧ (0 : Int) ≤ n_) (
        gIf (0 ≤ ((r.1.length : Nat) : Int) ∧ ((r.1.length : Nat) : Int) ≤ ((r.1.length : Nat) : Int)) (
          gIf (0 ≤ n_ ∧ n_ ≤ ((r.1.length : Nat) : Int)) (
            some (((r.1.take n_.toNat).drop 0), (((r.1.take ((((r.1.length : Nat) : Int)).toNat)).drop n_.toNat), r.2), ())
            )
          )
        )
      )
    ) := (hideF_eq _).trans (by kernel_rfl)
theorem phi (n : Nat) : ∀ e ∈ (X n).c.Φ, EntryOk Tryz.prog e := allE_cons (mkEntry_ok (F_pack_Reader_fail.ok n)) (allE_nil)
theorem ok (n : Nat) : FnOk Tryz.prog 149 ia io (fRun (X n) n T Tryz.f149 ia io) := tree_ok mixed tabIs (phi n) Tryz.func149 (by kernel_rfl) rfl
noncomputable def en (n : Nat) : Entry := mkEntry 149 ia io (fRun (X n) n T Tryz.f149 ia io)
end F_pack_Reader_take
end Go.Proofs.YtcpkhpboemfglaaGreatDoor


namespace Go.Proofs.YtcpkhpboemfglaaGreatDoor
open Go Go.Va Go.Proofs
/- (*chartulary/pack.Reader).Num -/
namespace F_pack_Reader_Num
abbrev ia : List Ai := [.ptr (.d T_pack_Reader)]
abbrev io : List (Nat × Oi) := [(2, .dat (.int .u64))]
abbrev R : Type := DOut ia io
noncomputable def X (n : Nat) : Ctx := ⟨⟨tab, [F_pack_Reader_fail.en n, F_pack_Reader_take.en n, F_bits_Unpack.en n], 0, []⟩, 33, bnOf 0 ia⟩
abbrev g1 : List Si := [.ref 0 500000 T_pack_Reader, .box 500000 (.d T_pack_Reader)]
noncomputable def T : CT := (.s .o (.s .o (.r g1 .o)))
noncomputable def J1 (n : Nat) : D_pack_Reader × Unit → Option R := jR (X n) n T (bodyOf Tryz.f138) (endK ia io) g1 [1, 1] []
noncomputable def f (n : Nat) (r : D_pack_Reader) : Option R := fRun (X n) n T Tryz.f138 ia io (r, ())
theorem e0 (n : Nat) (r : D_pack_Reader) : f n r =
  bIf ((hide false)) (
    some (0, r, ())
    ) (
    bIf ((hide (r.2.1 != (0 : Int)))) (
      some (0, r, ())
      ) (
      J1 n (r, ())
      )
    ) := (hideF_eq _).trans (by kernel_rfl)
theorem e1 (n : Nat) (r : D_pack_Reader) : J1 n (r, ()) =
  bnd (F_bits_Unpack.f n r.1) fun u1 =>
  bIf ((hide (u1.2.2.1 != (0 : Int)))) (
    bnd (F_pack_Reader_fail.f n r u1.2.2.1) fun u2 =>
    some (0, u2.1, ())
    ) (
    bnd (F_pack_Reader_take.f n r u1.2.1) fun u3 =>
    some (u1.1, u3.2.1, ())
    ) := (hideF_eq _).trans (by kernel_rfl)
theorem phi (n : Nat) : ∀ e ∈ (X n).c.Φ, EntryOk Tryz.prog e := allE_cons (mkEntry_ok (F_pack_Reader_fail.ok n)) (allE_cons (mkEntry_ok (F_pack_Reader_take.ok n)) (allE_cons (mkEntry_ok (F_bits_Unpack.ok n)) (allE_nil)))
theorem ok (n : Nat) : FnOk Tryz.prog 138 ia io (fRun (X n) n T Tryz.f138 ia io) := tree_ok mixed tabIs (phi n) Tryz.func138 (by kernel_rfl) rfl
noncomputable def en (n : Nat) : Entry := mkEntry 138 ia io (fRun (X n) n T Tryz.f138 ia io)
end F_pack_Reader_Num
end Go.Proofs.YtcpkhpboemfglaaGreatDoor


namespace Go.Proofs.YtcpkhpboemfglaaGreatDoor
open Go Go.Va Go.Proofs
/- (*chartulary/pack.Reader).Count -/
namespace F_pack_Reader_Count
abbrev ia : List Ai := [.ptr (.d T_pack_Reader), .dat (.int .i64)]
abbrev io : List (Nat × Oi) := [(4, .dat (.int .i64))]
abbrev R : Type := DOut ia io
noncomputable def X (n : Nat) : Ctx := ⟨⟨tab, [F_pack_Reader_Num.en n, F_pack_Reader_fail.en n], 0, []⟩, 29, bnOf 0 ia⟩
abbrev g1 : List Si := [.ref 0 500000 T_pack_Reader, .dat 1 (.int .i64), .dat 5 (.int .u64), .box 500000 (.d T_pack_Reader)]
abbrev g2 : List Si := [.ref 0 500000 T_pack_Reader, .dat 5 (.int .u64), .dat 24 .bool, .box 500000 (.d T_pack_Reader)]
abbrev g3 : List Si := [.dat 5 (.int .u64), .box 500000 (.d T_pack_Reader)]
noncomputable def T : CT := (.s .o (.s .o (.s .o (.r g1 (.s (.s .o (.r g2 .o)) (.r g3 .o))))))
noncomputable def J1 (n : Nat) : Int × Int × D_pack_Reader × Unit → Option R := jR (X n) n T (bodyOf Tryz.f66) (endK ia io) g1 [1, 1, 1] []
noncomputable def J2 (n : Nat) : Int × Bool × D_pack_Reader × Unit → Option R := jR (X n) n T (bodyOf Tryz.f66) (endK ia io) g2 [1, 1, 1, 0, 1] []
noncomputable def J3 (n : Nat) : Int × D_pack_Reader × Unit → Option R := jR (X n) n T (bodyOf Tryz.f66) (endK ia io) g3 [1, 1, 1, 1] []
noncomputable def f (n : Nat) (r : D_pack_Reader) (most : Int) : Option R := fRun (X n) n T Tryz.f66 ia io (r, most, ())
theorem e0 (n : Nat) (r : D_pack_Reader) (most : Int) : f n r most =
  bnd (F_pack_Reader_Num.f n r) fun u1 =>
  bIf ((hide false)) (
    some (0, u1.2.1, ())
    ) (
    bIf ((hide (u1.2.1.2.1 != (0 : Int)))) (
      some (0, u1.2.1, ())
      ) (
      J1 n (most, u1.1, u1.2.1, ())
      )
    ) := (hideF_eq _).trans (by kernel_rfl)
theorem e1 (n : Nat) (most : Int) (n_ : Int) (r : D_pack_Reader) : J1 n (most, n_, r, ()) =
  bIf ((hide (decide (most < (0 : Int))))) (
    J2 n (n_, true, r, ())
    ) (
    J2 n (n_, (hide (decide (n_ > (IntKind.u64.wrap most)))), r, ())
    ) := (hideF_eq _).trans (by kernel_rfl)
theorem e2 (n : Nat) (n_ : Int) (t24 : Bool) (r : D_pack_Reader) : J2 n (n_, t24, r, ()) =
  bIf (t24) (
    bnd (F_pack_Reader_fail.f n r 17) fun u1 =>
    some (0, u1.1, ())
    ) (
    J3 n (n_, r, ())
    ) := (hideF_eq _).trans (by kernel_rfl)
theorem e3 (n : Nat) (n_ : Int) (b500000 : D_pack_Reader) : J3 n (n_, b500000, ()) =
  some ((IntKind.i64.wrap n_), b500000, ()) := (hideF_eq _).trans (by kernel_rfl)
theorem phi (n : Nat) : ∀ e ∈ (X n).c.Φ, EntryOk Tryz.prog e := allE_cons (mkEntry_ok (F_pack_Reader_Num.ok n)) (allE_cons (mkEntry_ok (F_pack_Reader_fail.ok n)) (allE_nil))
theorem ok (n : Nat) : FnOk Tryz.prog 66 ia io (fRun (X n) n T Tryz.f66 ia io) := tree_ok mixed tabIs (phi n) Tryz.func66 (by kernel_rfl) rfl
noncomputable def en (n : Nat) : Entry := mkEntry 66 ia io (fRun (X n) n T Tryz.f66 ia io)
end F_pack_Reader_Count
end Go.Proofs.YtcpkhpboemfglaaGreatDoor


namespace Go.Proofs.YtcpkhpboemfglaaGreatDoor
open Go Go.Va Go.Proofs
/- (chartulary/entry.Reader).Small -/
namespace F_entry_Reader_Small
abbrev ia : List Ai := [.fn (.str 1) [(.d T_pack_Reader)]]
abbrev io : List (Nat × Oi) := [(2, .dat (.int .i64))]
abbrev R : Type := DOut ia io
noncomputable def X (n : Nat) : Ctx := ⟨⟨tab, [F_pack_Reader_Count.en n], 0, []⟩, 6, bnOf 0 ia⟩
noncomputable def T : CT := .o
noncomputable def f (n : Nat) (rc0 : D_pack_Reader) : Option R := fRun (X n) n T Tryz.f74 ia io (rc0, ())
theorem e0 (n : Nat) (rc0 : D_pack_Reader) : f n rc0 =
  bnd (F_pack_Reader_Count.f n rc0 1099511627776) fun u1 =>
  some (u1.1, u1.2.1, ()) := (hideF_eq _).trans (by kernel_rfl)
theorem phi (n : Nat) : ∀ e ∈ (X n).c.Φ, EntryOk Tryz.prog e := allE_cons (mkEntry_ok (F_pack_Reader_Count.ok n)) (allE_nil)
theorem ok (n : Nat) : FnOk Tryz.prog 74 ia io (fRun (X n) n T Tryz.f74 ia io) := tree_ok mixed tabIs (phi n) Tryz.func74 (by kernel_rfl) rfl
noncomputable def en (n : Nat) : Entry := mkEntry 74 ia io (fRun (X n) n T Tryz.f74 ia io)
end F_entry_Reader_Small
end Go.Proofs.YtcpkhpboemfglaaGreatDoor


namespace Go.Proofs.YtcpkhpboemfglaaGreatDoor
open Go Go.Va Go.Proofs
/- (chartulary/entry.Reader).Default -/
namespace F_entry_Reader_Default
abbrev ia : List Ai := [.fn (.str 1) [(.d T_pack_Reader)]]
abbrev io : List (Nat × Oi) := [(2, .cel (.d T_api_Default))]
abbrev R : Type := DOut ia io
noncomputable def X (n : Nat) : Ctx := ⟨⟨tab, [F_entry_Reader_Small.en n], 0, []⟩, 11, bnOf 0 ia⟩
noncomputable def T : CT := .o
noncomputable def f (n : Nat) (rc0 : D_pack_Reader) : Option R := fRun (X n) n T Tryz.f141 ia io (rc0, ())
theorem e0 (n : Nat) (rc0 : D_pack_Reader) : f n rc0 =
  bnd (F_entry_Reader_Small.f n rc0) fun u1 =>
  bnd (F_entry_Reader_Small.f n u1.2.1) fun u2 =>
  some ((u1.1, (u2.1, ())), u2.2.1, ()) := (hideF_eq _).trans (by kernel_rfl)
theorem phi (n : Nat) : ∀ e ∈ (X n).c.Φ, EntryOk Tryz.prog e := allE_cons (mkEntry_ok (F_entry_Reader_Small.ok n)) (allE_nil)
theorem ok (n : Nat) : FnOk Tryz.prog 141 ia io (fRun (X n) n T Tryz.f141 ia io) := tree_ok mixed tabIs (phi n) Tryz.func141 (by kernel_rfl) rfl
noncomputable def en (n : Nat) : Entry := mkEntry 141 ia io (fRun (X n) n T Tryz.f141 ia io)
end F_entry_Reader_Default
end Go.Proofs.YtcpkhpboemfglaaGreatDoor


namespace Go.Proofs.YtcpkhpboemfglaaGreatDoor
open Go Go.Va Go.Proofs
/- (*chartulary/pack.Reader).Flag -/
namespace F_pack_Reader_Flag
abbrev ia : List Ai := [.ptr (.d T_pack_Reader)]
abbrev io : List (Nat × Oi) := [(2, .dat .bool)]
abbrev R : Type := DOut ia io
noncomputable def X (n : Nat) : Ctx := ⟨⟨tab, [F_pack_Reader_fail.en n, F_pack_Reader_take.en n], 0, []⟩, 33, bnOf 0 ia⟩
abbrev g1 : List Si := [.ref 0 500000 T_pack_Reader, .dat 3 (.slice (.int .u8)), .box 500000 (.d T_pack_Reader)]
noncomputable def T : CT := (.s .o (.s .o (.s .o (.s .o (.r g1 .o)))))
noncomputable def J1 (n : Nat) : (List (Int)) × D_pack_Reader × Unit → Option R := jR (X n) n T (bodyOf Tryz.f170) (endK ia io) g1 [1, 1, 1, 1] []
noncomputable def f (n : Nat) (r : D_pack_Reader) : Option R := fRun (X n) n T Tryz.f170 ia io (r, ())
theorem e0 (n : Nat) (r : D_pack_Reader) : f n r =
  bIf ((hide false)) (
    some (false, r, ())
    ) (
    bnd (F_pack_Reader_take.f n r 1) fun u1 =>
    bIf ((hide (u1.2.1.2.1 == (0 : Int)))) (
      gIf (0 ≤ (0 : Int) ∧ (0 : Int) < ((u1.1.length : Nat) : Int)) (
        gNo ((1 : Int) < 0) (
          bIf ((hide ((shrI .u8 (List.getD u1.1 0 0) 1) != (0 : Int)))) (
            bnd (F_pack_Reader_fail.f n u1.2.1 2) fun u2 =>
            J1 n (u1.1, u2.1, ())
            ) (
            J1 n (u1.1, u1.2.1, ())
            )
          )
        )
      ) (
      J1 n (u1.1, u1.2.1, ())
      )
    ) := (hideF_eq _).trans (by kernel_rfl)
theorem e1 (n : Nat) (b : List (Int)) (r : D_pack_Reader) : J1 n (b, r, ()) =
  bIf ((hide (r.2.1 == (0 : Int)))) (
    gIf (0 ≤ (0 : Int) ∧ (0 : Int) < ((b.length : Nat) : Int)) (
      some ((hide ((List.getD b 0 0) == (1 : Int))), r, ())
      )
    ) (
    some (false, r, ())
    ) := (hideF_eq _).trans (by kernel_rfl)
theorem phi (n : Nat) : ∀ e ∈ (X n).c.Φ, EntryOk Tryz.prog e := allE_cons (mkEntry_ok (F_pack_Reader_fail.ok n)) (allE_cons (mkEntry_ok (F_pack_Reader_take.ok n)) (allE_nil))
theorem ok (n : Nat) : FnOk Tryz.prog 170 ia io (fRun (X n) n T Tryz.f170 ia io) := tree_ok mixed tabIs (phi n) Tryz.func170 (by kernel_rfl) rfl
noncomputable def en (n : Nat) : Entry := mkEntry 170 ia io (fRun (X n) n T Tryz.f170 ia io)
end F_pack_Reader_Flag
end Go.Proofs.YtcpkhpboemfglaaGreatDoor


namespace Go.Proofs.YtcpkhpboemfglaaGreatDoor
open Go Go.Va Go.Proofs
/- (*chartulary/pack.Reader).Text -/
namespace F_pack_Reader_Text
abbrev ia : List Ai := [.ptr (.d T_pack_Reader)]
abbrev io : List (Nat × Oi) := [(2, .dat .str)]
abbrev R : Type := DOut ia io
noncomputable def X (n : Nat) : Ctx := ⟨⟨tab, [F_pack_Reader_Count.en n, F_pack_Reader_take.en n], 0, []⟩, 12, bnOf 0 ia⟩
noncomputable def T : CT := .o
noncomputable def f (n : Nat) (r : D_pack_Reader) : Option R := fRun (X n) n T Tryz.f75 ia io (r, ())
theorem e0 (n : Nat) (r : D_pack_Reader) : f n r =
  bnd (F_pack_Reader_Count.f n r 16384) fun u1 =>
  bIf ((hide false)) (
    some ((⟨#[]⟩ : ByteArray), u1.2.1, ())
    ) (
    bnd (F_pack_Reader_take.f n u1.2.1 u1.1) fun u2 =>
    some ((bytesOf u2.1), u2.2.1, ())
    ) := (hideF_eq _).trans (by kernel_rfl)
theorem phi (n : Nat) : ∀ e ∈ (X n).c.Φ, EntryOk Tryz.prog e := allE_cons (mkEntry_ok (F_pack_Reader_Count.ok n)) (allE_cons (mkEntry_ok (F_pack_Reader_take.ok n)) (allE_nil))
theorem ok (n : Nat) : FnOk Tryz.prog 75 ia io (fRun (X n) n T Tryz.f75 ia io) := tree_ok mixed tabIs (phi n) Tryz.func75 (by kernel_rfl) rfl
noncomputable def en (n : Nat) : Entry := mkEntry 75 ia io (fRun (X n) n T Tryz.f75 ia io)
end F_pack_Reader_Text
end Go.Proofs.YtcpkhpboemfglaaGreatDoor


namespace Go.Proofs.YtcpkhpboemfglaaGreatDoor
open Go Go.Va Go.Proofs
/- (chartulary/entry.Reader).Grants -/
namespace F_entry_Reader_Grants
abbrev ia : List Ai := [.fn (.str 1) [(.d T_pack_Reader)]]
abbrev io : List (Nat × Oi) := [(2, .val (.r 0 T_api_Grant))]
abbrev R : Type := DOut ia io
noncomputable def X (n : Nat) : Ctx := ⟨⟨tab, [F_pack_Reader_Count.en n, F_pack_Reader_Text.en n, F_pack_Reader_Flag.en n], 0, []⟩, 32, bnOf 0 ia⟩
abbrev g1 : List Si := [.ref 1 1 T_entry_Reader, .val 3 (.r 200300 T_api_Grant), .dat 7 (.int .i64), .dat 8 (.int .i64), .box 1 (.p (.al 500000 T_pack_Reader) (.d .unit)), .box 500000 (.d T_pack_Reader)]
abbrev g2 : List Si := [.val 3 (.r 200300 T_api_Grant), .box 500000 (.d T_pack_Reader)]
noncomputable def T : CT := (.s .o (.s .o (.s (.s .o (.b (.l g1 .o))) (.r g2 .o))))
noncomputable def J1 (n : Nat) (m : Nat) : (List (D_api_Grant)) × Int × Int × D_entry_Reader × D_pack_Reader × Unit → Option R := jL (X n) n T (bodyOf Tryz.f143) (endK ia io) g1 [1, 1, 0, 1, 0] [] m
noncomputable def J2 (n : Nat) : (List (D_api_Grant)) × D_pack_Reader × Unit → Option R := jR (X n) n T (bodyOf Tryz.f143) (endK ia io) g2 [1, 1, 1] []
noncomputable def f (n : Nat) (rc0 : D_pack_Reader) : Option R := fRun (X n) n T Tryz.f143 ia io (rc0, ())
theorem e0 (n : Nat) (rc0 : D_pack_Reader) : f n rc0 =
  bnd (F_pack_Reader_Count.f n rc0 8) fun u1 =>
  J1 n n ([], u1.1, 0, ((), ()), u1.2.1, ()) := (hideF_eq _).trans (by kernel_rfl)
theorem e1 (n m : Nat) (out : List (D_api_Grant)) (t7 : Int) (t8 : Int) (r : D_entry_Reader) (b500000 : D_pack_Reader) : J1 n (m + 1) (out, t7, t8, r, b500000, ()) =
  bIf ((hide (decide (t8 < t7)))) (
    bnd (F_pack_Reader_Flag.f n b500000) fun u1 =>
    bnd (F_pack_Reader_Text.f n u1.2.1) fun u2 =>
    bnd (F_pack_Reader_Text.f n u2.2.1) fun u3 =>
    bnd (F_pack_Reader_Text.f n u3.2.1) fun u4 =>
    gIf ((out.length + 1) * 56 ≤ 70368744177664) (
      J1 n m ((out ++ ([(u1.1, (u2.1, (u3.1, (u4.1, ()))))] : List (D_api_Grant))), t7, (IntKind.i64.wrap (t8 + (1 : Int))), ((), r.2), u4.2.1, ())
      )
    ) (
    J2 n (out, b500000, ())
    ) := (hideF_eq _).trans (by kernel_rfl)
theorem e2 (n : Nat) (out : List (D_api_Grant)) (b500000 : D_pack_Reader) : J2 n (out, b500000, ()) =
  some (out, b500000, ()) := (hideF_eq _).trans (by kernel_rfl)
theorem phi (n : Nat) : ∀ e ∈ (X n).c.Φ, EntryOk Tryz.prog e := allE_cons (mkEntry_ok (F_pack_Reader_Count.ok n)) (allE_cons (mkEntry_ok (F_pack_Reader_Text.ok n)) (allE_cons (mkEntry_ok (F_pack_Reader_Flag.ok n)) (allE_nil)))
theorem ok (n : Nat) : FnOk Tryz.prog 143 ia io (fRun (X n) n T Tryz.f143 ia io) := tree_ok mixed tabIs (phi n) Tryz.func143 (by kernel_rfl) rfl
noncomputable def en (n : Nat) : Entry := mkEntry 143 ia io (fRun (X n) n T Tryz.f143 ia io)
end F_entry_Reader_Grants
end Go.Proofs.YtcpkhpboemfglaaGreatDoor


namespace Go.Proofs.YtcpkhpboemfglaaGreatDoor
open Go Go.Va Go.Proofs
/- chartulary/bits.Zag -/
namespace F_bits_Zag
abbrev ia : List Ai := [.dat (.int .u64)]
abbrev io : List (Nat × Oi) := [(2, .dat (.int .i64))]
abbrev R : Type := DOut ia io
noncomputable def X (n : Nat) : Ctx := ⟨⟨tab, [], 0, []⟩, 11, bnOf 0 ia⟩
noncomputable def T : CT := .o
noncomputable def f (n : Nat) (u : Int) : Option R := fRun (X n) n T Tryz.f186 ia io (u, ())
theorem e0 (n : Nat) (u : Int) : f n u =
  gNo ((1 : Int) < 0) (
    some ((bitI .xor .i64 (IntKind.i64.wrap (shrI .u64 u 1)) (IntKind.i64.wrap (0 - (IntKind.i64.wrap (bitI .and .u64 u 1))))), ())
    ) := (hideF_eq _).trans (by kernel_rfl)
theorem phi (n : Nat) : ∀ e ∈ (X n).c.Φ, EntryOk Tryz.prog e := allE_nil
theorem ok (n : Nat) : FnOk Tryz.prog 186 ia io (fRun (X n) n T Tryz.f186 ia io) := tree_ok mixed tabIs (phi n) Tryz.func186 (by kernel_rfl) rfl
noncomputable def en (n : Nat) : Entry := mkEntry 186 ia io (fRun (X n) n T Tryz.f186 ia io)
end F_bits_Zag
end Go.Proofs.YtcpkhpboemfglaaGreatDoor


namespace Go.Proofs.YtcpkhpboemfglaaGreatDoor
open Go Go.Va Go.Proofs
/- (*chartulary/pack.Reader).Int -/
namespace F_pack_Reader_Int
abbrev ia : List Ai := [.ptr (.d T_pack_Reader)]
abbrev io : List (Nat × Oi) := [(2, .dat (.int .i64))]
abbrev R : Type := DOut ia io
noncomputable def X (n : Nat) : Ctx := ⟨⟨tab, [F_pack_Reader_Num.en n, F_bits_Zag.en n], 0, []⟩, 6, bnOf 0 ia⟩
noncomputable def T : CT := .o
noncomputable def f (n : Nat) (r : D_pack_Reader) : Option R := fRun (X n) n T Tryz.f140 ia io (r, ())
theorem e0 (n : Nat) (r : D_pack_Reader) : f n r =
  bnd (F_pack_Reader_Num.f n r) fun u1 =>
  bnd (F_bits_Zag.f n u1.1) fun u2 =>
  some (u2.1, u1.2.1, ()) := (hideF_eq _).trans (by kernel_rfl)
theorem phi (n : Nat) : ∀ e ∈ (X n).c.Φ, EntryOk Tryz.prog e := allE_cons (mkEntry_ok (F_pack_Reader_Num.ok n)) (allE_cons (mkEntry_ok (F_bits_Zag.ok n)) (allE_nil))
theorem ok (n : Nat) : FnOk Tryz.prog 140 ia io (fRun (X n) n T Tryz.f140 ia io) := tree_ok mixed tabIs (phi n) Tryz.func140 (by kernel_rfl) rfl
noncomputable def en (n : Nat) : Entry := mkEntry 140 ia io (fRun (X n) n T Tryz.f140 ia io)
end F_pack_Reader_Int
end Go.Proofs.YtcpkhpboemfglaaGreatDoor


namespace Go.Proofs.YtcpkhpboemfglaaGreatDoor
open Go Go.Va Go.Proofs
/- (chartulary/entry.Reader).Lock -/
namespace F_entry_Reader_Lock
abbrev ia : List Ai := [.fn (.str 1) [(.d T_pack_Reader)]]
abbrev io : List (Nat × Oi) := [(2, .cel (.d T_api_Lock))]
abbrev R : Type := DOut ia io
noncomputable def X (n : Nat) : Ctx := ⟨⟨tab, [F_entry_Reader_Small.en n, F_pack_Reader_Int.en n, F_pack_Reader_Flag.en n], 0, []⟩, 16, bnOf 0 ia⟩
noncomputable def T : CT := .o
noncomputable def f (n : Nat) (rc0 : D_pack_Reader) : Option R := fRun (X n) n T Tryz.f145 ia io (rc0, ())
theorem e0 (n : Nat) (rc0 : D_pack_Reader) : f n rc0 =
  bnd (F_entry_Reader_Small.f n rc0) fun u1 =>
  bnd (F_pack_Reader_Int.f n u1.2.1) fun u2 =>
  bnd (F_pack_Reader_Flag.f n u2.2.1) fun u3 =>
  some ((u1.1, (u2.1, (u3.1, ()))), u3.2.1, ()) := (hideF_eq _).trans (by kernel_rfl)
theorem phi (n : Nat) : ∀ e ∈ (X n).c.Φ, EntryOk Tryz.prog e := allE_cons (mkEntry_ok (F_entry_Reader_Small.ok n)) (allE_cons (mkEntry_ok (F_pack_Reader_Int.ok n)) (allE_cons (mkEntry_ok (F_pack_Reader_Flag.ok n)) (allE_nil)))
theorem ok (n : Nat) : FnOk Tryz.prog 145 ia io (fRun (X n) n T Tryz.f145 ia io) := tree_ok mixed tabIs (phi n) Tryz.func145 (by kernel_rfl) rfl
noncomputable def en (n : Nat) : Entry := mkEntry 145 ia io (fRun (X n) n T Tryz.f145 ia io)
end F_entry_Reader_Lock
end Go.Proofs.YtcpkhpboemfglaaGreatDoor


namespace Go.Proofs.YtcpkhpboemfglaaGreatDoor
open Go Go.Va Go.Proofs
/- (*chartulary/pack.Reader).Digest -/
namespace F_pack_Reader_Digest
abbrev ia : List Ai := [.ptr (.d T_pack_Reader)]
abbrev io : List (Nat × Oi) := [(2, .cel (.d (.arr 32 (.int .u8))))]
abbrev R : Type := DOut ia io
noncomputable def X (n : Nat) : Ctx := ⟨⟨tab, [F_pack_Reader_take.en n], 0, []⟩, 11, bnOf 0 ia⟩
noncomputable def T : CT := .o
noncomputable def f (n : Nat) (r : D_pack_Reader) : Option R := fRun (X n) n T Tryz.f187 ia io (r, ())
theorem e0 (n : Nat) (r : D_pack_Reader) : f n r =
  bIf ((hide true)) (
    bnd (F_pack_Reader_take.f n r 32) fun u1 =>
    gIf (u1.1.length ≤ 32) (
      some ((u1.1 ++ List.drop u1.1.length (List.replicate 32 0)), u1.2.1, ())
      )
    ) (
    some ((List.replicate 32 0), r, ())
    ) := (hideF_eq _).trans (by kernel_rfl)
theorem phi (n : Nat) : ∀ e ∈ (X n).c.Φ, EntryOk Tryz.prog e := allE_cons (mkEntry_ok (F_pack_Reader_take.ok n)) (allE_nil)
theorem ok (n : Nat) : FnOk Tryz.prog 187 ia io (fRun (X n) n T Tryz.f187 ia io) := tree_ok mixed tabIs (phi n) Tryz.func187 (by kernel_rfl) rfl
noncomputable def en (n : Nat) : Entry := mkEntry 187 ia io (fRun (X n) n T Tryz.f187 ia io)
end F_pack_Reader_Digest
end Go.Proofs.YtcpkhpboemfglaaGreatDoor


namespace Go.Proofs.YtcpkhpboemfglaaGreatDoor
open Go Go.Va Go.Proofs
/- (chartulary/entry.Reader).Part -/
namespace F_entry_Reader_Part
abbrev ia : List Ai := [.fn (.str 1) [(.d T_pack_Reader)]]
abbrev io : List (Nat × Oi) := [(2, .cel (.d T_api_Part))]
abbrev R : Type := DOut ia io
noncomputable def X (n : Nat) : Ctx := ⟨⟨tab, [F_entry_Reader_Small.en n, F_pack_Reader_Num.en n, F_pack_Reader_Digest.en n], 0, []⟩, 19, bnOf 0 ia⟩
noncomputable def T : CT := .o
noncomputable def f (n : Nat) (rc0 : D_pack_Reader) : Option R := fRun (X n) n T Tryz.f147 ia io (rc0, ())
theorem e0 (n : Nat) (rc0 : D_pack_Reader) : f n rc0 =
  bnd (F_entry_Reader_Small.f n rc0) fun u1 =>
  bnd (F_entry_Reader_Small.f n u1.2.1) fun u2 =>
  bnd (F_pack_Reader_Num.f n u2.2.1) fun u3 =>
  bnd (F_pack_Reader_Digest.f n u3.2.1) fun u4 =>
  some ((u1.1, (u2.1, (u3.1, (u4.1, ())))), u4.2.1, ()) := (hideF_eq _).trans (by kernel_rfl)
theorem phi (n : Nat) : ∀ e ∈ (X n).c.Φ, EntryOk Tryz.prog e := allE_cons (mkEntry_ok (F_entry_Reader_Small.ok n)) (allE_cons (mkEntry_ok (F_pack_Reader_Num.ok n)) (allE_cons (mkEntry_ok (F_pack_Reader_Digest.ok n)) (allE_nil)))
theorem ok (n : Nat) : FnOk Tryz.prog 147 ia io (fRun (X n) n T Tryz.f147 ia io) := tree_ok mixed tabIs (phi n) Tryz.func147 (by kernel_rfl) rfl
noncomputable def en (n : Nat) : Entry := mkEntry 147 ia io (fRun (X n) n T Tryz.f147 ia io)
end F_entry_Reader_Part
end Go.Proofs.YtcpkhpboemfglaaGreatDoor


namespace Go.Proofs.YtcpkhpboemfglaaGreatDoor
open Go Go.Va Go.Proofs
/- (chartulary/entry.Reader).Tags -/
namespace F_entry_Reader_Tags
abbrev ia : List Ai := [.fn (.str 1) [(.d T_pack_Reader)]]
abbrev io : List (Nat × Oi) := [(2, .val (.r 0 T_api_Tag))]
abbrev R : Type := DOut ia io
noncomputable def X (n : Nat) : Ctx := ⟨⟨tab, [F_pack_Reader_Count.en n, F_pack_Reader_Text.en n], 0, []⟩, 23, bnOf 0 ia⟩
abbrev g1 : List Si := [.ref 1 1 T_entry_Reader, .val 3 (.r 200300 T_api_Tag), .dat 7 (.int .i64), .dat 8 (.int .i64), .box 1 (.p (.al 500000 T_pack_Reader) (.d .unit)), .box 500000 (.d T_pack_Reader)]
abbrev g2 : List Si := [.val 3 (.r 200300 T_api_Tag), .box 500000 (.d T_pack_Reader)]
noncomputable def T : CT := (.s .o (.s .o (.s (.s .o (.b (.l g1 .o))) (.r g2 .o))))
noncomputable def J1 (n : Nat) (m : Nat) : (List (D_api_Tag)) × Int × Int × D_entry_Reader × D_pack_Reader × Unit → Option R := jL (X n) n T (bodyOf Tryz.f146) (endK ia io) g1 [1, 1, 0, 1, 0] [] m
noncomputable def J2 (n : Nat) : (List (D_api_Tag)) × D_pack_Reader × Unit → Option R := jR (X n) n T (bodyOf Tryz.f146) (endK ia io) g2 [1, 1, 1] []
noncomputable def f (n : Nat) (rc0 : D_pack_Reader) : Option R := fRun (X n) n T Tryz.f146 ia io (rc0, ())
theorem e0 (n : Nat) (rc0 : D_pack_Reader) : f n rc0 =
  bnd (F_pack_Reader_Count.f n rc0 8) fun u1 =>
  J1 n n ([], u1.1, 0, ((), ()), u1.2.1, ()) := (hideF_eq _).trans (by kernel_rfl)
theorem e1 (n m : Nat) (out : List (D_api_Tag)) (t7 : Int) (t8 : Int) (r : D_entry_Reader) (b500000 : D_pack_Reader) : J1 n (m + 1) (out, t7, t8, r, b500000, ()) =
  bIf ((hide (decide (t8 < t7)))) (
    bnd (F_pack_Reader_Text.f n b500000) fun u1 =>
    bnd (F_pack_Reader_Text.f n u1.2.1) fun u2 =>
    gIf ((out.length + 1) * 32 ≤ 70368744177664) (
      J1 n m ((out ++ ([(u1.1, (u2.1, ()))] : List (D_api_Tag))), t7, (IntKind.i64.wrap (t8 + (1 : Int))), ((), r.2), u2.2.1, ())
      )
    ) (
    J2 n (out, b500000, ())
    ) := (hideF_eq _).trans (by kernel_rfl)
theorem e2 (n : Nat) (out : List (D_api_Tag)) (b500000 : D_pack_Reader) : J2 n (out, b500000, ()) =
  some (out, b500000, ()) := (hideF_eq _).trans (by kernel_rfl)
theorem phi (n : Nat) : ∀ e ∈ (X n).c.Φ, EntryOk Tryz.prog e := allE_cons (mkEntry_ok (F_pack_Reader_Count.ok n)) (allE_cons (mkEntry_ok (F_pack_Reader_Text.ok n)) (allE_nil))
theorem ok (n : Nat) : FnOk Tryz.prog 146 ia io (fRun (X n) n T Tryz.f146 ia io) := tree_ok mixed tabIs (phi n) Tryz.func146 (by kernel_rfl) rfl
noncomputable def en (n : Nat) : Entry := mkEntry 146 ia io (fRun (X n) n T Tryz.f146 ia io)
end F_entry_Reader_Tags
end Go.Proofs.YtcpkhpboemfglaaGreatDoor


namespace Go.Proofs.YtcpkhpboemfglaaGreatDoor
open Go Go.Va Go.Proofs
/- (chartulary/entry.Reader).Rules -/
namespace F_entry_Reader_Rules
abbrev ia : List Ai := [.fn (.str 1) [(.d T_pack_Reader)]]
abbrev io : List (Nat × Oi) := [(2, .val (.r 0 T_api_Rule))]
abbrev R : Type := DOut ia io
noncomputable def X (n : Nat) : Ctx := ⟨⟨tab, [F_pack_Reader_Count.en n, F_entry_Reader_Small.en n, F_pack_Reader_Text.en n, F_entry_Reader_Tags.en n, F_pack_Reader_Flag.en n], 0, []⟩, 33, bnOf 0 ia⟩
abbrev g1 : List Si := [.ref 1 1 T_entry_Reader, .val 3 (.r 200300 T_api_Rule), .dat 7 (.int .i64), .dat 8 (.int .i64), .box 1 (.p (.al 500000 T_pack_Reader) (.d .unit)), .box 500000 (.d T_pack_Reader)]
abbrev g2 : List Si := [.val 3 (.r 200300 T_api_Rule), .box 500000 (.d T_pack_Reader)]
noncomputable def T : CT := (.s .o (.s .o (.s (.s .o (.b (.l g1 .o))) (.r g2 .o))))
noncomputable def J1 (n : Nat) (m : Nat) : (List (D_api_Rule)) × Int × Int × D_entry_Reader × D_pack_Reader × Unit → Option R := jL (X n) n T (bodyOf Tryz.f142) (endK ia io) g1 [1, 1, 0, 1, 0] [] m
noncomputable def J2 (n : Nat) : (List (D_api_Rule)) × D_pack_Reader × Unit → Option R := jR (X n) n T (bodyOf Tryz.f142) (endK ia io) g2 [1, 1, 1] []
noncomputable def f (n : Nat) (rc0 : D_pack_Reader) : Option R := fRun (X n) n T Tryz.f142 ia io (rc0, ())
theorem e0 (n : Nat) (rc0 : D_pack_Reader) : f n rc0 =
  bnd (F_pack_Reader_Count.f n rc0 8) fun u1 =>
  J1 n n ([], u1.1, 0, ((), ()), u1.2.1, ()) := (hideF_eq _).trans (by kernel_rfl)
theorem e1 (n m : Nat) (out : List (D_api_Rule)) (t7 : Int) (t8 : Int) (r : D_entry_Reader) (b500000 : D_pack_Reader) : J1 n (m + 1) (out, t7, t8, r, b500000, ()) =
  bIf ((hide (decide (t8 < t7)))) (
    bnd (F_pack_Reader_Text.f n b500000) fun u1 =>
    bnd (F_entry_Reader_Tags.f n u1.2.1) fun u2 =>
    bnd (F_entry_Reader_Small.f n u2.2.1) fun u3 =>
    bnd (F_entry_Reader_Small.f n u3.2.1) fun u4 =>
    bnd (F_pack_Reader_Flag.f n u4.2.1) fun u5 =>
    gIf ((out.length + 1) * 64 ≤ 70368744177664) (
      J1 n m ((out ++ ([(u1.1, (u2.1, (u3.1, (u4.1, (u5.1, ())))))] : List (D_api_Rule))), t7, (IntKind.i64.wrap (t8 + (1 : Int))), ((), r.2), u5.2.1, ())
      )
    ) (
    J2 n (out, b500000, ())
    ) := (hideF_eq _).trans (by kernel_rfl)
theorem e2 (n : Nat) (out : List (D_api_Rule)) (b500000 : D_pack_Reader) : J2 n (out, b500000, ()) =
  some (out, b500000, ()) := (hideF_eq _).trans (by kernel_rfl)
theorem phi (n : Nat) : ∀ e ∈ (X n).c.Φ, EntryOk Tryz.prog e := allE_cons (mkEntry_ok (F_pack_Reader_Count.ok n)) (allE_cons (mkEntry_ok (F_entry_Reader_Small.ok n)) (allE_cons (mkEntry_ok (F_pack_Reader_Text.ok n)) (allE_cons (mkEntry_ok (F_entry_Reader_Tags.ok n)) (allE_cons (mkEntry_ok (F_pack_Reader_Flag.ok n)) (allE_nil)))))
theorem ok (n : Nat) : FnOk Tryz.prog 142 ia io (fRun (X n) n T Tryz.f142 ia io) := tree_ok mixed tabIs (phi n) Tryz.func142 (by kernel_rfl) rfl
noncomputable def en (n : Nat) : Entry := mkEntry 142 ia io (fRun (X n) n T Tryz.f142 ia io)
end F_entry_Reader_Rules
end Go.Proofs.YtcpkhpboemfglaaGreatDoor


namespace Go.Proofs.YtcpkhpboemfglaaGreatDoor
open Go Go.Va Go.Proofs
/- (chartulary/entry.Reader).Version -/
namespace F_entry_Reader_Version
abbrev ia : List Ai := [.fn (.str 1) [(.d T_pack_Reader)]]
abbrev io : List (Nat × Oi) := [(2, .cel (.p (.d (.int .u64)) (.p (.d .bool) (.p (.d (.int .i64)) (.p (.d (.int .u64)) (.p (.d (.arr 32 (.int .u8))) (.p (.d (.int .i64)) (.p (.d T_api_Lock) (.p (.r 0 T_api_Tag) (.d .unit))))))))))]
abbrev R : Type := DOut ia io
noncomputable def X (n : Nat) : Ctx := ⟨⟨tab, [F_entry_Reader_Small.en n, F_pack_Reader_Num.en n, F_pack_Reader_Int.en n, F_entry_Reader_Lock.en n, F_entry_Reader_Tags.en n, F_pack_Reader_Flag.en n, F_pack_Reader_Digest.en n], 0, []⟩, 37, bnOf 0 ia⟩
noncomputable def T : CT := .o
noncomputable def f (n : Nat) (rc0 : D_pack_Reader) : Option R := fRun (X n) n T Tryz.f144 ia io (rc0, ())
theorem e0 (n : Nat) (rc0 : D_pack_Reader) : f n rc0 =
  bnd (F_pack_Reader_Num.f n rc0) fun u1 =>
  bnd (F_pack_Reader_Flag.f n u1.2.1) fun u2 =>
  bnd (F_pack_Reader_Int.f n u2.2.1) fun u3 =>
  bIf (u2.1) (
    some ((u1.1, (u2.1, (0, (0, ((List.replicate 32 0), (u3.1, ((0, (0, (false, ()))), ([], ())))))))), u3.2.1, ())
    ) (
    bnd (F_entry_Reader_Small.f n u3.2.1) fun u4 =>
    bnd (F_pack_Reader_Num.f n u4.2.1) fun u5 =>
    bnd (F_pack_Reader_Digest.f n u5.2.1) fun u6 =>
    bnd (F_entry_Reader_Lock.f n u6.2.1) fun u7 =>
    bnd (F_entry_Reader_Tags.f n u7.2.1) fun u8 =>
    some ((u1.1, (u2.1, (u4.1, (u5.1, (u6.1, (u3.1, (u7.1, (u8.1, ())))))))), u8.2.1, ())
    ) := (hideF_eq _).trans (by kernel_rfl)
theorem phi (n : Nat) : ∀ e ∈ (X n).c.Φ, EntryOk Tryz.prog e := allE_cons (mkEntry_ok (F_entry_Reader_Small.ok n)) (allE_cons (mkEntry_ok (F_pack_Reader_Num.ok n)) (allE_cons (mkEntry_ok (F_pack_Reader_Int.ok n)) (allE_cons (mkEntry_ok (F_entry_Reader_Lock.ok n)) (allE_cons (mkEntry_ok (F_entry_Reader_Tags.ok n)) (allE_cons (mkEntry_ok (F_pack_Reader_Flag.ok n)) (allE_cons (mkEntry_ok (F_pack_Reader_Digest.ok n)) (allE_nil)))))))
theorem ok (n : Nat) : FnOk Tryz.prog 144 ia io (fRun (X n) n T Tryz.f144 ia io) := tree_ok mixed tabIs (phi n) Tryz.func144 (by kernel_rfl) rfl
noncomputable def en (n : Nat) : Entry := mkEntry 144 ia io (fRun (X n) n T Tryz.f144 ia io)
end F_entry_Reader_Version
end Go.Proofs.YtcpkhpboemfglaaGreatDoor


namespace Go.Proofs.YtcpkhpboemfglaaGreatDoor
open Go Go.Va Go.Proofs
/- (chartulary/entry.Reader).entry -/
namespace F_entry_Reader_entry
abbrev ia : List Ai := [.fn (.str 1) [(.d T_pack_Reader)]]
abbrev io : List (Nat × Oi) := [(2, .cel (.p (.d (.int .i64)) (.p (.d (.int .i64)) (.p (.d .str) (.p (.d .str) (.p (.d (.int .u64)) (.p (.p (.d (.int .u64)) (.p (.d .bool) (.p (.d (.int .i64)) (.p (.d (.int .u64)) (.p (.d (.arr 32 (.int .u8))) (.p (.d (.int .i64)) (.p (.d T_api_Lock) (.p (.r 0 T_api_Tag) (.d .unit))))))))) (.p (.d T_api_Lock) (.p (.r 0 T_api_Tag) (.p (.d T_api_Default) (.p (.r 0 T_api_Rule) (.p (.r 0 T_api_Grant) (.d (.pair T_api_Part .unit))))))))))))))]
abbrev R : Type := DOut ia io
noncomputable def X (n : Nat) : Ctx := ⟨⟨tab, [F_entry_Reader_Small.en n, F_pack_Reader_Text.en n, F_pack_Reader_Num.en n, F_pack_Reader_Int.en n, F_entry_Reader_Default.en n, F_entry_Reader_Rules.en n, F_entry_Reader_Grants.en n, F_entry_Reader_Version.en n, F_entry_Reader_Lock.en n, F_entry_Reader_Tags.en n, F_entry_Reader_Part.en n], 0, []⟩, 97, bnOf 0 ia⟩
abbrev g1 : List Si := [.ref 1 1 T_entry_Reader, .ref 2 2 T_api_Entry, .ref 3 3 T_api_Entry, .box 1 (.p (.al 500000 T_pack_Reader) (.d .unit)), .box 2 (.p (.d (.int .i64)) (.p (.d (.int .i64)) (.p (.d .str) (.p (.d .str) (.p (.d (.int .u64)) (.p (.p (.d (.int .u64)) (.p (.d .bool) (.p (.d (.int .i64)) (.p (.d (.int .u64)) (.p (.d (.arr 32 (.int .u8))) (.p (.d (.int .i64)) (.p (.d T_api_Lock) (.p (.r 100000000002000 T_api_Tag) (.d .unit))))))))) (.p (.d T_api_Lock) (.p (.r 100000000002001 T_api_Tag) (.p (.d T_api_Default) (.p (.r 100000000002002 T_api_Rule) (.p (.r 100000000002003 T_api_Grant) (.d (.pair T_api_Part .unit))))))))))))), .box 3 (.p (.d (.int .i64)) (.p (.d (.int .i64)) (.p (.d .str) (.p (.d .str) (.p (.d (.int .u64)) (.p (.p (.d (.int .u64)) (.p (.d .bool) (.p (.d (.int .i64)) (.p (.d (.int .u64)) (.p (.d (.arr 32 (.int .u8))) (.p (.d (.int .i64)) (.p (.d T_api_Lock) (.p (.r 100000000003000 T_api_Tag) (.d .unit))))))))) (.p (.d T_api_Lock) (.p (.r 100000000003001 T_api_Tag) (.p (.d T_api_Default) (.p (.r 100000000003002 T_api_Rule) (.p (.r 100000000003003 T_api_Grant) (.d (.pair T_api_Part .unit))))))))))))), .box 500000 (.d T_pack_Reader)]
abbrev g2 : List Si := [.ref 1 1 T_entry_Reader, .ref 2 2 T_api_Entry, .ref 3 3 T_api_Entry, .dat 19 (.int .i64), .dat 67 .bool, .box 1 (.p (.al 500000 T_pack_Reader) (.d .unit)), .box 2 (.p (.d (.int .i64)) (.p (.d (.int .i64)) (.p (.d .str) (.p (.d .str) (.p (.d (.int .u64)) (.p (.p (.d (.int .u64)) (.p (.d .bool) (.p (.d (.int .i64)) (.p (.d (.int .u64)) (.p (.d (.arr 32 (.int .u8))) (.p (.d (.int .i64)) (.p (.d T_api_Lock) (.p (.r 100000000002000 T_api_Tag) (.d .unit))))))))) (.p (.d T_api_Lock) (.p (.r 100000000002001 T_api_Tag) (.p (.d T_api_Default) (.p (.r 100000000002002 T_api_Rule) (.p (.r 100000000002003 T_api_Grant) (.d (.pair T_api_Part .unit))))))))))))), .box 3 (.p (.d (.int .i64)) (.p (.d (.int .i64)) (.p (.d .str) (.p (.d .str) (.p (.d (.int .u64)) (.p (.p (.d (.int .u64)) (.p (.d .bool) (.p (.d (.int .i64)) (.p (.d (.int .u64)) (.p (.d (.arr 32 (.int .u8))) (.p (.d (.int .i64)) (.p (.d T_api_Lock) (.p (.r 100000000003000 T_api_Tag) (.d .unit))))))))) (.p (.d T_api_Lock) (.p (.r 100000000003001 T_api_Tag) (.p (.d T_api_Default) (.p (.r 100000000003002 T_api_Rule) (.p (.r 100000000003003 T_api_Grant) (.d (.pair T_api_Part .unit))))))))))))), .box 500000 (.d T_pack_Reader)]
noncomputable def T : CT := (.s .o (.s .o (.s .o (.s .o (.r g1 (.s (.s .o (.b (.s .o (.c .o (.s .o (.c .o (.s .o (.c .o (.s .o (.c .o (.s .o (.c .o (.s .o (.c .o (.s .o (.r g2 .o)))))))))))))))) .o))))))
noncomputable def J1 (n : Nat) : D_entry_Reader × D_api_Entry × D_api_Entry × D_pack_Reader × Unit → Option R := jR (X n) n T (bodyOf Tryz.f67) (endK ia io) g1 [1, 1, 1, 1] []
noncomputable def J2 (n : Nat) : Int × Bool × D_entry_Reader × D_api_Entry × D_api_Entry × D_pack_Reader × Unit → Option R := jR (X n) n T (bodyOf Tryz.f67) (endK ia io) g2 [1, 1, 1, 1, 0, 1, 0, 1, 1, 1, 1, 1, 1, 1, 1, 1, 1, 1, 1, 1] []
noncomputable def f (n : Nat) (rc0 : D_pack_Reader) : Option R := fRun (X n) n T Tryz.f67 ia io (rc0, ())
theorem e0 (n : Nat) (rc0 : D_pack_Reader) : f n rc0 =
  bnd (F_entry_Reader_Small.f n rc0) fun u1 =>
  bnd (F_pack_Reader_Int.f n u1.2.1) fun u2 =>
  bIf ((hide (u1.1 != (1 : Int)))) (
    bnd (F_pack_Reader_Text.f n u2.2.1) fun u3 =>
    J1 n (((), ()), (0, (0, ((⟨#[]⟩ : ByteArray), ((⟨#[]⟩ : ByteArray), (0, ((0, (false, (0, (0, ((List.replicate 32 0), (0, ((0, (0, (false, ()))), ([], ())))))))), ((0, (0, (false, ()))), ([], ((0, (0, ())), ([], ([], ((0, (0, (0, ((List.replicate 32 0), ())))), ())))))))))))), (u1.1, (u2.1, (u3.1, ((⟨#[]⟩ : ByteArray), (0, ((0, (false, (0, (0, ((List.replicate 32 0), (0, ((0, (0, (false, ()))), ([], ())))))))), ((0, (0, (false, ()))), ([], ((0, (0, ())), ([], ([], ((0, (0, (0, ((List.replicate 32 0), ())))), ())))))))))))), u3.2.1, ())
    ) (
    J1 n (((), ()), (0, (0, ((⟨#[]⟩ : ByteArray), ((⟨#[]⟩ : ByteArray), (0, ((0, (false, (0, (0, ((List.replicate 32 0), (0, ((0, (0, (false, ()))), ([], ())))))))), ((0, (0, (false, ()))), ([], ((0, (0, ())), ([], ([], ((0, (0, (0, ((List.replicate 32 0), ())))), ())))))))))))), (u1.1, (u2.1, ((⟨#[]⟩ : ByteArray), ((⟨#[]⟩ : ByteArray), (0, ((0, (false, (0, (0, ((List.replicate 32 0), (0, ((0, (0, (false, ()))), ([], ())))))))), ((0, (0, (false, ()))), ([], ((0, (0, ())), ([], ([], ((0, (0, (0, ((List.replicate 32 0), ())))), ())))))))))))), u2.2.1, ())
    ) := (hideF_eq _).trans (by kernel_rfl)
theorem e1 (n : Nat) (r : D_entry_Reader) (b2 : D_api_Entry) (e_ : D_api_Entry) (b500000 : D_pack_Reader) : J1 n (r, b2, e_, b500000, ()) =
  bIf ((hide (e_.1 == (4 : Int)))) (
    bnd (F_entry_Reader_Default.f n b500000) fun u1 =>
    some ((e_.1, (e_.2.1, (e_.2.2.1, (e_.2.2.2.1, (e_.2.2.2.2.1, ((e_.2.2.2.2.2.1.1, (e_.2.2.2.2.2.1.2.1, (e_.2.2.2.2.2.1.2.2.1, (e_.2.2.2.2.2.1.2.2.2.1, (e_.2.2.2.2.2.1.2.2.2.2.1, (e_.2.2.2.2.2.1.2.2.2.2.2.1, (e_.2.2.2.2.2.1.2.2.2.2.2.2.1, (e_.2.2.2.2.2.1.2.2.2.2.2.2.2.1, e_.2.2.2.2.2.1.2.2.2.2.2.2.2.2)))))))), (e_.2.2.2.2.2.2.1, (e_.2.2.2.2.2.2.2.1, (u1.1, (e_.2.2.2.2.2.2.2.2.2.1, (e_.2.2.2.2.2.2.2.2.2.2.1, e_.2.2.2.2.2.2.2.2.2.2.2))))))))))), u1.2.1, ())
    ) (
    bIf ((hide (e_.1 == (5 : Int)))) (
      bnd (F_entry_Reader_Rules.f n b500000) fun u2 =>
      some ((e_.1, (e_.2.1, (e_.2.2.1, (e_.2.2.2.1, (e_.2.2.2.2.1, ((e_.2.2.2.2.2.1.1, (e_.2.2.2.2.2.1.2.1, (e_.2.2.2.2.2.1.2.2.1, (e_.2.2.2.2.2.1.2.2.2.1, (e_.2.2.2.2.2.1.2.2.2.2.1, (e_.2.2.2.2.2.1.2.2.2.2.2.1, (e_.2.2.2.2.2.1.2.2.2.2.2.2.1, (e_.2.2.2.2.2.1.2.2.2.2.2.2.2.1, e_.2.2.2.2.2.1.2.2.2.2.2.2.2.2)))))))), (e_.2.2.2.2.2.2.1, (e_.2.2.2.2.2.2.2.1, (e_.2.2.2.2.2.2.2.2.1, (u2.1, (e_.2.2.2.2.2.2.2.2.2.2.1, e_.2.2.2.2.2.2.2.2.2.2.2))))))))))), u2.2.1, ())
      ) (
      bIf ((hide (e_.1 == (6 : Int)))) (
        bnd (F_entry_Reader_Grants.f n b500000) fun u3 =>
        some ((e_.1, (e_.2.1, (e_.2.2.1, (e_.2.2.2.1, (e_.2.2.2.2.1, ((e_.2.2.2.2.2.1.1, (e_.2.2.2.2.2.1.2.1, (e_.2.2.2.2.2.1.2.2.1, (e_.2.2.2.2.2.1.2.2.2.1, (e_.2.2.2.2.2.1.2.2.2.2.1, (e_.2.2.2.2.2.1.2.2.2.2.2.1, (e_.2.2.2.2.2.1.2.2.2.2.2.2.1, (e_.2.2.2.2.2.1.2.2.2.2.2.2.2.1, e_.2.2.2.2.2.1.2.2.2.2.2.2.2.2)))))))), (e_.2.2.2.2.2.2.1, (e_.2.2.2.2.2.2.2.1, (e_.2.2.2.2.2.2.2.2.1, (e_.2.2.2.2.2.2.2.2.2.1, (u3.1, e_.2.2.2.2.2.2.2.2.2.2.2))))))))))), u3.2.1, ())
        ) (
        bIf ((hide (e_.1 == (7 : Int)))) (
          bnd (F_pack_Reader_Text.f n b500000) fun u4 =>
          bnd (F_entry_Reader_Version.f n u4.2.1) fun u5 =>
          some ((e_.1, (e_.2.1, (e_.2.2.1, (u4.1, (e_.2.2.2.2.1, ((u5.1.1, (u5.1.2.1, (u5.1.2.2.1, (u5.1.2.2.2.1, (u5.1.2.2.2.2.1, (u5.1.2.2.2.2.2.1, (u5.1.2.2.2.2.2.2.1, (u5.1.2.2.2.2.2.2.2.1, u5.1.2.2.2.2.2.2.2.2)))))))), (e_.2.2.2.2.2.2.1, (e_.2.2.2.2.2.2.2.1, (e_.2.2.2.2.2.2.2.2.1, (e_.2.2.2.2.2.2.2.2.2.1, (e_.2.2.2.2.2.2.2.2.2.2.1, e_.2.2.2.2.2.2.2.2.2.2.2))))))))))), u5.2.1, ())
          ) (
          bIf ((hide (e_.1 == (8 : Int)))) (
            bnd (F_pack_Reader_Text.f n b500000) fun u6 =>
            bnd (F_pack_Reader_Num.f n u6.2.1) fun u7 =>
            some ((e_.1, (e_.2.1, (e_.2.2.1, (u6.1, (u7.1, ((e_.2.2.2.2.2.1.1, (e_.2.2.2.2.2.1.2.1, (e_.2.2.2.2.2.1.2.2.1, (e_.2.2.2.2.2.1.2.2.2.1, (e_.2.2.2.2.2.1.2.2.2.2.1, (e_.2.2.2.2.2.1.2.2.2.2.2.1, (e_.2.2.2.2.2.1.2.2.2.2.2.2.1, (e_.2.2.2.2.2.1.2.2.2.2.2.2.2.1, e_.2.2.2.2.2.1.2.2.2.2.2.2.2.2)))))))), (e_.2.2.2.2.2.2.1, (e_.2.2.2.2.2.2.2.1, (e_.2.2.2.2.2.2.2.2.1, (e_.2.2.2.2.2.2.2.2.2.1, (e_.2.2.2.2.2.2.2.2.2.2.1, e_.2.2.2.2.2.2.2.2.2.2.2))))))))))), u7.2.1, ())
            ) (
            bIf ((hide (e_.1 == (9 : Int)))) (
              bnd (F_pack_Reader_Text.f n b500000) fun u8 =>
              bnd (F_pack_Reader_Num.f n u8.2.1) fun u9 =>
              bnd (F_entry_Reader_Lock.f n u9.2.1) fun u10 =>
              some ((e_.1, (e_.2.1, (e_.2.2.1, (u8.1, (u9.1, ((e_.2.2.2.2.2.1.1, (e_.2.2.2.2.2.1.2.1, (e_.2.2.2.2.2.1.2.2.1, (e_.2.2.2.2.2.1.2.2.2.1, (e_.2.2.2.2.2.1.2.2.2.2.1, (e_.2.2.2.2.2.1.2.2.2.2.2.1, (e_.2.2.2.2.2.1.2.2.2.2.2.2.1, (e_.2.2.2.2.2.1.2.2.2.2.2.2.2.1, e_.2.2.2.2.2.1.2.2.2.2.2.2.2.2)))))))), (u10.1, (e_.2.2.2.2.2.2.2.1, (e_.2.2.2.2.2.2.2.2.1, (e_.2.2.2.2.2.2.2.2.2.1, (e_.2.2.2.2.2.2.2.2.2.2.1, e_.2.2.2.2.2.2.2.2.2.2.2))))))))))), u10.2.1, ())
              ) (
              bIf ((hide (e_.1 == (10 : Int)))) (
                J2 n (e_.1, true, ((), r.2), (b2.1, (b2.2.1, (b2.2.2.1, (b2.2.2.2.1, (b2.2.2.2.2.1, ((b2.2.2.2.2.2.1.1, (b2.2.2.2.2.2.1.2.1, (b2.2.2.2.2.2.1.2.2.1, (b2.2.2.2.2.2.1.2.2.2.1, (b2.2.2.2.2.2.1.2.2.2.2.1, (b2.2.2.2.2.2.1.2.2.2.2.2.1, (b2.2.2.2.2.2.1.2.2.2.2.2.2.1, (b2.2.2.2.2.2.1.2.2.2.2.2.2.2.1, b2.2.2.2.2.2.1.2.2.2.2.2.2.2.2)))))))), (b2.2.2.2.2.2.2.1, (b2.2.2.2.2.2.2.2.1, (b2.2.2.2.2.2.2.2.2.1, (b2.2.2.2.2.2.2.2.2.2.1, (b2.2.2.2.2.2.2.2.2.2.2.1, b2.2.2.2.2.2.2.2.2.2.2.2))))))))))), (e_.1, (e_.2.1, (e_.2.2.1, (e_.2.2.2.1, (e_.2.2.2.2.1, ((e_.2.2.2.2.2.1.1, (e_.2.2.2.2.2.1.2.1, (e_.2.2.2.2.2.1.2.2.1, (e_.2.2.2.2.2.1.2.2.2.1, (e_.2.2.2.2.2.1.2.2.2.2.1, (e_.2.2.2.2.2.1.2.2.2.2.2.1, (e_.2.2.2.2.2.1.2.2.2.2.2.2.1, (e_.2.2.2.2.2.1.2.2.2.2.2.2.2.1, e_.2.2.2.2.2.1.2.2.2.2.2.2.2.2)))))))), (e_.2.2.2.2.2.2.1, (e_.2.2.2.2.2.2.2.1, (e_.2.2.2.2.2.2.2.2.1, (e_.2.2.2.2.2.2.2.2.2.1, (e_.2.2.2.2.2.2.2.2.2.2.1, e_.2.2.2.2.2.2.2.2.2.2.2))))))))))), b500000, ())
                ) (
                J2 n (e_.1, (hide (e_.1 == (11 : Int))), ((), r.2), (b2.1, (b2.2.1, (b2.2.2.1, (b2.2.2.2.1, (b2.2.2.2.2.1, ((b2.2.2.2.2.2.1.1, (b2.2.2.2.2.2.1.2.1, (b2.2.2.2.2.2.1.2.2.1, (b2.2.2.2.2.2.1.2.2.2.1, (b2.2.2.2.2.2.1.2.2.2.2.1, (b2.2.2.2.2.2.1.2.2.2.2.2.1, (b2.2.2.2.2.2.1.2.2.2.2.2.2.1, (b2.2.2.2.2.2.1.2.2.2.2.2.2.2.1, b2.2.2.2.2.2.1.2.2.2.2.2.2.2.2)))))))), (b2.2.2.2.2.2.2.1, (b2.2.2.2.2.2.2.2.1, (b2.2.2.2.2.2.2.2.2.1, (b2.2.2.2.2.2.2.2.2.2.1, (b2.2.2.2.2.2.2.2.2.2.2.1, b2.2.2.2.2.2.2.2.2.2.2.2))))))))))), (e_.1, (e_.2.1, (e_.2.2.1, (e_.2.2.2.1, (e_.2.2.2.2.1, ((e_.2.2.2.2.2.1.1, (e_.2.2.2.2.2.1.2.1, (e_.2.2.2.2.2.1.2.2.1, (e_.2.2.2.2.2.1.2.2.2.1, (e_.2.2.2.2.2.1.2.2.2.2.1, (e_.2.2.2.2.2.1.2.2.2.2.2.1, (e_.2.2.2.2.2.1.2.2.2.2.2.2.1, (e_.2.2.2.2.2.1.2.2.2.2.2.2.2.1, e_.2.2.2.2.2.1.2.2.2.2.2.2.2.2)))))))), (e_.2.2.2.2.2.2.1, (e_.2.2.2.2.2.2.2.1, (e_.2.2.2.2.2.2.2.2.1, (e_.2.2.2.2.2.2.2.2.2.1, (e_.2.2.2.2.2.2.2.2.2.2.1, e_.2.2.2.2.2.2.2.2.2.2.2))))))))))), b500000, ())
                )
              )
            )
          )
        )
      )
    ) := (hideF_eq _).trans (by kernel_rfl)
theorem e2 (n : Nat) (t19 : Int) (t67 : Bool) (r : D_entry_Reader) (b2 : D_api_Entry) (e_ : D_api_Entry) (b500000 : D_pack_Reader) : J2 n (t19, t67, r, b2, e_, b500000, ()) =
  bIf (t67) (
    bnd (F_pack_Reader_Text.f n b500000) fun u1 =>
    bnd (F_pack_Reader_Num.f n u1.2.1) fun u2 =>
    bnd (F_entry_Reader_Tags.f n u2.2.1) fun u3 =>
    some ((e_.1, (e_.2.1, (e_.2.2.1, (u1.1, (u2.1, ((e_.2.2.2.2.2.1.1, (e_.2.2.2.2.2.1.2.1, (e_.2.2.2.2.2.1.2.2.1, (e_.2.2.2.2.2.1.2.2.2.1, (e_.2.2.2.2.2.1.2.2.2.2.1, (e_.2.2.2.2.2.1.2.2.2.2.2.1, (e_.2.2.2.2.2.1.2.2.2.2.2.2.1, (e_.2.2.2.2.2.1.2.2.2.2.2.2.2.1, e_.2.2.2.2.2.1.2.2.2.2.2.2.2.2)))))))), (e_.2.2.2.2.2.2.1, (u3.1, (e_.2.2.2.2.2.2.2.2.1, (e_.2.2.2.2.2.2.2.2.2.1, (e_.2.2.2.2.2.2.2.2.2.2.1, e_.2.2.2.2.2.2.2.2.2.2.2))))))))))), u3.2.1, ())
    ) (
    bIf ((hide (t19 == (12 : Int)))) (
      bnd (F_pack_Reader_Num.f n b500000) fun u4 =>
      bnd (F_entry_Reader_Part.f n u4.2.1) fun u5 =>
      some ((e_.1, (e_.2.1, (e_.2.2.1, (e_.2.2.2.1, (u4.1, ((e_.2.2.2.2.2.1.1, (e_.2.2.2.2.2.1.2.1, (e_.2.2.2.2.2.1.2.2.1, (e_.2.2.2.2.2.1.2.2.2.1, (e_.2.2.2.2.2.1.2.2.2.2.1, (e_.2.2.2.2.2.1.2.2.2.2.2.1, (e_.2.2.2.2.2.1.2.2.2.2.2.2.1, (e_.2.2.2.2.2.1.2.2.2.2.2.2.2.1, e_.2.2.2.2.2.1.2.2.2.2.2.2.2.2)))))))), (e_.2.2.2.2.2.2.1, (e_.2.2.2.2.2.2.2.1, (e_.2.2.2.2.2.2.2.2.1, (e_.2.2.2.2.2.2.2.2.2.1, (e_.2.2.2.2.2.2.2.2.2.2.1, (u5.1, e_.2.2.2.2.2.2.2.2.2.2.2.2)))))))))))), u5.2.1, ())
      ) (
      bIf ((hide (t19 == (13 : Int)))) (
        bnd (F_pack_Reader_Num.f n b500000) fun u6 =>
        some ((e_.1, (e_.2.1, (e_.2.2.1, (e_.2.2.2.1, (u6.1, ((e_.2.2.2.2.2.1.1, (e_.2.2.2.2.2.1.2.1, (e_.2.2.2.2.2.1.2.2.1, (e_.2.2.2.2.2.1.2.2.2.1, (e_.2.2.2.2.2.1.2.2.2.2.1, (e_.2.2.2.2.2.1.2.2.2.2.2.1, (e_.2.2.2.2.2.1.2.2.2.2.2.2.1, (e_.2.2.2.2.2.1.2.2.2.2.2.2.2.1, e_.2.2.2.2.2.1.2.2.2.2.2.2.2.2)))))))), (e_.2.2.2.2.2.2.1, (e_.2.2.2.2.2.2.2.1, (e_.2.2.2.2.2.2.2.2.1, (e_.2.2.2.2.2.2.2.2.2.1, (e_.2.2.2.2.2.2.2.2.2.2.1, e_.2.2.2.2.2.2.2.2.2.2.2))))))))))), u6.2.1, ())
        ) (
        some ((e_.1, (e_.2.1, (e_.2.2.1, (e_.2.2.2.1, (e_.2.2.2.2.1, ((e_.2.2.2.2.2.1.1, (e_.2.2.2.2.2.1.2.1, (e_.2.2.2.2.2.1.2.2.1, (e_.2.2.2.2.2.1.2.2.2.1, (e_.2.2.2.2.2.1.2.2.2.2.1, (e_.2.2.2.2.2.1.2.2.2.2.2.1, (e_.2.2.2.2.2.1.2.2.2.2.2.2.1, (e_.2.2.2.2.2.1.2.2.2.2.2.2.2.1, e_.2.2.2.2.2.1.2.2.2.2.2.2.2.2)))))))), (e_.2.2.2.2.2.2.1, (e_.2.2.2.2.2.2.2.1, (e_.2.2.2.2.2.2.2.2.1, (e_.2.2.2.2.2.2.2.2.2.1, (e_.2.2.2.2.2.2.2.2.2.2.1, e_.2.2.2.2.2.2.2.2.2.2.2))))))))))), b500000, ())
        )
      )
    ) := (hideF_eq _).trans (by kernel_rfl)
theorem phi (n : Nat) : ∀ e ∈ (X n).c.Φ, EntryOk Tryz.prog e := allE_cons (mkEntry_ok (F_entry_Reader_Small.ok n)) (allE_cons (mkEntry_ok (F_pack_Reader_Text.ok n)) (allE_cons (mkEntry_ok (F_pack_Reader_Num.ok n)) (allE_cons (mkEntry_ok (F_pack_Reader_Int.ok n)) (allE_cons (mkEntry_ok (F_entry_Reader_Default.ok n)) (allE_cons (mkEntry_ok (F_entry_Reader_Rules.ok n)) (allE_cons (mkEntry_ok (F_entry_Reader_Grants.ok n)) (allE_cons (mkEntry_ok (F_entry_Reader_Version.ok n)) (allE_cons (mkEntry_ok (F_entry_Reader_Lock.ok n)) (allE_cons (mkEntry_ok (F_entry_Reader_Tags.ok n)) (allE_cons (mkEntry_ok (F_entry_Reader_Part.ok n)) (allE_nil)))))))))))
theorem ok (n : Nat) : FnOk Tryz.prog 67 ia io (fRun (X n) n T Tryz.f67 ia io) := tree_ok mixed tabIs (phi n) Tryz.func67 (by kernel_rfl) rfl
noncomputable def en (n : Nat) : Entry := mkEntry 67 ia io (fRun (X n) n T Tryz.f67 ia io)
end F_entry_Reader_entry
end Go.Proofs.YtcpkhpboemfglaaGreatDoor


namespace Go.Proofs.YtcpkhpboemfglaaGreatDoor
open Go Go.Va Go.Proofs
/- (*chartulary/pack.Reader).Error -/
namespace F_pack_Reader_Error
abbrev ia : List Ai := [.ptr (.d T_pack_Reader)]
abbrev io : List (Nat × Oi) := [(2, .dat (.int .i64))]
abbrev R : Type := DOut ia io
noncomputable def X (n : Nat) : Ctx := ⟨⟨tab, [], 0, []⟩, 9, bnOf 0 ia⟩
noncomputable def T : CT := .o
noncomputable def f (n : Nat) (r : D_pack_Reader) : Option R := fRun (X n) n T Tryz.f148 ia io (r, ())
theorem e0 (n : Nat) (r : D_pack_Reader) : f n r =
  bIf ((hide false)) (
    some (1, r, ())
    ) (
    some (r.2.1, r, ())
    ) := (hideF_eq _).trans (by kernel_rfl)
theorem phi (n : Nat) : ∀ e ∈ (X n).c.Φ, EntryOk Tryz.prog e := allE_nil
theorem ok (n : Nat) : FnOk Tryz.prog 148 ia io (fRun (X n) n T Tryz.f148 ia io) := tree_ok mixed tabIs (phi n) Tryz.func148 (by kernel_rfl) rfl
noncomputable def en (n : Nat) : Entry := mkEntry 148 ia io (fRun (X n) n T Tryz.f148 ia io)
end F_pack_Reader_Error
end Go.Proofs.YtcpkhpboemfglaaGreatDoor


namespace Go.Proofs.YtcpkhpboemfglaaGreatDoor
open Go Go.Va Go.Proofs
/- (*chartulary/pack.Reader).End -/
namespace F_pack_Reader_End
abbrev ia : List Ai := [.ptr (.d T_pack_Reader)]
abbrev io : List (Nat × Oi) := [(2, .dat (.int .i64))]
abbrev R : Type := DOut ia io
noncomputable def X (n : Nat) : Ctx := ⟨⟨tab, [F_pack_Reader_fail.en n, F_pack_Reader_Error.en n], 0, []⟩, 24, bnOf 0 ia⟩
abbrev g1 : List Si := [.ref 0 500000 T_pack_Reader, .box 500000 (.d T_pack_Reader)]
noncomputable def T : CT := (.s .o (.s .o (.r g1 .o)))
noncomputable def J1 (n : Nat) : D_pack_Reader × Unit → Option R := jR (X n) n T (bodyOf Tryz.f68) (endK ia io) g1 [1, 1] []
noncomputable def f (n : Nat) (r : D_pack_Reader) : Option R := fRun (X n) n T Tryz.f68 ia io (r, ())
theorem e0 (n : Nat) (r : D_pack_Reader) : f n r =
  bIf ((hide true)) (
    bIf ((hide (r.2.1 == (0 : Int)))) (
      bIf ((hide (decide (((r.1.length : Nat) : Int) > (0 : Int))))) (
        bnd (F_pack_Reader_fail.f n r 2) fun u1 =>
        J1 n (u1.1, ())
        ) (
        J1 n (r, ())
        )
      ) (
      J1 n (r, ())
      )
    ) (
    J1 n (r, ())
    ) := (hideF_eq _).trans (by kernel_rfl)
theorem e1 (n : Nat) (r : D_pack_Reader) : J1 n (r, ()) =
  bnd (F_pack_Reader_Error.f n r) fun u1 =>
  some (u1.1, u1.2.1, ()) := (hideF_eq _).trans (by kernel_rfl)
theorem phi (n : Nat) : ∀ e ∈ (X n).c.Φ, EntryOk Tryz.prog e := allE_cons (mkEntry_ok (F_pack_Reader_fail.ok n)) (allE_cons (mkEntry_ok (F_pack_Reader_Error.ok n)) (allE_nil))
theorem ok (n : Nat) : FnOk Tryz.prog 68 ia io (fRun (X n) n T Tryz.f68 ia io) := tree_ok mixed tabIs (phi n) Tryz.func68 (by kernel_rfl) rfl
noncomputable def en (n : Nat) : Entry := mkEntry 68 ia io (fRun (X n) n T Tryz.f68 ia io)
end F_pack_Reader_End
end Go.Proofs.YtcpkhpboemfglaaGreatDoor


namespace Go.Proofs.YtcpkhpboemfglaaGreatDoor
open Go Go.Va Go.Proofs
/- slices.Clip[[]chartulary/api.Entry,chartulary/api.Entry] -/
namespace F_slices_Clip_Entry
abbrev ia : List Ai := [.dat (.slice T_api_Entry)]
abbrev io : List (Nat × Oi) := [(2, .dat (.slice T_api_Entry))]
abbrev R : Type := DOut ia io
noncomputable def X (n : Nat) : Ctx := ⟨⟨tab, [], 0, []⟩, 9, bnOf 0 ia⟩
noncomputable def T : CT := .o
noncomputable def f (n : Nat) (s_ : List (D_api_Entry)) : Option R := fRun (X n) n T Tryz.f70 ia io (s_, ())
theorem e0 (n : Nat) (s_ : List (D_api_Entry)) : f n s_ =
  gIf (0 ≤ ((s_.length : Nat) : Int) ∧ ((s_.length : Nat) : Int) ≤ ((s_.length : Nat) : Int)) (
    gIf (0 ≤ (0 : Int) ∧ (0 : Int) ≤ ((s_.length : Nat) : Int)) (
      gIf (((s_.length : Nat) : Int) ≤ ((s_.length : Nat) : Int) ∧ ((s_.length : Nat) : Int) ≤ ((s_.length : Nat) : Int) ∧ true = true) (
        some (((s_.take (((s_.length : Nat) : Int).toNat)).drop 0), ())
        )
      )
    ) := (hideF_eq _).trans (by kernel_rfl)
theorem phi (n : Nat) : ∀ e ∈ (X n).c.Φ, EntryOk Tryz.prog e := allE_nil
theorem ok (n : Nat) : FnOk Tryz.prog 70 ia io (fRun (X n) n T Tryz.f70 ia io) := tree_ok mixed tabIs (phi n) Tryz.func70 (by kernel_rfl) rfl
noncomputable def en (n : Nat) : Entry := mkEntry 70 ia io (fRun (X n) n T Tryz.f70 ia io)
end F_slices_Clip_Entry
end Go.Proofs.YtcpkhpboemfglaaGreatDoor


namespace Go.Proofs.YtcpkhpboemfglaaGreatDoor
open Go Go.Va Go.Proofs
/- chartulary/entry.Decode -/
namespace F_entry_Decode
abbrev ia : List Ai := [.dat (.slice (.int .u8))]
abbrev io : List (Nat × Oi) := [(2, .dat (.slice T_api_Entry)), (3, .dat (.int .i64))]
abbrev R : Type := DOut ia io
noncomputable def X (n : Nat) : Ctx := ⟨⟨tab, [F_entry_Encode.en n, F_entry_NewReader.en n, F_pack_Reader_Count.en n, F_entry_Reader_entry.en n, F_pack_Reader_End.en n, F_bytes_Equal.en n, F_slices_Clip_Entry.en n], 0, []⟩, 40, bnOf 0 ia⟩
abbrev g1 : List Si := [.dat 0 (.slice (.int .u8)), .ref 4 4 T_entry_Reader, .val 5 (.r 200500 T_api_Entry), .dat 12 (.int .i64), .dat 13 (.int .i64), .box 4 (.p (.al 1500000000009 T_pack_Reader) (.d .unit)), .box 1500000000009 (.d T_pack_Reader)]
abbrev g2 : List Si := [.dat 0 (.slice (.int .u8)), .ref 4 4 T_entry_Reader, .val 5 (.r 200500 T_api_Entry), .box 4 (.p (.al 1500000000009 T_pack_Reader) (.d .unit)), .box 1500000000009 (.d T_pack_Reader)]
abbrev g3 : List Si := [.dat 5 (.slice T_api_Entry)]
noncomputable def T : CT := (.s .o (.s .o (.s .o (.s (.s .o (.b (.l g1 .o))) (.r g2 (.s .o (.s .o (.r g3 .o))))))))
noncomputable def J1 (n : Nat) (m : Nat) : (List (Int)) × (List (D_api_Entry)) × Int × Int × D_entry_Reader × D_pack_Reader × Unit → Option R := jL (X n) n T (bodyOf Tryz.f20) (endK ia io) g1 [1, 1, 1, 0, 1, 0] [] m
noncomputable def J2 (n : Nat) : (List (Int)) × (List (D_api_Entry)) × D_entry_Reader × D_pack_Reader × Unit → Option R := jR (X n) n T (bodyOf Tryz.f20) (endK ia io) g2 [1, 1, 1, 1] []
noncomputable def J3 (n : Nat) : (List (D_api_Entry)) × Unit → Option R := jR (X n) n T (bodyOf Tryz.f20) (endK ia io) g3 [1, 1, 1, 1, 1, 1] []
noncomputable def f (n : Nat) (b : List (Int)) : Option R := fRun (X n) n T Tryz.f20 ia io (b, ())
theorem e0 (n : Nat) (b : List (Int)) : f n b =
  bnd (F_entry_NewReader.f n b) fun u1 =>
  bnd (F_pack_Reader_Count.f n u1.1 8) fun u2 =>
  J1 n n (b, [], u2.1, 0, ((), ()), u2.2.1, ()) := (hideF_eq _).trans (by kernel_rfl)
theorem e1 (n m : Nat) (b : List (Int)) (out : List (D_api_Entry)) (t12 : Int) (t13 : Int) (r : D_entry_Reader) (b1500000000009 : D_pack_Reader) : J1 n (m + 1) (b, out, t12, t13, r, b1500000000009, ()) =
  bIf ((hide (decide (t13 < t12)))) (
    bnd (F_entry_Reader_entry.f n b1500000000009) fun u1 =>
    gIf ((out.length + 1) * 344 ≤ 70368744177664) (
      J1 n m (b, (out ++ ([(u1.1.1, (u1.1.2.1, (u1.1.2.2.1, (u1.1.2.2.2.1, (u1.1.2.2.2.2.1, ((u1.1.2.2.2.2.2.1.1, (u1.1.2.2.2.2.2.1.2.1, (u1.1.2.2.2.2.2.1.2.2.1, (u1.1.2.2.2.2.2.1.2.2.2.1, (u1.1.2.2.2.2.2.1.2.2.2.2.1, (u1.1.2.2.2.2.2.1.2.2.2.2.2.1, (u1.1.2.2.2.2.2.1.2.2.2.2.2.2.1, (u1.1.2.2.2.2.2.1.2.2.2.2.2.2.2.1, u1.1.2.2.2.2.2.1.2.2.2.2.2.2.2.2)))))))), (u1.1.2.2.2.2.2.2.1, (u1.1.2.2.2.2.2.2.2.1, (u1.1.2.2.2.2.2.2.2.2.1, (u1.1.2.2.2.2.2.2.2.2.2.1, (u1.1.2.2.2.2.2.2.2.2.2.2.1, u1.1.2.2.2.2.2.2.2.2.2.2.2)))))))))))] : List (D_api_Entry))), t12, (IntKind.i64.wrap (t13 + (1 : Int))), ((), r.2), u1.2.1, ())
      )
    ) (
    J2 n (b, out, ((), r.2), b1500000000009, ())
    ) := (hideF_eq _).trans (by kernel_rfl)
theorem e2 (n : Nat) (b : List (Int)) (out : List (D_api_Entry)) (r : D_entry_Reader) (b1500000000009 : D_pack_Reader) : J2 n (b, out, r, b1500000000009, ()) =
  bnd (F_pack_Reader_End.f n b1500000000009) fun u1 =>
  bIf ((hide (u1.1 != (0 : Int)))) (
    some ([], 2, ())
    ) (
    bnd (F_entry_Encode.f n out) fun u2 =>
    bIf ((hide (u2.2.1 != (0 : Int)))) (
      some ([], 2, ())
      ) (
      bnd (F_bytes_Equal.f n u2.1 b) fun u3 =>
      bIf ((!u3.1)) (
        some ([], 2, ())
        ) (
        J3 n (out, ())
        )
      )
    ) := (hideF_eq _).trans (by kernel_rfl)
theorem e3 (n : Nat) (out : List (D_api_Entry)) : J3 n (out, ()) =
  bnd (F_slices_Clip_Entry.f n out) fun u1 =>
  some (u1.1, 0, ()) := (hideF_eq _).trans (by kernel_rfl)
theorem phi (n : Nat) : ∀ e ∈ (X n).c.Φ, EntryOk Tryz.prog e := allE_cons (mkEntry_ok (F_entry_Encode.ok n)) (allE_cons (mkEntry_ok (F_entry_NewReader.ok n)) (allE_cons (mkEntry_ok (F_pack_Reader_Count.ok n)) (allE_cons (mkEntry_ok (F_entry_Reader_entry.ok n)) (allE_cons (mkEntry_ok (F_pack_Reader_End.ok n)) (allE_cons (mkEntry_ok (F_bytes_Equal.ok n)) (allE_cons (mkEntry_ok (F_slices_Clip_Entry.ok n)) (allE_nil)))))))
theorem ok (n : Nat) : FnOk Tryz.prog 20 ia io (fRun (X n) n T Tryz.f20 ia io) := tree_ok mixed tabIs (phi n) Tryz.func20 (by kernel_rfl) rfl
noncomputable def en (n : Nat) : Entry := mkEntry 20 ia io (fRun (X n) n T Tryz.f20 ia io)
end F_entry_Decode
end Go.Proofs.YtcpkhpboemfglaaGreatDoor


namespace Go.Proofs.YtcpkhpboemfglaaGreatDoor
open Go Go.Va Go.Proofs
/- chartulary/chartularylaw14.awake -/
namespace F_law14_awake
abbrev ia : List Ai := []
abbrev io : List (Nat × Oi) := [(0, .dat .bool)]
abbrev R : Type := DOut ia io
noncomputable def X (n : Nat) : Ctx := ⟨⟨tab, [F_entry_Encode.en n, F_entry_Sound.en n, F_entry_Decode.en n], 0, []⟩, 45, bnOf 0 ia⟩
noncomputable def T : CT := .o
noncomputable def f (n : Nat) : Option R := fRun (X n) n T Tryz.f15 ia io (())
theorem e0 (n : Nat) : f n =
  bnd (F_entry_Encode.f n ([(8, (5, ((⟨#[97, 98, 99]⟩ : ByteArray), ((⟨#[107]⟩ : ByteArray), (3, ((0, (false, (0, (0, ((List.replicate 32 0), (0, ((0, (0, (false, ()))), ([], ())))))))), ((0, (0, (false, ()))), ([], ((0, (0, ())), ([], ([], ((0, (0, (0, ((List.replicate 32 0), ())))), ()))))))))))))] : List (D_api_Entry))) fun u1 =>
  bnd (F_entry_Decode.f n u1.1) fun u2 =>
  bIf ((hide (u1.2.1 == (0 : Int)))) (
    bIf ((hide (u2.2.1 == (0 : Int)))) (
      bIf ((hide (eqS (bytesOf u1.1) (⟨#[1, 8, 10, 3, 97, 98, 99, 1, 107, 3]⟩ : ByteArray)))) (
        bIf ((hide (((u2.1.length : Nat) : Int) == (1 : Int)))) (
          gIf (0 ≤ (0 : Int) ∧ (0 : Int) < ((u2.1.length : Nat) : Int)) (
            bIf ((hide (((((((List.getD u2.1 0 (Va.dflt T_api_Entry)).2).2).2).2).1) == (3 : Int)))) (
              bnd (F_entry_Sound.f n (8, (5, ((⟨#[97, 98, 99]⟩ : ByteArray), ((⟨#[107]⟩ : ByteArray), (3, ((0, (false, (0, (0, ((List.replicate 32 0), (0, ((0, (0, (false, ()))), ([], ())))))))), ((0, (0, (false, ()))), ([], ((0, (0, ())), ([], ([], ((0, (0, (0, ((List.replicate 32 0), ())))), ()))))))))))))) fun u3 =>
              some (u3.1, ())
              ) (
              some (false, ())
              )
            )
          ) (
          some (false, ())
          )
        ) (
        some (false, ())
        )
      ) (
      some (false, ())
      )
    ) (
    some (false, ())
    ) := (hideF_eq _).trans (by kernel_rfl)
theorem phi (n : Nat) : ∀ e ∈ (X n).c.Φ, EntryOk Tryz.prog e := allE_cons (mkEntry_ok (F_entry_Encode.ok n)) (allE_cons (mkEntry_ok (F_entry_Sound.ok n)) (allE_cons (mkEntry_ok (F_entry_Decode.ok n)) (allE_nil)))
theorem ok (n : Nat) : FnOk Tryz.prog 15 ia io (fRun (X n) n T Tryz.f15 ia io) := tree_ok mixed tabIs (phi n) Tryz.func15 (by kernel_rfl) rfl
noncomputable def en (n : Nat) : Entry := mkEntry 15 ia io (fRun (X n) n T Tryz.f15 ia io)
end F_law14_awake
end Go.Proofs.YtcpkhpboemfglaaGreatDoor


namespace Go.Proofs.YtcpkhpboemfglaaGreatDoor
open Go Go.Va Go.Proofs
/- chartulary/chartularylaw14.EntryEncodes -/
namespace F_law14_EntryEncodes
abbrev ia : List Ai := [.dat (.slice T_api_Entry)]
abbrev io : List (Nat × Oi) := [(2, .dat .bool)]
abbrev R : Type := DOut ia io
noncomputable def X (n : Nat) : Ctx := ⟨⟨tab, [F_entry_Encode.en n, F_ref14_Encode.en n, F_law14_awake.en n, F_entry_Sound.en n, F_ref14_Sound.en n, F_entry_Same.en n, F_ref14_Same.en n], 0, []⟩, 75, bnOf 0 ia⟩
abbrev g1 : List Si := [.dat 0 (.slice T_api_Entry)]
abbrev g2 : List Si := [.dat 0 (.slice T_api_Entry), .dat 7 (.int .i64)]
abbrev g3 : List Si := [.dat 0 (.slice T_api_Entry), .dat 7 (.int .i64)]
abbrev g4 : List Si := []
noncomputable def T : CT := (.s .o (.s .o (.s .o (.s .o (.r g1 (.s (.s .o (.b (.l g2 (.s .o (.s .o (.r g3 .o)))))) (.r g4 .o)))))))
noncomputable def J1 (n : Nat) : (List (D_api_Entry)) × Unit → Option R := jR (X n) n T (bodyOf Tryz.f3) (endK ia io) g1 [1, 1, 1, 1] []
noncomputable def J2 (n : Nat) (m : Nat) : (List (D_api_Entry)) × Int × Unit → Option R := jL (X n) n T (bodyOf Tryz.f3) (endK ia io) g2 [1, 1, 1, 1, 0, 1, 0] [] m
noncomputable def J3 (n m2 : Nat) : (List (D_api_Entry)) × Int × Unit → Option R := jR (X n) n T (bodyOf Tryz.f3) (endK ia io) g3 [1, 1, 1, 1, 0, 1, 0, 0, 1, 1] [m2]
noncomputable def J4 (n : Nat) : Unit → Option R := jR (X n) n T (bodyOf Tryz.f3) (endK ia io) g4 [1, 1, 1, 1, 1] []
noncomputable def f (n : Nat) (list : List (D_api_Entry)) : Option R := fRun (X n) n T Tryz.f3 ia io (list, ())
theorem e0 (n : Nat) (list : List (D_api_Entry)) : f n list =
  bnd (F_entry_Encode.f n list) fun u1 =>
  bnd (F_ref14_Encode.f n list) fun u2 =>
  bnd (F_law14_awake.f n) fun u3 =>
  bIf ((!u3.1)) (
    some (false, ())
    ) (
    bIf ((hide (!eqS (bytesOf u1.1) u2.1))) (
      some (false, ())
      ) (
      bIf ((hide (u1.2.1 != u2.2.1))) (
        some (false, ())
        ) (
        J1 n (list, ())
        )
      )
    ) := (hideF_eq _).trans (by kernel_rfl)
theorem e1 (n : Nat) (list : List (D_api_Entry)) : J1 n (list, ()) =
  J2 n n (list, 0, ()) := (hideF_eq _).trans (by kernel_rfl)
theorem e2 (n m : Nat) (list : List (D_api_Entry)) (i : Int) : J2 n (m + 1) (list, i, ()) =
  bIf ((hide (decide (i < ((list.length : Nat) : Int))))) (
    gIf (0 ≤ i ∧ i < ((list.length : Nat) : Int)) (
      bnd (F_entry_Sound.f n (List.getD list i.toNat (Va.dflt T_api_Entry))) fun u1 =>
      gIf (0 ≤ i ∧ i < ((list.length : Nat) : Int)) (
        bnd (F_ref14_Sound.f n (List.getD list i.toNat (Va.dflt T_api_Entry))) fun u2 =>
        bIf ((hide (!(u1.1 == u2.1)))) (
          some (false, ())
          ) (
          bIf ((hide (decide (i > (0 : Int))))) (
            gIf (0 ≤ i ∧ i < ((list.length : Nat) : Int)) (
              gIf (0 ≤ (IntKind.i64.wrap (i - (1 : Int))) ∧ (IntKind.i64.wrap (i - (1 : Int))) < ((list.length : Nat) : Int)) (
                bnd (F_entry_Same.f n (List.getD list i.toNat (Va.dflt T_api_Entry)) (List.getD list ((IntKind.i64.wrap (i - (1 : Int))).toNat) (Va.dflt T_api_Entry))) fun u3 =>
                gIf (0 ≤ i ∧ i < ((list.length : Nat) : Int)) (
                  gIf (0 ≤ (IntKind.i64.wrap (i - (1 : Int))) ∧ (IntKind.i64.wrap (i - (1 : Int))) < ((list.length : Nat) : Int)) (
                    bnd (F_ref14_Same.f n (List.getD list i.toNat (Va.dflt T_api_Entry)) (List.getD list ((IntKind.i64.wrap (i - (1 : Int))).toNat) (Va.dflt T_api_Entry))) fun u4 =>
                    bIf ((hide (!(u3.1 == u4.1)))) (
                      some (false, ())
                      ) (
                      J3 n m (list, i, ())
                      )
                    )
                  )
                )
              )
            ) (
            J3 n m (list, i, ())
            )
          )
        )
      )
    ) (
    J4 n (())
    ) := (hideF_eq _).trans (by kernel_rfl)
theorem e3 (n m2 : Nat) (list : List (D_api_Entry)) (i : Int) : J3 n m2 (list, i, ()) =
  J2 n m2 (list, (IntKind.i64.wrap (i + (1 : Int))), ()) := (hideF_eq _).trans (by kernel_rfl)
theorem e4 (n : Nat) : J4 n (()) =
  some (true, ()) := (hideF_eq _).trans (by kernel_rfl)
theorem phi (n : Nat) : ∀ e ∈ (X n).c.Φ, EntryOk Tryz.prog e := allE_cons (mkEntry_ok (F_entry_Encode.ok n)) (allE_cons (mkEntry_ok (F_ref14_Encode.ok n)) (allE_cons (mkEntry_ok (F_law14_awake.ok n)) (allE_cons (mkEntry_ok (F_entry_Sound.ok n)) (allE_cons (mkEntry_ok (F_ref14_Sound.ok n)) (allE_cons (mkEntry_ok (F_entry_Same.ok n)) (allE_cons (mkEntry_ok (F_ref14_Same.ok n)) (allE_nil)))))))
theorem ok (n : Nat) : FnOk Tryz.prog 3 ia io (fRun (X n) n T Tryz.f3 ia io) := tree_ok mixed tabIs (phi n) Tryz.func3 (by kernel_rfl) rfl
noncomputable def en (n : Nat) : Entry := mkEntry 3 ia io (fRun (X n) n T Tryz.f3 ia io)
end F_law14_EntryEncodes
end Go.Proofs.YtcpkhpboemfglaaGreatDoor


namespace Go.Proofs.YtcpkhpboemfglaaGreatDoor
open Go Go.Va Go.Proofs
/- chartulary/chartularylaw14.EntryBack -/
namespace F_law14_EntryBack
abbrev ia : List Ai := [.dat (.slice T_api_Entry)]
abbrev io : List (Nat × Oi) := [(2, .dat .bool)]
abbrev R : Type := DOut ia io
noncomputable def X (n : Nat) : Ctx := ⟨⟨tab, [F_ref14_Encode.en n, F_law14_awake.en n, F_entry_Decode.en n, F_ref14_All.en n], 0, []⟩, 32, bnOf 0 ia⟩
abbrev g1 : List Si := [.dat 0 (.slice T_api_Entry), .dat 3 .str]
noncomputable def T : CT := (.s .o (.s .o (.s .o (.r g1 .o))))
noncomputable def J1 (n : Nat) : (List (D_api_Entry)) × ByteArray × Unit → Option R := jR (X n) n T (bodyOf Tryz.f4) (endK ia io) g1 [1, 1, 1] []
noncomputable def f (n : Nat) (list : List (D_api_Entry)) : Option R := fRun (X n) n T Tryz.f4 ia io (list, ())
theorem e0 (n : Nat) (list : List (D_api_Entry)) : f n list =
  bnd (F_ref14_Encode.f n list) fun u1 =>
  bnd (F_law14_awake.f n) fun u2 =>
  bIf ((!u2.1)) (
    bnd (F_law14_awake.f n) fun u3 =>
    some (u3.1, ())
    ) (
    bIf ((hide (u1.2.1 != (0 : Int)))) (
      bnd (F_law14_awake.f n) fun u4 =>
      some (u4.1, ())
      ) (
      J1 n (list, u1.1, ())
      )
    ) := (hideF_eq _).trans (by kernel_rfl)
theorem e1 (n : Nat) (list : List (D_api_Entry)) (s_ : ByteArray) : J1 n (list, s_, ()) =
  bnd (F_entry_Decode.f n (ofBytes s_)) fun u1 =>
  bIf ((hide (u1.2.1 == (0 : Int)))) (
    bnd (F_ref14_All.f n u1.1 list) fun u2 =>
    some (u2.1, ())
    ) (
    some (false, ())
    ) := (hideF_eq _).trans (by kernel_rfl)
theorem phi (n : Nat) : ∀ e ∈ (X n).c.Φ, EntryOk Tryz.prog e := allE_cons (mkEntry_ok (F_ref14_Encode.ok n)) (allE_cons (mkEntry_ok (F_law14_awake.ok n)) (allE_cons (mkEntry_ok (F_entry_Decode.ok n)) (allE_cons (mkEntry_ok (F_ref14_All.ok n)) (allE_nil))))
theorem ok (n : Nat) : FnOk Tryz.prog 4 ia io (fRun (X n) n T Tryz.f4 ia io) := tree_ok mixed tabIs (phi n) Tryz.func4 (by kernel_rfl) rfl
noncomputable def en (n : Nat) : Entry := mkEntry 4 ia io (fRun (X n) n T Tryz.f4 ia io)
end F_law14_EntryBack
end Go.Proofs.YtcpkhpboemfglaaGreatDoor


namespace Go.Proofs.YtcpkhpboemfglaaGreatDoor
open Go Go.Va Go.Proofs
/- chartulary/chartularylaw14.EntryReads -/
namespace F_law14_EntryReads
abbrev ia : List Ai := [.dat (.slice (.int .u8))]
abbrev io : List (Nat × Oi) := [(2, .dat .bool)]
abbrev R : Type := DOut ia io
noncomputable def X (n : Nat) : Ctx := ⟨⟨tab, [F_ref14_Encode.en n, F_law14_awake.en n, F_entry_Decode.en n], 0, []⟩, 41, bnOf 0 ia⟩
abbrev g1 : List Si := [.dat 0 (.slice (.int .u8)), .dat 3 (.slice T_api_Entry), .dat 4 (.int .i64), .dat 17 .bool]
abbrev g2 : List Si := [.dat 0 (.slice (.int .u8)), .dat 3 (.slice T_api_Entry)]
noncomputable def T : CT := (.s .o (.s .o (.s (.s .o (.r g1 .o)) (.r g2 .o))))
noncomputable def J1 (n : Nat) : (List (Int)) × (List (D_api_Entry)) × Int × Bool × Unit → Option R := jR (X n) n T (bodyOf Tryz.f5) (endK ia io) g1 [1, 1, 0, 1] []
noncomputable def J2 (n : Nat) : (List (Int)) × (List (D_api_Entry)) × Unit → Option R := jR (X n) n T (bodyOf Tryz.f5) (endK ia io) g2 [1, 1, 1] []
noncomputable def f (n : Nat) (b : List (Int)) : Option R := fRun (X n) n T Tryz.f5 ia io (b, ())
theorem e0 (n : Nat) (b : List (Int)) : f n b =
  bnd (F_entry_Decode.f n b) fun u1 =>
  bnd (F_law14_awake.f n) fun u2 =>
  bIf ((!u2.1)) (
    J1 n (b, u1.1, u1.2.1, true, ())
    ) (
    J1 n (b, u1.1, u1.2.1, (hide (u1.2.1 != (0 : Int))), ())
    ) := (hideF_eq _).trans (by kernel_rfl)
theorem e1 (n : Nat) (b : List (Int)) (l : List (D_api_Entry)) (e_ : Int) (t17 : Bool) : J1 n (b, l, e_, t17, ()) =
  bIf (t17) (
    bnd (F_law14_awake.f n) fun u1 =>
    bIf (u1.1) (
      bIf ((hide (e_ == (2 : Int)))) (
        some ((hide (((l.length : Nat) : Int) == (0 : Int))), ())
        ) (
        some (false, ())
        )
      ) (
      some (false, ())
      )
    ) (
    J2 n (b, l, ())
    ) := (hideF_eq _).trans (by kernel_rfl)
theorem e2 (n : Nat) (b : List (Int)) (l : List (D_api_Entry)) : J2 n (b, l, ()) =
  bnd (F_ref14_Encode.f n l) fun u1 =>
  bIf ((hide (u1.2.1 == (0 : Int)))) (
    some ((hide (eqS u1.1 (bytesOf b))), ())
    ) (
    some (false, ())
    ) := (hideF_eq _).trans (by kernel_rfl)
theorem phi (n : Nat) : ∀ e ∈ (X n).c.Φ, EntryOk Tryz.prog e := allE_cons (mkEntry_ok (F_ref14_Encode.ok n)) (allE_cons (mkEntry_ok (F_law14_awake.ok n)) (allE_cons (mkEntry_ok (F_entry_Decode.ok n)) (allE_nil)))
theorem ok (n : Nat) : FnOk Tryz.prog 5 ia io (fRun (X n) n T Tryz.f5 ia io) := tree_ok mixed tabIs (phi n) Tryz.func5 (by kernel_rfl) rfl
noncomputable def en (n : Nat) : Entry := mkEntry 5 ia io (fRun (X n) n T Tryz.f5 ia io)
end F_law14_EntryReads
end Go.Proofs.YtcpkhpboemfglaaGreatDoor


namespace Go.Proofs.YtcpkhpboemfglaaGreatDoor
open Go Go.Va Go.Proofs
/- chartulary/chartularylaw14.EntrySpoilt -/
namespace F_law14_EntrySpoilt
abbrev ia : List Ai := [.dat (.slice T_api_Entry), .dat (.int .u16), .dat (.slice (.int .u8))]
abbrev io : List (Nat × Oi) := [(6, .dat .bool)]
abbrev R : Type := DOut ia io
noncomputable def X (n : Nat) : Ctx := ⟨⟨tab, [F_entry_Encode.en n, F_law14_awake.en n, F_entry_Decode.en n], 0, []⟩, 57, bnOf 0 ia⟩
abbrev g1 : List Si := [.dat 1 (.int .u16), .dat 2 (.slice (.int .u8)), .dat 7 (.slice (.int .u8))]
noncomputable def T : CT := (.s .o (.s .o (.s .o (.r g1 .o))))
noncomputable def J1 (n : Nat) : Int × (List (Int)) × (List (Int)) × Unit → Option R := jR (X n) n T (bodyOf Tryz.f6) (endK ia io) g1 [1, 1, 1] []
noncomputable def f (n : Nat) (list : List (D_api_Entry)) (cut : Int) (more : List (Int)) : Option R := fRun (X n) n T Tryz.f6 ia io (list, cut, more, ())
theorem e0 (n : Nat) (list : List (D_api_Entry)) (cut : Int) (more : List (Int)) : f n list cut more =
  bnd (F_entry_Encode.f n list) fun u1 =>
  bnd (F_law14_awake.f n) fun u2 =>
  bIf ((!u2.1)) (
    bnd (F_law14_awake.f n) fun u3 =>
    some (u3.1, ())
    ) (
    bIf ((hide (u1.2.1 != (0 : Int)))) (
      bnd (F_law14_awake.f n) fun u4 =>
      some (u4.1, ())
      ) (
      J1 n (cut, more, u1.1, ())
      )
    ) := (hideF_eq _).trans (by kernel_rfl)
theorem e1 (n : Nat) (cut : Int) (more : List (Int)) (b : List (Int)) : J1 n (cut, more, b, ()) =
  gNo (((b.length : Nat) : Int) = 0) (
    gIf (0 ≤ (Int.tmod (IntKind.i64.wrap cut) ((b.length : Nat) : Int)) ∧ (Int.tmod (IntKind.i64.wrap cut) ((b.length : Nat) : Int)) ≤ ((b.length : Nat) : Int)) (
      gIf (0 ≤ (0 : Int) ∧ (0 : Int) ≤ (Int.tmod (IntKind.i64.wrap cut) ((b.length : Nat) : Int))) (
        gIf ((([] : List (Int)).length + ((b.take ((Int.tmod (IntKind.i64.wrap cut) ((b.length : Nat) : Int)).toNat)).drop 0).length) * 1 ≤ 70368744177664) (
          bnd (F_entry_Decode.f n (([] : List (Int)) ++ ((b.take ((Int.tmod (IntKind.i64.wrap cut) ((b.length : Nat) : Int)).toNat)).drop 0))) fun u1 =>
          gIf ((([] : List (Int)).length + b.length) * 1 ≤ 70368744177664) (
            gIf (((([] : List (Int)) ++ b).length + more.length) * 1 ≤ 70368744177664) (
              bnd (F_entry_Decode.f n ((([] : List (Int)) ++ b) ++ more)) fun u2 =>
              bIf ((hide (u1.2.1 == (2 : Int)))) (
                some ((hide ((hide (u2.2.1 == (2 : Int))) == (hide (decide (((more.length : Nat) : Int) > (0 : Int)))))), ())
                ) (
                some (false, ())
                )
              )
            )
          )
        )
      )
    ) := (hideF_eq _).trans (by kernel_rfl)
theorem phi (n : Nat) : ∀ e ∈ (X n).c.Φ, EntryOk Tryz.prog e := allE_cons (mkEntry_ok (F_entry_Encode.ok n)) (allE_cons (mkEntry_ok (F_law14_awake.ok n)) (allE_cons (mkEntry_ok (F_entry_Decode.ok n)) (allE_nil)))
theorem ok (n : Nat) : FnOk Tryz.prog 6 ia io (fRun (X n) n T Tryz.f6 ia io) := tree_ok mixed tabIs (phi n) Tryz.func6 (by kernel_rfl) rfl
noncomputable def en (n : Nat) : Entry := mkEntry 6 ia io (fRun (X n) n T Tryz.f6 ia io)
end F_law14_EntrySpoilt
end Go.Proofs.YtcpkhpboemfglaaGreatDoor


namespace Go.Proofs.YtcpkhpboemfglaaGreatDoor
open Go Go.Va Go.Proofs
/- chartulary/chartularylaw14.EntryApart -/
namespace F_law14_EntryApart
abbrev ia : List Ai := [.dat T_api_Entry, .dat T_api_Entry]
abbrev io : List (Nat × Oi) := [(4, .dat .bool)]
abbrev R : Type := DOut ia io
noncomputable def X (n : Nat) : Ctx := ⟨⟨tab, [F_entry_Encode.en n, F_law14_awake.en n, F_entry_Same.en n, F_ref14_Same.en n], 0, []⟩, 50, bnOf 0 ia⟩
abbrev g1 : List Si := [.ref 2 2 T_api_Entry, .ref 3 3 T_api_Entry, .dat 5 (.slice (.int .u8)), .dat 7 (.slice (.int .u8)), .box 2 (.d T_api_Entry), .box 3 (.d T_api_Entry)]
noncomputable def T : CT := (.s .o (.s .o (.s .o (.s .o (.r g1 .o)))))
noncomputable def J1 (n : Nat) : (List (Int)) × (List (Int)) × D_api_Entry × D_api_Entry × Unit → Option R := jR (X n) n T (bodyOf Tryz.f7) (endK ia io) g1 [1, 1, 1, 1] []
noncomputable def f (n : Nat) (a : D_api_Entry) (b : D_api_Entry) : Option R := fRun (X n) n T Tryz.f7 ia io (a, b, ())
theorem e0 (n : Nat) (a : D_api_Entry) (b : D_api_Entry) : f n a b =
  bnd (F_entry_Encode.f n ([a] : List (D_api_Entry))) fun u1 =>
  bnd (F_entry_Encode.f n ([b] : List (D_api_Entry))) fun u2 =>
  bnd (F_law14_awake.f n) fun u3 =>
  bIf ((!u3.1)) (
    bnd (F_law14_awake.f n) fun u4 =>
    some (u4.1, ())
    ) (
    bIf ((hide (u1.2.1 != (0 : Int)))) (
      bnd (F_law14_awake.f n) fun u5 =>
      some (u5.1, ())
      ) (
      bIf ((hide (u2.2.1 != (0 : Int)))) (
        bnd (F_law14_awake.f n) fun u6 =>
        some (u6.1, ())
        ) (
        J1 n (u1.1, u2.1, a, b, ())
        )
      )
    ) := (hideF_eq _).trans (by kernel_rfl)
theorem e1 (n : Nat) (x_ : List (Int)) (y_ : List (Int)) (a : D_api_Entry) (b : D_api_Entry) : J1 n (x_, y_, a, b, ()) =
  bnd (F_ref14_Same.f n a b) fun u1 =>
  bIf ((hide ((hide (eqS (bytesOf x_) (bytesOf y_))) == u1.1))) (
    bnd (F_entry_Same.f n a b) fun u2 =>
    bnd (F_ref14_Same.f n a b) fun u3 =>
    some ((hide (u2.1 == u3.1)), ())
    ) (
    some (false, ())
    ) := (hideF_eq _).trans (by kernel_rfl)
theorem phi (n : Nat) : ∀ e ∈ (X n).c.Φ, EntryOk Tryz.prog e := allE_cons (mkEntry_ok (F_entry_Encode.ok n)) (allE_cons (mkEntry_ok (F_law14_awake.ok n)) (allE_cons (mkEntry_ok (F_entry_Same.ok n)) (allE_cons (mkEntry_ok (F_ref14_Same.ok n)) (allE_nil))))
theorem ok (n : Nat) : FnOk Tryz.prog 7 ia io (fRun (X n) n T Tryz.f7 ia io) := tree_ok mixed tabIs (phi n) Tryz.func7 (by kernel_rfl) rfl
noncomputable def en (n : Nat) : Entry := mkEntry 7 ia io (fRun (X n) n T Tryz.f7 ia io)
end F_law14_EntryApart
end Go.Proofs.YtcpkhpboemfglaaGreatDoor

