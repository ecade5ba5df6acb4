/-
  What the functions compute, by the abstract interpreter.
-/
import Derived.Test.YtnlckhekcklcpaaVaPlain
import Derived.Test.YtnlckhekcklcpaaVaTab
import Derived.Test.YtnlckhekcklcpaaChecked
import Derived.Lib.Bytealg
import Derived.Lib.Strings
import Derived.Lib.Walk
import Derived.Lib.Slices
set_option linter.unusedVariables false
set_option linter.unusedSimpArgs false
namespace Go.Proofs.Ytnlckhekcklcpaa
open Go Go.Va Go.Proofs
noncomputable def tab : List (Nat × TE) := [(3, ⟨(.int .i64), 0⟩), (4, ⟨.bool, 0⟩), (5, ⟨(.int .u8), 0⟩), (9, ⟨.str, 0⟩), (22, ⟨(.slice (.int .u8)), 1⟩), (23, ⟨(.int .i64), 0⟩), (30, ⟨(.int .u64), 0⟩), (38, ⟨(.int .u64), 0⟩), (39, ⟨(.arr 13 (.int .u8)), 0⟩), (40, ⟨(.int .u32), 0⟩), (41, ⟨(.slice (.int .i64)), 8⟩)]
theorem tabIs : TabOk Try.prog tab := tabB_ok (by kernel_rfl)
theorem mixed : Try.prog.follows .mixedOrders = true := Try.checked.mixed
end Go.Proofs.Ytnlckhekcklcpaa


namespace Go.Proofs.Ytnlckhekcklcpaa
open Go Go.Va Go.Proofs
/- chartulary/alpha.Hex -/
namespace f11
abbrev ia : List Ai := [.dat (.slice (.int .u8))]
abbrev io : List (Nat × Oi) := [(2, .dat .str)]
abbrev R : Type := DOut ia io
noncomputable def X (n : Nat) : Ctx := ⟨⟨tab, [], 0⟩, 28, bnOf 0 ia⟩
abbrev g1 : List Si := [.row 3 200003 (.int .u8), .dat 10 (.slice (.int .u8)), .dat 11 (.int .i64), .dat 12 (.int .i64)]
abbrev g2 : List Si := [.row 3 200003 (.int .u8)]
noncomputable def A1 (n : Nat) : AC R := (oc R (fsub Try.f11 [1, 1, 0, 1, 0, 0]))
noncomputable def B1 (n : Nat) : AC R := .cut (fsub Try.f11 [1, 1, 0, 1, 0]) g1 (runL (X n) (A1 n) g1 n)
noncomputable def A2 (n : Nat) : AC R := (oc R (fsub Try.f11 [1, 1, 1]))
noncomputable def B2 (n : Nat) : AC R := .cut (fsub Try.f11 [1, 1, 1]) g2 (runR (X n) (A2 n) g2)
noncomputable def A0 (n : Nat) : AC R := (.seq (oc R (fsub Try.f11 [0])) (.seq (oc R (fsub Try.f11 [1, 0])) (.seq (.seq (oc R (fsub Try.f11 [1, 1, 0, 0])) (.block 0 (B1 n))) (B2 n))))
noncomputable def k1 (n : Nat) : KK R := (blockK 0 (seqK (fun s => acRun (X n) (B2 n) s (endK ia io)) (endK ia io)))
noncomputable def k2 (n : Nat) : KK R := (endK ia io)
noncomputable def S0 (n : Nat) (j1 : Dens g1 → Option R) (b : List (Int)) : Option R :=
  if 0 ≤ (0 : Int) ∧ (0 : Int) ≤ (IntKind.i64.wrap ((2 : Int) * ((b.length : Nat) : Int))) ∧ (IntKind.i64.wrap ((2 : Int) * ((b.length : Nat) : Int))) * ((1 : Nat) : Int) ≤ 70368744177664 ∧ 1 ≤ 1 ∧ 1 ≤ Ty.sz (.int .u8) then
    j1 ([], b, ((b.length : Nat) : Int), 0, ())
  else none
noncomputable def S1 (n : Nat) (j1 : Dens g1 → Option R) (j2 : Dens g2 → Option R) (out : List (Int)) (t10 : List (Int)) (t11 : Int) (t12 : Int) : Option R :=
  if decide (t12 < t11) = true then
    if 0 ≤ t12 ∧ t12 < ((t10.length : Nat) : Int) then
      if 0 ≤ (shrI .u8 (List.getD t10 t12.toNat 0) 4) ∧ (shrI .u8 (List.getD t10 t12.toNat 0) 4) < ((⟨#[48, 49, 50, 51, 52, 53, 54, 55, 56, 57, 97, 98, 99, 100, 101, 102]⟩ : ByteArray).size : Int) then
        if 0 ≤ (bitI .and .u8 (List.getD t10 t12.toNat 0) 15) ∧ (bitI .and .u8 (List.getD t10 t12.toNat 0) 15) < ((⟨#[48, 49, 50, 51, 52, 53, 54, 55, 56, 57, 97, 98, 99, 100, 101, 102]⟩ : ByteArray).size : Int) then
          if (out.length + 2) * 1 ≤ 70368744177664 then
            j1 ((out ++ [(bt (⟨#[48, 49, 50, 51, 52, 53, 54, 55, 56, 57, 97, 98, 99, 100, 101, 102]⟩ : ByteArray) (shrI .u8 (List.getD t10 t12.toNat 0) 4)), (bt (⟨#[48, 49, 50, 51, 52, 53, 54, 55, 56, 57, 97, 98, 99, 100, 101, 102]⟩ : ByteArray) (bitI .and .u8 (List.getD t10 t12.toNat 0) 15))]), t10, t11, (IntKind.i64.wrap (t12 + (1 : Int))), ())
          else none
        else none
      else none
    else none
  else
    j2 (out, ())
noncomputable def S2 (n : Nat) (out : List (Int)) : Option R :=
  some ((bytesOf out), ())
theorem e0 (n : Nat) (v : DIn ia) : acRun (X n) (A0 n) (frameOf (X n).len (inSig 0 ia) v) (endK ia io) = S0 n (fun v => runL (X n) (A1 n) g1 n v (k1 n)) v.1 := by kernel_rfl
theorem e1 (n : Nat) (m1 : Nat) (v : Dens g1) : runL (X n) (A1 n) g1 (m1 + 1) v (k1 n) = S1 n (fun v => runL (X n) (A1 n) g1 m1 v (k1 n)) (fun v => runR (X n) (A2 n) g2 v (k2 n)) v.1 v.2.1 v.2.2.1 v.2.2.2.1 := by kernel_rfl
theorem e2 (n : Nat) (v : Dens g2) : runR (X n) (A2 n) g2 v (k2 n) = S2 n v.1 := by kernel_rfl
noncomputable def J2 (n : Nat) : Dens g2 → Option R := fun v => S2 n v.1
theorem h2 (n : Nat) : (fun v => runR (X n) (A2 n) g2 v (k2 n)) = J2 n :=
  funext fun v => (e2 n v).trans (by rfl)
noncomputable def J1 (n : Nat) : Nat → Dens g1 → Option R
  | 0, _ => none
  | m + 1, v => S1 n (J1 n m) (J2 n) v.1 v.2.1 v.2.2.1 v.2.2.2.1
theorem h1 (n : Nat) : ∀ m, (fun v => runL (X n) (A1 n) g1 m v (k1 n)) = J1 n m
  | 0 => rfl
  | m + 1 => funext fun v => (e1 n m v).trans (by rw [h2 n]; rw [h1 n m]; rfl)
noncomputable def f (n : Nat) (b : List (Int)) : Option R := S0 n (J1 n n) b
theorem link (n : Nat) (v : DIn ia) : acRun (X n) (A0 n) (frameOf (X n).len (inSig 0 ia) v) (endK ia io) = f n v.1 :=
  (e0 n v).trans (by rw [h1 n n]; rfl)
theorem phi (n : Nat) : ∀ e ∈ (X n).c.Φ, EntryOk Try.prog e := allE_nil
theorem o1 (n : Nat) : (A1 n).Ok Try.prog (X n) := (oc_ok _)
theorem b1 (n : Nat) : (B1 n).Ok Try.prog (X n) := runL_ok mixed tabIs (phi n) (o1 n) (by kernel_rfl) n
theorem o2 (n : Nat) : (A2 n).Ok Try.prog (X n) := (oc_ok _)
theorem b2 (n : Nat) : (B2 n).Ok Try.prog (X n) := runR_ok mixed tabIs (phi n) (o2 n) (by kernel_rfl)
theorem o0 (n : Nat) : (A0 n).Ok Try.prog (X n) := ⟨(oc_ok _), ⟨(oc_ok _), ⟨⟨(oc_ok _), (b1 n)⟩, (b2 n)⟩⟩⟩
theorem ok (n : Nat) : FnOk Try.prog 11 ia io (fun v => f n v.1) :=
  fn_ok (x := X n) (A := A0 n) mixed tabIs (phi n) Try.func11 (by kernel_rfl) (by kernel_rfl) rfl (o0 n) (fun v u h => (link n v).trans h)
noncomputable def en (n : Nat) : Entry := mkEntry 11 ia io (fun v => f n v.1)
end f11
end Go.Proofs.Ytnlckhekcklcpaa


namespace Go.Proofs.Ytnlckhekcklcpaa
open Go Go.Va Go.Proofs
/- chartulary/alpha.Number -/
namespace f16
abbrev ia : List Ai := [.dat (.int .u64)]
abbrev io : List (Nat × Oi) := [(2, .dat .str)]
abbrev R : Type := DOut ia io
noncomputable def X (n : Nat) : Ctx := ⟨⟨tab, [], 0⟩, 21, bnOf 0 ia⟩
abbrev g1 : List Si := [.dat 0 (.int .u64), .ref 3 3 (.arr 13 (.int .u8)), .dat 5 (.int .i64), .box 3 (.arr 13 (.int .u8))]
abbrev g2 : List Si := [.ref 3 3 (.arr 13 (.int .u8)), .box 3 (.arr 13 (.int .u8))]
noncomputable def A1 (n : Nat) : AC R := (oc R (fsub Try.f16 [1, 1, 0, 1, 0, 0]))
noncomputable def B1 (n : Nat) : AC R := .cut (fsub Try.f16 [1, 1, 0, 1, 0]) g1 (runL (X n) (A1 n) g1 n)
noncomputable def A2 (n : Nat) : AC R := (oc R (fsub Try.f16 [1, 1, 1]))
noncomputable def B2 (n : Nat) : AC R := .cut (fsub Try.f16 [1, 1, 1]) g2 (runR (X n) (A2 n) g2)
noncomputable def A0 (n : Nat) : AC R := (.seq (oc R (fsub Try.f16 [0])) (.seq (oc R (fsub Try.f16 [1, 0])) (.seq (.seq (oc R (fsub Try.f16 [1, 1, 0, 0])) (.block 0 (B1 n))) (B2 n))))
noncomputable def k1 (n : Nat) : KK R := (blockK 0 (seqK (fun s => acRun (X n) (B2 n) s (endK ia io)) (endK ia io)))
noncomputable def k2 (n : Nat) : KK R := (endK ia io)
noncomputable def S0 (n : Nat) (j1 : Dens g1 → Option R) (n_ : Int) : Option R :=
  j1 (n_, 0, (List.replicate 13 0), ())
noncomputable def S1 (n : Nat) (j1 : Dens g1 → Option R) (j2 : Dens g2 → Option R) (n_ : Int) (t5 : Int) (out : List (Int)) : Option R :=
  if decide (t5 < (13 : Int)) = true then
    if (IntKind.u64.wrap ((5 : Int) * (IntKind.u64.wrap (IntKind.i64.wrap ((12 : Int) - t5))))) < 0 then none else
    if 0 ≤ (bitI .and .u64 (shrI .u64 n_ (IntKind.u64.wrap ((5 : Int) * (IntKind.u64.wrap (IntKind.i64.wrap ((12 : Int) - t5)))))) 31) ∧ (bitI .and .u64 (shrI .u64 n_ (IntKind.u64.wrap ((5 : Int) * (IntKind.u64.wrap (IntKind.i64.wrap ((12 : Int) - t5)))))) 31) < ((⟨#[48, 49, 50, 51, 52, 53, 54, 55, 56, 57, 97, 98, 99, 100, 101, 102, 103, 104, 105, 106, 107, 108, 109, 110, 111, 112, 113, 114, 115, 116, 117, 118]⟩ : ByteArray).size : Int) then
      if 0 ≤ t5 ∧ t5 < ((13 : Nat) : Int) then
        j1 (n_, (IntKind.i64.wrap (t5 + (1 : Int))), (List.set out t5.toNat (bt (⟨#[48, 49, 50, 51, 52, 53, 54, 55, 56, 57, 97, 98, 99, 100, 101, 102, 103, 104, 105, 106, 107, 108, 109, 110, 111, 112, 113, 114, 115, 116, 117, 118]⟩ : ByteArray) (bitI .and .u64 (shrI .u64 n_ (IntKind.u64.wrap ((5 : Int) * (IntKind.u64.wrap (IntKind.i64.wrap ((12 : Int) - t5)))))) 31))), ())
      else none
    else none
  else
    j2 (out, ())
noncomputable def S2 (n : Nat) (out : List (Int)) : Option R :=
  some ((bytesOf out), ())
theorem e0 (n : Nat) (v : DIn ia) : acRun (X n) (A0 n) (frameOf (X n).len (inSig 0 ia) v) (endK ia io) = S0 n (fun v => runL (X n) (A1 n) g1 n v (k1 n)) v.1 := by kernel_rfl
theorem e1 (n : Nat) (m1 : Nat) (v : Dens g1) : runL (X n) (A1 n) g1 (m1 + 1) v (k1 n) = S1 n (fun v => runL (X n) (A1 n) g1 m1 v (k1 n)) (fun v => runR (X n) (A2 n) g2 v (k2 n)) v.1 v.2.1 v.2.2.1 := by kernel_rfl
theorem e2 (n : Nat) (v : Dens g2) : runR (X n) (A2 n) g2 v (k2 n) = S2 n v.1 := by kernel_rfl
noncomputable def J2 (n : Nat) : Dens g2 → Option R := fun v => S2 n v.1
theorem h2 (n : Nat) : (fun v => runR (X n) (A2 n) g2 v (k2 n)) = J2 n :=
  funext fun v => (e2 n v).trans (by rfl)
noncomputable def J1 (n : Nat) : Nat → Dens g1 → Option R
  | 0, _ => none
  | m + 1, v => S1 n (J1 n m) (J2 n) v.1 v.2.1 v.2.2.1
theorem h1 (n : Nat) : ∀ m, (fun v => runL (X n) (A1 n) g1 m v (k1 n)) = J1 n m
  | 0 => rfl
  | m + 1 => funext fun v => (e1 n m v).trans (by rw [h2 n]; rw [h1 n m]; rfl)
noncomputable def f (n : Nat) (n_ : Int) : Option R := S0 n (J1 n n) n_
theorem link (n : Nat) (v : DIn ia) : acRun (X n) (A0 n) (frameOf (X n).len (inSig 0 ia) v) (endK ia io) = f n v.1 :=
  (e0 n v).trans (by rw [h1 n n]; rfl)
theorem phi (n : Nat) : ∀ e ∈ (X n).c.Φ, EntryOk Try.prog e := allE_nil
theorem o1 (n : Nat) : (A1 n).Ok Try.prog (X n) := (oc_ok _)
theorem b1 (n : Nat) : (B1 n).Ok Try.prog (X n) := runL_ok mixed tabIs (phi n) (o1 n) (by kernel_rfl) n
theorem o2 (n : Nat) : (A2 n).Ok Try.prog (X n) := (oc_ok _)
theorem b2 (n : Nat) : (B2 n).Ok Try.prog (X n) := runR_ok mixed tabIs (phi n) (o2 n) (by kernel_rfl)
theorem o0 (n : Nat) : (A0 n).Ok Try.prog (X n) := ⟨(oc_ok _), ⟨(oc_ok _), ⟨⟨(oc_ok _), (b1 n)⟩, (b2 n)⟩⟩⟩
theorem ok (n : Nat) : FnOk Try.prog 16 ia io (fun v => f n v.1) :=
  fn_ok (x := X n) (A := A0 n) mixed tabIs (phi n) Try.func16 (by kernel_rfl) (by kernel_rfl) rfl (o0 n) (fun v u h => (link n v).trans h)
noncomputable def en (n : Nat) : Entry := mkEntry 16 ia io (fun v => f n v.1)
end f16
end Go.Proofs.Ytnlckhekcklcpaa


namespace Go.Proofs.Ytnlckhekcklcpaa
open Go Go.Va Go.Proofs
/- chartulary/alpha.Base -/
namespace f20
abbrev ia : List Ai := [.dat (.slice (.int .u8))]
abbrev io : List (Nat × Oi) := [(2, .dat .str)]
abbrev R : Type := DOut ia io
noncomputable def X (n : Nat) : Ctx := ⟨⟨tab, [], 0⟩, 48, bnOf 0 ia⟩
abbrev g1 : List Si := [.row 3 200003 (.int .u8), .dat 4 (.int .u32), .dat 5 (.int .u64), .dat 8 (.slice (.int .u8)), .dat 9 (.int .i64), .dat 10 (.int .i64)]
abbrev g2 : List Si := [.row 3 200003 (.int .u8), .dat 4 (.int .u32), .dat 5 (.int .u64), .dat 8 (.slice (.int .u8)), .dat 9 (.int .i64), .dat 10 (.int .i64)]
abbrev g3 : List Si := [.row 3 200003 (.int .u8), .dat 4 (.int .u32), .dat 5 (.int .u64), .dat 8 (.slice (.int .u8)), .dat 9 (.int .i64), .dat 10 (.int .i64)]
abbrev g4 : List Si := [.row 3 200003 (.int .u8), .dat 4 (.int .u32), .dat 5 (.int .u64)]
abbrev g5 : List Si := [.row 3 200003 (.int .u8)]
noncomputable def A2 (n : Nat) : AC R := (oc R (fsub Try.f20 [1, 1, 1, 1, 0, 1, 0, 0, 1, 1, 0, 0, 1, 1, 0, 0]))
noncomputable def B2 (n : Nat) : AC R := .cut (fsub Try.f20 [1, 1, 1, 1, 0, 1, 0, 0, 1, 1, 0, 0, 1, 1, 0]) g2 (runL (X n) (A2 n) g2 n)
noncomputable def A3 (n : Nat) : AC R := (oc R (fsub Try.f20 [1, 1, 1, 1, 0, 1, 0, 0, 1, 1, 1]))
noncomputable def B3 (n : Nat) : AC R := .cut (fsub Try.f20 [1, 1, 1, 1, 0, 1, 0, 0, 1, 1, 1]) g3 (runR (X n) (A3 n) g3)
noncomputable def A1 (n : Nat) : AC R := (.seq (oc R (fsub Try.f20 [1, 1, 1, 1, 0, 1, 0, 0, 0])) (.seq (oc R (fsub Try.f20 [1, 1, 1, 1, 0, 1, 0, 0, 1, 0])) (.seq (.block 1 (.seq (oc R (fsub Try.f20 [1, 1, 1, 1, 0, 1, 0, 0, 1, 1, 0, 0, 0])) (.seq (oc R (fsub Try.f20 [1, 1, 1, 1, 0, 1, 0, 0, 1, 1, 0, 0, 1, 0])) (.block 2 (B2 n))))) (B3 n))))
noncomputable def B1 (n : Nat) : AC R := .cut (fsub Try.f20 [1, 1, 1, 1, 0, 1, 0]) g1 (runL (X n) (A1 n) g1 n)
noncomputable def A5 (n : Nat) : AC R := (oc R (fsub Try.f20 [1, 1, 1, 1, 1, 1]))
noncomputable def B5 (n : Nat) : AC R := .cut (fsub Try.f20 [1, 1, 1, 1, 1, 1]) g5 (runR (X n) (A5 n) g5)
noncomputable def A4 (n : Nat) : AC R := (.seq (oc R (fsub Try.f20 [1, 1, 1, 1, 1, 0])) (B5 n))
noncomputable def B4 (n : Nat) : AC R := .cut (fsub Try.f20 [1, 1, 1, 1, 1]) g4 (runR (X n) (A4 n) g4)
noncomputable def A0 (n : Nat) : AC R := (.seq (oc R (fsub Try.f20 [0])) (.seq (oc R (fsub Try.f20 [1, 0])) (.seq (oc R (fsub Try.f20 [1, 1, 0])) (.seq (oc R (fsub Try.f20 [1, 1, 1, 0])) (.seq (.seq (oc R (fsub Try.f20 [1, 1, 1, 1, 0, 0])) (.block 0 (B1 n))) (B4 n))))))
noncomputable def k1 (n : Nat) : KK R := (blockK 0 (seqK (fun s => acRun (X n) (B4 n) s (endK ia io)) (endK ia io)))
noncomputable def k4 (n : Nat) : KK R := (endK ia io)
noncomputable def k5 (n : Nat) : KK R := (k4 n)
noncomputable def k2 (n : Nat) (m1 : Nat) : KK R := (blockK 2 (blockK 1 (seqK (fun s => acRun (X n) (B3 n) s (loopK (X n).bn g1 (fun v => runL (X n) (A1 n) g1 m1 v (k1 n)) (k1 n))) (loopK (X n).bn g1 (fun v => runL (X n) (A1 n) g1 m1 v (k1 n)) (k1 n)))))
noncomputable def k3 (n : Nat) (m1 : Nat) : KK R := (loopK (X n).bn g1 (fun v => runL (X n) (A1 n) g1 m1 v (k1 n)) (k1 n))
noncomputable def S0 (n : Nat) (j1 : Dens g1 → Option R) (b : List (Int)) : Option R :=
  j1 ([], 0, 0, b, ((b.length : Nat) : Int), 0, ())
noncomputable def S1 (n : Nat) (j2 : Dens g2 → Option R) (j4 : Dens g4 → Option R) (out : List (Int)) (held : Int) (width : Int) (t8 : List (Int)) (t9 : Int) (t10 : Int) : Option R :=
  if decide (t10 < t9) = true then
    if 0 ≤ t10 ∧ t10 < ((t8.length : Nat) : Int) then
      j2 (out, (bitI .or .u32 (shlI .u32 held 8) (IntKind.u32.wrap (List.getD t8 t10.toNat 0))), (IntKind.u64.wrap (width + (8 : Int))), t8, t9, t10, ())
    else none
  else
    j4 (out, held, width, ())
noncomputable def S2 (n : Nat) (j2 : Dens g2 → Option R) (j3 : Dens g3 → Option R) (out : List (Int)) (held : Int) (width : Int) (t8 : List (Int)) (t9 : Int) (t10 : Int) : Option R :=
  if decide (width ≥ (5 : Int)) = true then
    if (IntKind.u64.wrap (width - (5 : Int))) < 0 then none else
    if 0 ≤ (bitI .and .u32 (shrI .u32 held (IntKind.u64.wrap (width - (5 : Int)))) 31) ∧ (bitI .and .u32 (shrI .u32 held (IntKind.u64.wrap (width - (5 : Int)))) 31) < ((⟨#[97, 98, 99, 100, 101, 102, 103, 104, 105, 106, 107, 108, 109, 110, 111, 112, 113, 114, 115, 116, 117, 118, 119, 120, 121, 122, 50, 51, 52, 53, 54, 55]⟩ : ByteArray).size : Int) then
      if (out.length + 1) * 1 ≤ 70368744177664 then
        j2 ((out ++ [(bt (⟨#[97, 98, 99, 100, 101, 102, 103, 104, 105, 106, 107, 108, 109, 110, 111, 112, 113, 114, 115, 116, 117, 118, 119, 120, 121, 122, 50, 51, 52, 53, 54, 55]⟩ : ByteArray) (bitI .and .u32 (shrI .u32 held (IntKind.u64.wrap (width - (5 : Int)))) 31))]), held, (IntKind.u64.wrap (width - (5 : Int))), t8, t9, t10, ())
      else none
    else none
  else
    j3 (out, held, width, t8, t9, t10, ())
noncomputable def S3 (n : Nat) (j1 : Dens g1 → Option R) (out : List (Int)) (held : Int) (width : Int) (t8 : List (Int)) (t9 : Int) (t10 : Int) : Option R :=
  j1 (out, held, width, t8, t9, (IntKind.i64.wrap (t10 + (1 : Int))), ())
noncomputable def S4 (n : Nat) (j5 : Dens g5 → Option R) (out : List (Int)) (held : Int) (width : Int) : Option R :=
  if decide (width > (0 : Int)) = true then
    if (IntKind.u64.wrap ((5 : Int) - width)) < 0 then none else
    if 0 ≤ (bitI .and .u32 (shlI .u32 held (IntKind.u64.wrap ((5 : Int) - width))) 31) ∧ (bitI .and .u32 (shlI .u32 held (IntKind.u64.wrap ((5 : Int) - width))) 31) < ((⟨#[97, 98, 99, 100, 101, 102, 103, 104, 105, 106, 107, 108, 109, 110, 111, 112, 113, 114, 115, 116, 117, 118, 119, 120, 121, 122, 50, 51, 52, 53, 54, 55]⟩ : ByteArray).size : Int) then
      if (out.length + 1) * 1 ≤ 70368744177664 then
        j5 ((out ++ [(bt (⟨#[97, 98, 99, 100, 101, 102, 103, 104, 105, 106, 107, 108, 109, 110, 111, 112, 113, 114, 115, 116, 117, 118, 119, 120, 121, 122, 50, 51, 52, 53, 54, 55]⟩ : ByteArray) (bitI .and .u32 (shlI .u32 held (IntKind.u64.wrap ((5 : Int) - width))) 31))]), ())
      else none
    else none
  else
    j5 (out, ())
noncomputable def S5 (n : Nat) (out : List (Int)) : Option R :=
  some ((bytesOf out), ())
theorem e0 (n : Nat) (v : DIn ia) : acRun (X n) (A0 n) (frameOf (X n).len (inSig 0 ia) v) (endK ia io) = S0 n (fun v => runL (X n) (A1 n) g1 n v (k1 n)) v.1 := by kernel_rfl
theorem e1 (n : Nat) (m1 : Nat) (v : Dens g1) : runL (X n) (A1 n) g1 (m1 + 1) v (k1 n) = S1 n (fun v => runL (X n) (A2 n) g2 n v (k2 n m1)) (fun v => runR (X n) (A4 n) g4 v (k4 n)) v.1 v.2.1 v.2.2.1 v.2.2.2.1 v.2.2.2.2.1 v.2.2.2.2.2.1 := by kernel_rfl
theorem e2 (n : Nat) (m1 : Nat) (m2 : Nat) (v : Dens g2) : runL (X n) (A2 n) g2 (m2 + 1) v (k2 n m1) = S2 n (fun v => runL (X n) (A2 n) g2 m2 v (k2 n m1)) (fun v => runR (X n) (A3 n) g3 v (k3 n m1)) v.1 v.2.1 v.2.2.1 v.2.2.2.1 v.2.2.2.2.1 v.2.2.2.2.2.1 := by kernel_rfl
theorem e3 (n : Nat) (m1 : Nat) (v : Dens g3) : runR (X n) (A3 n) g3 v (k3 n m1) = S3 n (fun v => runL (X n) (A1 n) g1 m1 v (k1 n)) v.1 v.2.1 v.2.2.1 v.2.2.2.1 v.2.2.2.2.1 v.2.2.2.2.2.1 := by kernel_rfl
theorem e4 (n : Nat) (v : Dens g4) : runR (X n) (A4 n) g4 v (k4 n) = S4 n (fun v => runR (X n) (A5 n) g5 v (k5 n)) v.1 v.2.1 v.2.2.1 := by kernel_rfl
theorem e5 (n : Nat) (v : Dens g5) : runR (X n) (A5 n) g5 v (k5 n) = S5 n v.1 := by kernel_rfl
noncomputable def J3 (n : Nat) (r1 : Dens g1 → Option R) : Dens g3 → Option R := fun v => S3 n r1 v.1 v.2.1 v.2.2.1 v.2.2.2.1 v.2.2.2.2.1 v.2.2.2.2.2.1
theorem h3 (n : Nat) (m1 : Nat) : (fun v => runR (X n) (A3 n) g3 v (k3 n m1)) = J3 n (fun v => runL (X n) (A1 n) g1 m1 v (k1 n)) :=
  funext fun v => (e3 n m1 v).trans (by rfl)
noncomputable def J2 (n : Nat) (r1 : Dens g1 → Option R) : Nat → Dens g2 → Option R
  | 0, _ => none
  | m + 1, v => S2 n (J2 n r1 m) (J3 n r1) v.1 v.2.1 v.2.2.1 v.2.2.2.1 v.2.2.2.2.1 v.2.2.2.2.2.1
theorem h2 (n : Nat) (m1 : Nat) : ∀ m, (fun v => runL (X n) (A2 n) g2 m v (k2 n m1)) = J2 n (fun v => runL (X n) (A1 n) g1 m1 v (k1 n)) m
  | 0 => rfl
  | m + 1 => funext fun v => (e2 n m1 m v).trans (by rw [h3 n m1]; rw [h2 n m1 m]; rfl)
noncomputable def J5 (n : Nat) : Dens g5 → Option R := fun v => S5 n v.1
theorem h5 (n : Nat) : (fun v => runR (X n) (A5 n) g5 v (k5 n)) = J5 n :=
  funext fun v => (e5 n v).trans (by rfl)
noncomputable def J4 (n : Nat) : Dens g4 → Option R := fun v => S4 n (J5 n) v.1 v.2.1 v.2.2.1
theorem h4 (n : Nat) : (fun v => runR (X n) (A4 n) g4 v (k4 n)) = J4 n :=
  funext fun v => (e4 n v).trans (by rw [h5 n]; rfl)
noncomputable def J1 (n : Nat) : Nat → Dens g1 → Option R
  | 0, _ => none
  | m + 1, v => S1 n (J2 n (J1 n m) n) (J4 n) v.1 v.2.1 v.2.2.1 v.2.2.2.1 v.2.2.2.2.1 v.2.2.2.2.2.1
theorem h1 (n : Nat) : ∀ m, (fun v => runL (X n) (A1 n) g1 m v (k1 n)) = J1 n m
  | 0 => rfl
  | m + 1 => funext fun v => (e1 n m v).trans (by rw [h2 n m n, h4 n]; rw [h1 n m]; rfl)
noncomputable def f (n : Nat) (b : List (Int)) : Option R := S0 n (J1 n n) b
theorem link (n : Nat) (v : DIn ia) : acRun (X n) (A0 n) (frameOf (X n).len (inSig 0 ia) v) (endK ia io) = f n v.1 :=
  (e0 n v).trans (by rw [h1 n n]; rfl)
theorem phi (n : Nat) : ∀ e ∈ (X n).c.Φ, EntryOk Try.prog e := allE_nil
theorem o2 (n : Nat) : (A2 n).Ok Try.prog (X n) := (oc_ok _)
theorem b2 (n : Nat) : (B2 n).Ok Try.prog (X n) := runL_ok mixed tabIs (phi n) (o2 n) (by kernel_rfl) n
theorem o3 (n : Nat) : (A3 n).Ok Try.prog (X n) := (oc_ok _)
theorem b3 (n : Nat) : (B3 n).Ok Try.prog (X n) := runR_ok mixed tabIs (phi n) (o3 n) (by kernel_rfl)
theorem o1 (n : Nat) : (A1 n).Ok Try.prog (X n) := ⟨(oc_ok _), ⟨(oc_ok _), ⟨⟨(oc_ok _), ⟨(oc_ok _), (b2 n)⟩⟩, (b3 n)⟩⟩⟩
theorem b1 (n : Nat) : (B1 n).Ok Try.prog (X n) := runL_ok mixed tabIs (phi n) (o1 n) (by kernel_rfl) n
theorem o5 (n : Nat) : (A5 n).Ok Try.prog (X n) := (oc_ok _)
theorem b5 (n : Nat) : (B5 n).Ok Try.prog (X n) := runR_ok mixed tabIs (phi n) (o5 n) (by kernel_rfl)
theorem o4 (n : Nat) : (A4 n).Ok Try.prog (X n) := ⟨(oc_ok _), (b5 n)⟩
theorem b4 (n : Nat) : (B4 n).Ok Try.prog (X n) := runR_ok mixed tabIs (phi n) (o4 n) (by kernel_rfl)
theorem o0 (n : Nat) : (A0 n).Ok Try.prog (X n) := ⟨(oc_ok _), ⟨(oc_ok _), ⟨(oc_ok _), ⟨(oc_ok _), ⟨⟨(oc_ok _), (b1 n)⟩, (b4 n)⟩⟩⟩⟩⟩
theorem ok (n : Nat) : FnOk Try.prog 20 ia io (fun v => f n v.1) :=
  fn_ok (x := X n) (A := A0 n) mixed tabIs (phi n) Try.func20 (by kernel_rfl) (by kernel_rfl) rfl (o0 n) (fun v u h => (link n v).trans h)
noncomputable def en (n : Nat) : Entry := mkEntry 20 ia io (fun v => f n v.1)
end f20
end Go.Proofs.Ytnlckhekcklcpaa

namespace Go.Proofs.Ytnlckhekcklcpaa
open Go Go.Va Go.Proofs

set_option maxHeartbeats 1000000 in
set_option maxRecDepth 100000 in
theorem stringslite_IndexByte (s : ByteArray) (c : Int) (w : World) :
    Calls Try.prog 25 #[.string s, .int .u8 c] w fun e w' => e = .returned (.int .i64 (Lib.indexByte s.data.toList c.toNat.toUInt8)) ∧ w' = w := by
  go_enter Try.func25, Try.ntmps25
  go_wp2
  rw [run_callFunc_extern Try.func26 (by kernel_rfl) (by kernel_rfl) (by kernel_rfl) (e := Extern.BytealgIndexByte.indexByte) (by kernel_rfl), Lib.run_indexByteString]
  simp only [Result.andThen]
  rw [Oper.upon_value]
  go_wp2
  go_ret
  exact ⟨rfl, rfl⟩

set_option maxHeartbeats 1000000 in
theorem strings_IndexByte (s : ByteArray) (c : Int) (w : World) :
    Calls Try.prog 22 #[.string s, .int .u8 c] w fun e w' => e = .returned (.int .i64 (Lib.indexByte s.data.toList c.toNat.toUInt8)) ∧ w' = w := by
  go_enter Try.func22, Try.ntmps22
  go_wp2_with (go_at_call 25; refine (stringslite_IndexByte _ _ _).mono ?_; rintro e w' ⟨rfl, rfl⟩)
  go_ret
  exact ⟨rfl, rfl⟩

namespace f22
abbrev ia : List Ai := [.dat .str, .dat (.int .u8)]
abbrev io : List (Nat × Oi) := [(4, .dat (.int .i64))]
noncomputable def f (s : ByteArray) (c : Int) : Option (DOut ia io) := some (Lib.indexByte s.data.toList c.toNat.toUInt8, ())
theorem ok : FnOk Try.prog 22 ia io (fun v => f v.1 v.2.1) := by
  refine leaf_ok ⟨Try.f22, Try.func22, by kernel_rfl, by kernel_rfl⟩ rfl (fun _ => rfl) (fun _ => rfl) (fun v u h E w vals hc => ?_)
  obtain ⟨x, vs, rfl, h1, y, vs', rfl, h2, h3⟩ := hc
  have h3 : vs' = [] := h3
  subst h3
  have h1 : x = .string v.1 := V_str.1 h1
  have h2 : y = .int .u8 v.2.1 := V_int.1 h2
  subst h1 h2
  injection h with h
  subst h
  refine (strings_IndexByte v.1 v.2.1 w).mono ?_
  rintro e w' ⟨rfl, rfl⟩
  exact ⟨_, rfl, rfl, fun E => V_int.2 rfl⟩
noncomputable def en : Entry := mkEntry 22 ia io (fun v => f v.1 v.2.1)
end f22
end Go.Proofs.Ytnlckhekcklcpaa


namespace Go.Proofs.Ytnlckhekcklcpaa
open Go Go.Va Go.Proofs
/- chartulary/alpha.Unhex -/
namespace f8
abbrev ia : List Ai := [.dat .str]
abbrev io : List (Nat × Oi) := [(2, .row (.int .u8)), (3, .dat (.int .i64))]
abbrev R : Type := DOut ia io
noncomputable def X (n : Nat) : Ctx := ⟨⟨tab, [f22.en], 0⟩, 42, bnOf 0 ia⟩
abbrev g1 : List Si := [.dat 0 .str, .row 4 200004 (.int .u8), .dat 5 (.int .i64)]
abbrev g2 : List Si := [.dat 0 .str, .row 4 200004 (.int .u8), .dat 5 (.int .i64), .dat 6 (.int .i64), .dat 7 (.int .i64)]
abbrev g3 : List Si := [.dat 0 .str, .row 4 200004 (.int .u8), .dat 5 (.int .i64)]
abbrev g4 : List Si := [.row 4 200004 (.int .u8)]
noncomputable def A2 (n : Nat) : AC R := (oc R (fsub Try.f8 [1, 1, 1, 0, 1, 0, 0, 1, 0, 0, 1, 1]))
noncomputable def B2 (n : Nat) : AC R := .cut (fsub Try.f8 [1, 1, 1, 0, 1, 0, 0, 1, 0, 0, 1, 1]) g2 (runR (X n) (A2 n) g2)
noncomputable def A3 (n : Nat) : AC R := (oc R (fsub Try.f8 [1, 1, 1, 0, 1, 0, 0, 1, 1]))
noncomputable def B3 (n : Nat) : AC R := .cut (fsub Try.f8 [1, 1, 1, 0, 1, 0, 0, 1, 1]) g3 (runR (X n) (A3 n) g3)
noncomputable def A1 (n : Nat) : AC R := (.seq (oc R (fsub Try.f8 [1, 1, 1, 0, 1, 0, 0, 0])) (.seq (.block 1 (.seq (oc R (fsub Try.f8 [1, 1, 1, 0, 1, 0, 0, 1, 0, 0, 0])) (.seq (oc R (fsub Try.f8 [1, 1, 1, 0, 1, 0, 0, 1, 0, 0, 1, 0])) (B2 n)))) (B3 n)))
noncomputable def B1 (n : Nat) : AC R := .cut (fsub Try.f8 [1, 1, 1, 0, 1, 0]) g1 (runL (X n) (A1 n) g1 n)
noncomputable def A4 (n : Nat) : AC R := (oc R (fsub Try.f8 [1, 1, 1, 1]))
noncomputable def B4 (n : Nat) : AC R := .cut (fsub Try.f8 [1, 1, 1, 1]) g4 (runR (X n) (A4 n) g4)
noncomputable def A0 (n : Nat) : AC R := (.seq (oc R (fsub Try.f8 [0])) (.seq (oc R (fsub Try.f8 [1, 0])) (.seq (oc R (fsub Try.f8 [1, 1, 0])) (.seq (.seq (oc R (fsub Try.f8 [1, 1, 1, 0, 0])) (.block 0 (B1 n))) (B4 n)))))
noncomputable def k1 (n : Nat) : KK R := (blockK 0 (seqK (fun s => acRun (X n) (B4 n) s (endK ia io)) (endK ia io)))
noncomputable def k4 (n : Nat) : KK R := (endK ia io)
noncomputable def k2 (n : Nat) (m1 : Nat) : KK R := (blockK 1 (seqK (fun s => acRun (X n) (B3 n) s (loopK (X n).bn g1 (fun v => runL (X n) (A1 n) g1 m1 v (k1 n)) (k1 n))) (loopK (X n).bn g1 (fun v => runL (X n) (A1 n) g1 m1 v (k1 n)) (k1 n))))
noncomputable def k3 (n : Nat) (m1 : Nat) : KK R := (loopK (X n).bn g1 (fun v => runL (X n) (A1 n) g1 m1 v (k1 n)) (k1 n))
noncomputable def S0 (n : Nat) (j1 : Dens g1 → Option R) (s_ : ByteArray) : Option R :=
  if ((Int.tmod (s_.size : Int) 2) != (0 : Int)) = true then
    some ([], 5, ())
  else
    j1 (s_, [], 0, ())
noncomputable def S1 (n : Nat) (j2 : Dens g2 → Option R) (j4 : Dens g4 → Option R) (s_ : ByteArray) (out : List (Int)) (i : Int) : Option R :=
  if decide (i < (s_.size : Int)) = true then
    if 0 ≤ i ∧ i < (s_.size : Int) then
      bnd (f22.f (⟨#[48, 49, 50, 51, 52, 53, 54, 55, 56, 57, 97, 98, 99, 100, 101, 102]⟩ : ByteArray) (bt s_ i)) fun u1 =>
      if 0 ≤ (IntKind.i64.wrap (i + (1 : Int))) ∧ (IntKind.i64.wrap (i + (1 : Int))) < (s_.size : Int) then
        bnd (f22.f (⟨#[48, 49, 50, 51, 52, 53, 54, 55, 56, 57, 97, 98, 99, 100, 101, 102]⟩ : ByteArray) (bt s_ (IntKind.i64.wrap (i + (1 : Int))))) fun u2 =>
        if decide (u1.1 < (0 : Int)) = true then
          some ([], 5, ())
        else
          if decide (u2.1 < (0 : Int)) = true then
            some ([], 5, ())
          else
            j2 (s_, out, i, u1.1, u2.1, ())
      else none
    else none
  else
    j4 (out, ())
noncomputable def S2 (n : Nat) (j3 : Dens g3 → Option R) (s_ : ByteArray) (out : List (Int)) (i : Int) (hi : Int) (lo : Int) : Option R :=
  if (out.length + 1) * 1 ≤ 70368744177664 then
    j3 (s_, (out ++ [(IntKind.u8.wrap (bitI .or .i64 (shlI .i64 hi 4) lo))]), i, ())
  else none
noncomputable def S3 (n : Nat) (j1 : Dens g1 → Option R) (s_ : ByteArray) (out : List (Int)) (i : Int) : Option R :=
  j1 (s_, out, (IntKind.i64.wrap (i + (2 : Int))), ())
noncomputable def S4 (n : Nat) (out : List (Int)) : Option R :=
  some (out, 0, ())
theorem e0 (n : Nat) (v : DIn ia) : acRun (X n) (A0 n) (frameOf (X n).len (inSig 0 ia) v) (endK ia io) = S0 n (fun v => runL (X n) (A1 n) g1 n v (k1 n)) v.1 := by kernel_rfl
theorem e1 (n : Nat) (m1 : Nat) (v : Dens g1) : runL (X n) (A1 n) g1 (m1 + 1) v (k1 n) = S1 n (fun v => runR (X n) (A2 n) g2 v (k2 n m1)) (fun v => runR (X n) (A4 n) g4 v (k4 n)) v.1 v.2.1 v.2.2.1 := by kernel_rfl
theorem e2 (n : Nat) (m1 : Nat) (v : Dens g2) : runR (X n) (A2 n) g2 v (k2 n m1) = S2 n (fun v => runR (X n) (A3 n) g3 v (k3 n m1)) v.1 v.2.1 v.2.2.1 v.2.2.2.1 v.2.2.2.2.1 := by kernel_rfl
theorem e3 (n : Nat) (m1 : Nat) (v : Dens g3) : runR (X n) (A3 n) g3 v (k3 n m1) = S3 n (fun v => runL (X n) (A1 n) g1 m1 v (k1 n)) v.1 v.2.1 v.2.2.1 := by kernel_rfl
theorem e4 (n : Nat) (v : Dens g4) : runR (X n) (A4 n) g4 v (k4 n) = S4 n v.1 := by kernel_rfl
noncomputable def J3 (n : Nat) (r1 : Dens g1 → Option R) : Dens g3 → Option R := fun v => S3 n r1 v.1 v.2.1 v.2.2.1
theorem h3 (n : Nat) (m1 : Nat) : (fun v => runR (X n) (A3 n) g3 v (k3 n m1)) = J3 n (fun v => runL (X n) (A1 n) g1 m1 v (k1 n)) :=
  funext fun v => (e3 n m1 v).trans (by rfl)
noncomputable def J2 (n : Nat) (r1 : Dens g1 → Option R) : Dens g2 → Option R := fun v => S2 n (J3 n r1) v.1 v.2.1 v.2.2.1 v.2.2.2.1 v.2.2.2.2.1
theorem h2 (n : Nat) (m1 : Nat) : (fun v => runR (X n) (A2 n) g2 v (k2 n m1)) = J2 n (fun v => runL (X n) (A1 n) g1 m1 v (k1 n)) :=
  funext fun v => (e2 n m1 v).trans (by rw [h3 n m1]; rfl)
noncomputable def J4 (n : Nat) : Dens g4 → Option R := fun v => S4 n v.1
theorem h4 (n : Nat) : (fun v => runR (X n) (A4 n) g4 v (k4 n)) = J4 n :=
  funext fun v => (e4 n v).trans (by rfl)
noncomputable def J1 (n : Nat) : Nat → Dens g1 → Option R
  | 0, _ => none
  | m + 1, v => S1 n (J2 n (J1 n m)) (J4 n) v.1 v.2.1 v.2.2.1
theorem h1 (n : Nat) : ∀ m, (fun v => runL (X n) (A1 n) g1 m v (k1 n)) = J1 n m
  | 0 => rfl
  | m + 1 => funext fun v => (e1 n m v).trans (by rw [h2 n m, h4 n]; rw [h1 n m]; rfl)
noncomputable def f (n : Nat) (s_ : ByteArray) : Option R := S0 n (J1 n n) s_
theorem link (n : Nat) (v : DIn ia) : acRun (X n) (A0 n) (frameOf (X n).len (inSig 0 ia) v) (endK ia io) = f n v.1 :=
  (e0 n v).trans (by rw [h1 n n]; rfl)
theorem phi (n : Nat) : ∀ e ∈ (X n).c.Φ, EntryOk Try.prog e := allE_cons (mkEntry_ok (f22.ok)) (allE_nil)
theorem o2 (n : Nat) : (A2 n).Ok Try.prog (X n) := (oc_ok _)
theorem b2 (n : Nat) : (B2 n).Ok Try.prog (X n) := runR_ok mixed tabIs (phi n) (o2 n) (by kernel_rfl)
theorem o3 (n : Nat) : (A3 n).Ok Try.prog (X n) := (oc_ok _)
theorem b3 (n : Nat) : (B3 n).Ok Try.prog (X n) := runR_ok mixed tabIs (phi n) (o3 n) (by kernel_rfl)
theorem o1 (n : Nat) : (A1 n).Ok Try.prog (X n) := ⟨(oc_ok _), ⟨⟨(oc_ok _), ⟨(oc_ok _), (b2 n)⟩⟩, (b3 n)⟩⟩
theorem b1 (n : Nat) : (B1 n).Ok Try.prog (X n) := runL_ok mixed tabIs (phi n) (o1 n) (by kernel_rfl) n
theorem o4 (n : Nat) : (A4 n).Ok Try.prog (X n) := (oc_ok _)
theorem b4 (n : Nat) : (B4 n).Ok Try.prog (X n) := runR_ok mixed tabIs (phi n) (o4 n) (by kernel_rfl)
theorem o0 (n : Nat) : (A0 n).Ok Try.prog (X n) := ⟨(oc_ok _), ⟨(oc_ok _), ⟨(oc_ok _), ⟨⟨(oc_ok _), (b1 n)⟩, (b4 n)⟩⟩⟩⟩
theorem ok (n : Nat) : FnOk Try.prog 8 ia io (fun v => f n v.1) :=
  fn_ok (x := X n) (A := A0 n) mixed tabIs (phi n) Try.func8 (by kernel_rfl) (by kernel_rfl) rfl (o0 n) (fun v u h => (link n v).trans h)
noncomputable def en (n : Nat) : Entry := mkEntry 8 ia io (fun v => f n v.1)
end f8
end Go.Proofs.Ytnlckhekcklcpaa


namespace Go.Proofs.Ytnlckhekcklcpaa
open Go Go.Va Go.Proofs
/- chartulary/chartularylaw04.awake -/
namespace f10
abbrev ia : List Ai := []
abbrev io : List (Nat × Oi) := [(0, .dat .bool)]
abbrev R : Type := DOut ia io
noncomputable def X (n : Nat) : Ctx := ⟨⟨tab, [f8.en n, f11.en n, f16.en n, f20.en n], 0⟩, 29, bnOf 0 ia⟩
noncomputable def A0 (n : Nat) : AC R := (oc R (fsub Try.f10 []))
noncomputable def S0 (n : Nat) : Option R :=
  bnd (f8.f n (⟨#[48, 48, 102, 102]⟩ : ByteArray)) fun u1 =>
  if (u1.2.1 == (0 : Int)) = true then
    if (((u1.1.length : Nat) : Int) == (2 : Int)) = true then
      bnd (f11.f n u1.1) fun u2 =>
      if (eqS u2.1 (⟨#[48, 48, 102, 102]⟩ : ByteArray)) = true then
        bnd (f20.f n [102]) fun u3 =>
        if (eqS u3.1 (⟨#[109, 121]⟩ : ByteArray)) = true then
          bnd (f16.f n 32) fun u4 =>
          some ((eqS u4.1 (⟨#[48, 48, 48, 48, 48, 48, 48, 48, 48, 48, 48, 49, 48]⟩ : ByteArray)), ())
        else
          some (false, ())
      else
        some (false, ())
    else
      some (false, ())
  else
    some (false, ())
theorem e0 (n : Nat) (v : DIn ia) : acRun (X n) (A0 n) (frameOf (X n).len (inSig 0 ia) v) (endK ia io) = S0 n := by kernel_rfl
noncomputable def f (n : Nat) : Option R := S0 n
theorem link (n : Nat) (v : DIn ia) : acRun (X n) (A0 n) (frameOf (X n).len (inSig 0 ia) v) (endK ia io) = f n :=
  (e0 n v).trans (by rfl)
theorem phi (n : Nat) : ∀ e ∈ (X n).c.Φ, EntryOk Try.prog e := allE_cons (mkEntry_ok (f8.ok n)) (allE_cons (mkEntry_ok (f11.ok n)) (allE_cons (mkEntry_ok (f16.ok n)) (allE_cons (mkEntry_ok (f20.ok n)) (allE_nil))))
theorem o0 (n : Nat) : (A0 n).Ok Try.prog (X n) := (oc_ok _)
theorem ok (n : Nat) : FnOk Try.prog 10 ia io (fun v => f n) :=
  fn_ok (x := X n) (A := A0 n) mixed tabIs (phi n) Try.func10 (by kernel_rfl) (by kernel_rfl) rfl (o0 n) (fun v u h => (link n v).trans h)
noncomputable def en (n : Nat) : Entry := mkEntry 10 ia io (fun v => f n)
end f10
end Go.Proofs.Ytnlckhekcklcpaa


namespace Go.Proofs.Ytnlckhekcklcpaa
open Go Go.Va Go.Proofs
/- chartulary/chartularyref04.place -/
namespace f23
abbrev ia : List Ai := [.dat .str, .dat (.int .u8)]
abbrev io : List (Nat × Oi) := [(4, .dat (.int .i64))]
abbrev R : Type := DOut ia io
noncomputable def X (n : Nat) : Ctx := ⟨⟨tab, [], 0⟩, 18, bnOf 0 ia⟩
abbrev g1 : List Si := [.dat 0 .str, .dat 1 (.int .u8), .dat 5 (.int .i64)]
abbrev g2 : List Si := []
noncomputable def A1 (n : Nat) : AC R := (oc R (fsub Try.f23 [1, 0, 1, 0, 0]))
noncomputable def B1 (n : Nat) : AC R := .cut (fsub Try.f23 [1, 0, 1, 0]) g1 (runL (X n) (A1 n) g1 n)
noncomputable def A2 (n : Nat) : AC R := (oc R (fsub Try.f23 [1, 1]))
noncomputable def B2 (n : Nat) : AC R := .cut (fsub Try.f23 [1, 1]) g2 (runR (X n) (A2 n) g2)
noncomputable def A0 (n : Nat) : AC R := (.seq (oc R (fsub Try.f23 [0])) (.seq (.seq (oc R (fsub Try.f23 [1, 0, 0])) (.block 0 (B1 n))) (B2 n)))
noncomputable def k1 (n : Nat) : KK R := (blockK 0 (seqK (fun s => acRun (X n) (B2 n) s (endK ia io)) (endK ia io)))
noncomputable def k2 (n : Nat) : KK R := (endK ia io)
noncomputable def S0 (n : Nat) (j1 : Dens g1 → Option R) (s_ : ByteArray) (b : Int) : Option R :=
  j1 (s_, b, 0, ())
noncomputable def S1 (n : Nat) (j1 : Dens g1 → Option R) (j2 : Dens g2 → Option R) (s_ : ByteArray) (b : Int) (i : Int) : Option R :=
  if decide (i < (s_.size : Int)) = true then
    if 0 ≤ i ∧ i < (s_.size : Int) then
      if ((bt s_ i) == b) = true then
        some (i, ())
      else
        j1 (s_, b, (IntKind.i64.wrap (i + (1 : Int))), ())
    else none
  else
    j2 (())
noncomputable def S2 (n : Nat) : Option R :=
  some ((-1), ())
theorem e0 (n : Nat) (v : DIn ia) : acRun (X n) (A0 n) (frameOf (X n).len (inSig 0 ia) v) (endK ia io) = S0 n (fun v => runL (X n) (A1 n) g1 n v (k1 n)) v.1 v.2.1 := by kernel_rfl
theorem e1 (n : Nat) (m1 : Nat) (v : Dens g1) : runL (X n) (A1 n) g1 (m1 + 1) v (k1 n) = S1 n (fun v => runL (X n) (A1 n) g1 m1 v (k1 n)) (fun v => runR (X n) (A2 n) g2 v (k2 n)) v.1 v.2.1 v.2.2.1 := by kernel_rfl
theorem e2 (n : Nat) (v : Dens g2) : runR (X n) (A2 n) g2 v (k2 n) = S2 n := by kernel_rfl
noncomputable def J2 (n : Nat) : Dens g2 → Option R := fun v => S2 n
theorem h2 (n : Nat) : (fun v => runR (X n) (A2 n) g2 v (k2 n)) = J2 n :=
  funext fun v => (e2 n v).trans (by rfl)
noncomputable def J1 (n : Nat) : Nat → Dens g1 → Option R
  | 0, _ => none
  | m + 1, v => S1 n (J1 n m) (J2 n) v.1 v.2.1 v.2.2.1
theorem h1 (n : Nat) : ∀ m, (fun v => runL (X n) (A1 n) g1 m v (k1 n)) = J1 n m
  | 0 => rfl
  | m + 1 => funext fun v => (e1 n m v).trans (by rw [h2 n]; rw [h1 n m]; rfl)
noncomputable def f (n : Nat) (s_ : ByteArray) (b : Int) : Option R := S0 n (J1 n n) s_ b
theorem link (n : Nat) (v : DIn ia) : acRun (X n) (A0 n) (frameOf (X n).len (inSig 0 ia) v) (endK ia io) = f n v.1 v.2.1 :=
  (e0 n v).trans (by rw [h1 n n]; rfl)
theorem phi (n : Nat) : ∀ e ∈ (X n).c.Φ, EntryOk Try.prog e := allE_nil
theorem o1 (n : Nat) : (A1 n).Ok Try.prog (X n) := (oc_ok _)
theorem b1 (n : Nat) : (B1 n).Ok Try.prog (X n) := runL_ok mixed tabIs (phi n) (o1 n) (by kernel_rfl) n
theorem o2 (n : Nat) : (A2 n).Ok Try.prog (X n) := (oc_ok _)
theorem b2 (n : Nat) : (B2 n).Ok Try.prog (X n) := runR_ok mixed tabIs (phi n) (o2 n) (by kernel_rfl)
theorem o0 (n : Nat) : (A0 n).Ok Try.prog (X n) := ⟨(oc_ok _), ⟨⟨(oc_ok _), (b1 n)⟩, (b2 n)⟩⟩
theorem ok (n : Nat) : FnOk Try.prog 23 ia io (fun v => f n v.1 v.2.1) :=
  fn_ok (x := X n) (A := A0 n) mixed tabIs (phi n) Try.func23 (by kernel_rfl) (by kernel_rfl) rfl (o0 n) (fun v u h => (link n v).trans h)
noncomputable def en (n : Nat) : Entry := mkEntry 23 ia io (fun v => f n v.1 v.2.1)
end f23
end Go.Proofs.Ytnlckhekcklcpaa


namespace Go.Proofs.Ytnlckhekcklcpaa
open Go Go.Va Go.Proofs
/- chartulary/chartularyref04.Unhex -/
namespace f9
abbrev ia : List Ai := [.dat .str]
abbrev io : List (Nat × Oi) := [(2, .row (.int .u8)), (3, .dat (.int .i64))]
abbrev R : Type := DOut ia io
noncomputable def X (n : Nat) : Ctx := ⟨⟨tab, [f23.en n], 0⟩, 44, bnOf 0 ia⟩
abbrev g1 : List Si := [.dat 0 .str, .row 4 200004 (.int .u8), .dat 5 (.int .i64)]
abbrev g2 : List Si := [.dat 0 .str, .row 4 200004 (.int .u8), .dat 5 (.int .i64), .dat 6 (.int .i64), .dat 7 (.int .i64)]
abbrev g3 : List Si := [.dat 0 .str, .row 4 200004 (.int .u8), .dat 5 (.int .i64)]
abbrev g4 : List Si := [.row 4 200004 (.int .u8)]
noncomputable def A2 (n : Nat) : AC R := (oc R (fsub Try.f9 [1, 1, 1, 0, 1, 0, 0, 1, 0, 0, 1, 1]))
noncomputable def B2 (n : Nat) : AC R := .cut (fsub Try.f9 [1, 1, 1, 0, 1, 0, 0, 1, 0, 0, 1, 1]) g2 (runR (X n) (A2 n) g2)
noncomputable def A3 (n : Nat) : AC R := (oc R (fsub Try.f9 [1, 1, 1, 0, 1, 0, 0, 1, 1]))
noncomputable def B3 (n : Nat) : AC R := .cut (fsub Try.f9 [1, 1, 1, 0, 1, 0, 0, 1, 1]) g3 (runR (X n) (A3 n) g3)
noncomputable def A1 (n : Nat) : AC R := (.seq (oc R (fsub Try.f9 [1, 1, 1, 0, 1, 0, 0, 0])) (.seq (.block 1 (.seq (oc R (fsub Try.f9 [1, 1, 1, 0, 1, 0, 0, 1, 0, 0, 0])) (.seq (oc R (fsub Try.f9 [1, 1, 1, 0, 1, 0, 0, 1, 0, 0, 1, 0])) (B2 n)))) (B3 n)))
noncomputable def B1 (n : Nat) : AC R := .cut (fsub Try.f9 [1, 1, 1, 0, 1, 0]) g1 (runL (X n) (A1 n) g1 n)
noncomputable def A4 (n : Nat) : AC R := (oc R (fsub Try.f9 [1, 1, 1, 1]))
noncomputable def B4 (n : Nat) : AC R := .cut (fsub Try.f9 [1, 1, 1, 1]) g4 (runR (X n) (A4 n) g4)
noncomputable def A0 (n : Nat) : AC R := (.seq (oc R (fsub Try.f9 [0])) (.seq (oc R (fsub Try.f9 [1, 0])) (.seq (oc R (fsub Try.f9 [1, 1, 0])) (.seq (.seq (oc R (fsub Try.f9 [1, 1, 1, 0, 0])) (.block 0 (B1 n))) (B4 n)))))
noncomputable def k1 (n : Nat) : KK R := (blockK 0 (seqK (fun s => acRun (X n) (B4 n) s (endK ia io)) (endK ia io)))
noncomputable def k4 (n : Nat) : KK R := (endK ia io)
noncomputable def k2 (n : Nat) (m1 : Nat) : KK R := (blockK 1 (seqK (fun s => acRun (X n) (B3 n) s (loopK (X n).bn g1 (fun v => runL (X n) (A1 n) g1 m1 v (k1 n)) (k1 n))) (loopK (X n).bn g1 (fun v => runL (X n) (A1 n) g1 m1 v (k1 n)) (k1 n))))
noncomputable def k3 (n : Nat) (m1 : Nat) : KK R := (loopK (X n).bn g1 (fun v => runL (X n) (A1 n) g1 m1 v (k1 n)) (k1 n))
noncomputable def S0 (n : Nat) (j1 : Dens g1 → Option R) (s_ : ByteArray) : Option R :=
  if ((Int.tmod (s_.size : Int) 2) == (1 : Int)) = true then
    some ([], 5, ())
  else
    j1 (s_, [], 0, ())
noncomputable def S1 (n : Nat) (j2 : Dens g2 → Option R) (j4 : Dens g4 → Option R) (s_ : ByteArray) (out : List (Int)) (i : Int) : Option R :=
  if decide ((IntKind.i64.wrap (i + (1 : Int))) < (s_.size : Int)) = true then
    if 0 ≤ i ∧ i < (s_.size : Int) then
      bnd (f23.f n (⟨#[48, 49, 50, 51, 52, 53, 54, 55, 56, 57, 97, 98, 99, 100, 101, 102]⟩ : ByteArray) (bt s_ i)) fun u1 =>
      if 0 ≤ (IntKind.i64.wrap (i + (1 : Int))) ∧ (IntKind.i64.wrap (i + (1 : Int))) < (s_.size : Int) then
        bnd (f23.f n (⟨#[48, 49, 50, 51, 52, 53, 54, 55, 56, 57, 97, 98, 99, 100, 101, 102]⟩ : ByteArray) (bt s_ (IntKind.i64.wrap (i + (1 : Int))))) fun u2 =>
        if decide (u1.1 < (0 : Int)) = true then
          some ([], 5, ())
        else
          if decide (u2.1 < (0 : Int)) = true then
            some ([], 5, ())
          else
            j2 (s_, out, i, u1.1, u2.1, ())
      else none
    else none
  else
    j4 (out, ())
noncomputable def S2 (n : Nat) (j3 : Dens g3 → Option R) (s_ : ByteArray) (out : List (Int)) (i : Int) (a : Int) (b : Int) : Option R :=
  if (out.length + 1) * 1 ≤ 70368744177664 then
    j3 (s_, (out ++ [(IntKind.u8.wrap (IntKind.i64.wrap ((IntKind.i64.wrap (a * (16 : Int))) + b)))]), i, ())
  else none
noncomputable def S3 (n : Nat) (j1 : Dens g1 → Option R) (s_ : ByteArray) (out : List (Int)) (i : Int) : Option R :=
  j1 (s_, out, (IntKind.i64.wrap (i + (2 : Int))), ())
noncomputable def S4 (n : Nat) (out : List (Int)) : Option R :=
  some (out, 0, ())
theorem e0 (n : Nat) (v : DIn ia) : acRun (X n) (A0 n) (frameOf (X n).len (inSig 0 ia) v) (endK ia io) = S0 n (fun v => runL (X n) (A1 n) g1 n v (k1 n)) v.1 := by kernel_rfl
theorem e1 (n : Nat) (m1 : Nat) (v : Dens g1) : runL (X n) (A1 n) g1 (m1 + 1) v (k1 n) = S1 n (fun v => runR (X n) (A2 n) g2 v (k2 n m1)) (fun v => runR (X n) (A4 n) g4 v (k4 n)) v.1 v.2.1 v.2.2.1 := by kernel_rfl
theorem e2 (n : Nat) (m1 : Nat) (v : Dens g2) : runR (X n) (A2 n) g2 v (k2 n m1) = S2 n (fun v => runR (X n) (A3 n) g3 v (k3 n m1)) v.1 v.2.1 v.2.2.1 v.2.2.2.1 v.2.2.2.2.1 := by kernel_rfl
theorem e3 (n : Nat) (m1 : Nat) (v : Dens g3) : runR (X n) (A3 n) g3 v (k3 n m1) = S3 n (fun v => runL (X n) (A1 n) g1 m1 v (k1 n)) v.1 v.2.1 v.2.2.1 := by kernel_rfl
theorem e4 (n : Nat) (v : Dens g4) : runR (X n) (A4 n) g4 v (k4 n) = S4 n v.1 := by kernel_rfl
noncomputable def J3 (n : Nat) (r1 : Dens g1 → Option R) : Dens g3 → Option R := fun v => S3 n r1 v.1 v.2.1 v.2.2.1
theorem h3 (n : Nat) (m1 : Nat) : (fun v => runR (X n) (A3 n) g3 v (k3 n m1)) = J3 n (fun v => runL (X n) (A1 n) g1 m1 v (k1 n)) :=
  funext fun v => (e3 n m1 v).trans (by rfl)
noncomputable def J2 (n : Nat) (r1 : Dens g1 → Option R) : Dens g2 → Option R := fun v => S2 n (J3 n r1) v.1 v.2.1 v.2.2.1 v.2.2.2.1 v.2.2.2.2.1
theorem h2 (n : Nat) (m1 : Nat) : (fun v => runR (X n) (A2 n) g2 v (k2 n m1)) = J2 n (fun v => runL (X n) (A1 n) g1 m1 v (k1 n)) :=
  funext fun v => (e2 n m1 v).trans (by rw [h3 n m1]; rfl)
noncomputable def J4 (n : Nat) : Dens g4 → Option R := fun v => S4 n v.1
theorem h4 (n : Nat) : (fun v => runR (X n) (A4 n) g4 v (k4 n)) = J4 n :=
  funext fun v => (e4 n v).trans (by rfl)
noncomputable def J1 (n : Nat) : Nat → Dens g1 → Option R
  | 0, _ => none
  | m + 1, v => S1 n (J2 n (J1 n m)) (J4 n) v.1 v.2.1 v.2.2.1
theorem h1 (n : Nat) : ∀ m, (fun v => runL (X n) (A1 n) g1 m v (k1 n)) = J1 n m
  | 0 => rfl
  | m + 1 => funext fun v => (e1 n m v).trans (by rw [h2 n m, h4 n]; rw [h1 n m]; rfl)
noncomputable def f (n : Nat) (s_ : ByteArray) : Option R := S0 n (J1 n n) s_
theorem link (n : Nat) (v : DIn ia) : acRun (X n) (A0 n) (frameOf (X n).len (inSig 0 ia) v) (endK ia io) = f n v.1 :=
  (e0 n v).trans (by rw [h1 n n]; rfl)
theorem phi (n : Nat) : ∀ e ∈ (X n).c.Φ, EntryOk Try.prog e := allE_cons (mkEntry_ok (f23.ok n)) (allE_nil)
theorem o2 (n : Nat) : (A2 n).Ok Try.prog (X n) := (oc_ok _)
theorem b2 (n : Nat) : (B2 n).Ok Try.prog (X n) := runR_ok mixed tabIs (phi n) (o2 n) (by kernel_rfl)
theorem o3 (n : Nat) : (A3 n).Ok Try.prog (X n) := (oc_ok _)
theorem b3 (n : Nat) : (B3 n).Ok Try.prog (X n) := runR_ok mixed tabIs (phi n) (o3 n) (by kernel_rfl)
theorem o1 (n : Nat) : (A1 n).Ok Try.prog (X n) := ⟨(oc_ok _), ⟨⟨(oc_ok _), ⟨(oc_ok _), (b2 n)⟩⟩, (b3 n)⟩⟩
theorem b1 (n : Nat) : (B1 n).Ok Try.prog (X n) := runL_ok mixed tabIs (phi n) (o1 n) (by kernel_rfl) n
theorem o4 (n : Nat) : (A4 n).Ok Try.prog (X n) := (oc_ok _)
theorem b4 (n : Nat) : (B4 n).Ok Try.prog (X n) := runR_ok mixed tabIs (phi n) (o4 n) (by kernel_rfl)
theorem o0 (n : Nat) : (A0 n).Ok Try.prog (X n) := ⟨(oc_ok _), ⟨(oc_ok _), ⟨(oc_ok _), ⟨⟨(oc_ok _), (b1 n)⟩, (b4 n)⟩⟩⟩⟩
theorem ok (n : Nat) : FnOk Try.prog 9 ia io (fun v => f n v.1) :=
  fn_ok (x := X n) (A := A0 n) mixed tabIs (phi n) Try.func9 (by kernel_rfl) (by kernel_rfl) rfl (o0 n) (fun v u h => (link n v).trans h)
noncomputable def en (n : Nat) : Entry := mkEntry 9 ia io (fun v => f n v.1)
end f9
end Go.Proofs.Ytnlckhekcklcpaa


namespace Go.Proofs.Ytnlckhekcklcpaa
open Go Go.Va Go.Proofs
/- chartulary/chartularyref04.Hex -/
namespace f12
abbrev ia : List Ai := [.dat (.slice (.int .u8))]
abbrev io : List (Nat × Oi) := [(2, .dat .str)]
abbrev R : Type := DOut ia io
noncomputable def X (n : Nat) : Ctx := ⟨⟨tab, [], 0⟩, 42, bnOf 0 ia⟩
abbrev g1 : List Si := [.dat 0 (.slice (.int .u8)), .dat 3 .str, .dat 4 .str, .dat 5 (.int .i64)]
abbrev g2 : List Si := [.dat 4 .str]
noncomputable def A1 (n : Nat) : AC R := (oc R (fsub Try.f12 [1, 1, 1, 0, 1, 0, 0]))
noncomputable def B1 (n : Nat) : AC R := .cut (fsub Try.f12 [1, 1, 1, 0, 1, 0]) g1 (runL (X n) (A1 n) g1 n)
noncomputable def A2 (n : Nat) : AC R := (oc R (fsub Try.f12 [1, 1, 1, 1]))
noncomputable def B2 (n : Nat) : AC R := .cut (fsub Try.f12 [1, 1, 1, 1]) g2 (runR (X n) (A2 n) g2)
noncomputable def A0 (n : Nat) : AC R := (.seq (oc R (fsub Try.f12 [0])) (.seq (oc R (fsub Try.f12 [1, 0])) (.seq (oc R (fsub Try.f12 [1, 1, 0])) (.seq (.seq (oc R (fsub Try.f12 [1, 1, 1, 0, 0])) (.block 0 (B1 n))) (B2 n)))))
noncomputable def k1 (n : Nat) : KK R := (blockK 0 (seqK (fun s => acRun (X n) (B2 n) s (endK ia io)) (endK ia io)))
noncomputable def k2 (n : Nat) : KK R := (endK ia io)
noncomputable def S0 (n : Nat) (j1 : Dens g1 → Option R) (b : List (Int)) : Option R :=
  j1 (b, (⟨#[48, 49, 50, 51, 52, 53, 54, 55, 56, 57, 97, 98, 99, 100, 101, 102]⟩ : ByteArray), (⟨#[]⟩ : ByteArray), 0, ())
noncomputable def S1 (n : Nat) (j1 : Dens g1 → Option R) (j2 : Dens g2 → Option R) (b : List (Int)) (d : ByteArray) (out : ByteArray) (i : Int) : Option R :=
  if decide (i < ((b.length : Nat) : Int)) = true then
    if 0 ≤ i ∧ i < ((b.length : Nat) : Int) then
      if 0 ≤ i ∧ i < ((b.length : Nat) : Int) then
        if 0 ≤ (IntKind.u8.wrap ((IntKind.u8.wrap (Int.tdiv (List.getD b i.toNat 0) 16)) + (1 : Int))) ∧ (IntKind.u8.wrap ((IntKind.u8.wrap (Int.tdiv (List.getD b i.toNat 0) 16)) + (1 : Int))) ≤ (d.size : Int) then
          if 0 ≤ (IntKind.u8.wrap (Int.tdiv (List.getD b i.toNat 0) 16)) ∧ (IntKind.u8.wrap (Int.tdiv (List.getD b i.toNat 0) 16)) ≤ (IntKind.u8.wrap ((IntKind.u8.wrap (Int.tdiv (List.getD b i.toNat 0) 16)) + (1 : Int))) then
            if 0 ≤ i ∧ i < ((b.length : Nat) : Int) then
              if 0 ≤ i ∧ i < ((b.length : Nat) : Int) then
                if 0 ≤ (IntKind.u8.wrap ((Int.tmod (List.getD b i.toNat 0) 16) + (1 : Int))) ∧ (IntKind.u8.wrap ((Int.tmod (List.getD b i.toNat 0) 16) + (1 : Int))) ≤ (d.size : Int) then
                  if 0 ≤ (Int.tmod (List.getD b i.toNat 0) 16) ∧ (Int.tmod (List.getD b i.toNat 0) 16) ≤ (IntKind.u8.wrap ((Int.tmod (List.getD b i.toNat 0) 16) + (1 : Int))) then
                    if (d.extract ((IntKind.u8.wrap (Int.tdiv (List.getD b i.toNat 0) 16)).toNat) ((IntKind.u8.wrap ((IntKind.u8.wrap (Int.tdiv (List.getD b i.toNat 0) 16)) + (1 : Int))).toNat)).size + (d.extract ((Int.tmod (List.getD b i.toNat 0) 16).toNat) ((IntKind.u8.wrap ((Int.tmod (List.getD b i.toNat 0) 16) + (1 : Int))).toNat)).size ≤ 4611686018427387904 then
                      if out.size + ((d.extract ((IntKind.u8.wrap (Int.tdiv (List.getD b i.toNat 0) 16)).toNat) ((IntKind.u8.wrap ((IntKind.u8.wrap (Int.tdiv (List.getD b i.toNat 0) 16)) + (1 : Int))).toNat)) ++ (d.extract ((Int.tmod (List.getD b i.toNat 0) 16).toNat) ((IntKind.u8.wrap ((Int.tmod (List.getD b i.toNat 0) 16) + (1 : Int))).toNat))).size ≤ 4611686018427387904 then
                        j1 (b, d, (out ++ ((d.extract ((IntKind.u8.wrap (Int.tdiv (List.getD b i.toNat 0) 16)).toNat) ((IntKind.u8.wrap ((IntKind.u8.wrap (Int.tdiv (List.getD b i.toNat 0) 16)) + (1 : Int))).toNat)) ++ (d.extract ((Int.tmod (List.getD b i.toNat 0) 16).toNat) ((IntKind.u8.wrap ((Int.tmod (List.getD b i.toNat 0) 16) + (1 : Int))).toNat)))), (IntKind.i64.wrap (i + (1 : Int))), ())
                      else none
                    else none
                  else none
                else none
              else none
            else none
          else none
        else none
      else none
    else none
  else
    j2 (out, ())
noncomputable def S2 (n : Nat) (out : ByteArray) : Option R :=
  some (out, ())
theorem e0 (n : Nat) (v : DIn ia) : acRun (X n) (A0 n) (frameOf (X n).len (inSig 0 ia) v) (endK ia io) = S0 n (fun v => runL (X n) (A1 n) g1 n v (k1 n)) v.1 := by kernel_rfl
theorem e1 (n : Nat) (m1 : Nat) (v : Dens g1) : runL (X n) (A1 n) g1 (m1 + 1) v (k1 n) = S1 n (fun v => runL (X n) (A1 n) g1 m1 v (k1 n)) (fun v => runR (X n) (A2 n) g2 v (k2 n)) v.1 v.2.1 v.2.2.1 v.2.2.2.1 := by kernel_rfl
theorem e2 (n : Nat) (v : Dens g2) : runR (X n) (A2 n) g2 v (k2 n) = S2 n v.1 := by kernel_rfl
noncomputable def J2 (n : Nat) : Dens g2 → Option R := fun v => S2 n v.1
theorem h2 (n : Nat) : (fun v => runR (X n) (A2 n) g2 v (k2 n)) = J2 n :=
  funext fun v => (e2 n v).trans (by rfl)
noncomputable def J1 (n : Nat) : Nat → Dens g1 → Option R
  | 0, _ => none
  | m + 1, v => S1 n (J1 n m) (J2 n) v.1 v.2.1 v.2.2.1 v.2.2.2.1
theorem h1 (n : Nat) : ∀ m, (fun v => runL (X n) (A1 n) g1 m v (k1 n)) = J1 n m
  | 0 => rfl
  | m + 1 => funext fun v => (e1 n m v).trans (by rw [h2 n]; rw [h1 n m]; rfl)
noncomputable def f (n : Nat) (b : List (Int)) : Option R := S0 n (J1 n n) b
theorem link (n : Nat) (v : DIn ia) : acRun (X n) (A0 n) (frameOf (X n).len (inSig 0 ia) v) (endK ia io) = f n v.1 :=
  (e0 n v).trans (by rw [h1 n n]; rfl)
theorem phi (n : Nat) : ∀ e ∈ (X n).c.Φ, EntryOk Try.prog e := allE_nil
theorem o1 (n : Nat) : (A1 n).Ok Try.prog (X n) := (oc_ok _)
theorem b1 (n : Nat) : (B1 n).Ok Try.prog (X n) := runL_ok mixed tabIs (phi n) (o1 n) (by kernel_rfl) n
theorem o2 (n : Nat) : (A2 n).Ok Try.prog (X n) := (oc_ok _)
theorem b2 (n : Nat) : (B2 n).Ok Try.prog (X n) := runR_ok mixed tabIs (phi n) (o2 n) (by kernel_rfl)
theorem o0 (n : Nat) : (A0 n).Ok Try.prog (X n) := ⟨(oc_ok _), ⟨(oc_ok _), ⟨(oc_ok _), ⟨⟨(oc_ok _), (b1 n)⟩, (b2 n)⟩⟩⟩⟩
theorem ok (n : Nat) : FnOk Try.prog 12 ia io (fun v => f n v.1) :=
  fn_ok (x := X n) (A := A0 n) mixed tabIs (phi n) Try.func12 (by kernel_rfl) (by kernel_rfl) rfl (o0 n) (fun v u h => (link n v).trans h)
noncomputable def en (n : Nat) : Entry := mkEntry 12 ia io (fun v => f n v.1)
end f12
end Go.Proofs.Ytnlckhekcklcpaa


namespace Go.Proofs.Ytnlckhekcklcpaa
open Go Go.Va Go.Proofs
/- chartulary/chartularyref04.bits -/
namespace f24
abbrev ia : List Ai := [.dat (.slice (.int .u8))]
abbrev io : List (Nat × Oi) := [(2, .row (.int .i64))]
abbrev R : Type := DOut ia io
noncomputable def X (n : Nat) : Ctx := ⟨⟨tab, [], 0⟩, 30, bnOf 0 ia⟩
abbrev g1 : List Si := [.dat 0 (.slice (.int .u8)), .row 3 200003 (.int .i64), .dat 4 (.int .i64)]
abbrev g2 : List Si := [.dat 0 (.slice (.int .u8)), .row 3 200003 (.int .i64), .dat 4 (.int .i64), .dat 5 (.int .i64)]
abbrev g3 : List Si := [.dat 0 (.slice (.int .u8)), .row 3 200003 (.int .i64), .dat 4 (.int .i64)]
abbrev g4 : List Si := [.row 3 200003 (.int .i64)]
noncomputable def A2 (n : Nat) : AC R := (oc R (fsub Try.f24 [1, 1, 0, 1, 0, 0, 1, 0, 0, 1, 0, 0]))
noncomputable def B2 (n : Nat) : AC R := .cut (fsub Try.f24 [1, 1, 0, 1, 0, 0, 1, 0, 0, 1, 0]) g2 (runL (X n) (A2 n) g2 n)
noncomputable def A3 (n : Nat) : AC R := (oc R (fsub Try.f24 [1, 1, 0, 1, 0, 0, 1, 1]))
noncomputable def B3 (n : Nat) : AC R := .cut (fsub Try.f24 [1, 1, 0, 1, 0, 0, 1, 1]) g3 (runR (X n) (A3 n) g3)
noncomputable def A1 (n : Nat) : AC R := (.seq (oc R (fsub Try.f24 [1, 1, 0, 1, 0, 0, 0])) (.seq (.block 1 (.seq (oc R (fsub Try.f24 [1, 1, 0, 1, 0, 0, 1, 0, 0, 0])) (.block 2 (B2 n)))) (B3 n)))
noncomputable def B1 (n : Nat) : AC R := .cut (fsub Try.f24 [1, 1, 0, 1, 0]) g1 (runL (X n) (A1 n) g1 n)
noncomputable def A4 (n : Nat) : AC R := (oc R (fsub Try.f24 [1, 1, 1]))
noncomputable def B4 (n : Nat) : AC R := .cut (fsub Try.f24 [1, 1, 1]) g4 (runR (X n) (A4 n) g4)
noncomputable def A0 (n : Nat) : AC R := (.seq (oc R (fsub Try.f24 [0])) (.seq (oc R (fsub Try.f24 [1, 0])) (.seq (.seq (oc R (fsub Try.f24 [1, 1, 0, 0])) (.block 0 (B1 n))) (B4 n))))
noncomputable def k1 (n : Nat) : KK R := (blockK 0 (seqK (fun s => acRun (X n) (B4 n) s (endK ia io)) (endK ia io)))
noncomputable def k4 (n : Nat) : KK R := (endK ia io)
noncomputable def k2 (n : Nat) (m1 : Nat) : KK R := (blockK 2 (blockK 1 (seqK (fun s => acRun (X n) (B3 n) s (loopK (X n).bn g1 (fun v => runL (X n) (A1 n) g1 m1 v (k1 n)) (k1 n))) (loopK (X n).bn g1 (fun v => runL (X n) (A1 n) g1 m1 v (k1 n)) (k1 n)))))
noncomputable def k3 (n : Nat) (m1 : Nat) : KK R := (loopK (X n).bn g1 (fun v => runL (X n) (A1 n) g1 m1 v (k1 n)) (k1 n))
noncomputable def S0 (n : Nat) (j1 : Dens g1 → Option R) (b : List (Int)) : Option R :=
  j1 (b, [], 0, ())
noncomputable def S1 (n : Nat) (j2 : Dens g2 → Option R) (j4 : Dens g4 → Option R) (b : List (Int)) (out : List (Int)) (i : Int) : Option R :=
  if decide (i < ((b.length : Nat) : Int)) = true then
    j2 (b, out, i, 7, ())
  else
    j4 (out, ())
noncomputable def S2 (n : Nat) (j2 : Dens g2 → Option R) (j3 : Dens g3 → Option R) (b : List (Int)) (out : List (Int)) (i : Int) (k_ : Int) : Option R :=
  if decide (k_ ≥ (0 : Int)) = true then
    if 0 ≤ i ∧ i < ((b.length : Nat) : Int) then
      if (IntKind.u64.wrap k_) < 0 then none else
      if (out.length + 1) * 8 ≤ 70368744177664 then
        j2 (b, (out ++ [(Int.tmod (IntKind.i64.wrap (shrI .u8 (List.getD b i.toNat 0) (IntKind.u64.wrap k_))) 2)]), i, (IntKind.i64.wrap (k_ - (1 : Int))), ())
      else none
    else none
  else
    j3 (b, out, i, ())
noncomputable def S3 (n : Nat) (j1 : Dens g1 → Option R) (b : List (Int)) (out : List (Int)) (i : Int) : Option R :=
  j1 (b, out, (IntKind.i64.wrap (i + (1 : Int))), ())
noncomputable def S4 (n : Nat) (out : List (Int)) : Option R :=
  some (out, ())
theorem e0 (n : Nat) (v : DIn ia) : acRun (X n) (A0 n) (frameOf (X n).len (inSig 0 ia) v) (endK ia io) = S0 n (fun v => runL (X n) (A1 n) g1 n v (k1 n)) v.1 := by kernel_rfl
theorem e1 (n : Nat) (m1 : Nat) (v : Dens g1) : runL (X n) (A1 n) g1 (m1 + 1) v (k1 n) = S1 n (fun v => runL (X n) (A2 n) g2 n v (k2 n m1)) (fun v => runR (X n) (A4 n) g4 v (k4 n)) v.1 v.2.1 v.2.2.1 := by kernel_rfl
theorem e2 (n : Nat) (m1 : Nat) (m2 : Nat) (v : Dens g2) : runL (X n) (A2 n) g2 (m2 + 1) v (k2 n m1) = S2 n (fun v => runL (X n) (A2 n) g2 m2 v (k2 n m1)) (fun v => runR (X n) (A3 n) g3 v (k3 n m1)) v.1 v.2.1 v.2.2.1 v.2.2.2.1 := by kernel_rfl
theorem e3 (n : Nat) (m1 : Nat) (v : Dens g3) : runR (X n) (A3 n) g3 v (k3 n m1) = S3 n (fun v => runL (X n) (A1 n) g1 m1 v (k1 n)) v.1 v.2.1 v.2.2.1 := by kernel_rfl
theorem e4 (n : Nat) (v : Dens g4) : runR (X n) (A4 n) g4 v (k4 n) = S4 n v.1 := by kernel_rfl
noncomputable def J3 (n : Nat) (r1 : Dens g1 → Option R) : Dens g3 → Option R := fun v => S3 n r1 v.1 v.2.1 v.2.2.1
theorem h3 (n : Nat) (m1 : Nat) : (fun v => runR (X n) (A3 n) g3 v (k3 n m1)) = J3 n (fun v => runL (X n) (A1 n) g1 m1 v (k1 n)) :=
  funext fun v => (e3 n m1 v).trans (by rfl)
noncomputable def J2 (n : Nat) (r1 : Dens g1 → Option R) : Nat → Dens g2 → Option R
  | 0, _ => none
  | m + 1, v => S2 n (J2 n r1 m) (J3 n r1) v.1 v.2.1 v.2.2.1 v.2.2.2.1
theorem h2 (n : Nat) (m1 : Nat) : ∀ m, (fun v => runL (X n) (A2 n) g2 m v (k2 n m1)) = J2 n (fun v => runL (X n) (A1 n) g1 m1 v (k1 n)) m
  | 0 => rfl
  | m + 1 => funext fun v => (e2 n m1 m v).trans (by rw [h3 n m1]; rw [h2 n m1 m]; rfl)
noncomputable def J4 (n : Nat) : Dens g4 → Option R := fun v => S4 n v.1
theorem h4 (n : Nat) : (fun v => runR (X n) (A4 n) g4 v (k4 n)) = J4 n :=
  funext fun v => (e4 n v).trans (by rfl)
noncomputable def J1 (n : Nat) : Nat → Dens g1 → Option R
  | 0, _ => none
  | m + 1, v => S1 n (J2 n (J1 n m) n) (J4 n) v.1 v.2.1 v.2.2.1
theorem h1 (n : Nat) : ∀ m, (fun v => runL (X n) (A1 n) g1 m v (k1 n)) = J1 n m
  | 0 => rfl
  | m + 1 => funext fun v => (e1 n m v).trans (by rw [h2 n m n, h4 n]; rw [h1 n m]; rfl)
noncomputable def f (n : Nat) (b : List (Int)) : Option R := S0 n (J1 n n) b
theorem link (n : Nat) (v : DIn ia) : acRun (X n) (A0 n) (frameOf (X n).len (inSig 0 ia) v) (endK ia io) = f n v.1 :=
  (e0 n v).trans (by rw [h1 n n]; rfl)
theorem phi (n : Nat) : ∀ e ∈ (X n).c.Φ, EntryOk Try.prog e := allE_nil
theorem o2 (n : Nat) : (A2 n).Ok Try.prog (X n) := (oc_ok _)
theorem b2 (n : Nat) : (B2 n).Ok Try.prog (X n) := runL_ok mixed tabIs (phi n) (o2 n) (by kernel_rfl) n
theorem o3 (n : Nat) : (A3 n).Ok Try.prog (X n) := (oc_ok _)
theorem b3 (n : Nat) : (B3 n).Ok Try.prog (X n) := runR_ok mixed tabIs (phi n) (o3 n) (by kernel_rfl)
theorem o1 (n : Nat) : (A1 n).Ok Try.prog (X n) := ⟨(oc_ok _), ⟨⟨(oc_ok _), (b2 n)⟩, (b3 n)⟩⟩
theorem b1 (n : Nat) : (B1 n).Ok Try.prog (X n) := runL_ok mixed tabIs (phi n) (o1 n) (by kernel_rfl) n
theorem o4 (n : Nat) : (A4 n).Ok Try.prog (X n) := (oc_ok _)
theorem b4 (n : Nat) : (B4 n).Ok Try.prog (X n) := runR_ok mixed tabIs (phi n) (o4 n) (by kernel_rfl)
theorem o0 (n : Nat) : (A0 n).Ok Try.prog (X n) := ⟨(oc_ok _), ⟨(oc_ok _), ⟨⟨(oc_ok _), (b1 n)⟩, (b4 n)⟩⟩⟩
theorem ok (n : Nat) : FnOk Try.prog 24 ia io (fun v => f n v.1) :=
  fn_ok (x := X n) (A := A0 n) mixed tabIs (phi n) Try.func24 (by kernel_rfl) (by kernel_rfl) rfl (o0 n) (fun v u h => (link n v).trans h)
noncomputable def en (n : Nat) : Entry := mkEntry 24 ia io (fun v => f n v.1)
end f24
end Go.Proofs.Ytnlckhekcklcpaa


namespace Go.Proofs.Ytnlckhekcklcpaa
open Go Go.Va Go.Proofs
/- chartulary/chartularyref04.Base -/
namespace f21
abbrev ia : List Ai := [.dat (.slice (.int .u8))]
abbrev io : List (Nat × Oi) := [(2, .dat .str)]
abbrev R : Type := DOut ia io
noncomputable def X (n : Nat) : Ctx := ⟨⟨tab, [f24.en n], 0⟩, 61, bnOf 0 ia⟩
abbrev g1 : List Si := [.row 3 200003 (.int .i64)]
abbrev g2 : List Si := [.row 3 200003 (.int .i64)]
abbrev g3 : List Si := [.row 3 200003 (.int .i64), .dat 4 .str, .dat 5 (.int .i64)]
abbrev g4 : List Si := [.dat 4 .str]
noncomputable def A3 (n : Nat) : AC R := (oc R (fsub Try.f21 [1, 1, 1, 1, 0, 1, 0, 0]))
noncomputable def B3 (n : Nat) : AC R := .cut (fsub Try.f21 [1, 1, 1, 1, 0, 1, 0]) g3 (runL (X n) (A3 n) g3 n)
noncomputable def A4 (n : Nat) : AC R := (oc R (fsub Try.f21 [1, 1, 1, 1, 1]))
noncomputable def B4 (n : Nat) : AC R := .cut (fsub Try.f21 [1, 1, 1, 1, 1]) g4 (runR (X n) (A4 n) g4)
noncomputable def A1 (n : Nat) : AC R := (oc R (fsub Try.f21 [1, 1, 0, 0, 0]))
noncomputable def B1 (n : Nat) : AC R := .cut (fsub Try.f21 [1, 1, 0, 0]) g1 (runL (X n) (A1 n) g1 n)
noncomputable def A2 (n : Nat) : AC R := (.seq (oc R (fsub Try.f21 [1, 1, 1, 0])) (.seq (.seq (oc R (fsub Try.f21 [1, 1, 1, 1, 0, 0])) (.block 2 (B3 n))) (B4 n)))
noncomputable def B2 (n : Nat) : AC R := .cut (fsub Try.f21 [1, 1, 1]) g2 (runR (X n) (A2 n) g2)
noncomputable def A0 (n : Nat) : AC R := (.seq (oc R (fsub Try.f21 [0])) (.seq (oc R (fsub Try.f21 [1, 0])) (.seq (.block 0 (B1 n)) (B2 n))))
noncomputable def k1 (n : Nat) : KK R := (blockK 0 (seqK (fun s => acRun (X n) (B2 n) s (endK ia io)) (endK ia io)))
noncomputable def k2 (n : Nat) : KK R := (endK ia io)
noncomputable def k3 (n : Nat) : KK R := (blockK 2 (seqK (fun s => acRun (X n) (B4 n) s (k2 n)) (k2 n)))
noncomputable def k4 (n : Nat) : KK R := (k2 n)
noncomputable def S0 (n : Nat) (j1 : Dens g1 → Option R) (b : List (Int)) : Option R :=
  bnd (f24.f n b) fun u1 =>
  j1 (u1.1, ())
noncomputable def S1 (n : Nat) (j1 : Dens g1 → Option R) (j2 : Dens g2 → Option R) (l : List (Int)) : Option R :=
  if ((Int.tmod ((l.length : Nat) : Int) 5) != (0 : Int)) = true then
    if (l.length + 1) * 8 ≤ 70368744177664 then
      j1 ((l ++ [0]), ())
    else none
  else
    j2 (l, ())
noncomputable def S2 (n : Nat) (j3 : Dens g3 → Option R) (l : List (Int)) : Option R :=
  j3 (l, (⟨#[]⟩ : ByteArray), 0, ())
noncomputable def S3 (n : Nat) (j3 : Dens g3 → Option R) (j4 : Dens g4 → Option R) (l : List (Int)) (out : ByteArray) (i : Int) : Option R :=
  if decide (i < ((l.length : Nat) : Int)) = true then
    if 0 ≤ i ∧ i < ((l.length : Nat) : Int) then
      if 0 ≤ (IntKind.i64.wrap (i + (1 : Int))) ∧ (IntKind.i64.wrap (i + (1 : Int))) < ((l.length : Nat) : Int) then
        if 0 ≤ (IntKind.i64.wrap (i + (2 : Int))) ∧ (IntKind.i64.wrap (i + (2 : Int))) < ((l.length : Nat) : Int) then
          if 0 ≤ (IntKind.i64.wrap (i + (3 : Int))) ∧ (IntKind.i64.wrap (i + (3 : Int))) < ((l.length : Nat) : Int) then
            if 0 ≤ (IntKind.i64.wrap (i + (4 : Int))) ∧ (IntKind.i64.wrap (i + (4 : Int))) < ((l.length : Nat) : Int) then
              if 0 ≤ (IntKind.i64.wrap ((IntKind.i64.wrap ((IntKind.i64.wrap ((IntKind.i64.wrap ((IntKind.i64.wrap ((IntKind.i64.wrap ((16 : Int) * (List.getD l (0 + i.toNat) 0))) + (IntKind.i64.wrap ((8 : Int) * (List.getD l (0 + ((IntKind.i64.wrap (i + (1 : Int))).toNat)) 0))))) + (IntKind.i64.wrap ((4 : Int) * (List.getD l (0 + ((IntKind.i64.wrap (i + (2 : Int))).toNat)) 0))))) + (IntKind.i64.wrap ((2 : Int) * (List.getD l (0 + ((IntKind.i64.wrap (i + (3 : Int))).toNat)) 0))))) + (List.getD l (0 + ((IntKind.i64.wrap (i + (4 : Int))).toNat)) 0))) + (1 : Int))) ∧ (IntKind.i64.wrap ((IntKind.i64.wrap ((IntKind.i64.wrap ((IntKind.i64.wrap ((IntKind.i64.wrap ((IntKind.i64.wrap ((16 : Int) * (List.getD l (0 + i.toNat) 0))) + (IntKind.i64.wrap ((8 : Int) * (List.getD l (0 + ((IntKind.i64.wrap (i + (1 : Int))).toNat)) 0))))) + (IntKind.i64.wrap ((4 : Int) * (List.getD l (0 + ((IntKind.i64.wrap (i + (2 : Int))).toNat)) 0))))) + (IntKind.i64.wrap ((2 : Int) * (List.getD l (0 + ((IntKind.i64.wrap (i + (3 : Int))).toNat)) 0))))) + (List.getD l (0 + ((IntKind.i64.wrap (i + (4 : Int))).toNat)) 0))) + (1 : Int))) ≤ ((⟨#[97, 98, 99, 100, 101, 102, 103, 104, 105, 106, 107, 108, 109, 110, 111, 112, 113, 114, 115, 116, 117, 118, 119, 120, 121, 122, 50, 51, 52, 53, 54, 55]⟩ : ByteArray).size : Int) then
                if 0 ≤ (IntKind.i64.wrap ((IntKind.i64.wrap ((IntKind.i64.wrap ((IntKind.i64.wrap ((IntKind.i64.wrap ((16 : Int) * (List.getD l (0 + i.toNat) 0))) + (IntKind.i64.wrap ((8 : Int) * (List.getD l (0 + ((IntKind.i64.wrap (i + (1 : Int))).toNat)) 0))))) + (IntKind.i64.wrap ((4 : Int) * (List.getD l (0 + ((IntKind.i64.wrap (i + (2 : Int))).toNat)) 0))))) + (IntKind.i64.wrap ((2 : Int) * (List.getD l (0 + ((IntKind.i64.wrap (i + (3 : Int))).toNat)) 0))))) + (List.getD l (0 + ((IntKind.i64.wrap (i + (4 : Int))).toNat)) 0))) ∧ (IntKind.i64.wrap ((IntKind.i64.wrap ((IntKind.i64.wrap ((IntKind.i64.wrap ((IntKind.i64.wrap ((16 : Int) * (List.getD l (0 + i.toNat) 0))) + (IntKind.i64.wrap ((8 : Int) * (List.getD l (0 + ((IntKind.i64.wrap (i + (1 : Int))).toNat)) 0))))) + (IntKind.i64.wrap ((4 : Int) * (List.getD l (0 + ((IntKind.i64.wrap (i + (2 : Int))).toNat)) 0))))) + (IntKind.i64.wrap ((2 : Int) * (List.getD l (0 + ((IntKind.i64.wrap (i + (3 : Int))).toNat)) 0))))) + (List.getD l (0 + ((IntKind.i64.wrap (i + (4 : Int))).toNat)) 0))) ≤ (IntKind.i64.wrap ((IntKind.i64.wrap ((IntKind.i64.wrap ((IntKind.i64.wrap ((IntKind.i64.wrap ((IntKind.i64.wrap ((16 : Int) * (List.getD l (0 + i.toNat) 0))) + (IntKind.i64.wrap ((8 : Int) * (List.getD l (0 + ((IntKind.i64.wrap (i + (1 : Int))).toNat)) 0))))) + (IntKind.i64.wrap ((4 : Int) * (List.getD l (0 + ((IntKind.i64.wrap (i + (2 : Int))).toNat)) 0))))) + (IntKind.i64.wrap ((2 : Int) * (List.getD l (0 + ((IntKind.i64.wrap (i + (3 : Int))).toNat)) 0))))) + (List.getD l (0 + ((IntKind.i64.wrap (i + (4 : Int))).toNat)) 0))) + (1 : Int))) then
                  if out.size + ((⟨#[97, 98, 99, 100, 101, 102, 103, 104, 105, 106, 107, 108, 109, 110, 111, 112, 113, 114, 115, 116, 117, 118, 119, 120, 121, 122, 50, 51, 52, 53, 54, 55]⟩ : ByteArray).extract ((IntKind.i64.wrap ((IntKind.i64.wrap ((IntKind.i64.wrap ((IntKind.i64.wrap ((IntKind.i64.wrap ((16 : Int) * (List.getD l (0 + i.toNat) 0))) + (IntKind.i64.wrap ((8 : Int) * (List.getD l (0 + ((IntKind.i64.wrap (i + (1 : Int))).toNat)) 0))))) + (IntKind.i64.wrap ((4 : Int) * (List.getD l (0 + ((IntKind.i64.wrap (i + (2 : Int))).toNat)) 0))))) + (IntKind.i64.wrap ((2 : Int) * (List.getD l (0 + ((IntKind.i64.wrap (i + (3 : Int))).toNat)) 0))))) + (List.getD l (0 + ((IntKind.i64.wrap (i + (4 : Int))).toNat)) 0))).toNat) ((IntKind.i64.wrap ((IntKind.i64.wrap ((IntKind.i64.wrap ((IntKind.i64.wrap ((IntKind.i64.wrap ((IntKind.i64.wrap ((16 : Int) * (List.getD l (0 + i.toNat) 0))) + (IntKind.i64.wrap ((8 : Int) * (List.getD l (0 + ((IntKind.i64.wrap (i + (1 : Int))).toNat)) 0))))) + (IntKind.i64.wrap ((4 : Int) * (List.getD l (0 + ((IntKind.i64.wrap (i + (2 : Int))).toNat)) 0))))) + (IntKind.i64.wrap ((2 : Int) * (List.getD l (0 + ((IntKind.i64.wrap (i + (3 : Int))).toNat)) 0))))) + (List.getD l (0 + ((IntKind.i64.wrap (i + (4 : Int))).toNat)) 0))) + (1 : Int))).toNat)).size ≤ 4611686018427387904 then
                    j3 (l, (out ++ ((⟨#[97, 98, 99, 100, 101, 102, 103, 104, 105, 106, 107, 108, 109, 110, 111, 112, 113, 114, 115, 116, 117, 118, 119, 120, 121, 122, 50, 51, 52, 53, 54, 55]⟩ : ByteArray).extract ((IntKind.i64.wrap ((IntKind.i64.wrap ((IntKind.i64.wrap ((IntKind.i64.wrap ((IntKind.i64.wrap ((16 : Int) * (List.getD l (0 + i.toNat) 0))) + (IntKind.i64.wrap ((8 : Int) * (List.getD l (0 + ((IntKind.i64.wrap (i + (1 : Int))).toNat)) 0))))) + (IntKind.i64.wrap ((4 : Int) * (List.getD l (0 + ((IntKind.i64.wrap (i + (2 : Int))).toNat)) 0))))) + (IntKind.i64.wrap ((2 : Int) * (List.getD l (0 + ((IntKind.i64.wrap (i + (3 : Int))).toNat)) 0))))) + (List.getD l (0 + ((IntKind.i64.wrap (i + (4 : Int))).toNat)) 0))).toNat) ((IntKind.i64.wrap ((IntKind.i64.wrap ((IntKind.i64.wrap ((IntKind.i64.wrap ((IntKind.i64.wrap ((IntKind.i64.wrap ((16 : Int) * (List.getD l (0 + i.toNat) 0))) + (IntKind.i64.wrap ((8 : Int) * (List.getD l (0 + ((IntKind.i64.wrap (i + (1 : Int))).toNat)) 0))))) + (IntKind.i64.wrap ((4 : Int) * (List.getD l (0 + ((IntKind.i64.wrap (i + (2 : Int))).toNat)) 0))))) + (IntKind.i64.wrap ((2 : Int) * (List.getD l (0 + ((IntKind.i64.wrap (i + (3 : Int))).toNat)) 0))))) + (List.getD l (0 + ((IntKind.i64.wrap (i + (4 : Int))).toNat)) 0))) + (1 : Int))).toNat))), (IntKind.i64.wrap (i + (5 : Int))), ())
                  else none
                else none
              else none
            else none
          else none
        else none
      else none
    else none
  else
    j4 (out, ())
noncomputable def S4 (n : Nat) (out : ByteArray) : Option R :=
  some (out, ())
theorem e0 (n : Nat) (v : DIn ia) : acRun (X n) (A0 n) (frameOf (X n).len (inSig 0 ia) v) (endK ia io) = S0 n (fun v => runL (X n) (A1 n) g1 n v (k1 n)) v.1 := by kernel_rfl
theorem e1 (n : Nat) (m1 : Nat) (v : Dens g1) : runL (X n) (A1 n) g1 (m1 + 1) v (k1 n) = S1 n (fun v => runL (X n) (A1 n) g1 m1 v (k1 n)) (fun v => runR (X n) (A2 n) g2 v (k2 n)) v.1 := by kernel_rfl
theorem e2 (n : Nat) (v : Dens g2) : runR (X n) (A2 n) g2 v (k2 n) = S2 n (fun v => runL (X n) (A3 n) g3 n v (k3 n)) v.1 := by kernel_rfl
theorem e3 (n : Nat) (m3 : Nat) (v : Dens g3) : runL (X n) (A3 n) g3 (m3 + 1) v (k3 n) = S3 n (fun v => runL (X n) (A3 n) g3 m3 v (k3 n)) (fun v => runR (X n) (A4 n) g4 v (k4 n)) v.1 v.2.1 v.2.2.1 := by kernel_rfl
theorem e4 (n : Nat) (v : Dens g4) : runR (X n) (A4 n) g4 v (k4 n) = S4 n v.1 := by kernel_rfl
noncomputable def J4 (n : Nat) : Dens g4 → Option R := fun v => S4 n v.1
theorem h4 (n : Nat) : (fun v => runR (X n) (A4 n) g4 v (k4 n)) = J4 n :=
  funext fun v => (e4 n v).trans (by rfl)
noncomputable def J3 (n : Nat) : Nat → Dens g3 → Option R
  | 0, _ => none
  | m + 1, v => S3 n (J3 n m) (J4 n) v.1 v.2.1 v.2.2.1
theorem h3 (n : Nat) : ∀ m, (fun v => runL (X n) (A3 n) g3 m v (k3 n)) = J3 n m
  | 0 => rfl
  | m + 1 => funext fun v => (e3 n m v).trans (by rw [h4 n]; rw [h3 n m]; rfl)
noncomputable def J2 (n : Nat) : Dens g2 → Option R := fun v => S2 n (J3 n n) v.1
theorem h2 (n : Nat) : (fun v => runR (X n) (A2 n) g2 v (k2 n)) = J2 n :=
  funext fun v => (e2 n v).trans (by rw [h3 n n]; rfl)
noncomputable def J1 (n : Nat) : Nat → Dens g1 → Option R
  | 0, _ => none
  | m + 1, v => S1 n (J1 n m) (J2 n) v.1
theorem h1 (n : Nat) : ∀ m, (fun v => runL (X n) (A1 n) g1 m v (k1 n)) = J1 n m
  | 0 => rfl
  | m + 1 => funext fun v => (e1 n m v).trans (by rw [h2 n]; rw [h1 n m]; rfl)
noncomputable def f (n : Nat) (b : List (Int)) : Option R := S0 n (J1 n n) b
theorem link (n : Nat) (v : DIn ia) : acRun (X n) (A0 n) (frameOf (X n).len (inSig 0 ia) v) (endK ia io) = f n v.1 :=
  (e0 n v).trans (by rw [h1 n n]; rfl)
theorem phi (n : Nat) : ∀ e ∈ (X n).c.Φ, EntryOk Try.prog e := allE_cons (mkEntry_ok (f24.ok n)) (allE_nil)
theorem o3 (n : Nat) : (A3 n).Ok Try.prog (X n) := (oc_ok _)
theorem b3 (n : Nat) : (B3 n).Ok Try.prog (X n) := runL_ok mixed tabIs (phi n) (o3 n) (by kernel_rfl) n
theorem o4 (n : Nat) : (A4 n).Ok Try.prog (X n) := (oc_ok _)
theorem b4 (n : Nat) : (B4 n).Ok Try.prog (X n) := runR_ok mixed tabIs (phi n) (o4 n) (by kernel_rfl)
theorem o1 (n : Nat) : (A1 n).Ok Try.prog (X n) := (oc_ok _)
theorem b1 (n : Nat) : (B1 n).Ok Try.prog (X n) := runL_ok mixed tabIs (phi n) (o1 n) (by kernel_rfl) n
theorem o2 (n : Nat) : (A2 n).Ok Try.prog (X n) := ⟨(oc_ok _), ⟨⟨(oc_ok _), (b3 n)⟩, (b4 n)⟩⟩
theorem b2 (n : Nat) : (B2 n).Ok Try.prog (X n) := runR_ok mixed tabIs (phi n) (o2 n) (by kernel_rfl)
theorem o0 (n : Nat) : (A0 n).Ok Try.prog (X n) := ⟨(oc_ok _), ⟨(oc_ok _), ⟨(b1 n), (b2 n)⟩⟩⟩
theorem ok (n : Nat) : FnOk Try.prog 21 ia io (fun v => f n v.1) :=
  fn_ok (x := X n) (A := A0 n) mixed tabIs (phi n) Try.func21 (by kernel_rfl) (by kernel_rfl) rfl (o0 n) (fun v u h => (link n v).trans h)
noncomputable def en (n : Nat) : Entry := mkEntry 21 ia io (fun v => f n v.1)
end f21
end Go.Proofs.Ytnlckhekcklcpaa


namespace Go.Proofs.Ytnlckhekcklcpaa
open Go Go.Va Go.Proofs
/- chartulary/alpha.Unbase -/
namespace f18
abbrev ia : List Ai := [.dat .str]
abbrev io : List (Nat × Oi) := [(2, .row (.int .u8)), (3, .dat (.int .i64))]
abbrev R : Type := DOut ia io
noncomputable def X (n : Nat) : Ctx := ⟨⟨tab, [f22.en], 0⟩, 51, bnOf 0 ia⟩
abbrev g1 : List Si := [.dat 0 .str, .row 4 200004 (.int .u8), .dat 5 (.int .u32), .dat 6 (.int .u64), .dat 10 (.int .i64), .dat 11 (.int .i64)]
abbrev g2 : List Si := [.row 4 200004 (.int .u8), .dat 5 (.int .u32), .dat 6 (.int .u64)]
abbrev g3 : List Si := [.row 4 200004 (.int .u8)]
noncomputable def A1 (n : Nat) : AC R := (oc R (fsub Try.f18 [1, 1, 1, 1, 0, 1, 0, 0]))
noncomputable def B1 (n : Nat) : AC R := .cut (fsub Try.f18 [1, 1, 1, 1, 0, 1, 0]) g1 (runL (X n) (A1 n) g1 n)
noncomputable def A3 (n : Nat) : AC R := (oc R (fsub Try.f18 [1, 1, 1, 1, 1, 1]))
noncomputable def B3 (n : Nat) : AC R := .cut (fsub Try.f18 [1, 1, 1, 1, 1, 1]) g3 (runR (X n) (A3 n) g3)
noncomputable def A2 (n : Nat) : AC R := (.seq (oc R (fsub Try.f18 [1, 1, 1, 1, 1, 0])) (B3 n))
noncomputable def B2 (n : Nat) : AC R := .cut (fsub Try.f18 [1, 1, 1, 1, 1]) g2 (runR (X n) (A2 n) g2)
noncomputable def A0 (n : Nat) : AC R := (.seq (oc R (fsub Try.f18 [0])) (.seq (oc R (fsub Try.f18 [1, 0])) (.seq (oc R (fsub Try.f18 [1, 1, 0])) (.seq (oc R (fsub Try.f18 [1, 1, 1, 0])) (.seq (.seq (oc R (fsub Try.f18 [1, 1, 1, 1, 0, 0])) (.block 0 (B1 n))) (B2 n))))))
noncomputable def k1 (n : Nat) : KK R := (blockK 0 (seqK (fun s => acRun (X n) (B2 n) s (endK ia io)) (endK ia io)))
noncomputable def k2 (n : Nat) : KK R := (endK ia io)
noncomputable def k3 (n : Nat) : KK R := (k2 n)
noncomputable def S0 (n : Nat) (j1 : Dens g1 → Option R) (s_ : ByteArray) : Option R :=
  j1 (s_, [], 0, 0, (s_.size : Int), 0, ())
noncomputable def S1 (n : Nat) (j1 : Dens g1 → Option R) (j2 : Dens g2 → Option R) (s_ : ByteArray) (out : List (Int)) (held : Int) (width : Int) (t10 : Int) (t11 : Int) : Option R :=
  if decide (t11 < t10) = true then
    if 0 ≤ t11 ∧ t11 < (s_.size : Int) then
      bnd (f22.f (⟨#[97, 98, 99, 100, 101, 102, 103, 104, 105, 106, 107, 108, 109, 110, 111, 112, 113, 114, 115, 116, 117, 118, 119, 120, 121, 122, 50, 51, 52, 53, 54, 55]⟩ : ByteArray) (bt s_ t11)) fun u1 =>
      if decide (u1.1 < (0 : Int)) = true then
        some ([], 5, ())
      else
        if decide ((IntKind.u64.wrap (width + (5 : Int))) ≥ (8 : Int)) = true then
          if (IntKind.u64.wrap ((IntKind.u64.wrap (width + (5 : Int))) - (8 : Int))) < 0 then none else
          if (out.length + 1) * 1 ≤ 70368744177664 then
            j1 (s_, (out ++ [(IntKind.u8.wrap (shrI .u32 (bitI .or .u32 (shlI .u32 held 5) (IntKind.u32.wrap u1.1)) (IntKind.u64.wrap ((IntKind.u64.wrap (width + (5 : Int))) - (8 : Int)))))]), (bitI .or .u32 (shlI .u32 held 5) (IntKind.u32.wrap u1.1)), (IntKind.u64.wrap ((IntKind.u64.wrap (width + (5 : Int))) - (8 : Int))), t10, (IntKind.i64.wrap (t11 + (1 : Int))), ())
          else none
        else
          j1 (s_, out, (bitI .or .u32 (shlI .u32 held 5) (IntKind.u32.wrap u1.1)), (IntKind.u64.wrap (width + (5 : Int))), t10, (IntKind.i64.wrap (t11 + (1 : Int))), ())
    else none
  else
    j2 (out, held, width, ())
noncomputable def S2 (n : Nat) (j3 : Dens g3 → Option R) (out : List (Int)) (held : Int) (width : Int) : Option R :=
  if decide (width ≥ (5 : Int)) = true then
    some ([], 5, ())
  else
    if width < 0 then none else
    if ((bitI .and .u32 held (IntKind.u32.wrap ((shlI .u32 1 width) - (1 : Int)))) != (0 : Int)) = true then
      some ([], 5, ())
    else
      j3 (out, ())
noncomputable def S3 (n : Nat) (out : List (Int)) : Option R :=
  some (out, 0, ())
theorem e0 (n : Nat) (v : DIn ia) : acRun (X n) (A0 n) (frameOf (X n).len (inSig 0 ia) v) (endK ia io) = S0 n (fun v => runL (X n) (A1 n) g1 n v (k1 n)) v.1 := by kernel_rfl
theorem e1 (n : Nat) (m1 : Nat) (v : Dens g1) : runL (X n) (A1 n) g1 (m1 + 1) v (k1 n) = S1 n (fun v => runL (X n) (A1 n) g1 m1 v (k1 n)) (fun v => runR (X n) (A2 n) g2 v (k2 n)) v.1 v.2.1 v.2.2.1 v.2.2.2.1 v.2.2.2.2.1 v.2.2.2.2.2.1 := by kernel_rfl
theorem e2 (n : Nat) (v : Dens g2) : runR (X n) (A2 n) g2 v (k2 n) = S2 n (fun v => runR (X n) (A3 n) g3 v (k3 n)) v.1 v.2.1 v.2.2.1 := by kernel_rfl
theorem e3 (n : Nat) (v : Dens g3) : runR (X n) (A3 n) g3 v (k3 n) = S3 n v.1 := by kernel_rfl
noncomputable def J3 (n : Nat) : Dens g3 → Option R := fun v => S3 n v.1
theorem h3 (n : Nat) : (fun v => runR (X n) (A3 n) g3 v (k3 n)) = J3 n :=
  funext fun v => (e3 n v).trans (by rfl)
noncomputable def J2 (n : Nat) : Dens g2 → Option R := fun v => S2 n (J3 n) v.1 v.2.1 v.2.2.1
theorem h2 (n : Nat) : (fun v => runR (X n) (A2 n) g2 v (k2 n)) = J2 n :=
  funext fun v => (e2 n v).trans (by rw [h3 n]; rfl)
noncomputable def J1 (n : Nat) : Nat → Dens g1 → Option R
  | 0, _ => none
  | m + 1, v => S1 n (J1 n m) (J2 n) v.1 v.2.1 v.2.2.1 v.2.2.2.1 v.2.2.2.2.1 v.2.2.2.2.2.1
theorem h1 (n : Nat) : ∀ m, (fun v => runL (X n) (A1 n) g1 m v (k1 n)) = J1 n m
  | 0 => rfl
  | m + 1 => funext fun v => (e1 n m v).trans (by rw [h2 n]; rw [h1 n m]; rfl)
noncomputable def f (n : Nat) (s_ : ByteArray) : Option R := S0 n (J1 n n) s_
theorem link (n : Nat) (v : DIn ia) : acRun (X n) (A0 n) (frameOf (X n).len (inSig 0 ia) v) (endK ia io) = f n v.1 :=
  (e0 n v).trans (by rw [h1 n n]; rfl)
theorem phi (n : Nat) : ∀ e ∈ (X n).c.Φ, EntryOk Try.prog e := allE_cons (mkEntry_ok (f22.ok)) (allE_nil)
theorem o1 (n : Nat) : (A1 n).Ok Try.prog (X n) := (oc_ok _)
theorem b1 (n : Nat) : (B1 n).Ok Try.prog (X n) := runL_ok mixed tabIs (phi n) (o1 n) (by kernel_rfl) n
theorem o3 (n : Nat) : (A3 n).Ok Try.prog (X n) := (oc_ok _)
theorem b3 (n : Nat) : (B3 n).Ok Try.prog (X n) := runR_ok mixed tabIs (phi n) (o3 n) (by kernel_rfl)
theorem o2 (n : Nat) : (A2 n).Ok Try.prog (X n) := ⟨(oc_ok _), (b3 n)⟩
theorem b2 (n : Nat) : (B2 n).Ok Try.prog (X n) := runR_ok mixed tabIs (phi n) (o2 n) (by kernel_rfl)
theorem o0 (n : Nat) : (A0 n).Ok Try.prog (X n) := ⟨(oc_ok _), ⟨(oc_ok _), ⟨(oc_ok _), ⟨(oc_ok _), ⟨⟨(oc_ok _), (b1 n)⟩, (b2 n)⟩⟩⟩⟩⟩
theorem ok (n : Nat) : FnOk Try.prog 18 ia io (fun v => f n v.1) :=
  fn_ok (x := X n) (A := A0 n) mixed tabIs (phi n) Try.func18 (by kernel_rfl) (by kernel_rfl) rfl (o0 n) (fun v u h => (link n v).trans h)
noncomputable def en (n : Nat) : Entry := mkEntry 18 ia io (fun v => f n v.1)
end f18
end Go.Proofs.Ytnlckhekcklcpaa


namespace Go.Proofs.Ytnlckhekcklcpaa
open Go Go.Va Go.Proofs
/- chartulary/chartularyref04.Unbase -/
namespace f19
abbrev ia : List Ai := [.dat .str]
abbrev io : List (Nat × Oi) := [(2, .row (.int .u8)), (3, .dat (.int .i64))]
abbrev R : Type := DOut ia io
noncomputable def X (n : Nat) : Ctx := ⟨⟨tab, [f23.en n], 0⟩, 92, bnOf 0 ia⟩
abbrev g1 : List Si := [.dat 0 .str, .row 4 200004 (.int .i64), .dat 5 (.int .i64)]
abbrev g2 : List Si := [.dat 0 .str, .row 4 200004 (.int .i64)]
abbrev g3 : List Si := [.row 4 200004 (.int .i64)]
abbrev g4 : List Si := [.row 4 200004 (.int .i64), .row 8 200008 (.int .u8), .dat 9 (.int .i64)]
abbrev g5 : List Si := [.row 4 200004 (.int .i64), .row 8 200008 (.int .u8), .dat 9 (.int .i64), .dat 10 (.int .i64), .dat 11 (.int .i64)]
abbrev g6 : List Si := [.row 4 200004 (.int .i64), .row 8 200008 (.int .u8), .dat 9 (.int .i64), .dat 10 (.int .i64)]
abbrev g7 : List Si := [.row 4 200004 (.int .i64), .row 8 200008 (.int .u8), .dat 9 (.int .i64)]
abbrev g8 : List Si := [.row 4 200004 (.int .i64), .row 8 200008 (.int .u8), .dat 9 (.int .i64)]
abbrev g9 : List Si := [.row 8 200008 (.int .u8)]
noncomputable def A5 (n : Nat) : AC R := (oc R (fsub Try.f19 [1, 1, 1, 1, 1, 1, 1, 0, 0, 0, 1, 0, 1, 0, 1, 0, 0]))
noncomputable def B5 (n : Nat) : AC R := .cut (fsub Try.f19 [1, 1, 1, 1, 1, 1, 1, 0, 0, 0, 1, 0, 1, 0, 1, 0]) g5 (runL (X n) (A5 n) g5 n)
noncomputable def A6 (n : Nat) : AC R := (oc R (fsub Try.f19 [1, 1, 1, 1, 1, 1, 1, 0, 0, 0, 1, 0, 1, 1]))
noncomputable def B6 (n : Nat) : AC R := .cut (fsub Try.f19 [1, 1, 1, 1, 1, 1, 1, 0, 0, 0, 1, 0, 1, 1]) g6 (runR (X n) (A6 n) g6)
noncomputable def A8 (n : Nat) : AC R := (oc R (fsub Try.f19 [1, 1, 1, 1, 1, 1, 1, 1, 0, 0, 0]))
noncomputable def B8 (n : Nat) : AC R := .cut (fsub Try.f19 [1, 1, 1, 1, 1, 1, 1, 1, 0, 0]) g8 (runL (X n) (A8 n) g8 n)
noncomputable def A4 (n : Nat) : AC R := (.seq (oc R (fsub Try.f19 [1, 1, 1, 1, 1, 1, 1, 0, 0, 0, 0])) (.block 3 (.seq (oc R (fsub Try.f19 [1, 1, 1, 1, 1, 1, 1, 0, 0, 0, 1, 0, 0])) (.seq (.seq (oc R (fsub Try.f19 [1, 1, 1, 1, 1, 1, 1, 0, 0, 0, 1, 0, 1, 0, 0])) (.block 4 (B5 n))) (B6 n)))))
noncomputable def B4 (n : Nat) : AC R := .cut (fsub Try.f19 [1, 1, 1, 1, 1, 1, 1, 0, 0]) g4 (runL (X n) (A4 n) g4 n)
noncomputable def A9 (n : Nat) : AC R := (oc R (fsub Try.f19 [1, 1, 1, 1, 1, 1, 1, 1, 1]))
noncomputable def B9 (n : Nat) : AC R := .cut (fsub Try.f19 [1, 1, 1, 1, 1, 1, 1, 1, 1]) g9 (runR (X n) (A9 n) g9)
noncomputable def A7 (n : Nat) : AC R := (.seq (.block 6 (B8 n)) (B9 n))
noncomputable def B7 (n : Nat) : AC R := .cut (fsub Try.f19 [1, 1, 1, 1, 1, 1, 1, 1]) g7 (runR (X n) (A7 n) g7)
noncomputable def A1 (n : Nat) : AC R := (oc R (fsub Try.f19 [1, 1, 0, 1, 0, 0]))
noncomputable def B1 (n : Nat) : AC R := .cut (fsub Try.f19 [1, 1, 0, 1, 0]) g1 (runL (X n) (A1 n) g1 n)
noncomputable def A3 (n : Nat) : AC R := (.seq (oc R (fsub Try.f19 [1, 1, 1, 1, 1, 0])) (.seq (oc R (fsub Try.f19 [1, 1, 1, 1, 1, 1, 0])) (.seq (.block 2 (B4 n)) (B7 n))))
noncomputable def B3 (n : Nat) : AC R := .cut (fsub Try.f19 [1, 1, 1, 1, 1]) g3 (runR (X n) (A3 n) g3)
noncomputable def A2 (n : Nat) : AC R := (.seq (oc R (fsub Try.f19 [1, 1, 1, 0])) (.seq (oc R (fsub Try.f19 [1, 1, 1, 1, 0])) (B3 n)))
noncomputable def B2 (n : Nat) : AC R := .cut (fsub Try.f19 [1, 1, 1]) g2 (runR (X n) (A2 n) g2)
noncomputable def A0 (n : Nat) : AC R := (.seq (oc R (fsub Try.f19 [0])) (.seq (oc R (fsub Try.f19 [1, 0])) (.seq (.seq (oc R (fsub Try.f19 [1, 1, 0, 0])) (.block 0 (B1 n))) (B2 n))))
noncomputable def k1 (n : Nat) : KK R := (blockK 0 (seqK (fun s => acRun (X n) (B2 n) s (endK ia io)) (endK ia io)))
noncomputable def k2 (n : Nat) : KK R := (endK ia io)
noncomputable def k3 (n : Nat) : KK R := (k2 n)
noncomputable def k4 (n : Nat) : KK R := (blockK 2 (seqK (fun s => acRun (X n) (B7 n) s (k3 n)) (k3 n)))
noncomputable def k7 (n : Nat) : KK R := (k3 n)
noncomputable def k8 (n : Nat) : KK R := (blockK 6 (seqK (fun s => acRun (X n) (B9 n) s (k7 n)) (k7 n)))
noncomputable def k9 (n : Nat) : KK R := (k7 n)
noncomputable def k5 (n : Nat) (m4 : Nat) : KK R := (blockK 4 (seqK (fun s => acRun (X n) (B6 n) s (blockK 3 (loopK (X n).bn g4 (fun v => runL (X n) (A4 n) g4 m4 v (k4 n)) (k4 n)))) (blockK 3 (loopK (X n).bn g4 (fun v => runL (X n) (A4 n) g4 m4 v (k4 n)) (k4 n)))))
noncomputable def k6 (n : Nat) (m4 : Nat) : KK R := (blockK 3 (loopK (X n).bn g4 (fun v => runL (X n) (A4 n) g4 m4 v (k4 n)) (k4 n)))
noncomputable def S0 (n : Nat) (j1 : Dens g1 → Option R) (s_ : ByteArray) : Option R :=
  j1 (s_, [], 0, ())
noncomputable def S1 (n : Nat) (j1 : Dens g1 → Option R) (j2 : Dens g2 → Option R) (s_ : ByteArray) (l : List (Int)) (i : Int) : Option R :=
  if decide (i < (s_.size : Int)) = true then
    if 0 ≤ i ∧ i < (s_.size : Int) then
      bnd (f23.f n (⟨#[97, 98, 99, 100, 101, 102, 103, 104, 105, 106, 107, 108, 109, 110, 111, 112, 113, 114, 115, 116, 117, 118, 119, 120, 121, 122, 50, 51, 52, 53, 54, 55]⟩ : ByteArray) (bt s_ i)) fun u1 =>
      if decide (u1.1 < (0 : Int)) = true then
        some ([], 5, ())
      else
        if (l.length + 5) * 8 ≤ 70368744177664 then
          j1 (s_, (l ++ [(IntKind.i64.wrap (Int.tdiv u1.1 16)), (Int.tmod (IntKind.i64.wrap (Int.tdiv u1.1 8)) 2), (Int.tmod (IntKind.i64.wrap (Int.tdiv u1.1 4)) 2), (Int.tmod (IntKind.i64.wrap (Int.tdiv u1.1 2)) 2), (Int.tmod u1.1 2)]), (IntKind.i64.wrap (i + (1 : Int))), ())
        else none
    else none
  else
    j2 (s_, l, ())
noncomputable def S2 (n : Nat) (j3 : Dens g3 → Option R) (s_ : ByteArray) (l : List (Int)) : Option R :=
  if ((Int.tmod (s_.size : Int) 8) == (1 : Int)) = true then
    some ([], 5, ())
  else
    if ((Int.tmod (s_.size : Int) 8) == (3 : Int)) = true then
      some ([], 5, ())
    else
      if ((Int.tmod (s_.size : Int) 8) == (6 : Int)) = true then
        some ([], 5, ())
      else
        j3 (l, ())
noncomputable def S3 (n : Nat) (j4 : Dens g4 → Option R) (l : List (Int)) : Option R :=
  j4 (l, [], 0, ())
noncomputable def S4 (n : Nat) (j5 : Dens g5 → Option R) (j7 : Dens g7 → Option R) (l : List (Int)) (out : List (Int)) (at_ : Int) : Option R :=
  if decide ((IntKind.i64.wrap (at_ + (8 : Int))) ≤ ((l.length : Nat) : Int)) = true then
    j5 (l, out, at_, 0, 0, ())
  else
    j7 (l, out, at_, ())
noncomputable def S5 (n : Nat) (j5 : Dens g5 → Option R) (j6 : Dens g6 → Option R) (l : List (Int)) (out : List (Int)) (at_ : Int) (n_ : Int) (i : Int) : Option R :=
  if decide (i < (8 : Int)) = true then
    if 0 ≤ (IntKind.i64.wrap (at_ + i)) ∧ (IntKind.i64.wrap (at_ + i)) < ((l.length : Nat) : Int) then
      j5 (l, out, at_, (IntKind.i64.wrap ((IntKind.i64.wrap (n_ * (2 : Int))) + (List.getD l (0 + ((IntKind.i64.wrap (at_ + i)).toNat)) 0))), (IntKind.i64.wrap (i + (1 : Int))), ())
    else none
  else
    j6 (l, out, at_, n_, ())
noncomputable def S6 (n : Nat) (j4 : Dens g4 → Option R) (l : List (Int)) (out : List (Int)) (at_ : Int) (n_ : Int) : Option R :=
  if (out.length + 1) * 1 ≤ 70368744177664 then
    j4 (l, (out ++ [(IntKind.u8.wrap n_)]), (IntKind.i64.wrap (at_ + (8 : Int))), ())
  else none
noncomputable def S7 (n : Nat) (j8 : Dens g8 → Option R) (l : List (Int)) (out : List (Int)) (at_ : Int) : Option R :=
  j8 (l, out, at_, ())
noncomputable def S8 (n : Nat) (j8 : Dens g8 → Option R) (j9 : Dens g9 → Option R) (l : List (Int)) (out : List (Int)) (at_ : Int) : Option R :=
  if decide (at_ < ((l.length : Nat) : Int)) = true then
    if 0 ≤ at_ ∧ at_ < ((l.length : Nat) : Int) then
      if ((List.getD l (0 + at_.toNat) 0) != (0 : Int)) = true then
        some ([], 5, ())
      else
        j8 (l, out, (IntKind.i64.wrap (at_ + (1 : Int))), ())
    else none
  else
    j9 (out, ())
noncomputable def S9 (n : Nat) (out : List (Int)) : Option R :=
  some (out, 0, ())
theorem e0 (n : Nat) (v : DIn ia) : acRun (X n) (A0 n) (frameOf (X n).len (inSig 0 ia) v) (endK ia io) = S0 n (fun v => runL (X n) (A1 n) g1 n v (k1 n)) v.1 := by kernel_rfl
theorem e1 (n : Nat) (m1 : Nat) (v : Dens g1) : runL (X n) (A1 n) g1 (m1 + 1) v (k1 n) = S1 n (fun v => runL (X n) (A1 n) g1 m1 v (k1 n)) (fun v => runR (X n) (A2 n) g2 v (k2 n)) v.1 v.2.1 v.2.2.1 := by kernel_rfl
theorem e2 (n : Nat) (v : Dens g2) : runR (X n) (A2 n) g2 v (k2 n) = S2 n (fun v => runR (X n) (A3 n) g3 v (k3 n)) v.1 v.2.1 := by kernel_rfl
theorem e3 (n : Nat) (v : Dens g3) : runR (X n) (A3 n) g3 v (k3 n) = S3 n (fun v => runL (X n) (A4 n) g4 n v (k4 n)) v.1 := by kernel_rfl
theorem e4 (n : Nat) (m4 : Nat) (v : Dens g4) : runL (X n) (A4 n) g4 (m4 + 1) v (k4 n) = S4 n (fun v => runL (X n) (A5 n) g5 n v (k5 n m4)) (fun v => runR (X n) (A7 n) g7 v (k7 n)) v.1 v.2.1 v.2.2.1 := by kernel_rfl
theorem e5 (n : Nat) (m4 : Nat) (m5 : Nat) (v : Dens g5) : runL (X n) (A5 n) g5 (m5 + 1) v (k5 n m4) = S5 n (fun v => runL (X n) (A5 n) g5 m5 v (k5 n m4)) (fun v => runR (X n) (A6 n) g6 v (k6 n m4)) v.1 v.2.1 v.2.2.1 v.2.2.2.1 v.2.2.2.2.1 := by kernel_rfl
theorem e6 (n : Nat) (m4 : Nat) (v : Dens g6) : runR (X n) (A6 n) g6 v (k6 n m4) = S6 n (fun v => runL (X n) (A4 n) g4 m4 v (k4 n)) v.1 v.2.1 v.2.2.1 v.2.2.2.1 := by kernel_rfl
theorem e7 (n : Nat) (v : Dens g7) : runR (X n) (A7 n) g7 v (k7 n) = S7 n (fun v => runL (X n) (A8 n) g8 n v (k8 n)) v.1 v.2.1 v.2.2.1 := by kernel_rfl
theorem e8 (n : Nat) (m8 : Nat) (v : Dens g8) : runL (X n) (A8 n) g8 (m8 + 1) v (k8 n) = S8 n (fun v => runL (X n) (A8 n) g8 m8 v (k8 n)) (fun v => runR (X n) (A9 n) g9 v (k9 n)) v.1 v.2.1 v.2.2.1 := by kernel_rfl
theorem e9 (n : Nat) (v : Dens g9) : runR (X n) (A9 n) g9 v (k9 n) = S9 n v.1 := by kernel_rfl
noncomputable def J6 (n : Nat) (r4 : Dens g4 → Option R) : Dens g6 → Option R := fun v => S6 n r4 v.1 v.2.1 v.2.2.1 v.2.2.2.1
theorem h6 (n : Nat) (m4 : Nat) : (fun v => runR (X n) (A6 n) g6 v (k6 n m4)) = J6 n (fun v => runL (X n) (A4 n) g4 m4 v (k4 n)) :=
  funext fun v => (e6 n m4 v).trans (by rfl)
noncomputable def J5 (n : Nat) (r4 : Dens g4 → Option R) : Nat → Dens g5 → Option R
  | 0, _ => none
  | m + 1, v => S5 n (J5 n r4 m) (J6 n r4) v.1 v.2.1 v.2.2.1 v.2.2.2.1 v.2.2.2.2.1
theorem h5 (n : Nat) (m4 : Nat) : ∀ m, (fun v => runL (X n) (A5 n) g5 m v (k5 n m4)) = J5 n (fun v => runL (X n) (A4 n) g4 m4 v (k4 n)) m
  | 0 => rfl
  | m + 1 => funext fun v => (e5 n m4 m v).trans (by rw [h6 n m4]; rw [h5 n m4 m]; rfl)
noncomputable def J9 (n : Nat) : Dens g9 → Option R := fun v => S9 n v.1
theorem h9 (n : Nat) : (fun v => runR (X n) (A9 n) g9 v (k9 n)) = J9 n :=
  funext fun v => (e9 n v).trans (by rfl)
noncomputable def J8 (n : Nat) : Nat → Dens g8 → Option R
  | 0, _ => none
  | m + 1, v => S8 n (J8 n m) (J9 n) v.1 v.2.1 v.2.2.1
theorem h8 (n : Nat) : ∀ m, (fun v => runL (X n) (A8 n) g8 m v (k8 n)) = J8 n m
  | 0 => rfl
  | m + 1 => funext fun v => (e8 n m v).trans (by rw [h9 n]; rw [h8 n m]; rfl)
noncomputable def J7 (n : Nat) : Dens g7 → Option R := fun v => S7 n (J8 n n) v.1 v.2.1 v.2.2.1
theorem h7 (n : Nat) : (fun v => runR (X n) (A7 n) g7 v (k7 n)) = J7 n :=
  funext fun v => (e7 n v).trans (by rw [h8 n n]; rfl)
noncomputable def J4 (n : Nat) : Nat → Dens g4 → Option R
  | 0, _ => none
  | m + 1, v => S4 n (J5 n (J4 n m) n) (J7 n) v.1 v.2.1 v.2.2.1
theorem h4 (n : Nat) : ∀ m, (fun v => runL (X n) (A4 n) g4 m v (k4 n)) = J4 n m
  | 0 => rfl
  | m + 1 => funext fun v => (e4 n m v).trans (by rw [h5 n m n, h7 n]; rw [h4 n m]; rfl)
noncomputable def J3 (n : Nat) : Dens g3 → Option R := fun v => S3 n (J4 n n) v.1
theorem h3 (n : Nat) : (fun v => runR (X n) (A3 n) g3 v (k3 n)) = J3 n :=
  funext fun v => (e3 n v).trans (by rw [h4 n n]; rfl)
noncomputable def J2 (n : Nat) : Dens g2 → Option R := fun v => S2 n (J3 n) v.1 v.2.1
theorem h2 (n : Nat) : (fun v => runR (X n) (A2 n) g2 v (k2 n)) = J2 n :=
  funext fun v => (e2 n v).trans (by rw [h3 n]; rfl)
noncomputable def J1 (n : Nat) : Nat → Dens g1 → Option R
  | 0, _ => none
  | m + 1, v => S1 n (J1 n m) (J2 n) v.1 v.2.1 v.2.2.1
theorem h1 (n : Nat) : ∀ m, (fun v => runL (X n) (A1 n) g1 m v (k1 n)) = J1 n m
  | 0 => rfl
  | m + 1 => funext fun v => (e1 n m v).trans (by rw [h2 n]; rw [h1 n m]; rfl)
noncomputable def f (n : Nat) (s_ : ByteArray) : Option R := S0 n (J1 n n) s_
theorem link (n : Nat) (v : DIn ia) : acRun (X n) (A0 n) (frameOf (X n).len (inSig 0 ia) v) (endK ia io) = f n v.1 :=
  (e0 n v).trans (by rw [h1 n n]; rfl)
theorem phi (n : Nat) : ∀ e ∈ (X n).c.Φ, EntryOk Try.prog e := allE_cons (mkEntry_ok (f23.ok n)) (allE_nil)
theorem o5 (n : Nat) : (A5 n).Ok Try.prog (X n) := (oc_ok _)
theorem b5 (n : Nat) : (B5 n).Ok Try.prog (X n) := runL_ok mixed tabIs (phi n) (o5 n) (by kernel_rfl) n
theorem o6 (n : Nat) : (A6 n).Ok Try.prog (X n) := (oc_ok _)
theorem b6 (n : Nat) : (B6 n).Ok Try.prog (X n) := runR_ok mixed tabIs (phi n) (o6 n) (by kernel_rfl)
theorem o8 (n : Nat) : (A8 n).Ok Try.prog (X n) := (oc_ok _)
theorem b8 (n : Nat) : (B8 n).Ok Try.prog (X n) := runL_ok mixed tabIs (phi n) (o8 n) (by kernel_rfl) n
theorem o4 (n : Nat) : (A4 n).Ok Try.prog (X n) := ⟨(oc_ok _), ⟨(oc_ok _), ⟨⟨(oc_ok _), (b5 n)⟩, (b6 n)⟩⟩⟩
theorem b4 (n : Nat) : (B4 n).Ok Try.prog (X n) := runL_ok mixed tabIs (phi n) (o4 n) (by kernel_rfl) n
theorem o9 (n : Nat) : (A9 n).Ok Try.prog (X n) := (oc_ok _)
theorem b9 (n : Nat) : (B9 n).Ok Try.prog (X n) := runR_ok mixed tabIs (phi n) (o9 n) (by kernel_rfl)
theorem o7 (n : Nat) : (A7 n).Ok Try.prog (X n) := ⟨(b8 n), (b9 n)⟩
theorem b7 (n : Nat) : (B7 n).Ok Try.prog (X n) := runR_ok mixed tabIs (phi n) (o7 n) (by kernel_rfl)
theorem o1 (n : Nat) : (A1 n).Ok Try.prog (X n) := (oc_ok _)
theorem b1 (n : Nat) : (B1 n).Ok Try.prog (X n) := runL_ok mixed tabIs (phi n) (o1 n) (by kernel_rfl) n
theorem o3 (n : Nat) : (A3 n).Ok Try.prog (X n) := ⟨(oc_ok _), ⟨(oc_ok _), ⟨(b4 n), (b7 n)⟩⟩⟩
theorem b3 (n : Nat) : (B3 n).Ok Try.prog (X n) := runR_ok mixed tabIs (phi n) (o3 n) (by kernel_rfl)
theorem o2 (n : Nat) : (A2 n).Ok Try.prog (X n) := ⟨(oc_ok _), ⟨(oc_ok _), (b3 n)⟩⟩
theorem b2 (n : Nat) : (B2 n).Ok Try.prog (X n) := runR_ok mixed tabIs (phi n) (o2 n) (by kernel_rfl)
theorem o0 (n : Nat) : (A0 n).Ok Try.prog (X n) := ⟨(oc_ok _), ⟨(oc_ok _), ⟨⟨(oc_ok _), (b1 n)⟩, (b2 n)⟩⟩⟩
theorem ok (n : Nat) : FnOk Try.prog 19 ia io (fun v => f n v.1) :=
  fn_ok (x := X n) (A := A0 n) mixed tabIs (phi n) Try.func19 (by kernel_rfl) (by kernel_rfl) rfl (o0 n) (fun v u h => (link n v).trans h)
noncomputable def en (n : Nat) : Entry := mkEntry 19 ia io (fun v => f n v.1)
end f19
end Go.Proofs.Ytnlckhekcklcpaa


namespace Go.Proofs.Ytnlckhekcklcpaa
open Go Go.Va Go.Proofs
/- chartulary/chartularyref01.Bytes -/
namespace f13
abbrev ia : List Ai := [.dat (.slice (.int .u8)), .dat (.slice (.int .u8))]
abbrev io : List (Nat × Oi) := [(4, .dat .bool)]
abbrev R : Type := DOut ia io
noncomputable def X (n : Nat) : Ctx := ⟨⟨tab, [], 0⟩, 10, bnOf 0 ia⟩
noncomputable def A0 (n : Nat) : AC R := (oc R (fsub Try.f13 []))
noncomputable def S0 (n : Nat) (a : List (Int)) (b : List (Int)) : Option R :=
  some ((eqS (bytesOf a) (bytesOf b)), ())
theorem e0 (n : Nat) (v : DIn ia) : acRun (X n) (A0 n) (frameOf (X n).len (inSig 0 ia) v) (endK ia io) = S0 n v.1 v.2.1 := by kernel_rfl
noncomputable def f (n : Nat) (a : List (Int)) (b : List (Int)) : Option R := S0 n a b
theorem link (n : Nat) (v : DIn ia) : acRun (X n) (A0 n) (frameOf (X n).len (inSig 0 ia) v) (endK ia io) = f n v.1 v.2.1 :=
  (e0 n v).trans (by rfl)
theorem phi (n : Nat) : ∀ e ∈ (X n).c.Φ, EntryOk Try.prog e := allE_nil
theorem o0 (n : Nat) : (A0 n).Ok Try.prog (X n) := (oc_ok _)
theorem ok (n : Nat) : FnOk Try.prog 13 ia io (fun v => f n v.1 v.2.1) :=
  fn_ok (x := X n) (A := A0 n) mixed tabIs (phi n) Try.func13 (by kernel_rfl) (by kernel_rfl) rfl (o0 n) (fun v u h => (link n v).trans h)
noncomputable def en (n : Nat) : Entry := mkEntry 13 ia io (fun v => f n v.1 v.2.1)
end f13
end Go.Proofs.Ytnlckhekcklcpaa


namespace Go.Proofs.Ytnlckhekcklcpaa
open Go Go.Va Go.Proofs
/- chartulary/chartularylaw04.AlphaBase -/
namespace f6
abbrev ia : List Ai := [.dat (.slice (.int .u8)), .dat .str]
abbrev io : List (Nat × Oi) := [(4, .dat .bool)]
abbrev R : Type := DOut ia io
noncomputable def X (n : Nat) : Ctx := ⟨⟨tab, [f10.en n, f13.en n, f18.en n, f19.en n, f20.en n, f21.en n], 0⟩, 37, bnOf 0 ia⟩
noncomputable def A0 (n : Nat) : AC R := (oc R (fsub Try.f6 []))
noncomputable def S0 (n : Nat) (b : List (Int)) (s_ : ByteArray) : Option R :=
  bnd (f18.f n s_) fun u1 =>
  bnd (f19.f n s_) fun u2 =>
  bnd (f10.f n) fun u3 =>
  if u3.1 = true then
    bnd (f20.f n b) fun u4 =>
    bnd (f21.f n b) fun u5 =>
    if (eqS u4.1 u5.1) = true then
      bnd (f13.f n u1.1 u2.1) fun u6 =>
      if u6.1 = true then
        some ((u1.2.1 == u2.2.1), ())
      else
        some (false, ())
    else
      some (false, ())
  else
    some (false, ())
theorem e0 (n : Nat) (v : DIn ia) : acRun (X n) (A0 n) (frameOf (X n).len (inSig 0 ia) v) (endK ia io) = S0 n v.1 v.2.1 := by kernel_rfl
noncomputable def f (n : Nat) (b : List (Int)) (s_ : ByteArray) : Option R := S0 n b s_
theorem link (n : Nat) (v : DIn ia) : acRun (X n) (A0 n) (frameOf (X n).len (inSig 0 ia) v) (endK ia io) = f n v.1 v.2.1 :=
  (e0 n v).trans (by rfl)
theorem phi (n : Nat) : ∀ e ∈ (X n).c.Φ, EntryOk Try.prog e := allE_cons (mkEntry_ok (f10.ok n)) (allE_cons (mkEntry_ok (f13.ok n)) (allE_cons (mkEntry_ok (f18.ok n)) (allE_cons (mkEntry_ok (f19.ok n)) (allE_cons (mkEntry_ok (f20.ok n)) (allE_cons (mkEntry_ok (f21.ok n)) (allE_nil))))))
theorem o0 (n : Nat) : (A0 n).Ok Try.prog (X n) := (oc_ok _)
theorem ok (n : Nat) : FnOk Try.prog 6 ia io (fun v => f n v.1 v.2.1) :=
  fn_ok (x := X n) (A := A0 n) mixed tabIs (phi n) Try.func6 (by kernel_rfl) (by kernel_rfl) rfl (o0 n) (fun v u h => (link n v).trans h)
noncomputable def en (n : Nat) : Entry := mkEntry 6 ia io (fun v => f n v.1 v.2.1)
end f6
end Go.Proofs.Ytnlckhekcklcpaa

