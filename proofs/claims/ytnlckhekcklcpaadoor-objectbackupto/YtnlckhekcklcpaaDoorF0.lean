/-
  What the functions compute, by the abstract interpreter.
-/
import Derived.Test.YtnlckhekcklcpaaDoorVaPlain
import Derived.Test.YtnlckhekcklcpaaDoorVaTab
import Derived.Test.YtnlckhekcklcpaaDoorChecked
import Derived.Shelf.Unicode.ValidAny
import Derived.Lib.LaidU8T
set_option linter.unusedVariables false
set_option linter.unusedSimpArgs false
namespace Go.Proofs
open Go.Shelf
def Tryd.laysValid_ren : Go.Shelf.Ren := ⟨fun | 196 => 49 | 259 => 53 | n => n, fun | 9 => 9 | 4 => 4 | 3 => 3 | 5 => 5 | 12 => 12 | 119 => 70 | 0 => 0 | 46 => 74 | 139 => 73 | 138 => 72 | 53 => 25 | n => n, fun | 3 => 0 | 4 => 1 | n => n⟩
theorem Tryd.laysValid : Go.Proofs.Lays.n196 Tryd.prog Tryd.laysValid_ren := {
  mixed := by kernel_rfl
  f196 := Tryd.func49.trans (congrArg some (by kernel_rfl))
  f259 := Tryd.func53.trans (congrArg some (by kernel_rfl))
  t0 := Tryd.underlying0
  a0 := Tryd.isAgg0
  z0 := Tryd.sizeOf0
  v0 := Tryd.zeroValue0
  t3 := Tryd.underlying3
  a3 := Tryd.isAgg3
  z3 := Tryd.sizeOf3
  v3 := Tryd.zeroValue3
  t4 := Tryd.underlying4
  a4 := Tryd.isAgg4
  z4 := Tryd.sizeOf4
  v4 := Tryd.zeroValue4
  t5 := Tryd.underlying5
  a5 := Tryd.isAgg5
  z5 := Tryd.sizeOf5
  v5 := Tryd.zeroValue5
  t9 := Tryd.underlying9
  a9 := Tryd.isAgg9
  z9 := Tryd.sizeOf9
  v9 := Tryd.zeroValue9
  t12 := Tryd.underlying12
  a12 := Tryd.isAgg12
  z12 := Tryd.sizeOf12
  v12 := Tryd.zeroValue12
  t46 := Tryd.underlying74
  a46 := Tryd.isAgg74
  z46 := Tryd.sizeOf74
  v46 := Tryd.zeroValue74
  t53 := Tryd.underlying25
  a53 := Tryd.isAgg25
  z53 := Tryd.sizeOf25
  v53 := Tryd.zeroValue25
  t119 := Tryd.underlying70
  a119 := Tryd.isAgg70
  z119 := Tryd.sizeOf70
  t138 := Tryd.underlying72
  a138 := Tryd.isAgg72
  z138 := Tryd.sizeOf72
  v138 := Tryd.zeroValue72
  t139 := Tryd.underlying73
  a139 := Tryd.isAgg73
  z139 := Tryd.sizeOf73
  v139 := Tryd.zeroValue73
  g3 := by kernel_rfl
  g4 := by kernel_rfl }
end Go.Proofs
namespace Go.Proofs.YtnlckhekcklcpaaDoor
open Go Go.Va Go.Proofs
noncomputable def firstCells : List Value := Lib.firstTab.map fun z => Value.int .u8 z
noncomputable def acceptCells : List Value := (List.range 16).flatMap fun i => [Value.int .u8 (Lib.accLo i), Value.int .u8 (Lib.accHi i)]
noncomputable instance : Gl := ⟨[(0, firstCells), (1, acceptCells)]⟩
theorem acc_get : ∀ (i : Nat), i < 16 → acceptCells[2 * i]? = some (Value.int .u8 (Lib.accLo i)) ∧ acceptCells[2 * i + 1]? = some (Value.int .u8 (Lib.accHi i))
  | 0, _ | 1, _ | 2, _ | 3, _ | 4, _ | 5, _ | 6, _ | 7, _ | 8, _ | 9, _ | 10, _ | 11, _ | 12, _ | 13, _ | 14, _ | 15, _ => ⟨rfl, rfl⟩
  | n + 16, h => absurd h (by omega)
theorem utf8Tabs {E : Env} {w : World} (h : GlOk E w) : Lib.Utf8Tabs (Tryd.laysValid_ren.g 3) (Tryd.laysValid_ren.g 4) w := by
  have h0 := (h (0, firstCells) (by simp [Gl.tab])).2.2
  have h1 := (h (1, acceptCells) (by simp [Gl.tab])).2.2
  refine ⟨fun c hc => ?_, fun i hi => ?_⟩
  · have := h0 c (by simp [firstCells, Lib.firstTab]; exact hc)
    simp [firstCells, Lib.firstTab] at this
    exact this
  · have hl : acceptCells.length = 32 := by kernel_rfl
    have a0 := h1 (2 * i) (by rw [hl]; omega)
    have a1 := h1 (2 * i + 1) (by rw [hl]; omega)
    obtain ⟨e0, e1⟩ := acc_get i hi
    rw [List.getElem?_eq_getElem (by rw [hl]; omega)] at e0 e1
    simp only [Option.some.injEq] at e0 e1
    simp only [Nat.zero_add] at a0 a1
    rw [e0] at a0
    rw [e1] at a1
    exact ⟨a0, a1⟩
namespace f49
abbrev ia : List Ai := [.dat .str]
abbrev io : List (Nat × Oi) := [(2, .dat .bool)]
noncomputable def f (s : ByteArray) : Option (DOut ia io) := if s.size ≤ 9223372036854775807 then some (Lib.validD s.data.toList, ()) else none
theorem ok : FnOk Tryd.prog 49 ia io (fun v => f v.1) := by
  refine leaf_ok ⟨Tryd.f49, Tryd.func49, by kernel_rfl, by kernel_rfl⟩ rfl (fun _ => rfl) (fun _ => rfl) (fun v u h E w vals hgl hc => ?_)
  obtain ⟨x, vs, rfl, h1, h3⟩ := hc
  have h3 : vs = [] := h3
  subst h3
  have h1 : x = .string v.1 := V_str.1 h1
  subst h1
  unfold f at h
  split at h
  · next hs =>
    injection h with h
    subst h
    refine (Any.utf8_ValidString Tryd.laysValid v.1 w hs (utf8Tabs hgl)).mono ?_
    rintro e w' ⟨rfl, hb⟩
    exact ⟨_, rfl, ⟨hb.os, hb.tape, hb.output, hb.size, hb.block⟩, fun E => V_bool.2 rfl⟩
  · exact absurd h (by simp)
noncomputable def en : Entry := mkEntry 49 ia io (fun v => f v.1)
end f49
end Go.Proofs.YtnlckhekcklcpaaDoor


namespace Go.Proofs.YtnlckhekcklcpaaDoor
open Go Go.Va Go.Proofs
abbrev t18 : Ty := (.pair (.opq 0) .unit)
abbrev t79 : Ty := (.pair (.arr 0 (.opq 0)) .unit)
abbrev t65 : Ty := (.pair .str (.pair .str .unit))
abbrev t13 : Ty := (.pair .str (.pair (.int .u64) .unit))
abbrev t71 : Ty := (.pair (.int .u8) (.pair (.int .u8) .unit))
abbrev t28 : Ty := (.pair (.int .i64) (.pair (.int .i64) (.pair .bool .unit)))
abbrev t76 : Ty := (.pair (.opq 0) (.pair (.opq 0) (.pair (.opq 0) (.pair .str .unit))))
abbrev t7 : Ty := (.pair (.int .i64) (.pair (.int .i64) (.pair .bool (.pair (.int .u8) .unit))))
abbrev t89 : Ty := (.pair (.int .u64) (.pair (.int .u64) (.pair (.int .u32) (.pair (.int .u8) (.pair (.int .u8) (.pair (.int .u8) (.pair (.int .u8) (.pair (.opq 1) (.pair (.opq 0) (.pair (.int .i32) (.pair (.int .i32) .unit)))))))))))
abbrev t31 : Ty := (.pair (.int .u64) (.pair .bool (.pair (.int .i64) (.pair (.int .u64) (.pair (.arr 32 (.int .u8)) (.pair (.int .i64) (.pair t28 (.pair (.slice t65) .unit))))))))
abbrev t23 : Ty := (.pair .str (.pair (.slice t31) .unit))
noncomputable def tab : List (Nat × TE) := [(2, ⟨(.int .i64), 0⟩), (3, ⟨(.int .i64), 0⟩), (4, ⟨.bool, 0⟩), (5, ⟨(.int .u8), 0⟩), (9, ⟨.str, 0⟩), (22, ⟨(.slice t31), 120⟩), (23, ⟨t23, 0⟩), (24, ⟨t23, 0⟩), (25, ⟨(.int .u64), 0⟩), (26, ⟨(.arr 32 (.int .u8)), 0⟩), (27, ⟨(.arr 32 (.int .u8)), 0⟩), (28, ⟨t28, 0⟩), (29, ⟨t28, 0⟩), (30, ⟨(.slice t65), 32⟩), (31, ⟨t31, 0⟩), (32, ⟨t31, 0⟩), (33, ⟨(.int .i64), 0⟩), (47, ⟨(.opq 1), 0⟩), (49, ⟨(.opq 1), 0⟩), (65, ⟨t65, 0⟩), (66, ⟨t65, 0⟩), (68, ⟨(.slice (.int .u8)), 1⟩)]
theorem tabIs : TabOk Tryd.prog tab := tabB_ok (by kernel_rfl)
theorem mixed : Tryd.prog.follows .mixedOrders = true := Tryd.checked.mixed
end Go.Proofs.YtnlckhekcklcpaaDoor


namespace Go.Proofs.YtnlckhekcklcpaaDoor
open Go Go.Va Go.Proofs
/- chartulary/label.Clean -/
namespace f42
abbrev ia : List Ai := [.val (.d .str)]
abbrev io : List (Nat × Oi) := [(2, .val (.d .bool))]
abbrev R : Type := DOut ia io
noncomputable def X (n : Nat) : Ctx := ⟨⟨tab, [f49.en], 0⟩, 21, bnOf 0 ia⟩
abbrev g1 : List Si := [.val 0 (.d .str), .val 6 (.r 200600 (.int .u8)), .val 7 (.d (.int .i64)), .val 8 (.d (.int .i64))]
abbrev g2 : List Si := [.val 0 (.d .str)]
noncomputable def A1 (n : Nat) : AC R := (oc R (fsub Tryd.f42 [1, 0, 1, 0, 0]))
noncomputable def B1 (n : Nat) : AC R := .cut (fsub Tryd.f42 [1, 0, 1, 0]) g1 (fun v k => hideF (runL (X n) (A1 n) g1 n v k))
noncomputable def A2 (n : Nat) : AC R := (oc R (fsub Tryd.f42 [1, 1]))
noncomputable def B2 (n : Nat) : AC R := .cut (fsub Tryd.f42 [1, 1]) g2 (fun v k => hideF (runR (X n) (A2 n) g2 v k))
noncomputable def A0 (n : Nat) : AC R := (.seq (oc R (fsub Tryd.f42 [0])) (.seq (.seq (oc R (fsub Tryd.f42 [1, 0, 0])) (.block 0 (B1 n))) (B2 n)))
noncomputable def k1 (n : Nat) : KK R := (blockK 0 (seqK (fun s => acRun (X n) (B2 n) s (endK ia io)) (endK ia io)))
noncomputable def k2 (n : Nat) : KK R := (endK ia io)
noncomputable def S0 (n : Nat) (j1 : Dens g1 → Option R) (s_ : ByteArray) : Option R :=
  j1 (s_, (ofBytes s_), (((ofBytes s_).length : Nat) : Int), 0, ())
noncomputable def S1 (n : Nat) (j1 : Dens g1 → Option R) (j2 : Dens g2 → Option R) (s_ : ByteArray) (t6 : List (Int)) (t7 : Int) (t8 : Int) : Option R :=
  bIf ((hide (decide (t8 < t7)))) (
    gIf (0 ≤ t8 ∧ t8 < ((t6.length : Nat) : Int)) (
      bIf ((hide (decide ((List.getD t6 (0 + t8.toNat) 0) < (32 : Int))))) (
        some (false, ())
        ) (
        bIf ((hide ((List.getD t6 (0 + t8.toNat) 0) == (127 : Int)))) (
          some (false, ())
          ) (
          j1 (s_, t6, t7, (IntKind.i64.wrap (t8 + (1 : Int))), ())
          )
        )
      )
    ) (
    j2 (s_, ())
    )
noncomputable def S2 (n : Nat) (s_ : ByteArray) : Option R :=
  bnd (f49.f s_) fun u1 =>
  some (u1.1, ())
theorem e0 (n : Nat) (v : DIn ia) : acRun (X n) (A0 n) (frameOf (X n).len (inSig 0 ia) v) (endK ia io) = S0 n (fun v => hideF (runL (X n) (A1 n) g1 n v (k1 n))) v.1 := by kernel_rfl
theorem e1 (n : Nat) (m1 : Nat) (v : Dens g1) : runL (X n) (A1 n) g1 (m1 + 1) v (k1 n) = S1 n (fun v => hideF (runL (X n) (A1 n) g1 m1 v (k1 n))) (fun v => hideF (runR (X n) (A2 n) g2 v (k2 n))) v.1 v.2.1 v.2.2.1 v.2.2.2.1 := by kernel_rfl
theorem e2 (n : Nat) (v : Dens g2) : runR (X n) (A2 n) g2 v (k2 n) = S2 n v.1 := by kernel_rfl
noncomputable def J2 (n : Nat) : Dens g2 → Option R := fun v => S2 n v.1
theorem h2 (n : Nat) : (fun v => runR (X n) (A2 n) g2 v (k2 n)) = J2 n :=
  funext fun v => (e2 n v).trans (by (try simp only [hideF_eq]); rfl)
noncomputable def J1 (n : Nat) : Nat → Dens g1 → Option R
  | 0, _ => none
  | m + 1, v => S1 n (J1 n m) (J2 n) v.1 v.2.1 v.2.2.1 v.2.2.2.1
theorem h1 (n : Nat) : ∀ m, (fun v => runL (X n) (A1 n) g1 m v (k1 n)) = J1 n m
  | 0 => rfl
  | m + 1 => funext fun v => (e1 n m v).trans (by (try simp only [hideF_eq]); rw [h2 n]; rw [h1 n m]; rfl)
noncomputable def f (n : Nat) (s_ : ByteArray) : Option R := S0 n (J1 n n) s_
theorem link (n : Nat) (v : DIn ia) : acRun (X n) (A0 n) (frameOf (X n).len (inSig 0 ia) v) (endK ia io) = f n v.1 :=
  (e0 n v).trans (by (try simp only [hideF_eq]); rw [h1 n n]; rfl)
theorem phi (n : Nat) : ∀ e ∈ (X n).c.Φ, EntryOk Tryd.prog e := allE_cons (mkEntry_ok (f49.ok)) (allE_nil)
theorem o1 (n : Nat) : (A1 n).Ok Tryd.prog (X n) := (oc_ok _)
theorem b1 (n : Nat) : (B1 n).Ok Tryd.prog (X n) := runL_ok mixed tabIs (phi n) (o1 n) (by kernel_rfl) n
theorem o2 (n : Nat) : (A2 n).Ok Tryd.prog (X n) := (oc_ok _)
theorem b2 (n : Nat) : (B2 n).Ok Tryd.prog (X n) := runR_ok mixed tabIs (phi n) (o2 n) (by kernel_rfl)
theorem o0 (n : Nat) : (A0 n).Ok Tryd.prog (X n) := ⟨(oc_ok _), ⟨⟨(oc_ok _), (b1 n)⟩, (b2 n)⟩⟩
theorem ok (n : Nat) : FnOk Tryd.prog 42 ia io (fun v => f n v.1) :=
  fn_ok (x := X n) (A := A0 n) mixed tabIs (phi n) Tryd.func42 (by kernel_rfl) (by kernel_rfl) rfl (o0 n) (fun v u h => (link n v).trans h)
noncomputable def en (n : Nat) : Entry := mkEntry 42 ia io (fun v => f n v.1)
end f42
end Go.Proofs.YtnlckhekcklcpaaDoor


namespace Go.Proofs.YtnlckhekcklcpaaDoor
open Go Go.Va Go.Proofs
/- chartulary/chartularyref06.Clean -/
namespace f44
abbrev ia : List Ai := [.val (.d .str)]
abbrev io : List (Nat × Oi) := [(2, .val (.d .bool))]
abbrev R : Type := DOut ia io
noncomputable def X (n : Nat) : Ctx := ⟨⟨tab, [], 0⟩, 109, bnOf 0 ia⟩
abbrev g1 : List Si := [.val 0 (.d .str), .val 3 (.d (.int .i64))]
abbrev g2 : List Si := [.val 0 (.d .str), .val 3 (.d (.int .i64)), .val 4 (.d (.int .i64)), .val 21 (.d .bool)]
abbrev g3 : List Si := [.val 0 (.d .str), .val 3 (.d (.int .i64)), .val 4 (.d (.int .i64)), .val 30 (.d .bool)]
abbrev g4 : List Si := [.val 0 (.d .str), .val 3 (.d (.int .i64)), .val 4 (.d (.int .i64)), .val 39 (.d .bool)]
abbrev g5 : List Si := [.val 0 (.d .str), .val 3 (.d (.int .i64)), .val 4 (.d (.int .i64)), .val 5 (.d (.int .i64)), .val 6 (.d (.int .i64)), .val 7 (.d (.int .i64))]
abbrev g6 : List Si := [.val 0 (.d .str), .val 3 (.d (.int .i64)), .val 5 (.d (.int .i64)), .val 6 (.d (.int .i64)), .val 7 (.d (.int .i64))]
abbrev g7 : List Si := [.val 0 (.d .str), .val 3 (.d (.int .i64)), .val 5 (.d (.int .i64)), .val 6 (.d (.int .i64)), .val 7 (.d (.int .i64)), .val 8 (.d (.int .i64))]
abbrev g8 : List Si := [.val 0 (.d .str), .val 3 (.d (.int .i64)), .val 5 (.d (.int .i64)), .val 6 (.d (.int .i64)), .val 7 (.d (.int .i64)), .val 8 (.d (.int .i64))]
abbrev g9 : List Si := [.val 0 (.d .str), .val 3 (.d (.int .i64)), .val 5 (.d (.int .i64)), .val 6 (.d (.int .i64)), .val 7 (.d (.int .i64)), .val 8 (.d (.int .i64))]
abbrev g10 : List Si := [.val 0 (.d .str), .val 3 (.d (.int .i64)), .val 5 (.d (.int .i64)), .val 6 (.d (.int .i64)), .val 7 (.d (.int .i64))]
abbrev g11 : List Si := [.val 0 (.d .str), .val 3 (.d (.int .i64)), .val 5 (.d (.int .i64))]
abbrev g12 : List Si := []
noncomputable def A8 (n : Nat) : AC R := (oc R (fsub Tryd.f44 [1, 0, 1, 0, 0, 1, 0, 1, 1, 1, 1, 0, 1, 0, 0, 1, 0, 0, 1]))
noncomputable def B8 (n : Nat) : AC R := .cut (fsub Tryd.f44 [1, 0, 1, 0, 0, 1, 0, 1, 1, 1, 1, 0, 1, 0, 0, 1, 0, 0, 1]) g8 (fun v k => hideF (runR (X n) (A8 n) g8 v k))
noncomputable def A4 (n : Nat) : AC R := (oc R (fsub Tryd.f44 [1, 0, 1, 0, 0, 1, 0, 1, 1, 0, 0, 1, 1, 1, 1, 1, 1, 1]))
noncomputable def B4 (n : Nat) : AC R := .cut (fsub Tryd.f44 [1, 0, 1, 0, 0, 1, 0, 1, 1, 0, 0, 1, 1, 1, 1, 1, 1, 1]) g4 (fun v k => hideF (runR (X n) (A4 n) g4 v k))
noncomputable def A9 (n : Nat) : AC R := (oc R (fsub Tryd.f44 [1, 0, 1, 0, 0, 1, 0, 1, 1, 1, 1, 0, 1, 0, 0, 1, 1]))
noncomputable def B9 (n : Nat) : AC R := .cut (fsub Tryd.f44 [1, 0, 1, 0, 0, 1, 0, 1, 1, 1, 1, 0, 1, 0, 0, 1, 1]) g9 (fun v k => hideF (runR (X n) (A9 n) g9 v k))
noncomputable def A3 (n : Nat) : AC R := (.cond (.tmp 30) (oc R (fsub Tryd.f44 [1, 0, 1, 0, 0, 1, 0, 1, 1, 0, 0, 1, 1, 1, 1, 1, 0])) (.seq (oc R (fsub Tryd.f44 [1, 0, 1, 0, 0, 1, 0, 1, 1, 0, 0, 1, 1, 1, 1, 1, 1, 0])) (B4 n)))
noncomputable def B3 (n : Nat) : AC R := .cut (fsub Tryd.f44 [1, 0, 1, 0, 0, 1, 0, 1, 1, 0, 0, 1, 1, 1, 1, 1]) g3 (fun v k => hideF (runR (X n) (A3 n) g3 v k))
noncomputable def A2 (n : Nat) : AC R := (.cond (.tmp 21) (oc R (fsub Tryd.f44 [1, 0, 1, 0, 0, 1, 0, 1, 1, 0, 0, 1, 1, 1, 0])) (.seq (oc R (fsub Tryd.f44 [1, 0, 1, 0, 0, 1, 0, 1, 1, 0, 0, 1, 1, 1, 1, 0])) (B3 n)))
noncomputable def B2 (n : Nat) : AC R := .cut (fsub Tryd.f44 [1, 0, 1, 0, 0, 1, 0, 1, 1, 0, 0, 1, 1, 1]) g2 (fun v k => hideF (runR (X n) (A2 n) g2 v k))
noncomputable def A7 (n : Nat) : AC R := (.seq (oc R (fsub Tryd.f44 [1, 0, 1, 0, 0, 1, 0, 1, 1, 1, 1, 0, 1, 0, 0, 0])) (.seq (.block 4 (.seq (oc R (fsub Tryd.f44 [1, 0, 1, 0, 0, 1, 0, 1, 1, 1, 1, 0, 1, 0, 0, 1, 0, 0, 0])) (B8 n))) (B9 n)))
noncomputable def B7 (n : Nat) : AC R := .cut (fsub Tryd.f44 [1, 0, 1, 0, 0, 1, 0, 1, 1, 1, 1, 0, 1, 0]) g7 (fun v k => hideF (runL (X n) (A7 n) g7 n v k))
noncomputable def A11 (n : Nat) : AC R := (oc R (fsub Tryd.f44 [1, 0, 1, 0, 0, 1, 0, 1, 1, 1, 1, 1, 1]))
noncomputable def B11 (n : Nat) : AC R := .cut (fsub Tryd.f44 [1, 0, 1, 0, 0, 1, 0, 1, 1, 1, 1, 1, 1]) g11 (fun v k => hideF (runR (X n) (A11 n) g11 v k))
noncomputable def A10 (n : Nat) : AC R := (.seq (oc R (fsub Tryd.f44 [1, 0, 1, 0, 0, 1, 0, 1, 1, 1, 1, 1, 0])) (B11 n))
noncomputable def B10 (n : Nat) : AC R := .cut (fsub Tryd.f44 [1, 0, 1, 0, 0, 1, 0, 1, 1, 1, 1, 1]) g10 (fun v k => hideF (runR (X n) (A10 n) g10 v k))
noncomputable def A6 (n : Nat) : AC R := (.seq (.seq (oc R (fsub Tryd.f44 [1, 0, 1, 0, 0, 1, 0, 1, 1, 1, 1, 0, 0])) (.block 3 (B7 n))) (B10 n))
noncomputable def B6 (n : Nat) : AC R := .cut (fsub Tryd.f44 [1, 0, 1, 0, 0, 1, 0, 1, 1, 1, 1]) g6 (fun v k => hideF (runR (X n) (A6 n) g6 v k))
noncomputable def A5 (n : Nat) : AC R := (.seq (oc R (fsub Tryd.f44 [1, 0, 1, 0, 0, 1, 0, 1, 1, 1, 0])) (B6 n))
noncomputable def B5 (n : Nat) : AC R := .cut (fsub Tryd.f44 [1, 0, 1, 0, 0, 1, 0, 1, 1, 1]) g5 (fun v k => hideF (runR (X n) (A5 n) g5 v k))
noncomputable def A1 (n : Nat) : AC R := (.seq (oc R (fsub Tryd.f44 [1, 0, 1, 0, 0, 0])) (.block 1 (.seq (oc R (fsub Tryd.f44 [1, 0, 1, 0, 0, 1, 0, 0])) (.seq (oc R (fsub Tryd.f44 [1, 0, 1, 0, 0, 1, 0, 1, 0])) (.seq (.block 2 (.seq (oc R (fsub Tryd.f44 [1, 0, 1, 0, 0, 1, 0, 1, 1, 0, 0, 0])) (.cond (.tmp 18) (oc R (fsub Tryd.f44 [1, 0, 1, 0, 0, 1, 0, 1, 1, 0, 0, 1, 0])) (.seq (oc R (fsub Tryd.f44 [1, 0, 1, 0, 0, 1, 0, 1, 1, 0, 0, 1, 1, 0])) (B2 n))))) (B5 n))))))
noncomputable def B1 (n : Nat) : AC R := .cut (fsub Tryd.f44 [1, 0, 1, 0]) g1 (fun v k => hideF (runL (X n) (A1 n) g1 n v k))
noncomputable def A12 (n : Nat) : AC R := (oc R (fsub Tryd.f44 [1, 1]))
noncomputable def B12 (n : Nat) : AC R := .cut (fsub Tryd.f44 [1, 1]) g12 (fun v k => hideF (runR (X n) (A12 n) g12 v k))
noncomputable def A0 (n : Nat) : AC R := (.seq (oc R (fsub Tryd.f44 [0])) (.seq (.seq (oc R (fsub Tryd.f44 [1, 0, 0])) (.block 0 (B1 n))) (B12 n)))
noncomputable def k1 (n : Nat) : KK R := (blockK 0 (seqK (fun s => acRun (X n) (B12 n) s (endK ia io)) (endK ia io)))
noncomputable def k12 (n : Nat) : KK R := (endK ia io)
noncomputable def k2 (n : Nat) (m1 : Nat) : KK R := (blockK 2 (seqK (fun s => acRun (X n) (B5 n) s (blockK 1 (loopK (X n).bn g1 (fun v => hideF (runL (X n) (A1 n) g1 m1 v (k1 n))) (k1 n)))) (blockK 1 (loopK (X n).bn g1 (fun v => hideF (runL (X n) (A1 n) g1 m1 v (k1 n))) (k1 n)))))
noncomputable def k5 (n : Nat) (m1 : Nat) : KK R := (blockK 1 (loopK (X n).bn g1 (fun v => hideF (runL (X n) (A1 n) g1 m1 v (k1 n))) (k1 n)))
noncomputable def k6 (n : Nat) (m1 : Nat) : KK R := (k5 n m1)
noncomputable def k7 (n : Nat) (m1 : Nat) : KK R := (blockK 3 (seqK (fun s => acRun (X n) (B10 n) s (k6 n m1)) (k6 n m1)))
noncomputable def k10 (n : Nat) (m1 : Nat) : KK R := (k6 n m1)
noncomputable def k11 (n : Nat) (m1 : Nat) : KK R := (k10 n m1)
noncomputable def k3 (n : Nat) (m1 : Nat) : KK R := (k2 n m1)
noncomputable def k8 (n : Nat) (m1 : Nat) (m7 : Nat) : KK R := (blockK 4 (seqK (fun s => acRun (X n) (B9 n) s (loopK (X n).bn g7 (fun v => hideF (runL (X n) (A7 n) g7 m7 v (k7 n m1))) (k7 n m1))) (loopK (X n).bn g7 (fun v => hideF (runL (X n) (A7 n) g7 m7 v (k7 n m1))) (k7 n m1))))
noncomputable def k9 (n : Nat) (m1 : Nat) (m7 : Nat) : KK R := (loopK (X n).bn g7 (fun v => hideF (runL (X n) (A7 n) g7 m7 v (k7 n m1))) (k7 n m1))
noncomputable def k4 (n : Nat) (m1 : Nat) : KK R := (k3 n m1)
noncomputable def S0 (n : Nat) (j1 : Dens g1 → Option R) (s_ : ByteArray) : Option R :=
  j1 (s_, 0, ())
noncomputable def S1 (n : Nat) (j5 : Dens g5 → Option R) (j2 : Dens g2 → Option R) (j12 : Dens g12 → Option R) (s_ : ByteArray) (at_ : Int) : Option R :=
  bIf ((hide (decide (at_ < (s_.size : Int))))) (
    gIf (0 ≤ at_ ∧ at_ < (s_.size : Int)) (
      bIf ((hide (decide ((IntKind.i64.wrap (bt s_ at_)) < (128 : Int))))) (
        j5 (s_, at_, (IntKind.i64.wrap (bt s_ at_)), 1, (IntKind.i64.wrap (bt s_ at_)), 0, ())
        ) (
        bIf ((hide (decide ((IntKind.i64.wrap (bt s_ at_)) ≥ (192 : Int))))) (
          j2 (s_, at_, (IntKind.i64.wrap (bt s_ at_)), (hide (decide ((IntKind.i64.wrap (bt s_ at_)) < (224 : Int)))), ())
          ) (
          j2 (s_, at_, (IntKind.i64.wrap (bt s_ at_)), false, ())
          )
        )
      )
    ) (
    j12 (())
    )
noncomputable def S2 (n : Nat) (j5 : Dens g5 → Option R) (j3 : Dens g3 → Option R) (s_ : ByteArray) (at_ : Int) (b : Int) (t21 : Bool) : Option R :=
  bIf (t21) (
    j5 (s_, at_, b, 2, (IntKind.i64.wrap (b - (192 : Int))), 128, ())
    ) (
    bIf ((hide (decide (b ≥ (224 : Int))))) (
      j3 (s_, at_, b, (hide (decide (b < (240 : Int)))), ())
      ) (
      j3 (s_, at_, b, false, ())
      )
    )
noncomputable def S3 (n : Nat) (j5 : Dens g5 → Option R) (j4 : Dens g4 → Option R) (s_ : ByteArray) (at_ : Int) (b : Int) (t30 : Bool) : Option R :=
  bIf (t30) (
    j5 (s_, at_, b, 3, (IntKind.i64.wrap (b - (224 : Int))), 2048, ())
    ) (
    bIf ((hide (decide (b ≥ (240 : Int))))) (
      j4 (s_, at_, b, (hide (decide (b < (248 : Int)))), ())
      ) (
      j4 (s_, at_, b, false, ())
      )
    )
noncomputable def S4 (n : Nat) (j5 : Dens g5 → Option R) (s_ : ByteArray) (at_ : Int) (b : Int) (t39 : Bool) : Option R :=
  bIf (t39) (
    j5 (s_, at_, b, 4, (IntKind.i64.wrap (b - (240 : Int))), 65536, ())
    ) (
    some (false, ())
    )
noncomputable def S5 (n : Nat) (j6 : Dens g6 → Option R) (s_ : ByteArray) (at_ : Int) (b : Int) (n_ : Int) (r : Int) (least : Int) : Option R :=
  bIf ((hide (decide (b < (32 : Int))))) (
    some (false, ())
    ) (
    bIf ((hide (b == (127 : Int)))) (
      some (false, ())
      ) (
      j6 (s_, at_, n_, r, least, ())
      )
    )
noncomputable def S6 (n : Nat) (j7 : Dens g7 → Option R) (s_ : ByteArray) (at_ : Int) (n_ : Int) (r : Int) (least : Int) : Option R :=
  j7 (s_, at_, n_, r, least, 1, ())
noncomputable def S7 (n : Nat) (j8 : Dens g8 → Option R) (j10 : Dens g10 → Option R) (s_ : ByteArray) (at_ : Int) (n_ : Int) (r : Int) (least : Int) (i : Int) : Option R :=
  bIf ((hide (decide (i < n_)))) (
    bIf ((hide (decide ((IntKind.i64.wrap (at_ + i)) ≥ (s_.size : Int))))) (
      some (false, ())
      ) (
      gIf (0 ≤ (IntKind.i64.wrap (at_ + i)) ∧ (IntKind.i64.wrap (at_ + i)) < (s_.size : Int)) (
        bIf ((hide (decide ((bt s_ (IntKind.i64.wrap (at_ + i))) < (128 : Int))))) (
          some (false, ())
          ) (
          gIf (0 ≤ (IntKind.i64.wrap (at_ + i)) ∧ (IntKind.i64.wrap (at_ + i)) < (s_.size : Int)) (
            bIf ((hide (decide ((bt s_ (IntKind.i64.wrap (at_ + i))) ≥ (192 : Int))))) (
              some (false, ())
              ) (
              j8 (s_, at_, n_, r, least, i, ())
              )
            )
          )
        )
      )
    ) (
    j10 (s_, at_, n_, r, least, ())
    )
noncomputable def S8 (n : Nat) (j9 : Dens g9 → Option R) (s_ : ByteArray) (at_ : Int) (n_ : Int) (r : Int) (least : Int) (i : Int) : Option R :=
  gIf (0 ≤ (IntKind.i64.wrap (at_ + i)) ∧ (IntKind.i64.wrap (at_ + i)) < (s_.size : Int)) (
    j9 (s_, at_, n_, (IntKind.i64.wrap ((IntKind.i64.wrap ((IntKind.i64.wrap (r * (64 : Int))) + (IntKind.i64.wrap (bt s_ (IntKind.i64.wrap (at_ + i)))))) - (128 : Int))), least, i, ())
    )
noncomputable def S9 (n : Nat) (j7 : Dens g7 → Option R) (s_ : ByteArray) (at_ : Int) (n_ : Int) (r : Int) (least : Int) (i : Int) : Option R :=
  j7 (s_, at_, n_, r, least, (IntKind.i64.wrap (i + (1 : Int))), ())
noncomputable def S10 (n : Nat) (j11 : Dens g11 → Option R) (s_ : ByteArray) (at_ : Int) (n_ : Int) (r : Int) (least : Int) : Option R :=
  bIf ((hide (decide (r < least)))) (
    some (false, ())
    ) (
    bIf ((hide (decide (r > (1114111 : Int))))) (
      some (false, ())
      ) (
      bIf ((hide (decide (r ≥ (55296 : Int))))) (
        bIf ((hide (decide (r ≤ (57343 : Int))))) (
          some (false, ())
          ) (
          j11 (s_, at_, n_, ())
          )
        ) (
        j11 (s_, at_, n_, ())
        )
      )
    )
noncomputable def S11 (n : Nat) (j1 : Dens g1 → Option R) (s_ : ByteArray) (at_ : Int) (n_ : Int) : Option R :=
  j1 (s_, (IntKind.i64.wrap (at_ + n_)), ())
noncomputable def S12 (n : Nat) : Option R :=
  some (true, ())
theorem e0 (n : Nat) (v : DIn ia) : acRun (X n) (A0 n) (frameOf (X n).len (inSig 0 ia) v) (endK ia io) = S0 n (fun v => hideF (runL (X n) (A1 n) g1 n v (k1 n))) v.1 := by kernel_rfl
theorem e1 (n : Nat) (m1 : Nat) (v : Dens g1) : runL (X n) (A1 n) g1 (m1 + 1) v (k1 n) = S1 n (fun v => hideF (runR (X n) (A5 n) g5 v (k5 n m1))) (fun v => hideF (runR (X n) (A2 n) g2 v (k2 n m1))) (fun v => hideF (runR (X n) (A12 n) g12 v (k12 n))) v.1 v.2.1 := by kernel_rfl
theorem e2 (n : Nat) (m1 : Nat) (v : Dens g2) : runR (X n) (A2 n) g2 v (k2 n m1) = S2 n (fun v => hideF (runR (X n) (A5 n) g5 v (k5 n m1))) (fun v => hideF (runR (X n) (A3 n) g3 v (k3 n m1))) v.1 v.2.1 v.2.2.1 v.2.2.2.1 := by kernel_rfl
theorem e3 (n : Nat) (m1 : Nat) (v : Dens g3) : runR (X n) (A3 n) g3 v (k3 n m1) = S3 n (fun v => hideF (runR (X n) (A5 n) g5 v (k5 n m1))) (fun v => hideF (runR (X n) (A4 n) g4 v (k4 n m1))) v.1 v.2.1 v.2.2.1 v.2.2.2.1 := by kernel_rfl
theorem e4 (n : Nat) (m1 : Nat) (v : Dens g4) : runR (X n) (A4 n) g4 v (k4 n m1) = S4 n (fun v => hideF (runR (X n) (A5 n) g5 v (k5 n m1))) v.1 v.2.1 v.2.2.1 v.2.2.2.1 := by kernel_rfl
theorem e5 (n : Nat) (m1 : Nat) (v : Dens g5) : runR (X n) (A5 n) g5 v (k5 n m1) = S5 n (fun v => hideF (runR (X n) (A6 n) g6 v (k6 n m1))) v.1 v.2.1 v.2.2.1 v.2.2.2.1 v.2.2.2.2.1 v.2.2.2.2.2.1 := by kernel_rfl
theorem e6 (n : Nat) (m1 : Nat) (v : Dens g6) : runR (X n) (A6 n) g6 v (k6 n m1) = S6 n (fun v => hideF (runL (X n) (A7 n) g7 n v (k7 n m1))) v.1 v.2.1 v.2.2.1 v.2.2.2.1 v.2.2.2.2.1 := by kernel_rfl
theorem e7 (n : Nat) (m1 : Nat) (m7 : Nat) (v : Dens g7) : runL (X n) (A7 n) g7 (m7 + 1) v (k7 n m1) = S7 n (fun v => hideF (runR (X n) (A8 n) g8 v (k8 n m1 m7))) (fun v => hideF (runR (X n) (A10 n) g10 v (k10 n m1))) v.1 v.2.1 v.2.2.1 v.2.2.2.1 v.2.2.2.2.1 v.2.2.2.2.2.1 := by kernel_rfl
theorem e8 (n : Nat) (m1 : Nat) (m7 : Nat) (v : Dens g8) : runR (X n) (A8 n) g8 v (k8 n m1 m7) = S8 n (fun v => hideF (runR (X n) (A9 n) g9 v (k9 n m1 m7))) v.1 v.2.1 v.2.2.1 v.2.2.2.1 v.2.2.2.2.1 v.2.2.2.2.2.1 := by kernel_rfl
theorem e9 (n : Nat) (m1 : Nat) (m7 : Nat) (v : Dens g9) : runR (X n) (A9 n) g9 v (k9 n m1 m7) = S9 n (fun v => hideF (runL (X n) (A7 n) g7 m7 v (k7 n m1))) v.1 v.2.1 v.2.2.1 v.2.2.2.1 v.2.2.2.2.1 v.2.2.2.2.2.1 := by kernel_rfl
theorem e10 (n : Nat) (m1 : Nat) (v : Dens g10) : runR (X n) (A10 n) g10 v (k10 n m1) = S10 n (fun v => hideF (runR (X n) (A11 n) g11 v (k11 n m1))) v.1 v.2.1 v.2.2.1 v.2.2.2.1 v.2.2.2.2.1 := by kernel_rfl
theorem e11 (n : Nat) (m1 : Nat) (v : Dens g11) : runR (X n) (A11 n) g11 v (k11 n m1) = S11 n (fun v => hideF (runL (X n) (A1 n) g1 m1 v (k1 n))) v.1 v.2.1 v.2.2.1 := by kernel_rfl
theorem e12 (n : Nat) (v : Dens g12) : runR (X n) (A12 n) g12 v (k12 n) = S12 n := by kernel_rfl
noncomputable def J9 (n : Nat) (r1 : Dens g1 → Option R) (r7 : Dens g7 → Option R) : Dens g9 → Option R := fun v => S9 n r7 v.1 v.2.1 v.2.2.1 v.2.2.2.1 v.2.2.2.2.1 v.2.2.2.2.2.1
theorem h9 (n : Nat) (m1 : Nat) (m7 : Nat) : (fun v => runR (X n) (A9 n) g9 v (k9 n m1 m7)) = J9 n (fun v => (runL (X n) (A1 n) g1 m1 v (k1 n))) (fun v => (runL (X n) (A7 n) g7 m7 v (k7 n m1))) :=
  funext fun v => (e9 n m1 m7 v).trans (by (try simp only [hideF_eq]); rfl)
noncomputable def J8 (n : Nat) (r1 : Dens g1 → Option R) (r7 : Dens g7 → Option R) : Dens g8 → Option R := fun v => S8 n (J9 n r1 r7) v.1 v.2.1 v.2.2.1 v.2.2.2.1 v.2.2.2.2.1 v.2.2.2.2.2.1
theorem h8 (n : Nat) (m1 : Nat) (m7 : Nat) : (fun v => runR (X n) (A8 n) g8 v (k8 n m1 m7)) = J8 n (fun v => (runL (X n) (A1 n) g1 m1 v (k1 n))) (fun v => (runL (X n) (A7 n) g7 m7 v (k7 n m1))) :=
  funext fun v => (e8 n m1 m7 v).trans (by (try simp only [hideF_eq]); rw [h9 n m1 m7]; rfl)
noncomputable def J11 (n : Nat) (r1 : Dens g1 → Option R) : Dens g11 → Option R := fun v => S11 n r1 v.1 v.2.1 v.2.2.1
theorem h11 (n : Nat) (m1 : Nat) : (fun v => runR (X n) (A11 n) g11 v (k11 n m1)) = J11 n (fun v => (runL (X n) (A1 n) g1 m1 v (k1 n))) :=
  funext fun v => (e11 n m1 v).trans (by (try simp only [hideF_eq]); rfl)
noncomputable def J10 (n : Nat) (r1 : Dens g1 → Option R) : Dens g10 → Option R := fun v => S10 n (J11 n r1) v.1 v.2.1 v.2.2.1 v.2.2.2.1 v.2.2.2.2.1
theorem h10 (n : Nat) (m1 : Nat) : (fun v => runR (X n) (A10 n) g10 v (k10 n m1)) = J10 n (fun v => (runL (X n) (A1 n) g1 m1 v (k1 n))) :=
  funext fun v => (e10 n m1 v).trans (by (try simp only [hideF_eq]); rw [h11 n m1]; rfl)
noncomputable def J7 (n : Nat) (r1 : Dens g1 → Option R) : Nat → Dens g7 → Option R
  | 0, _ => none
  | m + 1, v => S7 n (J8 n r1 (J7 n r1 m)) (J10 n r1) v.1 v.2.1 v.2.2.1 v.2.2.2.1 v.2.2.2.2.1 v.2.2.2.2.2.1
theorem h7 (n : Nat) (m1 : Nat) : ∀ m, (fun v => runL (X n) (A7 n) g7 m v (k7 n m1)) = J7 n (fun v => (runL (X n) (A1 n) g1 m1 v (k1 n))) m
  | 0 => rfl
  | m + 1 => funext fun v => (e7 n m1 m v).trans (by (try simp only [hideF_eq]); rw [h8 n m1 m, h10 n m1]; rw [h7 n m1 m]; rfl)
noncomputable def J6 (n : Nat) (r1 : Dens g1 → Option R) : Dens g6 → Option R := fun v => S6 n (J7 n r1 n) v.1 v.2.1 v.2.2.1 v.2.2.2.1 v.2.2.2.2.1
theorem h6 (n : Nat) (m1 : Nat) : (fun v => runR (X n) (A6 n) g6 v (k6 n m1)) = J6 n (fun v => (runL (X n) (A1 n) g1 m1 v (k1 n))) :=
  funext fun v => (e6 n m1 v).trans (by (try simp only [hideF_eq]); rw [h7 n m1 n]; rfl)
noncomputable def J5 (n : Nat) (r1 : Dens g1 → Option R) : Dens g5 → Option R := fun v => S5 n (J6 n r1) v.1 v.2.1 v.2.2.1 v.2.2.2.1 v.2.2.2.2.1 v.2.2.2.2.2.1
theorem h5 (n : Nat) (m1 : Nat) : (fun v => runR (X n) (A5 n) g5 v (k5 n m1)) = J5 n (fun v => (runL (X n) (A1 n) g1 m1 v (k1 n))) :=
  funext fun v => (e5 n m1 v).trans (by (try simp only [hideF_eq]); rw [h6 n m1]; rfl)
noncomputable def J4 (n : Nat) (r1 : Dens g1 → Option R) : Dens g4 → Option R := fun v => S4 n (J5 n r1) v.1 v.2.1 v.2.2.1 v.2.2.2.1
theorem h4 (n : Nat) (m1 : Nat) : (fun v => runR (X n) (A4 n) g4 v (k4 n m1)) = J4 n (fun v => (runL (X n) (A1 n) g1 m1 v (k1 n))) :=
  funext fun v => (e4 n m1 v).trans (by (try simp only [hideF_eq]); rw [h5 n m1]; rfl)
noncomputable def J3 (n : Nat) (r1 : Dens g1 → Option R) : Dens g3 → Option R := fun v => S3 n (J5 n r1) (J4 n r1) v.1 v.2.1 v.2.2.1 v.2.2.2.1
theorem h3 (n : Nat) (m1 : Nat) : (fun v => runR (X n) (A3 n) g3 v (k3 n m1)) = J3 n (fun v => (runL (X n) (A1 n) g1 m1 v (k1 n))) :=
  funext fun v => (e3 n m1 v).trans (by (try simp only [hideF_eq]); rw [h5 n m1, h4 n m1]; rfl)
noncomputable def J2 (n : Nat) (r1 : Dens g1 → Option R) : Dens g2 → Option R := fun v => S2 n (J5 n r1) (J3 n r1) v.1 v.2.1 v.2.2.1 v.2.2.2.1
theorem h2 (n : Nat) (m1 : Nat) : (fun v => runR (X n) (A2 n) g2 v (k2 n m1)) = J2 n (fun v => (runL (X n) (A1 n) g1 m1 v (k1 n))) :=
  funext fun v => (e2 n m1 v).trans (by (try simp only [hideF_eq]); rw [h5 n m1, h3 n m1]; rfl)
noncomputable def J12 (n : Nat) : Dens g12 → Option R := fun v => S12 n
theorem h12 (n : Nat) : (fun v => runR (X n) (A12 n) g12 v (k12 n)) = J12 n :=
  funext fun v => (e12 n v).trans (by (try simp only [hideF_eq]); rfl)
noncomputable def J1 (n : Nat) : Nat → Dens g1 → Option R
  | 0, _ => none
  | m + 1, v => S1 n (J5 n (J1 n m)) (J2 n (J1 n m)) (J12 n) v.1 v.2.1
theorem h1 (n : Nat) : ∀ m, (fun v => runL (X n) (A1 n) g1 m v (k1 n)) = J1 n m
  | 0 => rfl
  | m + 1 => funext fun v => (e1 n m v).trans (by (try simp only [hideF_eq]); rw [h5 n m, h2 n m, h12 n]; rw [h1 n m]; rfl)
noncomputable def f (n : Nat) (s_ : ByteArray) : Option R := S0 n (J1 n n) s_
theorem link (n : Nat) (v : DIn ia) : acRun (X n) (A0 n) (frameOf (X n).len (inSig 0 ia) v) (endK ia io) = f n v.1 :=
  (e0 n v).trans (by (try simp only [hideF_eq]); rw [h1 n n]; rfl)
theorem phi (n : Nat) : ∀ e ∈ (X n).c.Φ, EntryOk Tryd.prog e := allE_nil
theorem o8 (n : Nat) : (A8 n).Ok Tryd.prog (X n) := (oc_ok _)
theorem b8 (n : Nat) : (B8 n).Ok Tryd.prog (X n) := runR_ok mixed tabIs (phi n) (o8 n) (by kernel_rfl)
theorem o4 (n : Nat) : (A4 n).Ok Tryd.prog (X n) := (oc_ok _)
theorem b4 (n : Nat) : (B4 n).Ok Tryd.prog (X n) := runR_ok mixed tabIs (phi n) (o4 n) (by kernel_rfl)
theorem o9 (n : Nat) : (A9 n).Ok Tryd.prog (X n) := (oc_ok _)
theorem b9 (n : Nat) : (B9 n).Ok Tryd.prog (X n) := runR_ok mixed tabIs (phi n) (o9 n) (by kernel_rfl)
theorem o3 (n : Nat) : (A3 n).Ok Tryd.prog (X n) := ⟨(oc_ok _), ⟨(oc_ok _), (b4 n)⟩⟩
theorem b3 (n : Nat) : (B3 n).Ok Tryd.prog (X n) := runR_ok mixed tabIs (phi n) (o3 n) (by kernel_rfl)
theorem o2 (n : Nat) : (A2 n).Ok Tryd.prog (X n) := ⟨(oc_ok _), ⟨(oc_ok _), (b3 n)⟩⟩
theorem b2 (n : Nat) : (B2 n).Ok Tryd.prog (X n) := runR_ok mixed tabIs (phi n) (o2 n) (by kernel_rfl)
theorem o7 (n : Nat) : (A7 n).Ok Tryd.prog (X n) := ⟨(oc_ok _), ⟨⟨(oc_ok _), (b8 n)⟩, (b9 n)⟩⟩
theorem b7 (n : Nat) : (B7 n).Ok Tryd.prog (X n) := runL_ok mixed tabIs (phi n) (o7 n) (by kernel_rfl) n
theorem o11 (n : Nat) : (A11 n).Ok Tryd.prog (X n) := (oc_ok _)
theorem b11 (n : Nat) : (B11 n).Ok Tryd.prog (X n) := runR_ok mixed tabIs (phi n) (o11 n) (by kernel_rfl)
theorem o10 (n : Nat) : (A10 n).Ok Tryd.prog (X n) := ⟨(oc_ok _), (b11 n)⟩
theorem b10 (n : Nat) : (B10 n).Ok Tryd.prog (X n) := runR_ok mixed tabIs (phi n) (o10 n) (by kernel_rfl)
theorem o6 (n : Nat) : (A6 n).Ok Tryd.prog (X n) := ⟨⟨(oc_ok _), (b7 n)⟩, (b10 n)⟩
theorem b6 (n : Nat) : (B6 n).Ok Tryd.prog (X n) := runR_ok mixed tabIs (phi n) (o6 n) (by kernel_rfl)
theorem o5 (n : Nat) : (A5 n).Ok Tryd.prog (X n) := ⟨(oc_ok _), (b6 n)⟩
theorem b5 (n : Nat) : (B5 n).Ok Tryd.prog (X n) := runR_ok mixed tabIs (phi n) (o5 n) (by kernel_rfl)
theorem o1 (n : Nat) : (A1 n).Ok Tryd.prog (X n) := ⟨(oc_ok _), ⟨(oc_ok _), ⟨(oc_ok _), ⟨⟨(oc_ok _), ⟨(oc_ok _), ⟨(oc_ok _), (b2 n)⟩⟩⟩, (b5 n)⟩⟩⟩⟩
theorem b1 (n : Nat) : (B1 n).Ok Tryd.prog (X n) := runL_ok mixed tabIs (phi n) (o1 n) (by kernel_rfl) n
theorem o12 (n : Nat) : (A12 n).Ok Tryd.prog (X n) := (oc_ok _)
theorem b12 (n : Nat) : (B12 n).Ok Tryd.prog (X n) := runR_ok mixed tabIs (phi n) (o12 n) (by kernel_rfl)
theorem o0 (n : Nat) : (A0 n).Ok Tryd.prog (X n) := ⟨(oc_ok _), ⟨⟨(oc_ok _), (b1 n)⟩, (b12 n)⟩⟩
theorem ok (n : Nat) : FnOk Tryd.prog 44 ia io (fun v => f n v.1) :=
  fn_ok (x := X n) (A := A0 n) mixed tabIs (phi n) Tryd.func44 (by kernel_rfl) (by kernel_rfl) rfl (o0 n) (fun v u h => (link n v).trans h)
noncomputable def en (n : Nat) : Entry := mkEntry 44 ia io (fun v => f n v.1)
end f44
end Go.Proofs.YtnlckhekcklcpaaDoor


namespace Go.Proofs.YtnlckhekcklcpaaDoor
open Go Go.Va Go.Proofs
/- chartulary/when.Clamp -/
namespace f33
abbrev ia : List Ai := [.val (.d (.int .i64))]
abbrev io : List (Nat × Oi) := [(2, .val (.d (.int .i64)))]
abbrev R : Type := DOut ia io
noncomputable def X (n : Nat) : Ctx := ⟨⟨tab, [], 0⟩, 6, bnOf 0 ia⟩
noncomputable def A0 (n : Nat) : AC R := (oc R (fsub Tryd.f33 []))
noncomputable def S0 (n : Nat) (t : Int) : Option R :=
  some ((maxI .i64 (-62135596800) (minI .i64 t 253402300799)), ())
theorem e0 (n : Nat) (v : DIn ia) : acRun (X n) (A0 n) (frameOf (X n).len (inSig 0 ia) v) (endK ia io) = S0 n v.1 := by kernel_rfl
noncomputable def f (n : Nat) (t : Int) : Option R := S0 n t
theorem link (n : Nat) (v : DIn ia) : acRun (X n) (A0 n) (frameOf (X n).len (inSig 0 ia) v) (endK ia io) = f n v.1 :=
  (e0 n v).trans (by (try simp only [hideF_eq]); rfl)
theorem phi (n : Nat) : ∀ e ∈ (X n).c.Φ, EntryOk Tryd.prog e := allE_nil
theorem o0 (n : Nat) : (A0 n).Ok Tryd.prog (X n) := (oc_ok _)
theorem ok (n : Nat) : FnOk Tryd.prog 33 ia io (fun v => f n v.1) :=
  fn_ok (x := X n) (A := A0 n) mixed tabIs (phi n) Tryd.func33 (by kernel_rfl) (by kernel_rfl) rfl (o0 n) (fun v u h => (link n v).trans h)
noncomputable def en (n : Nat) : Entry := mkEntry 33 ia io (fun v => f n v.1)
end f33
end Go.Proofs.YtnlckhekcklcpaaDoor


namespace Go.Proofs.YtnlckhekcklcpaaDoor
open Go Go.Va Go.Proofs
/- chartulary/chartularyref05.Clamp -/
namespace f36
abbrev ia : List Ai := [.val (.d (.int .i64))]
abbrev io : List (Nat × Oi) := [(2, .val (.d (.int .i64)))]
abbrev R : Type := DOut ia io
noncomputable def X (n : Nat) : Ctx := ⟨⟨tab, [], 0⟩, 8, bnOf 0 ia⟩
noncomputable def A0 (n : Nat) : AC R := (oc R (fsub Tryd.f36 []))
noncomputable def S0 (n : Nat) (t : Int) : Option R :=
  bIf ((hide (decide (t < (-62135596800 : Int))))) (
    some ((-62135596800), ())
    ) (
    bIf ((hide (decide (t > (253402300799 : Int))))) (
      some (253402300799, ())
      ) (
      some (t, ())
      )
    )
theorem e0 (n : Nat) (v : DIn ia) : acRun (X n) (A0 n) (frameOf (X n).len (inSig 0 ia) v) (endK ia io) = S0 n v.1 := by kernel_rfl
noncomputable def f (n : Nat) (t : Int) : Option R := S0 n t
theorem link (n : Nat) (v : DIn ia) : acRun (X n) (A0 n) (frameOf (X n).len (inSig 0 ia) v) (endK ia io) = f n v.1 :=
  (e0 n v).trans (by (try simp only [hideF_eq]); rfl)
theorem phi (n : Nat) : ∀ e ∈ (X n).c.Φ, EntryOk Tryd.prog e := allE_nil
theorem o0 (n : Nat) : (A0 n).Ok Tryd.prog (X n) := (oc_ok _)
theorem ok (n : Nat) : FnOk Tryd.prog 36 ia io (fun v => f n v.1) :=
  fn_ok (x := X n) (A := A0 n) mixed tabIs (phi n) Tryd.func36 (by kernel_rfl) (by kernel_rfl) rfl (o0 n) (fun v u h => (link n v).trans h)
noncomputable def en (n : Nat) : Entry := mkEntry 36 ia io (fun v => f n v.1)
end f36
end Go.Proofs.YtnlckhekcklcpaaDoor


namespace Go.Proofs.YtnlckhekcklcpaaDoor
open Go Go.Va Go.Proofs
/- chartulary/mode.Sound -/
namespace f34
abbrev ia : List Ai := [.val (.d t28)]
abbrev io : List (Nat × Oi) := [(2, .val (.d .bool))]
abbrev R : Type := DOut ia io
noncomputable def X (n : Nat) : Ctx := ⟨⟨tab, [f33.en n], 0⟩, 19, bnOf 0 ia⟩
abbrev g1 : List Si := [.ref 1 1 t28, .val 10 (.d .bool), .box 1 (.d t28)]
noncomputable def A1 (n : Nat) : AC R := (oc R (fsub Tryd.f34 [1, 0, 1, 0, 1, 1, 1]))
noncomputable def B1 (n : Nat) : AC R := .cut (fsub Tryd.f34 [1, 0, 1, 0, 1, 1, 1]) g1 (fun v k => hideF (runR (X n) (A1 n) g1 v k))
noncomputable def A0 (n : Nat) : AC R := (.seq (oc R (fsub Tryd.f34 [0])) (.seq (.seq (oc R (fsub Tryd.f34 [1, 0, 0])) (.block 0 (.seq (oc R (fsub Tryd.f34 [1, 0, 1, 0, 0])) (.cond (.tmp 5) (oc R (fsub Tryd.f34 [1, 0, 1, 0, 1, 0])) (.seq (oc R (fsub Tryd.f34 [1, 0, 1, 0, 1, 1, 0])) (B1 n)))))) (oc R (fsub Tryd.f34 [1, 1]))))
noncomputable def k1 (n : Nat) : KK R := (blockK 0 (seqK (fun s => acRun (X n) (oc R (fsub Tryd.f34 [1, 1])) s (endK ia io)) (endK ia io)))
noncomputable def S0 (n : Nat) (j1 : Dens g1 → Option R) (l : Den t28) : Option R :=
  bIf ((hide (l.1 == (0 : Int)))) (
    some ((hide (l.2.1 == (0 : Int))), ())
    ) (
    bIf ((hide (l.1 == (1 : Int)))) (
      j1 (true, l, ())
      ) (
      j1 ((hide (l.1 == (2 : Int))), l, ())
      )
    )
noncomputable def S1 (n : Nat) (t10 : Bool) (l : Den t28) : Option R :=
  bIf (t10) (
    bnd (f33.f n l.2.1) fun u1 =>
    some ((hide (l.2.1 == u1.1)), ())
    ) (
    some (false, ())
    )
theorem e0 (n : Nat) (v : DIn ia) : acRun (X n) (A0 n) (frameOf (X n).len (inSig 0 ia) v) (endK ia io) = S0 n (fun v => hideF (runR (X n) (A1 n) g1 v (k1 n))) v.1 := by kernel_rfl
theorem e1 (n : Nat) (v : Dens g1) : runR (X n) (A1 n) g1 v (k1 n) = S1 n v.1 v.2.1 := by kernel_rfl
noncomputable def J1 (n : Nat) : Dens g1 → Option R := fun v => S1 n v.1 v.2.1
theorem h1 (n : Nat) : (fun v => runR (X n) (A1 n) g1 v (k1 n)) = J1 n :=
  funext fun v => (e1 n v).trans (by (try simp only [hideF_eq]); rfl)
noncomputable def f (n : Nat) (l : Den t28) : Option R := S0 n (J1 n) l
theorem link (n : Nat) (v : DIn ia) : acRun (X n) (A0 n) (frameOf (X n).len (inSig 0 ia) v) (endK ia io) = f n v.1 :=
  (e0 n v).trans (by (try simp only [hideF_eq]); rw [h1 n]; rfl)
theorem phi (n : Nat) : ∀ e ∈ (X n).c.Φ, EntryOk Tryd.prog e := allE_cons (mkEntry_ok (f33.ok n)) (allE_nil)
theorem o1 (n : Nat) : (A1 n).Ok Tryd.prog (X n) := (oc_ok _)
theorem b1 (n : Nat) : (B1 n).Ok Tryd.prog (X n) := runR_ok mixed tabIs (phi n) (o1 n) (by kernel_rfl)
theorem o0 (n : Nat) : (A0 n).Ok Tryd.prog (X n) := ⟨(oc_ok _), ⟨⟨(oc_ok _), ⟨(oc_ok _), ⟨(oc_ok _), ⟨(oc_ok _), (b1 n)⟩⟩⟩⟩, (oc_ok _)⟩⟩
theorem ok (n : Nat) : FnOk Tryd.prog 34 ia io (fun v => f n v.1) :=
  fn_ok (x := X n) (A := A0 n) mixed tabIs (phi n) Tryd.func34 (by kernel_rfl) (by kernel_rfl) rfl (o0 n) (fun v u h => (link n v).trans h)
noncomputable def en (n : Nat) : Entry := mkEntry 34 ia io (fun v => f n v.1)
end f34
end Go.Proofs.YtnlckhekcklcpaaDoor


namespace Go.Proofs.YtnlckhekcklcpaaDoor
open Go Go.Va Go.Proofs
/- chartulary/chartularyref12.Sound -/
namespace f37
abbrev ia : List Ai := [.val (.d t28)]
abbrev io : List (Nat × Oi) := [(2, .val (.d .bool))]
abbrev R : Type := DOut ia io
noncomputable def X (n : Nat) : Ctx := ⟨⟨tab, [f36.en n], 0⟩, 25, bnOf 0 ia⟩
noncomputable def A0 (n : Nat) : AC R := (oc R (fsub Tryd.f37 []))
noncomputable def S0 (n : Nat) (l : Den t28) : Option R :=
  bIf ((hide (l.1 == (0 : Int)))) (
    some ((hide (l.2.1 == (0 : Int))), ())
    ) (
    bIf ((hide (l.1 == (1 : Int)))) (
      bnd (f36.f n l.2.1) fun u1 =>
      some ((hide (u1.1 == l.2.1)), ())
      ) (
      bIf ((hide (l.1 == (2 : Int)))) (
        bnd (f36.f n l.2.1) fun u2 =>
        some ((hide (u2.1 == l.2.1)), ())
        ) (
        some (false, ())
        )
      )
    )
theorem e0 (n : Nat) (v : DIn ia) : acRun (X n) (A0 n) (frameOf (X n).len (inSig 0 ia) v) (endK ia io) = S0 n v.1 := by kernel_rfl
noncomputable def f (n : Nat) (l : Den t28) : Option R := S0 n l
theorem link (n : Nat) (v : DIn ia) : acRun (X n) (A0 n) (frameOf (X n).len (inSig 0 ia) v) (endK ia io) = f n v.1 :=
  (e0 n v).trans (by (try simp only [hideF_eq]); rfl)
theorem phi (n : Nat) : ∀ e ∈ (X n).c.Φ, EntryOk Tryd.prog e := allE_cons (mkEntry_ok (f36.ok n)) (allE_nil)
theorem o0 (n : Nat) : (A0 n).Ok Tryd.prog (X n) := (oc_ok _)
theorem ok (n : Nat) : FnOk Tryd.prog 37 ia io (fun v => f n v.1) :=
  fn_ok (x := X n) (A := A0 n) mixed tabIs (phi n) Tryd.func37 (by kernel_rfl) (by kernel_rfl) rfl (o0 n) (fun v u h => (link n v).trans h)
noncomputable def en (n : Nat) : Entry := mkEntry 37 ia io (fun v => f n v.1)
end f37
end Go.Proofs.YtnlckhekcklcpaaDoor


namespace Go.Proofs.YtnlckhekcklcpaaDoor
open Go Go.Va Go.Proofs
/- chartulary/tags.good -/
namespace f47
abbrev ia : List Ai := [.val (.d t65)]
abbrev io : List (Nat × Oi) := [(2, .val (.d .bool))]
abbrev R : Type := DOut ia io
noncomputable def X (n : Nat) : Ctx := ⟨⟨tab, [f42.en n], 0⟩, 28, bnOf 0 ia⟩
noncomputable def A0 (n : Nat) : AC R := (oc R (fsub Tryd.f47 []))
noncomputable def S0 (n : Nat) (t : Den t65) : Option R :=
  bIf ((hide (!eqS t.1 (⟨#[]⟩ : ByteArray)))) (
    bIf ((hide (decide ((t.1.size : Int) ≤ (64 : Int))))) (
      bIf ((hide (decide ((t.2.1.size : Int) ≤ (64 : Int))))) (
        bnd (f42.f n t.1) fun u1 =>
        bIf (u1.1) (
          bnd (f42.f n t.2.1) fun u2 =>
          some (u2.1, ())
          ) (
          some (false, ())
          )
        ) (
        some (false, ())
        )
      ) (
      some (false, ())
      )
    ) (
    some (false, ())
    )
theorem e0 (n : Nat) (v : DIn ia) : acRun (X n) (A0 n) (frameOf (X n).len (inSig 0 ia) v) (endK ia io) = S0 n v.1 := by kernel_rfl
noncomputable def f (n : Nat) (t : Den t65) : Option R := S0 n t
theorem link (n : Nat) (v : DIn ia) : acRun (X n) (A0 n) (frameOf (X n).len (inSig 0 ia) v) (endK ia io) = f n v.1 :=
  (e0 n v).trans (by (try simp only [hideF_eq]); rfl)
theorem phi (n : Nat) : ∀ e ∈ (X n).c.Φ, EntryOk Tryd.prog e := allE_cons (mkEntry_ok (f42.ok n)) (allE_nil)
theorem o0 (n : Nat) : (A0 n).Ok Tryd.prog (X n) := (oc_ok _)
theorem ok (n : Nat) : FnOk Tryd.prog 47 ia io (fun v => f n v.1) :=
  fn_ok (x := X n) (A := A0 n) mixed tabIs (phi n) Tryd.func47 (by kernel_rfl) (by kernel_rfl) rfl (o0 n) (fun v u h => (link n v).trans h)
noncomputable def en (n : Nat) : Entry := mkEntry 47 ia io (fun v => f n v.1)
end f47
end Go.Proofs.YtnlckhekcklcpaaDoor


namespace Go.Proofs.YtnlckhekcklcpaaDoor
open Go Go.Va Go.Proofs
/- chartulary/tags.Sound -/
namespace f35
abbrev ia : List Ai := [.val (.d (.slice t65))]
abbrev io : List (Nat × Oi) := [(2, .val (.d .bool))]
abbrev R : Type := DOut ia io
noncomputable def X (n : Nat) : Ctx := ⟨⟨tab, [f47.en n], 0⟩, 34, bnOf 0 ia⟩
abbrev g1 : List Si := [.val 0 (.d (.slice t65)), .val 8 (.d (.slice t65)), .val 9 (.d (.int .i64)), .val 10 (.d (.int .i64))]
abbrev g2 : List Si := []
noncomputable def A1 (n : Nat) : AC R := (oc R (fsub Tryd.f35 [1, 1, 0, 1, 0, 0]))
noncomputable def B1 (n : Nat) : AC R := .cut (fsub Tryd.f35 [1, 1, 0, 1, 0]) g1 (fun v k => hideF (runL (X n) (A1 n) g1 n v k))
noncomputable def A2 (n : Nat) : AC R := (oc R (fsub Tryd.f35 [1, 1, 1]))
noncomputable def B2 (n : Nat) : AC R := .cut (fsub Tryd.f35 [1, 1, 1]) g2 (fun v k => hideF (runR (X n) (A2 n) g2 v k))
noncomputable def A0 (n : Nat) : AC R := (.seq (oc R (fsub Tryd.f35 [0])) (.seq (oc R (fsub Tryd.f35 [1, 0])) (.seq (.seq (oc R (fsub Tryd.f35 [1, 1, 0, 0])) (.block 0 (B1 n))) (B2 n))))
noncomputable def k1 (n : Nat) : KK R := (blockK 0 (seqK (fun s => acRun (X n) (B2 n) s (endK ia io)) (endK ia io)))
noncomputable def k2 (n : Nat) : KK R := (endK ia io)
noncomputable def S0 (n : Nat) (j1 : Dens g1 → Option R) (list : List (Den t65)) : Option R :=
  bIf ((hide (decide (((list.length : Nat) : Int) > (8 : Int))))) (
    some (false, ())
    ) (
    j1 (list, list, ((list.length : Nat) : Int), 0, ())
    )
noncomputable def S1 (n : Nat) (j1 : Dens g1 → Option R) (j2 : Dens g2 → Option R) (list : List (Den t65)) (t8 : List (Den t65)) (t9 : Int) (t10 : Int) : Option R :=
  bIf ((hide (decide (t10 < t9)))) (
    gIf (0 ≤ t10 ∧ t10 < ((t8.length : Nat) : Int)) (
      bnd (f47.f n (List.getD t8 t10.toNat (Va.dflt t65))) fun u1 =>
      bIf ((!u1.1)) (
        some (false, ())
        ) (
        bIf ((hide (decide (t10 > (0 : Int))))) (
          gIf (0 ≤ (IntKind.i64.wrap (t10 - (1 : Int))) ∧ (IntKind.i64.wrap (t10 - (1 : Int))) < ((list.length : Nat) : Int)) (
            bIf ((hide (!ltS ((List.getD list ((IntKind.i64.wrap (t10 - (1 : Int))).toNat) (Va.dflt t65)).1) ((List.getD t8 t10.toNat (Va.dflt t65)).1)))) (
              some (false, ())
              ) (
              j1 (list, t8, t9, (IntKind.i64.wrap (t10 + (1 : Int))), ())
              )
            )
          ) (
          j1 (list, t8, t9, (IntKind.i64.wrap (t10 + (1 : Int))), ())
          )
        )
      )
    ) (
    j2 (())
    )
noncomputable def S2 (n : Nat) : Option R :=
  some (true, ())
theorem e0 (n : Nat) (v : DIn ia) : acRun (X n) (A0 n) (frameOf (X n).len (inSig 0 ia) v) (endK ia io) = S0 n (fun v => hideF (runL (X n) (A1 n) g1 n v (k1 n))) v.1 := by kernel_rfl
theorem e1 (n : Nat) (m1 : Nat) (v : Dens g1) : runL (X n) (A1 n) g1 (m1 + 1) v (k1 n) = S1 n (fun v => hideF (runL (X n) (A1 n) g1 m1 v (k1 n))) (fun v => hideF (runR (X n) (A2 n) g2 v (k2 n))) v.1 v.2.1 v.2.2.1 v.2.2.2.1 := by kernel_rfl
theorem e2 (n : Nat) (v : Dens g2) : runR (X n) (A2 n) g2 v (k2 n) = S2 n := by kernel_rfl
noncomputable def J2 (n : Nat) : Dens g2 → Option R := fun v => S2 n
theorem h2 (n : Nat) : (fun v => runR (X n) (A2 n) g2 v (k2 n)) = J2 n :=
  funext fun v => (e2 n v).trans (by (try simp only [hideF_eq]); rfl)
noncomputable def J1 (n : Nat) : Nat → Dens g1 → Option R
  | 0, _ => none
  | m + 1, v => S1 n (J1 n m) (J2 n) v.1 v.2.1 v.2.2.1 v.2.2.2.1
theorem h1 (n : Nat) : ∀ m, (fun v => runL (X n) (A1 n) g1 m v (k1 n)) = J1 n m
  | 0 => rfl
  | m + 1 => funext fun v => (e1 n m v).trans (by (try simp only [hideF_eq]); rw [h2 n]; rw [h1 n m]; rfl)
noncomputable def f (n : Nat) (list : List (Den t65)) : Option R := S0 n (J1 n n) list
theorem link (n : Nat) (v : DIn ia) : acRun (X n) (A0 n) (frameOf (X n).len (inSig 0 ia) v) (endK ia io) = f n v.1 :=
  (e0 n v).trans (by (try simp only [hideF_eq]); rw [h1 n n]; rfl)
theorem phi (n : Nat) : ∀ e ∈ (X n).c.Φ, EntryOk Tryd.prog e := allE_cons (mkEntry_ok (f47.ok n)) (allE_nil)
theorem o1 (n : Nat) : (A1 n).Ok Tryd.prog (X n) := (oc_ok _)
theorem b1 (n : Nat) : (B1 n).Ok Tryd.prog (X n) := runL_ok mixed tabIs (phi n) (o1 n) (by kernel_rfl) n
theorem o2 (n : Nat) : (A2 n).Ok Tryd.prog (X n) := (oc_ok _)
theorem b2 (n : Nat) : (B2 n).Ok Tryd.prog (X n) := runR_ok mixed tabIs (phi n) (o2 n) (by kernel_rfl)
theorem o0 (n : Nat) : (A0 n).Ok Tryd.prog (X n) := ⟨(oc_ok _), ⟨(oc_ok _), ⟨⟨(oc_ok _), (b1 n)⟩, (b2 n)⟩⟩⟩
theorem ok (n : Nat) : FnOk Tryd.prog 35 ia io (fun v => f n v.1) :=
  fn_ok (x := X n) (A := A0 n) mixed tabIs (phi n) Tryd.func35 (by kernel_rfl) (by kernel_rfl) rfl (o0 n) (fun v u h => (link n v).trans h)
noncomputable def en (n : Nat) : Entry := mkEntry 35 ia io (fun v => f n v.1)
end f35
end Go.Proofs.YtnlckhekcklcpaaDoor


namespace Go.Proofs.YtnlckhekcklcpaaDoor
open Go Go.Va Go.Proofs
/- chartulary/chartularyref08.Sound -/
namespace f38
abbrev ia : List Ai := [.val (.d (.slice t65))]
abbrev io : List (Nat × Oi) := [(2, .val (.d .bool))]
abbrev R : Type := DOut ia io
noncomputable def X (n : Nat) : Ctx := ⟨⟨tab, [f44.en n], 0⟩, 72, bnOf 0 ia⟩
abbrev g1 : List Si := [.val 0 (.d (.slice t65)), .val 3 (.d (.int .i64))]
abbrev g2 : List Si := [.val 0 (.d (.slice t65)), .val 3 (.d (.int .i64))]
abbrev g3 : List Si := [.val 0 (.d (.slice t65)), .val 3 (.d (.int .i64))]
abbrev g4 : List Si := []
noncomputable def A2 (n : Nat) : AC R := (oc R (fsub Tryd.f38 [1, 1, 0, 1, 0, 0, 1, 0, 0, 1]))
noncomputable def B2 (n : Nat) : AC R := .cut (fsub Tryd.f38 [1, 1, 0, 1, 0, 0, 1, 0, 0, 1]) g2 (fun v k => hideF (runR (X n) (A2 n) g2 v k))
noncomputable def A3 (n : Nat) : AC R := (oc R (fsub Tryd.f38 [1, 1, 0, 1, 0, 0, 1, 1]))
noncomputable def B3 (n : Nat) : AC R := .cut (fsub Tryd.f38 [1, 1, 0, 1, 0, 0, 1, 1]) g3 (fun v k => hideF (runR (X n) (A3 n) g3 v k))
noncomputable def A1 (n : Nat) : AC R := (.seq (oc R (fsub Tryd.f38 [1, 1, 0, 1, 0, 0, 0])) (.seq (.block 1 (.seq (oc R (fsub Tryd.f38 [1, 1, 0, 1, 0, 0, 1, 0, 0, 0])) (B2 n))) (B3 n)))
noncomputable def B1 (n : Nat) : AC R := .cut (fsub Tryd.f38 [1, 1, 0, 1, 0]) g1 (fun v k => hideF (runL (X n) (A1 n) g1 n v k))
noncomputable def A4 (n : Nat) : AC R := (oc R (fsub Tryd.f38 [1, 1, 1]))
noncomputable def B4 (n : Nat) : AC R := .cut (fsub Tryd.f38 [1, 1, 1]) g4 (fun v k => hideF (runR (X n) (A4 n) g4 v k))
noncomputable def A0 (n : Nat) : AC R := (.seq (oc R (fsub Tryd.f38 [0])) (.seq (oc R (fsub Tryd.f38 [1, 0])) (.seq (.seq (oc R (fsub Tryd.f38 [1, 1, 0, 0])) (.block 0 (B1 n))) (B4 n))))
noncomputable def k1 (n : Nat) : KK R := (blockK 0 (seqK (fun s => acRun (X n) (B4 n) s (endK ia io)) (endK ia io)))
noncomputable def k4 (n : Nat) : KK R := (endK ia io)
noncomputable def k2 (n : Nat) (m1 : Nat) : KK R := (blockK 1 (seqK (fun s => acRun (X n) (B3 n) s (loopK (X n).bn g1 (fun v => hideF (runL (X n) (A1 n) g1 m1 v (k1 n))) (k1 n))) (loopK (X n).bn g1 (fun v => hideF (runL (X n) (A1 n) g1 m1 v (k1 n))) (k1 n))))
noncomputable def k3 (n : Nat) (m1 : Nat) : KK R := (loopK (X n).bn g1 (fun v => hideF (runL (X n) (A1 n) g1 m1 v (k1 n))) (k1 n))
noncomputable def S0 (n : Nat) (j1 : Dens g1 → Option R) (l : List (Den t65)) : Option R :=
  bIf ((hide (decide (((l.length : Nat) : Int) > (8 : Int))))) (
    some (false, ())
    ) (
    j1 (l, 0, ())
    )
noncomputable def S1 (n : Nat) (j2 : Dens g2 → Option R) (j4 : Dens g4 → Option R) (l : List (Den t65)) (i : Int) : Option R :=
  bIf ((hide (decide (i < ((l.length : Nat) : Int))))) (
    gIf (0 ≤ i ∧ i < ((l.length : Nat) : Int)) (
      bIf ((hide (decide ((((List.getD l i.toNat (Va.dflt t65)).1).size : Int) < (1 : Int))))) (
        some (false, ())
        ) (
        gIf (0 ≤ i ∧ i < ((l.length : Nat) : Int)) (
          bIf ((hide (decide ((((List.getD l i.toNat (Va.dflt t65)).1).size : Int) > (64 : Int))))) (
            some (false, ())
            ) (
            gIf (0 ≤ i ∧ i < ((l.length : Nat) : Int)) (
              bIf ((hide (decide (((((List.getD l i.toNat (Va.dflt t65)).2).1).size : Int) > (64 : Int))))) (
                some (false, ())
                ) (
                gIf (0 ≤ i ∧ i < ((l.length : Nat) : Int)) (
                  bnd (f44.f n ((List.getD l i.toNat (Va.dflt t65)).1)) fun u1 =>
                  bIf ((!u1.1)) (
                    some (false, ())
                    ) (
                    gIf (0 ≤ i ∧ i < ((l.length : Nat) : Int)) (
                      bnd (f44.f n (((List.getD l i.toNat (Va.dflt t65)).2).1)) fun u2 =>
                      bIf ((!u2.1)) (
                        some (false, ())
                        ) (
                        j2 (l, i, ())
                        )
                      )
                    )
                  )
                )
              )
            )
          )
        )
      )
    ) (
    j4 (())
    )
noncomputable def S2 (n : Nat) (j3 : Dens g3 → Option R) (l : List (Den t65)) (i : Int) : Option R :=
  bIf ((hide (decide (i > (0 : Int))))) (
    gIf (0 ≤ i ∧ i < ((l.length : Nat) : Int)) (
      gIf (0 ≤ (IntKind.i64.wrap (i - (1 : Int))) ∧ (IntKind.i64.wrap (i - (1 : Int))) < ((l.length : Nat) : Int)) (
        bIf ((hide (ltS ((List.getD l i.toNat (Va.dflt t65)).1) ((List.getD l ((IntKind.i64.wrap (i - (1 : Int))).toNat) (Va.dflt t65)).1) || eqS ((List.getD l i.toNat (Va.dflt t65)).1) ((List.getD l ((IntKind.i64.wrap (i - (1 : Int))).toNat) (Va.dflt t65)).1)))) (
          some (false, ())
          ) (
          j3 (l, i, ())
          )
        )
      )
    ) (
    j3 (l, i, ())
    )
noncomputable def S3 (n : Nat) (j1 : Dens g1 → Option R) (l : List (Den t65)) (i : Int) : Option R :=
  j1 (l, (IntKind.i64.wrap (i + (1 : Int))), ())
noncomputable def S4 (n : Nat) : Option R :=
  some (true, ())
theorem e0 (n : Nat) (v : DIn ia) : acRun (X n) (A0 n) (frameOf (X n).len (inSig 0 ia) v) (endK ia io) = S0 n (fun v => hideF (runL (X n) (A1 n) g1 n v (k1 n))) v.1 := by kernel_rfl
theorem e1 (n : Nat) (m1 : Nat) (v : Dens g1) : runL (X n) (A1 n) g1 (m1 + 1) v (k1 n) = S1 n (fun v => hideF (runR (X n) (A2 n) g2 v (k2 n m1))) (fun v => hideF (runR (X n) (A4 n) g4 v (k4 n))) v.1 v.2.1 := by kernel_rfl
theorem e2 (n : Nat) (m1 : Nat) (v : Dens g2) : runR (X n) (A2 n) g2 v (k2 n m1) = S2 n (fun v => hideF (runR (X n) (A3 n) g3 v (k3 n m1))) v.1 v.2.1 := by kernel_rfl
theorem e3 (n : Nat) (m1 : Nat) (v : Dens g3) : runR (X n) (A3 n) g3 v (k3 n m1) = S3 n (fun v => hideF (runL (X n) (A1 n) g1 m1 v (k1 n))) v.1 v.2.1 := by kernel_rfl
theorem e4 (n : Nat) (v : Dens g4) : runR (X n) (A4 n) g4 v (k4 n) = S4 n := by kernel_rfl
noncomputable def J3 (n : Nat) (r1 : Dens g1 → Option R) : Dens g3 → Option R := fun v => S3 n r1 v.1 v.2.1
theorem h3 (n : Nat) (m1 : Nat) : (fun v => runR (X n) (A3 n) g3 v (k3 n m1)) = J3 n (fun v => (runL (X n) (A1 n) g1 m1 v (k1 n))) :=
  funext fun v => (e3 n m1 v).trans (by (try simp only [hideF_eq]); rfl)
noncomputable def J2 (n : Nat) (r1 : Dens g1 → Option R) : Dens g2 → Option R := fun v => S2 n (J3 n r1) v.1 v.2.1
theorem h2 (n : Nat) (m1 : Nat) : (fun v => runR (X n) (A2 n) g2 v (k2 n m1)) = J2 n (fun v => (runL (X n) (A1 n) g1 m1 v (k1 n))) :=
  funext fun v => (e2 n m1 v).trans (by (try simp only [hideF_eq]); rw [h3 n m1]; rfl)
noncomputable def J4 (n : Nat) : Dens g4 → Option R := fun v => S4 n
theorem h4 (n : Nat) : (fun v => runR (X n) (A4 n) g4 v (k4 n)) = J4 n :=
  funext fun v => (e4 n v).trans (by (try simp only [hideF_eq]); rfl)
noncomputable def J1 (n : Nat) : Nat → Dens g1 → Option R
  | 0, _ => none
  | m + 1, v => S1 n (J2 n (J1 n m)) (J4 n) v.1 v.2.1
theorem h1 (n : Nat) : ∀ m, (fun v => runL (X n) (A1 n) g1 m v (k1 n)) = J1 n m
  | 0 => rfl
  | m + 1 => funext fun v => (e1 n m v).trans (by (try simp only [hideF_eq]); rw [h2 n m, h4 n]; rw [h1 n m]; rfl)
noncomputable def f (n : Nat) (l : List (Den t65)) : Option R := S0 n (J1 n n) l
theorem link (n : Nat) (v : DIn ia) : acRun (X n) (A0 n) (frameOf (X n).len (inSig 0 ia) v) (endK ia io) = f n v.1 :=
  (e0 n v).trans (by (try simp only [hideF_eq]); rw [h1 n n]; rfl)
theorem phi (n : Nat) : ∀ e ∈ (X n).c.Φ, EntryOk Tryd.prog e := allE_cons (mkEntry_ok (f44.ok n)) (allE_nil)
theorem o2 (n : Nat) : (A2 n).Ok Tryd.prog (X n) := (oc_ok _)
theorem b2 (n : Nat) : (B2 n).Ok Tryd.prog (X n) := runR_ok mixed tabIs (phi n) (o2 n) (by kernel_rfl)
theorem o3 (n : Nat) : (A3 n).Ok Tryd.prog (X n) := (oc_ok _)
theorem b3 (n : Nat) : (B3 n).Ok Tryd.prog (X n) := runR_ok mixed tabIs (phi n) (o3 n) (by kernel_rfl)
theorem o1 (n : Nat) : (A1 n).Ok Tryd.prog (X n) := ⟨(oc_ok _), ⟨⟨(oc_ok _), (b2 n)⟩, (b3 n)⟩⟩
theorem b1 (n : Nat) : (B1 n).Ok Tryd.prog (X n) := runL_ok mixed tabIs (phi n) (o1 n) (by kernel_rfl) n
theorem o4 (n : Nat) : (A4 n).Ok Tryd.prog (X n) := (oc_ok _)
theorem b4 (n : Nat) : (B4 n).Ok Tryd.prog (X n) := runR_ok mixed tabIs (phi n) (o4 n) (by kernel_rfl)
theorem o0 (n : Nat) : (A0 n).Ok Tryd.prog (X n) := ⟨(oc_ok _), ⟨(oc_ok _), ⟨⟨(oc_ok _), (b1 n)⟩, (b4 n)⟩⟩⟩
theorem ok (n : Nat) : FnOk Tryd.prog 38 ia io (fun v => f n v.1) :=
  fn_ok (x := X n) (A := A0 n) mixed tabIs (phi n) Tryd.func38 (by kernel_rfl) (by kernel_rfl) rfl (o0 n) (fun v u h => (link n v).trans h)
noncomputable def en (n : Nat) : Entry := mkEntry 38 ia io (fun v => f n v.1)
end f38
end Go.Proofs.YtnlckhekcklcpaaDoor


namespace Go.Proofs.YtnlckhekcklcpaaDoor
open Go Go.Va Go.Proofs
/- slices.Equal[[]chartulary/api.Tag,chartulary/api.Tag] -/
namespace f52
abbrev ia : List Ai := [.val (.d (.slice t65)), .val (.d (.slice t65))]
abbrev io : List (Nat × Oi) := [(4, .val (.d .bool))]
abbrev R : Type := DOut ia io
noncomputable def X (n : Nat) : Ctx := ⟨⟨tab, [], 0⟩, 26, bnOf 0 ia⟩
abbrev g1 : List Si := [.val 0 (.d (.slice t65)), .val 1 (.d (.slice t65)), .val 12 (.d (.int .i64)), .val 13 (.d (.int .i64))]
abbrev g2 : List Si := []
noncomputable def A1 (n : Nat) : AC R := (oc R (fsub Tryd.f52 [1, 1, 0, 1, 0, 0]))
noncomputable def B1 (n : Nat) : AC R := .cut (fsub Tryd.f52 [1, 1, 0, 1, 0]) g1 (fun v k => hideF (runL (X n) (A1 n) g1 n v k))
noncomputable def A2 (n : Nat) : AC R := (oc R (fsub Tryd.f52 [1, 1, 1]))
noncomputable def B2 (n : Nat) : AC R := .cut (fsub Tryd.f52 [1, 1, 1]) g2 (fun v k => hideF (runR (X n) (A2 n) g2 v k))
noncomputable def A0 (n : Nat) : AC R := (.seq (oc R (fsub Tryd.f52 [0])) (.seq (oc R (fsub Tryd.f52 [1, 0])) (.seq (.seq (oc R (fsub Tryd.f52 [1, 1, 0, 0])) (.block 0 (B1 n))) (B2 n))))
noncomputable def k1 (n : Nat) : KK R := (blockK 0 (seqK (fun s => acRun (X n) (B2 n) s (endK ia io)) (endK ia io)))
noncomputable def k2 (n : Nat) : KK R := (endK ia io)
noncomputable def S0 (n : Nat) (j1 : Dens g1 → Option R) (s1 : List (Den t65)) (s2 : List (Den t65)) : Option R :=
  bIf ((hide (((s1.length : Nat) : Int) != ((s2.length : Nat) : Int)))) (
    some (false, ())
    ) (
    j1 (s1, s2, ((s1.length : Nat) : Int), 0, ())
    )
noncomputable def S1 (n : Nat) (j1 : Dens g1 → Option R) (j2 : Dens g2 → Option R) (s1 : List (Den t65)) (s2 : List (Den t65)) (t12 : Int) (t13 : Int) : Option R :=
  bIf ((hide (decide (t13 < t12)))) (
    gIf (0 ≤ t13 ∧ t13 < ((s1.length : Nat) : Int)) (
      gIf (0 ≤ t13 ∧ t13 < ((s2.length : Nat) : Int)) (
        bIf ((hide (!(eqD t65 (List.getD s1 t13.toNat (Va.dflt t65)) (List.getD s2 t13.toNat (Va.dflt t65)))))) (
          some (false, ())
          ) (
          j1 (s1, s2, t12, (IntKind.i64.wrap (t13 + (1 : Int))), ())
          )
        )
      )
    ) (
    j2 (())
    )
noncomputable def S2 (n : Nat) : Option R :=
  some (true, ())
theorem e0 (n : Nat) (v : DIn ia) : acRun (X n) (A0 n) (frameOf (X n).len (inSig 0 ia) v) (endK ia io) = S0 n (fun v => hideF (runL (X n) (A1 n) g1 n v (k1 n))) v.1 v.2.1 := by kernel_rfl
theorem e1 (n : Nat) (m1 : Nat) (v : Dens g1) : runL (X n) (A1 n) g1 (m1 + 1) v (k1 n) = S1 n (fun v => hideF (runL (X n) (A1 n) g1 m1 v (k1 n))) (fun v => hideF (runR (X n) (A2 n) g2 v (k2 n))) v.1 v.2.1 v.2.2.1 v.2.2.2.1 := by kernel_rfl
theorem e2 (n : Nat) (v : Dens g2) : runR (X n) (A2 n) g2 v (k2 n) = S2 n := by kernel_rfl
noncomputable def J2 (n : Nat) : Dens g2 → Option R := fun v => S2 n
theorem h2 (n : Nat) : (fun v => runR (X n) (A2 n) g2 v (k2 n)) = J2 n :=
  funext fun v => (e2 n v).trans (by (try simp only [hideF_eq]); rfl)
noncomputable def J1 (n : Nat) : Nat → Dens g1 → Option R
  | 0, _ => none
  | m + 1, v => S1 n (J1 n m) (J2 n) v.1 v.2.1 v.2.2.1 v.2.2.2.1
theorem h1 (n : Nat) : ∀ m, (fun v => runL (X n) (A1 n) g1 m v (k1 n)) = J1 n m
  | 0 => rfl
  | m + 1 => funext fun v => (e1 n m v).trans (by (try simp only [hideF_eq]); rw [h2 n]; rw [h1 n m]; rfl)
noncomputable def f (n : Nat) (s1 : List (Den t65)) (s2 : List (Den t65)) : Option R := S0 n (J1 n n) s1 s2
theorem link (n : Nat) (v : DIn ia) : acRun (X n) (A0 n) (frameOf (X n).len (inSig 0 ia) v) (endK ia io) = f n v.1 v.2.1 :=
  (e0 n v).trans (by (try simp only [hideF_eq]); rw [h1 n n]; rfl)
theorem phi (n : Nat) : ∀ e ∈ (X n).c.Φ, EntryOk Tryd.prog e := allE_nil
theorem o1 (n : Nat) : (A1 n).Ok Tryd.prog (X n) := (oc_ok _)
theorem b1 (n : Nat) : (B1 n).Ok Tryd.prog (X n) := runL_ok mixed tabIs (phi n) (o1 n) (by kernel_rfl) n
theorem o2 (n : Nat) : (A2 n).Ok Tryd.prog (X n) := (oc_ok _)
theorem b2 (n : Nat) : (B2 n).Ok Tryd.prog (X n) := runR_ok mixed tabIs (phi n) (o2 n) (by kernel_rfl)
theorem o0 (n : Nat) : (A0 n).Ok Tryd.prog (X n) := ⟨(oc_ok _), ⟨(oc_ok _), ⟨⟨(oc_ok _), (b1 n)⟩, (b2 n)⟩⟩⟩
theorem ok (n : Nat) : FnOk Tryd.prog 52 ia io (fun v => f n v.1 v.2.1) :=
  fn_ok (x := X n) (A := A0 n) mixed tabIs (phi n) Tryd.func52 (by kernel_rfl) (by kernel_rfl) rfl (o0 n) (fun v u h => (link n v).trans h)
noncomputable def en (n : Nat) : Entry := mkEntry 52 ia io (fun v => f n v.1 v.2.1)
end f52
end Go.Proofs.YtnlckhekcklcpaaDoor


namespace Go.Proofs.YtnlckhekcklcpaaDoor
open Go Go.Va Go.Proofs
/- chartulary/tags.Same -/
namespace f48
abbrev ia : List Ai := [.val (.d (.slice t65)), .val (.d (.slice t65))]
abbrev io : List (Nat × Oi) := [(4, .val (.d .bool))]
abbrev R : Type := DOut ia io
noncomputable def X (n : Nat) : Ctx := ⟨⟨tab, [f52.en n], 0⟩, 8, bnOf 0 ia⟩
noncomputable def A0 (n : Nat) : AC R := (oc R (fsub Tryd.f48 []))
noncomputable def S0 (n : Nat) (a : List (Den t65)) (b : List (Den t65)) : Option R :=
  bnd (f52.f n a b) fun u1 =>
  some (u1.1, ())
theorem e0 (n : Nat) (v : DIn ia) : acRun (X n) (A0 n) (frameOf (X n).len (inSig 0 ia) v) (endK ia io) = S0 n v.1 v.2.1 := by kernel_rfl
noncomputable def f (n : Nat) (a : List (Den t65)) (b : List (Den t65)) : Option R := S0 n a b
theorem link (n : Nat) (v : DIn ia) : acRun (X n) (A0 n) (frameOf (X n).len (inSig 0 ia) v) (endK ia io) = f n v.1 v.2.1 :=
  (e0 n v).trans (by (try simp only [hideF_eq]); rfl)
theorem phi (n : Nat) : ∀ e ∈ (X n).c.Φ, EntryOk Tryd.prog e := allE_cons (mkEntry_ok (f52.ok n)) (allE_nil)
theorem o0 (n : Nat) : (A0 n).Ok Tryd.prog (X n) := (oc_ok _)
theorem ok (n : Nat) : FnOk Tryd.prog 48 ia io (fun v => f n v.1 v.2.1) :=
  fn_ok (x := X n) (A := A0 n) mixed tabIs (phi n) Tryd.func48 (by kernel_rfl) (by kernel_rfl) rfl (o0 n) (fun v u h => (link n v).trans h)
noncomputable def en (n : Nat) : Entry := mkEntry 48 ia io (fun v => f n v.1 v.2.1)
end f48
end Go.Proofs.YtnlckhekcklcpaaDoor


namespace Go.Proofs.YtnlckhekcklcpaaDoor
open Go Go.Va Go.Proofs
/- chartulary/chartularyref08.Same -/
namespace f32
abbrev ia : List Ai := [.val (.d (.slice t65)), .val (.d (.slice t65))]
abbrev io : List (Nat × Oi) := [(4, .val (.d .bool))]
abbrev R : Type := DOut ia io
noncomputable def X (n : Nat) : Ctx := ⟨⟨tab, [], 0⟩, 41, bnOf 0 ia⟩
abbrev g1 : List Si := [.val 0 (.d (.slice t65)), .val 1 (.d (.slice t65)), .val 5 (.d (.int .i64))]
abbrev g2 : List Si := [.val 0 (.d (.slice t65)), .val 1 (.d (.slice t65)), .val 5 (.d (.int .i64))]
abbrev g3 : List Si := []
noncomputable def A2 (n : Nat) : AC R := (oc R (fsub Tryd.f32 [1, 1, 0, 1, 0, 0, 1, 1]))
noncomputable def B2 (n : Nat) : AC R := .cut (fsub Tryd.f32 [1, 1, 0, 1, 0, 0, 1, 1]) g2 (fun v k => hideF (runR (X n) (A2 n) g2 v k))
noncomputable def A1 (n : Nat) : AC R := (.seq (oc R (fsub Tryd.f32 [1, 1, 0, 1, 0, 0, 0])) (.seq (oc R (fsub Tryd.f32 [1, 1, 0, 1, 0, 0, 1, 0])) (B2 n)))
noncomputable def B1 (n : Nat) : AC R := .cut (fsub Tryd.f32 [1, 1, 0, 1, 0]) g1 (fun v k => hideF (runL (X n) (A1 n) g1 n v k))
noncomputable def A3 (n : Nat) : AC R := (oc R (fsub Tryd.f32 [1, 1, 1]))
noncomputable def B3 (n : Nat) : AC R := .cut (fsub Tryd.f32 [1, 1, 1]) g3 (fun v k => hideF (runR (X n) (A3 n) g3 v k))
noncomputable def A0 (n : Nat) : AC R := (.seq (oc R (fsub Tryd.f32 [0])) (.seq (oc R (fsub Tryd.f32 [1, 0])) (.seq (.seq (oc R (fsub Tryd.f32 [1, 1, 0, 0])) (.block 0 (B1 n))) (B3 n))))
noncomputable def k1 (n : Nat) : KK R := (blockK 0 (seqK (fun s => acRun (X n) (B3 n) s (endK ia io)) (endK ia io)))
noncomputable def k3 (n : Nat) : KK R := (endK ia io)
noncomputable def k2 (n : Nat) (m1 : Nat) : KK R := (loopK (X n).bn g1 (fun v => hideF (runL (X n) (A1 n) g1 m1 v (k1 n))) (k1 n))
noncomputable def S0 (n : Nat) (j1 : Dens g1 → Option R) (a : List (Den t65)) (b : List (Den t65)) : Option R :=
  bIf ((hide (((a.length : Nat) : Int) != ((b.length : Nat) : Int)))) (
    some (false, ())
    ) (
    j1 (a, b, 0, ())
    )
noncomputable def S1 (n : Nat) (j2 : Dens g2 → Option R) (j3 : Dens g3 → Option R) (a : List (Den t65)) (b : List (Den t65)) (i : Int) : Option R :=
  bIf ((hide (decide (i < ((a.length : Nat) : Int))))) (
    gIf (0 ≤ i ∧ i < ((a.length : Nat) : Int)) (
      gIf (0 ≤ i ∧ i < ((b.length : Nat) : Int)) (
        bIf ((hide (!eqS ((List.getD a i.toNat (Va.dflt t65)).1) ((List.getD b i.toNat (Va.dflt t65)).1)))) (
          some (false, ())
          ) (
          gIf (0 ≤ i ∧ i < ((a.length : Nat) : Int)) (
            gIf (0 ≤ i ∧ i < ((b.length : Nat) : Int)) (
              bIf ((hide (!eqS (((List.getD a i.toNat (Va.dflt t65)).2).1) (((List.getD b i.toNat (Va.dflt t65)).2).1)))) (
                some (false, ())
                ) (
                j2 (a, b, i, ())
                )
              )
            )
          )
        )
      )
    ) (
    j3 (())
    )
noncomputable def S2 (n : Nat) (j1 : Dens g1 → Option R) (a : List (Den t65)) (b : List (Den t65)) (i : Int) : Option R :=
  j1 (a, b, (IntKind.i64.wrap (i + (1 : Int))), ())
noncomputable def S3 (n : Nat) : Option R :=
  some (true, ())
theorem e0 (n : Nat) (v : DIn ia) : acRun (X n) (A0 n) (frameOf (X n).len (inSig 0 ia) v) (endK ia io) = S0 n (fun v => hideF (runL (X n) (A1 n) g1 n v (k1 n))) v.1 v.2.1 := by kernel_rfl
theorem e1 (n : Nat) (m1 : Nat) (v : Dens g1) : runL (X n) (A1 n) g1 (m1 + 1) v (k1 n) = S1 n (fun v => hideF (runR (X n) (A2 n) g2 v (k2 n m1))) (fun v => hideF (runR (X n) (A3 n) g3 v (k3 n))) v.1 v.2.1 v.2.2.1 := by kernel_rfl
theorem e2 (n : Nat) (m1 : Nat) (v : Dens g2) : runR (X n) (A2 n) g2 v (k2 n m1) = S2 n (fun v => hideF (runL (X n) (A1 n) g1 m1 v (k1 n))) v.1 v.2.1 v.2.2.1 := by kernel_rfl
theorem e3 (n : Nat) (v : Dens g3) : runR (X n) (A3 n) g3 v (k3 n) = S3 n := by kernel_rfl
noncomputable def J2 (n : Nat) (r1 : Dens g1 → Option R) : Dens g2 → Option R := fun v => S2 n r1 v.1 v.2.1 v.2.2.1
theorem h2 (n : Nat) (m1 : Nat) : (fun v => runR (X n) (A2 n) g2 v (k2 n m1)) = J2 n (fun v => (runL (X n) (A1 n) g1 m1 v (k1 n))) :=
  funext fun v => (e2 n m1 v).trans (by (try simp only [hideF_eq]); rfl)
noncomputable def J3 (n : Nat) : Dens g3 → Option R := fun v => S3 n
theorem h3 (n : Nat) : (fun v => runR (X n) (A3 n) g3 v (k3 n)) = J3 n :=
  funext fun v => (e3 n v).trans (by (try simp only [hideF_eq]); rfl)
noncomputable def J1 (n : Nat) : Nat → Dens g1 → Option R
  | 0, _ => none
  | m + 1, v => S1 n (J2 n (J1 n m)) (J3 n) v.1 v.2.1 v.2.2.1
theorem h1 (n : Nat) : ∀ m, (fun v => runL (X n) (A1 n) g1 m v (k1 n)) = J1 n m
  | 0 => rfl
  | m + 1 => funext fun v => (e1 n m v).trans (by (try simp only [hideF_eq]); rw [h2 n m, h3 n]; rw [h1 n m]; rfl)
noncomputable def f (n : Nat) (a : List (Den t65)) (b : List (Den t65)) : Option R := S0 n (J1 n n) a b
theorem link (n : Nat) (v : DIn ia) : acRun (X n) (A0 n) (frameOf (X n).len (inSig 0 ia) v) (endK ia io) = f n v.1 v.2.1 :=
  (e0 n v).trans (by (try simp only [hideF_eq]); rw [h1 n n]; rfl)
theorem phi (n : Nat) : ∀ e ∈ (X n).c.Φ, EntryOk Tryd.prog e := allE_nil
theorem o2 (n : Nat) : (A2 n).Ok Tryd.prog (X n) := (oc_ok _)
theorem b2 (n : Nat) : (B2 n).Ok Tryd.prog (X n) := runR_ok mixed tabIs (phi n) (o2 n) (by kernel_rfl)
theorem o1 (n : Nat) : (A1 n).Ok Tryd.prog (X n) := ⟨(oc_ok _), ⟨(oc_ok _), (b2 n)⟩⟩
theorem b1 (n : Nat) : (B1 n).Ok Tryd.prog (X n) := runL_ok mixed tabIs (phi n) (o1 n) (by kernel_rfl) n
theorem o3 (n : Nat) : (A3 n).Ok Tryd.prog (X n) := (oc_ok _)
theorem b3 (n : Nat) : (B3 n).Ok Tryd.prog (X n) := runR_ok mixed tabIs (phi n) (o3 n) (by kernel_rfl)
theorem o0 (n : Nat) : (A0 n).Ok Tryd.prog (X n) := ⟨(oc_ok _), ⟨(oc_ok _), ⟨⟨(oc_ok _), (b1 n)⟩, (b3 n)⟩⟩⟩
theorem ok (n : Nat) : FnOk Tryd.prog 32 ia io (fun v => f n v.1 v.2.1) :=
  fn_ok (x := X n) (A := A0 n) mixed tabIs (phi n) Tryd.func32 (by kernel_rfl) (by kernel_rfl) rfl (o0 n) (fun v u h => (link n v).trans h)
noncomputable def en (n : Nat) : Entry := mkEntry 32 ia io (fun v => f n v.1 v.2.1)
end f32
end Go.Proofs.YtnlckhekcklcpaaDoor


namespace Go.Proofs.YtnlckhekcklcpaaDoor
open Go Go.Va Go.Proofs
/- chartulary/label.Key -/
namespace f24
abbrev ia : List Ai := [.val (.d .str)]
abbrev io : List (Nat × Oi) := [(2, .val (.d .bool))]
abbrev R : Type := DOut ia io
noncomputable def X (n : Nat) : Ctx := ⟨⟨tab, [f42.en n], 0⟩, 14, bnOf 0 ia⟩
noncomputable def A0 (n : Nat) : AC R := (oc R (fsub Tryd.f24 []))
noncomputable def S0 (n : Nat) (s_ : ByteArray) : Option R :=
  bIf ((hide (!eqS s_ (⟨#[]⟩ : ByteArray)))) (
    bIf ((hide (decide ((s_.size : Int) ≤ (200 : Int))))) (
      bnd (f42.f n s_) fun u1 =>
      some (u1.1, ())
      ) (
      some (false, ())
      )
    ) (
    some (false, ())
    )
theorem e0 (n : Nat) (v : DIn ia) : acRun (X n) (A0 n) (frameOf (X n).len (inSig 0 ia) v) (endK ia io) = S0 n v.1 := by kernel_rfl
noncomputable def f (n : Nat) (s_ : ByteArray) : Option R := S0 n s_
theorem link (n : Nat) (v : DIn ia) : acRun (X n) (A0 n) (frameOf (X n).len (inSig 0 ia) v) (endK ia io) = f n v.1 :=
  (e0 n v).trans (by (try simp only [hideF_eq]); rfl)
theorem phi (n : Nat) : ∀ e ∈ (X n).c.Φ, EntryOk Tryd.prog e := allE_cons (mkEntry_ok (f42.ok n)) (allE_nil)
theorem o0 (n : Nat) : (A0 n).Ok Tryd.prog (X n) := (oc_ok _)
theorem ok (n : Nat) : FnOk Tryd.prog 24 ia io (fun v => f n v.1) :=
  fn_ok (x := X n) (A := A0 n) mixed tabIs (phi n) Tryd.func24 (by kernel_rfl) (by kernel_rfl) rfl (o0 n) (fun v u h => (link n v).trans h)
noncomputable def en (n : Nat) : Entry := mkEntry 24 ia io (fun v => f n v.1)
end f24
end Go.Proofs.YtnlckhekcklcpaaDoor


namespace Go.Proofs.YtnlckhekcklcpaaDoor
open Go Go.Va Go.Proofs
/- chartulary/chartularyref06.Key -/
namespace f30
abbrev ia : List Ai := [.val (.d .str)]
abbrev io : List (Nat × Oi) := [(2, .val (.d .bool))]
abbrev R : Type := DOut ia io
noncomputable def X (n : Nat) : Ctx := ⟨⟨tab, [f44.en n], 0⟩, 15, bnOf 0 ia⟩
noncomputable def A0 (n : Nat) : AC R := (oc R (fsub Tryd.f30 []))
noncomputable def S0 (n : Nat) (s_ : ByteArray) : Option R :=
  bIf ((hide (decide ((s_.size : Int) ≥ (1 : Int))))) (
    bIf ((hide (decide ((s_.size : Int) ≤ (200 : Int))))) (
      bnd (f44.f n s_) fun u1 =>
      some (u1.1, ())
      ) (
      some (false, ())
      )
    ) (
    some (false, ())
    )
theorem e0 (n : Nat) (v : DIn ia) : acRun (X n) (A0 n) (frameOf (X n).len (inSig 0 ia) v) (endK ia io) = S0 n v.1 := by kernel_rfl
noncomputable def f (n : Nat) (s_ : ByteArray) : Option R := S0 n s_
theorem link (n : Nat) (v : DIn ia) : acRun (X n) (A0 n) (frameOf (X n).len (inSig 0 ia) v) (endK ia io) = f n v.1 :=
  (e0 n v).trans (by (try simp only [hideF_eq]); rfl)
theorem phi (n : Nat) : ∀ e ∈ (X n).c.Φ, EntryOk Tryd.prog e := allE_cons (mkEntry_ok (f44.ok n)) (allE_nil)
theorem o0 (n : Nat) : (A0 n).Ok Tryd.prog (X n) := (oc_ok _)
theorem ok (n : Nat) : FnOk Tryd.prog 30 ia io (fun v => f n v.1) :=
  fn_ok (x := X n) (A := A0 n) mixed tabIs (phi n) Tryd.func30 (by kernel_rfl) (by kernel_rfl) rfl (o0 n) (fun v u h => (link n v).trans h)
noncomputable def en (n : Nat) : Entry := mkEntry 30 ia io (fun v => f n v.1)
end f30
end Go.Proofs.YtnlckhekcklcpaaDoor


namespace Go.Proofs.YtnlckhekcklcpaaDoor
open Go Go.Va Go.Proofs
/- chartulary/object.Good -/
namespace f18
abbrev ia : List Ai := [.val (.d t31)]
abbrev io : List (Nat × Oi) := [(2, .val (.d .bool))]
abbrev R : Type := DOut ia io
noncomputable def X (n : Nat) : Ctx := ⟨⟨tab, [f33.en n, f34.en n, f35.en n], 0⟩, 65, bnOf 0 ia⟩
abbrev g1 : List Si := [.ref 1 1 t31, .box 1 (.d t31)]
noncomputable def A1 (n : Nat) : AC R := (oc R (fsub Tryd.f18 [1, 1]))
noncomputable def B1 (n : Nat) : AC R := .cut (fsub Tryd.f18 [1, 1]) g1 (fun v k => hideF (runR (X n) (A1 n) g1 v k))
noncomputable def A0 (n : Nat) : AC R := (.seq (oc R (fsub Tryd.f18 [0])) (.seq (oc R (fsub Tryd.f18 [1, 0])) (B1 n)))
noncomputable def k1 (n : Nat) : KK R := (endK ia io)
noncomputable def S0 (n : Nat) (j1 : Dens g1 → Option R) (v_ : Den t31) : Option R :=
  bIf ((hide (v_.1 == (0 : Int)))) (
    some (false, ())
    ) (
    bnd (f33.f n v_.2.2.2.2.2.1) fun u1 =>
    bIf ((hide (v_.2.2.2.2.2.1 != u1.1))) (
      some (false, ())
      ) (
      j1 (v_, ())
      )
    )
noncomputable def S1 (n : Nat) (v_ : Den t31) : Option R :=
  bIf (v_.2.1) (
    bIf ((hide (v_.2.2.1 == (0 : Int)))) (
      bIf ((hide (v_.2.2.2.1 == (0 : Int)))) (
        bIf ((hide (eqD (.arr 32 (.int .u8)) v_.2.2.2.2.1 ([] ++ List.replicate (32 - ([] : List (Int)).length) 0)))) (
          bIf ((hide (eqD t28 v_.2.2.2.2.2.2.1 (0, (0, (false, ())))))) (
            some ((hide (((v_.2.2.2.2.2.2.2.1.length : Nat) : Int) == (0 : Int))), ())
            ) (
            some (false, ())
            )
          ) (
          some (false, ())
          )
        ) (
        some (false, ())
        )
      ) (
      some (false, ())
      )
    ) (
    bIf ((hide (decide (v_.2.2.1 ≥ (0 : Int))))) (
      bIf ((hide (decide (v_.2.2.1 ≤ (16384 : Int))))) (
        bIf ((hide (decide (v_.2.2.2.1 > (0 : Int))))) (
          bnd (f34.f n v_.2.2.2.2.2.2.1) fun u1 =>
          bIf (u1.1) (
            bnd (f35.f n v_.2.2.2.2.2.2.2.1) fun u2 =>
            some (u2.1, ())
            ) (
            some (false, ())
            )
          ) (
          some (false, ())
          )
        ) (
        some (false, ())
        )
      ) (
      some (false, ())
      )
    )
theorem e0 (n : Nat) (v : DIn ia) : acRun (X n) (A0 n) (frameOf (X n).len (inSig 0 ia) v) (endK ia io) = S0 n (fun v => hideF (runR (X n) (A1 n) g1 v (k1 n))) v.1 := by kernel_rfl
theorem e1 (n : Nat) (v : Dens g1) : runR (X n) (A1 n) g1 v (k1 n) = S1 n v.1 := by kernel_rfl
noncomputable def J1 (n : Nat) : Dens g1 → Option R := fun v => S1 n v.1
theorem h1 (n : Nat) : (fun v => runR (X n) (A1 n) g1 v (k1 n)) = J1 n :=
  funext fun v => (e1 n v).trans (by (try simp only [hideF_eq]); rfl)
noncomputable def f (n : Nat) (v_ : Den t31) : Option R := S0 n (J1 n) v_
theorem link (n : Nat) (v : DIn ia) : acRun (X n) (A0 n) (frameOf (X n).len (inSig 0 ia) v) (endK ia io) = f n v.1 :=
  (e0 n v).trans (by (try simp only [hideF_eq]); rw [h1 n]; rfl)
theorem phi (n : Nat) : ∀ e ∈ (X n).c.Φ, EntryOk Tryd.prog e := allE_cons (mkEntry_ok (f33.ok n)) (allE_cons (mkEntry_ok (f34.ok n)) (allE_cons (mkEntry_ok (f35.ok n)) (allE_nil)))
theorem o1 (n : Nat) : (A1 n).Ok Tryd.prog (X n) := (oc_ok _)
theorem b1 (n : Nat) : (B1 n).Ok Tryd.prog (X n) := runR_ok mixed tabIs (phi n) (o1 n) (by kernel_rfl)
theorem o0 (n : Nat) : (A0 n).Ok Tryd.prog (X n) := ⟨(oc_ok _), ⟨(oc_ok _), (b1 n)⟩⟩
theorem ok (n : Nat) : FnOk Tryd.prog 18 ia io (fun v => f n v.1) :=
  fn_ok (x := X n) (A := A0 n) mixed tabIs (phi n) Tryd.func18 (by kernel_rfl) (by kernel_rfl) rfl (o0 n) (fun v u h => (link n v).trans h)
noncomputable def en (n : Nat) : Entry := mkEntry 18 ia io (fun v => f n v.1)
end f18
end Go.Proofs.YtnlckhekcklcpaaDoor


namespace Go.Proofs.YtnlckhekcklcpaaDoor
open Go Go.Va Go.Proofs
/- chartulary/chartularyref13.Good -/
namespace f19
abbrev ia : List Ai := [.val (.d t31)]
abbrev io : List (Nat × Oi) := [(2, .val (.d .bool))]
abbrev R : Type := DOut ia io
noncomputable def X (n : Nat) : Ctx := ⟨⟨tab, [f36.en n, f37.en n, f38.en n], 0⟩, 82, bnOf 0 ia⟩
abbrev g1 : List Si := [.ref 1 1 t31, .box 1 (.d t31)]
abbrev g2 : List Si := [.ref 1 1 t31, .val 3 (.d (.int .i64)), .box 1 (.d t31)]
abbrev g3 : List Si := [.ref 1 1 t31, .box 1 (.d t31)]
noncomputable def A2 (n : Nat) : AC R := (oc R (fsub Tryd.f19 [1, 1, 1, 0, 1, 0, 0]))
noncomputable def B2 (n : Nat) : AC R := .cut (fsub Tryd.f19 [1, 1, 1, 0, 1, 0]) g2 (fun v k => hideF (runL (X n) (A2 n) g2 n v k))
noncomputable def A3 (n : Nat) : AC R := (oc R (fsub Tryd.f19 [1, 1, 1, 1]))
noncomputable def B3 (n : Nat) : AC R := .cut (fsub Tryd.f19 [1, 1, 1, 1]) g3 (fun v k => hideF (runR (X n) (A3 n) g3 v k))
noncomputable def A1 (n : Nat) : AC R := (.seq (oc R (fsub Tryd.f19 [1, 1, 0])) (.seq (.seq (oc R (fsub Tryd.f19 [1, 1, 1, 0, 0])) (.block 0 (B2 n))) (B3 n)))
noncomputable def B1 (n : Nat) : AC R := .cut (fsub Tryd.f19 [1, 1]) g1 (fun v k => hideF (runR (X n) (A1 n) g1 v k))
noncomputable def A0 (n : Nat) : AC R := (.seq (oc R (fsub Tryd.f19 [0])) (.seq (oc R (fsub Tryd.f19 [1, 0])) (B1 n)))
noncomputable def k1 (n : Nat) : KK R := (endK ia io)
noncomputable def k2 (n : Nat) : KK R := (blockK 0 (seqK (fun s => acRun (X n) (B3 n) s (k1 n)) (k1 n)))
noncomputable def k3 (n : Nat) : KK R := (k1 n)
noncomputable def S0 (n : Nat) (j1 : Dens g1 → Option R) (v_ : Den t31) : Option R :=
  bIf ((hide (decide (v_.1 < (1 : Int))))) (
    some (false, ())
    ) (
    bnd (f36.f n v_.2.2.2.2.2.1) fun u1 =>
    bIf ((hide (u1.1 != v_.2.2.2.2.2.1))) (
      some (false, ())
      ) (
      j1 (v_, ())
      )
    )
noncomputable def S1 (n : Nat) (j2 : Dens g2 → Option R) (v_ : Den t31) : Option R :=
  bIf ((!v_.2.1)) (
    bIf ((hide (decide (v_.2.2.1 ≥ (0 : Int))))) (
      bIf ((hide (decide (v_.2.2.1 ≤ (16384 : Int))))) (
        bIf ((hide (decide (v_.2.2.2.1 ≥ (1 : Int))))) (
          bnd (f37.f n v_.2.2.2.2.2.2.1) fun u1 =>
          bIf (u1.1) (
            bnd (f38.f n v_.2.2.2.2.2.2.2.1) fun u2 =>
            some (u2.1, ())
            ) (
            some (false, ())
            )
          ) (
          some (false, ())
          )
        ) (
        some (false, ())
        )
      ) (
      some (false, ())
      )
    ) (
    j2 (0, v_, ())
    )
noncomputable def S2 (n : Nat) (j2 : Dens g2 → Option R) (j3 : Dens g3 → Option R) (i : Int) (v_ : Den t31) : Option R :=
  bIf ((hide (decide (i < (32 : Int))))) (
    gIf (0 ≤ i ∧ i < ((32 : Nat) : Int)) (
      bIf ((hide ((List.getD v_.2.2.2.2.1 i.toNat 0) != (0 : Int)))) (
        some (false, ())
        ) (
        j2 ((IntKind.i64.wrap (i + (1 : Int))), v_, ())
        )
      )
    ) (
    j3 (v_, ())
    )
noncomputable def S3 (n : Nat) (v_ : Den t31) : Option R :=
  bIf ((hide (v_.2.2.1 == (0 : Int)))) (
    bIf ((hide (v_.2.2.2.1 == (0 : Int)))) (
      bIf ((hide (v_.2.2.2.2.2.2.1.1 == (0 : Int)))) (
        bIf ((hide (v_.2.2.2.2.2.2.1.2.1 == (0 : Int)))) (
          bIf ((!v_.2.2.2.2.2.2.1.2.2.1)) (
            some ((hide (((v_.2.2.2.2.2.2.2.1.length : Nat) : Int) == (0 : Int))), ())
            ) (
            some (false, ())
            )
          ) (
          some (false, ())
          )
        ) (
        some (false, ())
        )
      ) (
      some (false, ())
      )
    ) (
    some (false, ())
    )
theorem e0 (n : Nat) (v : DIn ia) : acRun (X n) (A0 n) (frameOf (X n).len (inSig 0 ia) v) (endK ia io) = S0 n (fun v => hideF (runR (X n) (A1 n) g1 v (k1 n))) v.1 := by kernel_rfl
theorem e1 (n : Nat) (v : Dens g1) : runR (X n) (A1 n) g1 v (k1 n) = S1 n (fun v => hideF (runL (X n) (A2 n) g2 n v (k2 n))) v.1 := by kernel_rfl
theorem e2 (n : Nat) (m2 : Nat) (v : Dens g2) : runL (X n) (A2 n) g2 (m2 + 1) v (k2 n) = S2 n (fun v => hideF (runL (X n) (A2 n) g2 m2 v (k2 n))) (fun v => hideF (runR (X n) (A3 n) g3 v (k3 n))) v.1 v.2.1 := by kernel_rfl
theorem e3 (n : Nat) (v : Dens g3) : runR (X n) (A3 n) g3 v (k3 n) = S3 n v.1 := by kernel_rfl
noncomputable def J3 (n : Nat) : Dens g3 → Option R := fun v => S3 n v.1
theorem h3 (n : Nat) : (fun v => runR (X n) (A3 n) g3 v (k3 n)) = J3 n :=
  funext fun v => (e3 n v).trans (by (try simp only [hideF_eq]); rfl)
noncomputable def J2 (n : Nat) : Nat → Dens g2 → Option R
  | 0, _ => none
  | m + 1, v => S2 n (J2 n m) (J3 n) v.1 v.2.1
theorem h2 (n : Nat) : ∀ m, (fun v => runL (X n) (A2 n) g2 m v (k2 n)) = J2 n m
  | 0 => rfl
  | m + 1 => funext fun v => (e2 n m v).trans (by (try simp only [hideF_eq]); rw [h3 n]; rw [h2 n m]; rfl)
noncomputable def J1 (n : Nat) : Dens g1 → Option R := fun v => S1 n (J2 n n) v.1
theorem h1 (n : Nat) : (fun v => runR (X n) (A1 n) g1 v (k1 n)) = J1 n :=
  funext fun v => (e1 n v).trans (by (try simp only [hideF_eq]); rw [h2 n n]; rfl)
noncomputable def f (n : Nat) (v_ : Den t31) : Option R := S0 n (J1 n) v_
theorem link (n : Nat) (v : DIn ia) : acRun (X n) (A0 n) (frameOf (X n).len (inSig 0 ia) v) (endK ia io) = f n v.1 :=
  (e0 n v).trans (by (try simp only [hideF_eq]); rw [h1 n]; rfl)
theorem phi (n : Nat) : ∀ e ∈ (X n).c.Φ, EntryOk Tryd.prog e := allE_cons (mkEntry_ok (f36.ok n)) (allE_cons (mkEntry_ok (f37.ok n)) (allE_cons (mkEntry_ok (f38.ok n)) (allE_nil)))
theorem o2 (n : Nat) : (A2 n).Ok Tryd.prog (X n) := (oc_ok _)
theorem b2 (n : Nat) : (B2 n).Ok Tryd.prog (X n) := runL_ok mixed tabIs (phi n) (o2 n) (by kernel_rfl) n
theorem o3 (n : Nat) : (A3 n).Ok Tryd.prog (X n) := (oc_ok _)
theorem b3 (n : Nat) : (B3 n).Ok Tryd.prog (X n) := runR_ok mixed tabIs (phi n) (o3 n) (by kernel_rfl)
theorem o1 (n : Nat) : (A1 n).Ok Tryd.prog (X n) := ⟨(oc_ok _), ⟨⟨(oc_ok _), (b2 n)⟩, (b3 n)⟩⟩
theorem b1 (n : Nat) : (B1 n).Ok Tryd.prog (X n) := runR_ok mixed tabIs (phi n) (o1 n) (by kernel_rfl)
theorem o0 (n : Nat) : (A0 n).Ok Tryd.prog (X n) := ⟨(oc_ok _), ⟨(oc_ok _), (b1 n)⟩⟩
theorem ok (n : Nat) : FnOk Tryd.prog 19 ia io (fun v => f n v.1) :=
  fn_ok (x := X n) (A := A0 n) mixed tabIs (phi n) Tryd.func19 (by kernel_rfl) (by kernel_rfl) rfl (o0 n) (fun v u h => (link n v).trans h)
noncomputable def en (n : Nat) : Entry := mkEntry 19 ia io (fun v => f n v.1)
end f19
end Go.Proofs.YtnlckhekcklcpaaDoor


namespace Go.Proofs.YtnlckhekcklcpaaDoor
open Go Go.Va Go.Proofs
/- chartulary/object.behind -/
namespace f26
abbrev ia : List Ai := [.val (.d t31), .val (.d t31)]
abbrev io : List (Nat × Oi) := [(4, .val (.d .bool))]
abbrev R : Type := DOut ia io
noncomputable def X (n : Nat) : Ctx := ⟨⟨tab, [], 0⟩, 17, bnOf 0 ia⟩
noncomputable def A0 (n : Nat) : AC R := (oc R (fsub Tryd.f26 []))
noncomputable def S0 (n : Nat) (v_ : Den t31) (last : Den t31) : Option R :=
  bIf ((hide (decide (v_.1 > last.1)))) (
    some ((hide (decide (v_.2.2.2.2.2.1 ≥ last.2.2.2.2.2.1))), ())
    ) (
    some (false, ())
    )
theorem e0 (n : Nat) (v : DIn ia) : acRun (X n) (A0 n) (frameOf (X n).len (inSig 0 ia) v) (endK ia io) = S0 n v.1 v.2.1 := by kernel_rfl
noncomputable def f (n : Nat) (v_ : Den t31) (last : Den t31) : Option R := S0 n v_ last
theorem link (n : Nat) (v : DIn ia) : acRun (X n) (A0 n) (frameOf (X n).len (inSig 0 ia) v) (endK ia io) = f n v.1 v.2.1 :=
  (e0 n v).trans (by (try simp only [hideF_eq]); rfl)
theorem phi (n : Nat) : ∀ e ∈ (X n).c.Φ, EntryOk Tryd.prog e := allE_nil
theorem o0 (n : Nat) : (A0 n).Ok Tryd.prog (X n) := (oc_ok _)
theorem ok (n : Nat) : FnOk Tryd.prog 26 ia io (fun v => f n v.1 v.2.1) :=
  fn_ok (x := X n) (A := A0 n) mixed tabIs (phi n) Tryd.func26 (by kernel_rfl) (by kernel_rfl) rfl (o0 n) (fun v u h => (link n v).trans h)
noncomputable def en (n : Nat) : Entry := mkEntry 26 ia io (fun v => f n v.1 v.2.1)
end f26
end Go.Proofs.YtnlckhekcklcpaaDoor


namespace Go.Proofs.YtnlckhekcklcpaaDoor
open Go Go.Va Go.Proofs
/- chartulary/object.rising -/
namespace f25
abbrev ia : List Ai := [.val (.d (.slice t31))]
abbrev io : List (Nat × Oi) := [(2, .val (.d .bool))]
abbrev R : Type := DOut ia io
noncomputable def X (n : Nat) : Ctx := ⟨⟨tab, [f18.en n, f26.en n], 0⟩, 30, bnOf 0 ia⟩
abbrev g1 : List Si := [.val 0 (.d (.slice t31)), .val 5 (.d (.slice t31)), .val 6 (.d (.int .i64)), .val 7 (.d (.int .i64))]
abbrev g2 : List Si := []
noncomputable def A1 (n : Nat) : AC R := (oc R (fsub Tryd.f25 [1, 0, 1, 0, 0]))
noncomputable def B1 (n : Nat) : AC R := .cut (fsub Tryd.f25 [1, 0, 1, 0]) g1 (fun v k => hideF (runL (X n) (A1 n) g1 n v k))
noncomputable def A2 (n : Nat) : AC R := (oc R (fsub Tryd.f25 [1, 1]))
noncomputable def B2 (n : Nat) : AC R := .cut (fsub Tryd.f25 [1, 1]) g2 (fun v k => hideF (runR (X n) (A2 n) g2 v k))
noncomputable def A0 (n : Nat) : AC R := (.seq (oc R (fsub Tryd.f25 [0])) (.seq (.seq (oc R (fsub Tryd.f25 [1, 0, 0])) (.block 0 (B1 n))) (B2 n)))
noncomputable def k1 (n : Nat) : KK R := (blockK 0 (seqK (fun s => acRun (X n) (B2 n) s (endK ia io)) (endK ia io)))
noncomputable def k2 (n : Nat) : KK R := (endK ia io)
noncomputable def S0 (n : Nat) (j1 : Dens g1 → Option R) (list : List (Den t31)) : Option R :=
  j1 (list, list, ((list.length : Nat) : Int), 0, ())
noncomputable def S1 (n : Nat) (j1 : Dens g1 → Option R) (j2 : Dens g2 → Option R) (list : List (Den t31)) (t5 : List (Den t31)) (t6 : Int) (t7 : Int) : Option R :=
  bIf ((hide (decide (t7 < t6)))) (
    gIf (0 ≤ t7 ∧ t7 < ((t5.length : Nat) : Int)) (
      bnd (f18.f n (List.getD t5 t7.toNat (Va.dflt t31))) fun u1 =>
      bIf ((!u1.1)) (
        some (false, ())
        ) (
        bIf ((hide (decide (t7 > (0 : Int))))) (
          gIf (0 ≤ (IntKind.i64.wrap (t7 - (1 : Int))) ∧ (IntKind.i64.wrap (t7 - (1 : Int))) < ((list.length : Nat) : Int)) (
            bnd (f26.f n (List.getD t5 t7.toNat (Va.dflt t31)) (List.getD list ((IntKind.i64.wrap (t7 - (1 : Int))).toNat) (Va.dflt t31))) fun u2 =>
            bIf ((!u2.1)) (
              some (false, ())
              ) (
              j1 (list, t5, t6, (IntKind.i64.wrap (t7 + (1 : Int))), ())
              )
            )
          ) (
          j1 (list, t5, t6, (IntKind.i64.wrap (t7 + (1 : Int))), ())
          )
        )
      )
    ) (
    j2 (())
    )
noncomputable def S2 (n : Nat) : Option R :=
  some (true, ())
theorem e0 (n : Nat) (v : DIn ia) : acRun (X n) (A0 n) (frameOf (X n).len (inSig 0 ia) v) (endK ia io) = S0 n (fun v => hideF (runL (X n) (A1 n) g1 n v (k1 n))) v.1 := by kernel_rfl
theorem e1 (n : Nat) (m1 : Nat) (v : Dens g1) : runL (X n) (A1 n) g1 (m1 + 1) v (k1 n) = S1 n (fun v => hideF (runL (X n) (A1 n) g1 m1 v (k1 n))) (fun v => hideF (runR (X n) (A2 n) g2 v (k2 n))) v.1 v.2.1 v.2.2.1 v.2.2.2.1 := by kernel_rfl
theorem e2 (n : Nat) (v : Dens g2) : runR (X n) (A2 n) g2 v (k2 n) = S2 n := by kernel_rfl
noncomputable def J2 (n : Nat) : Dens g2 → Option R := fun v => S2 n
theorem h2 (n : Nat) : (fun v => runR (X n) (A2 n) g2 v (k2 n)) = J2 n :=
  funext fun v => (e2 n v).trans (by (try simp only [hideF_eq]); rfl)
noncomputable def J1 (n : Nat) : Nat → Dens g1 → Option R
  | 0, _ => none
  | m + 1, v => S1 n (J1 n m) (J2 n) v.1 v.2.1 v.2.2.1 v.2.2.2.1
theorem h1 (n : Nat) : ∀ m, (fun v => runL (X n) (A1 n) g1 m v (k1 n)) = J1 n m
  | 0 => rfl
  | m + 1 => funext fun v => (e1 n m v).trans (by (try simp only [hideF_eq]); rw [h2 n]; rw [h1 n m]; rfl)
noncomputable def f (n : Nat) (list : List (Den t31)) : Option R := S0 n (J1 n n) list
theorem link (n : Nat) (v : DIn ia) : acRun (X n) (A0 n) (frameOf (X n).len (inSig 0 ia) v) (endK ia io) = f n v.1 :=
  (e0 n v).trans (by (try simp only [hideF_eq]); rw [h1 n n]; rfl)
theorem phi (n : Nat) : ∀ e ∈ (X n).c.Φ, EntryOk Tryd.prog e := allE_cons (mkEntry_ok (f18.ok n)) (allE_cons (mkEntry_ok (f26.ok n)) (allE_nil))
theorem o1 (n : Nat) : (A1 n).Ok Tryd.prog (X n) := (oc_ok _)
theorem b1 (n : Nat) : (B1 n).Ok Tryd.prog (X n) := runL_ok mixed tabIs (phi n) (o1 n) (by kernel_rfl) n
theorem o2 (n : Nat) : (A2 n).Ok Tryd.prog (X n) := (oc_ok _)
theorem b2 (n : Nat) : (B2 n).Ok Tryd.prog (X n) := runR_ok mixed tabIs (phi n) (o2 n) (by kernel_rfl)
theorem o0 (n : Nat) : (A0 n).Ok Tryd.prog (X n) := ⟨(oc_ok _), ⟨⟨(oc_ok _), (b1 n)⟩, (b2 n)⟩⟩
theorem ok (n : Nat) : FnOk Tryd.prog 25 ia io (fun v => f n v.1) :=
  fn_ok (x := X n) (A := A0 n) mixed tabIs (phi n) Tryd.func25 (by kernel_rfl) (by kernel_rfl) rfl (o0 n) (fun v u h => (link n v).trans h)
noncomputable def en (n : Nat) : Entry := mkEntry 25 ia io (fun v => f n v.1)
end f25
end Go.Proofs.YtnlckhekcklcpaaDoor


namespace Go.Proofs.YtnlckhekcklcpaaDoor
open Go Go.Va Go.Proofs
/- chartulary/chartularyref13.Rising -/
namespace f10
abbrev ia : List Ai := [.val (.d (.slice t31))]
abbrev io : List (Nat × Oi) := [(2, .val (.d .bool))]
abbrev R : Type := DOut ia io
noncomputable def X (n : Nat) : Ctx := ⟨⟨tab, [f19.en n], 0⟩, 46, bnOf 0 ia⟩
abbrev g1 : List Si := [.val 0 (.d (.slice t31)), .val 3 (.d (.int .i64))]
abbrev g2 : List Si := [.val 0 (.d (.slice t31)), .val 3 (.d (.int .i64))]
abbrev g3 : List Si := []
noncomputable def A2 (n : Nat) : AC R := (oc R (fsub Tryd.f10 [1, 0, 1, 0, 0, 1, 1]))
noncomputable def B2 (n : Nat) : AC R := .cut (fsub Tryd.f10 [1, 0, 1, 0, 0, 1, 1]) g2 (fun v k => hideF (runR (X n) (A2 n) g2 v k))
noncomputable def A1 (n : Nat) : AC R := (.seq (oc R (fsub Tryd.f10 [1, 0, 1, 0, 0, 0])) (.seq (oc R (fsub Tryd.f10 [1, 0, 1, 0, 0, 1, 0])) (B2 n)))
noncomputable def B1 (n : Nat) : AC R := .cut (fsub Tryd.f10 [1, 0, 1, 0]) g1 (fun v k => hideF (runL (X n) (A1 n) g1 n v k))
noncomputable def A3 (n : Nat) : AC R := (oc R (fsub Tryd.f10 [1, 1]))
noncomputable def B3 (n : Nat) : AC R := .cut (fsub Tryd.f10 [1, 1]) g3 (fun v k => hideF (runR (X n) (A3 n) g3 v k))
noncomputable def A0 (n : Nat) : AC R := (.seq (oc R (fsub Tryd.f10 [0])) (.seq (.seq (oc R (fsub Tryd.f10 [1, 0, 0])) (.block 0 (B1 n))) (B3 n)))
noncomputable def k1 (n : Nat) : KK R := (blockK 0 (seqK (fun s => acRun (X n) (B3 n) s (endK ia io)) (endK ia io)))
noncomputable def k3 (n : Nat) : KK R := (endK ia io)
noncomputable def k2 (n : Nat) (m1 : Nat) : KK R := (loopK (X n).bn g1 (fun v => hideF (runL (X n) (A1 n) g1 m1 v (k1 n))) (k1 n))
noncomputable def S0 (n : Nat) (j1 : Dens g1 → Option R) (l : List (Den t31)) : Option R :=
  j1 (l, 0, ())
noncomputable def S1 (n : Nat) (j2 : Dens g2 → Option R) (j3 : Dens g3 → Option R) (l : List (Den t31)) (i : Int) : Option R :=
  bIf ((hide (decide (i < ((l.length : Nat) : Int))))) (
    gIf (0 ≤ i ∧ i < ((l.length : Nat) : Int)) (
      bnd (f19.f n (List.getD l i.toNat (Va.dflt t31))) fun u1 =>
      bIf ((!u1.1)) (
        some (false, ())
        ) (
        bIf ((hide (decide (i > (0 : Int))))) (
          gIf (0 ≤ i ∧ i < ((l.length : Nat) : Int)) (
            gIf (0 ≤ (IntKind.i64.wrap (i - (1 : Int))) ∧ (IntKind.i64.wrap (i - (1 : Int))) < ((l.length : Nat) : Int)) (
              bIf ((hide (decide (((List.getD l i.toNat (Va.dflt t31)).1) ≤ ((List.getD l ((IntKind.i64.wrap (i - (1 : Int))).toNat) (Va.dflt t31)).1))))) (
                some (false, ())
                ) (
                gIf (0 ≤ i ∧ i < ((l.length : Nat) : Int)) (
                  gIf (0 ≤ (IntKind.i64.wrap (i - (1 : Int))) ∧ (IntKind.i64.wrap (i - (1 : Int))) < ((l.length : Nat) : Int)) (
                    bIf ((hide (decide ((((((((List.getD l i.toNat (Va.dflt t31)).2).2).2).2).2).1) < (((((((List.getD l ((IntKind.i64.wrap (i - (1 : Int))).toNat) (Va.dflt t31)).2).2).2).2).2).1))))) (
                      some (false, ())
                      ) (
                      j2 (l, i, ())
                      )
                    )
                  )
                )
              )
            )
          ) (
          j2 (l, i, ())
          )
        )
      )
    ) (
    j3 (())
    )
noncomputable def S2 (n : Nat) (j1 : Dens g1 → Option R) (l : List (Den t31)) (i : Int) : Option R :=
  j1 (l, (IntKind.i64.wrap (i + (1 : Int))), ())
noncomputable def S3 (n : Nat) : Option R :=
  some (true, ())
theorem e0 (n : Nat) (v : DIn ia) : acRun (X n) (A0 n) (frameOf (X n).len (inSig 0 ia) v) (endK ia io) = S0 n (fun v => hideF (runL (X n) (A1 n) g1 n v (k1 n))) v.1 := by kernel_rfl
theorem e1 (n : Nat) (m1 : Nat) (v : Dens g1) : runL (X n) (A1 n) g1 (m1 + 1) v (k1 n) = S1 n (fun v => hideF (runR (X n) (A2 n) g2 v (k2 n m1))) (fun v => hideF (runR (X n) (A3 n) g3 v (k3 n))) v.1 v.2.1 := by kernel_rfl
theorem e2 (n : Nat) (m1 : Nat) (v : Dens g2) : runR (X n) (A2 n) g2 v (k2 n m1) = S2 n (fun v => hideF (runL (X n) (A1 n) g1 m1 v (k1 n))) v.1 v.2.1 := by kernel_rfl
theorem e3 (n : Nat) (v : Dens g3) : runR (X n) (A3 n) g3 v (k3 n) = S3 n := by kernel_rfl
noncomputable def J2 (n : Nat) (r1 : Dens g1 → Option R) : Dens g2 → Option R := fun v => S2 n r1 v.1 v.2.1
theorem h2 (n : Nat) (m1 : Nat) : (fun v => runR (X n) (A2 n) g2 v (k2 n m1)) = J2 n (fun v => (runL (X n) (A1 n) g1 m1 v (k1 n))) :=
  funext fun v => (e2 n m1 v).trans (by (try simp only [hideF_eq]); rfl)
noncomputable def J3 (n : Nat) : Dens g3 → Option R := fun v => S3 n
theorem h3 (n : Nat) : (fun v => runR (X n) (A3 n) g3 v (k3 n)) = J3 n :=
  funext fun v => (e3 n v).trans (by (try simp only [hideF_eq]); rfl)
noncomputable def J1 (n : Nat) : Nat → Dens g1 → Option R
  | 0, _ => none
  | m + 1, v => S1 n (J2 n (J1 n m)) (J3 n) v.1 v.2.1
theorem h1 (n : Nat) : ∀ m, (fun v => runL (X n) (A1 n) g1 m v (k1 n)) = J1 n m
  | 0 => rfl
  | m + 1 => funext fun v => (e1 n m v).trans (by (try simp only [hideF_eq]); rw [h2 n m, h3 n]; rw [h1 n m]; rfl)
noncomputable def f (n : Nat) (l : List (Den t31)) : Option R := S0 n (J1 n n) l
theorem link (n : Nat) (v : DIn ia) : acRun (X n) (A0 n) (frameOf (X n).len (inSig 0 ia) v) (endK ia io) = f n v.1 :=
  (e0 n v).trans (by (try simp only [hideF_eq]); rw [h1 n n]; rfl)
theorem phi (n : Nat) : ∀ e ∈ (X n).c.Φ, EntryOk Tryd.prog e := allE_cons (mkEntry_ok (f19.ok n)) (allE_nil)
theorem o2 (n : Nat) : (A2 n).Ok Tryd.prog (X n) := (oc_ok _)
theorem b2 (n : Nat) : (B2 n).Ok Tryd.prog (X n) := runR_ok mixed tabIs (phi n) (o2 n) (by kernel_rfl)
theorem o1 (n : Nat) : (A1 n).Ok Tryd.prog (X n) := ⟨(oc_ok _), ⟨(oc_ok _), (b2 n)⟩⟩
theorem b1 (n : Nat) : (B1 n).Ok Tryd.prog (X n) := runL_ok mixed tabIs (phi n) (o1 n) (by kernel_rfl) n
theorem o3 (n : Nat) : (A3 n).Ok Tryd.prog (X n) := (oc_ok _)
theorem b3 (n : Nat) : (B3 n).Ok Tryd.prog (X n) := runR_ok mixed tabIs (phi n) (o3 n) (by kernel_rfl)
theorem o0 (n : Nat) : (A0 n).Ok Tryd.prog (X n) := ⟨(oc_ok _), ⟨⟨(oc_ok _), (b1 n)⟩, (b3 n)⟩⟩
theorem ok (n : Nat) : FnOk Tryd.prog 10 ia io (fun v => f n v.1) :=
  fn_ok (x := X n) (A := A0 n) mixed tabIs (phi n) Tryd.func10 (by kernel_rfl) (by kernel_rfl) rfl (o0 n) (fun v u h => (link n v).trans h)
noncomputable def en (n : Nat) : Entry := mkEntry 10 ia io (fun v => f n v.1)
end f10
end Go.Proofs.YtnlckhekcklcpaaDoor


namespace Go.Proofs.YtnlckhekcklcpaaDoor
open Go Go.Va Go.Proofs
/- chartulary/object.Sound -/
namespace f20
abbrev ia : List Ai := [.val (.d t23)]
abbrev io : List (Nat × Oi) := [(2, .val (.d .bool))]
abbrev R : Type := DOut ia io
noncomputable def X (n : Nat) : Ctx := ⟨⟨tab, [f24.en n, f25.en n], 0⟩, 17, bnOf 0 ia⟩
noncomputable def A0 (n : Nat) : AC R := (oc R (fsub Tryd.f20 []))
noncomputable def S0 (n : Nat) (o : Den t23) : Option R :=
  bnd (f24.f n o.1) fun u1 =>
  bIf (u1.1) (
    bIf ((hide (decide (((o.2.1.length : Nat) : Int) > (0 : Int))))) (
      bnd (f25.f n o.2.1) fun u2 =>
      some (u2.1, ())
      ) (
      some (false, ())
      )
    ) (
    some (false, ())
    )
theorem e0 (n : Nat) (v : DIn ia) : acRun (X n) (A0 n) (frameOf (X n).len (inSig 0 ia) v) (endK ia io) = S0 n v.1 := by kernel_rfl
noncomputable def f (n : Nat) (o : Den t23) : Option R := S0 n o
theorem link (n : Nat) (v : DIn ia) : acRun (X n) (A0 n) (frameOf (X n).len (inSig 0 ia) v) (endK ia io) = f n v.1 :=
  (e0 n v).trans (by (try simp only [hideF_eq]); rfl)
theorem phi (n : Nat) : ∀ e ∈ (X n).c.Φ, EntryOk Tryd.prog e := allE_cons (mkEntry_ok (f24.ok n)) (allE_cons (mkEntry_ok (f25.ok n)) (allE_nil))
theorem o0 (n : Nat) : (A0 n).Ok Tryd.prog (X n) := (oc_ok _)
theorem ok (n : Nat) : FnOk Tryd.prog 20 ia io (fun v => f n v.1) :=
  fn_ok (x := X n) (A := A0 n) mixed tabIs (phi n) Tryd.func20 (by kernel_rfl) (by kernel_rfl) rfl (o0 n) (fun v u h => (link n v).trans h)
noncomputable def en (n : Nat) : Entry := mkEntry 20 ia io (fun v => f n v.1)
end f20
end Go.Proofs.YtnlckhekcklcpaaDoor


namespace Go.Proofs.YtnlckhekcklcpaaDoor
open Go Go.Va Go.Proofs
/- chartulary/chartularyref13.Sound -/
namespace f9
abbrev ia : List Ai := [.val (.d t23)]
abbrev io : List (Nat × Oi) := [(2, .val (.d .bool))]
abbrev R : Type := DOut ia io
noncomputable def X (n : Nat) : Ctx := ⟨⟨tab, [f10.en n, f30.en n], 0⟩, 17, bnOf 0 ia⟩
noncomputable def A0 (n : Nat) : AC R := (oc R (fsub Tryd.f9 []))
noncomputable def S0 (n : Nat) (o : Den t23) : Option R :=
  bnd (f30.f n o.1) fun u1 =>
  bIf (u1.1) (
    bIf ((hide (decide (((o.2.1.length : Nat) : Int) ≥ (1 : Int))))) (
      bnd (f10.f n o.2.1) fun u2 =>
      some (u2.1, ())
      ) (
      some (false, ())
      )
    ) (
    some (false, ())
    )
theorem e0 (n : Nat) (v : DIn ia) : acRun (X n) (A0 n) (frameOf (X n).len (inSig 0 ia) v) (endK ia io) = S0 n v.1 := by kernel_rfl
noncomputable def f (n : Nat) (o : Den t23) : Option R := S0 n o
theorem link (n : Nat) (v : DIn ia) : acRun (X n) (A0 n) (frameOf (X n).len (inSig 0 ia) v) (endK ia io) = f n v.1 :=
  (e0 n v).trans (by (try simp only [hideF_eq]); rfl)
theorem phi (n : Nat) : ∀ e ∈ (X n).c.Φ, EntryOk Tryd.prog e := allE_cons (mkEntry_ok (f10.ok n)) (allE_cons (mkEntry_ok (f30.ok n)) (allE_nil))
theorem o0 (n : Nat) : (A0 n).Ok Tryd.prog (X n) := (oc_ok _)
theorem ok (n : Nat) : FnOk Tryd.prog 9 ia io (fun v => f n v.1) :=
  fn_ok (x := X n) (A := A0 n) mixed tabIs (phi n) Tryd.func9 (by kernel_rfl) (by kernel_rfl) rfl (o0 n) (fun v u h => (link n v).trans h)
noncomputable def en (n : Nat) : Entry := mkEntry 9 ia io (fun v => f n v.1)
end f9
end Go.Proofs.YtnlckhekcklcpaaDoor


namespace Go.Proofs.YtnlckhekcklcpaaDoor
open Go Go.Va Go.Proofs
/- slices.Clip[[]chartulary/api.Tag,chartulary/api.Tag] -/
namespace f50
abbrev ia : List Ai := [.val (.r 0 t65)]
abbrev io : List (Nat × Oi) := [(2, .val (.r 0 t65))]
abbrev R : Type := DOut ia io
noncomputable def X (n : Nat) : Ctx := ⟨⟨tab, [], 0⟩, 9, bnOf 0 ia⟩
noncomputable def A0 (n : Nat) : AC R := (oc R (fsub Tryd.f50 []))
noncomputable def S0 (n : Nat) (s_ : List (Den t65)) : Option R :=
  gIf (0 ≤ ((s_.length : Nat) : Int) ∧ ((s_.length : Nat) : Int) ≤ ((s_.length : Nat) : Int)) (
    gIf (0 ≤ (0 : Int) ∧ (0 : Int) ≤ ((s_.length : Nat) : Int)) (
      gIf (((s_.length : Nat) : Int) = ((s_.length : Nat) : Int) ∧ true = true) (
        some ((s_.take ((((s_.length : Nat) : Int).toNat) - 0)), ())
        )
      )
    )
theorem e0 (n : Nat) (v : DIn ia) : acRun (X n) (A0 n) (frameOf (X n).len (inSig 0 ia) v) (endK ia io) = S0 n v.1 := by kernel_rfl
noncomputable def f (n : Nat) (s_ : List (Den t65)) : Option R := S0 n s_
theorem link (n : Nat) (v : DIn ia) : acRun (X n) (A0 n) (frameOf (X n).len (inSig 0 ia) v) (endK ia io) = f n v.1 :=
  (e0 n v).trans (by (try simp only [hideF_eq]); rfl)
theorem phi (n : Nat) : ∀ e ∈ (X n).c.Φ, EntryOk Tryd.prog e := allE_nil
theorem o0 (n : Nat) : (A0 n).Ok Tryd.prog (X n) := (oc_ok _)
theorem ok (n : Nat) : FnOk Tryd.prog 50 ia io (fun v => f n v.1) :=
  fn_ok (x := X n) (A := A0 n) mixed tabIs (phi n) Tryd.func50 (by kernel_rfl) (by kernel_rfl) rfl (o0 n) (fun v u h => (link n v).trans h)
noncomputable def en (n : Nat) : Entry := mkEntry 50 ia io (fun v => f n v.1)
end f50
end Go.Proofs.YtnlckhekcklcpaaDoor


namespace Go.Proofs.YtnlckhekcklcpaaDoor
open Go Go.Va Go.Proofs
/- slices.Clone[[]chartulary/api.Tag,chartulary/api.Tag] -/
namespace f51
abbrev ia : List Ai := [.val (.d (.slice t65))]
abbrev io : List (Nat × Oi) := [(2, .val (.r 0 t65))]
abbrev R : Type := DOut ia io
noncomputable def X (n : Nat) : Ctx := ⟨⟨tab, [], 0⟩, 8, bnOf 0 ia⟩
noncomputable def A0 (n : Nat) : AC R := (oc R (fsub Tryd.f51 []))
noncomputable def S0 (n : Nat) (s_ : List (Den t65)) : Option R :=
  bIf ((s_.length == 0)) (
    bothC (
      some ([], ())
      ) (
      gIf ((([] : List (Den t65)).length + s_.length) * 32 ≤ 70368744177664) (
        some ((([] : List (Den t65)) ++ s_), ())
        )
      )
    ) (
    gIf ((([] : List (Den t65)).length + s_.length) * 32 ≤ 70368744177664) (
      some ((([] : List (Den t65)) ++ s_), ())
      )
    )
theorem e0 (n : Nat) (v : DIn ia) : acRun (X n) (A0 n) (frameOf (X n).len (inSig 0 ia) v) (endK ia io) = S0 n v.1 := by kernel_rfl
noncomputable def f (n : Nat) (s_ : List (Den t65)) : Option R := S0 n s_
theorem link (n : Nat) (v : DIn ia) : acRun (X n) (A0 n) (frameOf (X n).len (inSig 0 ia) v) (endK ia io) = f n v.1 :=
  (e0 n v).trans (by (try simp only [hideF_eq]); rfl)
theorem phi (n : Nat) : ∀ e ∈ (X n).c.Φ, EntryOk Tryd.prog e := allE_nil
theorem o0 (n : Nat) : (A0 n).Ok Tryd.prog (X n) := (oc_ok _)
theorem ok (n : Nat) : FnOk Tryd.prog 51 ia io (fun v => f n v.1) :=
  fn_ok (x := X n) (A := A0 n) mixed tabIs (phi n) Tryd.func51 (by kernel_rfl) (by kernel_rfl) rfl (o0 n) (fun v u h => (link n v).trans h)
noncomputable def en (n : Nat) : Entry := mkEntry 51 ia io (fun v => f n v.1)
end f51
end Go.Proofs.YtnlckhekcklcpaaDoor


namespace Go.Proofs.YtnlckhekcklcpaaDoor
open Go Go.Va Go.Proofs
/- chartulary/tags.Clone -/
namespace f43
abbrev ia : List Ai := [.val (.d (.slice t65))]
abbrev io : List (Nat × Oi) := [(2, .val (.r 0 t65))]
abbrev R : Type := DOut ia io
noncomputable def X (n : Nat) : Ctx := ⟨⟨tab, [f50.en n, f51.en n], 0⟩, 6, bnOf 0 ia⟩
noncomputable def A0 (n : Nat) : AC R := (oc R (fsub Tryd.f43 []))
noncomputable def S0 (n : Nat) (list : List (Den t65)) : Option R :=
  bnd (f51.f n list) fun u1 =>
  bnd (f50.f n u1.1) fun u2 =>
  some (u2.1, ())
theorem e0 (n : Nat) (v : DIn ia) : acRun (X n) (A0 n) (frameOf (X n).len (inSig 0 ia) v) (endK ia io) = S0 n v.1 := by kernel_rfl
noncomputable def f (n : Nat) (list : List (Den t65)) : Option R := S0 n list
theorem link (n : Nat) (v : DIn ia) : acRun (X n) (A0 n) (frameOf (X n).len (inSig 0 ia) v) (endK ia io) = f n v.1 :=
  (e0 n v).trans (by (try simp only [hideF_eq]); rfl)
theorem phi (n : Nat) : ∀ e ∈ (X n).c.Φ, EntryOk Tryd.prog e := allE_cons (mkEntry_ok (f50.ok n)) (allE_cons (mkEntry_ok (f51.ok n)) (allE_nil))
theorem o0 (n : Nat) : (A0 n).Ok Tryd.prog (X n) := (oc_ok _)
theorem ok (n : Nat) : FnOk Tryd.prog 43 ia io (fun v => f n v.1) :=
  fn_ok (x := X n) (A := A0 n) mixed tabIs (phi n) Tryd.func43 (by kernel_rfl) (by kernel_rfl) rfl (o0 n) (fun v u h => (link n v).trans h)
noncomputable def en (n : Nat) : Entry := mkEntry 43 ia io (fun v => f n v.1)
end f43
end Go.Proofs.YtnlckhekcklcpaaDoor


namespace Go.Proofs.YtnlckhekcklcpaaDoor
open Go Go.Va Go.Proofs
/- chartulary/object.CloneVersion -/
namespace f29
abbrev ia : List Ai := [.val (.d t31)]
abbrev io : List (Nat × Oi) := [(2, .cel (.d t31))]
abbrev R : Type := DOut ia io
noncomputable def X (n : Nat) : Ctx := ⟨⟨tab, [f43.en n], 0⟩, 8, bnOf 0 ia⟩
noncomputable def A0 (n : Nat) : AC R := (oc R (fsub Tryd.f29 []))
noncomputable def S0 (n : Nat) (v_ : Den t31) : Option R :=
  bnd (f43.f n v_.2.2.2.2.2.2.2.1) fun u1 =>
  some ((v_.1, (v_.2.1, (v_.2.2.1, (v_.2.2.2.1, (v_.2.2.2.2.1, (v_.2.2.2.2.2.1, (v_.2.2.2.2.2.2.1, (u1.1, v_.2.2.2.2.2.2.2.2)))))))), ())
theorem e0 (n : Nat) (v : DIn ia) : acRun (X n) (A0 n) (frameOf (X n).len (inSig 0 ia) v) (endK ia io) = S0 n v.1 := by kernel_rfl
noncomputable def f (n : Nat) (v_ : Den t31) : Option R := S0 n v_
theorem link (n : Nat) (v : DIn ia) : acRun (X n) (A0 n) (frameOf (X n).len (inSig 0 ia) v) (endK ia io) = f n v.1 :=
  (e0 n v).trans (by (try simp only [hideF_eq]); rfl)
theorem phi (n : Nat) : ∀ e ∈ (X n).c.Φ, EntryOk Tryd.prog e := allE_cons (mkEntry_ok (f43.ok n)) (allE_nil)
theorem o0 (n : Nat) : (A0 n).Ok Tryd.prog (X n) := (oc_ok _)
theorem ok (n : Nat) : FnOk Tryd.prog 29 ia io (fun v => f n v.1) :=
  fn_ok (x := X n) (A := A0 n) mixed tabIs (phi n) Tryd.func29 (by kernel_rfl) (by kernel_rfl) rfl (o0 n) (fun v u h => (link n v).trans h)
noncomputable def en (n : Nat) : Entry := mkEntry 29 ia io (fun v => f n v.1)
end f29
end Go.Proofs.YtnlckhekcklcpaaDoor


namespace Go.Proofs.YtnlckhekcklcpaaDoor
open Go Go.Va Go.Proofs
/- slices.Clip[[]chartulary/api.Version,chartulary/api.Version] -/
namespace f28
abbrev ia : List Ai := [.val (.r 0 t31)]
abbrev io : List (Nat × Oi) := [(2, .val (.r 0 t31))]
abbrev R : Type := DOut ia io
noncomputable def X (n : Nat) : Ctx := ⟨⟨tab, [], 0⟩, 9, bnOf 0 ia⟩
noncomputable def A0 (n : Nat) : AC R := (oc R (fsub Tryd.f28 []))
noncomputable def S0 (n : Nat) (s_ : List (Den t31)) : Option R :=
  gIf (0 ≤ ((s_.length : Nat) : Int) ∧ ((s_.length : Nat) : Int) ≤ ((s_.length : Nat) : Int)) (
    gIf (0 ≤ (0 : Int) ∧ (0 : Int) ≤ ((s_.length : Nat) : Int)) (
      gIf (((s_.length : Nat) : Int) = ((s_.length : Nat) : Int) ∧ true = true) (
        some ((s_.take ((((s_.length : Nat) : Int).toNat) - 0)), ())
        )
      )
    )
theorem e0 (n : Nat) (v : DIn ia) : acRun (X n) (A0 n) (frameOf (X n).len (inSig 0 ia) v) (endK ia io) = S0 n v.1 := by kernel_rfl
noncomputable def f (n : Nat) (s_ : List (Den t31)) : Option R := S0 n s_
theorem link (n : Nat) (v : DIn ia) : acRun (X n) (A0 n) (frameOf (X n).len (inSig 0 ia) v) (endK ia io) = f n v.1 :=
  (e0 n v).trans (by (try simp only [hideF_eq]); rfl)
theorem phi (n : Nat) : ∀ e ∈ (X n).c.Φ, EntryOk Tryd.prog e := allE_nil
theorem o0 (n : Nat) : (A0 n).Ok Tryd.prog (X n) := (oc_ok _)
theorem ok (n : Nat) : FnOk Tryd.prog 28 ia io (fun v => f n v.1) :=
  fn_ok (x := X n) (A := A0 n) mixed tabIs (phi n) Tryd.func28 (by kernel_rfl) (by kernel_rfl) rfl (o0 n) (fun v u h => (link n v).trans h)
noncomputable def en (n : Nat) : Entry := mkEntry 28 ia io (fun v => f n v.1)
end f28
end Go.Proofs.YtnlckhekcklcpaaDoor


namespace Go.Proofs.YtnlckhekcklcpaaDoor
open Go Go.Va Go.Proofs
/- chartulary/object.Clone -/
namespace f27
abbrev ia : List Ai := [.val (.d t23)]
abbrev io : List (Nat × Oi) := [(2, .cel (.p (.d .str) (.p (.r 0 t31) (.d .unit))))]
abbrev R : Type := DOut ia io
noncomputable def X (n : Nat) : Ctx := ⟨⟨tab, [f28.en n, f29.en n], 0⟩, 23, bnOf 0 ia⟩
abbrev g1 : List Si := [.ref 1 1 t23, .ref 2 2 t23, .val 3 (.r 200300 t31), .val 7 (.d (.slice t31)), .val 8 (.d (.int .i64)), .val 9 (.d (.int .i64)), .box 1 (.d t23), .box 2 (.p (.d .str) (.p (.r 100000000002000 t31) (.d .unit)))]
abbrev g2 : List Si := [.ref 1 1 t23, .ref 2 2 t23, .val 3 (.r 200300 t31), .box 1 (.d t23), .box 2 (.p (.d .str) (.p (.r 100000000002000 t31) (.d .unit)))]
noncomputable def A1 (n : Nat) : AC R := (oc R (fsub Tryd.f27 [1, 1, 0, 1, 0, 0]))
noncomputable def B1 (n : Nat) : AC R := .cut (fsub Tryd.f27 [1, 1, 0, 1, 0]) g1 (fun v k => hideF (runL (X n) (A1 n) g1 n v k))
noncomputable def A2 (n : Nat) : AC R := (oc R (fsub Tryd.f27 [1, 1, 1]))
noncomputable def B2 (n : Nat) : AC R := .cut (fsub Tryd.f27 [1, 1, 1]) g2 (fun v k => hideF (runR (X n) (A2 n) g2 v k))
noncomputable def A0 (n : Nat) : AC R := (.seq (oc R (fsub Tryd.f27 [0])) (.seq (oc R (fsub Tryd.f27 [1, 0])) (.seq (.seq (oc R (fsub Tryd.f27 [1, 1, 0, 0])) (.block 0 (B1 n))) (B2 n))))
noncomputable def k1 (n : Nat) : KK R := (blockK 0 (seqK (fun s => acRun (X n) (B2 n) s (endK ia io)) (endK ia io)))
noncomputable def k2 (n : Nat) : KK R := (endK ia io)
noncomputable def S0 (n : Nat) (j1 : Dens g1 → Option R) (o : Den t23) : Option R :=
  j1 ([], o.2.1, ((o.2.1.length : Nat) : Int), 0, o, ((⟨#[]⟩ : ByteArray), ([], ())), ())
noncomputable def S1 (n : Nat) (j1 : Dens g1 → Option R) (j2 : Dens g2 → Option R) (list : List (Den t31)) (t7 : List (Den t31)) (t8 : Int) (t9 : Int) (o : Den t23) (b2 : Den t23) : Option R :=
  bIf ((hide (decide (t9 < t8)))) (
    gIf (0 ≤ t9 ∧ t9 < ((t7.length : Nat) : Int)) (
      bnd (f29.f n (List.getD t7 t9.toNat (Va.dflt t31))) fun u1 =>
      gIf ((list.length + 1) * 120 ≤ 70368744177664) (
        j1 ((list ++ ([u1.1] : List (Den t31))), t7, t8, (IntKind.i64.wrap (t9 + (1 : Int))), o, (b2.1, (b2.2.1, b2.2.2)), ())
        )
      )
    ) (
    j2 (list, o, (b2.1, (b2.2.1, b2.2.2)), ())
    )
noncomputable def S2 (n : Nat) (list : List (Den t31)) (o : Den t23) (b2 : Den t23) : Option R :=
  bnd (f28.f n list) fun u1 =>
  some ((o.1, (u1.1, o.2.2)), ())
theorem e0 (n : Nat) (v : DIn ia) : acRun (X n) (A0 n) (frameOf (X n).len (inSig 0 ia) v) (endK ia io) = S0 n (fun v => hideF (runL (X n) (A1 n) g1 n v (k1 n))) v.1 := by kernel_rfl
theorem e1 (n : Nat) (m1 : Nat) (v : Dens g1) : runL (X n) (A1 n) g1 (m1 + 1) v (k1 n) = S1 n (fun v => hideF (runL (X n) (A1 n) g1 m1 v (k1 n))) (fun v => hideF (runR (X n) (A2 n) g2 v (k2 n))) v.1 v.2.1 v.2.2.1 v.2.2.2.1 v.2.2.2.2.1 v.2.2.2.2.2.1 := by kernel_rfl
theorem e2 (n : Nat) (v : Dens g2) : runR (X n) (A2 n) g2 v (k2 n) = S2 n v.1 v.2.1 v.2.2.1 := by kernel_rfl
noncomputable def J2 (n : Nat) : Dens g2 → Option R := fun v => S2 n v.1 v.2.1 v.2.2.1
theorem h2 (n : Nat) : (fun v => runR (X n) (A2 n) g2 v (k2 n)) = J2 n :=
  funext fun v => (e2 n v).trans (by (try simp only [hideF_eq]); rfl)
noncomputable def J1 (n : Nat) : Nat → Dens g1 → Option R
  | 0, _ => none
  | m + 1, v => S1 n (J1 n m) (J2 n) v.1 v.2.1 v.2.2.1 v.2.2.2.1 v.2.2.2.2.1 v.2.2.2.2.2.1
theorem h1 (n : Nat) : ∀ m, (fun v => runL (X n) (A1 n) g1 m v (k1 n)) = J1 n m
  | 0 => rfl
  | m + 1 => funext fun v => (e1 n m v).trans (by (try simp only [hideF_eq]); rw [h2 n]; rw [h1 n m]; rfl)
noncomputable def f (n : Nat) (o : Den t23) : Option R := S0 n (J1 n n) o
theorem link (n : Nat) (v : DIn ia) : acRun (X n) (A0 n) (frameOf (X n).len (inSig 0 ia) v) (endK ia io) = f n v.1 :=
  (e0 n v).trans (by (try simp only [hideF_eq]); rw [h1 n n]; rfl)
theorem phi (n : Nat) : ∀ e ∈ (X n).c.Φ, EntryOk Tryd.prog e := allE_cons (mkEntry_ok (f28.ok n)) (allE_cons (mkEntry_ok (f29.ok n)) (allE_nil))
theorem o1 (n : Nat) : (A1 n).Ok Tryd.prog (X n) := (oc_ok _)
theorem b1 (n : Nat) : (B1 n).Ok Tryd.prog (X n) := runL_ok mixed tabIs (phi n) (o1 n) (by kernel_rfl) n
theorem o2 (n : Nat) : (A2 n).Ok Tryd.prog (X n) := (oc_ok _)
theorem b2 (n : Nat) : (B2 n).Ok Tryd.prog (X n) := runR_ok mixed tabIs (phi n) (o2 n) (by kernel_rfl)
theorem o0 (n : Nat) : (A0 n).Ok Tryd.prog (X n) := ⟨(oc_ok _), ⟨(oc_ok _), ⟨⟨(oc_ok _), (b1 n)⟩, (b2 n)⟩⟩⟩
theorem ok (n : Nat) : FnOk Tryd.prog 27 ia io (fun v => f n v.1) :=
  fn_ok (x := X n) (A := A0 n) mixed tabIs (phi n) Tryd.func27 (by kernel_rfl) (by kernel_rfl) rfl (o0 n) (fun v u h => (link n v).trans h)
noncomputable def en (n : Nat) : Entry := mkEntry 27 ia io (fun v => f n v.1)
end f27
end Go.Proofs.YtnlckhekcklcpaaDoor


namespace Go.Proofs.YtnlckhekcklcpaaDoor
open Go Go.Va Go.Proofs
/- chartulary/object.place$1 -/
namespace f46
abbrev ia : List Ai := [.val (.d t31), .ptr (.d (.int .u64))]
abbrev io : List (Nat × Oi) := [(3, .val (.d .bool))]
abbrev R : Type := DOut ia io
noncomputable def X (n : Nat) : Ctx := ⟨⟨tab, [], 0⟩, 8, bnOf 0 ia⟩
noncomputable def A0 (n : Nat) : AC R := (oc R (fsub Tryd.f46 []))
noncomputable def S0 (n : Nat) (v_ : Den t31) (t1 : Int) : Option R :=
  some ((hide (v_.1 == t1)), t1, ())
theorem e0 (n : Nat) (v : DIn ia) : acRun (X n) (A0 n) (frameOf (X n).len (inSig 0 ia) v) (endK ia io) = S0 n v.1 v.2.1 := by kernel_rfl
noncomputable def f (n : Nat) (v_ : Den t31) (t1 : Int) : Option R := S0 n v_ t1
theorem link (n : Nat) (v : DIn ia) : acRun (X n) (A0 n) (frameOf (X n).len (inSig 0 ia) v) (endK ia io) = f n v.1 v.2.1 :=
  (e0 n v).trans (by (try simp only [hideF_eq]); rfl)
theorem phi (n : Nat) : ∀ e ∈ (X n).c.Φ, EntryOk Tryd.prog e := allE_nil
theorem o0 (n : Nat) : (A0 n).Ok Tryd.prog (X n) := (oc_ok _)
theorem ok (n : Nat) : FnOk Tryd.prog 46 ia io (fun v => f n v.1 v.2.1) :=
  fn_ok (x := X n) (A := A0 n) mixed tabIs (phi n) Tryd.func46 (by kernel_rfl) (by kernel_rfl) rfl (o0 n) (fun v u h => (link n v).trans h)
noncomputable def en (n : Nat) : Entry := mkEntry 46 ia io (fun v => f n v.1 v.2.1)
end f46
end Go.Proofs.YtnlckhekcklcpaaDoor


namespace Go.Proofs.YtnlckhekcklcpaaDoor
open Go Go.Va Go.Proofs
/- slices.IndexFunc[[]chartulary/api.Version,chartulary/api.Version] -/
namespace f45
abbrev ia : List Ai := [.val (.d (.slice t31)), .fn 46 [(.d (.int .u64))]]
abbrev io : List (Nat × Oi) := [(4, .val (.d (.int .i64)))]
abbrev R : Type := DOut ia io
noncomputable def X (n : Nat) : Ctx := ⟨⟨tab, [f46.en n], 0⟩, 19, bnOf 0 ia⟩
abbrev g1 : List Si := [.val 0 (.d (.slice t31)), .clo 1 46 [(502000, (.int .u64), false)], .val 7 (.d (.int .i64)), .val 8 (.d (.int .i64)), .box 502000 (.d (.int .u64))]
abbrev g2 : List Si := [.box 502000 (.d (.int .u64))]
noncomputable def A1 (n : Nat) : AC R := (oc R (fsub Tryd.f45 [1, 0, 1, 0, 0]))
noncomputable def B1 (n : Nat) : AC R := .cut (fsub Tryd.f45 [1, 0, 1, 0]) g1 (fun v k => hideF (runL (X n) (A1 n) g1 n v k))
noncomputable def A2 (n : Nat) : AC R := (oc R (fsub Tryd.f45 [1, 1]))
noncomputable def B2 (n : Nat) : AC R := .cut (fsub Tryd.f45 [1, 1]) g2 (fun v k => hideF (runR (X n) (A2 n) g2 v k))
noncomputable def A0 (n : Nat) : AC R := (.seq (oc R (fsub Tryd.f45 [0])) (.seq (.seq (oc R (fsub Tryd.f45 [1, 0, 0])) (.block 0 (B1 n))) (B2 n)))
noncomputable def k1 (n : Nat) : KK R := (blockK 0 (seqK (fun s => acRun (X n) (B2 n) s (endK ia io)) (endK ia io)))
noncomputable def k2 (n : Nat) : KK R := (endK ia io)
noncomputable def S0 (n : Nat) (j1 : Dens g1 → Option R) (s_ : List (Den t31)) (fc0 : Int) : Option R :=
  j1 (s_, ((s_.length : Nat) : Int), 0, fc0, ())
noncomputable def S1 (n : Nat) (j1 : Dens g1 → Option R) (j2 : Dens g2 → Option R) (s_ : List (Den t31)) (t7 : Int) (t8 : Int) (b502000 : Int) : Option R :=
  bIf ((hide (decide (t8 < t7)))) (
    gIf (0 ≤ t8 ∧ t8 < ((s_.length : Nat) : Int)) (
      bnd (f46.f n (List.getD s_ t8.toNat (Va.dflt t31)) b502000) fun u1 =>
      bIf (u1.1) (
        some (t8, u1.2.1, ())
        ) (
        j1 (s_, t7, (IntKind.i64.wrap (t8 + (1 : Int))), u1.2.1, ())
        )
      )
    ) (
    j2 (b502000, ())
    )
noncomputable def S2 (n : Nat) (b502000 : Int) : Option R :=
  some ((-1), b502000, ())
theorem e0 (n : Nat) (v : DIn ia) : acRun (X n) (A0 n) (frameOf (X n).len (inSig 0 ia) v) (endK ia io) = S0 n (fun v => hideF (runL (X n) (A1 n) g1 n v (k1 n))) v.1 v.2.1 := by kernel_rfl
theorem e1 (n : Nat) (m1 : Nat) (v : Dens g1) : runL (X n) (A1 n) g1 (m1 + 1) v (k1 n) = S1 n (fun v => hideF (runL (X n) (A1 n) g1 m1 v (k1 n))) (fun v => hideF (runR (X n) (A2 n) g2 v (k2 n))) v.1 v.2.1 v.2.2.1 v.2.2.2.1 := by kernel_rfl
theorem e2 (n : Nat) (v : Dens g2) : runR (X n) (A2 n) g2 v (k2 n) = S2 n v.1 := by kernel_rfl
noncomputable def J2 (n : Nat) : Dens g2 → Option R := fun v => S2 n v.1
theorem h2 (n : Nat) : (fun v => runR (X n) (A2 n) g2 v (k2 n)) = J2 n :=
  funext fun v => (e2 n v).trans (by (try simp only [hideF_eq]); rfl)
noncomputable def J1 (n : Nat) : Nat → Dens g1 → Option R
  | 0, _ => none
  | m + 1, v => S1 n (J1 n m) (J2 n) v.1 v.2.1 v.2.2.1 v.2.2.2.1
theorem h1 (n : Nat) : ∀ m, (fun v => runL (X n) (A1 n) g1 m v (k1 n)) = J1 n m
  | 0 => rfl
  | m + 1 => funext fun v => (e1 n m v).trans (by (try simp only [hideF_eq]); rw [h2 n]; rw [h1 n m]; rfl)
noncomputable def f (n : Nat) (s_ : List (Den t31)) (fc0 : Int) : Option R := S0 n (J1 n n) s_ fc0
theorem link (n : Nat) (v : DIn ia) : acRun (X n) (A0 n) (frameOf (X n).len (inSig 0 ia) v) (endK ia io) = f n v.1 v.2.1 :=
  (e0 n v).trans (by (try simp only [hideF_eq]); rw [h1 n n]; rfl)
theorem phi (n : Nat) : ∀ e ∈ (X n).c.Φ, EntryOk Tryd.prog e := allE_cons (mkEntry_ok (f46.ok n)) (allE_nil)
theorem o1 (n : Nat) : (A1 n).Ok Tryd.prog (X n) := (oc_ok _)
theorem b1 (n : Nat) : (B1 n).Ok Tryd.prog (X n) := runL_ok mixed tabIs (phi n) (o1 n) (by kernel_rfl) n
theorem o2 (n : Nat) : (A2 n).Ok Tryd.prog (X n) := (oc_ok _)
theorem b2 (n : Nat) : (B2 n).Ok Tryd.prog (X n) := runR_ok mixed tabIs (phi n) (o2 n) (by kernel_rfl)
theorem o0 (n : Nat) : (A0 n).Ok Tryd.prog (X n) := ⟨(oc_ok _), ⟨⟨(oc_ok _), (b1 n)⟩, (b2 n)⟩⟩
theorem ok (n : Nat) : FnOk Tryd.prog 45 ia io (fun v => f n v.1 v.2.1) :=
  fn_ok (x := X n) (A := A0 n) mixed tabIs (phi n) Tryd.func45 (by kernel_rfl) (by kernel_rfl) rfl (o0 n) (fun v u h => (link n v).trans h)
noncomputable def en (n : Nat) : Entry := mkEntry 45 ia io (fun v => f n v.1 v.2.1)
end f45
end Go.Proofs.YtnlckhekcklcpaaDoor


namespace Go.Proofs.YtnlckhekcklcpaaDoor
open Go Go.Va Go.Proofs
/- chartulary/object.place -/
namespace f31
abbrev ia : List Ai := [.val (.d t23), .val (.d (.int .u64))]
abbrev io : List (Nat × Oi) := [(4, .val (.d (.int .i64)))]
abbrev R : Type := DOut ia io
noncomputable def X (n : Nat) : Ctx := ⟨⟨tab, [f45.en n], 0⟩, 9, bnOf 0 ia⟩
noncomputable def A0 (n : Nat) : AC R := (oc R (fsub Tryd.f31 []))
noncomputable def S0 (n : Nat) (o : Den t23) (id : Int) : Option R :=
  bnd (f45.f n o.2.1 id) fun u1 =>
  some (u1.1, ())
theorem e0 (n : Nat) (v : DIn ia) : acRun (X n) (A0 n) (frameOf (X n).len (inSig 0 ia) v) (endK ia io) = S0 n v.1 v.2.1 := by kernel_rfl
noncomputable def f (n : Nat) (o : Den t23) (id : Int) : Option R := S0 n o id
theorem link (n : Nat) (v : DIn ia) : acRun (X n) (A0 n) (frameOf (X n).len (inSig 0 ia) v) (endK ia io) = f n v.1 v.2.1 :=
  (e0 n v).trans (by (try simp only [hideF_eq]); rfl)
theorem phi (n : Nat) : ∀ e ∈ (X n).c.Φ, EntryOk Tryd.prog e := allE_cons (mkEntry_ok (f45.ok n)) (allE_nil)
theorem o0 (n : Nat) : (A0 n).Ok Tryd.prog (X n) := (oc_ok _)
theorem ok (n : Nat) : FnOk Tryd.prog 31 ia io (fun v => f n v.1 v.2.1) :=
  fn_ok (x := X n) (A := A0 n) mixed tabIs (phi n) Tryd.func31 (by kernel_rfl) (by kernel_rfl) rfl (o0 n) (fun v u h => (link n v).trans h)
noncomputable def en (n : Nat) : Entry := mkEntry 31 ia io (fun v => f n v.1 v.2.1)
end f31
end Go.Proofs.YtnlckhekcklcpaaDoor


namespace Go.Proofs.YtnlckhekcklcpaaDoor
open Go Go.Va Go.Proofs
/- chartulary/chartularyref13.Place -/
namespace f16
abbrev ia : List Ai := [.val (.d t23), .val (.d (.int .u64))]
abbrev io : List (Nat × Oi) := [(4, .val (.d (.int .i64)))]
abbrev R : Type := DOut ia io
noncomputable def X (n : Nat) : Ctx := ⟨⟨tab, [], 0⟩, 25, bnOf 0 ia⟩
abbrev g1 : List Si := [.val 1 (.d (.int .u64)), .ref 2 2 t23, .val 5 (.d (.int .i64)), .val 6 (.d (.int .i64)), .box 2 (.d t23)]
abbrev g2 : List Si := [.val 1 (.d (.int .u64)), .ref 2 2 t23, .val 5 (.d (.int .i64)), .val 6 (.d (.int .i64)), .box 2 (.d t23)]
abbrev g3 : List Si := [.val 5 (.d (.int .i64))]
noncomputable def A2 (n : Nat) : AC R := (oc R (fsub Tryd.f16 [1, 1, 0, 1, 0, 0, 1, 1]))
noncomputable def B2 (n : Nat) : AC R := .cut (fsub Tryd.f16 [1, 1, 0, 1, 0, 0, 1, 1]) g2 (fun v k => hideF (runR (X n) (A2 n) g2 v k))
noncomputable def A1 (n : Nat) : AC R := (.seq (oc R (fsub Tryd.f16 [1, 1, 0, 1, 0, 0, 0])) (.seq (oc R (fsub Tryd.f16 [1, 1, 0, 1, 0, 0, 1, 0])) (B2 n)))
noncomputable def B1 (n : Nat) : AC R := .cut (fsub Tryd.f16 [1, 1, 0, 1, 0]) g1 (fun v k => hideF (runL (X n) (A1 n) g1 n v k))
noncomputable def A3 (n : Nat) : AC R := (oc R (fsub Tryd.f16 [1, 1, 1]))
noncomputable def B3 (n : Nat) : AC R := .cut (fsub Tryd.f16 [1, 1, 1]) g3 (fun v k => hideF (runR (X n) (A3 n) g3 v k))
noncomputable def A0 (n : Nat) : AC R := (.seq (oc R (fsub Tryd.f16 [0])) (.seq (oc R (fsub Tryd.f16 [1, 0])) (.seq (.seq (oc R (fsub Tryd.f16 [1, 1, 0, 0])) (.block 0 (B1 n))) (B3 n))))
noncomputable def k1 (n : Nat) : KK R := (blockK 0 (seqK (fun s => acRun (X n) (B3 n) s (endK ia io)) (endK ia io)))
noncomputable def k3 (n : Nat) : KK R := (endK ia io)
noncomputable def k2 (n : Nat) (m1 : Nat) : KK R := (loopK (X n).bn g1 (fun v => hideF (runL (X n) (A1 n) g1 m1 v (k1 n))) (k1 n))
noncomputable def S0 (n : Nat) (j1 : Dens g1 → Option R) (o : Den t23) (id : Int) : Option R :=
  j1 (id, (-1), (IntKind.i64.wrap (((o.2.1.length : Nat) : Int) - (1 : Int))), o, ())
noncomputable def S1 (n : Nat) (j2 : Dens g2 → Option R) (j3 : Dens g3 → Option R) (id : Int) (at_ : Int) (i : Int) (o : Den t23) : Option R :=
  bIf ((hide (decide (i ≥ (0 : Int))))) (
    gIf (0 ≤ i ∧ i < ((o.2.1.length : Nat) : Int)) (
      bIf ((hide (((List.getD o.2.1 i.toNat (Va.dflt t31)).1) == id))) (
        j2 (id, i, i, o, ())
        ) (
        j2 (id, at_, i, o, ())
        )
      )
    ) (
    j3 (at_, ())
    )
noncomputable def S2 (n : Nat) (j1 : Dens g1 → Option R) (id : Int) (at_ : Int) (i : Int) (o : Den t23) : Option R :=
  j1 (id, at_, (IntKind.i64.wrap (i - (1 : Int))), o, ())
noncomputable def S3 (n : Nat) (at_ : Int) : Option R :=
  some (at_, ())
theorem e0 (n : Nat) (v : DIn ia) : acRun (X n) (A0 n) (frameOf (X n).len (inSig 0 ia) v) (endK ia io) = S0 n (fun v => hideF (runL (X n) (A1 n) g1 n v (k1 n))) v.1 v.2.1 := by kernel_rfl
theorem e1 (n : Nat) (m1 : Nat) (v : Dens g1) : runL (X n) (A1 n) g1 (m1 + 1) v (k1 n) = S1 n (fun v => hideF (runR (X n) (A2 n) g2 v (k2 n m1))) (fun v => hideF (runR (X n) (A3 n) g3 v (k3 n))) v.1 v.2.1 v.2.2.1 v.2.2.2.1 := by kernel_rfl
theorem e2 (n : Nat) (m1 : Nat) (v : Dens g2) : runR (X n) (A2 n) g2 v (k2 n m1) = S2 n (fun v => hideF (runL (X n) (A1 n) g1 m1 v (k1 n))) v.1 v.2.1 v.2.2.1 v.2.2.2.1 := by kernel_rfl
theorem e3 (n : Nat) (v : Dens g3) : runR (X n) (A3 n) g3 v (k3 n) = S3 n v.1 := by kernel_rfl
noncomputable def J2 (n : Nat) (r1 : Dens g1 → Option R) : Dens g2 → Option R := fun v => S2 n r1 v.1 v.2.1 v.2.2.1 v.2.2.2.1
theorem h2 (n : Nat) (m1 : Nat) : (fun v => runR (X n) (A2 n) g2 v (k2 n m1)) = J2 n (fun v => (runL (X n) (A1 n) g1 m1 v (k1 n))) :=
  funext fun v => (e2 n m1 v).trans (by (try simp only [hideF_eq]); rfl)
noncomputable def J3 (n : Nat) : Dens g3 → Option R := fun v => S3 n v.1
theorem h3 (n : Nat) : (fun v => runR (X n) (A3 n) g3 v (k3 n)) = J3 n :=
  funext fun v => (e3 n v).trans (by (try simp only [hideF_eq]); rfl)
noncomputable def J1 (n : Nat) : Nat → Dens g1 → Option R
  | 0, _ => none
  | m + 1, v => S1 n (J2 n (J1 n m)) (J3 n) v.1 v.2.1 v.2.2.1 v.2.2.2.1
theorem h1 (n : Nat) : ∀ m, (fun v => runL (X n) (A1 n) g1 m v (k1 n)) = J1 n m
  | 0 => rfl
  | m + 1 => funext fun v => (e1 n m v).trans (by (try simp only [hideF_eq]); rw [h2 n m, h3 n]; rw [h1 n m]; rfl)
noncomputable def f (n : Nat) (o : Den t23) (id : Int) : Option R := S0 n (J1 n n) o id
theorem link (n : Nat) (v : DIn ia) : acRun (X n) (A0 n) (frameOf (X n).len (inSig 0 ia) v) (endK ia io) = f n v.1 v.2.1 :=
  (e0 n v).trans (by (try simp only [hideF_eq]); rw [h1 n n]; rfl)
theorem phi (n : Nat) : ∀ e ∈ (X n).c.Φ, EntryOk Tryd.prog e := allE_nil
theorem o2 (n : Nat) : (A2 n).Ok Tryd.prog (X n) := (oc_ok _)
theorem b2 (n : Nat) : (B2 n).Ok Tryd.prog (X n) := runR_ok mixed tabIs (phi n) (o2 n) (by kernel_rfl)
theorem o1 (n : Nat) : (A1 n).Ok Tryd.prog (X n) := ⟨(oc_ok _), ⟨(oc_ok _), (b2 n)⟩⟩
theorem b1 (n : Nat) : (B1 n).Ok Tryd.prog (X n) := runL_ok mixed tabIs (phi n) (o1 n) (by kernel_rfl) n
theorem o3 (n : Nat) : (A3 n).Ok Tryd.prog (X n) := (oc_ok _)
theorem b3 (n : Nat) : (B3 n).Ok Tryd.prog (X n) := runR_ok mixed tabIs (phi n) (o3 n) (by kernel_rfl)
theorem o0 (n : Nat) : (A0 n).Ok Tryd.prog (X n) := ⟨(oc_ok _), ⟨(oc_ok _), ⟨⟨(oc_ok _), (b1 n)⟩, (b3 n)⟩⟩⟩
theorem ok (n : Nat) : FnOk Tryd.prog 16 ia io (fun v => f n v.1 v.2.1) :=
  fn_ok (x := X n) (A := A0 n) mixed tabIs (phi n) Tryd.func16 (by kernel_rfl) (by kernel_rfl) rfl (o0 n) (fun v u h => (link n v).trans h)
noncomputable def en (n : Nat) : Entry := mkEntry 16 ia io (fun v => f n v.1 v.2.1)
end f16
end Go.Proofs.YtnlckhekcklcpaaDoor


namespace Go.Proofs.YtnlckhekcklcpaaDoor
open Go Go.Va Go.Proofs
/- chartulary/object.SameVersion -/
namespace f40
abbrev ia : List Ai := [.val (.d t31), .val (.d t31)]
abbrev io : List (Nat × Oi) := [(4, .val (.d .bool))]
abbrev R : Type := DOut ia io
noncomputable def X (n : Nat) : Ctx := ⟨⟨tab, [f48.en n], 0⟩, 61, bnOf 0 ia⟩
noncomputable def A0 (n : Nat) : AC R := (oc R (fsub Tryd.f40 []))
noncomputable def S0 (n : Nat) (a : Den t31) (b : Den t31) : Option R :=
  bnd (f48.f n a.2.2.2.2.2.2.2.1 b.2.2.2.2.2.2.2.1) fun u1 =>
  bIf (u1.1) (
    bIf ((hide (a.1 == b.1))) (
      bIf ((hide (a.2.1 == b.2.1))) (
        bIf ((hide (a.2.2.1 == b.2.2.1))) (
          bIf ((hide (a.2.2.2.1 == b.2.2.2.1))) (
            bIf ((hide (eqD (.arr 32 (.int .u8)) a.2.2.2.2.1 b.2.2.2.2.1))) (
              bIf ((hide (a.2.2.2.2.2.1 == b.2.2.2.2.2.1))) (
                some ((hide (eqD t28 a.2.2.2.2.2.2.1 b.2.2.2.2.2.2.1)), ())
                ) (
                some (false, ())
                )
              ) (
              some (false, ())
              )
            ) (
            some (false, ())
            )
          ) (
          some (false, ())
          )
        ) (
        some (false, ())
        )
      ) (
      some (false, ())
      )
    ) (
    some (false, ())
    )
theorem e0 (n : Nat) (v : DIn ia) : acRun (X n) (A0 n) (frameOf (X n).len (inSig 0 ia) v) (endK ia io) = S0 n v.1 v.2.1 := by kernel_rfl
noncomputable def f (n : Nat) (a : Den t31) (b : Den t31) : Option R := S0 n a b
theorem link (n : Nat) (v : DIn ia) : acRun (X n) (A0 n) (frameOf (X n).len (inSig 0 ia) v) (endK ia io) = f n v.1 v.2.1 :=
  (e0 n v).trans (by (try simp only [hideF_eq]); rfl)
theorem phi (n : Nat) : ∀ e ∈ (X n).c.Φ, EntryOk Tryd.prog e := allE_cons (mkEntry_ok (f48.ok n)) (allE_nil)
theorem o0 (n : Nat) : (A0 n).Ok Tryd.prog (X n) := (oc_ok _)
theorem ok (n : Nat) : FnOk Tryd.prog 40 ia io (fun v => f n v.1 v.2.1) :=
  fn_ok (x := X n) (A := A0 n) mixed tabIs (phi n) Tryd.func40 (by kernel_rfl) (by kernel_rfl) rfl (o0 n) (fun v u h => (link n v).trans h)
noncomputable def en (n : Nat) : Entry := mkEntry 40 ia io (fun v => f n v.1 v.2.1)
end f40
end Go.Proofs.YtnlckhekcklcpaaDoor


namespace Go.Proofs.YtnlckhekcklcpaaDoor
open Go Go.Va Go.Proofs
/- chartulary/chartularyref13.SameVersion -/
namespace f17
abbrev ia : List Ai := [.val (.d t31), .val (.d t31)]
abbrev io : List (Nat × Oi) := [(4, .val (.d .bool))]
abbrev R : Type := DOut ia io
noncomputable def X (n : Nat) : Ctx := ⟨⟨tab, [f32.en n], 0⟩, 57, bnOf 0 ia⟩
abbrev g1 : List Si := [.ref 2 2 t31, .ref 3 3 t31, .box 2 (.d t31), .box 3 (.d t31)]
noncomputable def A1 (n : Nat) : AC R := (oc R (fsub Tryd.f17 [1, 1]))
noncomputable def B1 (n : Nat) : AC R := .cut (fsub Tryd.f17 [1, 1]) g1 (fun v k => hideF (runR (X n) (A1 n) g1 v k))
noncomputable def A0 (n : Nat) : AC R := (.seq (oc R (fsub Tryd.f17 [0])) (.seq (oc R (fsub Tryd.f17 [1, 0])) (B1 n)))
noncomputable def k1 (n : Nat) : KK R := (endK ia io)
noncomputable def S0 (n : Nat) (j1 : Dens g1 → Option R) (a : Den t31) (b : Den t31) : Option R :=
  bIf ((hide (a.1 != b.1))) (
    some (false, ())
    ) (
    bIf ((hide (!(a.2.1 == b.2.1)))) (
      some (false, ())
      ) (
      bIf ((hide (a.2.2.1 != b.2.2.1))) (
        some (false, ())
        ) (
        bIf ((hide (a.2.2.2.1 != b.2.2.2.1))) (
          some (false, ())
          ) (
          bIf ((hide (a.2.2.2.2.2.1 != b.2.2.2.2.2.1))) (
            some (false, ())
            ) (
            bIf ((hide (!(eqD t28 a.2.2.2.2.2.2.1 b.2.2.2.2.2.2.1)))) (
              some (false, ())
              ) (
              j1 (a, b, ())
              )
            )
          )
        )
      )
    )
noncomputable def S1 (n : Nat) (a : Den t31) (b : Den t31) : Option R :=
  bIf ((hide (eqD (.arr 32 (.int .u8)) a.2.2.2.2.1 b.2.2.2.2.1))) (
    bnd (f32.f n a.2.2.2.2.2.2.2.1 b.2.2.2.2.2.2.2.1) fun u1 =>
    some (u1.1, ())
    ) (
    some (false, ())
    )
theorem e0 (n : Nat) (v : DIn ia) : acRun (X n) (A0 n) (frameOf (X n).len (inSig 0 ia) v) (endK ia io) = S0 n (fun v => hideF (runR (X n) (A1 n) g1 v (k1 n))) v.1 v.2.1 := by kernel_rfl
theorem e1 (n : Nat) (v : Dens g1) : runR (X n) (A1 n) g1 v (k1 n) = S1 n v.1 v.2.1 := by kernel_rfl
noncomputable def J1 (n : Nat) : Dens g1 → Option R := fun v => S1 n v.1 v.2.1
theorem h1 (n : Nat) : (fun v => runR (X n) (A1 n) g1 v (k1 n)) = J1 n :=
  funext fun v => (e1 n v).trans (by (try simp only [hideF_eq]); rfl)
noncomputable def f (n : Nat) (a : Den t31) (b : Den t31) : Option R := S0 n (J1 n) a b
theorem link (n : Nat) (v : DIn ia) : acRun (X n) (A0 n) (frameOf (X n).len (inSig 0 ia) v) (endK ia io) = f n v.1 v.2.1 :=
  (e0 n v).trans (by (try simp only [hideF_eq]); rw [h1 n]; rfl)
theorem phi (n : Nat) : ∀ e ∈ (X n).c.Φ, EntryOk Tryd.prog e := allE_cons (mkEntry_ok (f32.ok n)) (allE_nil)
theorem o1 (n : Nat) : (A1 n).Ok Tryd.prog (X n) := (oc_ok _)
theorem b1 (n : Nat) : (B1 n).Ok Tryd.prog (X n) := runR_ok mixed tabIs (phi n) (o1 n) (by kernel_rfl)
theorem o0 (n : Nat) : (A0 n).Ok Tryd.prog (X n) := ⟨(oc_ok _), ⟨(oc_ok _), (b1 n)⟩⟩
theorem ok (n : Nat) : FnOk Tryd.prog 17 ia io (fun v => f n v.1 v.2.1) :=
  fn_ok (x := X n) (A := A0 n) mixed tabIs (phi n) Tryd.func17 (by kernel_rfl) (by kernel_rfl) rfl (o0 n) (fun v u h => (link n v).trans h)
noncomputable def en (n : Nat) : Entry := mkEntry 17 ia io (fun v => f n v.1 v.2.1)
end f17
end Go.Proofs.YtnlckhekcklcpaaDoor


namespace Go.Proofs.YtnlckhekcklcpaaDoor
open Go Go.Va Go.Proofs
/- slices.EqualFunc[[]chartulary/api.Version,[]chartulary/api.Version,chartulary/api.Version,chartulary/api.Version] -/
namespace f39
abbrev ia : List Ai := [.val (.d (.slice t31)), .val (.d (.slice t31)), .fn 40 []]
abbrev io : List (Nat × Oi) := [(6, .val (.d .bool))]
abbrev R : Type := DOut ia io
noncomputable def X (n : Nat) : Ctx := ⟨⟨tab, [f40.en n], 0⟩, 32, bnOf 0 ia⟩
abbrev g1 : List Si := [.val 1 (.d (.slice t31)), .clo 2 40 [], .val 15 (.d (.slice t31)), .val 16 (.d (.int .i64)), .val 17 (.d (.int .i64))]
abbrev g2 : List Si := []
noncomputable def A1 (n : Nat) : AC R := (oc R (fsub Tryd.f39 [1, 1, 0, 1, 0, 0]))
noncomputable def B1 (n : Nat) : AC R := .cut (fsub Tryd.f39 [1, 1, 0, 1, 0]) g1 (fun v k => hideF (runL (X n) (A1 n) g1 n v k))
noncomputable def A2 (n : Nat) : AC R := (oc R (fsub Tryd.f39 [1, 1, 1]))
noncomputable def B2 (n : Nat) : AC R := .cut (fsub Tryd.f39 [1, 1, 1]) g2 (fun v k => hideF (runR (X n) (A2 n) g2 v k))
noncomputable def A0 (n : Nat) : AC R := (.seq (oc R (fsub Tryd.f39 [0])) (.seq (oc R (fsub Tryd.f39 [1, 0])) (.seq (.seq (oc R (fsub Tryd.f39 [1, 1, 0, 0])) (.block 0 (B1 n))) (B2 n))))
noncomputable def k1 (n : Nat) : KK R := (blockK 0 (seqK (fun s => acRun (X n) (B2 n) s (endK ia io)) (endK ia io)))
noncomputable def k2 (n : Nat) : KK R := (endK ia io)
noncomputable def S0 (n : Nat) (j1 : Dens g1 → Option R) (s1 : List (Den t31)) (s2 : List (Den t31)) : Option R :=
  bIf ((hide (((s1.length : Nat) : Int) != ((s2.length : Nat) : Int)))) (
    some (false, ())
    ) (
    j1 (s2, s1, ((s1.length : Nat) : Int), 0, ())
    )
noncomputable def S1 (n : Nat) (j1 : Dens g1 → Option R) (j2 : Dens g2 → Option R) (s2 : List (Den t31)) (t15 : List (Den t31)) (t16 : Int) (t17 : Int) : Option R :=
  bIf ((hide (decide (t17 < t16)))) (
    gIf (0 ≤ t17 ∧ t17 < ((t15.length : Nat) : Int)) (
      gIf (0 ≤ t17 ∧ t17 < ((s2.length : Nat) : Int)) (
        bnd (f40.f n (List.getD t15 t17.toNat (Va.dflt t31)) (List.getD s2 t17.toNat (Va.dflt t31))) fun u1 =>
        bIf ((!u1.1)) (
          some (false, ())
          ) (
          j1 (s2, t15, t16, (IntKind.i64.wrap (t17 + (1 : Int))), ())
          )
        )
      )
    ) (
    j2 (())
    )
noncomputable def S2 (n : Nat) : Option R :=
  some (true, ())
theorem e0 (n : Nat) (v : DIn ia) : acRun (X n) (A0 n) (frameOf (X n).len (inSig 0 ia) v) (endK ia io) = S0 n (fun v => hideF (runL (X n) (A1 n) g1 n v (k1 n))) v.1 v.2.1 := by kernel_rfl
theorem e1 (n : Nat) (m1 : Nat) (v : Dens g1) : runL (X n) (A1 n) g1 (m1 + 1) v (k1 n) = S1 n (fun v => hideF (runL (X n) (A1 n) g1 m1 v (k1 n))) (fun v => hideF (runR (X n) (A2 n) g2 v (k2 n))) v.1 v.2.1 v.2.2.1 v.2.2.2.1 := by kernel_rfl
theorem e2 (n : Nat) (v : Dens g2) : runR (X n) (A2 n) g2 v (k2 n) = S2 n := by kernel_rfl
noncomputable def J2 (n : Nat) : Dens g2 → Option R := fun v => S2 n
theorem h2 (n : Nat) : (fun v => runR (X n) (A2 n) g2 v (k2 n)) = J2 n :=
  funext fun v => (e2 n v).trans (by (try simp only [hideF_eq]); rfl)
noncomputable def J1 (n : Nat) : Nat → Dens g1 → Option R
  | 0, _ => none
  | m + 1, v => S1 n (J1 n m) (J2 n) v.1 v.2.1 v.2.2.1 v.2.2.2.1
theorem h1 (n : Nat) : ∀ m, (fun v => runL (X n) (A1 n) g1 m v (k1 n)) = J1 n m
  | 0 => rfl
  | m + 1 => funext fun v => (e1 n m v).trans (by (try simp only [hideF_eq]); rw [h2 n]; rw [h1 n m]; rfl)
noncomputable def f (n : Nat) (s1 : List (Den t31)) (s2 : List (Den t31)) : Option R := S0 n (J1 n n) s1 s2
theorem link (n : Nat) (v : DIn ia) : acRun (X n) (A0 n) (frameOf (X n).len (inSig 0 ia) v) (endK ia io) = f n v.1 v.2.1 :=
  (e0 n v).trans (by (try simp only [hideF_eq]); rw [h1 n n]; rfl)
theorem phi (n : Nat) : ∀ e ∈ (X n).c.Φ, EntryOk Tryd.prog e := allE_cons (mkEntry_ok (f40.ok n)) (allE_nil)
theorem o1 (n : Nat) : (A1 n).Ok Tryd.prog (X n) := (oc_ok _)
theorem b1 (n : Nat) : (B1 n).Ok Tryd.prog (X n) := runL_ok mixed tabIs (phi n) (o1 n) (by kernel_rfl) n
theorem o2 (n : Nat) : (A2 n).Ok Tryd.prog (X n) := (oc_ok _)
theorem b2 (n : Nat) : (B2 n).Ok Tryd.prog (X n) := runR_ok mixed tabIs (phi n) (o2 n) (by kernel_rfl)
theorem o0 (n : Nat) : (A0 n).Ok Tryd.prog (X n) := ⟨(oc_ok _), ⟨(oc_ok _), ⟨⟨(oc_ok _), (b1 n)⟩, (b2 n)⟩⟩⟩
theorem ok (n : Nat) : FnOk Tryd.prog 39 ia io (fun v => f n v.1 v.2.1) :=
  fn_ok (x := X n) (A := A0 n) mixed tabIs (phi n) Tryd.func39 (by kernel_rfl) (by kernel_rfl) rfl (o0 n) (fun v u h => (link n v).trans h)
noncomputable def en (n : Nat) : Entry := mkEntry 39 ia io (fun v => f n v.1 v.2.1)
end f39
end Go.Proofs.YtnlckhekcklcpaaDoor


namespace Go.Proofs.YtnlckhekcklcpaaDoor
open Go Go.Va Go.Proofs
/- chartulary/object.Same -/
namespace f21
abbrev ia : List Ai := [.val (.d t23), .val (.d t23)]
abbrev io : List (Nat × Oi) := [(4, .val (.d .bool))]
abbrev R : Type := DOut ia io
noncomputable def X (n : Nat) : Ctx := ⟨⟨tab, [f39.en n], 0⟩, 17, bnOf 0 ia⟩
noncomputable def A0 (n : Nat) : AC R := (oc R (fsub Tryd.f21 []))
noncomputable def S0 (n : Nat) (a : Den t23) (b : Den t23) : Option R :=
  bIf ((hide (eqS a.1 b.1))) (
    bnd (f39.f n a.2.1 b.2.1) fun u1 =>
    some (u1.1, ())
    ) (
    some (false, ())
    )
theorem e0 (n : Nat) (v : DIn ia) : acRun (X n) (A0 n) (frameOf (X n).len (inSig 0 ia) v) (endK ia io) = S0 n v.1 v.2.1 := by kernel_rfl
noncomputable def f (n : Nat) (a : Den t23) (b : Den t23) : Option R := S0 n a b
theorem link (n : Nat) (v : DIn ia) : acRun (X n) (A0 n) (frameOf (X n).len (inSig 0 ia) v) (endK ia io) = f n v.1 v.2.1 :=
  (e0 n v).trans (by (try simp only [hideF_eq]); rfl)
theorem phi (n : Nat) : ∀ e ∈ (X n).c.Φ, EntryOk Tryd.prog e := allE_cons (mkEntry_ok (f39.ok n)) (allE_nil)
theorem o0 (n : Nat) : (A0 n).Ok Tryd.prog (X n) := (oc_ok _)
theorem ok (n : Nat) : FnOk Tryd.prog 21 ia io (fun v => f n v.1 v.2.1) :=
  fn_ok (x := X n) (A := A0 n) mixed tabIs (phi n) Tryd.func21 (by kernel_rfl) (by kernel_rfl) rfl (o0 n) (fun v u h => (link n v).trans h)
noncomputable def en (n : Nat) : Entry := mkEntry 21 ia io (fun v => f n v.1 v.2.1)
end f21
end Go.Proofs.YtnlckhekcklcpaaDoor


namespace Go.Proofs.YtnlckhekcklcpaaDoor
open Go Go.Va Go.Proofs
/- chartulary/chartularyref13.Same -/
namespace f12
abbrev ia : List Ai := [.val (.d t23), .val (.d t23)]
abbrev io : List (Nat × Oi) := [(4, .val (.d .bool))]
abbrev R : Type := DOut ia io
noncomputable def X (n : Nat) : Ctx := ⟨⟨tab, [f17.en n], 0⟩, 39, bnOf 0 ia⟩
abbrev g1 : List Si := [.ref 2 2 t23, .ref 3 3 t23, .box 2 (.d t23), .box 3 (.d t23)]
abbrev g2 : List Si := [.ref 2 2 t23, .ref 3 3 t23, .val 5 (.d (.int .i64)), .box 2 (.d t23), .box 3 (.d t23)]
abbrev g3 : List Si := []
noncomputable def A2 (n : Nat) : AC R := (oc R (fsub Tryd.f12 [1, 1, 0, 1, 0, 0]))
noncomputable def B2 (n : Nat) : AC R := .cut (fsub Tryd.f12 [1, 1, 0, 1, 0]) g2 (fun v k => hideF (runL (X n) (A2 n) g2 n v k))
noncomputable def A3 (n : Nat) : AC R := (oc R (fsub Tryd.f12 [1, 1, 1]))
noncomputable def B3 (n : Nat) : AC R := .cut (fsub Tryd.f12 [1, 1, 1]) g3 (fun v k => hideF (runR (X n) (A3 n) g3 v k))
noncomputable def A1 (n : Nat) : AC R := (.seq (.seq (oc R (fsub Tryd.f12 [1, 1, 0, 0])) (.block 0 (B2 n))) (B3 n))
noncomputable def B1 (n : Nat) : AC R := .cut (fsub Tryd.f12 [1, 1]) g1 (fun v k => hideF (runR (X n) (A1 n) g1 v k))
noncomputable def A0 (n : Nat) : AC R := (.seq (oc R (fsub Tryd.f12 [0])) (.seq (oc R (fsub Tryd.f12 [1, 0])) (B1 n)))
noncomputable def k1 (n : Nat) : KK R := (endK ia io)
noncomputable def k2 (n : Nat) : KK R := (blockK 0 (seqK (fun s => acRun (X n) (B3 n) s (k1 n)) (k1 n)))
noncomputable def k3 (n : Nat) : KK R := (k1 n)
noncomputable def S0 (n : Nat) (j1 : Dens g1 → Option R) (a : Den t23) (b : Den t23) : Option R :=
  bIf ((hide (!eqS a.1 b.1))) (
    some (false, ())
    ) (
    bIf ((hide (((a.2.1.length : Nat) : Int) != ((b.2.1.length : Nat) : Int)))) (
      some (false, ())
      ) (
      j1 (a, b, ())
      )
    )
noncomputable def S1 (n : Nat) (j2 : Dens g2 → Option R) (a : Den t23) (b : Den t23) : Option R :=
  j2 (0, a, b, ())
noncomputable def S2 (n : Nat) (j2 : Dens g2 → Option R) (j3 : Dens g3 → Option R) (i : Int) (a : Den t23) (b : Den t23) : Option R :=
  bIf ((hide (decide (i < ((a.2.1.length : Nat) : Int))))) (
    gIf (0 ≤ i ∧ i < ((a.2.1.length : Nat) : Int)) (
      gIf (0 ≤ i ∧ i < ((b.2.1.length : Nat) : Int)) (
        bnd (f17.f n (List.getD a.2.1 i.toNat (Va.dflt t31)) (List.getD b.2.1 i.toNat (Va.dflt t31))) fun u1 =>
        bIf ((!u1.1)) (
          some (false, ())
          ) (
          j2 ((IntKind.i64.wrap (i + (1 : Int))), a, b, ())
          )
        )
      )
    ) (
    j3 (())
    )
noncomputable def S3 (n : Nat) : Option R :=
  some (true, ())
theorem e0 (n : Nat) (v : DIn ia) : acRun (X n) (A0 n) (frameOf (X n).len (inSig 0 ia) v) (endK ia io) = S0 n (fun v => hideF (runR (X n) (A1 n) g1 v (k1 n))) v.1 v.2.1 := by kernel_rfl
theorem e1 (n : Nat) (v : Dens g1) : runR (X n) (A1 n) g1 v (k1 n) = S1 n (fun v => hideF (runL (X n) (A2 n) g2 n v (k2 n))) v.1 v.2.1 := by kernel_rfl
theorem e2 (n : Nat) (m2 : Nat) (v : Dens g2) : runL (X n) (A2 n) g2 (m2 + 1) v (k2 n) = S2 n (fun v => hideF (runL (X n) (A2 n) g2 m2 v (k2 n))) (fun v => hideF (runR (X n) (A3 n) g3 v (k3 n))) v.1 v.2.1 v.2.2.1 := by kernel_rfl
theorem e3 (n : Nat) (v : Dens g3) : runR (X n) (A3 n) g3 v (k3 n) = S3 n := by kernel_rfl
noncomputable def J3 (n : Nat) : Dens g3 → Option R := fun v => S3 n
theorem h3 (n : Nat) : (fun v => runR (X n) (A3 n) g3 v (k3 n)) = J3 n :=
  funext fun v => (e3 n v).trans (by (try simp only [hideF_eq]); rfl)
noncomputable def J2 (n : Nat) : Nat → Dens g2 → Option R
  | 0, _ => none
  | m + 1, v => S2 n (J2 n m) (J3 n) v.1 v.2.1 v.2.2.1
theorem h2 (n : Nat) : ∀ m, (fun v => runL (X n) (A2 n) g2 m v (k2 n)) = J2 n m
  | 0 => rfl
  | m + 1 => funext fun v => (e2 n m v).trans (by (try simp only [hideF_eq]); rw [h3 n]; rw [h2 n m]; rfl)
noncomputable def J1 (n : Nat) : Dens g1 → Option R := fun v => S1 n (J2 n n) v.1 v.2.1
theorem h1 (n : Nat) : (fun v => runR (X n) (A1 n) g1 v (k1 n)) = J1 n :=
  funext fun v => (e1 n v).trans (by (try simp only [hideF_eq]); rw [h2 n n]; rfl)
noncomputable def f (n : Nat) (a : Den t23) (b : Den t23) : Option R := S0 n (J1 n) a b
theorem link (n : Nat) (v : DIn ia) : acRun (X n) (A0 n) (frameOf (X n).len (inSig 0 ia) v) (endK ia io) = f n v.1 v.2.1 :=
  (e0 n v).trans (by (try simp only [hideF_eq]); rw [h1 n]; rfl)
theorem phi (n : Nat) : ∀ e ∈ (X n).c.Φ, EntryOk Tryd.prog e := allE_cons (mkEntry_ok (f17.ok n)) (allE_nil)
theorem o2 (n : Nat) : (A2 n).Ok Tryd.prog (X n) := (oc_ok _)
theorem b2 (n : Nat) : (B2 n).Ok Tryd.prog (X n) := runL_ok mixed tabIs (phi n) (o2 n) (by kernel_rfl) n
theorem o3 (n : Nat) : (A3 n).Ok Tryd.prog (X n) := (oc_ok _)
theorem b3 (n : Nat) : (B3 n).Ok Tryd.prog (X n) := runR_ok mixed tabIs (phi n) (o3 n) (by kernel_rfl)
theorem o1 (n : Nat) : (A1 n).Ok Tryd.prog (X n) := ⟨⟨(oc_ok _), (b2 n)⟩, (b3 n)⟩
theorem b1 (n : Nat) : (B1 n).Ok Tryd.prog (X n) := runR_ok mixed tabIs (phi n) (o1 n) (by kernel_rfl)
theorem o0 (n : Nat) : (A0 n).Ok Tryd.prog (X n) := ⟨(oc_ok _), ⟨(oc_ok _), (b1 n)⟩⟩
theorem ok (n : Nat) : FnOk Tryd.prog 12 ia io (fun v => f n v.1 v.2.1) :=
  fn_ok (x := X n) (A := A0 n) mixed tabIs (phi n) Tryd.func12 (by kernel_rfl) (by kernel_rfl) rfl (o0 n) (fun v u h => (link n v).trans h)
noncomputable def en (n : Nat) : Entry := mkEntry 12 ia io (fun v => f n v.1 v.2.1)
end f12
end Go.Proofs.YtnlckhekcklcpaaDoor


namespace Go.Proofs.YtnlckhekcklcpaaDoor
open Go Go.Va Go.Proofs
/- slices.Delete[[]chartulary/api.Version,chartulary/api.Version] -/
namespace f41
abbrev ia : List Ai := [.val (.r 0 t31), .val (.d (.int .i64)), .val (.d (.int .i64))]
abbrev io : List (Nat × Oi) := [(6, .val (.r 0 t31))]
abbrev R : Type := DOut ia io
noncomputable def X (n : Nat) : Ctx := ⟨⟨tab, [], 0⟩, 33, bnOf 0 ia⟩
noncomputable def A0 (n : Nat) : AC R := (oc R (fsub Tryd.f41 []))
noncomputable def S0 (n : Nat) (s_ : List (Den t31)) (i : Int) (j : Int) : Option R :=
  gIf (0 ≤ j ∧ j ≤ ((s_.length : Nat) : Int)) (
    gIf (0 ≤ i ∧ i ≤ j) (
      gIf (((s_.length : Nat) : Int) = ((s_.length : Nat) : Int) ∧ true = true) (
        bIf ((hide (i == j))) (
          some (s_, ())
          ) (
          gIf (0 ≤ i ∧ i ≤ ((s_.length : Nat) : Int)) (
            gIf (0 ≤ (0 : Int) ∧ (0 : Int) ≤ i) (
              gIf (0 ≤ ((s_.length : Nat) : Int) ∧ ((s_.length : Nat) : Int) ≤ ((s_.length : Nat) : Int)) (
                gIf (0 ≤ j ∧ j ≤ ((s_.length : Nat) : Int)) (
                  gIf (0 + (i.toNat - 0) + ((s_.drop j.toNat).take (((((s_.length : Nat) : Int)).toNat) - j.toNat)).length ≤ s_.length) (
                    gIf (0 ≤ ((s_.length : Nat) : Int) ∧ ((0 : Nat) : Int) + ((s_.length : Nat) : Int) ≤ (((s_.take (0 + (i.toNat - 0)) ++ ((s_.drop j.toNat).take (((((s_.length : Nat) : Int)).toNat) - j.toNat)) ++ s_.drop (0 + (i.toNat - 0) + ((s_.drop j.toNat).take (((((s_.length : Nat) : Int)).toNat) - j.toNat)).length)).length : Nat) : Int)) (
                      gIf (0 ≤ ((((i.toNat - 0) + ((s_.drop j.toNat).take (((((s_.length : Nat) : Int)).toNat) - j.toNat)).length) : Nat) : Int) ∧ ((((i.toNat - 0) + ((s_.drop j.toNat).take (((((s_.length : Nat) : Int)).toNat) - j.toNat)).length) : Nat) : Int) ≤ ((s_.length : Nat) : Int)) (
                        some ((((s_.take (0 + (i.toNat - 0)) ++ ((s_.drop j.toNat).take (((((s_.length : Nat) : Int)).toNat) - j.toNat)) ++ s_.drop (0 + (i.toNat - 0) + ((s_.drop j.toNat).take (((((s_.length : Nat) : Int)).toNat) - j.toNat)).length)).take (0 + (((((i.toNat - 0) + ((s_.drop j.toNat).take (((((s_.length : Nat) : Int)).toNat) - j.toNat)).length) : Nat) : Int).toNat)) ++ List.replicate ((((s_.length : Nat) : Int).toNat) - (((((i.toNat - 0) + ((s_.drop j.toNat).take (((((s_.length : Nat) : Int)).toNat) - j.toNat)).length) : Nat) : Int).toNat)) (Va.dflt t31) ++ (s_.take (0 + (i.toNat - 0)) ++ ((s_.drop j.toNat).take (((((s_.length : Nat) : Int)).toNat) - j.toNat)) ++ s_.drop (0 + (i.toNat - 0) + ((s_.drop j.toNat).take (((((s_.length : Nat) : Int)).toNat) - j.toNat)).length)).drop ((0 + (((((i.toNat - 0) + ((s_.drop j.toNat).take (((((s_.length : Nat) : Int)).toNat) - j.toNat)).length) : Nat) : Int).toNat)) + ((((s_.length : Nat) : Int).toNat) - (((((i.toNat - 0) + ((s_.drop j.toNat).take (((((s_.length : Nat) : Int)).toNat) - j.toNat)).length) : Nat) : Int).toNat)))).take ((i.toNat - 0) + ((s_.drop j.toNat).take (((((s_.length : Nat) : Int)).toNat) - j.toNat)).length)), ())
                        )
                      )
                    )
                  )
                )
              )
            )
          )
        )
      )
    )
theorem e0 (n : Nat) (v : DIn ia) : acRun (X n) (A0 n) (frameOf (X n).len (inSig 0 ia) v) (endK ia io) = S0 n v.1 v.2.1 v.2.2.1 := by kernel_rfl
noncomputable def f (n : Nat) (s_ : List (Den t31)) (i : Int) (j : Int) : Option R := S0 n s_ i j
theorem link (n : Nat) (v : DIn ia) : acRun (X n) (A0 n) (frameOf (X n).len (inSig 0 ia) v) (endK ia io) = f n v.1 v.2.1 v.2.2.1 :=
  (e0 n v).trans (by (try simp only [hideF_eq]); rfl)
theorem phi (n : Nat) : ∀ e ∈ (X n).c.Φ, EntryOk Tryd.prog e := allE_nil
theorem o0 (n : Nat) : (A0 n).Ok Tryd.prog (X n) := (oc_ok _)
theorem ok (n : Nat) : FnOk Tryd.prog 41 ia io (fun v => f n v.1 v.2.1 v.2.2.1) :=
  fn_ok (x := X n) (A := A0 n) mixed tabIs (phi n) Tryd.func41 (by kernel_rfl) (by kernel_rfl) rfl (o0 n) (fun v u h => (link n v).trans h)
noncomputable def en (n : Nat) : Entry := mkEntry 41 ia io (fun v => f n v.1 v.2.1 v.2.2.1)
end f41
end Go.Proofs.YtnlckhekcklcpaaDoor


namespace Go.Proofs.YtnlckhekcklcpaaDoor
open Go Go.Va Go.Proofs
/- chartulary/object.Find -/
namespace f13
abbrev ia : List Ai := [.val (.d t23), .val (.d (.int .u64))]
abbrev io : List (Nat × Oi) := [(4, .cel (.d t31)), (5, .val (.d (.int .i64)))]
abbrev R : Type := DOut ia io
noncomputable def X (n : Nat) : Ctx := ⟨⟨tab, [f20.en n, f29.en n, f31.en n], 0⟩, 23, bnOf 0 ia⟩
noncomputable def A0 (n : Nat) : AC R := (oc R (fsub Tryd.f13 []))
noncomputable def S0 (n : Nat) (o : Den t23) (id : Int) : Option R :=
  bnd (f20.f n o) fun u1 =>
  bIf ((!u1.1)) (
    some ((0, (false, (0, (0, ((List.replicate 32 0), (0, ((0, (0, (false, ()))), ([], ())))))))), 2, ())
    ) (
    bnd (f31.f n o id) fun u2 =>
    bIf ((hide (decide (u2.1 < (0 : Int))))) (
      some ((0, (false, (0, (0, ((List.replicate 32 0), (0, ((0, (0, (false, ()))), ([], ())))))))), 7, ())
      ) (
      gIf (0 ≤ u2.1 ∧ u2.1 < ((o.2.1.length : Nat) : Int)) (
        bnd (f29.f n (List.getD o.2.1 u2.1.toNat (Va.dflt t31))) fun u3 =>
        some (u3.1, 0, ())
        )
      )
    )
theorem e0 (n : Nat) (v : DIn ia) : acRun (X n) (A0 n) (frameOf (X n).len (inSig 0 ia) v) (endK ia io) = S0 n v.1 v.2.1 := by kernel_rfl
noncomputable def f (n : Nat) (o : Den t23) (id : Int) : Option R := S0 n o id
theorem link (n : Nat) (v : DIn ia) : acRun (X n) (A0 n) (frameOf (X n).len (inSig 0 ia) v) (endK ia io) = f n v.1 v.2.1 :=
  (e0 n v).trans (by (try simp only [hideF_eq]); rfl)
theorem phi (n : Nat) : ∀ e ∈ (X n).c.Φ, EntryOk Tryd.prog e := allE_cons (mkEntry_ok (f20.ok n)) (allE_cons (mkEntry_ok (f29.ok n)) (allE_cons (mkEntry_ok (f31.ok n)) (allE_nil)))
theorem o0 (n : Nat) : (A0 n).Ok Tryd.prog (X n) := (oc_ok _)
theorem ok (n : Nat) : FnOk Tryd.prog 13 ia io (fun v => f n v.1 v.2.1) :=
  fn_ok (x := X n) (A := A0 n) mixed tabIs (phi n) Tryd.func13 (by kernel_rfl) (by kernel_rfl) rfl (o0 n) (fun v u h => (link n v).trans h)
noncomputable def en (n : Nat) : Entry := mkEntry 13 ia io (fun v => f n v.1 v.2.1)
end f13
end Go.Proofs.YtnlckhekcklcpaaDoor


namespace Go.Proofs.YtnlckhekcklcpaaDoor
open Go Go.Va Go.Proofs
/- chartulary/object.Latest -/
namespace f14
abbrev ia : List Ai := [.val (.d t23)]
abbrev io : List (Nat × Oi) := [(2, .cel (.d t31)), (3, .val (.d (.int .i64)))]
abbrev R : Type := DOut ia io
noncomputable def X (n : Nat) : Ctx := ⟨⟨tab, [f20.en n, f29.en n], 0⟩, 17, bnOf 0 ia⟩
noncomputable def A0 (n : Nat) : AC R := (oc R (fsub Tryd.f14 []))
noncomputable def S0 (n : Nat) (o : Den t23) : Option R :=
  bnd (f20.f n o) fun u1 =>
  bIf ((!u1.1)) (
    some ((0, (false, (0, (0, ((List.replicate 32 0), (0, ((0, (0, (false, ()))), ([], ())))))))), 2, ())
    ) (
    gIf (0 ≤ (IntKind.i64.wrap (((o.2.1.length : Nat) : Int) - (1 : Int))) ∧ (IntKind.i64.wrap (((o.2.1.length : Nat) : Int) - (1 : Int))) < ((o.2.1.length : Nat) : Int)) (
      bnd (f29.f n (List.getD o.2.1 ((IntKind.i64.wrap (((o.2.1.length : Nat) : Int) - (1 : Int))).toNat) (Va.dflt t31))) fun u2 =>
      some (u2.1, 0, ())
      )
    )
theorem e0 (n : Nat) (v : DIn ia) : acRun (X n) (A0 n) (frameOf (X n).len (inSig 0 ia) v) (endK ia io) = S0 n v.1 := by kernel_rfl
noncomputable def f (n : Nat) (o : Den t23) : Option R := S0 n o
theorem link (n : Nat) (v : DIn ia) : acRun (X n) (A0 n) (frameOf (X n).len (inSig 0 ia) v) (endK ia io) = f n v.1 :=
  (e0 n v).trans (by (try simp only [hideF_eq]); rfl)
theorem phi (n : Nat) : ∀ e ∈ (X n).c.Φ, EntryOk Tryd.prog e := allE_cons (mkEntry_ok (f20.ok n)) (allE_cons (mkEntry_ok (f29.ok n)) (allE_nil))
theorem o0 (n : Nat) : (A0 n).Ok Tryd.prog (X n) := (oc_ok _)
theorem ok (n : Nat) : FnOk Tryd.prog 14 ia io (fun v => f n v.1) :=
  fn_ok (x := X n) (A := A0 n) mixed tabIs (phi n) Tryd.func14 (by kernel_rfl) (by kernel_rfl) rfl (o0 n) (fun v u h => (link n v).trans h)
noncomputable def en (n : Nat) : Entry := mkEntry 14 ia io (fun v => f n v.1)
end f14
end Go.Proofs.YtnlckhekcklcpaaDoor


namespace Go.Proofs.YtnlckhekcklcpaaDoor
open Go Go.Va Go.Proofs
/- chartulary/object.Replaced -/
namespace f15
abbrev ia : List Ai := [.val (.d t23), .val (.d (.int .u64))]
abbrev io : List (Nat × Oi) := [(4, .val (.d (.int .i64))), (5, .val (.d .bool))]
abbrev R : Type := DOut ia io
noncomputable def X (n : Nat) : Ctx := ⟨⟨tab, [f20.en n, f31.en n], 0⟩, 30, bnOf 0 ia⟩
abbrev g1 : List Si := [.ref 2 2 t23, .val 6 (.d (.int .i64)), .box 2 (.d t23)]
noncomputable def A1 (n : Nat) : AC R := (oc R (fsub Tryd.f15 [1, 1, 1, 1]))
noncomputable def B1 (n : Nat) : AC R := .cut (fsub Tryd.f15 [1, 1, 1, 1]) g1 (fun v k => hideF (runR (X n) (A1 n) g1 v k))
noncomputable def A0 (n : Nat) : AC R := (.seq (oc R (fsub Tryd.f15 [0])) (.seq (oc R (fsub Tryd.f15 [1, 0])) (.seq (oc R (fsub Tryd.f15 [1, 1, 0])) (.seq (oc R (fsub Tryd.f15 [1, 1, 1, 0])) (B1 n)))))
noncomputable def k1 (n : Nat) : KK R := (endK ia io)
noncomputable def S0 (n : Nat) (j1 : Dens g1 → Option R) (o : Den t23) (id : Int) : Option R :=
  bnd (f20.f n o) fun u1 =>
  bIf ((!u1.1)) (
    some (0, false, ())
    ) (
    bnd (f31.f n o id) fun u2 =>
    bIf ((hide (decide (u2.1 < (0 : Int))))) (
      some (0, false, ())
      ) (
      bIf ((hide (u2.1 == (IntKind.i64.wrap (((o.2.1.length : Nat) : Int) - (1 : Int)))))) (
        some (0, false, ())
        ) (
        j1 (u2.1, o, ())
        )
      )
    )
noncomputable def S1 (n : Nat) (i : Int) (o : Den t23) : Option R :=
  gIf (0 ≤ (IntKind.i64.wrap (i + (1 : Int))) ∧ (IntKind.i64.wrap (i + (1 : Int))) < ((o.2.1.length : Nat) : Int)) (
    some (((((((List.getD o.2.1 ((IntKind.i64.wrap (i + (1 : Int))).toNat) (Va.dflt t31)).2).2).2).2).2).1, true, ())
    )
theorem e0 (n : Nat) (v : DIn ia) : acRun (X n) (A0 n) (frameOf (X n).len (inSig 0 ia) v) (endK ia io) = S0 n (fun v => hideF (runR (X n) (A1 n) g1 v (k1 n))) v.1 v.2.1 := by kernel_rfl
theorem e1 (n : Nat) (v : Dens g1) : runR (X n) (A1 n) g1 v (k1 n) = S1 n v.1 v.2.1 := by kernel_rfl
noncomputable def J1 (n : Nat) : Dens g1 → Option R := fun v => S1 n v.1 v.2.1
theorem h1 (n : Nat) : (fun v => runR (X n) (A1 n) g1 v (k1 n)) = J1 n :=
  funext fun v => (e1 n v).trans (by (try simp only [hideF_eq]); rfl)
noncomputable def f (n : Nat) (o : Den t23) (id : Int) : Option R := S0 n (J1 n) o id
theorem link (n : Nat) (v : DIn ia) : acRun (X n) (A0 n) (frameOf (X n).len (inSig 0 ia) v) (endK ia io) = f n v.1 v.2.1 :=
  (e0 n v).trans (by (try simp only [hideF_eq]); rw [h1 n]; rfl)
theorem phi (n : Nat) : ∀ e ∈ (X n).c.Φ, EntryOk Tryd.prog e := allE_cons (mkEntry_ok (f20.ok n)) (allE_cons (mkEntry_ok (f31.ok n)) (allE_nil))
theorem o1 (n : Nat) : (A1 n).Ok Tryd.prog (X n) := (oc_ok _)
theorem b1 (n : Nat) : (B1 n).Ok Tryd.prog (X n) := runR_ok mixed tabIs (phi n) (o1 n) (by kernel_rfl)
theorem o0 (n : Nat) : (A0 n).Ok Tryd.prog (X n) := ⟨(oc_ok _), ⟨(oc_ok _), ⟨(oc_ok _), ⟨(oc_ok _), (b1 n)⟩⟩⟩⟩
theorem ok (n : Nat) : FnOk Tryd.prog 15 ia io (fun v => f n v.1 v.2.1) :=
  fn_ok (x := X n) (A := A0 n) mixed tabIs (phi n) Tryd.func15 (by kernel_rfl) (by kernel_rfl) rfl (o0 n) (fun v u h => (link n v).trans h)
noncomputable def en (n : Nat) : Entry := mkEntry 15 ia io (fun v => f n v.1 v.2.1)
end f15
end Go.Proofs.YtnlckhekcklcpaaDoor


namespace Go.Proofs.YtnlckhekcklcpaaDoor
open Go Go.Va Go.Proofs
/- chartulary/object.Add -/
namespace f8
abbrev ia : List Ai := [.val (.d t23), .val (.d t31)]
abbrev io : List (Nat × Oi) := [(4, .cel (.p (.d .str) (.p (.r 0 t31) (.d .unit)))), (5, .val (.d (.int .i64)))]
abbrev R : Type := DOut ia io
noncomputable def X (n : Nat) : Ctx := ⟨⟨tab, [f18.en n, f24.en n, f25.en n, f26.en n, f27.en n, f28.en n, f29.en n], 0⟩, 52, bnOf 0 ia⟩
abbrev g1 : List Si := [.ref 2 2 t23, .ref 3 3 t31, .ref 4 4 t23, .val 22 (.d .bool), .box 2 (.d t23), .box 3 (.d t31), .box 4 (.p (.d .str) (.p (.r 100000000004000 t31) (.d .unit)))]
abbrev g2 : List Si := [.ref 2 2 t23, .ref 3 3 t31, .ref 4 4 t23, .box 2 (.d t23), .box 3 (.d t31), .box 4 (.p (.d .str) (.p (.r 100000000004000 t31) (.d .unit)))]
abbrev g3 : List Si := [.ref 2 2 t23, .ref 3 3 t31, .ref 4 4 t23, .val 39 (.d .bool), .box 2 (.d t23), .box 3 (.d t31), .box 4 (.p (.d .str) (.p (.r 100000000004000 t31) (.d .unit)))]
abbrev g4 : List Si := [.ref 2 2 t23, .ref 3 3 t31, .ref 4 4 t23, .box 2 (.d t23), .box 3 (.d t31), .box 4 (.p (.d .str) (.p (.r 100000000004000 t31) (.d .unit)))]
noncomputable def A3 (n : Nat) : AC R := (oc R (fsub Tryd.f8 [1, 1, 0, 1, 1]))
noncomputable def B3 (n : Nat) : AC R := .cut (fsub Tryd.f8 [1, 1, 0, 1, 1]) g3 (fun v k => hideF (runR (X n) (A3 n) g3 v k))
noncomputable def A1 (n : Nat) : AC R := (oc R (fsub Tryd.f8 [1, 0, 1]))
noncomputable def B1 (n : Nat) : AC R := .cut (fsub Tryd.f8 [1, 0, 1]) g1 (fun v k => hideF (runR (X n) (A1 n) g1 v k))
noncomputable def A4 (n : Nat) : AC R := (oc R (fsub Tryd.f8 [1, 1, 1]))
noncomputable def B4 (n : Nat) : AC R := .cut (fsub Tryd.f8 [1, 1, 1]) g4 (fun v k => hideF (runR (X n) (A4 n) g4 v k))
noncomputable def A2 (n : Nat) : AC R := (.seq (.seq (oc R (fsub Tryd.f8 [1, 1, 0, 0])) (.seq (oc R (fsub Tryd.f8 [1, 1, 0, 1, 0])) (B3 n))) (B4 n))
noncomputable def B2 (n : Nat) : AC R := .cut (fsub Tryd.f8 [1, 1]) g2 (fun v k => hideF (runR (X n) (A2 n) g2 v k))
noncomputable def A0 (n : Nat) : AC R := (.seq (oc R (fsub Tryd.f8 [0])) (.seq (.seq (oc R (fsub Tryd.f8 [1, 0, 0])) (B1 n)) (B2 n)))
noncomputable def k1 (n : Nat) : KK R := (seqK (fun s => acRun (X n) (B2 n) s (endK ia io)) (endK ia io))
noncomputable def k2 (n : Nat) : KK R := (endK ia io)
noncomputable def k3 (n : Nat) : KK R := (seqK (fun s => acRun (X n) (B4 n) s (k2 n)) (k2 n))
noncomputable def k4 (n : Nat) : KK R := (k2 n)
noncomputable def S0 (n : Nat) (j1 : Dens g1 → Option R) (o : Den t23) (v_ : Den t31) : Option R :=
  bnd (f24.f n o.1) fun u1 =>
  bIf ((!u1.1)) (
    j1 (true, o, v_, ((⟨#[]⟩ : ByteArray), ([], ())), ())
    ) (
    bnd (f25.f n o.2.1) fun u2 =>
    bIf ((!u2.1)) (
      j1 (true, o, v_, ((⟨#[]⟩ : ByteArray), ([], ())), ())
      ) (
      bnd (f18.f n v_) fun u3 =>
      j1 ((!u3.1), o, v_, ((⟨#[]⟩ : ByteArray), ([], ())), ())
      )
    )
noncomputable def S1 (n : Nat) (j2 : Dens g2 → Option R) (t22 : Bool) (o : Den t23) (v_ : Den t31) (b4 : Den t23) : Option R :=
  bIf (t22) (
    some (((⟨#[]⟩ : ByteArray), ([], ())), 2, ())
    ) (
    j2 (o, v_, (b4.1, (b4.2.1, b4.2.2)), ())
    )
noncomputable def S2 (n : Nat) (j3 : Dens g3 → Option R) (o : Den t23) (v_ : Den t31) (b4 : Den t23) : Option R :=
  bIf ((hide (decide (((o.2.1.length : Nat) : Int) > (0 : Int))))) (
    gIf (0 ≤ (IntKind.i64.wrap (((o.2.1.length : Nat) : Int) - (1 : Int))) ∧ (IntKind.i64.wrap (((o.2.1.length : Nat) : Int) - (1 : Int))) < ((o.2.1.length : Nat) : Int)) (
      bnd (f26.f n v_ (List.getD o.2.1 ((IntKind.i64.wrap (((o.2.1.length : Nat) : Int) - (1 : Int))).toNat) (Va.dflt t31))) fun u1 =>
      j3 ((!u1.1), o, v_, (b4.1, (b4.2.1, b4.2.2)), ())
      )
    ) (
    j3 (false, o, v_, (b4.1, (b4.2.1, b4.2.2)), ())
    )
noncomputable def S3 (n : Nat) (j4 : Dens g4 → Option R) (t39 : Bool) (o : Den t23) (v_ : Den t31) (b4 : Den t23) : Option R :=
  bIf (t39) (
    some (((⟨#[]⟩ : ByteArray), ([], ())), 18, ())
    ) (
    j4 (o, v_, (b4.1, (b4.2.1, b4.2.2)), ())
    )
noncomputable def S4 (n : Nat) (o : Den t23) (v_ : Den t31) (b4 : Den t23) : Option R :=
  bnd (f27.f n o) fun u1 =>
  bnd (f29.f n v_) fun u2 =>
  gIf ((u1.1.2.1.length + 1) * 120 ≤ 70368744177664) (
    bnd (f28.f n (u1.1.2.1 ++ ([u2.1] : List (Den t31)))) fun u3 =>
    some ((u1.1.1, (u3.1, u1.1.2.2)), 0, ())
    )
theorem e0 (n : Nat) (v : DIn ia) : acRun (X n) (A0 n) (frameOf (X n).len (inSig 0 ia) v) (endK ia io) = S0 n (fun v => hideF (runR (X n) (A1 n) g1 v (k1 n))) v.1 v.2.1 := by kernel_rfl
theorem e1 (n : Nat) (v : Dens g1) : runR (X n) (A1 n) g1 v (k1 n) = S1 n (fun v => hideF (runR (X n) (A2 n) g2 v (k2 n))) v.1 v.2.1 v.2.2.1 v.2.2.2.1 := by kernel_rfl
theorem e2 (n : Nat) (v : Dens g2) : runR (X n) (A2 n) g2 v (k2 n) = S2 n (fun v => hideF (runR (X n) (A3 n) g3 v (k3 n))) v.1 v.2.1 v.2.2.1 := by kernel_rfl
theorem e3 (n : Nat) (v : Dens g3) : runR (X n) (A3 n) g3 v (k3 n) = S3 n (fun v => hideF (runR (X n) (A4 n) g4 v (k4 n))) v.1 v.2.1 v.2.2.1 v.2.2.2.1 := by kernel_rfl
theorem e4 (n : Nat) (v : Dens g4) : runR (X n) (A4 n) g4 v (k4 n) = S4 n v.1 v.2.1 v.2.2.1 := by kernel_rfl
noncomputable def J4 (n : Nat) : Dens g4 → Option R := fun v => S4 n v.1 v.2.1 v.2.2.1
theorem h4 (n : Nat) : (fun v => runR (X n) (A4 n) g4 v (k4 n)) = J4 n :=
  funext fun v => (e4 n v).trans (by (try simp only [hideF_eq]); rfl)
noncomputable def J3 (n : Nat) : Dens g3 → Option R := fun v => S3 n (J4 n) v.1 v.2.1 v.2.2.1 v.2.2.2.1
theorem h3 (n : Nat) : (fun v => runR (X n) (A3 n) g3 v (k3 n)) = J3 n :=
  funext fun v => (e3 n v).trans (by (try simp only [hideF_eq]); rw [h4 n]; rfl)
noncomputable def J2 (n : Nat) : Dens g2 → Option R := fun v => S2 n (J3 n) v.1 v.2.1 v.2.2.1
theorem h2 (n : Nat) : (fun v => runR (X n) (A2 n) g2 v (k2 n)) = J2 n :=
  funext fun v => (e2 n v).trans (by (try simp only [hideF_eq]); rw [h3 n]; rfl)
noncomputable def J1 (n : Nat) : Dens g1 → Option R := fun v => S1 n (J2 n) v.1 v.2.1 v.2.2.1 v.2.2.2.1
theorem h1 (n : Nat) : (fun v => runR (X n) (A1 n) g1 v (k1 n)) = J1 n :=
  funext fun v => (e1 n v).trans (by (try simp only [hideF_eq]); rw [h2 n]; rfl)
noncomputable def f (n : Nat) (o : Den t23) (v_ : Den t31) : Option R := S0 n (J1 n) o v_
theorem link (n : Nat) (v : DIn ia) : acRun (X n) (A0 n) (frameOf (X n).len (inSig 0 ia) v) (endK ia io) = f n v.1 v.2.1 :=
  (e0 n v).trans (by (try simp only [hideF_eq]); rw [h1 n]; rfl)
theorem phi (n : Nat) : ∀ e ∈ (X n).c.Φ, EntryOk Tryd.prog e := allE_cons (mkEntry_ok (f18.ok n)) (allE_cons (mkEntry_ok (f24.ok n)) (allE_cons (mkEntry_ok (f25.ok n)) (allE_cons (mkEntry_ok (f26.ok n)) (allE_cons (mkEntry_ok (f27.ok n)) (allE_cons (mkEntry_ok (f28.ok n)) (allE_cons (mkEntry_ok (f29.ok n)) (allE_nil)))))))
theorem o3 (n : Nat) : (A3 n).Ok Tryd.prog (X n) := (oc_ok _)
theorem b3 (n : Nat) : (B3 n).Ok Tryd.prog (X n) := runR_ok mixed tabIs (phi n) (o3 n) (by kernel_rfl)
theorem o1 (n : Nat) : (A1 n).Ok Tryd.prog (X n) := (oc_ok _)
theorem b1 (n : Nat) : (B1 n).Ok Tryd.prog (X n) := runR_ok mixed tabIs (phi n) (o1 n) (by kernel_rfl)
theorem o4 (n : Nat) : (A4 n).Ok Tryd.prog (X n) := (oc_ok _)
theorem b4 (n : Nat) : (B4 n).Ok Tryd.prog (X n) := runR_ok mixed tabIs (phi n) (o4 n) (by kernel_rfl)
theorem o2 (n : Nat) : (A2 n).Ok Tryd.prog (X n) := ⟨⟨(oc_ok _), ⟨(oc_ok _), (b3 n)⟩⟩, (b4 n)⟩
theorem b2 (n : Nat) : (B2 n).Ok Tryd.prog (X n) := runR_ok mixed tabIs (phi n) (o2 n) (by kernel_rfl)
theorem o0 (n : Nat) : (A0 n).Ok Tryd.prog (X n) := ⟨(oc_ok _), ⟨⟨(oc_ok _), (b1 n)⟩, (b2 n)⟩⟩
theorem ok (n : Nat) : FnOk Tryd.prog 8 ia io (fun v => f n v.1 v.2.1) :=
  fn_ok (x := X n) (A := A0 n) mixed tabIs (phi n) Tryd.func8 (by kernel_rfl) (by kernel_rfl) rfl (o0 n) (fun v u h => (link n v).trans h)
noncomputable def en (n : Nat) : Entry := mkEntry 8 ia io (fun v => f n v.1 v.2.1)
end f8
end Go.Proofs.YtnlckhekcklcpaaDoor


namespace Go.Proofs.YtnlckhekcklcpaaDoor
open Go Go.Va Go.Proofs
/- chartulary/object.Erase -/
namespace f22
abbrev ia : List Ai := [.val (.d t23), .val (.d (.int .u64))]
abbrev io : List (Nat × Oi) := [(4, .cel (.p (.d .str) (.p (.r 0 t31) (.d .unit)))), (5, .val (.d (.int .i64)))]
abbrev R : Type := DOut ia io
noncomputable def X (n : Nat) : Ctx := ⟨⟨tab, [f20.en n, f27.en n, f28.en n, f31.en n, f41.en n], 0⟩, 29, bnOf 0 ia⟩
noncomputable def A0 (n : Nat) : AC R := (oc R (fsub Tryd.f22 []))
noncomputable def S0 (n : Nat) (o : Den t23) (id : Int) : Option R :=
  bnd (f20.f n o) fun u1 =>
  bIf ((!u1.1)) (
    some (((⟨#[]⟩ : ByteArray), ([], ())), 2, ())
    ) (
    bnd (f31.f n o id) fun u2 =>
    bIf ((hide (decide (u2.1 < (0 : Int))))) (
      some (((⟨#[]⟩ : ByteArray), ([], ())), 7, ())
      ) (
      bnd (f27.f n o) fun u3 =>
      bnd (f41.f n u3.1.2.1 u2.1 (IntKind.i64.wrap (u2.1 + (1 : Int)))) fun u4 =>
      bnd (f28.f n u4.1) fun u5 =>
      some ((u3.1.1, (u5.1, u3.1.2.2)), 0, ())
      )
    )
theorem e0 (n : Nat) (v : DIn ia) : acRun (X n) (A0 n) (frameOf (X n).len (inSig 0 ia) v) (endK ia io) = S0 n v.1 v.2.1 := by kernel_rfl
noncomputable def f (n : Nat) (o : Den t23) (id : Int) : Option R := S0 n o id
theorem link (n : Nat) (v : DIn ia) : acRun (X n) (A0 n) (frameOf (X n).len (inSig 0 ia) v) (endK ia io) = f n v.1 v.2.1 :=
  (e0 n v).trans (by (try simp only [hideF_eq]); rfl)
theorem phi (n : Nat) : ∀ e ∈ (X n).c.Φ, EntryOk Tryd.prog e := allE_cons (mkEntry_ok (f20.ok n)) (allE_cons (mkEntry_ok (f27.ok n)) (allE_cons (mkEntry_ok (f28.ok n)) (allE_cons (mkEntry_ok (f31.ok n)) (allE_cons (mkEntry_ok (f41.ok n)) (allE_nil)))))
theorem o0 (n : Nat) : (A0 n).Ok Tryd.prog (X n) := (oc_ok _)
theorem ok (n : Nat) : FnOk Tryd.prog 22 ia io (fun v => f n v.1 v.2.1) :=
  fn_ok (x := X n) (A := A0 n) mixed tabIs (phi n) Tryd.func22 (by kernel_rfl) (by kernel_rfl) rfl (o0 n) (fun v u h => (link n v).trans h)
noncomputable def en (n : Nat) : Entry := mkEntry 22 ia io (fun v => f n v.1 v.2.1)
end f22
end Go.Proofs.YtnlckhekcklcpaaDoor


namespace Go.Proofs.YtnlckhekcklcpaaDoor
open Go Go.Va Go.Proofs
/- chartulary/object.Change -/
namespace f23
abbrev ia : List Ai := [.val (.d t23), .val (.d t31)]
abbrev io : List (Nat × Oi) := [(4, .cel (.p (.d .str) (.p (.r 0 t31) (.d .unit)))), (5, .val (.d (.int .i64)))]
abbrev R : Type := DOut ia io
noncomputable def X (n : Nat) : Ctx := ⟨⟨tab, [f18.en n, f20.en n, f27.en n, f29.en n, f31.en n], 0⟩, 43, bnOf 0 ia⟩
abbrev g1 : List Si := [.ref 2 2 t23, .ref 3 3 t31, .ref 4 4 t23, .val 15 (.d .bool), .box 2 (.d t23), .box 3 (.d t31), .box 4 (.p (.d .str) (.p (.r 100000000004000 t31) (.d .unit)))]
abbrev g2 : List Si := [.ref 2 2 t23, .ref 3 3 t31, .ref 4 4 t23, .box 2 (.d t23), .box 3 (.d t31), .box 4 (.p (.d .str) (.p (.r 100000000004000 t31) (.d .unit)))]
noncomputable def A1 (n : Nat) : AC R := (oc R (fsub Tryd.f23 [1, 0, 1]))
noncomputable def B1 (n : Nat) : AC R := .cut (fsub Tryd.f23 [1, 0, 1]) g1 (fun v k => hideF (runR (X n) (A1 n) g1 v k))
noncomputable def A2 (n : Nat) : AC R := (oc R (fsub Tryd.f23 [1, 1]))
noncomputable def B2 (n : Nat) : AC R := .cut (fsub Tryd.f23 [1, 1]) g2 (fun v k => hideF (runR (X n) (A2 n) g2 v k))
noncomputable def A0 (n : Nat) : AC R := (.seq (oc R (fsub Tryd.f23 [0])) (.seq (.seq (oc R (fsub Tryd.f23 [1, 0, 0])) (B1 n)) (B2 n)))
noncomputable def k1 (n : Nat) : KK R := (seqK (fun s => acRun (X n) (B2 n) s (endK ia io)) (endK ia io))
noncomputable def k2 (n : Nat) : KK R := (endK ia io)
noncomputable def S0 (n : Nat) (j1 : Dens g1 → Option R) (o : Den t23) (v_ : Den t31) : Option R :=
  bnd (f20.f n o) fun u1 =>
  bIf ((!u1.1)) (
    j1 (true, o, v_, ((⟨#[]⟩ : ByteArray), ([], ())), ())
    ) (
    bnd (f18.f n v_) fun u2 =>
    j1 ((!u2.1), o, v_, ((⟨#[]⟩ : ByteArray), ([], ())), ())
    )
noncomputable def S1 (n : Nat) (j2 : Dens g2 → Option R) (t15 : Bool) (o : Den t23) (v_ : Den t31) (b4 : Den t23) : Option R :=
  bIf (t15) (
    some (((⟨#[]⟩ : ByteArray), ([], ())), 2, ())
    ) (
    j2 (o, v_, (b4.1, (b4.2.1, b4.2.2)), ())
    )
noncomputable def S2 (n : Nat) (o : Den t23) (v_ : Den t31) (b4 : Den t23) : Option R :=
  bnd (f31.f n o v_.1) fun u1 =>
  bIf ((hide (decide (u1.1 < (0 : Int))))) (
    some (((⟨#[]⟩ : ByteArray), ([], ())), 7, ())
    ) (
    gIf (0 ≤ u1.1 ∧ u1.1 < ((o.2.1.length : Nat) : Int)) (
      bIf ((hide ((((((((List.getD o.2.1 u1.1.toNat (Va.dflt t31)).2).2).2).2).2).1) != v_.2.2.2.2.2.1))) (
        some (((⟨#[]⟩ : ByteArray), ([], ())), 18, ())
        ) (
        bnd (f27.f n o) fun u2 =>
        bnd (f29.f n v_) fun u3 =>
        gIf (0 ≤ u1.1 ∧ u1.1 < ((u2.1.2.1.length : Nat) : Int)) (
          some ((u2.1.1, ((List.set u2.1.2.1 (0 + u1.1.toNat) u3.1), u2.1.2.2)), 0, ())
          )
        )
      )
    )
theorem e0 (n : Nat) (v : DIn ia) : acRun (X n) (A0 n) (frameOf (X n).len (inSig 0 ia) v) (endK ia io) = S0 n (fun v => hideF (runR (X n) (A1 n) g1 v (k1 n))) v.1 v.2.1 := by kernel_rfl
theorem e1 (n : Nat) (v : Dens g1) : runR (X n) (A1 n) g1 v (k1 n) = S1 n (fun v => hideF (runR (X n) (A2 n) g2 v (k2 n))) v.1 v.2.1 v.2.2.1 v.2.2.2.1 := by kernel_rfl
theorem e2 (n : Nat) (v : Dens g2) : runR (X n) (A2 n) g2 v (k2 n) = S2 n v.1 v.2.1 v.2.2.1 := by kernel_rfl
noncomputable def J2 (n : Nat) : Dens g2 → Option R := fun v => S2 n v.1 v.2.1 v.2.2.1
theorem h2 (n : Nat) : (fun v => runR (X n) (A2 n) g2 v (k2 n)) = J2 n :=
  funext fun v => (e2 n v).trans (by (try simp only [hideF_eq]); rfl)
noncomputable def J1 (n : Nat) : Dens g1 → Option R := fun v => S1 n (J2 n) v.1 v.2.1 v.2.2.1 v.2.2.2.1
theorem h1 (n : Nat) : (fun v => runR (X n) (A1 n) g1 v (k1 n)) = J1 n :=
  funext fun v => (e1 n v).trans (by (try simp only [hideF_eq]); rw [h2 n]; rfl)
noncomputable def f (n : Nat) (o : Den t23) (v_ : Den t31) : Option R := S0 n (J1 n) o v_
theorem link (n : Nat) (v : DIn ia) : acRun (X n) (A0 n) (frameOf (X n).len (inSig 0 ia) v) (endK ia io) = f n v.1 v.2.1 :=
  (e0 n v).trans (by (try simp only [hideF_eq]); rw [h1 n]; rfl)
theorem phi (n : Nat) : ∀ e ∈ (X n).c.Φ, EntryOk Tryd.prog e := allE_cons (mkEntry_ok (f18.ok n)) (allE_cons (mkEntry_ok (f20.ok n)) (allE_cons (mkEntry_ok (f27.ok n)) (allE_cons (mkEntry_ok (f29.ok n)) (allE_cons (mkEntry_ok (f31.ok n)) (allE_nil)))))
theorem o1 (n : Nat) : (A1 n).Ok Tryd.prog (X n) := (oc_ok _)
theorem b1 (n : Nat) : (B1 n).Ok Tryd.prog (X n) := runR_ok mixed tabIs (phi n) (o1 n) (by kernel_rfl)
theorem o2 (n : Nat) : (A2 n).Ok Tryd.prog (X n) := (oc_ok _)
theorem b2 (n : Nat) : (B2 n).Ok Tryd.prog (X n) := runR_ok mixed tabIs (phi n) (o2 n) (by kernel_rfl)
theorem o0 (n : Nat) : (A0 n).Ok Tryd.prog (X n) := ⟨(oc_ok _), ⟨⟨(oc_ok _), (b1 n)⟩, (b2 n)⟩⟩
theorem ok (n : Nat) : FnOk Tryd.prog 23 ia io (fun v => f n v.1 v.2.1) :=
  fn_ok (x := X n) (A := A0 n) mixed tabIs (phi n) Tryd.func23 (by kernel_rfl) (by kernel_rfl) rfl (o0 n) (fun v u h => (link n v).trans h)
noncomputable def en (n : Nat) : Entry := mkEntry 23 ia io (fun v => f n v.1 v.2.1)
end f23
end Go.Proofs.YtnlckhekcklcpaaDoor


namespace Go.Proofs.YtnlckhekcklcpaaDoor
open Go Go.Va Go.Proofs
/- chartulary/chartularylaw13.awake -/
namespace f11
abbrev ia : List Ai := []
abbrev io : List (Nat × Oi) := [(0, .val (.d .bool))]
abbrev R : Type := DOut ia io
noncomputable def X (n : Nat) : Ctx := ⟨⟨tab, [f8.en n, f14.en n, f15.en n, f20.en n], 0⟩, 62, bnOf 0 ia⟩
noncomputable def A0 (n : Nat) : AC R := (oc R (fsub Tryd.f11 []))
noncomputable def S0 (n : Nat) : Option R :=
  bnd (f8.f n ((⟨#[107]⟩ : ByteArray), ([], ())) (2, (false, (3, (1, ((List.replicate 32 0), (0, ((0, (0, (false, ()))), ([], ()))))))))) fun u1 =>
  bnd (f8.f n (u1.1.1, (u1.1.2.1, u1.1.2.2)) (5, (true, (0, (0, ((List.replicate 32 0), (9, ((0, (0, (false, ()))), ([], ()))))))))) fun u2 =>
  bnd (f14.f n (u2.1.1, (u2.1.2.1, u2.1.2.2))) fun u3 =>
  bnd (f15.f n (u2.1.1, (u2.1.2.1, u2.1.2.2)) 2) fun u4 =>
  bIf ((hide (u1.2.1 == (0 : Int)))) (
    bIf ((hide (u2.2.1 == (0 : Int)))) (
      bIf ((hide (u3.2.1 == (0 : Int)))) (
        bIf (u4.2.1) (
          bIf ((hide (u4.1 == (9 : Int)))) (
            bIf (u3.1.2.1) (
              bIf ((hide (((u2.1.2.1.length : Nat) : Int) == (2 : Int)))) (
                bnd (f20.f n (u2.1.1, (u2.1.2.1, u2.1.2.2))) fun u5 =>
                some (u5.1, ())
                ) (
                some (false, ())
                )
              ) (
              some (false, ())
              )
            ) (
            some (false, ())
            )
          ) (
          some (false, ())
          )
        ) (
        some (false, ())
        )
      ) (
      some (false, ())
      )
    ) (
    some (false, ())
    )
theorem e0 (n : Nat) (v : DIn ia) : acRun (X n) (A0 n) (frameOf (X n).len (inSig 0 ia) v) (endK ia io) = S0 n := by kernel_rfl
noncomputable def f (n : Nat) : Option R := S0 n
theorem link (n : Nat) (v : DIn ia) : acRun (X n) (A0 n) (frameOf (X n).len (inSig 0 ia) v) (endK ia io) = f n :=
  (e0 n v).trans (by (try simp only [hideF_eq]); rfl)
theorem phi (n : Nat) : ∀ e ∈ (X n).c.Φ, EntryOk Tryd.prog e := allE_cons (mkEntry_ok (f8.ok n)) (allE_cons (mkEntry_ok (f14.ok n)) (allE_cons (mkEntry_ok (f15.ok n)) (allE_cons (mkEntry_ok (f20.ok n)) (allE_nil))))
theorem o0 (n : Nat) : (A0 n).Ok Tryd.prog (X n) := (oc_ok _)
theorem ok (n : Nat) : FnOk Tryd.prog 11 ia io (fun v => f n) :=
  fn_ok (x := X n) (A := A0 n) mixed tabIs (phi n) Tryd.func11 (by kernel_rfl) (by kernel_rfl) rfl (o0 n) (fun v u h => (link n v).trans h)
noncomputable def en (n : Nat) : Entry := mkEntry 11 ia io (fun v => f n)
end f11
end Go.Proofs.YtnlckhekcklcpaaDoor


namespace Go.Proofs.YtnlckhekcklcpaaDoor
open Go Go.Va Go.Proofs
/- chartulary/chartularylaw13.ObjectAdds -/
namespace f3
abbrev ia : List Ai := [.val (.d t23), .val (.d t31)]
abbrev io : List (Nat × Oi) := [(4, .val (.d .bool))]
abbrev R : Type := DOut ia io
noncomputable def X (n : Nat) : Ctx := ⟨⟨tab, [f8.en n, f9.en n, f10.en n, f11.en n, f12.en n], 0⟩, 76, bnOf 0 ia⟩
abbrev g1 : List Si := [.ref 5 5 t23, .val 6 (.d (.int .i64)), .ref 7 7 t23, .val 30 (.d .bool), .box 5 (.p (.d .str) (.p (.r 100000000005000 t31) (.d .unit))), .box 7 (.p (.d .str) (.p (.r 100000000007000 t31) (.d .unit)))]
abbrev g2 : List Si := [.ref 5 5 t23, .val 6 (.d (.int .i64)), .ref 7 7 t23, .box 5 (.p (.d .str) (.p (.r 100000000005000 t31) (.d .unit))), .box 7 (.p (.d .str) (.p (.r 100000000007000 t31) (.d .unit)))]
noncomputable def A1 (n : Nat) : AC R := (oc R (fsub Tryd.f3 [1, 1, 1, 1, 0, 0, 1]))
noncomputable def B1 (n : Nat) : AC R := .cut (fsub Tryd.f3 [1, 1, 1, 1, 0, 0, 1]) g1 (fun v k => hideF (runR (X n) (A1 n) g1 v k))
noncomputable def A2 (n : Nat) : AC R := (oc R (fsub Tryd.f3 [1, 1, 1, 1, 1]))
noncomputable def B2 (n : Nat) : AC R := .cut (fsub Tryd.f3 [1, 1, 1, 1, 1]) g2 (fun v k => hideF (runR (X n) (A2 n) g2 v k))
noncomputable def A0 (n : Nat) : AC R := (.seq (oc R (fsub Tryd.f3 [0])) (.seq (oc R (fsub Tryd.f3 [1, 0])) (.seq (oc R (fsub Tryd.f3 [1, 1, 0])) (.seq (oc R (fsub Tryd.f3 [1, 1, 1, 0])) (.seq (.block 0 (.seq (oc R (fsub Tryd.f3 [1, 1, 1, 1, 0, 0, 0])) (B1 n))) (B2 n))))))
noncomputable def k1 (n : Nat) : KK R := (blockK 0 (seqK (fun s => acRun (X n) (B2 n) s (endK ia io)) (endK ia io)))
noncomputable def k2 (n : Nat) : KK R := (endK ia io)
noncomputable def S0 (n : Nat) (j1 : Dens g1 → Option R) (o : Den t23) (v_ : Den t31) : Option R :=
  bnd (f8.f n o v_) fun u1 =>
  gIf ((([] : List (Den t31)).length + o.2.1.length) * 120 ≤ 70368744177664) (
    gIf (((([] : List (Den t31)) ++ o.2.1).length + 1) * 120 ≤ 70368744177664) (
      bnd (f9.f n (o.1, (([v_] : List (Den t31)), ()))) fun u2 =>
      bIf ((!u2.1)) (
        j1 (u1.2.1, true, (u1.1.1, (u1.1.2.1, u1.1.2.2)), (o.1, (((([] : List (Den t31)) ++ o.2.1) ++ ([v_] : List (Den t31))), ())), ())
        ) (
        bnd (f10.f n o.2.1) fun u3 =>
        j1 (u1.2.1, (!u3.1), (u1.1.1, (u1.1.2.1, u1.1.2.2)), (o.1, (((([] : List (Den t31)) ++ o.2.1) ++ ([v_] : List (Den t31))), ())), ())
        )
      )
    )
noncomputable def S1 (n : Nat) (j2 : Dens g2 → Option R) (e_ : Int) (t30 : Bool) (x_ : Den t23) (bare : Den t23) : Option R :=
  bIf (t30) (
    bnd (f11.f n) fun u1 =>
    bIf (u1.1) (
      bIf ((hide (e_ == (2 : Int)))) (
        some ((hide (((x_.2.1.length : Nat) : Int) == (0 : Int))), ())
        ) (
        some (false, ())
        )
      ) (
      some (false, ())
      )
    ) (
    bnd (f9.f n (bare.1, (bare.2.1, bare.2.2))) fun u2 =>
    bIf ((!u2.1)) (
      bnd (f11.f n) fun u3 =>
      bIf (u3.1) (
        bIf ((hide (e_ == (18 : Int)))) (
          some ((hide (((x_.2.1.length : Nat) : Int) == (0 : Int))), ())
          ) (
          some (false, ())
          )
        ) (
        some (false, ())
        )
      ) (
      j2 (e_, (x_.1, (x_.2.1, x_.2.2)), (bare.1, (bare.2.1, bare.2.2)), ())
      )
    )
noncomputable def S2 (n : Nat) (e_ : Int) (x_ : Den t23) (bare : Den t23) : Option R :=
  bnd (f11.f n) fun u1 =>
  bIf (u1.1) (
    bIf ((hide (e_ == (0 : Int)))) (
      bnd (f12.f n (x_.1, (x_.2.1, x_.2.2)) (bare.1, (bare.2.1, bare.2.2))) fun u2 =>
      some (u2.1, ())
      ) (
      some (false, ())
      )
    ) (
    some (false, ())
    )
theorem e0 (n : Nat) (v : DIn ia) : acRun (X n) (A0 n) (frameOf (X n).len (inSig 0 ia) v) (endK ia io) = S0 n (fun v => hideF (runR (X n) (A1 n) g1 v (k1 n))) v.1 v.2.1 := by kernel_rfl
theorem e1 (n : Nat) (v : Dens g1) : runR (X n) (A1 n) g1 v (k1 n) = S1 n (fun v => hideF (runR (X n) (A2 n) g2 v (k2 n))) v.1 v.2.1 v.2.2.1 v.2.2.2.1 := by kernel_rfl
theorem e2 (n : Nat) (v : Dens g2) : runR (X n) (A2 n) g2 v (k2 n) = S2 n v.1 v.2.1 v.2.2.1 := by kernel_rfl
noncomputable def J2 (n : Nat) : Dens g2 → Option R := fun v => S2 n v.1 v.2.1 v.2.2.1
theorem h2 (n : Nat) : (fun v => runR (X n) (A2 n) g2 v (k2 n)) = J2 n :=
  funext fun v => (e2 n v).trans (by (try simp only [hideF_eq]); rfl)
noncomputable def J1 (n : Nat) : Dens g1 → Option R := fun v => S1 n (J2 n) v.1 v.2.1 v.2.2.1 v.2.2.2.1
theorem h1 (n : Nat) : (fun v => runR (X n) (A1 n) g1 v (k1 n)) = J1 n :=
  funext fun v => (e1 n v).trans (by (try simp only [hideF_eq]); rw [h2 n]; rfl)
noncomputable def f (n : Nat) (o : Den t23) (v_ : Den t31) : Option R := S0 n (J1 n) o v_
theorem link (n : Nat) (v : DIn ia) : acRun (X n) (A0 n) (frameOf (X n).len (inSig 0 ia) v) (endK ia io) = f n v.1 v.2.1 :=
  (e0 n v).trans (by (try simp only [hideF_eq]); rw [h1 n]; rfl)
theorem phi (n : Nat) : ∀ e ∈ (X n).c.Φ, EntryOk Tryd.prog e := allE_cons (mkEntry_ok (f8.ok n)) (allE_cons (mkEntry_ok (f9.ok n)) (allE_cons (mkEntry_ok (f10.ok n)) (allE_cons (mkEntry_ok (f11.ok n)) (allE_cons (mkEntry_ok (f12.ok n)) (allE_nil)))))
theorem o1 (n : Nat) : (A1 n).Ok Tryd.prog (X n) := (oc_ok _)
theorem b1 (n : Nat) : (B1 n).Ok Tryd.prog (X n) := runR_ok mixed tabIs (phi n) (o1 n) (by kernel_rfl)
theorem o2 (n : Nat) : (A2 n).Ok Tryd.prog (X n) := (oc_ok _)
theorem b2 (n : Nat) : (B2 n).Ok Tryd.prog (X n) := runR_ok mixed tabIs (phi n) (o2 n) (by kernel_rfl)
theorem o0 (n : Nat) : (A0 n).Ok Tryd.prog (X n) := ⟨(oc_ok _), ⟨(oc_ok _), ⟨(oc_ok _), ⟨(oc_ok _), ⟨⟨(oc_ok _), (b1 n)⟩, (b2 n)⟩⟩⟩⟩⟩
theorem ok (n : Nat) : FnOk Tryd.prog 3 ia io (fun v => f n v.1 v.2.1) :=
  fn_ok (x := X n) (A := A0 n) mixed tabIs (phi n) Tryd.func3 (by kernel_rfl) (by kernel_rfl) rfl (o0 n) (fun v u h => (link n v).trans h)
noncomputable def en (n : Nat) : Entry := mkEntry 3 ia io (fun v => f n v.1 v.2.1)
end f3
end Go.Proofs.YtnlckhekcklcpaaDoor


namespace Go.Proofs.YtnlckhekcklcpaaDoor
open Go Go.Va Go.Proofs
/- chartulary/chartularylaw13.ObjectFinds -/
namespace f4
abbrev ia : List Ai := [.val (.d t23), .val (.d (.int .u64))]
abbrev io : List (Nat × Oi) := [(4, .val (.d .bool))]
abbrev R : Type := DOut ia io
noncomputable def X (n : Nat) : Ctx := ⟨⟨tab, [f9.en n, f11.en n, f13.en n, f14.en n, f15.en n, f16.en n, f17.en n], 0⟩, 137, bnOf 0 ia⟩
abbrev g1 : List Si := [.ref 2 2 t23, .ref 5 5 t31, .val 6 (.d (.int .i64)), .val 9 (.d (.int .i64)), .val 10 (.d .bool), .val 11 (.d (.int .i64)), .val 12 (.d (.int .i64)), .box 2 (.d t23), .box 5 (.d t31)]
noncomputable def A1 (n : Nat) : AC R := (oc R (fsub Tryd.f4 [1, 1, 1, 1, 1, 1, 1, 1]))
noncomputable def B1 (n : Nat) : AC R := .cut (fsub Tryd.f4 [1, 1, 1, 1, 1, 1, 1, 1]) g1 (fun v k => hideF (runR (X n) (A1 n) g1 v k))
noncomputable def A0 (n : Nat) : AC R := (.seq (oc R (fsub Tryd.f4 [0])) (.seq (oc R (fsub Tryd.f4 [1, 0])) (.seq (oc R (fsub Tryd.f4 [1, 1, 0])) (.seq (oc R (fsub Tryd.f4 [1, 1, 1, 0])) (.seq (oc R (fsub Tryd.f4 [1, 1, 1, 1, 0])) (.seq (oc R (fsub Tryd.f4 [1, 1, 1, 1, 1, 0])) (.seq (oc R (fsub Tryd.f4 [1, 1, 1, 1, 1, 1, 0])) (.seq (oc R (fsub Tryd.f4 [1, 1, 1, 1, 1, 1, 1, 0])) (B1 n)))))))))
noncomputable def k1 (n : Nat) : KK R := (endK ia io)
noncomputable def S0 (n : Nat) (j1 : Dens g1 → Option R) (t : Den t23) (o : Int) : Option R :=
  bnd (f13.f n t o) fun u1 =>
  bnd (f14.f n t) fun u2 =>
  bnd (f15.f n t o) fun u3 =>
  bnd (f9.f n t) fun u4 =>
  bIf ((!u4.1)) (
    bnd (f11.f n) fun u5 =>
    bIf (u5.1) (
      bIf ((hide (u1.2.1 == (2 : Int)))) (
        bIf ((hide (u2.2.1 == u1.2.1))) (
          bIf ((!u3.2.1)) (
            bIf ((hide (u3.1 == (0 : Int)))) (
              bIf ((hide (u1.1.1 == (0 : Int)))) (
                some ((hide (u2.1.1 == (0 : Int))), ())
                ) (
                some (false, ())
                )
              ) (
              some (false, ())
              )
            ) (
            some (false, ())
            )
          ) (
          some (false, ())
          )
        ) (
        some (false, ())
        )
      ) (
      some (false, ())
      )
    ) (
    bnd (f16.f n t o) fun u6 =>
    bnd (f11.f n) fun u7 =>
    bIf ((!u7.1)) (
      some (false, ())
      ) (
      bIf ((hide (u2.2.1 != (0 : Int)))) (
        some (false, ())
        ) (
        gIf (0 ≤ (IntKind.i64.wrap (((t.2.1.length : Nat) : Int) - (1 : Int))) ∧ (IntKind.i64.wrap (((t.2.1.length : Nat) : Int) - (1 : Int))) < ((t.2.1.length : Nat) : Int)) (
          bnd (f17.f n u2.1 (List.getD t.2.1 ((IntKind.i64.wrap (((t.2.1.length : Nat) : Int) - (1 : Int))).toNat) (Va.dflt t31))) fun u8 =>
          bIf ((!u8.1)) (
            some (false, ())
            ) (
            j1 (u1.2.1, u3.1, u3.2.1, u6.1, (IntKind.i64.wrap (((t.2.1.length : Nat) : Int) - (1 : Int))), t, u1.1, ())
            )
          )
        )
      )
    )
noncomputable def S1 (n : Nat) (y_ : Int) (t9 : Int) (t10 : Bool) (t11 : Int) (t12 : Int) (A : Den t23) (a : Den t31) : Option R :=
  bIf ((hide (decide (t11 < (0 : Int))))) (
    bIf ((hide (y_ == (7 : Int)))) (
      bIf ((!t10)) (
        some ((hide (a.1 == (0 : Int))), ())
        ) (
        some (false, ())
        )
      ) (
      some (false, ())
      )
    ) (
    bIf ((hide (y_ == (0 : Int)))) (
      gIf (0 ≤ t11 ∧ t11 < ((A.2.1.length : Nat) : Int)) (
        bnd (f17.f n a (List.getD A.2.1 t11.toNat (Va.dflt t31))) fun u1 =>
        bIf (u1.1) (
          bIf ((hide (t10 == (hide (decide (t11 < t12)))))) (
            bIf ((!t10)) (
              bIf ((hide (t9 == (0 : Int)))) (
                some (true, ())
                ) (
                bIf (t10) (
                  gIf (0 ≤ (IntKind.i64.wrap (t11 + (1 : Int))) ∧ (IntKind.i64.wrap (t11 + (1 : Int))) < ((A.2.1.length : Nat) : Int)) (
                    some ((hide (t9 == (((((((List.getD A.2.1 ((IntKind.i64.wrap (t11 + (1 : Int))).toNat) (Va.dflt t31)).2).2).2).2).2).1))), ())
                    )
                  ) (
                  some (false, ())
                  )
                )
              ) (
              bIf (t10) (
                gIf (0 ≤ (IntKind.i64.wrap (t11 + (1 : Int))) ∧ (IntKind.i64.wrap (t11 + (1 : Int))) < ((A.2.1.length : Nat) : Int)) (
                  some ((hide (t9 == (((((((List.getD A.2.1 ((IntKind.i64.wrap (t11 + (1 : Int))).toNat) (Va.dflt t31)).2).2).2).2).2).1))), ())
                  )
                ) (
                some (false, ())
                )
              )
            ) (
            some (false, ())
            )
          ) (
          some (false, ())
          )
        )
      ) (
      some (false, ())
      )
    )
theorem e0 (n : Nat) (v : DIn ia) : acRun (X n) (A0 n) (frameOf (X n).len (inSig 0 ia) v) (endK ia io) = S0 n (fun v => hideF (runR (X n) (A1 n) g1 v (k1 n))) v.1 v.2.1 := by kernel_rfl
theorem e1 (n : Nat) (v : Dens g1) : runR (X n) (A1 n) g1 v (k1 n) = S1 n v.1 v.2.1 v.2.2.1 v.2.2.2.1 v.2.2.2.2.1 v.2.2.2.2.2.1 v.2.2.2.2.2.2.1 := by kernel_rfl
noncomputable def J1 (n : Nat) : Dens g1 → Option R := fun v => S1 n v.1 v.2.1 v.2.2.1 v.2.2.2.1 v.2.2.2.2.1 v.2.2.2.2.2.1 v.2.2.2.2.2.2.1
theorem h1 (n : Nat) : (fun v => runR (X n) (A1 n) g1 v (k1 n)) = J1 n :=
  funext fun v => (e1 n v).trans (by (try simp only [hideF_eq]); rfl)
noncomputable def f (n : Nat) (t : Den t23) (o : Int) : Option R := S0 n (J1 n) t o
theorem link (n : Nat) (v : DIn ia) : acRun (X n) (A0 n) (frameOf (X n).len (inSig 0 ia) v) (endK ia io) = f n v.1 v.2.1 :=
  (e0 n v).trans (by (try simp only [hideF_eq]); rw [h1 n]; rfl)
theorem phi (n : Nat) : ∀ e ∈ (X n).c.Φ, EntryOk Tryd.prog e := allE_cons (mkEntry_ok (f9.ok n)) (allE_cons (mkEntry_ok (f11.ok n)) (allE_cons (mkEntry_ok (f13.ok n)) (allE_cons (mkEntry_ok (f14.ok n)) (allE_cons (mkEntry_ok (f15.ok n)) (allE_cons (mkEntry_ok (f16.ok n)) (allE_cons (mkEntry_ok (f17.ok n)) (allE_nil)))))))
theorem o1 (n : Nat) : (A1 n).Ok Tryd.prog (X n) := (oc_ok _)
theorem b1 (n : Nat) : (B1 n).Ok Tryd.prog (X n) := runR_ok mixed tabIs (phi n) (o1 n) (by kernel_rfl)
theorem o0 (n : Nat) : (A0 n).Ok Tryd.prog (X n) := ⟨(oc_ok _), ⟨(oc_ok _), ⟨(oc_ok _), ⟨(oc_ok _), ⟨(oc_ok _), ⟨(oc_ok _), ⟨(oc_ok _), ⟨(oc_ok _), (b1 n)⟩⟩⟩⟩⟩⟩⟩⟩
theorem ok (n : Nat) : FnOk Tryd.prog 4 ia io (fun v => f n v.1 v.2.1) :=
  fn_ok (x := X n) (A := A0 n) mixed tabIs (phi n) Tryd.func4 (by kernel_rfl) (by kernel_rfl) rfl (o0 n) (fun v u h => (link n v).trans h)
noncomputable def en (n : Nat) : Entry := mkEntry 4 ia io (fun v => f n v.1 v.2.1)
end f4
end Go.Proofs.YtnlckhekcklcpaaDoor


namespace Go.Proofs.YtnlckhekcklcpaaDoor
open Go Go.Va Go.Proofs
/- chartulary/chartularylaw13.ObjectGood -/
namespace f5
abbrev ia : List Ai := [.val (.d t31), .val (.d t23), .val (.d t23)]
abbrev io : List (Nat × Oi) := [(6, .val (.d .bool))]
abbrev R : Type := DOut ia io
noncomputable def X (n : Nat) : Ctx := ⟨⟨tab, [f9.en n, f11.en n, f12.en n, f18.en n, f19.en n, f20.en n, f21.en n], 0⟩, 31, bnOf 0 ia⟩
noncomputable def A0 (n : Nat) : AC R := (oc R (fsub Tryd.f5 []))
noncomputable def S0 (n : Nat) (v_ : Den t31) (a : Den t23) (b : Den t23) : Option R :=
  bnd (f11.f n) fun u1 =>
  bIf (u1.1) (
    bnd (f18.f n v_) fun u2 =>
    bnd (f19.f n v_) fun u3 =>
    bIf ((hide (u2.1 == u3.1))) (
      bnd (f20.f n a) fun u4 =>
      bnd (f9.f n a) fun u5 =>
      bIf ((hide (u4.1 == u5.1))) (
        bnd (f21.f n a b) fun u6 =>
        bnd (f12.f n a b) fun u7 =>
        some ((hide (u6.1 == u7.1)), ())
        ) (
        some (false, ())
        )
      ) (
      some (false, ())
      )
    ) (
    some (false, ())
    )
theorem e0 (n : Nat) (v : DIn ia) : acRun (X n) (A0 n) (frameOf (X n).len (inSig 0 ia) v) (endK ia io) = S0 n v.1 v.2.1 v.2.2.1 := by kernel_rfl
noncomputable def f (n : Nat) (v_ : Den t31) (a : Den t23) (b : Den t23) : Option R := S0 n v_ a b
theorem link (n : Nat) (v : DIn ia) : acRun (X n) (A0 n) (frameOf (X n).len (inSig 0 ia) v) (endK ia io) = f n v.1 v.2.1 v.2.2.1 :=
  (e0 n v).trans (by (try simp only [hideF_eq]); rfl)
theorem phi (n : Nat) : ∀ e ∈ (X n).c.Φ, EntryOk Tryd.prog e := allE_cons (mkEntry_ok (f9.ok n)) (allE_cons (mkEntry_ok (f11.ok n)) (allE_cons (mkEntry_ok (f12.ok n)) (allE_cons (mkEntry_ok (f18.ok n)) (allE_cons (mkEntry_ok (f19.ok n)) (allE_cons (mkEntry_ok (f20.ok n)) (allE_cons (mkEntry_ok (f21.ok n)) (allE_nil)))))))
theorem o0 (n : Nat) : (A0 n).Ok Tryd.prog (X n) := (oc_ok _)
theorem ok (n : Nat) : FnOk Tryd.prog 5 ia io (fun v => f n v.1 v.2.1 v.2.2.1) :=
  fn_ok (x := X n) (A := A0 n) mixed tabIs (phi n) Tryd.func5 (by kernel_rfl) (by kernel_rfl) rfl (o0 n) (fun v u h => (link n v).trans h)
noncomputable def en (n : Nat) : Entry := mkEntry 5 ia io (fun v => f n v.1 v.2.1 v.2.2.1)
end f5
end Go.Proofs.YtnlckhekcklcpaaDoor


namespace Go.Proofs.YtnlckhekcklcpaaDoor
open Go Go.Va Go.Proofs
/- chartulary/chartularylaw13.ObjectChanges -/
namespace f6
abbrev ia : List Ai := [.val (.d t23), .val (.d (.int .u64)), .val (.d t31)]
abbrev io : List (Nat × Oi) := [(6, .val (.d .bool))]
abbrev R : Type := DOut ia io
noncomputable def X (n : Nat) : Ctx := ⟨⟨tab, [f9.en n, f11.en n, f12.en n, f16.en n, f19.en n, f22.en n, f23.en n], 0⟩, 162, bnOf 0 ia⟩
abbrev g1 : List Si := [.ref 3 3 t23, .ref 5 5 t31, .ref 9 9 t23, .val 10 (.d (.int .i64)), .val 12 (.d (.int .i64)), .ref 13 13 t23, .box 3 (.d t23), .box 5 (.d t31), .box 9 (.p (.d .str) (.p (.r 100000000009000 t31) (.d .unit))), .box 13 (.p (.d .str) (.p (.r 100000000013000 t31) (.d .unit)))]
noncomputable def A1 (n : Nat) : AC R := (oc R (fsub Tryd.f6 [1, 1, 1, 1, 1, 1, 1]))
noncomputable def B1 (n : Nat) : AC R := .cut (fsub Tryd.f6 [1, 1, 1, 1, 1, 1, 1]) g1 (fun v k => hideF (runR (X n) (A1 n) g1 v k))
noncomputable def A0 (n : Nat) : AC R := (.seq (oc R (fsub Tryd.f6 [0])) (.seq (oc R (fsub Tryd.f6 [1, 0])) (.seq (oc R (fsub Tryd.f6 [1, 1, 0])) (.seq (oc R (fsub Tryd.f6 [1, 1, 1, 0])) (.seq (oc R (fsub Tryd.f6 [1, 1, 1, 1, 0])) (.seq (oc R (fsub Tryd.f6 [1, 1, 1, 1, 1, 0])) (.seq (oc R (fsub Tryd.f6 [1, 1, 1, 1, 1, 1, 0])) (B1 n))))))))
noncomputable def k1 (n : Nat) : KK R := (endK ia io)
noncomputable def S0 (n : Nat) (j1 : Dens g1 → Option R) (t : Den t23) (o : Int) (A : Den t31) : Option R :=
  bnd (f22.f n t o) fun u1 =>
  bnd (f23.f n t A) fun u2 =>
  bnd (f9.f n t) fun u3 =>
  bIf ((!u3.1)) (
    bnd (f11.f n) fun u4 =>
    bIf (u4.1) (
      bIf ((hide (u1.2.1 == (2 : Int)))) (
        bIf ((hide (u2.2.1 == u1.2.1))) (
          some ((hide ((IntKind.i64.wrap (((u1.1.2.1.length : Nat) : Int) + ((u2.1.2.1.length : Nat) : Int))) == (0 : Int))), ())
          ) (
          some (false, ())
          )
        ) (
        some (false, ())
        )
      ) (
      some (false, ())
      )
    ) (
    bnd (f16.f n t o) fun u5 =>
    bnd (f16.f n t A.1) fun u6 =>
    gIf ((([] : List (Den t31)).length + t.2.1.length) * 120 ≤ 70368744177664) (
      bIf ((hide (decide (u5.1 < (0 : Int))))) (
        bIf ((hide (u1.2.1 != (7 : Int)))) (
          some (false, ())
          ) (
          bIf ((hide (((u1.1.2.1.length : Nat) : Int) != (0 : Int)))) (
            some (false, ())
            ) (
            j1 (u2.2.1, u6.1, t, A, (u2.1.1, (u2.1.2.1, u2.1.2.2)), (t.1, ((([] : List (Den t31)) ++ t.2.1), ())), ())
            )
          )
        ) (
        gIf (0 ≤ u5.1 ∧ u5.1 ≤ ((t.2.1.length : Nat) : Int)) (
          gIf (0 ≤ (0 : Int) ∧ (0 : Int) ≤ u5.1) (
            gIf ((([] : List (Den t31)).length + ((t.2.1.take u5.1.toNat).drop 0).length) * 120 ≤ 70368744177664) (
              gIf (0 ≤ ((t.2.1.length : Nat) : Int) ∧ ((t.2.1.length : Nat) : Int) ≤ ((t.2.1.length : Nat) : Int)) (
                gIf (0 ≤ (IntKind.i64.wrap (u5.1 + (1 : Int))) ∧ (IntKind.i64.wrap (u5.1 + (1 : Int))) ≤ ((t.2.1.length : Nat) : Int)) (
                  gIf (((([] : List (Den t31)) ++ ((t.2.1.take u5.1.toNat).drop 0)).length + ((t.2.1.take ((((t.2.1.length : Nat) : Int)).toNat)).drop ((IntKind.i64.wrap (u5.1 + (1 : Int))).toNat)).length) * 120 ≤ 70368744177664) (
                    bIf ((hide (u1.2.1 != (0 : Int)))) (
                      some (false, ())
                      ) (
                      bnd (f12.f n (u1.1.1, (u1.1.2.1, u1.1.2.2)) (t.1, (((([] : List (Den t31)) ++ ((t.2.1.take u5.1.toNat).drop 0)) ++ ((t.2.1.take ((((t.2.1.length : Nat) : Int)).toNat)).drop ((IntKind.i64.wrap (u5.1 + (1 : Int))).toNat))), ()))) fun u7 =>
                      bIf ((!u7.1)) (
                        some (false, ())
                        ) (
                        j1 (u2.2.1, u6.1, t, A, (u2.1.1, (u2.1.2.1, u2.1.2.2)), (t.1, ((([] : List (Den t31)) ++ t.2.1), ())), ())
                        )
                      )
                    )
                  )
                )
              )
            )
          )
        )
      )
    )
noncomputable def S1 (n : Nat) (t10 : Int) (t12 : Int) (r : Den t23) (a : Den t31) (b9 : Den t23) (b13 : Den t23) : Option R :=
  bnd (f19.f n a) fun u1 =>
  bIf ((!u1.1)) (
    bnd (f11.f n) fun u2 =>
    bIf (u2.1) (
      bIf ((hide (t10 == (2 : Int)))) (
        some ((hide (((b9.2.1.length : Nat) : Int) == (0 : Int))), ())
        ) (
        some (false, ())
        )
      ) (
      some (false, ())
      )
    ) (
    bIf ((hide (decide (t12 < (0 : Int))))) (
      bnd (f11.f n) fun u3 =>
      bIf (u3.1) (
        bIf ((hide (t10 == (7 : Int)))) (
          some ((hide (((b9.2.1.length : Nat) : Int) == (0 : Int))), ())
          ) (
          some (false, ())
          )
        ) (
        some (false, ())
        )
      ) (
      gIf (0 ≤ t12 ∧ t12 < ((r.2.1.length : Nat) : Int)) (
        bIf ((hide ((((((((List.getD r.2.1 t12.toNat (Va.dflt t31)).2).2).2).2).2).1) != a.2.2.2.2.2.1))) (
          bnd (f11.f n) fun u4 =>
          bIf (u4.1) (
            bIf ((hide (t10 == (18 : Int)))) (
              some ((hide (((b9.2.1.length : Nat) : Int) == (0 : Int))), ())
              ) (
              some (false, ())
              )
            ) (
            some (false, ())
            )
          ) (
          gIf (0 ≤ t12 ∧ t12 < ((b13.2.1.length : Nat) : Int)) (
            bnd (f11.f n) fun u5 =>
            bIf (u5.1) (
              bIf ((hide (t10 == (0 : Int)))) (
                bnd (f12.f n (b9.1, (b9.2.1, b9.2.2)) (b13.1, ((List.set b13.2.1 (0 + t12.toNat) a), b13.2.2))) fun u6 =>
                some (u6.1, ())
                ) (
                some (false, ())
                )
              ) (
              some (false, ())
              )
            )
          )
        )
      )
    )
theorem e0 (n : Nat) (v : DIn ia) : acRun (X n) (A0 n) (frameOf (X n).len (inSig 0 ia) v) (endK ia io) = S0 n (fun v => hideF (runR (X n) (A1 n) g1 v (k1 n))) v.1 v.2.1 v.2.2.1 := by kernel_rfl
theorem e1 (n : Nat) (v : Dens g1) : runR (X n) (A1 n) g1 v (k1 n) = S1 n v.1 v.2.1 v.2.2.1 v.2.2.2.1 v.2.2.2.2.1 v.2.2.2.2.2.1 := by kernel_rfl
noncomputable def J1 (n : Nat) : Dens g1 → Option R := fun v => S1 n v.1 v.2.1 v.2.2.1 v.2.2.2.1 v.2.2.2.2.1 v.2.2.2.2.2.1
theorem h1 (n : Nat) : (fun v => runR (X n) (A1 n) g1 v (k1 n)) = J1 n :=
  funext fun v => (e1 n v).trans (by (try simp only [hideF_eq]); rfl)
noncomputable def f (n : Nat) (t : Den t23) (o : Int) (A : Den t31) : Option R := S0 n (J1 n) t o A
theorem link (n : Nat) (v : DIn ia) : acRun (X n) (A0 n) (frameOf (X n).len (inSig 0 ia) v) (endK ia io) = f n v.1 v.2.1 v.2.2.1 :=
  (e0 n v).trans (by (try simp only [hideF_eq]); rw [h1 n]; rfl)
theorem phi (n : Nat) : ∀ e ∈ (X n).c.Φ, EntryOk Tryd.prog e := allE_cons (mkEntry_ok (f9.ok n)) (allE_cons (mkEntry_ok (f11.ok n)) (allE_cons (mkEntry_ok (f12.ok n)) (allE_cons (mkEntry_ok (f16.ok n)) (allE_cons (mkEntry_ok (f19.ok n)) (allE_cons (mkEntry_ok (f22.ok n)) (allE_cons (mkEntry_ok (f23.ok n)) (allE_nil)))))))
theorem o1 (n : Nat) : (A1 n).Ok Tryd.prog (X n) := (oc_ok _)
theorem b1 (n : Nat) : (B1 n).Ok Tryd.prog (X n) := runR_ok mixed tabIs (phi n) (o1 n) (by kernel_rfl)
theorem o0 (n : Nat) : (A0 n).Ok Tryd.prog (X n) := ⟨(oc_ok _), ⟨(oc_ok _), ⟨(oc_ok _), ⟨(oc_ok _), ⟨(oc_ok _), ⟨(oc_ok _), ⟨(oc_ok _), (b1 n)⟩⟩⟩⟩⟩⟩⟩
theorem ok (n : Nat) : FnOk Tryd.prog 6 ia io (fun v => f n v.1 v.2.1 v.2.2.1) :=
  fn_ok (x := X n) (A := A0 n) mixed tabIs (phi n) Tryd.func6 (by kernel_rfl) (by kernel_rfl) rfl (o0 n) (fun v u h => (link n v).trans h)
noncomputable def en (n : Nat) : Entry := mkEntry 6 ia io (fun v => f n v.1 v.2.1 v.2.2.1)
end f6
end Go.Proofs.YtnlckhekcklcpaaDoor


namespace Go.Proofs.YtnlckhekcklcpaaDoor
open Go Go.Va Go.Proofs
/- chartulary/chartularylaw13.ObjectBack -/
namespace f7
abbrev ia : List Ai := [.val (.d t23), .val (.d t31)]
abbrev io : List (Nat × Oi) := [(4, .val (.d .bool))]
abbrev R : Type := DOut ia io
noncomputable def X (n : Nat) : Ctx := ⟨⟨tab, [f8.en n, f11.en n, f12.en n, f14.en n, f17.en n, f20.en n, f22.en n, f23.en n], 0⟩, 73, bnOf 0 ia⟩
abbrev g1 : List Si := [.ref 2 2 t23, .ref 3 3 t31, .ref 5 5 t23, .box 2 (.d t23), .box 3 (.d t31), .box 5 (.p (.d .str) (.p (.r 100000000005000 t31) (.d .unit)))]
noncomputable def A1 (n : Nat) : AC R := (oc R (fsub Tryd.f7 [1, 1, 1]))
noncomputable def B1 (n : Nat) : AC R := .cut (fsub Tryd.f7 [1, 1, 1]) g1 (fun v k => hideF (runR (X n) (A1 n) g1 v k))
noncomputable def A0 (n : Nat) : AC R := (.seq (oc R (fsub Tryd.f7 [0])) (.seq (oc R (fsub Tryd.f7 [1, 0])) (.seq (oc R (fsub Tryd.f7 [1, 1, 0])) (B1 n))))
noncomputable def k1 (n : Nat) : KK R := (endK ia io)
noncomputable def S0 (n : Nat) (j1 : Dens g1 → Option R) (o : Den t23) (v_ : Den t31) : Option R :=
  bnd (f8.f n o v_) fun u1 =>
  bnd (f11.f n) fun u2 =>
  bIf ((!u2.1)) (
    bnd (f11.f n) fun u3 =>
    some (u3.1, ())
    ) (
    bIf ((hide (u1.2.1 != (0 : Int)))) (
      bnd (f11.f n) fun u4 =>
      some (u4.1, ())
      ) (
      j1 (o, v_, (u1.1.1, (u1.1.2.1, u1.1.2.2)), ())
      )
    )
noncomputable def S1 (n : Nat) (o : Den t23) (v_ : Den t31) (x_ : Den t23) : Option R :=
  bnd (f22.f n (x_.1, (x_.2.1, x_.2.2)) v_.1) fun u1 =>
  bnd (f23.f n (x_.1, (x_.2.1, x_.2.2)) v_) fun u2 =>
  bnd (f14.f n (x_.1, (x_.2.1, x_.2.2))) fun u3 =>
  bIf ((hide (u1.2.1 == (0 : Int)))) (
    bIf ((hide (u2.2.1 == (0 : Int)))) (
      bIf ((hide (u3.2.1 == (0 : Int)))) (
        bnd (f12.f n (u1.1.1, (u1.1.2.1, u1.1.2.2)) o) fun u4 =>
        bIf (u4.1) (
          bnd (f12.f n (u2.1.1, (u2.1.2.1, u2.1.2.2)) (x_.1, (x_.2.1, x_.2.2))) fun u5 =>
          bIf (u5.1) (
            bnd (f17.f n u3.1 v_) fun u6 =>
            bIf (u6.1) (
              bnd (f20.f n (x_.1, (x_.2.1, x_.2.2))) fun u7 =>
              some (u7.1, ())
              ) (
              some (false, ())
              )
            ) (
            some (false, ())
            )
          ) (
          some (false, ())
          )
        ) (
        some (false, ())
        )
      ) (
      some (false, ())
      )
    ) (
    some (false, ())
    )
theorem e0 (n : Nat) (v : DIn ia) : acRun (X n) (A0 n) (frameOf (X n).len (inSig 0 ia) v) (endK ia io) = S0 n (fun v => hideF (runR (X n) (A1 n) g1 v (k1 n))) v.1 v.2.1 := by kernel_rfl
theorem e1 (n : Nat) (v : Dens g1) : runR (X n) (A1 n) g1 v (k1 n) = S1 n v.1 v.2.1 v.2.2.1 := by kernel_rfl
noncomputable def J1 (n : Nat) : Dens g1 → Option R := fun v => S1 n v.1 v.2.1 v.2.2.1
theorem h1 (n : Nat) : (fun v => runR (X n) (A1 n) g1 v (k1 n)) = J1 n :=
  funext fun v => (e1 n v).trans (by (try simp only [hideF_eq]); rfl)
noncomputable def f (n : Nat) (o : Den t23) (v_ : Den t31) : Option R := S0 n (J1 n) o v_
theorem link (n : Nat) (v : DIn ia) : acRun (X n) (A0 n) (frameOf (X n).len (inSig 0 ia) v) (endK ia io) = f n v.1 v.2.1 :=
  (e0 n v).trans (by (try simp only [hideF_eq]); rw [h1 n]; rfl)
theorem phi (n : Nat) : ∀ e ∈ (X n).c.Φ, EntryOk Tryd.prog e := allE_cons (mkEntry_ok (f8.ok n)) (allE_cons (mkEntry_ok (f11.ok n)) (allE_cons (mkEntry_ok (f12.ok n)) (allE_cons (mkEntry_ok (f14.ok n)) (allE_cons (mkEntry_ok (f17.ok n)) (allE_cons (mkEntry_ok (f20.ok n)) (allE_cons (mkEntry_ok (f22.ok n)) (allE_cons (mkEntry_ok (f23.ok n)) (allE_nil))))))))
theorem o1 (n : Nat) : (A1 n).Ok Tryd.prog (X n) := (oc_ok _)
theorem b1 (n : Nat) : (B1 n).Ok Tryd.prog (X n) := runR_ok mixed tabIs (phi n) (o1 n) (by kernel_rfl)
theorem o0 (n : Nat) : (A0 n).Ok Tryd.prog (X n) := ⟨(oc_ok _), ⟨(oc_ok _), ⟨(oc_ok _), (b1 n)⟩⟩⟩
theorem ok (n : Nat) : FnOk Tryd.prog 7 ia io (fun v => f n v.1 v.2.1) :=
  fn_ok (x := X n) (A := A0 n) mixed tabIs (phi n) Tryd.func7 (by kernel_rfl) (by kernel_rfl) rfl (o0 n) (fun v u h => (link n v).trans h)
noncomputable def en (n : Nat) : Entry := mkEntry 7 ia io (fun v => f n v.1 v.2.1)
end f7
end Go.Proofs.YtnlckhekcklcpaaDoor

