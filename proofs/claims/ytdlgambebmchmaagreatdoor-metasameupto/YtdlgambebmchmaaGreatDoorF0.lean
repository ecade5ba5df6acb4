/-
  What the functions compute, by the abstract interpreter.
-/
import Derived.Test.YtdlgambebmchmaaGreatDoorVaTree
import Derived.Test.YtdlgambebmchmaaGreatDoorChecked
import Derived.Lib.LaidU8T
import Derived.Test.YtdlgambebmchmaaGreatDoorCoEnd
set_option linter.unusedVariables false
set_option linter.unusedSimpArgs false

namespace Go.Proofs.YtdlgambebmchmaaGreatDoor
open Go Go.Va Go.Proofs
abbrev T_internal_runtime_maps_unhashableTypeError : Ty := (.pair (.opq 0) .unit)
abbrev D_internal_runtime_maps_unhashableTypeError : Type := Unit × Unit
abbrev T_runtime_PanicNilError : Ty := (.pair (.arr 0 (.opq 0)) .unit)
abbrev D_runtime_PanicNilError : Type := (List (Unit)) × Unit
abbrev T_api_Tag : Ty := (.pair .str (.pair .str .unit))
abbrev D_api_Tag : Type := ByteArray × ByteArray × Unit
abbrev T_runtime_errorAddressString : Ty := (.pair .str (.pair (.int .u64) .unit))
abbrev D_runtime_errorAddressString : Type := ByteArray × Int × Unit
abbrev T_unicode_utf8_acceptRange : Ty := (.pair (.int .u8) (.pair (.int .u8) .unit))
abbrev D_unicode_utf8_acceptRange : Type := Int × Int × Unit
abbrev T_glob_piece : Ty := (.pair (.int .i64) (.pair (.int .u8) .unit))
abbrev D_glob_piece : Type := Int × Int × Unit
abbrev T_api_Default : Ty := (.pair (.int .i64) (.pair (.int .i64) .unit))
abbrev D_api_Default : Type := Int × Int × Unit
abbrev T_api_Spot : Ty := (.pair .str T_runtime_errorAddressString)
abbrev D_api_Spot : Type := ByteArray × ByteArray × Int × Unit
abbrev T_api_Lock : Ty := (.pair (.int .i64) (.pair (.int .i64) (.pair .bool .unit)))
abbrev D_api_Lock : Type := Int × Int × Bool × Unit
abbrev T_api_Grant : Ty := (.pair .bool (.pair .str T_api_Tag))
abbrev D_api_Grant : Type := Bool × ByteArray × ByteArray × ByteArray × Unit
abbrev T_runtime_TypeAssertionError : Ty := (.pair (.opq 0) (.pair (.opq 0) (.pair (.opq 0) (.pair .str .unit))))
abbrev D_runtime_TypeAssertionError : Type := Unit × Unit × Unit × ByteArray × Unit
abbrev T_runtime_boundsError : Ty := (.pair (.int .i64) (.pair (.int .i64) (.pair .bool (.pair (.int .u8) .unit))))
abbrev D_runtime_boundsError : Type := Int × Int × Bool × Int × Unit
abbrev T_api_Part : Ty := (.pair (.int .i64) (.pair (.int .i64) (.pair (.int .u64) (.pair (.arr 32 (.int .u8)) .unit))))
abbrev D_api_Part : Type := Int × Int × Int × (List (Int)) × Unit
abbrev T_api_Rule : Ty := (.pair .str (.pair (.slice T_api_Tag) T_api_Lock))
abbrev D_api_Rule : Type := ByteArray × (List (D_api_Tag)) × Int × Int × Bool × Unit
abbrev T_api_Upload : Ty := (.pair (.int .u64) (.pair .str (.pair (.slice T_api_Tag) (.pair (.slice T_api_Part) .unit))))
abbrev D_api_Upload : Type := Int × ByteArray × (List (D_api_Tag)) × (List (D_api_Part)) × Unit
abbrev T_internal_abi_Type : Ty := (.pair (.int .u64) (.pair (.int .u64) (.pair (.int .u32) (.pair (.int .u8) (.pair (.int .u8) (.pair (.int .u8) (.pair (.int .u8) (.pair (.opq 1) (.pair (.opq 0) (.pair (.int .i32) (.pair (.int .i32) .unit)))))))))))
abbrev D_internal_abi_Type : Type := Int × Int × Int × Int × Int × Int × Int × Unit × Unit × Int × Int × Unit
abbrev T_api_Version : Ty := (.pair (.int .u64) (.pair .bool (.pair (.int .i64) (.pair (.int .u64) (.pair (.arr 32 (.int .u8)) (.pair (.int .i64) (.pair T_api_Lock (.pair (.slice T_api_Tag) .unit))))))))
abbrev D_api_Version : Type := Int × Bool × Int × Int × (List (Int)) × Int × D_api_Lock × (List (D_api_Tag)) × Unit
abbrev T_api_Object : Ty := (.pair .str (.pair (.slice T_api_Version) .unit))
abbrev D_api_Object : Type := ByteArray × (List (D_api_Version)) × Unit
abbrev T_ref15_Row : Ty := (.pair .str (.pair .str (.pair T_api_Version (.pair T_api_Upload .unit))))
abbrev D_ref15_Row : Type := ByteArray × ByteArray × D_api_Version × D_api_Upload × Unit
abbrev T_api_Bucket : Ty := (.pair .str (.pair T_api_Default (.pair (.slice T_api_Rule) (.pair (.slice T_api_Grant) (.pair (.slice T_api_Object) (.pair (.slice T_api_Upload) .unit))))))
abbrev D_api_Bucket : Type := ByteArray × D_api_Default × (List (D_api_Rule)) × (List (D_api_Grant)) × (List (D_api_Object)) × (List (D_api_Upload)) × Unit
abbrev T_api_Entry : Ty := (.pair (.int .i64) (.pair (.int .i64) (.pair .str (.pair .str (.pair (.int .u64) (.pair T_api_Version (.pair T_api_Lock (.pair (.slice T_api_Tag) (.pair T_api_Default (.pair (.slice T_api_Rule) (.pair (.slice T_api_Grant) (.pair T_api_Part .unit))))))))))))
abbrev D_api_Entry : Type := Int × Int × ByteArray × ByteArray × Int × D_api_Version × D_api_Lock × (List (D_api_Tag)) × D_api_Default × (List (D_api_Rule)) × (List (D_api_Grant)) × D_api_Part × Unit
abbrev T_api_State : Ty := (.pair (.int .i64) (.pair (.int .u64) (.pair (.int .u64) (.pair (.slice T_api_Bucket) .unit))))
abbrev D_api_State : Type := Int × Int × Int × (List (D_api_Bucket)) × Unit
abbrev T_meta_draft : Ty := (.pair T_api_State .unit)
abbrev D_meta_draft : Type := D_api_State × Unit
abbrev T_meta_census : Ty := (.pair T_api_State (.pair (.int .i64) (.pair (.opq 2) .unit)))
abbrev D_meta_census : Type := D_api_State × Int × Unit × Unit
abbrev T_ref15_Flat : Ty := (.pair (.int .i64) (.pair (.int .u64) (.pair (.int .u64) (.pair (.slice T_api_Bucket) (.pair (.slice T_ref15_Row) (.pair (.slice T_ref15_Row) .unit))))))
abbrev D_ref15_Flat : Type := Int × Int × Int × (List (D_api_Bucket)) × (List (D_ref15_Row)) × (List (D_ref15_Row)) × Unit
noncomputable def tab : List (Nat × TE) := [(2, ⟨(.int .i64), 0⟩), (3, ⟨(.int .i64), 0⟩), (4, ⟨.bool, 0⟩), (5, ⟨(.int .u8), 0⟩), (9, ⟨.str, 0⟩), (12, ⟨(.int .u64), 0⟩), (21, ⟨(.int .i32), 0⟩), (22, ⟨(.int .u64), 0⟩), (23, ⟨(.slice T_api_Bucket), 128⟩), (24, ⟨T_api_State, 0⟩), (25, ⟨T_api_State, 0⟩), (26, ⟨(.slice T_api_Entry), 344⟩), (36, ⟨(.arr 32 (.int .u8)), 0⟩), (37, ⟨(.arr 32 (.int .u8)), 0⟩), (38, ⟨T_api_Lock, 0⟩), (39, ⟨T_api_Lock, 0⟩), (40, ⟨(.slice T_api_Tag), 32⟩), (41, ⟨T_api_Version, 0⟩), (42, ⟨T_api_Version, 0⟩), (43, ⟨T_api_Default, 0⟩), (44, ⟨T_api_Default, 0⟩), (45, ⟨(.slice T_api_Rule), 64⟩), (46, ⟨(.slice T_api_Grant), 56⟩), (47, ⟨T_api_Part, 0⟩), (48, ⟨T_api_Part, 0⟩), (49, ⟨T_api_Entry, 0⟩), (50, ⟨T_api_Entry, 0⟩), (52, ⟨(.slice T_api_Object), 40⟩), (53, ⟨(.slice T_api_Upload), 72⟩), (54, ⟨T_api_Bucket, 0⟩), (55, ⟨T_api_Bucket, 0⟩), (58, ⟨(.opq 1), 0⟩), (60, ⟨T_api_Spot, 0⟩), (61, ⟨T_api_Spot, 0⟩), (62, ⟨(.slice T_api_Version), 120⟩), (63, ⟨T_api_Object, 0⟩), (64, ⟨T_api_Object, 0⟩), (78, ⟨(.opq 1), 0⟩), (81, ⟨(.opq 1), 0⟩), (82, ⟨(.slice T_api_Part), 56⟩), (83, ⟨T_api_Upload, 0⟩), (84, ⟨T_api_Upload, 0⟩), (88, ⟨(.opq 0), 0⟩), (90, ⟨T_meta_draft, 0⟩), (91, ⟨T_meta_draft, 0⟩), (97, ⟨(.opq 1), 0⟩), (98, ⟨(.opq 0), 0⟩), (99, ⟨(.opq 2), 0⟩), (100, ⟨T_meta_census, 0⟩), (101, ⟨T_meta_census, 0⟩), (103, ⟨(.opq 1), 0⟩), (109, ⟨(.opq 1), 0⟩), (116, ⟨(.opq 1), 0⟩), (119, ⟨(.opq 1), 0⟩), (129, ⟨(.opq 0), 0⟩), (133, ⟨T_api_Grant, 0⟩), (134, ⟨T_api_Grant, 0⟩), (142, ⟨(.opq 1), 0⟩), (145, ⟨(.opq 1), 0⟩), (147, ⟨T_api_Rule, 0⟩), (148, ⟨T_api_Rule, 0⟩), (151, ⟨(.opq 1), 0⟩), (160, ⟨(.int .u64), 0⟩), (163, ⟨T_api_Tag, 0⟩), (164, ⟨T_api_Tag, 0⟩), (180, ⟨(.opq 1), 0⟩), (186, ⟨(.opq 1), 0⟩), (192, ⟨(.opq 1), 0⟩), (194, ⟨(.opq 1), 0⟩), (204, ⟨(.opq 1), 0⟩), (216, ⟨(.int .u32), 0⟩), (226, ⟨(.slice .str), 16⟩), (232, ⟨(.slice T_glob_piece), 16⟩), (250, ⟨(.arr 256 .bool), 0⟩), (251, ⟨(.arr 256 .bool), 0⟩), (255, ⟨(.opq 0), 0⟩), (256, ⟨(.slice (.int .u8)), 1⟩), (257, ⟨T_glob_piece, 0⟩), (258, ⟨T_glob_piece, 0⟩), (270, ⟨(.arr 256 (.int .u8)), 0⟩), (271, ⟨T_unicode_utf8_acceptRange, 0⟩), (272, ⟨T_unicode_utf8_acceptRange, 0⟩), (273, ⟨(.arr 16 T_unicode_utf8_acceptRange), 0⟩)]
noncomputable def firstCells : List Value := Lib.firstTab.map fun z => Value.int .u8 z
noncomputable def acceptCells : List Value := (List.range 16).flatMap fun i => [Value.int .u8 (Lib.accLo i), Value.int .u8 (Lib.accHi i)]
instance : Gl := ⟨[], []⟩
theorem tabIs : TabOk Tryz.prog tab := tabB_ok (by kernel_rfl)
theorem mixed : Tryz.prog.follows .mixedOrders = true := Tryz.checked.mixed
end Go.Proofs.YtdlgambebmchmaaGreatDoor


namespace Go.Proofs.YtdlgambebmchmaaGreatDoor
open Go Go.Va Go.Proofs
/- slices.Equal[[]chartulary/api.Tag,chartulary/api.Tag] -/
namespace F_slices_Equal_Tag
abbrev ia : List Ai := [.dat (.slice T_api_Tag), .dat (.slice T_api_Tag)]
abbrev io : List (Nat × Oi) := [(4, .dat .bool)]
abbrev R : Type := DOut ia io
noncomputable def X (n : Nat) : Ctx := ⟨⟨tab, [], 0, []⟩, 26, bnOf 0 ia⟩
abbrev g1 : List Si := [.dat 0 (.slice T_api_Tag), .dat 1 (.slice T_api_Tag), .dat 12 (.int .i64), .dat 13 (.int .i64)]
abbrev g2 : List Si := []
noncomputable def T : CT := (.s .o (.s .o (.s (.s .o (.b (.l g1 .o))) (.r g2 .o))))
noncomputable def J1 (n : Nat) (m : Nat) : (List (D_api_Tag)) × (List (D_api_Tag)) × Int × Int × Unit → Option R := jL (X n) n T (bodyOf Tryz.f215) (endK ia io) g1 [1, 1, 0, 1, 0] [] m
noncomputable def J2 (n : Nat) : Unit → Option R := jR (X n) n T (bodyOf Tryz.f215) (endK ia io) g2 [1, 1, 1] []
noncomputable def f (n : Nat) (s1 : List (D_api_Tag)) (s2 : List (D_api_Tag)) : Option R := fRun (X n) n T Tryz.f215 ia io (s1, s2, ())
theorem e0 (n : Nat) (s1 : List (D_api_Tag)) (s2 : List (D_api_Tag)) : f n s1 s2 =
  bIf ((hide (((s1.length : Nat) : Int) != ((s2.length : Nat) : Int)))) (
    some (false, ())
    ) (
    J1 n n (s1, s2, ((s1.length : Nat) : Int), 0, ())
    ) := (hideF_eq _).trans (by kernel_rfl)
theorem e1 (n m : Nat) (s1 : List (D_api_Tag)) (s2 : List (D_api_Tag)) (t12 : Int) (t13 : Int) : J1 n (m + 1) (s1, s2, t12, t13, ()) =
  bIf ((hide (decide (t13 < t12)))) (
    gIf (0 ≤ t13 ∧ t13 < ((s1.length : Nat) : Int)) (
      gIf (0 ≤ t13 ∧ t13 < ((s2.length : Nat) : Int)) (
        bIf ((hide (!(eqD T_api_Tag (List.getD s1 t13.toNat (Va.dflt T_api_Tag)) (List.getD s2 t13.toNat (Va.dflt T_api_Tag)))))) (
          some (false, ())
          ) (
          J1 n m (s1, s2, t12, (IntKind.i64.wrap (t13 + (1 : Int))), ())
          )
        )
      )
    ) (
    J2 n (())
    ) := (hideF_eq _).trans (by kernel_rfl)
theorem e2 (n : Nat) : J2 n (()) =
  some (true, ()) := (hideF_eq _).trans (by kernel_rfl)
theorem phi (n : Nat) : ∀ e ∈ (X n).c.Φ, EntryOk Tryz.prog e := allE_nil
theorem ok (n : Nat) : FnOk Tryz.prog 215 ia io (fRun (X n) n T Tryz.f215 ia io) := tree_ok mixed tabIs (phi n) Tryz.func215 (by kernel_rfl) rfl
noncomputable def en (n : Nat) : Entry := mkEntry 215 ia io (fRun (X n) n T Tryz.f215 ia io)
end F_slices_Equal_Tag
end Go.Proofs.YtdlgambebmchmaaGreatDoor


namespace Go.Proofs.YtdlgambebmchmaaGreatDoor
open Go Go.Va Go.Proofs
/- chartulary/tags.Same -/
namespace F_tags_Same
abbrev ia : List Ai := [.dat (.slice T_api_Tag), .dat (.slice T_api_Tag)]
abbrev io : List (Nat × Oi) := [(4, .dat .bool)]
abbrev R : Type := DOut ia io
noncomputable def X (n : Nat) : Ctx := ⟨⟨tab, [F_slices_Equal_Tag.en n], 0, []⟩, 8, bnOf 0 ia⟩
noncomputable def T : CT := .o
noncomputable def f (n : Nat) (a : List (D_api_Tag)) (b : List (D_api_Tag)) : Option R := fRun (X n) n T Tryz.f172 ia io (a, b, ())
theorem e0 (n : Nat) (a : List (D_api_Tag)) (b : List (D_api_Tag)) : f n a b =
  bnd (F_slices_Equal_Tag.f n a b) fun u1 =>
  some (u1.1, ()) := (hideF_eq _).trans (by kernel_rfl)
theorem phi (n : Nat) : ∀ e ∈ (X n).c.Φ, EntryOk Tryz.prog e := allE_cons (mkEntry_ok (F_slices_Equal_Tag.ok n)) (allE_nil)
theorem ok (n : Nat) : FnOk Tryz.prog 172 ia io (fRun (X n) n T Tryz.f172 ia io) := tree_ok mixed tabIs (phi n) Tryz.func172 (by kernel_rfl) rfl
noncomputable def en (n : Nat) : Entry := mkEntry 172 ia io (fRun (X n) n T Tryz.f172 ia io)
end F_tags_Same
end Go.Proofs.YtdlgambebmchmaaGreatDoor


namespace Go.Proofs.YtdlgambebmchmaaGreatDoor
open Go Go.Va Go.Proofs
/- chartulary/chartularyref08.Same -/
namespace F_ref08_Same
abbrev ia : List Ai := [.dat (.slice T_api_Tag), .dat (.slice T_api_Tag)]
abbrev io : List (Nat × Oi) := [(4, .dat .bool)]
abbrev R : Type := DOut ia io
noncomputable def X (n : Nat) : Ctx := ⟨⟨tab, [], 0, []⟩, 41, bnOf 0 ia⟩
abbrev g1 : List Si := [.dat 0 (.slice T_api_Tag), .dat 1 (.slice T_api_Tag), .dat 5 (.int .i64)]
abbrev g2 : List Si := [.dat 0 (.slice T_api_Tag), .dat 1 (.slice T_api_Tag), .dat 5 (.int .i64)]
abbrev g3 : List Si := []
noncomputable def T : CT := (.s .o (.s .o (.s (.s .o (.b (.l g1 (.s .o (.s .o (.r g2 .o)))))) (.r g3 .o))))
noncomputable def J1 (n : Nat) (m : Nat) : (List (D_api_Tag)) × (List (D_api_Tag)) × Int × Unit → Option R := jL (X n) n T (bodyOf Tryz.f59) (endK ia io) g1 [1, 1, 0, 1, 0] [] m
noncomputable def J2 (n m1 : Nat) : (List (D_api_Tag)) × (List (D_api_Tag)) × Int × Unit → Option R := jR (X n) n T (bodyOf Tryz.f59) (endK ia io) g2 [1, 1, 0, 1, 0, 0, 1, 1] [m1]
noncomputable def J3 (n : Nat) : Unit → Option R := jR (X n) n T (bodyOf Tryz.f59) (endK ia io) g3 [1, 1, 1] []
noncomputable def f (n : Nat) (a : List (D_api_Tag)) (b : List (D_api_Tag)) : Option R := fRun (X n) n T Tryz.f59 ia io (a, b, ())
theorem e0 (n : Nat) (a : List (D_api_Tag)) (b : List (D_api_Tag)) : f n a b =
  bIf ((hide (((a.length : Nat) : Int) != ((b.length : Nat) : Int)))) (
    some (false, ())
    ) (
    J1 n n (a, b, 0, ())
    ) := (hideF_eq _).trans (by kernel_rfl)
theorem e1 (n m : Nat) (a : List (D_api_Tag)) (b : List (D_api_Tag)) (i : Int) : J1 n (m + 1) (a, b, i, ()) =
  bIf ((hide (decide (i < ((a.length : Nat) : Int))))) (
    gIf (0 ≤ i ∧ i < ((a.length : Nat) : Int)) (
      gIf (0 ≤ i ∧ i < ((b.length : Nat) : Int)) (
        bIf ((hide (!eqS ((List.getD a i.toNat (Va.dflt T_api_Tag)).1) ((List.getD b i.toNat (Va.dflt T_api_Tag)).1)))) (
          some (false, ())
          ) (
          gIf (0 ≤ i ∧ i < ((a.length : Nat) : Int)) (
            gIf (0 ≤ i ∧ i < ((b.length : Nat) : Int)) (
              bIf ((hide (!eqS (((List.getD a i.toNat (Va.dflt T_api_Tag)).2).1) (((List.getD b i.toNat (Va.dflt T_api_Tag)).2).1)))) (
                some (false, ())
                ) (
                J2 n m (a, b, i, ())
                )
              )
            )
          )
        )
      )
    ) (
    J3 n (())
    ) := (hideF_eq _).trans (by kernel_rfl)
theorem e2 (n m1 : Nat) (a : List (D_api_Tag)) (b : List (D_api_Tag)) (i : Int) : J2 n m1 (a, b, i, ()) =
  J1 n m1 (a, b, (IntKind.i64.wrap (i + (1 : Int))), ()) := (hideF_eq _).trans (by kernel_rfl)
theorem e3 (n : Nat) : J3 n (()) =
  some (true, ()) := (hideF_eq _).trans (by kernel_rfl)
theorem phi (n : Nat) : ∀ e ∈ (X n).c.Φ, EntryOk Tryz.prog e := allE_nil
theorem ok (n : Nat) : FnOk Tryz.prog 59 ia io (fRun (X n) n T Tryz.f59 ia io) := tree_ok mixed tabIs (phi n) Tryz.func59 (by kernel_rfl) rfl
noncomputable def en (n : Nat) : Entry := mkEntry 59 ia io (fRun (X n) n T Tryz.f59 ia io)
end F_ref08_Same
end Go.Proofs.YtdlgambebmchmaaGreatDoor


namespace Go.Proofs.YtdlgambebmchmaaGreatDoor
open Go Go.Va Go.Proofs
/- chartulary/object.SameVersion -/
namespace F_object_SameVersion
abbrev ia : List Ai := [.dat T_api_Version, .dat T_api_Version]
abbrev io : List (Nat × Oi) := [(4, .dat .bool)]
abbrev R : Type := DOut ia io
noncomputable def X (n : Nat) : Ctx := ⟨⟨tab, [F_tags_Same.en n], 0, []⟩, 61, bnOf 0 ia⟩
noncomputable def T : CT := .o
noncomputable def f (n : Nat) (a : D_api_Version) (b : D_api_Version) : Option R := fRun (X n) n T Tryz.f171 ia io (a, b, ())
theorem e0 (n : Nat) (a : D_api_Version) (b : D_api_Version) : f n a b =
  bnd (F_tags_Same.f n a.2.2.2.2.2.2.2.1 b.2.2.2.2.2.2.2.1) fun u1 =>
  bIf (u1.1) (
    bIf ((hide (a.1 == b.1))) (
      bIf ((hide (a.2.1 == b.2.1))) (
        bIf ((hide (a.2.2.1 == b.2.2.1))) (
          bIf ((hide (a.2.2.2.1 == b.2.2.2.1))) (
            bIf ((hide (eqD (.arr 32 (.int .u8)) a.2.2.2.2.1 b.2.2.2.2.1))) (
              bIf ((hide (a.2.2.2.2.2.1 == b.2.2.2.2.2.1))) (
                some ((hide (eqD T_api_Lock a.2.2.2.2.2.2.1 b.2.2.2.2.2.2.1)), ())
                ) (
                some (false, ())
                )
              ) (
              some (false, ())
              )
            ) (
            some (false, ())
            )
          ) (
          some (false, ())
          )
        ) (
        some (false, ())
        )
      ) (
      some (false, ())
      )
    ) (
    some (false, ())
    ) := (hideF_eq _).trans (by kernel_rfl)
theorem phi (n : Nat) : ∀ e ∈ (X n).c.Φ, EntryOk Tryz.prog e := allE_cons (mkEntry_ok (F_tags_Same.ok n)) (allE_nil)
theorem ok (n : Nat) : FnOk Tryz.prog 171 ia io (fRun (X n) n T Tryz.f171 ia io) := tree_ok mixed tabIs (phi n) Tryz.func171 (by kernel_rfl) rfl
noncomputable def en (n : Nat) : Entry := mkEntry 171 ia io (fRun (X n) n T Tryz.f171 ia io)
end F_object_SameVersion
end Go.Proofs.YtdlgambebmchmaaGreatDoor


namespace Go.Proofs.YtdlgambebmchmaaGreatDoor
open Go Go.Va Go.Proofs
/- chartulary/chartularyref13.SameVersion -/
namespace F_ref13_SameVersion
abbrev ia : List Ai := [.dat T_api_Version, .dat T_api_Version]
abbrev io : List (Nat × Oi) := [(4, .dat .bool)]
abbrev R : Type := DOut ia io
noncomputable def X (n : Nat) : Ctx := ⟨⟨tab, [F_ref08_Same.en n], 0, []⟩, 57, bnOf 0 ia⟩
abbrev g1 : List Si := [.ref 2 2 T_api_Version, .ref 3 3 T_api_Version, .box 2 (.d T_api_Version), .box 3 (.d T_api_Version)]
noncomputable def T : CT := (.s .o (.s .o (.r g1 .o)))
noncomputable def J1 (n : Nat) : D_api_Version × D_api_Version × Unit → Option R := jR (X n) n T (bodyOf Tryz.f28) (endK ia io) g1 [1, 1] []
noncomputable def f (n : Nat) (a : D_api_Version) (b : D_api_Version) : Option R := fRun (X n) n T Tryz.f28 ia io (a, b, ())
theorem e0 (n : Nat) (a : D_api_Version) (b : D_api_Version) : f n a b =
  bIf ((hide (a.1 != b.1))) (
    some (false, ())
    ) (
    bIf ((hide (!(a.2.1 == b.2.1)))) (
      some (false, ())
      ) (
      bIf ((hide (a.2.2.1 != b.2.2.1))) (
        some (false, ())
        ) (
        bIf ((hide (a.2.2.2.1 != b.2.2.2.1))) (
          some (false, ())
          ) (
          bIf ((hide (a.2.2.2.2.2.1 != b.2.2.2.2.2.1))) (
            some (false, ())
            ) (
            bIf ((hide (!(eqD T_api_Lock a.2.2.2.2.2.2.1 b.2.2.2.2.2.2.1)))) (
              some (false, ())
              ) (
              J1 n (a, b, ())
              )
            )
          )
        )
      )
    ) := (hideF_eq _).trans (by kernel_rfl)
theorem e1 (n : Nat) (a : D_api_Version) (b : D_api_Version) : J1 n (a, b, ()) =
  bIf ((hide (eqD (.arr 32 (.int .u8)) a.2.2.2.2.1 b.2.2.2.2.1))) (
    bnd (F_ref08_Same.f n a.2.2.2.2.2.2.2.1 b.2.2.2.2.2.2.2.1) fun u1 =>
    some (u1.1, ())
    ) (
    some (false, ())
    ) := (hideF_eq _).trans (by kernel_rfl)
theorem phi (n : Nat) : ∀ e ∈ (X n).c.Φ, EntryOk Tryz.prog e := allE_cons (mkEntry_ok (F_ref08_Same.ok n)) (allE_nil)
theorem ok (n : Nat) : FnOk Tryz.prog 28 ia io (fRun (X n) n T Tryz.f28 ia io) := tree_ok mixed tabIs (phi n) Tryz.func28 (by kernel_rfl) rfl
noncomputable def en (n : Nat) : Entry := mkEntry 28 ia io (fRun (X n) n T Tryz.f28 ia io)
end F_ref13_SameVersion
end Go.Proofs.YtdlgambebmchmaaGreatDoor


namespace Go.Proofs.YtdlgambebmchmaaGreatDoor
open Go Go.Va Go.Proofs
/- chartulary/entry.sameRule -/
namespace F_entry_sameRule
abbrev ia : List Ai := [.dat T_api_Rule, .dat T_api_Rule]
abbrev io : List (Nat × Oi) := [(4, .dat .bool)]
abbrev R : Type := DOut ia io
noncomputable def X (n : Nat) : Ctx := ⟨⟨tab, [F_tags_Same.en n], 0, []⟩, 38, bnOf 0 ia⟩
noncomputable def T : CT := .o
noncomputable def f (n : Nat) (a : D_api_Rule) (b : D_api_Rule) : Option R := fRun (X n) n T Tryz.f169 ia io (a, b, ())
theorem e0 (n : Nat) (a : D_api_Rule) (b : D_api_Rule) : f n a b =
  bIf ((hide (eqS a.1 b.1))) (
    bIf ((hide (a.2.2.1 == b.2.2.1))) (
      bIf ((hide (a.2.2.2.1 == b.2.2.2.1))) (
        bIf ((hide (a.2.2.2.2.1 == b.2.2.2.2.1))) (
          bnd (F_tags_Same.f n a.2.1 b.2.1) fun u1 =>
          some (u1.1, ())
          ) (
          some (false, ())
          )
        ) (
        some (false, ())
        )
      ) (
      some (false, ())
      )
    ) (
    some (false, ())
    ) := (hideF_eq _).trans (by kernel_rfl)
theorem phi (n : Nat) : ∀ e ∈ (X n).c.Φ, EntryOk Tryz.prog e := allE_cons (mkEntry_ok (F_tags_Same.ok n)) (allE_nil)
theorem ok (n : Nat) : FnOk Tryz.prog 169 ia io (fRun (X n) n T Tryz.f169 ia io) := tree_ok mixed tabIs (phi n) Tryz.func169 (by kernel_rfl) rfl
noncomputable def en (n : Nat) : Entry := mkEntry 169 ia io (fRun (X n) n T Tryz.f169 ia io)
end F_entry_sameRule
end Go.Proofs.YtdlgambebmchmaaGreatDoor


namespace Go.Proofs.YtdlgambebmchmaaGreatDoor
open Go Go.Va Go.Proofs
/- slices.EqualFunc[[]chartulary/api.Rule,[]chartulary/api.Rule,chartulary/api.Rule,chartulary/api.Rule] -/
namespace F_slices_EqualFunc_Rule
abbrev ia : List Ai := [.dat (.slice T_api_Rule), .dat (.slice T_api_Rule), .fn (.fn 169) []]
abbrev io : List (Nat × Oi) := [(6, .dat .bool)]
abbrev R : Type := DOut ia io
noncomputable def X (n : Nat) : Ctx := ⟨⟨tab, [F_entry_sameRule.en n], 0, []⟩, 32, bnOf 0 ia⟩
abbrev g1 : List Si := [.dat 1 (.slice T_api_Rule), .clo 2 (.fn 169) [], .dat 15 (.slice T_api_Rule), .dat 16 (.int .i64), .dat 17 (.int .i64)]
abbrev g2 : List Si := []
noncomputable def T : CT := (.s .o (.s .o (.s (.s .o (.b (.l g1 .o))) (.r g2 .o))))
noncomputable def J1 (n : Nat) (m : Nat) : (List (D_api_Rule)) × (List (D_api_Rule)) × Int × Int × Unit → Option R := jL (X n) n T (bodyOf Tryz.f168) (endK ia io) g1 [1, 1, 0, 1, 0] [] m
noncomputable def J2 (n : Nat) : Unit → Option R := jR (X n) n T (bodyOf Tryz.f168) (endK ia io) g2 [1, 1, 1] []
noncomputable def f (n : Nat) (s1 : List (D_api_Rule)) (s2 : List (D_api_Rule)) : Option R := fRun (X n) n T Tryz.f168 ia io (s1, s2, ())
theorem e0 (n : Nat) (s1 : List (D_api_Rule)) (s2 : List (D_api_Rule)) : f n s1 s2 =
  bIf ((hide (((s1.length : Nat) : Int) != ((s2.length : Nat) : Int)))) (
    some (false, ())
    ) (
    J1 n n (s2, s1, ((s1.length : Nat) : Int), 0, ())
    ) := (hideF_eq _).trans (by kernel_rfl)
theorem e1 (n m : Nat) (s2 : List (D_api_Rule)) (t15 : List (D_api_Rule)) (t16 : Int) (t17 : Int) : J1 n (m + 1) (s2, t15, t16, t17, ()) =
  bIf ((hide (decide (t17 < t16)))) (
    gIf (0 ≤ t17 ∧ t17 < ((t15.length : Nat) : Int)) (
      gIf (0 ≤ t17 ∧ t17 < ((s2.length : Nat) : Int)) (
        bnd (F_entry_sameRule.f n (List.getD t15 t17.toNat (Va.dflt T_api_Rule)) (List.getD s2 t17.toNat (Va.dflt T_api_Rule))) fun u1 =>
        bIf ((!u1.1)) (
          some (false, ())
          ) (
          J1 n m (s2, t15, t16, (IntKind.i64.wrap (t17 + (1 : Int))), ())
          )
        )
      )
    ) (
    J2 n (())
    ) := (hideF_eq _).trans (by kernel_rfl)
theorem e2 (n : Nat) : J2 n (()) =
  some (true, ()) := (hideF_eq _).trans (by kernel_rfl)
theorem phi (n : Nat) : ∀ e ∈ (X n).c.Φ, EntryOk Tryz.prog e := allE_cons (mkEntry_ok (F_entry_sameRule.ok n)) (allE_nil)
theorem ok (n : Nat) : FnOk Tryz.prog 168 ia io (fRun (X n) n T Tryz.f168 ia io) := tree_ok mixed tabIs (phi n) Tryz.func168 (by kernel_rfl) rfl
noncomputable def en (n : Nat) : Entry := mkEntry 168 ia io (fRun (X n) n T Tryz.f168 ia io)
end F_slices_EqualFunc_Rule
end Go.Proofs.YtdlgambebmchmaaGreatDoor


namespace Go.Proofs.YtdlgambebmchmaaGreatDoor
open Go Go.Va Go.Proofs
/- chartulary/entry.SameRules -/
namespace F_entry_SameRules
abbrev ia : List Ai := [.dat (.slice T_api_Rule), .dat (.slice T_api_Rule)]
abbrev io : List (Nat × Oi) := [(4, .dat .bool)]
abbrev R : Type := DOut ia io
noncomputable def X (n : Nat) : Ctx := ⟨⟨tab, [F_slices_EqualFunc_Rule.en n], 0, []⟩, 8, bnOf 0 ia⟩
noncomputable def T : CT := .o
noncomputable def f (n : Nat) (a : List (D_api_Rule)) (b : List (D_api_Rule)) : Option R := fRun (X n) n T Tryz.f103 ia io (a, b, ())
theorem e0 (n : Nat) (a : List (D_api_Rule)) (b : List (D_api_Rule)) : f n a b =
  bnd (F_slices_EqualFunc_Rule.f n a b) fun u1 =>
  some (u1.1, ()) := (hideF_eq _).trans (by kernel_rfl)
theorem phi (n : Nat) : ∀ e ∈ (X n).c.Φ, EntryOk Tryz.prog e := allE_cons (mkEntry_ok (F_slices_EqualFunc_Rule.ok n)) (allE_nil)
theorem ok (n : Nat) : FnOk Tryz.prog 103 ia io (fRun (X n) n T Tryz.f103 ia io) := tree_ok mixed tabIs (phi n) Tryz.func103 (by kernel_rfl) rfl
noncomputable def en (n : Nat) : Entry := mkEntry 103 ia io (fRun (X n) n T Tryz.f103 ia io)
end F_entry_SameRules
end Go.Proofs.YtdlgambebmchmaaGreatDoor


namespace Go.Proofs.YtdlgambebmchmaaGreatDoor
open Go Go.Va Go.Proofs
/- chartulary/chartularyref14.SameGrants -/
namespace F_ref14_SameGrants
abbrev ia : List Ai := [.dat (.slice T_api_Grant), .dat (.slice T_api_Grant)]
abbrev io : List (Nat × Oi) := [(4, .dat .bool)]
abbrev R : Type := DOut ia io
noncomputable def X (n : Nat) : Ctx := ⟨⟨tab, [], 0, []⟩, 26, bnOf 0 ia⟩
abbrev g1 : List Si := [.dat 0 (.slice T_api_Grant), .dat 1 (.slice T_api_Grant), .dat 5 (.int .i64)]
abbrev g2 : List Si := []
noncomputable def T : CT := (.s .o (.s .o (.s (.s .o (.b (.l g1 .o))) (.r g2 .o))))
noncomputable def J1 (n : Nat) (m : Nat) : (List (D_api_Grant)) × (List (D_api_Grant)) × Int × Unit → Option R := jL (X n) n T (bodyOf Tryz.f48) (endK ia io) g1 [1, 1, 0, 1, 0] [] m
noncomputable def J2 (n : Nat) : Unit → Option R := jR (X n) n T (bodyOf Tryz.f48) (endK ia io) g2 [1, 1, 1] []
noncomputable def f (n : Nat) (a : List (D_api_Grant)) (b : List (D_api_Grant)) : Option R := fRun (X n) n T Tryz.f48 ia io (a, b, ())
theorem e0 (n : Nat) (a : List (D_api_Grant)) (b : List (D_api_Grant)) : f n a b =
  bIf ((hide (((a.length : Nat) : Int) != ((b.length : Nat) : Int)))) (
    some (false, ())
    ) (
    J1 n n (a, b, 0, ())
    ) := (hideF_eq _).trans (by kernel_rfl)
theorem e1 (n m : Nat) (a : List (D_api_Grant)) (b : List (D_api_Grant)) (i : Int) : J1 n (m + 1) (a, b, i, ()) =
  bIf ((hide (decide (i < ((a.length : Nat) : Int))))) (
    gIf (0 ≤ i ∧ i < ((a.length : Nat) : Int)) (
      gIf (0 ≤ i ∧ i < ((b.length : Nat) : Int)) (
        bIf ((hide (!(eqD T_api_Grant (List.getD a i.toNat (Va.dflt T_api_Grant)) (List.getD b i.toNat (Va.dflt T_api_Grant)))))) (
          some (false, ())
          ) (
          J1 n m (a, b, (IntKind.i64.wrap (i + (1 : Int))), ())
          )
        )
      )
    ) (
    J2 n (())
    ) := (hideF_eq _).trans (by kernel_rfl)
theorem e2 (n : Nat) : J2 n (()) =
  some (true, ()) := (hideF_eq _).trans (by kernel_rfl)
theorem phi (n : Nat) : ∀ e ∈ (X n).c.Φ, EntryOk Tryz.prog e := allE_nil
theorem ok (n : Nat) : FnOk Tryz.prog 48 ia io (fRun (X n) n T Tryz.f48 ia io) := tree_ok mixed tabIs (phi n) Tryz.func48 (by kernel_rfl) rfl
noncomputable def en (n : Nat) : Entry := mkEntry 48 ia io (fRun (X n) n T Tryz.f48 ia io)
end F_ref14_SameGrants
end Go.Proofs.YtdlgambebmchmaaGreatDoor


namespace Go.Proofs.YtdlgambebmchmaaGreatDoor
open Go Go.Va Go.Proofs
/- chartulary/chartularyref14.SameRules -/
namespace F_ref14_SameRules
abbrev ia : List Ai := [.dat (.slice T_api_Rule), .dat (.slice T_api_Rule)]
abbrev io : List (Nat × Oi) := [(4, .dat .bool)]
abbrev R : Type := DOut ia io
noncomputable def X (n : Nat) : Ctx := ⟨⟨tab, [F_ref08_Same.en n], 0, []⟩, 81, bnOf 0 ia⟩
abbrev g1 : List Si := [.dat 0 (.slice T_api_Rule), .dat 1 (.slice T_api_Rule), .dat 5 (.int .i64)]
abbrev g2 : List Si := [.dat 0 (.slice T_api_Rule), .dat 1 (.slice T_api_Rule), .dat 5 (.int .i64)]
abbrev g3 : List Si := []
noncomputable def T : CT := (.s .o (.s .o (.s (.s .o (.b (.l g1 (.s .o (.s .o (.r g2 .o)))))) (.r g3 .o))))
noncomputable def J1 (n : Nat) (m : Nat) : (List (D_api_Rule)) × (List (D_api_Rule)) × Int × Unit → Option R := jL (X n) n T (bodyOf Tryz.f47) (endK ia io) g1 [1, 1, 0, 1, 0] [] m
noncomputable def J2 (n m1 : Nat) : (List (D_api_Rule)) × (List (D_api_Rule)) × Int × Unit → Option R := jR (X n) n T (bodyOf Tryz.f47) (endK ia io) g2 [1, 1, 0, 1, 0, 0, 1, 1] [m1]
noncomputable def J3 (n : Nat) : Unit → Option R := jR (X n) n T (bodyOf Tryz.f47) (endK ia io) g3 [1, 1, 1] []
noncomputable def f (n : Nat) (a : List (D_api_Rule)) (b : List (D_api_Rule)) : Option R := fRun (X n) n T Tryz.f47 ia io (a, b, ())
theorem e0 (n : Nat) (a : List (D_api_Rule)) (b : List (D_api_Rule)) : f n a b =
  bIf ((hide (((a.length : Nat) : Int) != ((b.length : Nat) : Int)))) (
    some (false, ())
    ) (
    J1 n n (a, b, 0, ())
    ) := (hideF_eq _).trans (by kernel_rfl)
theorem e1 (n m : Nat) (a : List (D_api_Rule)) (b : List (D_api_Rule)) (i : Int) : J1 n (m + 1) (a, b, i, ()) =
  bIf ((hide (decide (i < ((a.length : Nat) : Int))))) (
    gIf (0 ≤ i ∧ i < ((a.length : Nat) : Int)) (
      gIf (0 ≤ i ∧ i < ((b.length : Nat) : Int)) (
        bIf ((hide (!eqS ((List.getD a i.toNat (Va.dflt T_api_Rule)).1) ((List.getD b i.toNat (Va.dflt T_api_Rule)).1)))) (
          some (false, ())
          ) (
          gIf (0 ≤ i ∧ i < ((a.length : Nat) : Int)) (
            gIf (0 ≤ i ∧ i < ((b.length : Nat) : Int)) (
              bnd (F_ref08_Same.f n (((List.getD a i.toNat (Va.dflt T_api_Rule)).2).1) (((List.getD b i.toNat (Va.dflt T_api_Rule)).2).1)) fun u1 =>
              bIf ((!u1.1)) (
                some (false, ())
                ) (
                gIf (0 ≤ i ∧ i < ((a.length : Nat) : Int)) (
                  gIf (0 ≤ i ∧ i < ((b.length : Nat) : Int)) (
                    bIf ((hide (((((List.getD a i.toNat (Va.dflt T_api_Rule)).2).2).1) != ((((List.getD b i.toNat (Va.dflt T_api_Rule)).2).2).1)))) (
                      some (false, ())
                      ) (
                      gIf (0 ≤ i ∧ i < ((a.length : Nat) : Int)) (
                        gIf (0 ≤ i ∧ i < ((b.length : Nat) : Int)) (
                          bIf ((hide ((((((List.getD a i.toNat (Va.dflt T_api_Rule)).2).2).2).1) != (((((List.getD b i.toNat (Va.dflt T_api_Rule)).2).2).2).1)))) (
                            some (false, ())
                            ) (
                            gIf (0 ≤ i ∧ i < ((a.length : Nat) : Int)) (
                              gIf (0 ≤ i ∧ i < ((b.length : Nat) : Int)) (
                                bIf ((hide (!(((((((List.getD a i.toNat (Va.dflt T_api_Rule)).2).2).2).2).1) == ((((((List.getD b i.toNat (Va.dflt T_api_Rule)).2).2).2).2).1))))) (
                                  some (false, ())
                                  ) (
                                  J2 n m (a, b, i, ())
                                  )
                                )
                              )
                            )
                          )
                        )
                      )
                    )
                  )
                )
              )
            )
          )
        )
      )
    ) (
    J3 n (())
    ) := (hideF_eq _).trans (by kernel_rfl)
theorem e2 (n m1 : Nat) (a : List (D_api_Rule)) (b : List (D_api_Rule)) (i : Int) : J2 n m1 (a, b, i, ()) =
  J1 n m1 (a, b, (IntKind.i64.wrap (i + (1 : Int))), ()) := (hideF_eq _).trans (by kernel_rfl)
theorem e3 (n : Nat) : J3 n (()) =
  some (true, ()) := (hideF_eq _).trans (by kernel_rfl)
theorem phi (n : Nat) : ∀ e ∈ (X n).c.Φ, EntryOk Tryz.prog e := allE_cons (mkEntry_ok (F_ref08_Same.ok n)) (allE_nil)
theorem ok (n : Nat) : FnOk Tryz.prog 47 ia io (fRun (X n) n T Tryz.f47 ia io) := tree_ok mixed tabIs (phi n) Tryz.func47 (by kernel_rfl) rfl
noncomputable def en (n : Nat) : Entry := mkEntry 47 ia io (fRun (X n) n T Tryz.f47 ia io)
end F_ref14_SameRules
end Go.Proofs.YtdlgambebmchmaaGreatDoor


namespace Go.Proofs.YtdlgambebmchmaaGreatDoor
open Go Go.Va Go.Proofs
/- slices.Equal[[]chartulary/api.Grant,chartulary/api.Grant] -/
namespace F_slices_Equal_Grant
abbrev ia : List Ai := [.dat (.slice T_api_Grant), .dat (.slice T_api_Grant)]
abbrev io : List (Nat × Oi) := [(4, .dat .bool)]
abbrev R : Type := DOut ia io
noncomputable def X (n : Nat) : Ctx := ⟨⟨tab, [], 0, []⟩, 26, bnOf 0 ia⟩
abbrev g1 : List Si := [.dat 0 (.slice T_api_Grant), .dat 1 (.slice T_api_Grant), .dat 12 (.int .i64), .dat 13 (.int .i64)]
abbrev g2 : List Si := []
noncomputable def T : CT := (.s .o (.s .o (.s (.s .o (.b (.l g1 .o))) (.r g2 .o))))
noncomputable def J1 (n : Nat) (m : Nat) : (List (D_api_Grant)) × (List (D_api_Grant)) × Int × Int × Unit → Option R := jL (X n) n T (bodyOf Tryz.f104) (endK ia io) g1 [1, 1, 0, 1, 0] [] m
noncomputable def J2 (n : Nat) : Unit → Option R := jR (X n) n T (bodyOf Tryz.f104) (endK ia io) g2 [1, 1, 1] []
noncomputable def f (n : Nat) (s1 : List (D_api_Grant)) (s2 : List (D_api_Grant)) : Option R := fRun (X n) n T Tryz.f104 ia io (s1, s2, ())
theorem e0 (n : Nat) (s1 : List (D_api_Grant)) (s2 : List (D_api_Grant)) : f n s1 s2 =
  bIf ((hide (((s1.length : Nat) : Int) != ((s2.length : Nat) : Int)))) (
    some (false, ())
    ) (
    J1 n n (s1, s2, ((s1.length : Nat) : Int), 0, ())
    ) := (hideF_eq _).trans (by kernel_rfl)
theorem e1 (n m : Nat) (s1 : List (D_api_Grant)) (s2 : List (D_api_Grant)) (t12 : Int) (t13 : Int) : J1 n (m + 1) (s1, s2, t12, t13, ()) =
  bIf ((hide (decide (t13 < t12)))) (
    gIf (0 ≤ t13 ∧ t13 < ((s1.length : Nat) : Int)) (
      gIf (0 ≤ t13 ∧ t13 < ((s2.length : Nat) : Int)) (
        bIf ((hide (!(eqD T_api_Grant (List.getD s1 t13.toNat (Va.dflt T_api_Grant)) (List.getD s2 t13.toNat (Va.dflt T_api_Grant)))))) (
          some (false, ())
          ) (
          J1 n m (s1, s2, t12, (IntKind.i64.wrap (t13 + (1 : Int))), ())
          )
        )
      )
    ) (
    J2 n (())
    ) := (hideF_eq _).trans (by kernel_rfl)
theorem e2 (n : Nat) : J2 n (()) =
  some (true, ()) := (hideF_eq _).trans (by kernel_rfl)
theorem phi (n : Nat) : ∀ e ∈ (X n).c.Φ, EntryOk Tryz.prog e := allE_nil
theorem ok (n : Nat) : FnOk Tryz.prog 104 ia io (fRun (X n) n T Tryz.f104 ia io) := tree_ok mixed tabIs (phi n) Tryz.func104 (by kernel_rfl) rfl
noncomputable def en (n : Nat) : Entry := mkEntry 104 ia io (fRun (X n) n T Tryz.f104 ia io)
end F_slices_Equal_Grant
end Go.Proofs.YtdlgambebmchmaaGreatDoor

namespace Go.Proofs.YtdlgambebmchmaaGreatDoor
open Go Go.Proofs
namespace Aw
noncomputable def ft : FuncId → Option Func
  | 9 => some Tryz.f9
  | 15 => some Tryz.f15
  | 10 => some Tryz.f10
  | 20 => some Tryz.f20
  | 13 => some Tryz.f13
  | 29 => some Tryz.f29
  | 30 => some Tryz.f30
  | 19 => some Tryz.f19
  | 54 => some Tryz.f54
  | 33 => some Tryz.f33
  | 34 => some Tryz.f34
  | 35 => some Tryz.f35
  | 37 => some Tryz.f37
  | 36 => some Tryz.f36
  | 46 => some Tryz.f46
  | 60 => some Tryz.f60
  | 61 => some Tryz.f61
  | 45 => some Tryz.f45
  | 62 => some Tryz.f62
  | 63 => some Tryz.f63
  | 65 => some Tryz.f65
  | 64 => some Tryz.f64
  | 66 => some Tryz.f66
  | 67 => some Tryz.f67
  | 68 => some Tryz.f68
  | 69 => some Tryz.f69
  | 16 => some Tryz.f16
  | 52 => some Tryz.f52
  | 53 => some Tryz.f53
  | 110 => some Tryz.f110
  | 111 => some Tryz.f111
  | 112 => some Tryz.f112
  | 78 => some Tryz.f78
  | 81 => some Tryz.f81
  | 82 => some Tryz.f82
  | 83 => some Tryz.f83
  | 84 => some Tryz.f84
  | 85 => some Tryz.f85
  | 86 => some Tryz.f86
  | 87 => some Tryz.f87
  | 89 => some Tryz.f89
  | 88 => some Tryz.f88
  | 91 => some Tryz.f91
  | 90 => some Tryz.f90
  | 80 => some Tryz.f80
  | 79 => some Tryz.f79
  | 101 => some Tryz.f101
  | 102 => some Tryz.f102
  | 117 => some Tryz.f117
  | 118 => some Tryz.f118
  | 119 => some Tryz.f119
  | 100 => some Tryz.f100
  | 120 => some Tryz.f120
  | 121 => some Tryz.f121
  | 122 => some Tryz.f122
  | 123 => some Tryz.f123
  | 124 => some Tryz.f124
  | 125 => some Tryz.f125
  | 126 => some Tryz.f126
  | 127 => some Tryz.f127
  | 128 => some Tryz.f128
  | 129 => some Tryz.f129
  | 130 => some Tryz.f130
  | 131 => some Tryz.f131
  | 132 => some Tryz.f132
  | 133 => some Tryz.f133
  | 134 => some Tryz.f134
  | 135 => some Tryz.f135
  | 136 => some Tryz.f136
  | 109 => some Tryz.f109
  | 158 => some Tryz.f158
  | 174 => some Tryz.f174
  | 176 => some Tryz.f176
  | 175 => some Tryz.f175
  | 143 => some Tryz.f143
  | 145 => some Tryz.f145
  | 146 => some Tryz.f146
  | 147 => some Tryz.f147
  | 148 => some Tryz.f148
  | 150 => some Tryz.f150
  | 151 => some Tryz.f151
  | 116 => some Tryz.f116
  | 155 => some Tryz.f155
  | 154 => some Tryz.f154
  | 153 => some Tryz.f153
  | 159 => some Tryz.f159
  | 160 => some Tryz.f160
  | 162 => some Tryz.f162
  | 161 => some Tryz.f161
  | 157 => some Tryz.f157
  | 156 => some Tryz.f156
  | 144 => some Tryz.f144
  | 165 => some Tryz.f165
  | 167 => some Tryz.f167
  | 166 => some Tryz.f166
  | 188 => some Tryz.f188
  | 189 => some Tryz.f189
  | 190 => some Tryz.f190
  | 163 => some Tryz.f163
  | 171 => some Tryz.f171
  | 172 => some Tryz.f172
  | 103 => some Tryz.f103
  | 104 => some Tryz.f104
  | 192 => some Tryz.f192
  | 194 => some Tryz.f194
  | 193 => some Tryz.f193
  | 196 => some Tryz.f196
  | 197 => some Tryz.f197
  | 198 => some Tryz.f198
  | 199 => some Tryz.f199
  | 200 => some Tryz.f200
  | 202 => some Tryz.f202
  | 203 => some Tryz.f203
  | 208 => some Tryz.f208
  | 204 => some Tryz.f204
  | 205 => some Tryz.f205
  | 206 => some Tryz.f206
  | 207 => some Tryz.f207
  | 149 => some Tryz.f149
  | 209 => some Tryz.f209
  | 152 => some Tryz.f152
  | 187 => some Tryz.f187
  | 211 => some Tryz.f211
  | 213 => some Tryz.f213
  | 214 => some Tryz.f214
  | 212 => some Tryz.f212
  | 215 => some Tryz.f215
  | 168 => some Tryz.f168
  | 169 => some Tryz.f169
  | 221 => some Tryz.f221
  | 222 => some Tryz.f222
  | 223 => some Tryz.f223
  | 224 => some Tryz.f224
  | 234 => some Tryz.f234
  | 225 => some Tryz.f225
  | 227 => some Tryz.f227
  | 226 => some Tryz.f226
  | 228 => some Tryz.f228
  | 230 => some Tryz.f230
  | 229 => some Tryz.f229
  | 232 => some Tryz.f232
  | 231 => some Tryz.f231
  | 233 => some Tryz.f233
  | 210 => some Tryz.f210
  | 236 => some Tryz.f236
  | 237 => some Tryz.f237
  | 238 => some Tryz.f238
  | 247 => some Tryz.f247
  | 239 => some Tryz.f239
  | 240 => some Tryz.f240
  | 241 => some Tryz.f241
  | 242 => some Tryz.f242
  | 245 => some Tryz.f245
  | 244 => some Tryz.f244
  | 243 => some Tryz.f243
  | 248 => some Tryz.f248
  | 250 => some Tryz.f250
  | 253 => some Tryz.f253
  | 252 => some Tryz.f252
  | 251 => some Tryz.f251
  | 255 => some Tryz.f255
  | 256 => some Tryz.f256
  | 257 => some Tryz.f257
  | 258 => some Tryz.f258
  | _ => none
theorem ftOk : Co.FtOk Tryz.prog ft := by
  intro g fn h
  unfold ft at h
  split at h
  · injection h with h; subst h; exact ⟨Tryz.func9, by kernel_rfl⟩
  · injection h with h; subst h; exact ⟨Tryz.func15, by kernel_rfl⟩
  · injection h with h; subst h; exact ⟨Tryz.func10, by kernel_rfl⟩
  · injection h with h; subst h; exact ⟨Tryz.func20, by kernel_rfl⟩
  · injection h with h; subst h; exact ⟨Tryz.func13, by kernel_rfl⟩
  · injection h with h; subst h; exact ⟨Tryz.func29, by kernel_rfl⟩
  · injection h with h; subst h; exact ⟨Tryz.func30, by kernel_rfl⟩
  · injection h with h; subst h; exact ⟨Tryz.func19, by kernel_rfl⟩
  · injection h with h; subst h; exact ⟨Tryz.func54, by kernel_rfl⟩
  · injection h with h; subst h; exact ⟨Tryz.func33, by kernel_rfl⟩
  · injection h with h; subst h; exact ⟨Tryz.func34, by kernel_rfl⟩
  · injection h with h; subst h; exact ⟨Tryz.func35, by kernel_rfl⟩
  · injection h with h; subst h; exact ⟨Tryz.func37, by kernel_rfl⟩
  · injection h with h; subst h; exact ⟨Tryz.func36, by kernel_rfl⟩
  · injection h with h; subst h; exact ⟨Tryz.func46, by kernel_rfl⟩
  · injection h with h; subst h; exact ⟨Tryz.func60, by kernel_rfl⟩
  · injection h with h; subst h; exact ⟨Tryz.func61, by kernel_rfl⟩
  · injection h with h; subst h; exact ⟨Tryz.func45, by kernel_rfl⟩
  · injection h with h; subst h; exact ⟨Tryz.func62, by kernel_rfl⟩
  · injection h with h; subst h; exact ⟨Tryz.func63, by kernel_rfl⟩
  · injection h with h; subst h; exact ⟨Tryz.func65, by kernel_rfl⟩
  · injection h with h; subst h; exact ⟨Tryz.func64, by kernel_rfl⟩
  · injection h with h; subst h; exact ⟨Tryz.func66, by kernel_rfl⟩
  · injection h with h; subst h; exact ⟨Tryz.func67, by kernel_rfl⟩
  · injection h with h; subst h; exact ⟨Tryz.func68, by kernel_rfl⟩
  · injection h with h; subst h; exact ⟨Tryz.func69, by kernel_rfl⟩
  · injection h with h; subst h; exact ⟨Tryz.func16, by kernel_rfl⟩
  · injection h with h; subst h; exact ⟨Tryz.func52, by kernel_rfl⟩
  · injection h with h; subst h; exact ⟨Tryz.func53, by kernel_rfl⟩
  · injection h with h; subst h; exact ⟨Tryz.func110, by kernel_rfl⟩
  · injection h with h; subst h; exact ⟨Tryz.func111, by kernel_rfl⟩
  · injection h with h; subst h; exact ⟨Tryz.func112, by kernel_rfl⟩
  · injection h with h; subst h; exact ⟨Tryz.func78, by kernel_rfl⟩
  · injection h with h; subst h; exact ⟨Tryz.func81, by kernel_rfl⟩
  · injection h with h; subst h; exact ⟨Tryz.func82, by kernel_rfl⟩
  · injection h with h; subst h; exact ⟨Tryz.func83, by kernel_rfl⟩
  · injection h with h; subst h; exact ⟨Tryz.func84, by kernel_rfl⟩
  · injection h with h; subst h; exact ⟨Tryz.func85, by kernel_rfl⟩
  · injection h with h; subst h; exact ⟨Tryz.func86, by kernel_rfl⟩
  · injection h with h; subst h; exact ⟨Tryz.func87, by kernel_rfl⟩
  · injection h with h; subst h; exact ⟨Tryz.func89, by kernel_rfl⟩
  · injection h with h; subst h; exact ⟨Tryz.func88, by kernel_rfl⟩
  · injection h with h; subst h; exact ⟨Tryz.func91, by kernel_rfl⟩
  · injection h with h; subst h; exact ⟨Tryz.func90, by kernel_rfl⟩
  · injection h with h; subst h; exact ⟨Tryz.func80, by kernel_rfl⟩
  · injection h with h; subst h; exact ⟨Tryz.func79, by kernel_rfl⟩
  · injection h with h; subst h; exact ⟨Tryz.func101, by kernel_rfl⟩
  · injection h with h; subst h; exact ⟨Tryz.func102, by kernel_rfl⟩
  · injection h with h; subst h; exact ⟨Tryz.func117, by kernel_rfl⟩
  · injection h with h; subst h; exact ⟨Tryz.func118, by kernel_rfl⟩
  · injection h with h; subst h; exact ⟨Tryz.func119, by kernel_rfl⟩
  · injection h with h; subst h; exact ⟨Tryz.func100, by kernel_rfl⟩
  · injection h with h; subst h; exact ⟨Tryz.func120, by kernel_rfl⟩
  · injection h with h; subst h; exact ⟨Tryz.func121, by kernel_rfl⟩
  · injection h with h; subst h; exact ⟨Tryz.func122, by kernel_rfl⟩
  · injection h with h; subst h; exact ⟨Tryz.func123, by kernel_rfl⟩
  · injection h with h; subst h; exact ⟨Tryz.func124, by kernel_rfl⟩
  · injection h with h; subst h; exact ⟨Tryz.func125, by kernel_rfl⟩
  · injection h with h; subst h; exact ⟨Tryz.func126, by kernel_rfl⟩
  · injection h with h; subst h; exact ⟨Tryz.func127, by kernel_rfl⟩
  · injection h with h; subst h; exact ⟨Tryz.func128, by kernel_rfl⟩
  · injection h with h; subst h; exact ⟨Tryz.func129, by kernel_rfl⟩
  · injection h with h; subst h; exact ⟨Tryz.func130, by kernel_rfl⟩
  · injection h with h; subst h; exact ⟨Tryz.func131, by kernel_rfl⟩
  · injection h with h; subst h; exact ⟨Tryz.func132, by kernel_rfl⟩
  · injection h with h; subst h; exact ⟨Tryz.func133, by kernel_rfl⟩
  · injection h with h; subst h; exact ⟨Tryz.func134, by kernel_rfl⟩
  · injection h with h; subst h; exact ⟨Tryz.func135, by kernel_rfl⟩
  · injection h with h; subst h; exact ⟨Tryz.func136, by kernel_rfl⟩
  · injection h with h; subst h; exact ⟨Tryz.func109, by kernel_rfl⟩
  · injection h with h; subst h; exact ⟨Tryz.func158, by kernel_rfl⟩
  · injection h with h; subst h; exact ⟨Tryz.func174, by kernel_rfl⟩
  · injection h with h; subst h; exact ⟨Tryz.func176, by kernel_rfl⟩
  · injection h with h; subst h; exact ⟨Tryz.func175, by kernel_rfl⟩
  · injection h with h; subst h; exact ⟨Tryz.func143, by kernel_rfl⟩
  · injection h with h; subst h; exact ⟨Tryz.func145, by kernel_rfl⟩
  · injection h with h; subst h; exact ⟨Tryz.func146, by kernel_rfl⟩
  · injection h with h; subst h; exact ⟨Tryz.func147, by kernel_rfl⟩
  · injection h with h; subst h; exact ⟨Tryz.func148, by kernel_rfl⟩
  · injection h with h; subst h; exact ⟨Tryz.func150, by kernel_rfl⟩
  · injection h with h; subst h; exact ⟨Tryz.func151, by kernel_rfl⟩
  · injection h with h; subst h; exact ⟨Tryz.func116, by kernel_rfl⟩
  · injection h with h; subst h; exact ⟨Tryz.func155, by kernel_rfl⟩
  · injection h with h; subst h; exact ⟨Tryz.func154, by kernel_rfl⟩
  · injection h with h; subst h; exact ⟨Tryz.func153, by kernel_rfl⟩
  · injection h with h; subst h; exact ⟨Tryz.func159, by kernel_rfl⟩
  · injection h with h; subst h; exact ⟨Tryz.func160, by kernel_rfl⟩
  · injection h with h; subst h; exact ⟨Tryz.func162, by kernel_rfl⟩
  · injection h with h; subst h; exact ⟨Tryz.func161, by kernel_rfl⟩
  · injection h with h; subst h; exact ⟨Tryz.func157, by kernel_rfl⟩
  · injection h with h; subst h; exact ⟨Tryz.func156, by kernel_rfl⟩
  · injection h with h; subst h; exact ⟨Tryz.func144, by kernel_rfl⟩
  · injection h with h; subst h; exact ⟨Tryz.func165, by kernel_rfl⟩
  · injection h with h; subst h; exact ⟨Tryz.func167, by kernel_rfl⟩
  · injection h with h; subst h; exact ⟨Tryz.func166, by kernel_rfl⟩
  · injection h with h; subst h; exact ⟨Tryz.func188, by kernel_rfl⟩
  · injection h with h; subst h; exact ⟨Tryz.func189, by kernel_rfl⟩
  · injection h with h; subst h; exact ⟨Tryz.func190, by kernel_rfl⟩
  · injection h with h; subst h; exact ⟨Tryz.func163, by kernel_rfl⟩
  · injection h with h; subst h; exact ⟨Tryz.func171, by kernel_rfl⟩
  · injection h with h; subst h; exact ⟨Tryz.func172, by kernel_rfl⟩
  · injection h with h; subst h; exact ⟨Tryz.func103, by kernel_rfl⟩
  · injection h with h; subst h; exact ⟨Tryz.func104, by kernel_rfl⟩
  · injection h with h; subst h; exact ⟨Tryz.func192, by kernel_rfl⟩
  · injection h with h; subst h; exact ⟨Tryz.func194, by kernel_rfl⟩
  · injection h with h; subst h; exact ⟨Tryz.func193, by kernel_rfl⟩
  · injection h with h; subst h; exact ⟨Tryz.func196, by kernel_rfl⟩
  · injection h with h; subst h; exact ⟨Tryz.func197, by kernel_rfl⟩
  · injection h with h; subst h; exact ⟨Tryz.func198, by kernel_rfl⟩
  · injection h with h; subst h; exact ⟨Tryz.func199, by kernel_rfl⟩
  · injection h with h; subst h; exact ⟨Tryz.func200, by kernel_rfl⟩
  · injection h with h; subst h; exact ⟨Tryz.func202, by kernel_rfl⟩
  · injection h with h; subst h; exact ⟨Tryz.func203, by kernel_rfl⟩
  · injection h with h; subst h; exact ⟨Tryz.func208, by kernel_rfl⟩
  · injection h with h; subst h; exact ⟨Tryz.func204, by kernel_rfl⟩
  · injection h with h; subst h; exact ⟨Tryz.func205, by kernel_rfl⟩
  · injection h with h; subst h; exact ⟨Tryz.func206, by kernel_rfl⟩
  · injection h with h; subst h; exact ⟨Tryz.func207, by kernel_rfl⟩
  · injection h with h; subst h; exact ⟨Tryz.func149, by kernel_rfl⟩
  · injection h with h; subst h; exact ⟨Tryz.func209, by kernel_rfl⟩
  · injection h with h; subst h; exact ⟨Tryz.func152, by kernel_rfl⟩
  · injection h with h; subst h; exact ⟨Tryz.func187, by kernel_rfl⟩
  · injection h with h; subst h; exact ⟨Tryz.func211, by kernel_rfl⟩
  · injection h with h; subst h; exact ⟨Tryz.func213, by kernel_rfl⟩
  · injection h with h; subst h; exact ⟨Tryz.func214, by kernel_rfl⟩
  · injection h with h; subst h; exact ⟨Tryz.func212, by kernel_rfl⟩
  · injection h with h; subst h; exact ⟨Tryz.func215, by kernel_rfl⟩
  · injection h with h; subst h; exact ⟨Tryz.func168, by kernel_rfl⟩
  · injection h with h; subst h; exact ⟨Tryz.func169, by kernel_rfl⟩
  · injection h with h; subst h; exact ⟨Tryz.func221, by kernel_rfl⟩
  · injection h with h; subst h; exact ⟨Tryz.func222, by kernel_rfl⟩
  · injection h with h; subst h; exact ⟨Tryz.func223, by kernel_rfl⟩
  · injection h with h; subst h; exact ⟨Tryz.func224, by kernel_rfl⟩
  · injection h with h; subst h; exact ⟨Tryz.func234, by kernel_rfl⟩
  · injection h with h; subst h; exact ⟨Tryz.func225, by kernel_rfl⟩
  · injection h with h; subst h; exact ⟨Tryz.func227, by kernel_rfl⟩
  · injection h with h; subst h; exact ⟨Tryz.func226, by kernel_rfl⟩
  · injection h with h; subst h; exact ⟨Tryz.func228, by kernel_rfl⟩
  · injection h with h; subst h; exact ⟨Tryz.func230, by kernel_rfl⟩
  · injection h with h; subst h; exact ⟨Tryz.func229, by kernel_rfl⟩
  · injection h with h; subst h; exact ⟨Tryz.func232, by kernel_rfl⟩
  · injection h with h; subst h; exact ⟨Tryz.func231, by kernel_rfl⟩
  · injection h with h; subst h; exact ⟨Tryz.func233, by kernel_rfl⟩
  · injection h with h; subst h; exact ⟨Tryz.func210, by kernel_rfl⟩
  · injection h with h; subst h; exact ⟨Tryz.func236, by kernel_rfl⟩
  · injection h with h; subst h; exact ⟨Tryz.func237, by kernel_rfl⟩
  · injection h with h; subst h; exact ⟨Tryz.func238, by kernel_rfl⟩
  · injection h with h; subst h; exact ⟨Tryz.func247, by kernel_rfl⟩
  · injection h with h; subst h; exact ⟨Tryz.func239, by kernel_rfl⟩
  · injection h with h; subst h; exact ⟨Tryz.func240, by kernel_rfl⟩
  · injection h with h; subst h; exact ⟨Tryz.func241, by kernel_rfl⟩
  · injection h with h; subst h; exact ⟨Tryz.func242, by kernel_rfl⟩
  · injection h with h; subst h; exact ⟨Tryz.func245, by kernel_rfl⟩
  · injection h with h; subst h; exact ⟨Tryz.func244, by kernel_rfl⟩
  · injection h with h; subst h; exact ⟨Tryz.func243, by kernel_rfl⟩
  · injection h with h; subst h; exact ⟨Tryz.func248, by kernel_rfl⟩
  · injection h with h; subst h; exact ⟨Tryz.func250, by kernel_rfl⟩
  · injection h with h; subst h; exact ⟨Tryz.func253, by kernel_rfl⟩
  · injection h with h; subst h; exact ⟨Tryz.func252, by kernel_rfl⟩
  · injection h with h; subst h; exact ⟨Tryz.func251, by kernel_rfl⟩
  · injection h with h; subst h; exact ⟨Tryz.func255, by kernel_rfl⟩
  · injection h with h; subst h; exact ⟨Tryz.func256, by kernel_rfl⟩
  · injection h with h; subst h; exact ⟨Tryz.func257, by kernel_rfl⟩
  · injection h with h; subst h; exact ⟨Tryz.func258, by kernel_rfl⟩
  · exact nomatch h
noncomputable def xt : FuncId → Option (Array Value → Sem Value)
  | 246 => some Extern.BytealgIndexByte.indexByte
  | 249 => some Extern.BytealgCount.count
  | _ => none
theorem xtOk : Co.XtOk Tryz.prog xt := by
  intro g e h
  unfold xt at h
  split at h
  · injection h with h; subst h; exact ⟨Tryz.f246, Tryz.func246, by kernel_rfl, by kernel_rfl, by kernel_rfl, by kernel_rfl⟩
  · injection h with h; subst h; exact ⟨Tryz.f249, Tryz.func249, by kernel_rfl, by kernel_rfl, by kernel_rfl, by kernel_rfl⟩
  · exact nomatch h
end Aw
end Go.Proofs.YtdlgambebmchmaaGreatDoor

namespace Go.Proofs.YtdlgambebmchmaaGreatDoor
open Go Go.Proofs
namespace Aw
theorem runs (w : World) : Calls Tryz.prog 9 #[] w fun en w' => en = .returned (.bool true) ∧ Va.Grow w w' :=
  Co.run_says mixed tabIs xtOk ftOk (N := 1000) (d := 60) (by kernel_rfl) w
end Aw
end Go.Proofs.YtdlgambebmchmaaGreatDoor


namespace Go.Proofs.YtdlgambebmchmaaGreatDoor
open Go Go.Va Go.Proofs
namespace F_law15_awake
abbrev ia : List Ai := []
abbrev io : List (Nat × Oi) := [(0, .dat .bool)]
noncomputable def f : Option (DOut ia io) := some (true, ())
theorem ok : FnOk Tryz.prog 9 ia io (fun _ => f) := by
  refine leaf_ok ⟨Tryz.f9, Tryz.func9, by kernel_rfl, by kernel_rfl⟩ rfl (fun _ => rfl) (fun _ => rfl) (fun v u h E w vals hgl hc => ?_)
  have hc : vals = [] := hc
  subst hc
  unfold f at h
  injection h with h
  subst h
  refine (Aw.runs w).mono ?_
  rintro en w' ⟨rfl, hb⟩
  exact ⟨_, rfl, hb, fun E => V_bool.2 rfl⟩
noncomputable def en : Entry := mkEntry 9 ia io (fun _ => f)
end F_law15_awake
end Go.Proofs.YtdlgambebmchmaaGreatDoor


namespace Go.Proofs.YtdlgambebmchmaaGreatDoor
open Go Go.Va Go.Proofs
/- chartulary/chartularylaw15.big -/
namespace F_law15_big
abbrev ia : List Ai := [.dat T_api_State]
abbrev io : List (Nat × Oi) := [(2, .dat .bool)]
abbrev R : Type := DOut ia io
noncomputable def X (n : Nat) : Ctx := ⟨⟨tab, [], 0, []⟩, 67, bnOf 0 ia⟩
abbrev g1 : List Si := [.ref 1 1 T_api_State, .dat 3 (.int .i64), .dat 4 (.int .i64), .box 1 (.d T_api_State)]
abbrev g2 : List Si := [.ref 1 1 T_api_State, .dat 3 (.int .i64), .dat 4 (.int .i64), .box 1 (.d T_api_State)]
abbrev g3 : List Si := [.ref 1 1 T_api_State, .dat 3 (.int .i64), .dat 4 (.int .i64), .dat 5 (.int .i64), .box 1 (.d T_api_State)]
abbrev g4 : List Si := [.ref 1 1 T_api_State, .dat 3 (.int .i64), .dat 4 (.int .i64), .dat 5 (.int .i64), .box 1 (.d T_api_State)]
abbrev g5 : List Si := [.ref 1 1 T_api_State, .dat 3 (.int .i64), .dat 4 (.int .i64), .box 1 (.d T_api_State)]
abbrev g6 : List Si := [.dat 3 (.int .i64)]
noncomputable def T : CT := (.s .o (.s .o (.s (.s .o (.b (.l g1 (.s .o (.r g2 (.s (.b (.s .o (.s .o (.b (.l g3 (.s .o (.r g4 .o))))))) (.r g5 .o))))))) (.r g6 .o))))
noncomputable def J1 (n : Nat) (m : Nat) : Int × Int × D_api_State × Unit → Option R := jL (X n) n T (bodyOf Tryz.f8) (endK ia io) g1 [1, 1, 0, 1, 0] [] m
noncomputable def J2 (n m1 : Nat) : Int × Int × D_api_State × Unit → Option R := jR (X n) n T (bodyOf Tryz.f8) (endK ia io) g2 [1, 1, 0, 1, 0, 0, 1] [m1]
noncomputable def J3 (n m1 : Nat) (m : Nat) : Int × Int × Int × D_api_State × Unit → Option R := jL (X n) n T (bodyOf Tryz.f8) (endK ia io) g3 [1, 1, 0, 1, 0, 0, 1, 0, 0, 1, 1, 0] [m1] m
noncomputable def J4 (n m1 m3 : Nat) : Int × Int × Int × D_api_State × Unit → Option R := jR (X n) n T (bodyOf Tryz.f8) (endK ia io) g4 [1, 1, 0, 1, 0, 0, 1, 0, 0, 1, 1, 0, 0, 1] [m1, m3]
noncomputable def J5 (n m1 : Nat) : Int × Int × D_api_State × Unit → Option R := jR (X n) n T (bodyOf Tryz.f8) (endK ia io) g5 [1, 1, 0, 1, 0, 0, 1, 1] [m1]
noncomputable def J6 (n : Nat) : Int × Unit → Option R := jR (X n) n T (bodyOf Tryz.f8) (endK ia io) g6 [1, 1, 1] []
noncomputable def f (n : Nat) (s_ : D_api_State) : Option R := fRun (X n) n T Tryz.f8 ia io (s_, ())
theorem e0 (n : Nat) (s_ : D_api_State) : f n s_ =
  J1 n n (((s_.2.2.2.1.length : Nat) : Int), 0, s_, ()) := (hideF_eq _).trans (by kernel_rfl)
theorem e1 (n m : Nat) (n_ : Int) (i : Int) (s_ : D_api_State) : J1 n (m + 1) (n_, i, s_, ()) =
  bIf ((hide (decide (i < ((s_.2.2.2.1.length : Nat) : Int))))) (
    bIf ((hide (decide (n_ < (400 : Int))))) (
      J2 n m (n_, i, s_, ())
      ) (
      J6 n (n_, ())
      )
    ) (
    J6 n (n_, ())
    ) := (hideF_eq _).trans (by kernel_rfl)
theorem e2 (n m1 : Nat) (n_ : Int) (i : Int) (s_ : D_api_State) : J2 n m1 (n_, i, s_, ()) =
  gIf (0 ≤ i ∧ i < ((s_.2.2.2.1.length : Nat) : Int)) (
    gIf (0 ≤ i ∧ i < ((s_.2.2.2.1.length : Nat) : Int)) (
      J3 n m1 n ((IntKind.i64.wrap (n_ + (IntKind.i64.wrap (((((((((List.getD s_.2.2.2.1 i.toNat (Va.dflt T_api_Bucket)).2).2).2).2).1).length : Nat) : Int) + (((((((((List.getD s_.2.2.2.1 i.toNat (Va.dflt T_api_Bucket)).2).2).2).2).2).1).length : Nat) : Int))))), i, 0, s_, ())
      )
    ) := (hideF_eq _).trans (by kernel_rfl)
theorem e3 (n m1 m : Nat) (n_ : Int) (i : Int) (k_ : Int) (s_ : D_api_State) : J3 n m1 (m + 1) (n_, i, k_, s_, ()) =
  gIf (0 ≤ i ∧ i < ((s_.2.2.2.1.length : Nat) : Int)) (
    bIf ((hide (decide (k_ < ((((((((List.getD s_.2.2.2.1 i.toNat (Va.dflt T_api_Bucket)).2).2).2).2).1).length : Nat) : Int))))) (
      bIf ((hide (decide (n_ < (400 : Int))))) (
        J4 n m1 m (n_, i, k_, s_, ())
        ) (
        J5 n m1 (n_, i, s_, ())
        )
      ) (
      J5 n m1 (n_, i, s_, ())
      )
    ) := (hideF_eq _).trans (by kernel_rfl)
theorem e4 (n m1 m3 : Nat) (n_ : Int) (i : Int) (k_ : Int) (s_ : D_api_State) : J4 n m1 m3 (n_, i, k_, s_, ()) =
  gIf (0 ≤ i ∧ i < ((s_.2.2.2.1.length : Nat) : Int)) (
    gIf (0 ≤ k_ ∧ k_ < ((((((((List.getD s_.2.2.2.1 i.toNat (Va.dflt T_api_Bucket)).2).2).2).2).1).length : Nat) : Int)) (
      J3 n m1 m3 ((IntKind.i64.wrap (n_ + (((((List.getD ((((((List.getD s_.2.2.2.1 i.toNat (Va.dflt T_api_Bucket)).2).2).2).2).1) k_.toNat (Va.dflt T_api_Object)).2).1).length : Nat) : Int))), i, (IntKind.i64.wrap (k_ + (1 : Int))), s_, ())
      )
    ) := (hideF_eq _).trans (by kernel_rfl)
theorem e5 (n m1 : Nat) (n_ : Int) (i : Int) (s_ : D_api_State) : J5 n m1 (n_, i, s_, ()) =
  J1 n m1 (n_, (IntKind.i64.wrap (i + (1 : Int))), s_, ()) := (hideF_eq _).trans (by kernel_rfl)
theorem e6 (n : Nat) (n_ : Int) : J6 n (n_, ()) =
  some ((hide (decide (n_ ≥ (400 : Int)))), ()) := (hideF_eq _).trans (by kernel_rfl)
theorem phi (n : Nat) : ∀ e ∈ (X n).c.Φ, EntryOk Tryz.prog e := allE_nil
theorem ok (n : Nat) : FnOk Tryz.prog 8 ia io (fRun (X n) n T Tryz.f8 ia io) := tree_ok mixed tabIs (phi n) Tryz.func8 (by kernel_rfl) rfl
noncomputable def en (n : Nat) : Entry := mkEntry 8 ia io (fRun (X n) n T Tryz.f8 ia io)
end F_law15_big
end Go.Proofs.YtdlgambebmchmaaGreatDoor


namespace Go.Proofs.YtdlgambebmchmaaGreatDoor
open Go Go.Va Go.Proofs
/- slices.EqualFunc[[]chartulary/api.Version,[]chartulary/api.Version,chartulary/api.Version,chartulary/api.Version] -/
namespace F_slices_EqualFunc_Version
abbrev ia : List Ai := [.dat (.slice T_api_Version), .dat (.slice T_api_Version), .fn (.fn 171) []]
abbrev io : List (Nat × Oi) := [(6, .dat .bool)]
abbrev R : Type := DOut ia io
noncomputable def X (n : Nat) : Ctx := ⟨⟨tab, [F_object_SameVersion.en n], 0, []⟩, 32, bnOf 0 ia⟩
abbrev g1 : List Si := [.dat 1 (.slice T_api_Version), .clo 2 (.fn 171) [], .dat 15 (.slice T_api_Version), .dat 16 (.int .i64), .dat 17 (.int .i64)]
abbrev g2 : List Si := []
noncomputable def T : CT := (.s .o (.s .o (.s (.s .o (.b (.l g1 .o))) (.r g2 .o))))
noncomputable def J1 (n : Nat) (m : Nat) : (List (D_api_Version)) × (List (D_api_Version)) × Int × Int × Unit → Option R := jL (X n) n T (bodyOf Tryz.f170) (endK ia io) g1 [1, 1, 0, 1, 0] [] m
noncomputable def J2 (n : Nat) : Unit → Option R := jR (X n) n T (bodyOf Tryz.f170) (endK ia io) g2 [1, 1, 1] []
noncomputable def f (n : Nat) (s1 : List (D_api_Version)) (s2 : List (D_api_Version)) : Option R := fRun (X n) n T Tryz.f170 ia io (s1, s2, ())
theorem e0 (n : Nat) (s1 : List (D_api_Version)) (s2 : List (D_api_Version)) : f n s1 s2 =
  bIf ((hide (((s1.length : Nat) : Int) != ((s2.length : Nat) : Int)))) (
    some (false, ())
    ) (
    J1 n n (s2, s1, ((s1.length : Nat) : Int), 0, ())
    ) := (hideF_eq _).trans (by kernel_rfl)
theorem e1 (n m : Nat) (s2 : List (D_api_Version)) (t15 : List (D_api_Version)) (t16 : Int) (t17 : Int) : J1 n (m + 1) (s2, t15, t16, t17, ()) =
  bIf ((hide (decide (t17 < t16)))) (
    gIf (0 ≤ t17 ∧ t17 < ((t15.length : Nat) : Int)) (
      gIf (0 ≤ t17 ∧ t17 < ((s2.length : Nat) : Int)) (
        bnd (F_object_SameVersion.f n (List.getD t15 t17.toNat (Va.dflt T_api_Version)) (List.getD s2 t17.toNat (Va.dflt T_api_Version))) fun u1 =>
        bIf ((!u1.1)) (
          some (false, ())
          ) (
          J1 n m (s2, t15, t16, (IntKind.i64.wrap (t17 + (1 : Int))), ())
          )
        )
      )
    ) (
    J2 n (())
    ) := (hideF_eq _).trans (by kernel_rfl)
theorem e2 (n : Nat) : J2 n (()) =
  some (true, ()) := (hideF_eq _).trans (by kernel_rfl)
theorem phi (n : Nat) : ∀ e ∈ (X n).c.Φ, EntryOk Tryz.prog e := allE_cons (mkEntry_ok (F_object_SameVersion.ok n)) (allE_nil)
theorem ok (n : Nat) : FnOk Tryz.prog 170 ia io (fRun (X n) n T Tryz.f170 ia io) := tree_ok mixed tabIs (phi n) Tryz.func170 (by kernel_rfl) rfl
noncomputable def en (n : Nat) : Entry := mkEntry 170 ia io (fRun (X n) n T Tryz.f170 ia io)
end F_slices_EqualFunc_Version
end Go.Proofs.YtdlgambebmchmaaGreatDoor


namespace Go.Proofs.YtdlgambebmchmaaGreatDoor
open Go Go.Va Go.Proofs
/- chartulary/object.Same -/
namespace F_object_Same
abbrev ia : List Ai := [.dat T_api_Object, .dat T_api_Object]
abbrev io : List (Nat × Oi) := [(4, .dat .bool)]
abbrev R : Type := DOut ia io
noncomputable def X (n : Nat) : Ctx := ⟨⟨tab, [F_slices_EqualFunc_Version.en n], 0, []⟩, 17, bnOf 0 ia⟩
noncomputable def T : CT := .o
noncomputable def f (n : Nat) (a : D_api_Object) (b : D_api_Object) : Option R := fRun (X n) n T Tryz.f106 ia io (a, b, ())
theorem e0 (n : Nat) (a : D_api_Object) (b : D_api_Object) : f n a b =
  bIf ((hide (eqS a.1 b.1))) (
    bnd (F_slices_EqualFunc_Version.f n a.2.1 b.2.1) fun u1 =>
    some (u1.1, ())
    ) (
    some (false, ())
    ) := (hideF_eq _).trans (by kernel_rfl)
theorem phi (n : Nat) : ∀ e ∈ (X n).c.Φ, EntryOk Tryz.prog e := allE_cons (mkEntry_ok (F_slices_EqualFunc_Version.ok n)) (allE_nil)
theorem ok (n : Nat) : FnOk Tryz.prog 106 ia io (fRun (X n) n T Tryz.f106 ia io) := tree_ok mixed tabIs (phi n) Tryz.func106 (by kernel_rfl) rfl
noncomputable def en (n : Nat) : Entry := mkEntry 106 ia io (fRun (X n) n T Tryz.f106 ia io)
end F_object_Same
end Go.Proofs.YtdlgambebmchmaaGreatDoor


namespace Go.Proofs.YtdlgambebmchmaaGreatDoor
open Go Go.Va Go.Proofs
/- slices.EqualFunc[[]chartulary/api.Object,[]chartulary/api.Object,chartulary/api.Object,chartulary/api.Object] -/
namespace F_slices_EqualFunc_Object
abbrev ia : List Ai := [.dat (.slice T_api_Object), .dat (.slice T_api_Object), .fn (.fn 106) []]
abbrev io : List (Nat × Oi) := [(6, .dat .bool)]
abbrev R : Type := DOut ia io
noncomputable def X (n : Nat) : Ctx := ⟨⟨tab, [F_object_Same.en n], 0, []⟩, 32, bnOf 0 ia⟩
abbrev g1 : List Si := [.dat 1 (.slice T_api_Object), .clo 2 (.fn 106) [], .dat 15 (.slice T_api_Object), .dat 16 (.int .i64), .dat 17 (.int .i64)]
abbrev g2 : List Si := []
noncomputable def T : CT := (.s .o (.s .o (.s (.s .o (.b (.l g1 .o))) (.r g2 .o))))
noncomputable def J1 (n : Nat) (m : Nat) : (List (D_api_Object)) × (List (D_api_Object)) × Int × Int × Unit → Option R := jL (X n) n T (bodyOf Tryz.f105) (endK ia io) g1 [1, 1, 0, 1, 0] [] m
noncomputable def J2 (n : Nat) : Unit → Option R := jR (X n) n T (bodyOf Tryz.f105) (endK ia io) g2 [1, 1, 1] []
noncomputable def f (n : Nat) (s1 : List (D_api_Object)) (s2 : List (D_api_Object)) : Option R := fRun (X n) n T Tryz.f105 ia io (s1, s2, ())
theorem e0 (n : Nat) (s1 : List (D_api_Object)) (s2 : List (D_api_Object)) : f n s1 s2 =
  bIf ((hide (((s1.length : Nat) : Int) != ((s2.length : Nat) : Int)))) (
    some (false, ())
    ) (
    J1 n n (s2, s1, ((s1.length : Nat) : Int), 0, ())
    ) := (hideF_eq _).trans (by kernel_rfl)
theorem e1 (n m : Nat) (s2 : List (D_api_Object)) (t15 : List (D_api_Object)) (t16 : Int) (t17 : Int) : J1 n (m + 1) (s2, t15, t16, t17, ()) =
  bIf ((hide (decide (t17 < t16)))) (
    gIf (0 ≤ t17 ∧ t17 < ((t15.length : Nat) : Int)) (
      gIf (0 ≤ t17 ∧ t17 < ((s2.length : Nat) : Int)) (
        bnd (F_object_Same.f n (List.getD t15 t17.toNat (Va.dflt T_api_Object)) (List.getD s2 t17.toNat (Va.dflt T_api_Object))) fun u1 =>
        bIf ((!u1.1)) (
          some (false, ())
          ) (
          J1 n m (s2, t15, t16, (IntKind.i64.wrap (t17 + (1 : Int))), ())
          )
        )
      )
    ) (
    J2 n (())
    ) := (hideF_eq _).trans (by kernel_rfl)
theorem e2 (n : Nat) : J2 n (()) =
  some (true, ()) := (hideF_eq _).trans (by kernel_rfl)
theorem phi (n : Nat) : ∀ e ∈ (X n).c.Φ, EntryOk Tryz.prog e := allE_cons (mkEntry_ok (F_object_Same.ok n)) (allE_nil)
theorem ok (n : Nat) : FnOk Tryz.prog 105 ia io (fRun (X n) n T Tryz.f105 ia io) := tree_ok mixed tabIs (phi n) Tryz.func105 (by kernel_rfl) rfl
noncomputable def en (n : Nat) : Entry := mkEntry 105 ia io (fRun (X n) n T Tryz.f105 ia io)
end F_slices_EqualFunc_Object
end Go.Proofs.YtdlgambebmchmaaGreatDoor


namespace Go.Proofs.YtdlgambebmchmaaGreatDoor
open Go Go.Va Go.Proofs
/- slices.Equal[[]chartulary/api.Part,chartulary/api.Part] -/
namespace F_slices_Equal_Part
abbrev ia : List Ai := [.dat (.slice T_api_Part), .dat (.slice T_api_Part)]
abbrev io : List (Nat × Oi) := [(4, .dat .bool)]
abbrev R : Type := DOut ia io
noncomputable def X (n : Nat) : Ctx := ⟨⟨tab, [], 0, []⟩, 26, bnOf 0 ia⟩
abbrev g1 : List Si := [.dat 0 (.slice T_api_Part), .dat 1 (.slice T_api_Part), .dat 12 (.int .i64), .dat 13 (.int .i64)]
abbrev g2 : List Si := []
noncomputable def T : CT := (.s .o (.s .o (.s (.s .o (.b (.l g1 .o))) (.r g2 .o))))
noncomputable def J1 (n : Nat) (m : Nat) : (List (D_api_Part)) × (List (D_api_Part)) × Int × Int × Unit → Option R := jL (X n) n T (bodyOf Tryz.f173) (endK ia io) g1 [1, 1, 0, 1, 0] [] m
noncomputable def J2 (n : Nat) : Unit → Option R := jR (X n) n T (bodyOf Tryz.f173) (endK ia io) g2 [1, 1, 1] []
noncomputable def f (n : Nat) (s1 : List (D_api_Part)) (s2 : List (D_api_Part)) : Option R := fRun (X n) n T Tryz.f173 ia io (s1, s2, ())
theorem e0 (n : Nat) (s1 : List (D_api_Part)) (s2 : List (D_api_Part)) : f n s1 s2 =
  bIf ((hide (((s1.length : Nat) : Int) != ((s2.length : Nat) : Int)))) (
    some (false, ())
    ) (
    J1 n n (s1, s2, ((s1.length : Nat) : Int), 0, ())
    ) := (hideF_eq _).trans (by kernel_rfl)
theorem e1 (n m : Nat) (s1 : List (D_api_Part)) (s2 : List (D_api_Part)) (t12 : Int) (t13 : Int) : J1 n (m + 1) (s1, s2, t12, t13, ()) =
  bIf ((hide (decide (t13 < t12)))) (
    gIf (0 ≤ t13 ∧ t13 < ((s1.length : Nat) : Int)) (
      gIf (0 ≤ t13 ∧ t13 < ((s2.length : Nat) : Int)) (
        bIf ((hide (!(eqD T_api_Part (List.getD s1 t13.toNat (Va.dflt T_api_Part)) (List.getD s2 t13.toNat (Va.dflt T_api_Part)))))) (
          some (false, ())
          ) (
          J1 n m (s1, s2, t12, (IntKind.i64.wrap (t13 + (1 : Int))), ())
          )
        )
      )
    ) (
    J2 n (())
    ) := (hideF_eq _).trans (by kernel_rfl)
theorem e2 (n : Nat) : J2 n (()) =
  some (true, ()) := (hideF_eq _).trans (by kernel_rfl)
theorem phi (n : Nat) : ∀ e ∈ (X n).c.Φ, EntryOk Tryz.prog e := allE_nil
theorem ok (n : Nat) : FnOk Tryz.prog 173 ia io (fRun (X n) n T Tryz.f173 ia io) := tree_ok mixed tabIs (phi n) Tryz.func173 (by kernel_rfl) rfl
noncomputable def en (n : Nat) : Entry := mkEntry 173 ia io (fRun (X n) n T Tryz.f173 ia io)
end F_slices_Equal_Part
end Go.Proofs.YtdlgambebmchmaaGreatDoor


namespace Go.Proofs.YtdlgambebmchmaaGreatDoor
open Go Go.Va Go.Proofs
/- chartulary/meta.sameUpload -/
namespace F_meta_sameUpload
abbrev ia : List Ai := [.dat T_api_Upload, .dat T_api_Upload]
abbrev io : List (Nat × Oi) := [(4, .dat .bool)]
abbrev R : Type := DOut ia io
noncomputable def X (n : Nat) : Ctx := ⟨⟨tab, [F_tags_Same.en n, F_slices_Equal_Part.en n], 0, []⟩, 31, bnOf 0 ia⟩
noncomputable def T : CT := .o
noncomputable def f (n : Nat) (a : D_api_Upload) (b : D_api_Upload) : Option R := fRun (X n) n T Tryz.f108 ia io (a, b, ())
theorem e0 (n : Nat) (a : D_api_Upload) (b : D_api_Upload) : f n a b =
  bIf ((hide (a.1 == b.1))) (
    bIf ((hide (eqS a.2.1 b.2.1))) (
      bnd (F_tags_Same.f n a.2.2.1 b.2.2.1) fun u1 =>
      bIf (u1.1) (
        bnd (F_slices_Equal_Part.f n a.2.2.2.1 b.2.2.2.1) fun u2 =>
        some (u2.1, ())
        ) (
        some (false, ())
        )
      ) (
      some (false, ())
      )
    ) (
    some (false, ())
    ) := (hideF_eq _).trans (by kernel_rfl)
theorem phi (n : Nat) : ∀ e ∈ (X n).c.Φ, EntryOk Tryz.prog e := allE_cons (mkEntry_ok (F_tags_Same.ok n)) (allE_cons (mkEntry_ok (F_slices_Equal_Part.ok n)) (allE_nil))
theorem ok (n : Nat) : FnOk Tryz.prog 108 ia io (fRun (X n) n T Tryz.f108 ia io) := tree_ok mixed tabIs (phi n) Tryz.func108 (by kernel_rfl) rfl
noncomputable def en (n : Nat) : Entry := mkEntry 108 ia io (fRun (X n) n T Tryz.f108 ia io)
end F_meta_sameUpload
end Go.Proofs.YtdlgambebmchmaaGreatDoor


namespace Go.Proofs.YtdlgambebmchmaaGreatDoor
open Go Go.Va Go.Proofs
/- slices.EqualFunc[[]chartulary/api.Upload,[]chartulary/api.Upload,chartulary/api.Upload,chartulary/api.Upload] -/
namespace F_slices_EqualFunc_Upload
abbrev ia : List Ai := [.dat (.slice T_api_Upload), .dat (.slice T_api_Upload), .fn (.fn 108) []]
abbrev io : List (Nat × Oi) := [(6, .dat .bool)]
abbrev R : Type := DOut ia io
noncomputable def X (n : Nat) : Ctx := ⟨⟨tab, [F_meta_sameUpload.en n], 0, []⟩, 32, bnOf 0 ia⟩
abbrev g1 : List Si := [.dat 1 (.slice T_api_Upload), .clo 2 (.fn 108) [], .dat 15 (.slice T_api_Upload), .dat 16 (.int .i64), .dat 17 (.int .i64)]
abbrev g2 : List Si := []
noncomputable def T : CT := (.s .o (.s .o (.s (.s .o (.b (.l g1 .o))) (.r g2 .o))))
noncomputable def J1 (n : Nat) (m : Nat) : (List (D_api_Upload)) × (List (D_api_Upload)) × Int × Int × Unit → Option R := jL (X n) n T (bodyOf Tryz.f107) (endK ia io) g1 [1, 1, 0, 1, 0] [] m
noncomputable def J2 (n : Nat) : Unit → Option R := jR (X n) n T (bodyOf Tryz.f107) (endK ia io) g2 [1, 1, 1] []
noncomputable def f (n : Nat) (s1 : List (D_api_Upload)) (s2 : List (D_api_Upload)) : Option R := fRun (X n) n T Tryz.f107 ia io (s1, s2, ())
theorem e0 (n : Nat) (s1 : List (D_api_Upload)) (s2 : List (D_api_Upload)) : f n s1 s2 =
  bIf ((hide (((s1.length : Nat) : Int) != ((s2.length : Nat) : Int)))) (
    some (false, ())
    ) (
    J1 n n (s2, s1, ((s1.length : Nat) : Int), 0, ())
    ) := (hideF_eq _).trans (by kernel_rfl)
theorem e1 (n m : Nat) (s2 : List (D_api_Upload)) (t15 : List (D_api_Upload)) (t16 : Int) (t17 : Int) : J1 n (m + 1) (s2, t15, t16, t17, ()) =
  bIf ((hide (decide (t17 < t16)))) (
    gIf (0 ≤ t17 ∧ t17 < ((t15.length : Nat) : Int)) (
      gIf (0 ≤ t17 ∧ t17 < ((s2.length : Nat) : Int)) (
        bnd (F_meta_sameUpload.f n (List.getD t15 t17.toNat (Va.dflt T_api_Upload)) (List.getD s2 t17.toNat (Va.dflt T_api_Upload))) fun u1 =>
        bIf ((!u1.1)) (
          some (false, ())
          ) (
          J1 n m (s2, t15, t16, (IntKind.i64.wrap (t17 + (1 : Int))), ())
          )
        )
      )
    ) (
    J2 n (())
    ) := (hideF_eq _).trans (by kernel_rfl)
theorem e2 (n : Nat) : J2 n (()) =
  some (true, ()) := (hideF_eq _).trans (by kernel_rfl)
theorem phi (n : Nat) : ∀ e ∈ (X n).c.Φ, EntryOk Tryz.prog e := allE_cons (mkEntry_ok (F_meta_sameUpload.ok n)) (allE_nil)
theorem ok (n : Nat) : FnOk Tryz.prog 107 ia io (fRun (X n) n T Tryz.f107 ia io) := tree_ok mixed tabIs (phi n) Tryz.func107 (by kernel_rfl) rfl
noncomputable def en (n : Nat) : Entry := mkEntry 107 ia io (fRun (X n) n T Tryz.f107 ia io)
end F_slices_EqualFunc_Upload
end Go.Proofs.YtdlgambebmchmaaGreatDoor


namespace Go.Proofs.YtdlgambebmchmaaGreatDoor
open Go Go.Va Go.Proofs
/- chartulary/meta.sameBucket -/
namespace F_meta_sameBucket
abbrev ia : List Ai := [.dat T_api_Bucket, .dat T_api_Bucket]
abbrev io : List (Nat × Oi) := [(4, .dat .bool)]
abbrev R : Type := DOut ia io
noncomputable def X (n : Nat) : Ctx := ⟨⟨tab, [F_entry_SameRules.en n, F_slices_Equal_Grant.en n, F_slices_EqualFunc_Object.en n, F_slices_EqualFunc_Upload.en n], 0, []⟩, 45, bnOf 0 ia⟩
abbrev g1 : List Si := [.ref 2 2 T_api_Bucket, .ref 3 3 T_api_Bucket, .box 2 (.d T_api_Bucket), .box 3 (.d T_api_Bucket)]
noncomputable def T : CT := (.s .o (.s .o (.r g1 .o)))
noncomputable def J1 (n : Nat) : D_api_Bucket × D_api_Bucket × Unit → Option R := jR (X n) n T (bodyOf Tryz.f51) (endK ia io) g1 [1, 1] []
noncomputable def f (n : Nat) (a : D_api_Bucket) (b : D_api_Bucket) : Option R := fRun (X n) n T Tryz.f51 ia io (a, b, ())
theorem e0 (n : Nat) (a : D_api_Bucket) (b : D_api_Bucket) : f n a b =
  bIf ((hide (!eqS a.1 b.1))) (
    some (false, ())
    ) (
    bIf ((hide (!(eqD T_api_Default a.2.1 b.2.1)))) (
      some (false, ())
      ) (
      bnd (F_entry_SameRules.f n a.2.2.1 b.2.2.1) fun u1 =>
      bIf ((!u1.1)) (
        some (false, ())
        ) (
        bnd (F_slices_Equal_Grant.f n a.2.2.2.1 b.2.2.2.1) fun u2 =>
        bIf ((!u2.1)) (
          some (false, ())
          ) (
          J1 n (a, b, ())
          )
        )
      )
    ) := (hideF_eq _).trans (by kernel_rfl)
theorem e1 (n : Nat) (a : D_api_Bucket) (b : D_api_Bucket) : J1 n (a, b, ()) =
  bnd (F_slices_EqualFunc_Object.f n a.2.2.2.2.1 b.2.2.2.2.1) fun u1 =>
  bIf (u1.1) (
    bnd (F_slices_EqualFunc_Upload.f n a.2.2.2.2.2.1 b.2.2.2.2.2.1) fun u2 =>
    some (u2.1, ())
    ) (
    some (false, ())
    ) := (hideF_eq _).trans (by kernel_rfl)
theorem phi (n : Nat) : ∀ e ∈ (X n).c.Φ, EntryOk Tryz.prog e := allE_cons (mkEntry_ok (F_entry_SameRules.ok n)) (allE_cons (mkEntry_ok (F_slices_Equal_Grant.ok n)) (allE_cons (mkEntry_ok (F_slices_EqualFunc_Object.ok n)) (allE_cons (mkEntry_ok (F_slices_EqualFunc_Upload.ok n)) (allE_nil))))
theorem ok (n : Nat) : FnOk Tryz.prog 51 ia io (fRun (X n) n T Tryz.f51 ia io) := tree_ok mixed tabIs (phi n) Tryz.func51 (by kernel_rfl) rfl
noncomputable def en (n : Nat) : Entry := mkEntry 51 ia io (fRun (X n) n T Tryz.f51 ia io)
end F_meta_sameBucket
end Go.Proofs.YtdlgambebmchmaaGreatDoor


namespace Go.Proofs.YtdlgambebmchmaaGreatDoor
open Go Go.Va Go.Proofs
/- slices.EqualFunc[[]chartulary/api.Bucket,[]chartulary/api.Bucket,chartulary/api.Bucket,chartulary/api.Bucket] -/
namespace F_slices_EqualFunc_Bucket
abbrev ia : List Ai := [.dat (.slice T_api_Bucket), .dat (.slice T_api_Bucket), .fn (.fn 51) []]
abbrev io : List (Nat × Oi) := [(6, .dat .bool)]
abbrev R : Type := DOut ia io
noncomputable def X (n : Nat) : Ctx := ⟨⟨tab, [F_meta_sameBucket.en n], 0, []⟩, 32, bnOf 0 ia⟩
abbrev g1 : List Si := [.dat 1 (.slice T_api_Bucket), .clo 2 (.fn 51) [], .dat 15 (.slice T_api_Bucket), .dat 16 (.int .i64), .dat 17 (.int .i64)]
abbrev g2 : List Si := []
noncomputable def T : CT := (.s .o (.s .o (.s (.s .o (.b (.l g1 .o))) (.r g2 .o))))
noncomputable def J1 (n : Nat) (m : Nat) : (List (D_api_Bucket)) × (List (D_api_Bucket)) × Int × Int × Unit → Option R := jL (X n) n T (bodyOf Tryz.f50) (endK ia io) g1 [1, 1, 0, 1, 0] [] m
noncomputable def J2 (n : Nat) : Unit → Option R := jR (X n) n T (bodyOf Tryz.f50) (endK ia io) g2 [1, 1, 1] []
noncomputable def f (n : Nat) (s1 : List (D_api_Bucket)) (s2 : List (D_api_Bucket)) : Option R := fRun (X n) n T Tryz.f50 ia io (s1, s2, ())
theorem e0 (n : Nat) (s1 : List (D_api_Bucket)) (s2 : List (D_api_Bucket)) : f n s1 s2 =
  bIf ((hide (((s1.length : Nat) : Int) != ((s2.length : Nat) : Int)))) (
    some (false, ())
    ) (
    J1 n n (s2, s1, ((s1.length : Nat) : Int), 0, ())
    ) := (hideF_eq _).trans (by kernel_rfl)
theorem e1 (n m : Nat) (s2 : List (D_api_Bucket)) (t15 : List (D_api_Bucket)) (t16 : Int) (t17 : Int) : J1 n (m + 1) (s2, t15, t16, t17, ()) =
  bIf ((hide (decide (t17 < t16)))) (
    gIf (0 ≤ t17 ∧ t17 < ((t15.length : Nat) : Int)) (
      gIf (0 ≤ t17 ∧ t17 < ((s2.length : Nat) : Int)) (
        bnd (F_meta_sameBucket.f n (List.getD t15 t17.toNat (Va.dflt T_api_Bucket)) (List.getD s2 t17.toNat (Va.dflt T_api_Bucket))) fun u1 =>
        bIf ((!u1.1)) (
          some (false, ())
          ) (
          J1 n m (s2, t15, t16, (IntKind.i64.wrap (t17 + (1 : Int))), ())
          )
        )
      )
    ) (
    J2 n (())
    ) := (hideF_eq _).trans (by kernel_rfl)
theorem e2 (n : Nat) : J2 n (()) =
  some (true, ()) := (hideF_eq _).trans (by kernel_rfl)
theorem phi (n : Nat) : ∀ e ∈ (X n).c.Φ, EntryOk Tryz.prog e := allE_cons (mkEntry_ok (F_meta_sameBucket.ok n)) (allE_nil)
theorem ok (n : Nat) : FnOk Tryz.prog 50 ia io (fRun (X n) n T Tryz.f50 ia io) := tree_ok mixed tabIs (phi n) Tryz.func50 (by kernel_rfl) rfl
noncomputable def en (n : Nat) : Entry := mkEntry 50 ia io (fRun (X n) n T Tryz.f50 ia io)
end F_slices_EqualFunc_Bucket
end Go.Proofs.YtdlgambebmchmaaGreatDoor


namespace Go.Proofs.YtdlgambebmchmaaGreatDoor
open Go Go.Va Go.Proofs
/- chartulary/meta.Same -/
namespace F_meta_Same
abbrev ia : List Ai := [.dat T_api_State, .dat T_api_State]
abbrev io : List (Nat × Oi) := [(4, .dat .bool)]
abbrev R : Type := DOut ia io
noncomputable def X (n : Nat) : Ctx := ⟨⟨tab, [F_slices_EqualFunc_Bucket.en n], 0, []⟩, 31, bnOf 0 ia⟩
noncomputable def T : CT := .o
noncomputable def f (n : Nat) (a : D_api_State) (b : D_api_State) : Option R := fRun (X n) n T Tryz.f18 ia io (a, b, ())
theorem e0 (n : Nat) (a : D_api_State) (b : D_api_State) : f n a b =
  bIf ((hide (a.1 == b.1))) (
    bIf ((hide (a.2.1 == b.2.1))) (
      bIf ((hide (a.2.2.1 == b.2.2.1))) (
        bnd (F_slices_EqualFunc_Bucket.f n a.2.2.2.1 b.2.2.2.1) fun u1 =>
        some (u1.1, ())
        ) (
        some (false, ())
        )
      ) (
      some (false, ())
      )
    ) (
    some (false, ())
    ) := (hideF_eq _).trans (by kernel_rfl)
theorem phi (n : Nat) : ∀ e ∈ (X n).c.Φ, EntryOk Tryz.prog e := allE_cons (mkEntry_ok (F_slices_EqualFunc_Bucket.ok n)) (allE_nil)
theorem ok (n : Nat) : FnOk Tryz.prog 18 ia io (fRun (X n) n T Tryz.f18 ia io) := tree_ok mixed tabIs (phi n) Tryz.func18 (by kernel_rfl) rfl
noncomputable def en (n : Nat) : Entry := mkEntry 18 ia io (fRun (X n) n T Tryz.f18 ia io)
end F_meta_Same
end Go.Proofs.YtdlgambebmchmaaGreatDoor


namespace Go.Proofs.YtdlgambebmchmaaGreatDoor
open Go Go.Va Go.Proofs
/- chartulary/chartularyref13.Same -/
namespace F_ref13_Same
abbrev ia : List Ai := [.dat T_api_Object, .dat T_api_Object]
abbrev io : List (Nat × Oi) := [(4, .dat .bool)]
abbrev R : Type := DOut ia io
noncomputable def X (n : Nat) : Ctx := ⟨⟨tab, [F_ref13_SameVersion.en n], 0, []⟩, 39, bnOf 0 ia⟩
abbrev g1 : List Si := [.ref 2 2 T_api_Object, .ref 3 3 T_api_Object, .box 2 (.d T_api_Object), .box 3 (.d T_api_Object)]
abbrev g2 : List Si := [.ref 2 2 T_api_Object, .ref 3 3 T_api_Object, .dat 5 (.int .i64), .box 2 (.d T_api_Object), .box 3 (.d T_api_Object)]
abbrev g3 : List Si := []
noncomputable def T : CT := (.s .o (.s .o (.r g1 (.s (.s .o (.b (.l g2 .o))) (.r g3 .o)))))
noncomputable def J1 (n : Nat) : D_api_Object × D_api_Object × Unit → Option R := jR (X n) n T (bodyOf Tryz.f25) (endK ia io) g1 [1, 1] []
noncomputable def J2 (n : Nat) (m : Nat) : Int × D_api_Object × D_api_Object × Unit → Option R := jL (X n) n T (bodyOf Tryz.f25) (endK ia io) g2 [1, 1, 0, 1, 0] [] m
noncomputable def J3 (n : Nat) : Unit → Option R := jR (X n) n T (bodyOf Tryz.f25) (endK ia io) g3 [1, 1, 1] []
noncomputable def f (n : Nat) (a : D_api_Object) (b : D_api_Object) : Option R := fRun (X n) n T Tryz.f25 ia io (a, b, ())
theorem e0 (n : Nat) (a : D_api_Object) (b : D_api_Object) : f n a b =
  bIf ((hide (!eqS a.1 b.1))) (
    some (false, ())
    ) (
    bIf ((hide (((a.2.1.length : Nat) : Int) != ((b.2.1.length : Nat) : Int)))) (
      some (false, ())
      ) (
      J1 n (a, b, ())
      )
    ) := (hideF_eq _).trans (by kernel_rfl)
theorem e1 (n : Nat) (a : D_api_Object) (b : D_api_Object) : J1 n (a, b, ()) =
  J2 n n (0, a, b, ()) := (hideF_eq _).trans (by kernel_rfl)
theorem e2 (n m : Nat) (i : Int) (a : D_api_Object) (b : D_api_Object) : J2 n (m + 1) (i, a, b, ()) =
  bIf ((hide (decide (i < ((a.2.1.length : Nat) : Int))))) (
    gIf (0 ≤ i ∧ i < ((a.2.1.length : Nat) : Int)) (
      gIf (0 ≤ i ∧ i < ((b.2.1.length : Nat) : Int)) (
        bnd (F_ref13_SameVersion.f n (List.getD a.2.1 i.toNat (Va.dflt T_api_Version)) (List.getD b.2.1 i.toNat (Va.dflt T_api_Version))) fun u1 =>
        bIf ((!u1.1)) (
          some (false, ())
          ) (
          J2 n m ((IntKind.i64.wrap (i + (1 : Int))), a, b, ())
          )
        )
      )
    ) (
    J3 n (())
    ) := (hideF_eq _).trans (by kernel_rfl)
theorem e3 (n : Nat) : J3 n (()) =
  some (true, ()) := (hideF_eq _).trans (by kernel_rfl)
theorem phi (n : Nat) : ∀ e ∈ (X n).c.Φ, EntryOk Tryz.prog e := allE_cons (mkEntry_ok (F_ref13_SameVersion.ok n)) (allE_nil)
theorem ok (n : Nat) : FnOk Tryz.prog 25 ia io (fRun (X n) n T Tryz.f25 ia io) := tree_ok mixed tabIs (phi n) Tryz.func25 (by kernel_rfl) rfl
noncomputable def en (n : Nat) : Entry := mkEntry 25 ia io (fRun (X n) n T Tryz.f25 ia io)
end F_ref13_Same
end Go.Proofs.YtdlgambebmchmaaGreatDoor


namespace Go.Proofs.YtdlgambebmchmaaGreatDoor
open Go Go.Va Go.Proofs
/- chartulary/chartularyref15.sameUpload -/
namespace F_ref15_sameUpload
abbrev ia : List Ai := [.dat T_api_Upload, .dat T_api_Upload]
abbrev io : List (Nat × Oi) := [(4, .dat .bool)]
abbrev R : Type := DOut ia io
noncomputable def X (n : Nat) : Ctx := ⟨⟨tab, [F_ref08_Same.en n], 0, []⟩, 53, bnOf 0 ia⟩
abbrev g1 : List Si := [.ref 2 2 T_api_Upload, .ref 3 3 T_api_Upload, .box 2 (.d T_api_Upload), .box 3 (.d T_api_Upload)]
abbrev g2 : List Si := [.ref 2 2 T_api_Upload, .ref 3 3 T_api_Upload, .dat 5 (.int .i64), .box 2 (.d T_api_Upload), .box 3 (.d T_api_Upload)]
abbrev g3 : List Si := []
noncomputable def T : CT := (.s .o (.s .o (.r g1 (.s (.s .o (.b (.l g2 .o))) (.r g3 .o)))))
noncomputable def J1 (n : Nat) : D_api_Upload × D_api_Upload × Unit → Option R := jR (X n) n T (bodyOf Tryz.f49) (endK ia io) g1 [1, 1] []
noncomputable def J2 (n : Nat) (m : Nat) : Int × D_api_Upload × D_api_Upload × Unit → Option R := jL (X n) n T (bodyOf Tryz.f49) (endK ia io) g2 [1, 1, 0, 1, 0] [] m
noncomputable def J3 (n : Nat) : Unit → Option R := jR (X n) n T (bodyOf Tryz.f49) (endK ia io) g3 [1, 1, 1] []
noncomputable def f (n : Nat) (a : D_api_Upload) (b : D_api_Upload) : Option R := fRun (X n) n T Tryz.f49 ia io (a, b, ())
theorem e0 (n : Nat) (a : D_api_Upload) (b : D_api_Upload) : f n a b =
  bIf ((hide (a.1 != b.1))) (
    some (false, ())
    ) (
    bIf ((hide (!eqS a.2.1 b.2.1))) (
      some (false, ())
      ) (
      bnd (F_ref08_Same.f n a.2.2.1 b.2.2.1) fun u1 =>
      bIf ((!u1.1)) (
        some (false, ())
        ) (
        bIf ((hide (((a.2.2.2.1.length : Nat) : Int) != ((b.2.2.2.1.length : Nat) : Int)))) (
          some (false, ())
          ) (
          J1 n (a, b, ())
          )
        )
      )
    ) := (hideF_eq _).trans (by kernel_rfl)
theorem e1 (n : Nat) (a : D_api_Upload) (b : D_api_Upload) : J1 n (a, b, ()) =
  J2 n n (0, a, b, ()) := (hideF_eq _).trans (by kernel_rfl)
theorem e2 (n m : Nat) (i : Int) (a : D_api_Upload) (b : D_api_Upload) : J2 n (m + 1) (i, a, b, ()) =
  bIf ((hide (decide (i < ((a.2.2.2.1.length : Nat) : Int))))) (
    gIf (0 ≤ i ∧ i < ((a.2.2.2.1.length : Nat) : Int)) (
      gIf (0 ≤ i ∧ i < ((b.2.2.2.1.length : Nat) : Int)) (
        bIf ((hide (!(eqD T_api_Part (List.getD a.2.2.2.1 i.toNat (Va.dflt T_api_Part)) (List.getD b.2.2.2.1 i.toNat (Va.dflt T_api_Part)))))) (
          some (false, ())
          ) (
          J2 n m ((IntKind.i64.wrap (i + (1 : Int))), a, b, ())
          )
        )
      )
    ) (
    J3 n (())
    ) := (hideF_eq _).trans (by kernel_rfl)
theorem e3 (n : Nat) : J3 n (()) =
  some (true, ()) := (hideF_eq _).trans (by kernel_rfl)
theorem phi (n : Nat) : ∀ e ∈ (X n).c.Φ, EntryOk Tryz.prog e := allE_cons (mkEntry_ok (F_ref08_Same.ok n)) (allE_nil)
theorem ok (n : Nat) : FnOk Tryz.prog 49 ia io (fRun (X n) n T Tryz.f49 ia io) := tree_ok mixed tabIs (phi n) Tryz.func49 (by kernel_rfl) rfl
noncomputable def en (n : Nat) : Entry := mkEntry 49 ia io (fRun (X n) n T Tryz.f49 ia io)
end F_ref15_sameUpload
end Go.Proofs.YtdlgambebmchmaaGreatDoor


namespace Go.Proofs.YtdlgambebmchmaaGreatDoor
open Go Go.Va Go.Proofs
/- chartulary/chartularyref15.SameBucket -/
namespace F_ref15_SameBucket
abbrev ia : List Ai := [.dat T_api_Bucket, .dat T_api_Bucket]
abbrev io : List (Nat × Oi) := [(4, .dat .bool)]
abbrev R : Type := DOut ia io
noncomputable def X (n : Nat) : Ctx := ⟨⟨tab, [F_ref13_Same.en n, F_ref14_SameRules.en n, F_ref14_SameGrants.en n, F_ref15_sameUpload.en n], 0, []⟩, 91, bnOf 0 ia⟩
abbrev g1 : List Si := [.ref 2 2 T_api_Bucket, .ref 3 3 T_api_Bucket, .box 2 (.d T_api_Bucket), .box 3 (.d T_api_Bucket)]
abbrev g2 : List Si := [.ref 2 2 T_api_Bucket, .ref 3 3 T_api_Bucket, .dat 5 (.int .i64), .box 2 (.d T_api_Bucket), .box 3 (.d T_api_Bucket)]
abbrev g3 : List Si := [.ref 2 2 T_api_Bucket, .ref 3 3 T_api_Bucket, .box 2 (.d T_api_Bucket), .box 3 (.d T_api_Bucket)]
abbrev g4 : List Si := [.ref 2 2 T_api_Bucket, .ref 3 3 T_api_Bucket, .dat 6 (.int .i64), .box 2 (.d T_api_Bucket), .box 3 (.d T_api_Bucket)]
abbrev g5 : List Si := []
noncomputable def T : CT := (.s .o (.s .o (.r g1 (.s (.s .o (.b (.l g2 .o))) (.r g3 (.s (.s .o (.b (.l g4 .o))) (.r g5 .o)))))))
noncomputable def J1 (n : Nat) : D_api_Bucket × D_api_Bucket × Unit → Option R := jR (X n) n T (bodyOf Tryz.f17) (endK ia io) g1 [1, 1] []
noncomputable def J2 (n : Nat) (m : Nat) : Int × D_api_Bucket × D_api_Bucket × Unit → Option R := jL (X n) n T (bodyOf Tryz.f17) (endK ia io) g2 [1, 1, 0, 1, 0] [] m
noncomputable def J3 (n : Nat) : D_api_Bucket × D_api_Bucket × Unit → Option R := jR (X n) n T (bodyOf Tryz.f17) (endK ia io) g3 [1, 1, 1] []
noncomputable def J4 (n : Nat) (m : Nat) : Int × D_api_Bucket × D_api_Bucket × Unit → Option R := jL (X n) n T (bodyOf Tryz.f17) (endK ia io) g4 [1, 1, 1, 0, 1, 0] [] m
noncomputable def J5 (n : Nat) : Unit → Option R := jR (X n) n T (bodyOf Tryz.f17) (endK ia io) g5 [1, 1, 1, 1] []
noncomputable def f (n : Nat) (a : D_api_Bucket) (b : D_api_Bucket) : Option R := fRun (X n) n T Tryz.f17 ia io (a, b, ())
theorem e0 (n : Nat) (a : D_api_Bucket) (b : D_api_Bucket) : f n a b =
  bIf ((hide (!eqS a.1 b.1))) (
    some (false, ())
    ) (
    bIf ((hide (!(eqD T_api_Default a.2.1 b.2.1)))) (
      some (false, ())
      ) (
      bnd (F_ref14_SameRules.f n a.2.2.1 b.2.2.1) fun u1 =>
      bIf ((!u1.1)) (
        some (false, ())
        ) (
        bnd (F_ref14_SameGrants.f n a.2.2.2.1 b.2.2.2.1) fun u2 =>
        bIf ((!u2.1)) (
          some (false, ())
          ) (
          bIf ((hide (((a.2.2.2.2.1.length : Nat) : Int) != ((b.2.2.2.2.1.length : Nat) : Int)))) (
            some (false, ())
            ) (
            bIf ((hide (((a.2.2.2.2.2.1.length : Nat) : Int) != ((b.2.2.2.2.2.1.length : Nat) : Int)))) (
              some (false, ())
              ) (
              J1 n (a, b, ())
              )
            )
          )
        )
      )
    ) := (hideF_eq _).trans (by kernel_rfl)
theorem e1 (n : Nat) (a : D_api_Bucket) (b : D_api_Bucket) : J1 n (a, b, ()) =
  J2 n n (0, a, b, ()) := (hideF_eq _).trans (by kernel_rfl)
theorem e2 (n m : Nat) (i : Int) (a : D_api_Bucket) (b : D_api_Bucket) : J2 n (m + 1) (i, a, b, ()) =
  bIf ((hide (decide (i < ((a.2.2.2.2.1.length : Nat) : Int))))) (
    gIf (0 ≤ i ∧ i < ((a.2.2.2.2.1.length : Nat) : Int)) (
      gIf (0 ≤ i ∧ i < ((b.2.2.2.2.1.length : Nat) : Int)) (
        bnd (F_ref13_Same.f n (List.getD a.2.2.2.2.1 i.toNat (Va.dflt T_api_Object)) (List.getD b.2.2.2.2.1 i.toNat (Va.dflt T_api_Object))) fun u1 =>
        bIf ((!u1.1)) (
          some (false, ())
          ) (
          J2 n m ((IntKind.i64.wrap (i + (1 : Int))), a, b, ())
          )
        )
      )
    ) (
    J3 n (a, b, ())
    ) := (hideF_eq _).trans (by kernel_rfl)
theorem e3 (n : Nat) (a : D_api_Bucket) (b : D_api_Bucket) : J3 n (a, b, ()) =
  J4 n n (0, a, b, ()) := (hideF_eq _).trans (by kernel_rfl)
theorem e4 (n m : Nat) (i : Int) (a : D_api_Bucket) (b : D_api_Bucket) : J4 n (m + 1) (i, a, b, ()) =
  bIf ((hide (decide (i < ((a.2.2.2.2.2.1.length : Nat) : Int))))) (
    gIf (0 ≤ i ∧ i < ((a.2.2.2.2.2.1.length : Nat) : Int)) (
      gIf (0 ≤ i ∧ i < ((b.2.2.2.2.2.1.length : Nat) : Int)) (
        bnd (F_ref15_sameUpload.f n (List.getD a.2.2.2.2.2.1 i.toNat (Va.dflt T_api_Upload)) (List.getD b.2.2.2.2.2.1 i.toNat (Va.dflt T_api_Upload))) fun u1 =>
        bIf ((!u1.1)) (
          some (false, ())
          ) (
          J4 n m ((IntKind.i64.wrap (i + (1 : Int))), a, b, ())
          )
        )
      )
    ) (
    J5 n (())
    ) := (hideF_eq _).trans (by kernel_rfl)
theorem e5 (n : Nat) : J5 n (()) =
  some (true, ()) := (hideF_eq _).trans (by kernel_rfl)
theorem phi (n : Nat) : ∀ e ∈ (X n).c.Φ, EntryOk Tryz.prog e := allE_cons (mkEntry_ok (F_ref13_Same.ok n)) (allE_cons (mkEntry_ok (F_ref14_SameRules.ok n)) (allE_cons (mkEntry_ok (F_ref14_SameGrants.ok n)) (allE_cons (mkEntry_ok (F_ref15_sameUpload.ok n)) (allE_nil))))
theorem ok (n : Nat) : FnOk Tryz.prog 17 ia io (fRun (X n) n T Tryz.f17 ia io) := tree_ok mixed tabIs (phi n) Tryz.func17 (by kernel_rfl) rfl
noncomputable def en (n : Nat) : Entry := mkEntry 17 ia io (fRun (X n) n T Tryz.f17 ia io)
end F_ref15_SameBucket
end Go.Proofs.YtdlgambebmchmaaGreatDoor


namespace Go.Proofs.YtdlgambebmchmaaGreatDoor
open Go Go.Va Go.Proofs
/- chartulary/chartularyref15.Same -/
namespace F_ref15_Same
abbrev ia : List Ai := [.dat T_api_State, .dat T_api_State]
abbrev io : List (Nat × Oi) := [(4, .dat .bool)]
abbrev R : Type := DOut ia io
noncomputable def X (n : Nat) : Ctx := ⟨⟨tab, [F_ref15_SameBucket.en n], 0, []⟩, 53, bnOf 0 ia⟩
abbrev g1 : List Si := [.ref 2 2 T_api_State, .ref 3 3 T_api_State, .box 2 (.d T_api_State), .box 3 (.d T_api_State)]
abbrev g2 : List Si := [.ref 2 2 T_api_State, .ref 3 3 T_api_State, .dat 5 (.int .i64), .box 2 (.d T_api_State), .box 3 (.d T_api_State)]
abbrev g3 : List Si := []
noncomputable def T : CT := (.s .o (.s .o (.r g1 (.s (.s .o (.b (.l g2 .o))) (.r g3 .o)))))
noncomputable def J1 (n : Nat) : D_api_State × D_api_State × Unit → Option R := jR (X n) n T (bodyOf Tryz.f12) (endK ia io) g1 [1, 1] []
noncomputable def J2 (n : Nat) (m : Nat) : Int × D_api_State × D_api_State × Unit → Option R := jL (X n) n T (bodyOf Tryz.f12) (endK ia io) g2 [1, 1, 0, 1, 0] [] m
noncomputable def J3 (n : Nat) : Unit → Option R := jR (X n) n T (bodyOf Tryz.f12) (endK ia io) g3 [1, 1, 1] []
noncomputable def f (n : Nat) (a : D_api_State) (b : D_api_State) : Option R := fRun (X n) n T Tryz.f12 ia io (a, b, ())
theorem e0 (n : Nat) (a : D_api_State) (b : D_api_State) : f n a b =
  bIf ((hide (a.1 != b.1))) (
    some (false, ())
    ) (
    bIf ((hide (a.2.1 != b.2.1))) (
      some (false, ())
      ) (
      bIf ((hide (a.2.2.1 != b.2.2.1))) (
        some (false, ())
        ) (
        bIf ((hide (((a.2.2.2.1.length : Nat) : Int) != ((b.2.2.2.1.length : Nat) : Int)))) (
          some (false, ())
          ) (
          J1 n (a, b, ())
          )
        )
      )
    ) := (hideF_eq _).trans (by kernel_rfl)
theorem e1 (n : Nat) (a : D_api_State) (b : D_api_State) : J1 n (a, b, ()) =
  J2 n n (0, a, b, ()) := (hideF_eq _).trans (by kernel_rfl)
theorem e2 (n m : Nat) (i : Int) (a : D_api_State) (b : D_api_State) : J2 n (m + 1) (i, a, b, ()) =
  bIf ((hide (decide (i < ((a.2.2.2.1.length : Nat) : Int))))) (
    gIf (0 ≤ i ∧ i < ((a.2.2.2.1.length : Nat) : Int)) (
      gIf (0 ≤ i ∧ i < ((b.2.2.2.1.length : Nat) : Int)) (
        bnd (F_ref15_SameBucket.f n (List.getD a.2.2.2.1 i.toNat (Va.dflt T_api_Bucket)) (List.getD b.2.2.2.1 i.toNat (Va.dflt T_api_Bucket))) fun u1 =>
        bIf ((!u1.1)) (
          some (false, ())
          ) (
          J2 n m ((IntKind.i64.wrap (i + (1 : Int))), a, b, ())
          )
        )
      )
    ) (
    J3 n (())
    ) := (hideF_eq _).trans (by kernel_rfl)
theorem e3 (n : Nat) : J3 n (()) =
  some (true, ()) := (hideF_eq _).trans (by kernel_rfl)
theorem phi (n : Nat) : ∀ e ∈ (X n).c.Φ, EntryOk Tryz.prog e := allE_cons (mkEntry_ok (F_ref15_SameBucket.ok n)) (allE_nil)
theorem ok (n : Nat) : FnOk Tryz.prog 12 ia io (fRun (X n) n T Tryz.f12 ia io) := tree_ok mixed tabIs (phi n) Tryz.func12 (by kernel_rfl) rfl
noncomputable def en (n : Nat) : Entry := mkEntry 12 ia io (fRun (X n) n T Tryz.f12 ia io)
end F_ref15_Same
end Go.Proofs.YtdlgambebmchmaaGreatDoor


namespace Go.Proofs.YtdlgambebmchmaaGreatDoor
open Go Go.Va Go.Proofs
/- chartulary/chartularylaw15.MetaSame -/
namespace F_law15_MetaSame
abbrev ia : List Ai := [.dat T_api_State, .dat T_api_State]
abbrev io : List (Nat × Oi) := [(4, .dat .bool)]
abbrev R : Type := DOut ia io
noncomputable def X (n : Nat) : Ctx := ⟨⟨tab, [F_law15_big.en n, F_law15_awake.en, F_ref15_Same.en n, F_meta_Same.en n], 0, []⟩, 27, bnOf 0 ia⟩
abbrev g1 : List Si := [.ref 2 2 T_api_State, .ref 3 3 T_api_State, .box 2 (.d T_api_State), .box 3 (.d T_api_State)]
noncomputable def T : CT := (.s .o (.s .o (.r g1 .o)))
noncomputable def J1 (n : Nat) : D_api_State × D_api_State × Unit → Option R := jR (X n) n T (bodyOf Tryz.f6) (endK ia io) g1 [1, 1] []
noncomputable def f (n : Nat) (a : D_api_State) (b : D_api_State) : Option R := fRun (X n) n T Tryz.f6 ia io (a, b, ())
theorem e0 (n : Nat) (a : D_api_State) (b : D_api_State) : f n a b =
  bnd (F_law15_big.f n a) fun u1 =>
  bIf (u1.1) (
    bnd (F_law15_awake.f) fun u2 =>
    some (u2.1, ())
    ) (
    bnd (F_law15_big.f n b) fun u3 =>
    bIf (u3.1) (
      bnd (F_law15_awake.f) fun u4 =>
      some (u4.1, ())
      ) (
      J1 n (a, b, ())
      )
    ) := (hideF_eq _).trans (by kernel_rfl)
theorem e1 (n : Nat) (a : D_api_State) (b : D_api_State) : J1 n (a, b, ()) =
  bnd (F_law15_awake.f) fun u1 =>
  bIf (u1.1) (
    bnd (F_meta_Same.f n a b) fun u2 =>
    bnd (F_ref15_Same.f n a b) fun u3 =>
    bIf ((hide (u2.1 == u3.1))) (
      bnd (F_meta_Same.f n a a) fun u4 =>
      some (u4.1, ())
      ) (
      some (false, ())
      )
    ) (
    some (false, ())
    ) := (hideF_eq _).trans (by kernel_rfl)
theorem phi (n : Nat) : ∀ e ∈ (X n).c.Φ, EntryOk Tryz.prog e := allE_cons (mkEntry_ok (F_law15_big.ok n)) (allE_cons (mkEntry_ok (F_law15_awake.ok)) (allE_cons (mkEntry_ok (F_ref15_Same.ok n)) (allE_cons (mkEntry_ok (F_meta_Same.ok n)) (allE_nil))))
theorem ok (n : Nat) : FnOk Tryz.prog 6 ia io (fRun (X n) n T Tryz.f6 ia io) := tree_ok mixed tabIs (phi n) Tryz.func6 (by kernel_rfl) rfl
noncomputable def en (n : Nat) : Entry := mkEntry 6 ia io (fRun (X n) n T Tryz.f6 ia io)
end F_law15_MetaSame
end Go.Proofs.YtdlgambebmchmaaGreatDoor

