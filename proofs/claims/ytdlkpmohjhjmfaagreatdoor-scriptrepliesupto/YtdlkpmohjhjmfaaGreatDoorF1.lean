/-
  What the functions compute, by the abstract interpreter.
-/
import Derived.Test.YtdlkpmohjhjmfaaGreatDoorF0
set_option linter.unusedVariables false
set_option linter.unusedSimpArgs false
namespace Go.Proofs.YtdlkpmohjhjmfaaGreatDoor
open Go Go.Va Go.Proofs
namespace F_acts_strip_page
abbrev ia : List Ai := [.ptr (.d T_acts_strip)]
abbrev io : List (Nat × Oi) := [(2, .arg 0 500000 (.d T_acts_strip))]
abbrev R : Type := DOut ia io
noncomputable def X (n : Nat) : Ctx := ⟨⟨tab, [F_acts_strip_may.en n, F_acts_name.en n], 0, []⟩, 36, bnOf 0 ia⟩
abbrev g1 : List Si := [.ref 0 500000 T_acts_strip, .box 500000 (.d T_acts_strip)]
noncomputable def T : CT := (.s .o (.s .o (.r g1 .o)))
noncomputable def J1 (n : Nat) : D_acts_strip × Unit → Option R := jR (X n) n T (bodyOf Tryz.f190) (endK ia io) g1 [1, 1] []
noncomputable def f (n : Nat) (s_ : D_acts_strip) : Option R := fRun (X n) n T Tryz.f190 ia io (s_, ())
theorem e0 (n : Nat) (s_ : D_acts_strip) : f n s_ =
  bnd (F_acts_name.f n s_.1.2.2.2.2.2.2.2.2.2.2.2.2.2.2.2.1) fun u1 =>
  bIf (u1.1) (
    bIf ((hide (decide (s_.1.2.2.2.2.2.2.2.2.2.2.2.2.2.2.2.2.2.2.1 ≥ (1 : Int))))) (
      bnd (F_acts_strip_may.f n s_ (hide (decide (s_.1.2.2.2.2.2.2.2.2.2.2.2.2.2.2.2.2.2.2.1 ≤ (100 : Int))))) fun u2 =>
      J1 n (u2.1, ())
      ) (
      bnd (F_acts_strip_may.f n s_ false) fun u3 =>
      J1 n (u3.1, ())
      )
    ) (
    bnd (F_acts_strip_may.f n s_ false) fun u4 =>
    J1 n (u4.1, ())
    ) := (hideF_eq _).trans (by kernel_rfl)
theorem e1 (n : Nat) (s_ : D_acts_strip) : J1 n (s_, ()) =
  some (((s_.1.1, (s_.1.2.1, (s_.1.2.2.1, (s_.1.2.2.2.1, (s_.1.2.2.2.2.1, (s_.1.2.2.2.2.2.1, (s_.1.2.2.2.2.2.2.1, (s_.1.2.2.2.2.2.2.2.1, (s_.1.2.2.2.2.2.2.2.2.1, (s_.1.2.2.2.2.2.2.2.2.2.1, (s_.1.2.2.2.2.2.2.2.2.2.2.1, (s_.1.2.2.2.2.2.2.2.2.2.2.2.1, (s_.1.2.2.2.2.2.2.2.2.2.2.2.2.1, (s_.1.2.2.2.2.2.2.2.2.2.2.2.2.2.1, (s_.1.2.2.2.2.2.2.2.2.2.2.2.2.2.2.1, ((⟨#[]⟩ : ByteArray), (s_.1.2.2.2.2.2.2.2.2.2.2.2.2.2.2.2.2.1, (s_.1.2.2.2.2.2.2.2.2.2.2.2.2.2.2.2.2.2.1, (0, s_.1.2.2.2.2.2.2.2.2.2.2.2.2.2.2.2.2.2.2.2))))))))))))))))))), s_.2), ()) := (hideF_eq _).trans (by kernel_rfl)
theorem phi (n : Nat) : ∀ e ∈ (X n).c.Φ, EntryOk Tryz.prog e := allE_cons (mkEntry_ok (F_acts_strip_may.ok n)) (allE_cons (mkEntry_ok (F_acts_name.ok n)) (allE_nil))
theorem ok (n : Nat) : FnOk Tryz.prog 190 ia io (fRun (X n) n T Tryz.f190 ia io) := tree_ok mixed tabIs (phi n) Tryz.func190 (by kernel_rfl) rfl
noncomputable def en (n : Nat) : Entry := mkEntry 190 ia io (fRun (X n) n T Tryz.f190 ia io)
end F_acts_strip_page
end Go.Proofs.YtdlkpmohjhjmfaaGreatDoor

namespace Go.Proofs.YtdlkpmohjhjmfaaGreatDoor
open Go Go.Va Go.Proofs
namespace F_acts_strip_tags
abbrev ia : List Ai := [.ptr (.d T_acts_strip)]
abbrev io : List (Nat × Oi) := [(2, .arg 0 500000 (.d T_acts_strip))]
abbrev R : Type := DOut ia io
noncomputable def X (n : Nat) : Ctx := ⟨⟨tab, [F_tags_Sound.en n, F_acts_strip_may.en n], 0, []⟩, 15, bnOf 0 ia⟩
noncomputable def T : CT := .o
noncomputable def f (n : Nat) (s_ : D_acts_strip) : Option R := fRun (X n) n T Tryz.f186 ia io (s_, ())
theorem e0 (n : Nat) (s_ : D_acts_strip) : f n s_ =
  bnd (F_tags_Sound.f n s_.1.2.2.2.2.2.2.1) fun u1 =>
  bnd (F_acts_strip_may.f n s_ u1.1) fun u2 =>
  some (((u2.1.1.1, (u2.1.1.2.1, (u2.1.1.2.2.1, (u2.1.1.2.2.2.1, (u2.1.1.2.2.2.2.1, (u2.1.1.2.2.2.2.2.1, ([], u2.1.1.2.2.2.2.2.2.2))))))), u2.1.2), ()) := (hideF_eq _).trans (by kernel_rfl)
theorem phi (n : Nat) : ∀ e ∈ (X n).c.Φ, EntryOk Tryz.prog e := allE_cons (mkEntry_ok (F_tags_Sound.ok n)) (allE_cons (mkEntry_ok (F_acts_strip_may.ok n)) (allE_nil))
theorem ok (n : Nat) : FnOk Tryz.prog 186 ia io (fRun (X n) n T Tryz.f186 ia io) := tree_ok mixed tabIs (phi n) Tryz.func186 (by kernel_rfl) rfl
noncomputable def en (n : Nat) : Entry := mkEntry 186 ia io (fRun (X n) n T Tryz.f186 ia io)
end F_acts_strip_tags
end Go.Proofs.YtdlkpmohjhjmfaaGreatDoor

namespace Go.Proofs.YtdlkpmohjhjmfaaGreatDoor
open Go Go.Va Go.Proofs
namespace F_acts_strip_own
abbrev ia : List Ai := [.ptr (.d T_acts_strip)]
abbrev io : List (Nat × Oi) := []
abbrev R : Type := DOut ia io
noncomputable def X (n : Nat) : Ctx := ⟨⟨tab, [F_label_Bucket.en n, F_acts_strip_may.en n, F_mode_Good.en n, F_entry_Rules.en n, F_entry_Grants.en n, F_acts_strip_key.en n, F_acts_strip_body.en n, F_acts_strip_tags.en n, F_acts_strip_lock.en n, F_acts_strip_id.en n, F_acts_strip_bypass.en n, F_acts_strip_page.en n, F_acts_name.en n, F_acts_strip_from.en n, F_label_Key.en n], 0, []⟩, 192, bnOf 0 ia⟩
abbrev g1 : List Si := [.ref 0 500000 T_acts_strip, .ref 2 2 T_api_Request, .dat 8 (.int .i64), .dat 11 .bool, .box 2 (.d T_api_Request), .box 500000 (.d T_acts_strip)]
abbrev g2 : List Si := [.ref 0 500000 T_acts_strip, .ref 2 2 T_api_Request, .dat 8 (.int .i64), .dat 23 .bool, .box 2 (.d T_api_Request), .box 500000 (.d T_acts_strip)]
abbrev g3 : List Si := [.ref 0 500000 T_acts_strip, .ref 2 2 T_api_Request, .dat 8 (.int .i64), .dat 54 .bool, .box 2 (.d T_api_Request), .box 500000 (.d T_acts_strip)]
abbrev g4 : List Si := [.ref 0 500000 T_acts_strip, .box 500000 (.d T_acts_strip)]
noncomputable def T : CT := (.s .o (.s .o (.b (.s .o (.r g1 (.c .o (.s .o (.r g2 (.c .o (.s .o (.c .o (.s .o (.c .o (.s .o (.c .o (.s .o (.r g3 (.c .o (.s .o (.c .o (.s .o (.c .o (.s .o (.c .o (.s .o (.c .o (.s .o (.c .o (.s .o (.c (.s .o (.r g4 .o)) .o))))))))))))))))))))))))))))))
noncomputable def J1 (n : Nat) : Int × Bool × D_api_Request × D_acts_strip × Unit → Option R := jR (X n) n T (bodyOf Tryz.f132) (endK ia io) g1 [1, 1, 0, 1] []
noncomputable def J2 (n : Nat) : Int × Bool × D_api_Request × D_acts_strip × Unit → Option R := jR (X n) n T (bodyOf Tryz.f132) (endK ia io) g2 [1, 1, 0, 1, 1, 1] []
noncomputable def J3 (n : Nat) : Int × Bool × D_api_Request × D_acts_strip × Unit → Option R := jR (X n) n T (bodyOf Tryz.f132) (endK ia io) g3 [1, 1, 0, 1, 1, 1, 1, 1, 1, 1, 1, 1, 1, 1] []
noncomputable def J4 (n : Nat) : D_acts_strip × Unit → Option R := jR (X n) n T (bodyOf Tryz.f132) (endK ia io) g4 [1, 1, 0, 1, 1, 1, 1, 1, 1, 1, 1, 1, 1, 1, 1, 1, 1, 1, 1, 1, 1, 1, 1, 1, 1, 1, 0, 1] []
noncomputable def f (n : Nat) (t : D_acts_strip) : Option R := fRun (X n) n T Tryz.f132 ia io (t, ())
theorem e0 (n : Nat) (t : D_acts_strip) : f n t =
  bIf ((hide (t.1.1 == (1 : Int)))) (
    J1 n (t.1.1, true, t.1, t, ())
    ) (
    J1 n (t.1.1, (hide (t.1.1 == (3 : Int))), t.1, t, ())
    ) := (hideF_eq _).trans (by kernel_rfl)
theorem e1 (n : Nat) (t8 : Int) (t11 : Bool) (A : D_api_Request) (t : D_acts_strip) : J1 n (t8, t11, A, t, ()) =
  bIf (t11) (
    bnd (F_mode_Good.f n A.2.2.2.2.2.2.2.2.2.1) fun u1 =>
    bnd (F_acts_strip_may.f n t u1.1) fun u2 =>
    some (((u2.1.1.1, (u2.1.1.2.1, (u2.1.1.2.2.1, (u2.1.1.2.2.2.1, (u2.1.1.2.2.2.2.1, (u2.1.1.2.2.2.2.2.1, (u2.1.1.2.2.2.2.2.2.1, (u2.1.1.2.2.2.2.2.2.2.1, (u2.1.1.2.2.2.2.2.2.2.2.1, ((0, (0, ())), u2.1.1.2.2.2.2.2.2.2.2.2.2)))))))))), u2.1.2), ())
    ) (
    bIf ((hide (t8 == (2 : Int)))) (
      J2 n (t8, true, A, t, ())
      ) (
      bIf ((hide (t8 == (21 : Int)))) (
        J2 n (t8, true, A, t, ())
        ) (
        J2 n (t8, (hide (t8 == (22 : Int))), A, t, ())
        )
      )
    ) := (hideF_eq _).trans (by kernel_rfl)
theorem e2 (n : Nat) (t8 : Int) (t23 : Bool) (A : D_api_Request) (t : D_acts_strip) : J2 n (t8, t23, A, t, ()) =
  bIf (t23) (
    some (t, ())
    ) (
    bIf ((hide (t8 == (4 : Int)))) (
      bnd (F_entry_Rules.f n A.2.2.2.2.2.2.2.2.2.2.1) fun u1 =>
      bnd (F_acts_strip_may.f n t u1.1) fun u2 =>
      some (((u2.1.1.1, (u2.1.1.2.1, (u2.1.1.2.2.1, (u2.1.1.2.2.2.1, (u2.1.1.2.2.2.2.1, (u2.1.1.2.2.2.2.2.1, (u2.1.1.2.2.2.2.2.2.1, (u2.1.1.2.2.2.2.2.2.2.1, (u2.1.1.2.2.2.2.2.2.2.2.1, (u2.1.1.2.2.2.2.2.2.2.2.2.1, ([], u2.1.1.2.2.2.2.2.2.2.2.2.2.2))))))))))), u2.1.2), ())
      ) (
      bIf ((hide (t8 == (5 : Int)))) (
        bnd (F_entry_Grants.f n A.2.2.2.2.2.2.2.2.2.2.2.1) fun u3 =>
        bnd (F_acts_strip_may.f n t u3.1) fun u4 =>
        some (((u4.1.1.1, (u4.1.1.2.1, (u4.1.1.2.2.1, (u4.1.1.2.2.2.1, (u4.1.1.2.2.2.2.1, (u4.1.1.2.2.2.2.2.1, (u4.1.1.2.2.2.2.2.2.1, (u4.1.1.2.2.2.2.2.2.2.1, (u4.1.1.2.2.2.2.2.2.2.2.1, (u4.1.1.2.2.2.2.2.2.2.2.2.1, (u4.1.1.2.2.2.2.2.2.2.2.2.2.1, ([], u4.1.1.2.2.2.2.2.2.2.2.2.2.2.2)))))))))))), u4.1.2), ())
        ) (
        bIf ((hide (t8 == (6 : Int)))) (
          bnd (F_acts_strip_key.f n t) fun u5 =>
          bnd (F_acts_strip_body.f n u5.1) fun u6 =>
          bnd (F_acts_strip_tags.f n u6.1) fun u7 =>
          bnd (F_acts_strip_lock.f n u7.1 true) fun u8 =>
          some (u8.1, ())
          ) (
          bIf ((hide (t8 == (7 : Int)))) (
            J3 n (t8, true, A, t, ())
            ) (
            J3 n (t8, (hide (t8 == (8 : Int))), A, t, ())
            )
          )
        )
      )
    ) := (hideF_eq _).trans (by kernel_rfl)
theorem e3 (n : Nat) (t8 : Int) (t54 : Bool) (A : D_api_Request) (t : D_acts_strip) : J3 n (t8, t54, A, t, ()) =
  bIf (t54) (
    bnd (F_acts_strip_key.f n t) fun u1 =>
    bnd (F_acts_strip_id.f n u1.1 0) fun u2 =>
    some (u2.1, ())
    ) (
    bIf ((hide (t8 == (9 : Int)))) (
      bnd (F_acts_strip_key.f n t) fun u3 =>
      some (u3.1, ())
      ) (
      bIf ((hide (t8 == (10 : Int)))) (
        bnd (F_acts_strip_key.f n t) fun u4 =>
        bnd (F_acts_strip_id.f n u4.1 1) fun u5 =>
        bnd (F_acts_strip_bypass.f n u5.1) fun u6 =>
        some (u6.1, ())
        ) (
        bIf ((hide (t8 == (11 : Int)))) (
          bnd (F_acts_strip_key.f n t) fun u7 =>
          bnd (F_acts_strip_id.f n u7.1 0) fun u8 =>
          bnd (F_acts_strip_lock.f n u8.1 (!A.2.2.2.2.2.2.2.1.2.2.1)) fun u9 =>
          bnd (F_acts_strip_bypass.f n u9.1) fun u10 =>
          some (u10.1, ())
          ) (
          bIf ((hide (t8 == (12 : Int)))) (
            bnd (F_acts_strip_key.f n t) fun u11 =>
            bnd (F_acts_strip_id.f n u11.1 0) fun u12 =>
            bnd (F_acts_strip_lock.f n u12.1 (hide (A.2.2.2.2.2.2.2.1.1 == (0 : Int)))) fun u13 =>
            some (u13.1, ())
            ) (
            bIf ((hide (t8 == (13 : Int)))) (
              bnd (F_acts_strip_key.f n t) fun u14 =>
              bnd (F_acts_strip_id.f n u14.1 0) fun u15 =>
              bnd (F_acts_strip_tags.f n u15.1) fun u16 =>
              some (u16.1, ())
              ) (
              bIf ((hide (t8 == (14 : Int)))) (
                bnd (F_acts_strip_page.f n t) fun u17 =>
                bnd (F_acts_name.f n A.2.2.2.2.2.2.2.2.2.2.2.2.2.2.2.2.1) fun u18 =>
                bIf (u18.1) (
                  bnd (F_acts_name.f n A.2.2.2.2.2.2.2.2.2.2.2.2.2.2.1) fun u19 =>
                  bnd (F_acts_strip_may.f n u17.1 u19.1) fun u20 =>
                  J4 n (u20.1, ())
                  ) (
                  bnd (F_acts_strip_may.f n u17.1 false) fun u21 =>
                  J4 n (u21.1, ())
                  )
                ) (
                bIf ((hide (t8 == (15 : Int)))) (
                  bnd (F_acts_strip_page.f n t) fun u22 =>
                  bIf ((hide (eqS A.2.2.2.2.2.2.2.2.2.2.2.2.2.2.2.2.2.1.1 (⟨#[]⟩ : ByteArray)))) (
                    bnd (F_acts_name.f n A.2.2.2.2.2.2.2.2.2.2.2.2.2.2.2.2.2.1.2.1) fun u23 =>
                    bnd (F_acts_strip_from.f n u22.1 u23.1) fun u24 =>
                    some (u24.1, ())
                    ) (
                    bnd (F_acts_strip_from.f n u22.1 false) fun u25 =>
                    some (u25.1, ())
                    )
                  ) (
                  bIf ((hide (t8 == (16 : Int)))) (
                    bnd (F_acts_strip_key.f n t) fun u26 =>
                    bnd (F_acts_strip_tags.f n u26.1) fun u27 =>
                    some (u27.1, ())
                    ) (
                    bIf ((hide (t8 == (17 : Int)))) (
                      bnd (F_acts_strip_id.f n t 1) fun u28 =>
                      bnd (F_acts_strip_body.f n u28.1) fun u29 =>
                      bIf ((hide (decide (A.2.2.2.2.2.2.2.2.2.2.2.2.1 ≥ (1 : Int))))) (
                        bnd (F_acts_strip_may.f n u29.1 (hide (decide (A.2.2.2.2.2.2.2.2.2.2.2.2.1 ≤ (10000 : Int))))) fun u30 =>
                        some (((u30.1.1.1, (u30.1.1.2.1, (u30.1.1.2.2.1, (u30.1.1.2.2.2.1, (u30.1.1.2.2.2.2.1, (u30.1.1.2.2.2.2.2.1, (u30.1.1.2.2.2.2.2.2.1, (u30.1.1.2.2.2.2.2.2.2.1, (u30.1.1.2.2.2.2.2.2.2.2.1, (u30.1.1.2.2.2.2.2.2.2.2.2.1, (u30.1.1.2.2.2.2.2.2.2.2.2.2.1, (u30.1.1.2.2.2.2.2.2.2.2.2.2.2.1, (0, u30.1.1.2.2.2.2.2.2.2.2.2.2.2.2.2))))))))))))), u30.1.2), ())
                        ) (
                        bnd (F_acts_strip_may.f n u29.1 false) fun u31 =>
                        some (((u31.1.1.1, (u31.1.1.2.1, (u31.1.1.2.2.1, (u31.1.1.2.2.2.1, (u31.1.1.2.2.2.2.1, (u31.1.1.2.2.2.2.2.1, (u31.1.1.2.2.2.2.2.2.1, (u31.1.1.2.2.2.2.2.2.2.1, (u31.1.1.2.2.2.2.2.2.2.2.1, (u31.1.1.2.2.2.2.2.2.2.2.2.1, (u31.1.1.2.2.2.2.2.2.2.2.2.2.1, (u31.1.1.2.2.2.2.2.2.2.2.2.2.2.1, (0, u31.1.1.2.2.2.2.2.2.2.2.2.2.2.2.2))))))))))))), u31.1.2), ())
                        )
                      ) (
                      bIf ((hide (t8 == (18 : Int)))) (
                        bnd (F_acts_strip_id.f n t 1) fun u32 =>
                        bnd (F_acts_strip_may.f n u32.1 (hide (decide (((A.2.2.2.2.2.2.2.2.2.2.2.2.2.1.length : Nat) : Int) ≤ (16 : Int))))) fun u33 =>
                        some (((u33.1.1.1, (u33.1.1.2.1, (u33.1.1.2.2.1, (u33.1.1.2.2.2.1, (u33.1.1.2.2.2.2.1, (u33.1.1.2.2.2.2.2.1, (u33.1.1.2.2.2.2.2.2.1, (u33.1.1.2.2.2.2.2.2.2.1, (u33.1.1.2.2.2.2.2.2.2.2.1, (u33.1.1.2.2.2.2.2.2.2.2.2.1, (u33.1.1.2.2.2.2.2.2.2.2.2.2.1, (u33.1.1.2.2.2.2.2.2.2.2.2.2.2.1, (u33.1.1.2.2.2.2.2.2.2.2.2.2.2.2.1, ([], u33.1.1.2.2.2.2.2.2.2.2.2.2.2.2.2.2)))))))))))))), u33.1.2), ())
                        ) (
                        bIf ((hide (t8 == (19 : Int)))) (
                          bnd (F_acts_strip_id.f n t 1) fun u34 =>
                          some (u34.1, ())
                          ) (
                          bIf ((hide (t8 == (20 : Int)))) (
                            bnd (F_acts_strip_key.f n t) fun u35 =>
                            bnd (F_label_Bucket.f n A.2.2.2.2.2.2.2.2.2.2.2.2.2.2.2.2.2.1.1) fun u36 =>
                            bIf (u36.1) (
                              bnd (F_label_Key.f n A.2.2.2.2.2.2.2.2.2.2.2.2.2.2.2.2.2.1.2.1) fun u37 =>
                              bIf (u37.1) (
                                bnd (F_acts_strip_from.f n u35.1 (hide (decide (A.2.2.2.2.2.2.2.2.2.2.2.2.2.2.2.2.2.1.2.2.1 ≥ (1 : Int))))) fun u38 =>
                                some (u38.1, ())
                                ) (
                                bnd (F_acts_strip_from.f n u35.1 false) fun u39 =>
                                some (u39.1, ())
                                )
                              ) (
                              bnd (F_acts_strip_from.f n u35.1 false) fun u40 =>
                              some (u40.1, ())
                              )
                            ) (
                            bnd (F_acts_strip_may.f n t false) fun u41 =>
                            some (u41.1, ())
                            )
                          )
                        )
                      )
                    )
                  )
                )
              )
            )
          )
        )
      )
    ) := (hideF_eq _).trans (by kernel_rfl)
theorem e4 (n : Nat) (t : D_acts_strip) : J4 n (t, ()) =
  some (((t.1.1, (t.1.2.1, (t.1.2.2.1, (t.1.2.2.2.1, (t.1.2.2.2.2.1, (t.1.2.2.2.2.2.1, (t.1.2.2.2.2.2.2.1, (t.1.2.2.2.2.2.2.2.1, (t.1.2.2.2.2.2.2.2.2.1, (t.1.2.2.2.2.2.2.2.2.2.1, (t.1.2.2.2.2.2.2.2.2.2.2.1, (t.1.2.2.2.2.2.2.2.2.2.2.2.1, (t.1.2.2.2.2.2.2.2.2.2.2.2.2.1, (t.1.2.2.2.2.2.2.2.2.2.2.2.2.2.1, ((⟨#[]⟩ : ByteArray), (t.1.2.2.2.2.2.2.2.2.2.2.2.2.2.2.2.1, ((⟨#[]⟩ : ByteArray), t.1.2.2.2.2.2.2.2.2.2.2.2.2.2.2.2.2.2))))))))))))))))), t.2), ()) := (hideF_eq _).trans (by kernel_rfl)
theorem phi (n : Nat) : ∀ e ∈ (X n).c.Φ, EntryOk Tryz.prog e := allE_cons (mkEntry_ok (F_label_Bucket.ok n)) (allE_cons (mkEntry_ok (F_acts_strip_may.ok n)) (allE_cons (mkEntry_ok (F_mode_Good.ok n)) (allE_cons (mkEntry_ok (F_entry_Rules.ok n)) (allE_cons (mkEntry_ok (F_entry_Grants.ok n)) (allE_cons (mkEntry_ok (F_acts_strip_key.ok n)) (allE_cons (mkEntry_ok (F_acts_strip_body.ok n)) (allE_cons (mkEntry_ok (F_acts_strip_tags.ok n)) (allE_cons (mkEntry_ok (F_acts_strip_lock.ok n)) (allE_cons (mkEntry_ok (F_acts_strip_id.ok n)) (allE_cons (mkEntry_ok (F_acts_strip_bypass.ok n)) (allE_cons (mkEntry_ok (F_acts_strip_page.ok n)) (allE_cons (mkEntry_ok (F_acts_name.ok n)) (allE_cons (mkEntry_ok (F_acts_strip_from.ok n)) (allE_cons (mkEntry_ok (F_label_Key.ok n)) (allE_nil)))))))))))))))
theorem ok (n : Nat) : FnOk Tryz.prog 132 ia io (fRun (X n) n T Tryz.f132 ia io) := tree_ok mixed tabIs (phi n) Tryz.func132 (by kernel_rfl) rfl
noncomputable def en (n : Nat) : Entry := mkEntry 132 ia io (fRun (X n) n T Tryz.f132 ia io)
end F_acts_strip_own
end Go.Proofs.YtdlkpmohjhjmfaaGreatDoor

namespace Go.Proofs.YtdlkpmohjhjmfaaGreatDoor
open Go Go.Va Go.Proofs
namespace F_acts_Good
abbrev ia : List Ai := [.dat T_api_Request]
abbrev io : List (Nat × Oi) := [(2, .dat .bool)]
abbrev R : Type := DOut ia io
noncomputable def X (n : Nat) : Ctx := ⟨⟨tab, [F_label_Clean.en n, F_acts_anywhere.en n, F_label_Bucket.en n, F_acts_strip_own.en n, F_acts_bare.en n], 0, []⟩, 50, bnOf 0 ia⟩
abbrev g1 : List Si := [.ref 1 1 T_api_Request, .box 1 (.d T_api_Request)]
noncomputable def T : CT := (.s .o (.s .o (.r g1 .o)))
noncomputable def J1 (n : Nat) : D_api_Request × Unit → Option R := jR (X n) n T (bodyOf Tryz.f75) (endK ia io) g1 [1, 1] []
noncomputable def f (n : Nat) (r : D_api_Request) : Option R := fRun (X n) n T Tryz.f75 ia io (r, ())
theorem e0 (n : Nat) (r : D_api_Request) : f n r =
  bIf ((hide (decide ((r.2.1.size : Int) > (64 : Int))))) (
    some (false, ())
    ) (
    bnd (F_label_Clean.f n r.2.1) fun u1 =>
    bIf ((!u1.1)) (
      some (false, ())
      ) (
      bnd (F_acts_anywhere.f n r.1) fun u2 =>
      bIf ((hide (!(u2.1 == (hide (eqS r.2.2.1 (⟨#[]⟩ : ByteArray))))))) (
        some (false, ())
        ) (
        bIf ((hide (!eqS r.2.2.1 (⟨#[]⟩ : ByteArray)))) (
          bnd (F_label_Bucket.f n r.2.2.1) fun u3 =>
          bIf ((!u3.1)) (
            some (false, ())
            ) (
            J1 n (r, ())
            )
          ) (
          J1 n (r, ())
          )
        )
      )
    ) := (hideF_eq _).trans (by kernel_rfl)
theorem e1 (n : Nat) (r : D_api_Request) : J1 n (r, ()) =
  bnd (F_acts_strip_own.f n (r, (true, ()))) fun u1 =>
  bIf (u1.1.2.1) (
    bnd (F_acts_bare.f n u1.1.1) fun u2 =>
    some (u2.1, ())
    ) (
    some (false, ())
    ) := (hideF_eq _).trans (by kernel_rfl)
theorem phi (n : Nat) : ∀ e ∈ (X n).c.Φ, EntryOk Tryz.prog e := allE_cons (mkEntry_ok (F_label_Clean.ok n)) (allE_cons (mkEntry_ok (F_acts_anywhere.ok n)) (allE_cons (mkEntry_ok (F_label_Bucket.ok n)) (allE_cons (mkEntry_ok (F_acts_strip_own.ok n)) (allE_cons (mkEntry_ok (F_acts_bare.ok n)) (allE_nil)))))
theorem ok (n : Nat) : FnOk Tryz.prog 75 ia io (fRun (X n) n T Tryz.f75 ia io) := tree_ok mixed tabIs (phi n) Tryz.func75 (by kernel_rfl) rfl
noncomputable def en (n : Nat) : Entry := mkEntry 75 ia io (fRun (X n) n T Tryz.f75 ia io)
end F_acts_Good
end Go.Proofs.YtdlkpmohjhjmfaaGreatDoor

namespace Go.Proofs.YtdlkpmohjhjmfaaGreatDoor
open Go Go.Va Go.Proofs
namespace F_pack_New
abbrev ia : List Ai := []
abbrev io : List (Nat × Oi) := [(0, .new 0 (.p (.r 0 (.int .u8)) (.d .unit)))]
abbrev R : Type := DOut ia io
noncomputable def X (n : Nat) : Ctx := ⟨⟨tab, [], 0, []⟩, 3, bnOf 0 ia⟩
noncomputable def T : CT := .o
noncomputable def f (n : Nat) : Option R := fRun (X n) n T Tryz.f116 ia io (())
theorem e0 (n : Nat) : f n =
  some (([], ()), ()) := (hideF_eq _).trans (by kernel_rfl)
theorem phi (n : Nat) : ∀ e ∈ (X n).c.Φ, EntryOk Tryz.prog e := allE_nil
theorem ok (n : Nat) : FnOk Tryz.prog 116 ia io (fRun (X n) n T Tryz.f116 ia io) := tree_ok mixed tabIs (phi n) Tryz.func116 (by kernel_rfl) rfl
noncomputable def en (n : Nat) : Entry := mkEntry 116 ia io (fRun (X n) n T Tryz.f116 ia io)
end F_pack_New
end Go.Proofs.YtdlkpmohjhjmfaaGreatDoor

namespace Go.Proofs.YtdlkpmohjhjmfaaGreatDoor
open Go Go.Va Go.Proofs
namespace F_entry_NewWriter
abbrev ia : List Ai := []
abbrev io : List (Nat × Oi) := [(0, .newc 1 (.p (.r 0 (.int .u8)) (.d .unit)))]
abbrev R : Type := DOut ia io
noncomputable def X (n : Nat) : Ctx := ⟨⟨tab, [F_pack_New.en n], 0, []⟩, 3, bnOf 0 ia⟩
noncomputable def T : CT := .o
noncomputable def f (n : Nat) : Option R := fRun (X n) n T Tryz.f57 ia io (())
theorem e0 (n : Nat) : f n =
  bnd (F_pack_New.f n) fun u1 =>
  some ((u1.1.1, u1.1.2), ()) := (hideF_eq _).trans (by kernel_rfl)
theorem phi (n : Nat) : ∀ e ∈ (X n).c.Φ, EntryOk Tryz.prog e := allE_cons (mkEntry_ok (F_pack_New.ok n)) (allE_nil)
theorem ok (n : Nat) : FnOk Tryz.prog 57 ia io (fRun (X n) n T Tryz.f57 ia io) := tree_ok mixed tabIs (phi n) Tryz.func57 (by kernel_rfl) rfl
noncomputable def en (n : Nat) : Entry := mkEntry 57 ia io (fRun (X n) n T Tryz.f57 ia io)
end F_entry_NewWriter
end Go.Proofs.YtdlkpmohjhjmfaaGreatDoor

namespace Go.Proofs.YtdlkpmohjhjmfaaGreatDoor
open Go Go.Va Go.Proofs
namespace F_wire_none
abbrev ia : List Ai := [.dat T_api_Version]
abbrev io : List (Nat × Oi) := [(2, .dat .bool)]
abbrev R : Type := DOut ia io
noncomputable def X (n : Nat) : Ctx := ⟨⟨tab, [F_object_SameVersion.en n], 0, []⟩, 6, bnOf 0 ia⟩
noncomputable def T : CT := .o
noncomputable def f (n : Nat) (v_ : D_api_Version) : Option R := fRun (X n) n T Tryz.f107 ia io (v_, ())
theorem e0 (n : Nat) (v_ : D_api_Version) : f n v_ =
  bnd (F_object_SameVersion.f n v_ (0, (false, (0, (0, ((List.replicate 32 0), (0, ((0, (0, (false, ()))), ([], ()))))))))) fun u1 =>
  some (u1.1, ()) := (hideF_eq _).trans (by kernel_rfl)
theorem phi (n : Nat) : ∀ e ∈ (X n).c.Φ, EntryOk Tryz.prog e := allE_cons (mkEntry_ok (F_object_SameVersion.ok n)) (allE_nil)
theorem ok (n : Nat) : FnOk Tryz.prog 107 ia io (fRun (X n) n T Tryz.f107 ia io) := tree_ok mixed tabIs (phi n) Tryz.func107 (by kernel_rfl) rfl
noncomputable def en (n : Nat) : Entry := mkEntry 107 ia io (fRun (X n) n T Tryz.f107 ia io)
end F_wire_none
end Go.Proofs.YtdlkpmohjhjmfaaGreatDoor

namespace Go.Proofs.YtdlkpmohjhjmfaaGreatDoor
open Go Go.Va Go.Proofs
namespace F_wire_goodRow
abbrev ia : List Ai := [.dat T_api_Row]
abbrev io : List (Nat × Oi) := [(2, .dat .bool)]
abbrev R : Type := DOut ia io
noncomputable def X (n : Nat) : Ctx := ⟨⟨tab, [F_wire_none.en n, F_object_Good.en n], 0, []⟩, 20, bnOf 0 ia⟩
noncomputable def T : CT := .o
noncomputable def f (n : Nat) (r : D_api_Row) : Option R := fRun (X n) n T Tryz.f111 ia io (r, ())
theorem e0 (n : Nat) (r : D_api_Row) : f n r =
  bIf ((hide (decide ((r.1.size : Int) > (200 : Int))))) (
    some (false, ())
    ) (
    bIf (r.2.1) (
      bIf ((!r.2.2.2.1)) (
        bnd (F_wire_none.f n r.2.2.1) fun u1 =>
        some (u1.1, ())
        ) (
        some (false, ())
        )
      ) (
      bnd (F_object_Good.f n r.2.2.1) fun u2 =>
      some (u2.1, ())
      )
    ) := (hideF_eq _).trans (by kernel_rfl)
theorem phi (n : Nat) : ∀ e ∈ (X n).c.Φ, EntryOk Tryz.prog e := allE_cons (mkEntry_ok (F_wire_none.ok n)) (allE_cons (mkEntry_ok (F_object_Good.ok n)) (allE_nil))
theorem ok (n : Nat) : FnOk Tryz.prog 111 ia io (fRun (X n) n T Tryz.f111 ia io) := tree_ok mixed tabIs (phi n) Tryz.func111 (by kernel_rfl) rfl
noncomputable def en (n : Nat) : Entry := mkEntry 111 ia io (fRun (X n) n T Tryz.f111 ia io)
end F_wire_goodRow
end Go.Proofs.YtdlkpmohjhjmfaaGreatDoor

namespace Go.Proofs.YtdlkpmohjhjmfaaGreatDoor
open Go Go.Va Go.Proofs
namespace F_wire_good_1
abbrev ia : List Ai := [.dat T_api_Row]
abbrev io : List (Nat × Oi) := [(2, .dat .bool)]
abbrev R : Type := DOut ia io
noncomputable def X (n : Nat) : Ctx := ⟨⟨tab, [F_wire_goodRow.en n], 0, []⟩, 6, bnOf 0 ia⟩
noncomputable def T : CT := .o
noncomputable def f (n : Nat) (x_ : D_api_Row) : Option R := fRun (X n) n T Tryz.f110 ia io (x_, ())
theorem e0 (n : Nat) (x_ : D_api_Row) : f n x_ =
  bnd (F_wire_goodRow.f n x_) fun u1 =>
  some ((!u1.1), ()) := (hideF_eq _).trans (by kernel_rfl)
theorem phi (n : Nat) : ∀ e ∈ (X n).c.Φ, EntryOk Tryz.prog e := allE_cons (mkEntry_ok (F_wire_goodRow.ok n)) (allE_nil)
theorem ok (n : Nat) : FnOk Tryz.prog 110 ia io (fRun (X n) n T Tryz.f110 ia io) := tree_ok mixed tabIs (phi n) Tryz.func110 (by kernel_rfl) rfl
noncomputable def en (n : Nat) : Entry := mkEntry 110 ia io (fRun (X n) n T Tryz.f110 ia io)
end F_wire_good_1
end Go.Proofs.YtdlkpmohjhjmfaaGreatDoor

namespace Go.Proofs.YtdlkpmohjhjmfaaGreatDoor
open Go Go.Va Go.Proofs
namespace F_slices_IndexFunc_Row
abbrev ia : List Ai := [.dat (.slice T_api_Row), .fn (.fn 110) []]
abbrev io : List (Nat × Oi) := [(4, .dat (.int .i64))]
abbrev R : Type := DOut ia io
noncomputable def X (n : Nat) : Ctx := ⟨⟨tab, [F_wire_good_1.en n], 0, []⟩, 19, bnOf 0 ia⟩
abbrev g1 : List Si := [.dat 0 (.slice T_api_Row), .clo 1 (.fn 110) [], .dat 7 (.int .i64), .dat 8 (.int .i64)]
abbrev g2 : List Si := []
noncomputable def T : CT := (.s .o (.s (.s .o (.b (.l g1 .o))) (.r g2 .o)))
noncomputable def J1 (n : Nat) (m : Nat) : (List (D_api_Row)) × Int × Int × Unit → Option R := jL (X n) n T (bodyOf Tryz.f173) (endK ia io) g1 [1, 0, 1, 0] [] m
noncomputable def J2 (n : Nat) : Unit → Option R := jR (X n) n T (bodyOf Tryz.f173) (endK ia io) g2 [1, 1] []
noncomputable def f (n : Nat) (s_ : List (D_api_Row)) : Option R := fRun (X n) n T Tryz.f173 ia io (s_, ())
theorem e0 (n : Nat) (s_ : List (D_api_Row)) : f n s_ =
  J1 n n (s_, ((s_.length : Nat) : Int), 0, ()) := (hideF_eq _).trans (by kernel_rfl)
theorem e1 (n m : Nat) (s_ : List (D_api_Row)) (t7 : Int) (t8 : Int) : J1 n (m + 1) (s_, t7, t8, ()) =
  bIf ((hide (decide (t8 < t7)))) (
    gIf (0 ≤ t8 ∧ t8 < ((s_.length : Nat) : Int)) (
      bnd (F_wire_good_1.f n (List.getD s_ t8.toNat (Va.dflt T_api_Row))) fun u1 =>
      bIf (u1.1) (
        some (t8, ())
        ) (
        J1 n m (s_, t7, (IntKind.i64.wrap (t8 + (1 : Int))), ())
        )
      )
    ) (
    J2 n (())
    ) := (hideF_eq _).trans (by kernel_rfl)
theorem e2 (n : Nat) : J2 n (()) =
  some ((-1), ()) := (hideF_eq _).trans (by kernel_rfl)
theorem phi (n : Nat) : ∀ e ∈ (X n).c.Φ, EntryOk Tryz.prog e := allE_cons (mkEntry_ok (F_wire_good_1.ok n)) (allE_nil)
theorem ok (n : Nat) : FnOk Tryz.prog 173 ia io (fRun (X n) n T Tryz.f173 ia io) := tree_ok mixed tabIs (phi n) Tryz.func173 (by kernel_rfl) rfl
noncomputable def en (n : Nat) : Entry := mkEntry 173 ia io (fRun (X n) n T Tryz.f173 ia io)
end F_slices_IndexFunc_Row
end Go.Proofs.YtdlkpmohjhjmfaaGreatDoor

namespace Go.Proofs.YtdlkpmohjhjmfaaGreatDoor
open Go Go.Va Go.Proofs
namespace F_slices_ContainsFunc_Row
abbrev ia : List Ai := [.dat (.slice T_api_Row), .fn (.fn 110) []]
abbrev io : List (Nat × Oi) := [(4, .dat .bool)]
abbrev R : Type := DOut ia io
noncomputable def X (n : Nat) : Ctx := ⟨⟨tab, [F_slices_IndexFunc_Row.en n], 0, []⟩, 9, bnOf 0 ia⟩
noncomputable def T : CT := .o
noncomputable def f (n : Nat) (s_ : List (D_api_Row)) : Option R := fRun (X n) n T Tryz.f109 ia io (s_, ())
theorem e0 (n : Nat) (s_ : List (D_api_Row)) : f n s_ =
  bnd (F_slices_IndexFunc_Row.f n s_) fun u1 =>
  some ((hide (decide (u1.1 ≥ (0 : Int)))), ()) := (hideF_eq _).trans (by kernel_rfl)
theorem phi (n : Nat) : ∀ e ∈ (X n).c.Φ, EntryOk Tryz.prog e := allE_cons (mkEntry_ok (F_slices_IndexFunc_Row.ok n)) (allE_nil)
theorem ok (n : Nat) : FnOk Tryz.prog 109 ia io (fRun (X n) n T Tryz.f109 ia io) := tree_ok mixed tabIs (phi n) Tryz.func109 (by kernel_rfl) rfl
noncomputable def en (n : Nat) : Entry := mkEntry 109 ia io (fRun (X n) n T Tryz.f109 ia io)
end F_slices_ContainsFunc_Row
end Go.Proofs.YtdlkpmohjhjmfaaGreatDoor

namespace Go.Proofs.YtdlkpmohjhjmfaaGreatDoor
open Go Go.Va Go.Proofs
namespace F_wire_good_2
abbrev ia : List Ai := [.dat (.int .i64)]
abbrev io : List (Nat × Oi) := [(2, .dat .bool)]
abbrev R : Type := DOut ia io
noncomputable def X (n : Nat) : Ctx := ⟨⟨tab, [], 0, []⟩, 5, bnOf 0 ia⟩
noncomputable def T : CT := .o
noncomputable def f (n : Nat) (n_ : Int) : Option R := fRun (X n) n T Tryz.f113 ia io (n_, ())
theorem e0 (n : Nat) (n_ : Int) : f n n_ =
  some ((hide (decide (n_ < (0 : Int)))), ()) := (hideF_eq _).trans (by kernel_rfl)
theorem phi (n : Nat) : ∀ e ∈ (X n).c.Φ, EntryOk Tryz.prog e := allE_nil
theorem ok (n : Nat) : FnOk Tryz.prog 113 ia io (fRun (X n) n T Tryz.f113 ia io) := tree_ok mixed tabIs (phi n) Tryz.func113 (by kernel_rfl) rfl
noncomputable def en (n : Nat) : Entry := mkEntry 113 ia io (fRun (X n) n T Tryz.f113 ia io)
end F_wire_good_2
end Go.Proofs.YtdlkpmohjhjmfaaGreatDoor

namespace Go.Proofs.YtdlkpmohjhjmfaaGreatDoor
open Go Go.Va Go.Proofs
namespace F_slices_IndexFunc_int
abbrev ia : List Ai := [.dat (.slice (.int .i64)), .fn (.fn 113) []]
abbrev io : List (Nat × Oi) := [(4, .dat (.int .i64))]
abbrev R : Type := DOut ia io
noncomputable def X (n : Nat) : Ctx := ⟨⟨tab, [F_wire_good_2.en n], 0, []⟩, 19, bnOf 0 ia⟩
abbrev g1 : List Si := [.dat 0 (.slice (.int .i64)), .clo 1 (.fn 113) [], .dat 7 (.int .i64), .dat 8 (.int .i64)]
abbrev g2 : List Si := []
noncomputable def T : CT := (.s .o (.s (.s .o (.b (.l g1 .o))) (.r g2 .o)))
noncomputable def J1 (n : Nat) (m : Nat) : (List (Int)) × Int × Int × Unit → Option R := jL (X n) n T (bodyOf Tryz.f174) (endK ia io) g1 [1, 0, 1, 0] [] m
noncomputable def J2 (n : Nat) : Unit → Option R := jR (X n) n T (bodyOf Tryz.f174) (endK ia io) g2 [1, 1] []
noncomputable def f (n : Nat) (s_ : List (Int)) : Option R := fRun (X n) n T Tryz.f174 ia io (s_, ())
theorem e0 (n : Nat) (s_ : List (Int)) : f n s_ =
  J1 n n (s_, ((s_.length : Nat) : Int), 0, ()) := (hideF_eq _).trans (by kernel_rfl)
theorem e1 (n m : Nat) (s_ : List (Int)) (t7 : Int) (t8 : Int) : J1 n (m + 1) (s_, t7, t8, ()) =
  bIf ((hide (decide (t8 < t7)))) (
    gIf (0 ≤ t8 ∧ t8 < ((s_.length : Nat) : Int)) (
      bnd (F_wire_good_2.f n (List.getD s_ t8.toNat 0)) fun u1 =>
      bIf (u1.1) (
        some (t8, ())
        ) (
        J1 n m (s_, t7, (IntKind.i64.wrap (t8 + (1 : Int))), ())
        )
      )
    ) (
    J2 n (())
    ) := (hideF_eq _).trans (by kernel_rfl)
theorem e2 (n : Nat) : J2 n (()) =
  some ((-1), ()) := (hideF_eq _).trans (by kernel_rfl)
theorem phi (n : Nat) : ∀ e ∈ (X n).c.Φ, EntryOk Tryz.prog e := allE_cons (mkEntry_ok (F_wire_good_2.ok n)) (allE_nil)
theorem ok (n : Nat) : FnOk Tryz.prog 174 ia io (fRun (X n) n T Tryz.f174 ia io) := tree_ok mixed tabIs (phi n) Tryz.func174 (by kernel_rfl) rfl
noncomputable def en (n : Nat) : Entry := mkEntry 174 ia io (fRun (X n) n T Tryz.f174 ia io)
end F_slices_IndexFunc_int
end Go.Proofs.YtdlkpmohjhjmfaaGreatDoor

namespace Go.Proofs.YtdlkpmohjhjmfaaGreatDoor
open Go Go.Va Go.Proofs
namespace F_slices_ContainsFunc_int
abbrev ia : List Ai := [.dat (.slice (.int .i64)), .fn (.fn 113) []]
abbrev io : List (Nat × Oi) := [(4, .dat .bool)]
abbrev R : Type := DOut ia io
noncomputable def X (n : Nat) : Ctx := ⟨⟨tab, [F_slices_IndexFunc_int.en n], 0, []⟩, 9, bnOf 0 ia⟩
noncomputable def T : CT := .o
noncomputable def f (n : Nat) (s_ : List (Int)) : Option R := fRun (X n) n T Tryz.f112 ia io (s_, ())
theorem e0 (n : Nat) (s_ : List (Int)) : f n s_ =
  bnd (F_slices_IndexFunc_int.f n s_) fun u1 =>
  some ((hide (decide (u1.1 ≥ (0 : Int)))), ()) := (hideF_eq _).trans (by kernel_rfl)
theorem phi (n : Nat) : ∀ e ∈ (X n).c.Φ, EntryOk Tryz.prog e := allE_cons (mkEntry_ok (F_slices_IndexFunc_int.ok n)) (allE_nil)
theorem ok (n : Nat) : FnOk Tryz.prog 112 ia io (fRun (X n) n T Tryz.f112 ia io) := tree_ok mixed tabIs (phi n) Tryz.func112 (by kernel_rfl) rfl
noncomputable def en (n : Nat) : Entry := mkEntry 112 ia io (fRun (X n) n T Tryz.f112 ia io)
end F_slices_ContainsFunc_int
end Go.Proofs.YtdlkpmohjhjmfaaGreatDoor

namespace Go.Proofs.YtdlkpmohjhjmfaaGreatDoor
open Go Go.Va Go.Proofs
namespace F_wire_good_3
abbrev ia : List Ai := [.dat .str]
abbrev io : List (Nat × Oi) := [(2, .dat .bool)]
abbrev R : Type := DOut ia io
noncomputable def X (n : Nat) : Ctx := ⟨⟨tab, [], 0, []⟩, 6, bnOf 0 ia⟩
noncomputable def T : CT := .o
noncomputable def f (n : Nat) (s_ : ByteArray) : Option R := fRun (X n) n T Tryz.f115 ia io (s_, ())
theorem e0 (n : Nat) (s_ : ByteArray) : f n s_ =
  some ((hide (decide ((s_.size : Int) > (63 : Int)))), ()) := (hideF_eq _).trans (by kernel_rfl)
theorem phi (n : Nat) : ∀ e ∈ (X n).c.Φ, EntryOk Tryz.prog e := allE_nil
theorem ok (n : Nat) : FnOk Tryz.prog 115 ia io (fRun (X n) n T Tryz.f115 ia io) := tree_ok mixed tabIs (phi n) Tryz.func115 (by kernel_rfl) rfl
noncomputable def en (n : Nat) : Entry := mkEntry 115 ia io (fRun (X n) n T Tryz.f115 ia io)
end F_wire_good_3
end Go.Proofs.YtdlkpmohjhjmfaaGreatDoor

namespace Go.Proofs.YtdlkpmohjhjmfaaGreatDoor
open Go Go.Va Go.Proofs
namespace F_slices_IndexFunc_string
abbrev ia : List Ai := [.dat (.slice .str), .fn (.fn 115) []]
abbrev io : List (Nat × Oi) := [(4, .dat (.int .i64))]
abbrev R : Type := DOut ia io
noncomputable def X (n : Nat) : Ctx := ⟨⟨tab, [F_wire_good_3.en n], 0, []⟩, 19, bnOf 0 ia⟩
abbrev g1 : List Si := [.dat 0 (.slice .str), .clo 1 (.fn 115) [], .dat 7 (.int .i64), .dat 8 (.int .i64)]
abbrev g2 : List Si := []
noncomputable def T : CT := (.s .o (.s (.s .o (.b (.l g1 .o))) (.r g2 .o)))
noncomputable def J1 (n : Nat) (m : Nat) : (List (ByteArray)) × Int × Int × Unit → Option R := jL (X n) n T (bodyOf Tryz.f175) (endK ia io) g1 [1, 0, 1, 0] [] m
noncomputable def J2 (n : Nat) : Unit → Option R := jR (X n) n T (bodyOf Tryz.f175) (endK ia io) g2 [1, 1] []
noncomputable def f (n : Nat) (s_ : List (ByteArray)) : Option R := fRun (X n) n T Tryz.f175 ia io (s_, ())
theorem e0 (n : Nat) (s_ : List (ByteArray)) : f n s_ =
  J1 n n (s_, ((s_.length : Nat) : Int), 0, ()) := (hideF_eq _).trans (by kernel_rfl)
theorem e1 (n m : Nat) (s_ : List (ByteArray)) (t7 : Int) (t8 : Int) : J1 n (m + 1) (s_, t7, t8, ()) =
  bIf ((hide (decide (t8 < t7)))) (
    gIf (0 ≤ t8 ∧ t8 < ((s_.length : Nat) : Int)) (
      bnd (F_wire_good_3.f n (List.getD s_ t8.toNat (⟨#[]⟩ : ByteArray))) fun u1 =>
      bIf (u1.1) (
        some (t8, ())
        ) (
        J1 n m (s_, t7, (IntKind.i64.wrap (t8 + (1 : Int))), ())
        )
      )
    ) (
    J2 n (())
    ) := (hideF_eq _).trans (by kernel_rfl)
theorem e2 (n : Nat) : J2 n (()) =
  some ((-1), ()) := (hideF_eq _).trans (by kernel_rfl)
theorem phi (n : Nat) : ∀ e ∈ (X n).c.Φ, EntryOk Tryz.prog e := allE_cons (mkEntry_ok (F_wire_good_3.ok n)) (allE_nil)
theorem ok (n : Nat) : FnOk Tryz.prog 175 ia io (fRun (X n) n T Tryz.f175 ia io) := tree_ok mixed tabIs (phi n) Tryz.func175 (by kernel_rfl) rfl
noncomputable def en (n : Nat) : Entry := mkEntry 175 ia io (fRun (X n) n T Tryz.f175 ia io)
end F_slices_IndexFunc_string
end Go.Proofs.YtdlkpmohjhjmfaaGreatDoor

namespace Go.Proofs.YtdlkpmohjhjmfaaGreatDoor
open Go Go.Va Go.Proofs
namespace F_slices_ContainsFunc_string
abbrev ia : List Ai := [.dat (.slice .str), .fn (.fn 115) []]
abbrev io : List (Nat × Oi) := [(4, .dat .bool)]
abbrev R : Type := DOut ia io
noncomputable def X (n : Nat) : Ctx := ⟨⟨tab, [F_slices_IndexFunc_string.en n], 0, []⟩, 9, bnOf 0 ia⟩
noncomputable def T : CT := .o
noncomputable def f (n : Nat) (s_ : List (ByteArray)) : Option R := fRun (X n) n T Tryz.f114 ia io (s_, ())
theorem e0 (n : Nat) (s_ : List (ByteArray)) : f n s_ =
  bnd (F_slices_IndexFunc_string.f n s_) fun u1 =>
  some ((hide (decide (u1.1 ≥ (0 : Int)))), ()) := (hideF_eq _).trans (by kernel_rfl)
theorem phi (n : Nat) : ∀ e ∈ (X n).c.Φ, EntryOk Tryz.prog e := allE_cons (mkEntry_ok (F_slices_IndexFunc_string.ok n)) (allE_nil)
theorem ok (n : Nat) : FnOk Tryz.prog 114 ia io (fRun (X n) n T Tryz.f114 ia io) := tree_ok mixed tabIs (phi n) Tryz.func114 (by kernel_rfl) rfl
noncomputable def en (n : Nat) : Entry := mkEntry 114 ia io (fRun (X n) n T Tryz.f114 ia io)
end F_slices_ContainsFunc_string
end Go.Proofs.YtdlkpmohjhjmfaaGreatDoor

namespace Go.Proofs.YtdlkpmohjhjmfaaGreatDoor
open Go Go.Va Go.Proofs
namespace F_wire_sameRow
abbrev ia : List Ai := [.dat T_api_Row, .dat T_api_Row]
abbrev io : List (Nat × Oi) := [(4, .dat .bool)]
abbrev R : Type := DOut ia io
noncomputable def X (n : Nat) : Ctx := ⟨⟨tab, [F_object_SameVersion.en n], 0, []⟩, 31, bnOf 0 ia⟩
noncomputable def T : CT := .o
noncomputable def f (n : Nat) (a : D_api_Row) (b : D_api_Row) : Option R := fRun (X n) n T Tryz.f168 ia io (a, b, ())
theorem e0 (n : Nat) (a : D_api_Row) (b : D_api_Row) : f n a b =
  bIf ((hide (eqS a.1 b.1))) (
    bIf ((hide (a.2.1 == b.2.1))) (
      bIf ((hide (a.2.2.2.1 == b.2.2.2.1))) (
        bnd (F_object_SameVersion.f n a.2.2.1 b.2.2.1) fun u1 =>
        some (u1.1, ())
        ) (
        some (false, ())
        )
      ) (
      some (false, ())
      )
    ) (
    some (false, ())
    ) := (hideF_eq _).trans (by kernel_rfl)
theorem phi (n : Nat) : ∀ e ∈ (X n).c.Φ, EntryOk Tryz.prog e := allE_cons (mkEntry_ok (F_object_SameVersion.ok n)) (allE_nil)
theorem ok (n : Nat) : FnOk Tryz.prog 168 ia io (fRun (X n) n T Tryz.f168 ia io) := tree_ok mixed tabIs (phi n) Tryz.func168 (by kernel_rfl) rfl
noncomputable def en (n : Nat) : Entry := mkEntry 168 ia io (fRun (X n) n T Tryz.f168 ia io)
end F_wire_sameRow
end Go.Proofs.YtdlkpmohjhjmfaaGreatDoor

namespace Go.Proofs.YtdlkpmohjhjmfaaGreatDoor
open Go Go.Va Go.Proofs
namespace F_slices_EqualFunc_Row
abbrev ia : List Ai := [.dat (.slice T_api_Row), .dat (.slice T_api_Row), .fn (.fn 168) []]
abbrev io : List (Nat × Oi) := [(6, .dat .bool)]
abbrev R : Type := DOut ia io
noncomputable def X (n : Nat) : Ctx := ⟨⟨tab, [F_wire_sameRow.en n], 0, []⟩, 32, bnOf 0 ia⟩
abbrev g1 : List Si := [.dat 1 (.slice T_api_Row), .clo 2 (.fn 168) [], .dat 15 (.slice T_api_Row), .dat 16 (.int .i64), .dat 17 (.int .i64)]
abbrev g2 : List Si := []
noncomputable def T : CT := (.s .o (.s .o (.s (.s .o (.b (.l g1 .o))) (.r g2 .o))))
noncomputable def J1 (n : Nat) (m : Nat) : (List (D_api_Row)) × (List (D_api_Row)) × Int × Int × Unit → Option R := jL (X n) n T (bodyOf Tryz.f167) (endK ia io) g1 [1, 1, 0, 1, 0] [] m
noncomputable def J2 (n : Nat) : Unit → Option R := jR (X n) n T (bodyOf Tryz.f167) (endK ia io) g2 [1, 1, 1] []
noncomputable def f (n : Nat) (s1 : List (D_api_Row)) (s2 : List (D_api_Row)) : Option R := fRun (X n) n T Tryz.f167 ia io (s1, s2, ())
theorem e0 (n : Nat) (s1 : List (D_api_Row)) (s2 : List (D_api_Row)) : f n s1 s2 =
  bIf ((hide (((s1.length : Nat) : Int) != ((s2.length : Nat) : Int)))) (
    some (false, ())
    ) (
    J1 n n (s2, s1, ((s1.length : Nat) : Int), 0, ())
    ) := (hideF_eq _).trans (by kernel_rfl)
theorem e1 (n m : Nat) (s2 : List (D_api_Row)) (t15 : List (D_api_Row)) (t16 : Int) (t17 : Int) : J1 n (m + 1) (s2, t15, t16, t17, ()) =
  bIf ((hide (decide (t17 < t16)))) (
    gIf (0 ≤ t17 ∧ t17 < ((t15.length : Nat) : Int)) (
      gIf (0 ≤ t17 ∧ t17 < ((s2.length : Nat) : Int)) (
        bnd (F_wire_sameRow.f n (List.getD t15 t17.toNat (Va.dflt T_api_Row)) (List.getD s2 t17.toNat (Va.dflt T_api_Row))) fun u1 =>
        bIf ((!u1.1)) (
          some (false, ())
          ) (
          J1 n m (s2, t15, t16, (IntKind.i64.wrap (t17 + (1 : Int))), ())
          )
        )
      )
    ) (
    J2 n (())
    ) := (hideF_eq _).trans (by kernel_rfl)
theorem e2 (n : Nat) : J2 n (()) =
  some (true, ()) := (hideF_eq _).trans (by kernel_rfl)
theorem phi (n : Nat) : ∀ e ∈ (X n).c.Φ, EntryOk Tryz.prog e := allE_cons (mkEntry_ok (F_wire_sameRow.ok n)) (allE_nil)
theorem ok (n : Nat) : FnOk Tryz.prog 167 ia io (fRun (X n) n T Tryz.f167 ia io) := tree_ok mixed tabIs (phi n) Tryz.func167 (by kernel_rfl) rfl
noncomputable def en (n : Nat) : Entry := mkEntry 167 ia io (fRun (X n) n T Tryz.f167 ia io)
end F_slices_EqualFunc_Row
end Go.Proofs.YtdlkpmohjhjmfaaGreatDoor

namespace Go.Proofs.YtdlkpmohjhjmfaaGreatDoor
open Go Go.Va Go.Proofs
namespace F_slices_Equal_int
abbrev ia : List Ai := [.dat (.slice (.int .i64)), .dat (.slice (.int .i64))]
abbrev io : List (Nat × Oi) := [(4, .dat .bool)]
abbrev R : Type := DOut ia io
noncomputable def X (n : Nat) : Ctx := ⟨⟨tab, [], 0, []⟩, 26, bnOf 0 ia⟩
abbrev g1 : List Si := [.dat 0 (.slice (.int .i64)), .dat 1 (.slice (.int .i64)), .dat 12 (.int .i64), .dat 13 (.int .i64)]
abbrev g2 : List Si := []
noncomputable def T : CT := (.s .o (.s .o (.s (.s .o (.b (.l g1 .o))) (.r g2 .o))))
noncomputable def J1 (n : Nat) (m : Nat) : (List (Int)) × (List (Int)) × Int × Int × Unit → Option R := jL (X n) n T (bodyOf Tryz.f142) (endK ia io) g1 [1, 1, 0, 1, 0] [] m
noncomputable def J2 (n : Nat) : Unit → Option R := jR (X n) n T (bodyOf Tryz.f142) (endK ia io) g2 [1, 1, 1] []
noncomputable def f (n : Nat) (s1 : List (Int)) (s2 : List (Int)) : Option R := fRun (X n) n T Tryz.f142 ia io (s1, s2, ())
theorem e0 (n : Nat) (s1 : List (Int)) (s2 : List (Int)) : f n s1 s2 =
  bIf ((hide (((s1.length : Nat) : Int) != ((s2.length : Nat) : Int)))) (
    some (false, ())
    ) (
    J1 n n (s1, s2, ((s1.length : Nat) : Int), 0, ())
    ) := (hideF_eq _).trans (by kernel_rfl)
theorem e1 (n m : Nat) (s1 : List (Int)) (s2 : List (Int)) (t12 : Int) (t13 : Int) : J1 n (m + 1) (s1, s2, t12, t13, ()) =
  bIf ((hide (decide (t13 < t12)))) (
    gIf (0 ≤ t13 ∧ t13 < ((s1.length : Nat) : Int)) (
      gIf (0 ≤ t13 ∧ t13 < ((s2.length : Nat) : Int)) (
        bIf ((hide ((List.getD s1 t13.toNat 0) != (List.getD s2 t13.toNat 0)))) (
          some (false, ())
          ) (
          J1 n m (s1, s2, t12, (IntKind.i64.wrap (t13 + (1 : Int))), ())
          )
        )
      )
    ) (
    J2 n (())
    ) := (hideF_eq _).trans (by kernel_rfl)
theorem e2 (n : Nat) : J2 n (()) =
  some (true, ()) := (hideF_eq _).trans (by kernel_rfl)
theorem phi (n : Nat) : ∀ e ∈ (X n).c.Φ, EntryOk Tryz.prog e := allE_nil
theorem ok (n : Nat) : FnOk Tryz.prog 142 ia io (fRun (X n) n T Tryz.f142 ia io) := tree_ok mixed tabIs (phi n) Tryz.func142 (by kernel_rfl) rfl
noncomputable def en (n : Nat) : Entry := mkEntry 142 ia io (fRun (X n) n T Tryz.f142 ia io)
end F_slices_Equal_int
end Go.Proofs.YtdlkpmohjhjmfaaGreatDoor

namespace Go.Proofs.YtdlkpmohjhjmfaaGreatDoor
open Go Go.Va Go.Proofs
namespace F_slices_Equal_string
abbrev ia : List Ai := [.dat (.slice .str), .dat (.slice .str)]
abbrev io : List (Nat × Oi) := [(4, .dat .bool)]
abbrev R : Type := DOut ia io
noncomputable def X (n : Nat) : Ctx := ⟨⟨tab, [], 0, []⟩, 26, bnOf 0 ia⟩
abbrev g1 : List Si := [.dat 0 (.slice .str), .dat 1 (.slice .str), .dat 12 (.int .i64), .dat 13 (.int .i64)]
abbrev g2 : List Si := []
noncomputable def T : CT := (.s .o (.s .o (.s (.s .o (.b (.l g1 .o))) (.r g2 .o))))
noncomputable def J1 (n : Nat) (m : Nat) : (List (ByteArray)) × (List (ByteArray)) × Int × Int × Unit → Option R := jL (X n) n T (bodyOf Tryz.f169) (endK ia io) g1 [1, 1, 0, 1, 0] [] m
noncomputable def J2 (n : Nat) : Unit → Option R := jR (X n) n T (bodyOf Tryz.f169) (endK ia io) g2 [1, 1, 1] []
noncomputable def f (n : Nat) (s1 : List (ByteArray)) (s2 : List (ByteArray)) : Option R := fRun (X n) n T Tryz.f169 ia io (s1, s2, ())
theorem e0 (n : Nat) (s1 : List (ByteArray)) (s2 : List (ByteArray)) : f n s1 s2 =
  bIf ((hide (((s1.length : Nat) : Int) != ((s2.length : Nat) : Int)))) (
    some (false, ())
    ) (
    J1 n n (s1, s2, ((s1.length : Nat) : Int), 0, ())
    ) := (hideF_eq _).trans (by kernel_rfl)
theorem e1 (n m : Nat) (s1 : List (ByteArray)) (s2 : List (ByteArray)) (t12 : Int) (t13 : Int) : J1 n (m + 1) (s1, s2, t12, t13, ()) =
  bIf ((hide (decide (t13 < t12)))) (
    gIf (0 ≤ t13 ∧ t13 < ((s1.length : Nat) : Int)) (
      gIf (0 ≤ t13 ∧ t13 < ((s2.length : Nat) : Int)) (
        bIf ((hide (!eqS (List.getD s1 t13.toNat (⟨#[]⟩ : ByteArray)) (List.getD s2 t13.toNat (⟨#[]⟩ : ByteArray))))) (
          some (false, ())
          ) (
          J1 n m (s1, s2, t12, (IntKind.i64.wrap (t13 + (1 : Int))), ())
          )
        )
      )
    ) (
    J2 n (())
    ) := (hideF_eq _).trans (by kernel_rfl)
theorem e2 (n : Nat) : J2 n (()) =
  some (true, ()) := (hideF_eq _).trans (by kernel_rfl)
theorem phi (n : Nat) : ∀ e ∈ (X n).c.Φ, EntryOk Tryz.prog e := allE_nil
theorem ok (n : Nat) : FnOk Tryz.prog 169 ia io (fRun (X n) n T Tryz.f169 ia io) := tree_ok mixed tabIs (phi n) Tryz.func169 (by kernel_rfl) rfl
noncomputable def en (n : Nat) : Entry := mkEntry 169 ia io (fRun (X n) n T Tryz.f169 ia io)
end F_slices_Equal_string
end Go.Proofs.YtdlkpmohjhjmfaaGreatDoor

namespace Go.Proofs.YtdlkpmohjhjmfaaGreatDoor
open Go Go.Va Go.Proofs
namespace F_wire_Alike
abbrev ia : List Ai := [.dat T_api_Reply, .dat T_api_Reply]
abbrev io : List (Nat × Oi) := [(4, .dat .bool)]
abbrev R : Type := DOut ia io
noncomputable def X (n : Nat) : Ctx := ⟨⟨tab, [F_bytes_Equal.en n, F_slices_Equal_int.en n, F_object_SameVersion.en n, F_slices_EqualFunc_Row.en n, F_slices_Equal_string.en n], 0, []⟩, 59, bnOf 0 ia⟩
noncomputable def T : CT := .o
noncomputable def f (n : Nat) (a : D_api_Reply) (b : D_api_Reply) : Option R := fRun (X n) n T Tryz.f106 ia io (a, b, ())
theorem e0 (n : Nat) (a : D_api_Reply) (b : D_api_Reply) : f n a b =
  bIf ((hide (a.1 == b.1))) (
    bIf ((hide (a.2.1 == b.2.1))) (
      bIf ((hide (a.2.2.2.2.2.1 == b.2.2.2.2.2.1))) (
        bnd (F_bytes_Equal.f n a.2.2.1 b.2.2.1) fun u1 =>
        bIf (u1.1) (
          bnd (F_object_SameVersion.f n a.2.2.2.1 b.2.2.2.1) fun u2 =>
          bIf (u2.1) (
            bnd (F_slices_EqualFunc_Row.f n a.2.2.2.2.1 b.2.2.2.2.1) fun u3 =>
            bIf (u3.1) (
              bnd (F_slices_Equal_int.f n a.2.2.2.2.2.2.1 b.2.2.2.2.2.2.1) fun u4 =>
              bIf (u4.1) (
                bnd (F_slices_Equal_string.f n a.2.2.2.2.2.2.2.1 b.2.2.2.2.2.2.2.1) fun u5 =>
                some (u5.1, ())
                ) (
                some (false, ())
                )
              ) (
              some (false, ())
              )
            ) (
            some (false, ())
            )
          ) (
          some (false, ())
          )
        ) (
        some (false, ())
        )
      ) (
      some (false, ())
      )
    ) (
    some (false, ())
    ) := (hideF_eq _).trans (by kernel_rfl)
theorem phi (n : Nat) : ∀ e ∈ (X n).c.Φ, EntryOk Tryz.prog e := allE_cons (mkEntry_ok (F_bytes_Equal.ok n)) (allE_cons (mkEntry_ok (F_slices_Equal_int.ok n)) (allE_cons (mkEntry_ok (F_object_SameVersion.ok n)) (allE_cons (mkEntry_ok (F_slices_EqualFunc_Row.ok n)) (allE_cons (mkEntry_ok (F_slices_Equal_string.ok n)) (allE_nil)))))
theorem ok (n : Nat) : FnOk Tryz.prog 106 ia io (fRun (X n) n T Tryz.f106 ia io) := tree_ok mixed tabIs (phi n) Tryz.func106 (by kernel_rfl) rfl
noncomputable def en (n : Nat) : Entry := mkEntry 106 ia io (fRun (X n) n T Tryz.f106 ia io)
end F_wire_Alike
end Go.Proofs.YtdlkpmohjhjmfaaGreatDoor

namespace Go.Proofs.YtdlkpmohjhjmfaaGreatDoor
open Go Go.Va Go.Proofs
namespace F_wire_good
abbrev ia : List Ai := [.dat T_api_Reply]
abbrev io : List (Nat × Oi) := [(2, .dat .bool)]
abbrev R : Type := DOut ia io
noncomputable def X (n : Nat) : Ctx := ⟨⟨tab, [F_wire_Alike.en n, F_wire_none.en n, F_object_Good.en n, F_slices_ContainsFunc_Row.en n, F_slices_ContainsFunc_int.en n, F_slices_ContainsFunc_string.en n], 0, []⟩, 67, bnOf 0 ia⟩
abbrev g1 : List Si := [.ref 1 1 T_api_Reply, .box 1 (.d T_api_Reply)]
abbrev g2 : List Si := [.ref 1 1 T_api_Reply, .box 1 (.d T_api_Reply)]
abbrev g3 : List Si := [.ref 1 1 T_api_Reply, .box 1 (.d T_api_Reply)]
noncomputable def T : CT := (.s .o (.s .o (.r g1 (.s .o (.s .o (.r g2 (.s .o (.r g3 .o))))))))
noncomputable def J1 (n : Nat) : D_api_Reply × Unit → Option R := jR (X n) n T (bodyOf Tryz.f56) (endK ia io) g1 [1, 1] []
noncomputable def J2 (n : Nat) : D_api_Reply × Unit → Option R := jR (X n) n T (bodyOf Tryz.f56) (endK ia io) g2 [1, 1, 1, 1] []
noncomputable def J3 (n : Nat) : D_api_Reply × Unit → Option R := jR (X n) n T (bodyOf Tryz.f56) (endK ia io) g3 [1, 1, 1, 1, 1] []
noncomputable def f (n : Nat) (r : D_api_Reply) : Option R := fRun (X n) n T Tryz.f56 ia io (r, ())
theorem e0 (n : Nat) (r : D_api_Reply) : f n r =
  bIf ((hide (decide (r.1 < (0 : Int))))) (
    some (false, ())
    ) (
    bIf ((hide (decide (r.1 > (18 : Int))))) (
      some (false, ())
      ) (
      J1 n (r, ())
      )
    ) := (hideF_eq _).trans (by kernel_rfl)
theorem e1 (n : Nat) (r : D_api_Reply) : J1 n (r, ()) =
  bIf ((hide (r.1 != (0 : Int)))) (
    bnd (F_wire_Alike.f n r (r.1, (0, ([], ((0, (false, (0, (0, ((List.replicate 32 0), (0, ((0, (0, (false, ()))), ([], ())))))))), ([], (false, ([], ([], ()))))))))) fun u1 =>
    some (u1.1, ())
    ) (
    bIf ((hide (decide (((r.2.2.1.length : Nat) : Int) > (16384 : Int))))) (
      some (false, ())
      ) (
      bnd (F_wire_none.f n r.2.2.2.1) fun u2 =>
      bIf ((!u2.1)) (
        bnd (F_object_Good.f n r.2.2.2.1) fun u3 =>
        bIf ((!u3.1)) (
          some (false, ())
          ) (
          J2 n (r, ())
          )
        ) (
        J2 n (r, ())
        )
      )
    ) := (hideF_eq _).trans (by kernel_rfl)
theorem e2 (n : Nat) (r : D_api_Reply) : J2 n (r, ()) =
  bIf ((hide (decide (((r.2.2.2.2.1.length : Nat) : Int) > (100 : Int))))) (
    some (false, ())
    ) (
    bIf ((hide (decide (((r.2.2.2.2.2.2.1.length : Nat) : Int) > (8 : Int))))) (
      some (false, ())
      ) (
      bIf ((hide (decide (((r.2.2.2.2.2.2.2.1.length : Nat) : Int) > (16 : Int))))) (
        some (false, ())
        ) (
        J3 n (r, ())
        )
      )
    ) := (hideF_eq _).trans (by kernel_rfl)
theorem e3 (n : Nat) (r : D_api_Reply) : J3 n (r, ()) =
  bnd (F_slices_ContainsFunc_Row.f n r.2.2.2.2.1) fun u1 =>
  bIf ((!u1.1)) (
    bnd (F_slices_ContainsFunc_int.f n r.2.2.2.2.2.2.1) fun u2 =>
    bIf ((!u2.1)) (
      bnd (F_slices_ContainsFunc_string.f n r.2.2.2.2.2.2.2.1) fun u3 =>
      some ((!u3.1), ())
      ) (
      some (false, ())
      )
    ) (
    some (false, ())
    ) := (hideF_eq _).trans (by kernel_rfl)
theorem phi (n : Nat) : ∀ e ∈ (X n).c.Φ, EntryOk Tryz.prog e := allE_cons (mkEntry_ok (F_wire_Alike.ok n)) (allE_cons (mkEntry_ok (F_wire_none.ok n)) (allE_cons (mkEntry_ok (F_object_Good.ok n)) (allE_cons (mkEntry_ok (F_slices_ContainsFunc_Row.ok n)) (allE_cons (mkEntry_ok (F_slices_ContainsFunc_int.ok n)) (allE_cons (mkEntry_ok (F_slices_ContainsFunc_string.ok n)) (allE_nil))))))
theorem ok (n : Nat) : FnOk Tryz.prog 56 ia io (fRun (X n) n T Tryz.f56 ia io) := tree_ok mixed tabIs (phi n) Tryz.func56 (by kernel_rfl) rfl
noncomputable def en (n : Nat) : Entry := mkEntry 56 ia io (fRun (X n) n T Tryz.f56 ia io)
end F_wire_good
end Go.Proofs.YtdlkpmohjhjmfaaGreatDoor

namespace Go.Proofs.YtdlkpmohjhjmfaaGreatDoor
open Go Go.Va Go.Proofs
namespace F_wire_writer_rows
abbrev ia : List Ai := [.fn (.str 2) [(.p (.r 0 (.int .u8)) (.d .unit))], .dat (.slice T_api_Row)]
abbrev io : List (Nat × Oi) := []
abbrev R : Type := DOut ia io
noncomputable def X (n : Nat) : Ctx := ⟨⟨tab, [F_pack_Writer_Num.en n, F_pack_Writer_Text.en n, F_pack_Writer_Flag.en n, F_entry_Writer_Version.en n], 0, []⟩, 43, bnOf 0 ia⟩
abbrev g1 : List Si := [.ref 2 2 T_wire_reader, .dat 13 (.slice T_api_Row), .dat 14 (.int .i64), .dat 15 (.int .i64), .box 2 (.p (.p (.al 500000 T_pack_Writer) (.d .unit)) (.d .unit)), .box 500000 (.p (.r 100000500000000 (.int .u8)) (.d .unit))]
noncomputable def T : CT := (.s .o (.s .o (.s .o (.b (.l g1 .o)))))
noncomputable def J1 (n : Nat) (m : Nat) : (List (D_api_Row)) × Int × Int × D_wire_reader × D_pack_Writer × Unit → Option R := jL (X n) n T (bodyOf Tryz.f63) (endK ia io) g1 [1, 1, 1, 0] [] m
noncomputable def f (n : Nat) (wc0 : D_pack_Writer) (list : List (D_api_Row)) : Option R := fRun (X n) n T Tryz.f63 ia io (wc0, list, ())
theorem e0 (n : Nat) (wc0 : D_pack_Writer) (list : List (D_api_Row)) : f n wc0 list =
  bnd (F_pack_Writer_Num.f n (wc0.1, wc0.2) (IntKind.u64.wrap ((list.length : Nat) : Int))) fun u1 =>
  J1 n n (list, ((list.length : Nat) : Int), 0, (((), ()), ()), (u1.1.1, u1.1.2), ()) := (hideF_eq _).trans (by kernel_rfl)
theorem e1 (n m : Nat) (t13 : List (D_api_Row)) (t14 : Int) (t15 : Int) (w_ : D_wire_reader) (b500000 : D_pack_Writer) : J1 n (m + 1) (t13, t14, t15, w_, b500000, ()) =
  bIf ((hide (decide (t15 < t14)))) (
    gIf (0 ≤ t15 ∧ t15 < ((t13.length : Nat) : Int)) (
      bnd (F_pack_Writer_Text.f n (b500000.1, b500000.2) ((List.getD t13 t15.toNat (Va.dflt T_api_Row)).1)) fun u1 =>
      bnd (F_pack_Writer_Flag.f n (u1.1.1, u1.1.2) (((List.getD t13 t15.toNat (Va.dflt T_api_Row)).2).1)) fun u2 =>
      bIf ((!(((List.getD t13 t15.toNat (Va.dflt T_api_Row)).2).1))) (
        bnd (F_entry_Writer_Version.f n (u2.1.1, u2.1.2) ((((List.getD t13 t15.toNat (Va.dflt T_api_Row)).2).2).1)) fun u3 =>
        bnd (F_pack_Writer_Flag.f n (u3.1.1, u3.1.2) (((((List.getD t13 t15.toNat (Va.dflt T_api_Row)).2).2).2).1)) fun u4 =>
        J1 n m (t13, t14, (IntKind.i64.wrap (t15 + (1 : Int))), (((), w_.1.2), w_.2), (u4.1.1, u4.1.2), ())
        ) (
        J1 n m (t13, t14, (IntKind.i64.wrap (t15 + (1 : Int))), (((), w_.1.2), w_.2), (u2.1.1, u2.1.2), ())
        )
      )
    ) (
    some ((b500000.1, b500000.2), ())
    ) := (hideF_eq _).trans (by kernel_rfl)
theorem phi (n : Nat) : ∀ e ∈ (X n).c.Φ, EntryOk Tryz.prog e := allE_cons (mkEntry_ok (F_pack_Writer_Num.ok n)) (allE_cons (mkEntry_ok (F_pack_Writer_Text.ok n)) (allE_cons (mkEntry_ok (F_pack_Writer_Flag.ok n)) (allE_cons (mkEntry_ok (F_entry_Writer_Version.ok n)) (allE_nil))))
theorem ok (n : Nat) : FnOk Tryz.prog 63 ia io (fRun (X n) n T Tryz.f63 ia io) := tree_ok mixed tabIs (phi n) Tryz.func63 (by kernel_rfl) rfl
noncomputable def en (n : Nat) : Entry := mkEntry 63 ia io (fRun (X n) n T Tryz.f63 ia io)
end F_wire_writer_rows
end Go.Proofs.YtdlkpmohjhjmfaaGreatDoor

namespace Go.Proofs.YtdlkpmohjhjmfaaGreatDoor
open Go Go.Va Go.Proofs
namespace F_wire_Tell
abbrev ia : List Ai := [.dat T_api_Reply]
abbrev io : List (Nat × Oi) := [(2, .dat (.slice (.int .u8))), (3, .dat (.int .i64))]
abbrev R : Type := DOut ia io
noncomputable def X (n : Nat) : Ctx := ⟨⟨tab, [F_wire_good.en n, F_entry_NewWriter.en n, F_pack_Writer_Num.en n, F_pack_Writer_Out.en n, F_pack_Writer_Text.en n, F_pack_Writer_Flag.en n, F_entry_Writer_Version.en n, F_wire_writer_rows.en n], 0, []⟩, 106, bnOf 0 ia⟩
abbrev g1 : List Si := [.ref 1 1 T_api_Reply, .ref 4 4 T_wire_reader, .box 1 (.d T_api_Reply), .box 4 (.p (.p (.al 1500000000012 T_pack_Writer) (.d .unit)) (.d .unit)), .box 1500000000012 (.p (.r 1600000000012000 (.int .u8)) (.d .unit))]
abbrev g2 : List Si := [.ref 1 1 T_api_Reply, .ref 4 4 T_wire_reader, .dat 68 (.slice (.int .i64)), .dat 69 (.int .i64), .dat 70 (.int .i64), .box 1 (.d T_api_Reply), .box 4 (.p (.p (.al 1500000000012 T_pack_Writer) (.d .unit)) (.d .unit)), .box 1500000000012 (.p (.r 1600000000012000 (.int .u8)) (.d .unit))]
abbrev g3 : List Si := [.ref 1 1 T_api_Reply, .ref 4 4 T_wire_reader, .box 1 (.d T_api_Reply), .box 4 (.p (.p (.al 1500000000012 T_pack_Writer) (.d .unit)) (.d .unit)), .box 1500000000012 (.p (.r 1600000000012000 (.int .u8)) (.d .unit))]
abbrev g4 : List Si := [.ref 4 4 T_wire_reader, .dat 90 (.slice .str), .dat 91 (.int .i64), .dat 92 (.int .i64), .box 4 (.p (.p (.al 1500000000012 T_pack_Writer) (.d .unit)) (.d .unit)), .box 1500000000012 (.p (.r 1600000000012000 (.int .u8)) (.d .unit))]
abbrev g5 : List Si := [.ref 4 4 T_wire_reader, .box 4 (.p (.p (.al 1500000000012 T_pack_Writer) (.d .unit)) (.d .unit)), .box 1500000000012 (.p (.r 1600000000012000 (.int .u8)) (.d .unit))]
noncomputable def T : CT := (.s .o (.s .o (.s .o (.s .o (.s .o (.s .o (.s .o (.r g1 (.s .o (.s .o (.s (.s .o (.b (.l g2 .o))) (.r g3 (.s .o (.s (.s .o (.b (.l g4 .o))) (.r g5 .o)))))))))))))))
noncomputable def J1 (n : Nat) : D_api_Reply × D_wire_reader × D_pack_Writer × Unit → Option R := jR (X n) n T (bodyOf Tryz.f28) (endK ia io) g1 [1, 1, 1, 1, 1, 1, 1] []
noncomputable def J2 (n : Nat) (m : Nat) : (List (Int)) × Int × Int × D_api_Reply × D_wire_reader × D_pack_Writer × Unit → Option R := jL (X n) n T (bodyOf Tryz.f28) (endK ia io) g2 [1, 1, 1, 1, 1, 1, 1, 1, 1, 0, 1, 0] [] m
noncomputable def J3 (n : Nat) : D_api_Reply × D_wire_reader × D_pack_Writer × Unit → Option R := jR (X n) n T (bodyOf Tryz.f28) (endK ia io) g3 [1, 1, 1, 1, 1, 1, 1, 1, 1, 1] []
noncomputable def J4 (n : Nat) (m : Nat) : (List (ByteArray)) × Int × Int × D_wire_reader × D_pack_Writer × Unit → Option R := jL (X n) n T (bodyOf Tryz.f28) (endK ia io) g4 [1, 1, 1, 1, 1, 1, 1, 1, 1, 1, 1, 0, 1, 0] [] m
noncomputable def J5 (n : Nat) : D_wire_reader × D_pack_Writer × Unit → Option R := jR (X n) n T (bodyOf Tryz.f28) (endK ia io) g5 [1, 1, 1, 1, 1, 1, 1, 1, 1, 1, 1, 1] []
noncomputable def f (n : Nat) (r : D_api_Reply) : Option R := fRun (X n) n T Tryz.f28 ia io (r, ())
theorem e0 (n : Nat) (r : D_api_Reply) : f n r =
  bnd (F_wire_good.f n r) fun u1 =>
  bIf ((!u1.1)) (
    some ([], 2, ())
    ) (
    bnd (F_entry_NewWriter.f n) fun u2 =>
    bnd (F_pack_Writer_Num.f n (u2.1.1, u2.1.2) (IntKind.u64.wrap r.1)) fun u3 =>
    bIf ((hide (r.1 != (0 : Int)))) (
      bnd (F_pack_Writer_Out.f n (u3.1.1, u3.1.2)) fun u4 =>
      some (u4.1, 0, ())
      ) (
      bnd (F_pack_Writer_Num.f n (u3.1.1, u3.1.2) r.2.1) fun u5 =>
      bnd (F_pack_Writer_Text.f n (u5.1.1, u5.1.2) (bytesOf r.2.2.1)) fun u6 =>
      bnd (F_pack_Writer_Flag.f n (u6.1.1, u6.1.2) (hide (r.2.2.2.1.1 != (0 : Int)))) fun u7 =>
      bIf ((hide (r.2.2.2.1.1 != (0 : Int)))) (
        bnd (F_entry_Writer_Version.f n (u7.1.1, u7.1.2) r.2.2.2.1) fun u8 =>
        J1 n (r, (((), ()), ()), (u8.1.1, u8.1.2), ())
        ) (
        J1 n (r, (((), ()), ()), (u7.1.1, u7.1.2), ())
        )
      )
    ) := (hideF_eq _).trans (by kernel_rfl)
theorem e1 (n : Nat) (r : D_api_Reply) (w_ : D_wire_reader) (b1500000000012 : D_pack_Writer) : J1 n (r, w_, b1500000000012, ()) =
  bnd (F_wire_writer_rows.f n (b1500000000012.1, b1500000000012.2) r.2.2.2.2.1) fun u1 =>
  bnd (F_pack_Writer_Flag.f n (u1.1.1, u1.1.2) r.2.2.2.2.2.1) fun u2 =>
  bnd (F_pack_Writer_Num.f n (u2.1.1, u2.1.2) (IntKind.u64.wrap ((r.2.2.2.2.2.2.1.length : Nat) : Int))) fun u3 =>
  J2 n n (r.2.2.2.2.2.2.1, ((r.2.2.2.2.2.2.1.length : Nat) : Int), 0, r, (((), w_.1.2), w_.2), (u3.1.1, u3.1.2), ()) := (hideF_eq _).trans (by kernel_rfl)
theorem e2 (n m : Nat) (t68 : List (Int)) (t69 : Int) (t70 : Int) (r : D_api_Reply) (w_ : D_wire_reader) (b1500000000012 : D_pack_Writer) : J2 n (m + 1) (t68, t69, t70, r, w_, b1500000000012, ()) =
  bIf ((hide (decide (t70 < t69)))) (
    gIf (0 ≤ t70 ∧ t70 < ((t68.length : Nat) : Int)) (
      bnd (F_pack_Writer_Num.f n (b1500000000012.1, b1500000000012.2) (IntKind.u64.wrap (List.getD t68 t70.toNat 0))) fun u1 =>
      J2 n m (t68, t69, (IntKind.i64.wrap (t70 + (1 : Int))), r, (((), w_.1.2), w_.2), (u1.1.1, u1.1.2), ())
      )
    ) (
    J3 n (r, (((), w_.1.2), w_.2), (b1500000000012.1, b1500000000012.2), ())
    ) := (hideF_eq _).trans (by kernel_rfl)
theorem e3 (n : Nat) (r : D_api_Reply) (w_ : D_wire_reader) (b1500000000012 : D_pack_Writer) : J3 n (r, w_, b1500000000012, ()) =
  bnd (F_pack_Writer_Num.f n (b1500000000012.1, b1500000000012.2) (IntKind.u64.wrap ((r.2.2.2.2.2.2.2.1.length : Nat) : Int))) fun u1 =>
  J4 n n (r.2.2.2.2.2.2.2.1, ((r.2.2.2.2.2.2.2.1.length : Nat) : Int), 0, (((), w_.1.2), w_.2), (u1.1.1, u1.1.2), ()) := (hideF_eq _).trans (by kernel_rfl)
theorem e4 (n m : Nat) (t90 : List (ByteArray)) (t91 : Int) (t92 : Int) (w_ : D_wire_reader) (b1500000000012 : D_pack_Writer) : J4 n (m + 1) (t90, t91, t92, w_, b1500000000012, ()) =
  bIf ((hide (decide (t92 < t91)))) (
    gIf (0 ≤ t92 ∧ t92 < ((t90.length : Nat) : Int)) (
      bnd (F_pack_Writer_Text.f n (b1500000000012.1, b1500000000012.2) (List.getD t90 t92.toNat (⟨#[]⟩ : ByteArray))) fun u1 =>
      J4 n m (t90, t91, (IntKind.i64.wrap (t92 + (1 : Int))), (((), w_.1.2), w_.2), (u1.1.1, u1.1.2), ())
      )
    ) (
    J5 n ((((), w_.1.2), w_.2), (b1500000000012.1, b1500000000012.2), ())
    ) := (hideF_eq _).trans (by kernel_rfl)
theorem e5 (n : Nat) (w_ : D_wire_reader) (b1500000000012 : D_pack_Writer) : J5 n (w_, b1500000000012, ()) =
  bnd (F_pack_Writer_Out.f n (b1500000000012.1, b1500000000012.2)) fun u1 =>
  some (u1.1, 0, ()) := (hideF_eq _).trans (by kernel_rfl)
theorem phi (n : Nat) : ∀ e ∈ (X n).c.Φ, EntryOk Tryz.prog e := allE_cons (mkEntry_ok (F_wire_good.ok n)) (allE_cons (mkEntry_ok (F_entry_NewWriter.ok n)) (allE_cons (mkEntry_ok (F_pack_Writer_Num.ok n)) (allE_cons (mkEntry_ok (F_pack_Writer_Out.ok n)) (allE_cons (mkEntry_ok (F_pack_Writer_Text.ok n)) (allE_cons (mkEntry_ok (F_pack_Writer_Flag.ok n)) (allE_cons (mkEntry_ok (F_entry_Writer_Version.ok n)) (allE_cons (mkEntry_ok (F_wire_writer_rows.ok n)) (allE_nil))))))))
theorem ok (n : Nat) : FnOk Tryz.prog 28 ia io (fRun (X n) n T Tryz.f28 ia io) := tree_ok mixed tabIs (phi n) Tryz.func28 (by kernel_rfl) rfl
noncomputable def en (n : Nat) : Entry := mkEntry 28 ia io (fRun (X n) n T Tryz.f28 ia io)
end F_wire_Tell
end Go.Proofs.YtdlkpmohjhjmfaaGreatDoor

namespace Go.Proofs.YtdlkpmohjhjmfaaGreatDoor
open Go Go.Va Go.Proofs
namespace F_ref23_Same
abbrev ia : List Ai := [.dat (.slice T_api_Row), .dat (.slice T_api_Row)]
abbrev io : List (Nat × Oi) := [(4, .dat .bool)]
abbrev R : Type := DOut ia io
noncomputable def X (n : Nat) : Ctx := ⟨⟨tab, [F_ref13_SameVersion.en n], 0, []⟩, 68, bnOf 0 ia⟩
abbrev g1 : List Si := [.dat 0 (.slice T_api_Row), .dat 1 (.slice T_api_Row), .dat 5 (.int .i64)]
abbrev g2 : List Si := [.dat 0 (.slice T_api_Row), .dat 1 (.slice T_api_Row), .dat 5 (.int .i64)]
abbrev g3 : List Si := []
noncomputable def T : CT := (.s .o (.s .o (.s (.s .o (.b (.l g1 (.s .o (.s .o (.r g2 .o)))))) (.r g3 .o))))
noncomputable def J1 (n : Nat) (m : Nat) : (List (D_api_Row)) × (List (D_api_Row)) × Int × Unit → Option R := jL (X n) n T (bodyOf Tryz.f125) (endK ia io) g1 [1, 1, 0, 1, 0] [] m
noncomputable def J2 (n m1 : Nat) : (List (D_api_Row)) × (List (D_api_Row)) × Int × Unit → Option R := jR (X n) n T (bodyOf Tryz.f125) (endK ia io) g2 [1, 1, 0, 1, 0, 0, 1, 1] [m1]
noncomputable def J3 (n : Nat) : Unit → Option R := jR (X n) n T (bodyOf Tryz.f125) (endK ia io) g3 [1, 1, 1] []
noncomputable def f (n : Nat) (a : List (D_api_Row)) (b : List (D_api_Row)) : Option R := fRun (X n) n T Tryz.f125 ia io (a, b, ())
theorem e0 (n : Nat) (a : List (D_api_Row)) (b : List (D_api_Row)) : f n a b =
  bIf ((hide (((a.length : Nat) : Int) != ((b.length : Nat) : Int)))) (
    some (false, ())
    ) (
    J1 n n (a, b, 0, ())
    ) := (hideF_eq _).trans (by kernel_rfl)
theorem e1 (n m : Nat) (a : List (D_api_Row)) (b : List (D_api_Row)) (i : Int) : J1 n (m + 1) (a, b, i, ()) =
  bIf ((hide (decide (i < ((a.length : Nat) : Int))))) (
    gIf (0 ≤ i ∧ i < ((a.length : Nat) : Int)) (
      gIf (0 ≤ i ∧ i < ((b.length : Nat) : Int)) (
        bIf ((hide (!eqS ((List.getD a i.toNat (Va.dflt T_api_Row)).1) ((List.getD b i.toNat (Va.dflt T_api_Row)).1)))) (
          some (false, ())
          ) (
          gIf (0 ≤ i ∧ i < ((a.length : Nat) : Int)) (
            gIf (0 ≤ i ∧ i < ((b.length : Nat) : Int)) (
              bIf ((hide (!((((List.getD a i.toNat (Va.dflt T_api_Row)).2).1) == (((List.getD b i.toNat (Va.dflt T_api_Row)).2).1))))) (
                some (false, ())
                ) (
                gIf (0 ≤ i ∧ i < ((a.length : Nat) : Int)) (
                  gIf (0 ≤ i ∧ i < ((b.length : Nat) : Int)) (
                    bIf ((hide (!((((((List.getD a i.toNat (Va.dflt T_api_Row)).2).2).2).1) == (((((List.getD b i.toNat (Va.dflt T_api_Row)).2).2).2).1))))) (
                      some (false, ())
                      ) (
                      gIf (0 ≤ i ∧ i < ((a.length : Nat) : Int)) (
                        gIf (0 ≤ i ∧ i < ((b.length : Nat) : Int)) (
                          bnd (F_ref13_SameVersion.f n ((((List.getD a i.toNat (Va.dflt T_api_Row)).2).2).1) ((((List.getD b i.toNat (Va.dflt T_api_Row)).2).2).1)) fun u1 =>
                          bIf ((!u1.1)) (
                            some (false, ())
                            ) (
                            J2 n m (a, b, i, ())
                            )
                          )
                        )
                      )
                    )
                  )
                )
              )
            )
          )
        )
      )
    ) (
    J3 n (())
    ) := (hideF_eq _).trans (by kernel_rfl)
theorem e2 (n m1 : Nat) (a : List (D_api_Row)) (b : List (D_api_Row)) (i : Int) : J2 n m1 (a, b, i, ()) =
  J1 n m1 (a, b, (IntKind.i64.wrap (i + (1 : Int))), ()) := (hideF_eq _).trans (by kernel_rfl)
theorem e3 (n : Nat) : J3 n (()) =
  some (true, ()) := (hideF_eq _).trans (by kernel_rfl)
theorem phi (n : Nat) : ∀ e ∈ (X n).c.Φ, EntryOk Tryz.prog e := allE_cons (mkEntry_ok (F_ref13_SameVersion.ok n)) (allE_nil)
theorem ok (n : Nat) : FnOk Tryz.prog 125 ia io (fRun (X n) n T Tryz.f125 ia io) := tree_ok mixed tabIs (phi n) Tryz.func125 (by kernel_rfl) rfl
noncomputable def en (n : Nat) : Entry := mkEntry 125 ia io (fRun (X n) n T Tryz.f125 ia io)
end F_ref23_Same
end Go.Proofs.YtdlkpmohjhjmfaaGreatDoor

namespace Go.Proofs.YtdlkpmohjhjmfaaGreatDoor
open Go Go.Va Go.Proofs
namespace F_ref24_Alike
abbrev ia : List Ai := [.dat T_api_Reply, .dat T_api_Reply]
abbrev io : List (Nat × Oi) := [(4, .dat .bool)]
abbrev R : Type := DOut ia io
noncomputable def X (n : Nat) : Ctx := ⟨⟨tab, [F_ref13_SameVersion.en n, F_ref23_Same.en n], 0, []⟩, 105, bnOf 0 ia⟩
abbrev g1 : List Si := [.ref 2 2 T_api_Reply, .ref 3 3 T_api_Reply, .box 2 (.d T_api_Reply), .box 3 (.d T_api_Reply)]
abbrev g2 : List Si := [.ref 2 2 T_api_Reply, .ref 3 3 T_api_Reply, .dat 5 (.int .i64), .box 2 (.d T_api_Reply), .box 3 (.d T_api_Reply)]
abbrev g3 : List Si := [.ref 2 2 T_api_Reply, .ref 3 3 T_api_Reply, .box 2 (.d T_api_Reply), .box 3 (.d T_api_Reply)]
abbrev g4 : List Si := [.ref 2 2 T_api_Reply, .ref 3 3 T_api_Reply, .dat 6 (.int .i64), .box 2 (.d T_api_Reply), .box 3 (.d T_api_Reply)]
abbrev g5 : List Si := []
noncomputable def T : CT := (.s .o (.s .o (.r g1 (.s (.s .o (.b (.l g2 .o))) (.r g3 (.s (.s .o (.b (.l g4 .o))) (.r g5 .o)))))))
noncomputable def J1 (n : Nat) : D_api_Reply × D_api_Reply × Unit → Option R := jR (X n) n T (bodyOf Tryz.f65) (endK ia io) g1 [1, 1] []
noncomputable def J2 (n : Nat) (m : Nat) : Int × D_api_Reply × D_api_Reply × Unit → Option R := jL (X n) n T (bodyOf Tryz.f65) (endK ia io) g2 [1, 1, 0, 1, 0] [] m
noncomputable def J3 (n : Nat) : D_api_Reply × D_api_Reply × Unit → Option R := jR (X n) n T (bodyOf Tryz.f65) (endK ia io) g3 [1, 1, 1] []
noncomputable def J4 (n : Nat) (m : Nat) : Int × D_api_Reply × D_api_Reply × Unit → Option R := jL (X n) n T (bodyOf Tryz.f65) (endK ia io) g4 [1, 1, 1, 0, 1, 0] [] m
noncomputable def J5 (n : Nat) : Unit → Option R := jR (X n) n T (bodyOf Tryz.f65) (endK ia io) g5 [1, 1, 1, 1] []
noncomputable def f (n : Nat) (a : D_api_Reply) (b : D_api_Reply) : Option R := fRun (X n) n T Tryz.f65 ia io (a, b, ())
theorem e0 (n : Nat) (a : D_api_Reply) (b : D_api_Reply) : f n a b =
  bIf ((hide (a.1 != b.1))) (
    some (false, ())
    ) (
    bIf ((hide (a.2.1 != b.2.1))) (
      some (false, ())
      ) (
      bIf ((hide (!(a.2.2.2.2.2.1 == b.2.2.2.2.2.1)))) (
        some (false, ())
        ) (
        bIf ((hide (!eqS (bytesOf a.2.2.1) (bytesOf b.2.2.1)))) (
          some (false, ())
          ) (
          bnd (F_ref13_SameVersion.f n a.2.2.2.1 b.2.2.2.1) fun u1 =>
          bIf ((!u1.1)) (
            some (false, ())
            ) (
            bnd (F_ref23_Same.f n a.2.2.2.2.1 b.2.2.2.2.1) fun u2 =>
            bIf ((!u2.1)) (
              some (false, ())
              ) (
              bIf ((hide (((a.2.2.2.2.2.2.1.length : Nat) : Int) != ((b.2.2.2.2.2.2.1.length : Nat) : Int)))) (
                some (false, ())
                ) (
                bIf ((hide (((a.2.2.2.2.2.2.2.1.length : Nat) : Int) != ((b.2.2.2.2.2.2.2.1.length : Nat) : Int)))) (
                  some (false, ())
                  ) (
                  J1 n (a, b, ())
                  )
                )
              )
            )
          )
        )
      )
    ) := (hideF_eq _).trans (by kernel_rfl)
theorem e1 (n : Nat) (a : D_api_Reply) (b : D_api_Reply) : J1 n (a, b, ()) =
  J2 n n (0, a, b, ()) := (hideF_eq _).trans (by kernel_rfl)
theorem e2 (n m : Nat) (i : Int) (a : D_api_Reply) (b : D_api_Reply) : J2 n (m + 1) (i, a, b, ()) =
  bIf ((hide (decide (i < ((a.2.2.2.2.2.2.1.length : Nat) : Int))))) (
    gIf (0 ≤ i ∧ i < ((a.2.2.2.2.2.2.1.length : Nat) : Int)) (
      gIf (0 ≤ i ∧ i < ((b.2.2.2.2.2.2.1.length : Nat) : Int)) (
        bIf ((hide ((List.getD a.2.2.2.2.2.2.1 i.toNat 0) != (List.getD b.2.2.2.2.2.2.1 i.toNat 0)))) (
          some (false, ())
          ) (
          J2 n m ((IntKind.i64.wrap (i + (1 : Int))), a, b, ())
          )
        )
      )
    ) (
    J3 n (a, b, ())
    ) := (hideF_eq _).trans (by kernel_rfl)
theorem e3 (n : Nat) (a : D_api_Reply) (b : D_api_Reply) : J3 n (a, b, ()) =
  J4 n n (0, a, b, ()) := (hideF_eq _).trans (by kernel_rfl)
theorem e4 (n m : Nat) (i : Int) (a : D_api_Reply) (b : D_api_Reply) : J4 n (m + 1) (i, a, b, ()) =
  bIf ((hide (decide (i < ((a.2.2.2.2.2.2.2.1.length : Nat) : Int))))) (
    gIf (0 ≤ i ∧ i < ((a.2.2.2.2.2.2.2.1.length : Nat) : Int)) (
      gIf (0 ≤ i ∧ i < ((b.2.2.2.2.2.2.2.1.length : Nat) : Int)) (
        bIf ((hide (!eqS (List.getD a.2.2.2.2.2.2.2.1 i.toNat (⟨#[]⟩ : ByteArray)) (List.getD b.2.2.2.2.2.2.2.1 i.toNat (⟨#[]⟩ : ByteArray))))) (
          some (false, ())
          ) (
          J4 n m ((IntKind.i64.wrap (i + (1 : Int))), a, b, ())
          )
        )
      )
    ) (
    J5 n (())
    ) := (hideF_eq _).trans (by kernel_rfl)
theorem e5 (n : Nat) : J5 n (()) =
  some (true, ()) := (hideF_eq _).trans (by kernel_rfl)
theorem phi (n : Nat) : ∀ e ∈ (X n).c.Φ, EntryOk Tryz.prog e := allE_cons (mkEntry_ok (F_ref13_SameVersion.ok n)) (allE_cons (mkEntry_ok (F_ref23_Same.ok n)) (allE_nil))
theorem ok (n : Nat) : FnOk Tryz.prog 65 ia io (fRun (X n) n T Tryz.f65 ia io) := tree_ok mixed tabIs (phi n) Tryz.func65 (by kernel_rfl) rfl
noncomputable def en (n : Nat) : Entry := mkEntry 65 ia io (fRun (X n) n T Tryz.f65 ia io)
end F_ref24_Alike
end Go.Proofs.YtdlkpmohjhjmfaaGreatDoor

namespace Go.Proofs.YtdlkpmohjhjmfaaGreatDoor
open Go Go.Va Go.Proofs
namespace F_ref26_none
abbrev ia : List Ai := [.dat T_api_Version]
abbrev io : List (Nat × Oi) := [(2, .dat .bool)]
abbrev R : Type := DOut ia io
noncomputable def X (n : Nat) : Ctx := ⟨⟨tab, [F_ref13_SameVersion.en n], 0, []⟩, 6, bnOf 0 ia⟩
noncomputable def T : CT := .o
noncomputable def f (n : Nat) (v_ : D_api_Version) : Option R := fRun (X n) n T Tryz.f36 ia io (v_, ())
theorem e0 (n : Nat) (v_ : D_api_Version) : f n v_ =
  bnd (F_ref13_SameVersion.f n v_ (0, (false, (0, (0, ((List.replicate 32 0), (0, ((0, (0, (false, ()))), ([], ()))))))))) fun u1 =>
  some (u1.1, ()) := (hideF_eq _).trans (by kernel_rfl)
theorem phi (n : Nat) : ∀ e ∈ (X n).c.Φ, EntryOk Tryz.prog e := allE_cons (mkEntry_ok (F_ref13_SameVersion.ok n)) (allE_nil)
theorem ok (n : Nat) : FnOk Tryz.prog 36 ia io (fRun (X n) n T Tryz.f36 ia io) := tree_ok mixed tabIs (phi n) Tryz.func36 (by kernel_rfl) rfl
noncomputable def en (n : Nat) : Entry := mkEntry 36 ia io (fRun (X n) n T Tryz.f36 ia io)
end F_ref26_none
end Go.Proofs.YtdlkpmohjhjmfaaGreatDoor

namespace Go.Proofs.YtdlkpmohjhjmfaaGreatDoor
open Go Go.Va Go.Proofs
namespace F_ref26_good
abbrev ia : List Ai := [.dat T_api_Reply]
abbrev io : List (Nat × Oi) := [(2, .dat .bool)]
abbrev R : Type := DOut ia io
noncomputable def X (n : Nat) : Ctx := ⟨⟨tab, [F_ref26_none.en n, F_ref24_Alike.en n, F_ref13_Good.en n], 0, []⟩, 125, bnOf 0 ia⟩
abbrev g1 : List Si := [.ref 1 1 T_api_Reply, .box 1 (.d T_api_Reply)]
abbrev g2 : List Si := [.ref 1 1 T_api_Reply, .box 1 (.d T_api_Reply)]
abbrev g3 : List Si := [.ref 1 1 T_api_Reply, .dat 3 (.int .i64), .box 1 (.d T_api_Reply)]
abbrev g4 : List Si := [.ref 1 1 T_api_Reply, .dat 3 (.int .i64), .box 1 (.d T_api_Reply)]
abbrev g5 : List Si := [.ref 1 1 T_api_Reply, .box 1 (.d T_api_Reply)]
abbrev g6 : List Si := [.ref 1 1 T_api_Reply, .dat 5 (.int .i64), .box 1 (.d T_api_Reply)]
abbrev g7 : List Si := [.ref 1 1 T_api_Reply, .box 1 (.d T_api_Reply)]
abbrev g8 : List Si := [.ref 1 1 T_api_Reply, .dat 6 (.int .i64), .box 1 (.d T_api_Reply)]
abbrev g9 : List Si := []
noncomputable def T : CT := (.s .o (.s .o (.r g1 (.s .o (.s .o (.r g2 (.s (.s .o (.b (.l g3 (.s .o (.s .o (.r g4 .o)))))) (.r g5 (.s (.s .o (.b (.l g6 .o))) (.r g7 (.s (.s .o (.b (.l g8 .o))) (.r g9 .o))))))))))))
noncomputable def J1 (n : Nat) : D_api_Reply × Unit → Option R := jR (X n) n T (bodyOf Tryz.f31) (endK ia io) g1 [1, 1] []
noncomputable def J2 (n : Nat) : D_api_Reply × Unit → Option R := jR (X n) n T (bodyOf Tryz.f31) (endK ia io) g2 [1, 1, 1, 1] []
noncomputable def J3 (n : Nat) (m : Nat) : Int × D_api_Reply × Unit → Option R := jL (X n) n T (bodyOf Tryz.f31) (endK ia io) g3 [1, 1, 1, 1, 0, 1, 0] [] m
noncomputable def J4 (n m3 : Nat) : Int × D_api_Reply × Unit → Option R := jR (X n) n T (bodyOf Tryz.f31) (endK ia io) g4 [1, 1, 1, 1, 0, 1, 0, 0, 1, 1] [m3]
noncomputable def J5 (n : Nat) : D_api_Reply × Unit → Option R := jR (X n) n T (bodyOf Tryz.f31) (endK ia io) g5 [1, 1, 1, 1, 1] []
noncomputable def J6 (n : Nat) (m : Nat) : Int × D_api_Reply × Unit → Option R := jL (X n) n T (bodyOf Tryz.f31) (endK ia io) g6 [1, 1, 1, 1, 1, 0, 1, 0] [] m
noncomputable def J7 (n : Nat) : D_api_Reply × Unit → Option R := jR (X n) n T (bodyOf Tryz.f31) (endK ia io) g7 [1, 1, 1, 1, 1, 1] []
noncomputable def J8 (n : Nat) (m : Nat) : Int × D_api_Reply × Unit → Option R := jL (X n) n T (bodyOf Tryz.f31) (endK ia io) g8 [1, 1, 1, 1, 1, 1, 0, 1, 0] [] m
noncomputable def J9 (n : Nat) : Unit → Option R := jR (X n) n T (bodyOf Tryz.f31) (endK ia io) g9 [1, 1, 1, 1, 1, 1, 1] []
noncomputable def f (n : Nat) (r : D_api_Reply) : Option R := fRun (X n) n T Tryz.f31 ia io (r, ())
theorem e0 (n : Nat) (r : D_api_Reply) : f n r =
  bIf ((hide (decide (r.1 < (0 : Int))))) (
    some (false, ())
    ) (
    bIf ((hide (decide (r.1 > (18 : Int))))) (
      some (false, ())
      ) (
      J1 n (r, ())
      )
    ) := (hideF_eq _).trans (by kernel_rfl)
theorem e1 (n : Nat) (r : D_api_Reply) : J1 n (r, ()) =
  bIf ((hide (r.1 != (0 : Int)))) (
    bnd (F_ref24_Alike.f n r (r.1, (0, ([], ((0, (false, (0, (0, ((List.replicate 32 0), (0, ((0, (0, (false, ()))), ([], ())))))))), ([], (false, ([], ([], ()))))))))) fun u1 =>
    some (u1.1, ())
    ) (
    bIf ((hide (decide (((r.2.2.1.length : Nat) : Int) > (16384 : Int))))) (
      some (false, ())
      ) (
      bnd (F_ref26_none.f n r.2.2.2.1) fun u2 =>
      bIf ((!u2.1)) (
        bnd (F_ref13_Good.f n r.2.2.2.1) fun u3 =>
        bIf ((!u3.1)) (
          some (false, ())
          ) (
          bIf ((hide (decide (((r.2.2.2.2.1.length : Nat) : Int) > (100 : Int))))) (
            some (false, ())
            ) (
            bIf ((hide (decide (((r.2.2.2.2.2.2.1.length : Nat) : Int) > (8 : Int))))) (
              some (false, ())
              ) (
              bIf ((hide (decide (((r.2.2.2.2.2.2.2.1.length : Nat) : Int) > (16 : Int))))) (
                some (false, ())
                ) (
                J2 n (r, ())
                )
              )
            )
          )
        ) (
        bIf ((hide (decide (((r.2.2.2.2.1.length : Nat) : Int) > (100 : Int))))) (
          some (false, ())
          ) (
          bIf ((hide (decide (((r.2.2.2.2.2.2.1.length : Nat) : Int) > (8 : Int))))) (
            some (false, ())
            ) (
            bIf ((hide (decide (((r.2.2.2.2.2.2.2.1.length : Nat) : Int) > (16 : Int))))) (
              some (false, ())
              ) (
              J2 n (r, ())
              )
            )
          )
        )
      )
    ) := (hideF_eq _).trans (by kernel_rfl)
theorem e2 (n : Nat) (r : D_api_Reply) : J2 n (r, ()) =
  J3 n n (0, r, ()) := (hideF_eq _).trans (by kernel_rfl)
theorem e3 (n m : Nat) (i : Int) (r : D_api_Reply) : J3 n (m + 1) (i, r, ()) =
  bIf ((hide (decide (i < ((r.2.2.2.2.1.length : Nat) : Int))))) (
    gIf (0 ≤ i ∧ i < ((r.2.2.2.2.1.length : Nat) : Int)) (
      bIf ((hide (decide ((((List.getD r.2.2.2.2.1 i.toNat (Va.dflt T_api_Row)).1).size : Int) > (200 : Int))))) (
        some (false, ())
        ) (
        bIf (((List.getD r.2.2.2.2.1 i.toNat (Va.dflt T_api_Row)).2).1) (
          bIf (((((List.getD r.2.2.2.2.1 i.toNat (Va.dflt T_api_Row)).2).2).2).1) (
            some (false, ())
            ) (
            bnd (F_ref26_none.f n ((((List.getD r.2.2.2.2.1 i.toNat (Va.dflt T_api_Row)).2).2).1)) fun u1 =>
            bIf ((!u1.1)) (
              some (false, ())
              ) (
              bIf ((!(((List.getD r.2.2.2.2.1 i.toNat (Va.dflt T_api_Row)).2).1))) (
                bnd (F_ref13_Good.f n ((((List.getD r.2.2.2.2.1 i.toNat (Va.dflt T_api_Row)).2).2).1)) fun u2 =>
                bIf ((!u2.1)) (
                  some (false, ())
                  ) (
                  J4 n m (i, r, ())
                  )
                ) (
                J4 n m (i, r, ())
                )
              )
            )
          ) (
          bIf ((!(((List.getD r.2.2.2.2.1 i.toNat (Va.dflt T_api_Row)).2).1))) (
            bnd (F_ref13_Good.f n ((((List.getD r.2.2.2.2.1 i.toNat (Va.dflt T_api_Row)).2).2).1)) fun u3 =>
            bIf ((!u3.1)) (
              some (false, ())
              ) (
              J4 n m (i, r, ())
              )
            ) (
            J4 n m (i, r, ())
            )
          )
        )
      )
    ) (
    J5 n (r, ())
    ) := (hideF_eq _).trans (by kernel_rfl)
theorem e4 (n m3 : Nat) (i : Int) (r : D_api_Reply) : J4 n m3 (i, r, ()) =
  J3 n m3 ((IntKind.i64.wrap (i + (1 : Int))), r, ()) := (hideF_eq _).trans (by kernel_rfl)
theorem e5 (n : Nat) (r : D_api_Reply) : J5 n (r, ()) =
  J6 n n (0, r, ()) := (hideF_eq _).trans (by kernel_rfl)
theorem e6 (n m : Nat) (i : Int) (r : D_api_Reply) : J6 n (m + 1) (i, r, ()) =
  bIf ((hide (decide (i < ((r.2.2.2.2.2.2.1.length : Nat) : Int))))) (
    gIf (0 ≤ i ∧ i < ((r.2.2.2.2.2.2.1.length : Nat) : Int)) (
      bIf ((hide (decide ((List.getD r.2.2.2.2.2.2.1 i.toNat 0) < (0 : Int))))) (
        some (false, ())
        ) (
        J6 n m ((IntKind.i64.wrap (i + (1 : Int))), r, ())
        )
      )
    ) (
    J7 n (r, ())
    ) := (hideF_eq _).trans (by kernel_rfl)
theorem e7 (n : Nat) (r : D_api_Reply) : J7 n (r, ()) =
  J8 n n (0, r, ()) := (hideF_eq _).trans (by kernel_rfl)
theorem e8 (n m : Nat) (i : Int) (r : D_api_Reply) : J8 n (m + 1) (i, r, ()) =
  bIf ((hide (decide (i < ((r.2.2.2.2.2.2.2.1.length : Nat) : Int))))) (
    gIf (0 ≤ i ∧ i < ((r.2.2.2.2.2.2.2.1.length : Nat) : Int)) (
      bIf ((hide (decide (((List.getD r.2.2.2.2.2.2.2.1 i.toNat (⟨#[]⟩ : ByteArray)).size : Int) > (63 : Int))))) (
        some (false, ())
        ) (
        J8 n m ((IntKind.i64.wrap (i + (1 : Int))), r, ())
        )
      )
    ) (
    J9 n (())
    ) := (hideF_eq _).trans (by kernel_rfl)
theorem e9 (n : Nat) : J9 n (()) =
  some (true, ()) := (hideF_eq _).trans (by kernel_rfl)
theorem phi (n : Nat) : ∀ e ∈ (X n).c.Φ, EntryOk Tryz.prog e := allE_cons (mkEntry_ok (F_ref26_none.ok n)) (allE_cons (mkEntry_ok (F_ref24_Alike.ok n)) (allE_cons (mkEntry_ok (F_ref13_Good.ok n)) (allE_nil)))
theorem ok (n : Nat) : FnOk Tryz.prog 31 ia io (fRun (X n) n T Tryz.f31 ia io) := tree_ok mixed tabIs (phi n) Tryz.func31 (by kernel_rfl) rfl
noncomputable def en (n : Nat) : Entry := mkEntry 31 ia io (fRun (X n) n T Tryz.f31 ia io)
end F_ref26_good
end Go.Proofs.YtdlkpmohjhjmfaaGreatDoor

namespace Go.Proofs.YtdlkpmohjhjmfaaGreatDoor
open Go Go.Va Go.Proofs
namespace F_ref26_num
abbrev ia : List Ai := [.dat (.int .i64)]
abbrev io : List (Nat × Oi) := [(2, .dat .str)]
abbrev R : Type := DOut ia io
noncomputable def X (n : Nat) : Ctx := ⟨⟨tab, [F_ref10_Num.en n], 0, []⟩, 6, bnOf 0 ia⟩
noncomputable def T : CT := .o
noncomputable def f (n : Nat) (n_ : Int) : Option R := fRun (X n) n T Tryz.f32 ia io (n_, ())
theorem e0 (n : Nat) (n_ : Int) : f n n_ =
  bnd (F_ref10_Num.f n (IntKind.u64.wrap n_)) fun u1 =>
  some (u1.1, ()) := (hideF_eq _).trans (by kernel_rfl)
theorem phi (n : Nat) : ∀ e ∈ (X n).c.Φ, EntryOk Tryz.prog e := allE_cons (mkEntry_ok (F_ref10_Num.ok n)) (allE_nil)
theorem ok (n : Nat) : FnOk Tryz.prog 32 ia io (fRun (X n) n T Tryz.f32 ia io) := tree_ok mixed tabIs (phi n) Tryz.func32 (by kernel_rfl) rfl
noncomputable def en (n : Nat) : Entry := mkEntry 32 ia io (fRun (X n) n T Tryz.f32 ia io)
end F_ref26_num
end Go.Proofs.YtdlkpmohjhjmfaaGreatDoor

namespace Go.Proofs.YtdlkpmohjhjmfaaGreatDoor
open Go Go.Va Go.Proofs
namespace F_ref26_Tell
abbrev ia : List Ai := [.dat T_api_Reply]
abbrev io : List (Nat × Oi) := [(2, .dat .str), (3, .dat (.int .i64))]
abbrev R : Type := DOut ia io
noncomputable def X (n : Nat) : Ctx := ⟨⟨tab, [F_ref26_good.en n, F_ref26_num.en n, F_ref10_Num.en n, F_ref10_Text.en n, F_ref10_Flag.en n, F_ref26_none.en n, F_ref14_PutVersion.en n], 0, []⟩, 130, bnOf 0 ia⟩
abbrev g1 : List Si := [.ref 1 1 T_api_Reply, .dat 4 .str, .box 1 (.d T_api_Reply)]
abbrev g2 : List Si := [.ref 1 1 T_api_Reply, .dat 4 .str, .dat 5 (.int .i64), .box 1 (.d T_api_Reply)]
abbrev g3 : List Si := [.ref 1 1 T_api_Reply, .dat 4 .str, .dat 5 (.int .i64), .box 1 (.d T_api_Reply)]
abbrev g4 : List Si := [.ref 1 1 T_api_Reply, .dat 4 .str, .box 1 (.d T_api_Reply)]
abbrev g5 : List Si := [.ref 1 1 T_api_Reply, .dat 4 .str, .dat 7 (.int .i64), .box 1 (.d T_api_Reply)]
abbrev g6 : List Si := [.ref 1 1 T_api_Reply, .dat 4 .str, .box 1 (.d T_api_Reply)]
abbrev g7 : List Si := [.ref 1 1 T_api_Reply, .dat 4 .str, .dat 8 (.int .i64), .box 1 (.d T_api_Reply)]
abbrev g8 : List Si := [.dat 4 .str]
noncomputable def T : CT := (.s .o (.s .o (.s .o (.s .o (.s .o (.s .o (.r g1 (.s .o (.s (.s .o (.b (.l g2 (.s .o (.s .o (.r g3 .o)))))) (.r g4 (.s .o (.s (.s .o (.b (.l g5 .o))) (.r g6 (.s .o (.s (.s .o (.b (.l g7 .o))) (.r g8 .o))))))))))))))))
noncomputable def J1 (n : Nat) : ByteArray × D_api_Reply × Unit → Option R := jR (X n) n T (bodyOf Tryz.f15) (endK ia io) g1 [1, 1, 1, 1, 1, 1] []
noncomputable def J2 (n : Nat) (m : Nat) : ByteArray × Int × D_api_Reply × Unit → Option R := jL (X n) n T (bodyOf Tryz.f15) (endK ia io) g2 [1, 1, 1, 1, 1, 1, 1, 0, 1, 0] [] m
noncomputable def J3 (n m2 : Nat) : ByteArray × Int × D_api_Reply × Unit → Option R := jR (X n) n T (bodyOf Tryz.f15) (endK ia io) g3 [1, 1, 1, 1, 1, 1, 1, 0, 1, 0, 0, 1, 1] [m2]
noncomputable def J4 (n : Nat) : ByteArray × D_api_Reply × Unit → Option R := jR (X n) n T (bodyOf Tryz.f15) (endK ia io) g4 [1, 1, 1, 1, 1, 1, 1, 1] []
noncomputable def J5 (n : Nat) (m : Nat) : ByteArray × Int × D_api_Reply × Unit → Option R := jL (X n) n T (bodyOf Tryz.f15) (endK ia io) g5 [1, 1, 1, 1, 1, 1, 1, 1, 1, 0, 1, 0] [] m
noncomputable def J6 (n : Nat) : ByteArray × D_api_Reply × Unit → Option R := jR (X n) n T (bodyOf Tryz.f15) (endK ia io) g6 [1, 1, 1, 1, 1, 1, 1, 1, 1, 1] []
noncomputable def J7 (n : Nat) (m : Nat) : ByteArray × Int × D_api_Reply × Unit → Option R := jL (X n) n T (bodyOf Tryz.f15) (endK ia io) g7 [1, 1, 1, 1, 1, 1, 1, 1, 1, 1, 1, 0, 1, 0] [] m
noncomputable def J8 (n : Nat) : ByteArray × Unit → Option R := jR (X n) n T (bodyOf Tryz.f15) (endK ia io) g8 [1, 1, 1, 1, 1, 1, 1, 1, 1, 1, 1, 1] []
noncomputable def f (n : Nat) (t : D_api_Reply) : Option R := fRun (X n) n T Tryz.f15 ia io (t, ())
theorem e0 (n : Nat) (t : D_api_Reply) : f n t =
  bnd (F_ref26_good.f n t) fun u1 =>
  bIf ((!u1.1)) (
    some ((⟨#[]⟩ : ByteArray), 2, ())
    ) (
    bnd (F_ref26_num.f n t.1) fun u2 =>
    bIf ((hide (t.1 != (0 : Int)))) (
      some (u2.1, 0, ())
      ) (
      bnd (F_ref10_Num.f n t.2.1) fun u3 =>
      bnd (F_ref10_Text.f n (bytesOf t.2.2.1)) fun u4 =>
      gIf (u3.1.size + u4.1.size ≤ 4611686018427387904) (
        bnd (F_ref26_none.f n t.2.2.2.1) fun u5 =>
        bnd (F_ref10_Flag.f n (!u5.1)) fun u6 =>
        gIf ((u3.1 ++ u4.1).size + u6.1.size ≤ 4611686018427387904) (
          gIf (u2.1.size + ((u3.1 ++ u4.1) ++ u6.1).size ≤ 4611686018427387904) (
            bnd (F_ref26_none.f n t.2.2.2.1) fun u7 =>
            bIf ((!u7.1)) (
              bnd (F_ref14_PutVersion.f n t.2.2.2.1) fun u8 =>
              gIf ((u2.1 ++ ((u3.1 ++ u4.1) ++ u6.1)).size + u8.1.size ≤ 4611686018427387904) (
                J1 n (((u2.1 ++ ((u3.1 ++ u4.1) ++ u6.1)) ++ u8.1), t, ())
                )
              ) (
              J1 n ((u2.1 ++ ((u3.1 ++ u4.1) ++ u6.1)), t, ())
              )
            )
          )
        )
      )
    ) := (hideF_eq _).trans (by kernel_rfl)
theorem e1 (n : Nat) (r : ByteArray) (o : D_api_Reply) : J1 n (r, o, ()) =
  bnd (F_ref26_num.f n ((o.2.2.2.2.1.length : Nat) : Int)) fun u1 =>
  gIf (r.size + u1.1.size ≤ 4611686018427387904) (
    J2 n n ((r ++ u1.1), 0, o, ())
    ) := (hideF_eq _).trans (by kernel_rfl)
theorem e2 (n m : Nat) (r : ByteArray) (a : Int) (o : D_api_Reply) : J2 n (m + 1) (r, a, o, ()) =
  bIf ((hide (decide (a < ((o.2.2.2.2.1.length : Nat) : Int))))) (
    gIf (0 ≤ a ∧ a < ((o.2.2.2.2.1.length : Nat) : Int)) (
      bnd (F_ref10_Text.f n ((List.getD o.2.2.2.2.1 a.toNat (Va.dflt T_api_Row)).1)) fun u1 =>
      bnd (F_ref10_Flag.f n (((List.getD o.2.2.2.2.1 a.toNat (Va.dflt T_api_Row)).2).1)) fun u2 =>
      gIf (u1.1.size + u2.1.size ≤ 4611686018427387904) (
        gIf (r.size + (u1.1 ++ u2.1).size ≤ 4611686018427387904) (
          bIf ((!(((List.getD o.2.2.2.2.1 a.toNat (Va.dflt T_api_Row)).2).1))) (
            bnd (F_ref14_PutVersion.f n ((((List.getD o.2.2.2.2.1 a.toNat (Va.dflt T_api_Row)).2).2).1)) fun u3 =>
            bnd (F_ref10_Flag.f n (((((List.getD o.2.2.2.2.1 a.toNat (Va.dflt T_api_Row)).2).2).2).1)) fun u4 =>
            gIf (u3.1.size + u4.1.size ≤ 4611686018427387904) (
              gIf ((r ++ (u1.1 ++ u2.1)).size + (u3.1 ++ u4.1).size ≤ 4611686018427387904) (
                J3 n m (((r ++ (u1.1 ++ u2.1)) ++ (u3.1 ++ u4.1)), a, o, ())
                )
              )
            ) (
            J3 n m ((r ++ (u1.1 ++ u2.1)), a, o, ())
            )
          )
        )
      )
    ) (
    J4 n (r, o, ())
    ) := (hideF_eq _).trans (by kernel_rfl)
theorem e3 (n m2 : Nat) (r : ByteArray) (a : Int) (o : D_api_Reply) : J3 n m2 (r, a, o, ()) =
  J2 n m2 (r, (IntKind.i64.wrap (a + (1 : Int))), o, ()) := (hideF_eq _).trans (by kernel_rfl)
theorem e4 (n : Nat) (r : ByteArray) (o : D_api_Reply) : J4 n (r, o, ()) =
  bnd (F_ref10_Flag.f n o.2.2.2.2.2.1) fun u1 =>
  bnd (F_ref26_num.f n ((o.2.2.2.2.2.2.1.length : Nat) : Int)) fun u2 =>
  gIf (u1.1.size + u2.1.size ≤ 4611686018427387904) (
    gIf (r.size + (u1.1 ++ u2.1).size ≤ 4611686018427387904) (
      J5 n n ((r ++ (u1.1 ++ u2.1)), 0, o, ())
      )
    ) := (hideF_eq _).trans (by kernel_rfl)
theorem e5 (n m : Nat) (r : ByteArray) (t7 : Int) (o : D_api_Reply) : J5 n (m + 1) (r, t7, o, ()) =
  bIf ((hide (decide (t7 < ((o.2.2.2.2.2.2.1.length : Nat) : Int))))) (
    gIf (0 ≤ t7 ∧ t7 < ((o.2.2.2.2.2.2.1.length : Nat) : Int)) (
      bnd (F_ref26_num.f n (List.getD o.2.2.2.2.2.2.1 t7.toNat 0)) fun u1 =>
      gIf (r.size + u1.1.size ≤ 4611686018427387904) (
        J5 n m ((r ++ u1.1), (IntKind.i64.wrap (t7 + (1 : Int))), o, ())
        )
      )
    ) (
    J6 n (r, o, ())
    ) := (hideF_eq _).trans (by kernel_rfl)
theorem e6 (n : Nat) (r : ByteArray) (o : D_api_Reply) : J6 n (r, o, ()) =
  bnd (F_ref26_num.f n ((o.2.2.2.2.2.2.2.1.length : Nat) : Int)) fun u1 =>
  gIf (r.size + u1.1.size ≤ 4611686018427387904) (
    J7 n n ((r ++ u1.1), 0, o, ())
    ) := (hideF_eq _).trans (by kernel_rfl)
theorem e7 (n m : Nat) (r : ByteArray) (t8 : Int) (o : D_api_Reply) : J7 n (m + 1) (r, t8, o, ()) =
  bIf ((hide (decide (t8 < ((o.2.2.2.2.2.2.2.1.length : Nat) : Int))))) (
    gIf (0 ≤ t8 ∧ t8 < ((o.2.2.2.2.2.2.2.1.length : Nat) : Int)) (
      bnd (F_ref10_Text.f n (List.getD o.2.2.2.2.2.2.2.1 t8.toNat (⟨#[]⟩ : ByteArray))) fun u1 =>
      gIf (r.size + u1.1.size ≤ 4611686018427387904) (
        J7 n m ((r ++ u1.1), (IntKind.i64.wrap (t8 + (1 : Int))), o, ())
        )
      )
    ) (
    J8 n (r, ())
    ) := (hideF_eq _).trans (by kernel_rfl)
theorem e8 (n : Nat) (r : ByteArray) : J8 n (r, ()) =
  some (r, 0, ()) := (hideF_eq _).trans (by kernel_rfl)
theorem phi (n : Nat) : ∀ e ∈ (X n).c.Φ, EntryOk Tryz.prog e := allE_cons (mkEntry_ok (F_ref26_good.ok n)) (allE_cons (mkEntry_ok (F_ref26_num.ok n)) (allE_cons (mkEntry_ok (F_ref10_Num.ok n)) (allE_cons (mkEntry_ok (F_ref10_Text.ok n)) (allE_cons (mkEntry_ok (F_ref10_Flag.ok n)) (allE_cons (mkEntry_ok (F_ref26_none.ok n)) (allE_cons (mkEntry_ok (F_ref14_PutVersion.ok n)) (allE_nil)))))))
theorem ok (n : Nat) : FnOk Tryz.prog 15 ia io (fRun (X n) n T Tryz.f15 ia io) := tree_ok mixed tabIs (phi n) Tryz.func15 (by kernel_rfl) rfl
noncomputable def en (n : Nat) : Entry := mkEntry 15 ia io (fRun (X n) n T Tryz.f15 ia io)
end F_ref26_Tell
end Go.Proofs.YtdlkpmohjhjmfaaGreatDoor

namespace Go.Proofs.YtdlkpmohjhjmfaaGreatDoor
open Go Go.Va Go.Proofs
namespace F_wire_Same
abbrev ia : List Ai := [.dat T_api_Request, .dat T_api_Request]
abbrev io : List (Nat × Oi) := [(4, .dat .bool)]
abbrev R : Type := DOut ia io
noncomputable def X (n : Nat) : Ctx := ⟨⟨tab, [F_bytes_Equal.en n, F_tags_Same.en n, F_entry_SameRules.en n, F_slices_Equal_Grant.en n, F_slices_Equal_int.en n], 0, []⟩, 132, bnOf 0 ia⟩
abbrev g1 : List Si := [.ref 2 2 T_api_Request, .ref 3 3 T_api_Request, .box 2 (.d T_api_Request), .box 3 (.d T_api_Request)]
abbrev g2 : List Si := [.ref 2 2 T_api_Request, .ref 3 3 T_api_Request, .box 2 (.d T_api_Request), .box 3 (.d T_api_Request)]
noncomputable def T : CT := (.s .o (.s .o (.r g1 (.s .o (.r g2 .o)))))
noncomputable def J1 (n : Nat) : D_api_Request × D_api_Request × Unit → Option R := jR (X n) n T (bodyOf Tryz.f77) (endK ia io) g1 [1, 1] []
noncomputable def J2 (n : Nat) : D_api_Request × D_api_Request × Unit → Option R := jR (X n) n T (bodyOf Tryz.f77) (endK ia io) g2 [1, 1, 1] []
noncomputable def f (n : Nat) (t : D_api_Request) (o : D_api_Request) : Option R := fRun (X n) n T Tryz.f77 ia io (t, o, ())
theorem e0 (n : Nat) (t : D_api_Request) (o : D_api_Request) : f n t o =
  bIf ((hide (t.1 != o.1))) (
    some (false, ())
    ) (
    bIf ((hide (!eqS t.2.1 o.2.1))) (
      some (false, ())
      ) (
      bIf ((hide (!eqS t.2.2.1 o.2.2.1))) (
        some (false, ())
        ) (
        bIf ((hide (!eqS t.2.2.2.1 o.2.2.2.1))) (
          some (false, ())
          ) (
          bIf ((hide (t.2.2.2.2.1 != o.2.2.2.2.1))) (
            some (false, ())
            ) (
            bIf ((hide (!(eqD T_api_Lock t.2.2.2.2.2.2.2.1 o.2.2.2.2.2.2.2.1)))) (
              some (false, ())
              ) (
              bIf ((hide (!(t.2.2.2.2.2.2.2.2.1 == o.2.2.2.2.2.2.2.2.1)))) (
                some (false, ())
                ) (
                bIf ((hide (!(eqD T_api_Default t.2.2.2.2.2.2.2.2.2.1 o.2.2.2.2.2.2.2.2.2.1)))) (
                  some (false, ())
                  ) (
                  J1 n (t, o, ())
                  )
                )
              )
            )
          )
        )
      )
    ) := (hideF_eq _).trans (by kernel_rfl)
theorem e1 (n : Nat) (A : D_api_Request) (r : D_api_Request) : J1 n (A, r, ()) =
  bIf ((hide (A.2.2.2.2.2.2.2.2.2.2.2.2.1 != r.2.2.2.2.2.2.2.2.2.2.2.2.1))) (
    some (false, ())
    ) (
    bIf ((hide (!eqS A.2.2.2.2.2.2.2.2.2.2.2.2.2.2.1 r.2.2.2.2.2.2.2.2.2.2.2.2.2.2.1))) (
      some (false, ())
      ) (
      bIf ((hide (!eqS A.2.2.2.2.2.2.2.2.2.2.2.2.2.2.2.1 r.2.2.2.2.2.2.2.2.2.2.2.2.2.2.2.1))) (
        some (false, ())
        ) (
        bIf ((hide (!eqS A.2.2.2.2.2.2.2.2.2.2.2.2.2.2.2.2.1 r.2.2.2.2.2.2.2.2.2.2.2.2.2.2.2.2.1))) (
          some (false, ())
          ) (
          bIf ((hide (!(eqD T_api_Spot A.2.2.2.2.2.2.2.2.2.2.2.2.2.2.2.2.2.1 r.2.2.2.2.2.2.2.2.2.2.2.2.2.2.2.2.2.1)))) (
            some (false, ())
            ) (
            bIf ((hide (A.2.2.2.2.2.2.2.2.2.2.2.2.2.2.2.2.2.2.1 != r.2.2.2.2.2.2.2.2.2.2.2.2.2.2.2.2.2.2.1))) (
              some (false, ())
              ) (
              J2 n (A, r, ())
              )
            )
          )
        )
      )
    ) := (hideF_eq _).trans (by kernel_rfl)
theorem e2 (n : Nat) (A : D_api_Request) (r : D_api_Request) : J2 n (A, r, ()) =
  bnd (F_bytes_Equal.f n A.2.2.2.2.2.1 r.2.2.2.2.2.1) fun u1 =>
  bIf (u1.1) (
    bnd (F_tags_Same.f n A.2.2.2.2.2.2.1 r.2.2.2.2.2.2.1) fun u2 =>
    bIf (u2.1) (
      bnd (F_entry_SameRules.f n A.2.2.2.2.2.2.2.2.2.2.1 r.2.2.2.2.2.2.2.2.2.2.1) fun u3 =>
      bIf (u3.1) (
        bnd (F_slices_Equal_Grant.f n A.2.2.2.2.2.2.2.2.2.2.2.1 r.2.2.2.2.2.2.2.2.2.2.2.1) fun u4 =>
        bIf (u4.1) (
          bnd (F_slices_Equal_int.f n A.2.2.2.2.2.2.2.2.2.2.2.2.2.1 r.2.2.2.2.2.2.2.2.2.2.2.2.2.1) fun u5 =>
          some (u5.1, ())
          ) (
          some (false, ())
          )
        ) (
        some (false, ())
        )
      ) (
      some (false, ())
      )
    ) (
    some (false, ())
    ) := (hideF_eq _).trans (by kernel_rfl)
theorem phi (n : Nat) : ∀ e ∈ (X n).c.Φ, EntryOk Tryz.prog e := allE_cons (mkEntry_ok (F_bytes_Equal.ok n)) (allE_cons (mkEntry_ok (F_tags_Same.ok n)) (allE_cons (mkEntry_ok (F_entry_SameRules.ok n)) (allE_cons (mkEntry_ok (F_slices_Equal_Grant.ok n)) (allE_cons (mkEntry_ok (F_slices_Equal_int.ok n)) (allE_nil)))))
theorem ok (n : Nat) : FnOk Tryz.prog 77 ia io (fRun (X n) n T Tryz.f77 ia io) := tree_ok mixed tabIs (phi n) Tryz.func77 (by kernel_rfl) rfl
noncomputable def en (n : Nat) : Entry := mkEntry 77 ia io (fRun (X n) n T Tryz.f77 ia io)
end F_wire_Same
end Go.Proofs.YtdlkpmohjhjmfaaGreatDoor

namespace Go.Proofs.YtdlkpmohjhjmfaaGreatDoor
open Go Go.Va Go.Proofs
namespace F_wire_writer_key
abbrev ia : List Ai := [.fn (.str 2) [(.p (.r 0 (.int .u8)) (.d .unit))], .dat T_api_Request]
abbrev io : List (Nat × Oi) := [(4, .argc 2 500000 (.d T_pack_Writer))]
abbrev R : Type := DOut ia io
noncomputable def X (n : Nat) : Ctx := ⟨⟨tab, [F_pack_Writer_Num.en n, F_pack_Writer_Text.en n], 0, []⟩, 15, bnOf 0 ia⟩
noncomputable def T : CT := .o
noncomputable def f (n : Nat) (wc0 : D_pack_Writer) (r : D_api_Request) : Option R := fRun (X n) n T Tryz.f137 ia io (wc0, r, ())
theorem e0 (n : Nat) (wc0 : D_pack_Writer) (r : D_api_Request) : f n wc0 r =
  bnd (F_pack_Writer_Text.f n (wc0.1, wc0.2) r.2.2.2.1) fun u1 =>
  bnd (F_pack_Writer_Num.f n (u1.1.1, u1.1.2) r.2.2.2.2.1) fun u2 =>
  some ((u2.1.1, u2.1.2), ()) := (hideF_eq _).trans (by kernel_rfl)
theorem phi (n : Nat) : ∀ e ∈ (X n).c.Φ, EntryOk Tryz.prog e := allE_cons (mkEntry_ok (F_pack_Writer_Num.ok n)) (allE_cons (mkEntry_ok (F_pack_Writer_Text.ok n)) (allE_nil))
theorem ok (n : Nat) : FnOk Tryz.prog 137 ia io (fRun (X n) n T Tryz.f137 ia io) := tree_ok mixed tabIs (phi n) Tryz.func137 (by kernel_rfl) rfl
noncomputable def en (n : Nat) : Entry := mkEntry 137 ia io (fRun (X n) n T Tryz.f137 ia io)
end F_wire_writer_key
end Go.Proofs.YtdlkpmohjhjmfaaGreatDoor

namespace Go.Proofs.YtdlkpmohjhjmfaaGreatDoor
open Go Go.Va Go.Proofs
namespace F_wire_writer_fields
abbrev ia : List Ai := [.fn (.str 2) [(.p (.r 0 (.int .u8)) (.d .unit))], .dat T_api_Request]
abbrev io : List (Nat × Oi) := []
abbrev R : Type := DOut ia io
noncomputable def X (n : Nat) : Ctx := ⟨⟨tab, [F_pack_Writer_Num.en n, F_pack_Writer_Text.en n, F_pack_Writer_Flag.en n, F_pack_Writer_Int.en n, F_entry_Writer_Lock.en n, F_entry_Writer_Tags.en n, F_entry_Writer_Default.en n, F_entry_Writer_Rules.en n, F_entry_Writer_Grants.en n, F_wire_writer_key.en n], 0, []⟩, 230, bnOf 0 ia⟩
abbrev g1 : List Si := [.ref 2 2 T_wire_reader, .ref 3 3 T_api_Request, .dat 7 (.int .i64), .dat 8 .bool, .box 2 (.p (.p (.al 500000 T_pack_Writer) (.d .unit)) (.d .unit)), .box 3 (.d T_api_Request), .box 500000 (.p (.r 100000500000000 (.int .u8)) (.d .unit))]
abbrev g2 : List Si := [.ref 2 2 T_wire_reader, .ref 3 3 T_api_Request, .dat 7 (.int .i64), .dat 52 .bool, .box 2 (.p (.p (.al 500000 T_pack_Writer) (.d .unit)) (.d .unit)), .box 3 (.d T_api_Request), .box 500000 (.p (.r 100000500000000 (.int .u8)) (.d .unit))]
abbrev g3 : List Si := [.ref 2 2 T_wire_reader, .dat 190 (.slice (.int .i64)), .dat 191 (.int .i64), .dat 192 (.int .i64), .box 2 (.p (.p (.al 500000 T_pack_Writer) (.d .unit)) (.d .unit)), .box 500000 (.p (.r 100000500000000 (.int .u8)) (.d .unit))]
noncomputable def T : CT := (.s .o (.s .o (.b (.s .o (.r g1 (.c .o (.s .o (.c .o (.s .o (.c .o (.s .o (.c .o (.s .o (.r g2 (.c .o (.s .o (.c .o (.s .o (.c .o (.s .o (.c .o (.s .o (.c .o (.s .o (.c .o (.s .o (.c .o (.s .o (.c .o (.s .o (.c .o (.s .o (.c .o (.s .o (.c (.s .o (.s .o (.b (.l g3 .o)))) .o)))))))))))))))))))))))))))))))))))
noncomputable def J1 (n : Nat) : Int × Bool × D_wire_reader × D_api_Request × D_pack_Writer × Unit → Option R := jR (X n) n T (bodyOf Tryz.f76) (endK ia io) g1 [1, 1, 0, 1] []
noncomputable def J2 (n : Nat) : Int × Bool × D_wire_reader × D_api_Request × D_pack_Writer × Unit → Option R := jR (X n) n T (bodyOf Tryz.f76) (endK ia io) g2 [1, 1, 0, 1, 1, 1, 1, 1, 1, 1, 1, 1] []
noncomputable def J3 (n : Nat) (m : Nat) : (List (Int)) × Int × Int × D_wire_reader × D_pack_Writer × Unit → Option R := jL (X n) n T (bodyOf Tryz.f76) (endK ia io) g3 [1, 1, 0, 1, 1, 1, 1, 1, 1, 1, 1, 1, 1, 1, 1, 1, 1, 1, 1, 1, 1, 1, 1, 1, 1, 1, 1, 1, 1, 1, 1, 1, 0, 1, 1, 0] [] m
noncomputable def f (n : Nat) (tc0 : D_pack_Writer) (o : D_api_Request) : Option R := fRun (X n) n T Tryz.f76 ia io (tc0, o, ())
theorem e0 (n : Nat) (tc0 : D_pack_Writer) (o : D_api_Request) : f n tc0 o =
  bIf ((hide (o.1 == (1 : Int)))) (
    J1 n (o.1, true, (((), ()), ()), o, (tc0.1, tc0.2), ())
    ) (
    J1 n (o.1, (hide (o.1 == (3 : Int))), (((), ()), ()), o, (tc0.1, tc0.2), ())
    ) := (hideF_eq _).trans (by kernel_rfl)
theorem e1 (n : Nat) (t7 : Int) (t8 : Bool) (A : D_wire_reader) (r : D_api_Request) (b500000 : D_pack_Writer) : J1 n (t7, t8, A, r, b500000, ()) =
  bIf (t8) (
    bnd (F_entry_Writer_Default.f n (b500000.1, b500000.2) r.2.2.2.2.2.2.2.2.2.1) fun u1 =>
    some ((u1.1.1, u1.1.2), ())
    ) (
    bIf ((hide (t7 == (4 : Int)))) (
      bnd (F_entry_Writer_Rules.f n (b500000.1, b500000.2) r.2.2.2.2.2.2.2.2.2.2.1) fun u2 =>
      some ((u2.1.1, u2.1.2), ())
      ) (
      bIf ((hide (t7 == (5 : Int)))) (
        bnd (F_entry_Writer_Grants.f n (b500000.1, b500000.2) r.2.2.2.2.2.2.2.2.2.2.2.1) fun u3 =>
        some ((u3.1.1, u3.1.2), ())
        ) (
        bIf ((hide (t7 == (6 : Int)))) (
          bnd (F_pack_Writer_Text.f n (b500000.1, b500000.2) r.2.2.2.1) fun u4 =>
          bnd (F_pack_Writer_Text.f n (u4.1.1, u4.1.2) (bytesOf r.2.2.2.2.2.1)) fun u5 =>
          bnd (F_entry_Writer_Tags.f n (u5.1.1, u5.1.2) r.2.2.2.2.2.2.1) fun u6 =>
          bnd (F_entry_Writer_Lock.f n (u6.1.1, u6.1.2) r.2.2.2.2.2.2.2.1) fun u7 =>
          some ((u7.1.1, u7.1.2), ())
          ) (
          bIf ((hide (t7 == (7 : Int)))) (
            J2 n (t7, true, (((), A.1.2), A.2), r, (b500000.1, b500000.2), ())
            ) (
            J2 n (t7, (hide (t7 == (8 : Int))), (((), A.1.2), A.2), r, (b500000.1, b500000.2), ())
            )
          )
        )
      )
    ) := (hideF_eq _).trans (by kernel_rfl)
theorem e2 (n : Nat) (t7 : Int) (t52 : Bool) (A : D_wire_reader) (r : D_api_Request) (b500000 : D_pack_Writer) : J2 n (t7, t52, A, r, b500000, ()) =
  bIf (t52) (
    bnd (F_wire_writer_key.f n (b500000.1, b500000.2) r) fun u1 =>
    some ((u1.1.1, u1.1.2), ())
    ) (
    bIf ((hide (t7 == (9 : Int)))) (
      bnd (F_pack_Writer_Text.f n (b500000.1, b500000.2) r.2.2.2.1) fun u2 =>
      some ((u2.1.1, u2.1.2), ())
      ) (
      bIf ((hide (t7 == (10 : Int)))) (
        bnd (F_wire_writer_key.f n (b500000.1, b500000.2) r) fun u3 =>
        bnd (F_pack_Writer_Flag.f n (u3.1.1, u3.1.2) r.2.2.2.2.2.2.2.2.1) fun u4 =>
        some ((u4.1.1, u4.1.2), ())
        ) (
        bIf ((hide (t7 == (11 : Int)))) (
          bnd (F_wire_writer_key.f n (b500000.1, b500000.2) r) fun u5 =>
          bnd (F_entry_Writer_Lock.f n (u5.1.1, u5.1.2) r.2.2.2.2.2.2.2.1) fun u6 =>
          bnd (F_pack_Writer_Flag.f n (u6.1.1, u6.1.2) r.2.2.2.2.2.2.2.2.1) fun u7 =>
          some ((u7.1.1, u7.1.2), ())
          ) (
          bIf ((hide (t7 == (12 : Int)))) (
            bnd (F_wire_writer_key.f n (b500000.1, b500000.2) r) fun u8 =>
            bnd (F_entry_Writer_Lock.f n (u8.1.1, u8.1.2) r.2.2.2.2.2.2.2.1) fun u9 =>
            some ((u9.1.1, u9.1.2), ())
            ) (
            bIf ((hide (t7 == (13 : Int)))) (
              bnd (F_wire_writer_key.f n (b500000.1, b500000.2) r) fun u10 =>
              bnd (F_entry_Writer_Tags.f n (u10.1.1, u10.1.2) r.2.2.2.2.2.2.1) fun u11 =>
              some ((u11.1.1, u11.1.2), ())
              ) (
              bIf ((hide (t7 == (14 : Int)))) (
                bnd (F_pack_Writer_Text.f n (b500000.1, b500000.2) r.2.2.2.2.2.2.2.2.2.2.2.2.2.2.2.1) fun u12 =>
                bnd (F_pack_Writer_Text.f n (u12.1.1, u12.1.2) r.2.2.2.2.2.2.2.2.2.2.2.2.2.2.2.2.1) fun u13 =>
                bnd (F_pack_Writer_Text.f n (u13.1.1, u13.1.2) r.2.2.2.2.2.2.2.2.2.2.2.2.2.2.1) fun u14 =>
                bnd (F_pack_Writer_Num.f n (u14.1.1, u14.1.2) (IntKind.u64.wrap r.2.2.2.2.2.2.2.2.2.2.2.2.2.2.2.2.2.2.1)) fun u15 =>
                some ((u15.1.1, u15.1.2), ())
                ) (
                bIf ((hide (t7 == (15 : Int)))) (
                  bnd (F_pack_Writer_Text.f n (b500000.1, b500000.2) r.2.2.2.2.2.2.2.2.2.2.2.2.2.2.2.1) fun u16 =>
                  bnd (F_pack_Writer_Text.f n (u16.1.1, u16.1.2) r.2.2.2.2.2.2.2.2.2.2.2.2.2.2.2.2.2.1.2.1) fun u17 =>
                  bnd (F_pack_Writer_Num.f n (u17.1.1, u17.1.2) r.2.2.2.2.2.2.2.2.2.2.2.2.2.2.2.2.2.1.2.2.1) fun u18 =>
                  bnd (F_pack_Writer_Num.f n (u18.1.1, u18.1.2) (IntKind.u64.wrap r.2.2.2.2.2.2.2.2.2.2.2.2.2.2.2.2.2.2.1)) fun u19 =>
                  some ((u19.1.1, u19.1.2), ())
                  ) (
                  bIf ((hide (t7 == (16 : Int)))) (
                    bnd (F_pack_Writer_Text.f n (b500000.1, b500000.2) r.2.2.2.1) fun u20 =>
                    bnd (F_entry_Writer_Tags.f n (u20.1.1, u20.1.2) r.2.2.2.2.2.2.1) fun u21 =>
                    some ((u21.1.1, u21.1.2), ())
                    ) (
                    bIf ((hide (t7 == (17 : Int)))) (
                      bnd (F_pack_Writer_Num.f n (b500000.1, b500000.2) r.2.2.2.2.1) fun u22 =>
                      bnd (F_pack_Writer_Num.f n (u22.1.1, u22.1.2) (IntKind.u64.wrap r.2.2.2.2.2.2.2.2.2.2.2.2.1)) fun u23 =>
                      bnd (F_pack_Writer_Text.f n (u23.1.1, u23.1.2) (bytesOf r.2.2.2.2.2.1)) fun u24 =>
                      some ((u24.1.1, u24.1.2), ())
                      ) (
                      bIf ((hide (t7 == (18 : Int)))) (
                        bnd (F_pack_Writer_Num.f n (b500000.1, b500000.2) r.2.2.2.2.1) fun u25 =>
                        bnd (F_pack_Writer_Num.f n (u25.1.1, u25.1.2) (IntKind.u64.wrap ((r.2.2.2.2.2.2.2.2.2.2.2.2.2.1.length : Nat) : Int))) fun u26 =>
                        J3 n n (r.2.2.2.2.2.2.2.2.2.2.2.2.2.1, ((r.2.2.2.2.2.2.2.2.2.2.2.2.2.1.length : Nat) : Int), 0, (((), A.1.2), A.2), (u26.1.1, u26.1.2), ())
                        ) (
                        bIf ((hide (t7 == (19 : Int)))) (
                          bnd (F_pack_Writer_Num.f n (b500000.1, b500000.2) r.2.2.2.2.1) fun u27 =>
                          some ((u27.1.1, u27.1.2), ())
                          ) (
                          bIf ((hide (t7 == (20 : Int)))) (
                            bnd (F_pack_Writer_Text.f n (b500000.1, b500000.2) r.2.2.2.1) fun u28 =>
                            bnd (F_pack_Writer_Text.f n (u28.1.1, u28.1.2) r.2.2.2.2.2.2.2.2.2.2.2.2.2.2.2.2.2.1.1) fun u29 =>
                            bnd (F_pack_Writer_Text.f n (u29.1.1, u29.1.2) r.2.2.2.2.2.2.2.2.2.2.2.2.2.2.2.2.2.1.2.1) fun u30 =>
                            bnd (F_pack_Writer_Num.f n (u30.1.1, u30.1.2) r.2.2.2.2.2.2.2.2.2.2.2.2.2.2.2.2.2.1.2.2.1) fun u31 =>
                            some ((u31.1.1, u31.1.2), ())
                            ) (
                            some ((b500000.1, b500000.2), ())
                            )
                          )
                        )
                      )
                    )
                  )
                )
              )
            )
          )
        )
      )
    ) := (hideF_eq _).trans (by kernel_rfl)
theorem e3 (n m : Nat) (t190 : List (Int)) (t191 : Int) (t192 : Int) (A : D_wire_reader) (b500000 : D_pack_Writer) : J3 n (m + 1) (t190, t191, t192, A, b500000, ()) =
  bIf ((hide (decide (t192 < t191)))) (
    gIf (0 ≤ t192 ∧ t192 < ((t190.length : Nat) : Int)) (
      bnd (F_pack_Writer_Int.f n (b500000.1, b500000.2) (List.getD t190 t192.toNat 0)) fun u1 =>
      J3 n m (t190, t191, (IntKind.i64.wrap (t192 + (1 : Int))), (((), A.1.2), A.2), (u1.1.1, u1.1.2), ())
      )
    ) (
    some ((b500000.1, b500000.2), ())
    ) := (hideF_eq _).trans (by kernel_rfl)
theorem phi (n : Nat) : ∀ e ∈ (X n).c.Φ, EntryOk Tryz.prog e := allE_cons (mkEntry_ok (F_pack_Writer_Num.ok n)) (allE_cons (mkEntry_ok (F_pack_Writer_Text.ok n)) (allE_cons (mkEntry_ok (F_pack_Writer_Flag.ok n)) (allE_cons (mkEntry_ok (F_pack_Writer_Int.ok n)) (allE_cons (mkEntry_ok (F_entry_Writer_Lock.ok n)) (allE_cons (mkEntry_ok (F_entry_Writer_Tags.ok n)) (allE_cons (mkEntry_ok (F_entry_Writer_Default.ok n)) (allE_cons (mkEntry_ok (F_entry_Writer_Rules.ok n)) (allE_cons (mkEntry_ok (F_entry_Writer_Grants.ok n)) (allE_cons (mkEntry_ok (F_wire_writer_key.ok n)) (allE_nil))))))))))
theorem ok (n : Nat) : FnOk Tryz.prog 76 ia io (fRun (X n) n T Tryz.f76 ia io) := tree_ok mixed tabIs (phi n) Tryz.func76 (by kernel_rfl) rfl
noncomputable def en (n : Nat) : Entry := mkEntry 76 ia io (fRun (X n) n T Tryz.f76 ia io)
end F_wire_writer_fields
end Go.Proofs.YtdlkpmohjhjmfaaGreatDoor

namespace Go.Proofs.YtdlkpmohjhjmfaaGreatDoor
open Go Go.Va Go.Proofs
namespace F_wire_Ask
abbrev ia : List Ai := [.dat T_api_Request]
abbrev io : List (Nat × Oi) := [(2, .dat (.slice (.int .u8))), (3, .dat (.int .i64))]
abbrev R : Type := DOut ia io
noncomputable def X (n : Nat) : Ctx := ⟨⟨tab, [F_entry_NewWriter.en n, F_pack_Writer_Num.en n, F_pack_Writer_Out.en n, F_pack_Writer_Text.en n, F_acts_Good.en n, F_wire_writer_fields.en n], 0, []⟩, 41, bnOf 0 ia⟩
abbrev g1 : List Si := [.ref 1 1 T_api_Request, .ref 4 4 T_wire_reader, .dat 27 .bool, .box 1 (.d T_api_Request), .box 4 (.p (.p (.al 1500000000008 T_pack_Writer) (.d .unit)) (.d .unit)), .box 1500000000008 (.p (.r 1600000000008000 (.int .u8)) (.d .unit))]
abbrev g2 : List Si := [.ref 1 1 T_api_Request, .ref 4 4 T_wire_reader, .box 1 (.d T_api_Request), .box 4 (.p (.p (.al 1500000000008 T_pack_Writer) (.d .unit)) (.d .unit)), .box 1500000000008 (.p (.r 1600000000008000 (.int .u8)) (.d .unit))]
noncomputable def T : CT := (.s .o (.s .o (.s .o (.s .o (.s (.s .o (.r g1 .o)) (.r g2 .o))))))
noncomputable def J1 (n : Nat) : Bool × D_api_Request × D_wire_reader × D_pack_Writer × Unit → Option R := jR (X n) n T (bodyOf Tryz.f42) (endK ia io) g1 [1, 1, 1, 1, 0, 1] []
noncomputable def J2 (n : Nat) : D_api_Request × D_wire_reader × D_pack_Writer × Unit → Option R := jR (X n) n T (bodyOf Tryz.f42) (endK ia io) g2 [1, 1, 1, 1, 1] []
noncomputable def f (n : Nat) (r : D_api_Request) : Option R := fRun (X n) n T Tryz.f42 ia io (r, ())
theorem e0 (n : Nat) (r : D_api_Request) : f n r =
  bnd (F_acts_Good.f n r) fun u1 =>
  bIf ((!u1.1)) (
    some ([], 2, ())
    ) (
    bnd (F_entry_NewWriter.f n) fun u2 =>
    bnd (F_pack_Writer_Num.f n (u2.1.1, u2.1.2) (IntKind.u64.wrap r.1)) fun u3 =>
    bnd (F_pack_Writer_Text.f n (u3.1.1, u3.1.2) r.2.1) fun u4 =>
    bIf ((hide (r.1 != (21 : Int)))) (
      J1 n ((hide (r.1 != (22 : Int))), r, (((), ()), ()), (u4.1.1, u4.1.2), ())
      ) (
      J1 n (false, r, (((), ()), ()), (u4.1.1, u4.1.2), ())
      )
    ) := (hideF_eq _).trans (by kernel_rfl)
theorem e1 (n : Nat) (t27 : Bool) (r : D_api_Request) (w_ : D_wire_reader) (b1500000000008 : D_pack_Writer) : J1 n (t27, r, w_, b1500000000008, ()) =
  bIf (t27) (
    bnd (F_pack_Writer_Text.f n (b1500000000008.1, b1500000000008.2) r.2.2.1) fun u1 =>
    J2 n (r, (((), w_.1.2), w_.2), (u1.1.1, u1.1.2), ())
    ) (
    J2 n (r, (((), w_.1.2), w_.2), (b1500000000008.1, b1500000000008.2), ())
    ) := (hideF_eq _).trans (by kernel_rfl)
theorem e2 (n : Nat) (r : D_api_Request) (w_ : D_wire_reader) (b1500000000008 : D_pack_Writer) : J2 n (r, w_, b1500000000008, ()) =
  bnd (F_wire_writer_fields.f n (b1500000000008.1, b1500000000008.2) r) fun u1 =>
  bnd (F_pack_Writer_Out.f n (u1.1.1, u1.1.2)) fun u2 =>
  some (u2.1, 0, ()) := (hideF_eq _).trans (by kernel_rfl)
theorem phi (n : Nat) : ∀ e ∈ (X n).c.Φ, EntryOk Tryz.prog e := allE_cons (mkEntry_ok (F_entry_NewWriter.ok n)) (allE_cons (mkEntry_ok (F_pack_Writer_Num.ok n)) (allE_cons (mkEntry_ok (F_pack_Writer_Out.ok n)) (allE_cons (mkEntry_ok (F_pack_Writer_Text.ok n)) (allE_cons (mkEntry_ok (F_acts_Good.ok n)) (allE_cons (mkEntry_ok (F_wire_writer_fields.ok n)) (allE_nil))))))
theorem ok (n : Nat) : FnOk Tryz.prog 42 ia io (fRun (X n) n T Tryz.f42 ia io) := tree_ok mixed tabIs (phi n) Tryz.func42 (by kernel_rfl) rfl
noncomputable def en (n : Nat) : Entry := mkEntry 42 ia io (fRun (X n) n T Tryz.f42 ia io)
end F_wire_Ask
end Go.Proofs.YtdlkpmohjhjmfaaGreatDoor

namespace Go.Proofs.YtdlkpmohjhjmfaaGreatDoor
open Go Go.Va Go.Proofs
namespace F_pack_Read
abbrev ia : List Ai := [.dat (.slice (.int .u8))]
abbrev io : List (Nat × Oi) := [(2, .new 0 (.d T_pack_Reader))]
abbrev R : Type := DOut ia io
noncomputable def X (n : Nat) : Ctx := ⟨⟨tab, [F_slices_Clone_byte.en n], 0, []⟩, 7, bnOf 0 ia⟩
noncomputable def T : CT := .o
noncomputable def f (n : Nat) (b : List (Int)) : Option R := fRun (X n) n T Tryz.f204 ia io (b, ())
theorem e0 (n : Nat) (b : List (Int)) : f n b =
  bnd (F_slices_Clone_byte.f n b) fun u1 =>
  some ((u1.1, (0, ())), ()) := (hideF_eq _).trans (by kernel_rfl)
theorem phi (n : Nat) : ∀ e ∈ (X n).c.Φ, EntryOk Tryz.prog e := allE_cons (mkEntry_ok (F_slices_Clone_byte.ok n)) (allE_nil)
theorem ok (n : Nat) : FnOk Tryz.prog 204 ia io (fRun (X n) n T Tryz.f204 ia io) := tree_ok mixed tabIs (phi n) Tryz.func204 (by kernel_rfl) rfl
noncomputable def en (n : Nat) : Entry := mkEntry 204 ia io (fRun (X n) n T Tryz.f204 ia io)
end F_pack_Read
end Go.Proofs.YtdlkpmohjhjmfaaGreatDoor

namespace Go.Proofs.YtdlkpmohjhjmfaaGreatDoor
open Go Go.Va Go.Proofs
namespace F_entry_NewReader
abbrev ia : List Ai := [.dat (.slice (.int .u8))]
abbrev io : List (Nat × Oi) := [(2, .newc 1 (.d T_pack_Reader))]
abbrev R : Type := DOut ia io
noncomputable def X (n : Nat) : Ctx := ⟨⟨tab, [F_pack_Read.en n], 0, []⟩, 6, bnOf 0 ia⟩
noncomputable def T : CT := .o
noncomputable def f (n : Nat) (b : List (Int)) : Option R := fRun (X n) n T Tryz.f153 ia io (b, ())
theorem e0 (n : Nat) (b : List (Int)) : f n b =
  bnd (F_pack_Read.f n b) fun u1 =>
  some (u1.1, ()) := (hideF_eq _).trans (by kernel_rfl)
theorem phi (n : Nat) : ∀ e ∈ (X n).c.Φ, EntryOk Tryz.prog e := allE_cons (mkEntry_ok (F_pack_Read.ok n)) (allE_nil)
theorem ok (n : Nat) : FnOk Tryz.prog 153 ia io (fRun (X n) n T Tryz.f153 ia io) := tree_ok mixed tabIs (phi n) Tryz.func153 (by kernel_rfl) rfl
noncomputable def en (n : Nat) : Entry := mkEntry 153 ia io (fRun (X n) n T Tryz.f153 ia io)
end F_entry_NewReader
end Go.Proofs.YtdlkpmohjhjmfaaGreatDoor

namespace Go.Proofs.YtdlkpmohjhjmfaaGreatDoor
open Go Go.Va Go.Proofs
namespace F_wire_reader_body
abbrev ia : List Ai := [.fn (.str 2) [(.d T_pack_Reader)]]
abbrev io : List (Nat × Oi) := [(2, .val (.r 0 (.int .u8)))]
abbrev R : Type := DOut ia io
noncomputable def X (n : Nat) : Ctx := ⟨⟨tab, [F_pack_Reader_Text.en n], 0, []⟩, 12, bnOf 0 ia⟩
noncomputable def T : CT := .o
noncomputable def f (n : Nat) (rc0 : D_pack_Reader) : Option R := fRun (X n) n T Tryz.f210 ia io (rc0, ())
theorem e0 (n : Nat) (rc0 : D_pack_Reader) : f n rc0 =
  bnd (F_pack_Reader_Text.f n rc0) fun u1 =>
  bIf ((hide (!eqS u1.1 (⟨#[]⟩ : ByteArray)))) (
    some ((ofBytes u1.1), u1.2.1, ())
    ) (
    some ([], u1.2.1, ())
    ) := (hideF_eq _).trans (by kernel_rfl)
theorem phi (n : Nat) : ∀ e ∈ (X n).c.Φ, EntryOk Tryz.prog e := allE_cons (mkEntry_ok (F_pack_Reader_Text.ok n)) (allE_nil)
theorem ok (n : Nat) : FnOk Tryz.prog 210 ia io (fRun (X n) n T Tryz.f210 ia io) := tree_ok mixed tabIs (phi n) Tryz.func210 (by kernel_rfl) rfl
noncomputable def en (n : Nat) : Entry := mkEntry 210 ia io (fRun (X n) n T Tryz.f210 ia io)
end F_wire_reader_body
end Go.Proofs.YtdlkpmohjhjmfaaGreatDoor

namespace Go.Proofs.YtdlkpmohjhjmfaaGreatDoor
open Go Go.Va Go.Proofs
namespace F_wire_reader_list
abbrev ia : List Ai := [.fn (.str 2) [(.d T_pack_Reader)], .ptr (.p (.d (.int .i64)) (.p (.d .str) (.p (.d .str) (.p (.d .str) (.p (.d (.int .u64)) (.p (.r 0 (.int .u8)) (.p (.r 0 T_api_Tag) (.p (.d T_api_Lock) (.p (.d .bool) (.p (.d T_api_Default) (.p (.r 0 T_api_Rule) (.p (.r 0 T_api_Grant) (.p (.d (.int .i64)) (.p (.r 0 (.int .i64)) (.d (.pair .str (.pair .str (.pair .str (.pair T_api_Spot (.pair (.int .i64) .unit))))))))))))))))))))]
abbrev io : List (Nat × Oi) := []
abbrev R : Type := DOut ia io
noncomputable def X (n : Nat) : Ctx := ⟨⟨tab, [F_entry_Reader_Small.en n, F_pack_Reader_Text.en n, F_pack_Reader_Num.en n], 0, []⟩, 52, bnOf 0 ia⟩
abbrev g1 : List Si := [.ref 1 502000 T_api_Request, .ref 2 2 T_wire_reader, .box 2 (.p (.p (.al 500000 T_pack_Reader) (.d .unit)) (.d .unit)), .box 500000 (.d T_pack_Reader), .box 502000 (.p (.d (.int .i64)) (.p (.d .str) (.p (.d .str) (.p (.d .str) (.p (.d (.int .u64)) (.p (.r 100000502000000 (.int .u8)) (.p (.r 100000502000001 T_api_Tag) (.p (.d T_api_Lock) (.p (.d .bool) (.p (.d T_api_Default) (.p (.r 100000502000002 T_api_Rule) (.p (.r 100000502000003 T_api_Grant) (.p (.d (.int .i64)) (.p (.r 100000502000004 (.int .i64)) (.d (.pair .str (.pair .str (.pair .str (.pair T_api_Spot (.pair (.int .i64) .unit))))))))))))))))))))]
noncomputable def T : CT := (.s .o (.s .o (.s .o (.r g1 .o))))
noncomputable def J1 (n : Nat) : D_wire_reader × D_pack_Reader × D_api_Request × Unit → Option R := jR (X n) n T (bodyOf Tryz.f214) (endK ia io) g1 [1, 1, 1] []
noncomputable def f (n : Nat) (rc0 : D_pack_Reader) (out : D_api_Request) : Option R := fRun (X n) n T Tryz.f214 ia io (rc0, out, ())
theorem e0 (n : Nat) (rc0 : D_pack_Reader) (out : D_api_Request) : f n rc0 out =
  bnd (F_pack_Reader_Text.f n rc0) fun u1 =>
  bIf ((hide (out.1 == (14 : Int)))) (
    bnd (F_pack_Reader_Text.f n u1.2.1) fun u2 =>
    bnd (F_pack_Reader_Text.f n u2.2.1) fun u3 =>
    J1 n ((((), ()), ()), u3.2.1, (out.1, (out.2.1, (out.2.2.1, (out.2.2.2.1, (out.2.2.2.2.1, (out.2.2.2.2.2.1, (out.2.2.2.2.2.2.1, (out.2.2.2.2.2.2.2.1, (out.2.2.2.2.2.2.2.2.1, (out.2.2.2.2.2.2.2.2.2.1, (out.2.2.2.2.2.2.2.2.2.2.1, (out.2.2.2.2.2.2.2.2.2.2.2.1, (out.2.2.2.2.2.2.2.2.2.2.2.2.1, (out.2.2.2.2.2.2.2.2.2.2.2.2.2.1, (u3.1, (u1.1, (u2.1, out.2.2.2.2.2.2.2.2.2.2.2.2.2.2.2.2.2))))))))))))))))), ())
    ) (
    bnd (F_pack_Reader_Text.f n u1.2.1) fun u4 =>
    bnd (F_pack_Reader_Num.f n u4.2.1) fun u5 =>
    J1 n ((((), ()), ()), u5.2.1, (out.1, (out.2.1, (out.2.2.1, (out.2.2.2.1, (out.2.2.2.2.1, (out.2.2.2.2.2.1, (out.2.2.2.2.2.2.1, (out.2.2.2.2.2.2.2.1, (out.2.2.2.2.2.2.2.2.1, (out.2.2.2.2.2.2.2.2.2.1, (out.2.2.2.2.2.2.2.2.2.2.1, (out.2.2.2.2.2.2.2.2.2.2.2.1, (out.2.2.2.2.2.2.2.2.2.2.2.2.1, (out.2.2.2.2.2.2.2.2.2.2.2.2.2.1, (out.2.2.2.2.2.2.2.2.2.2.2.2.2.2.1, (u1.1, (out.2.2.2.2.2.2.2.2.2.2.2.2.2.2.2.2.1, ((out.2.2.2.2.2.2.2.2.2.2.2.2.2.2.2.2.2.1.1, (u4.1, (u5.1, out.2.2.2.2.2.2.2.2.2.2.2.2.2.2.2.2.2.1.2.2.2))), out.2.2.2.2.2.2.2.2.2.2.2.2.2.2.2.2.2.2)))))))))))))))))), ())
    ) := (hideF_eq _).trans (by kernel_rfl)
theorem e1 (n : Nat) (r : D_wire_reader) (b500000 : D_pack_Reader) (out : D_api_Request) : J1 n (r, b500000, out, ()) =
  bnd (F_entry_Reader_Small.f n b500000) fun u1 =>
  some (u1.2.1, (out.1, (out.2.1, (out.2.2.1, (out.2.2.2.1, (out.2.2.2.2.1, (out.2.2.2.2.2.1, (out.2.2.2.2.2.2.1, (out.2.2.2.2.2.2.2.1, (out.2.2.2.2.2.2.2.2.1, (out.2.2.2.2.2.2.2.2.2.1, (out.2.2.2.2.2.2.2.2.2.2.1, (out.2.2.2.2.2.2.2.2.2.2.2.1, (out.2.2.2.2.2.2.2.2.2.2.2.2.1, (out.2.2.2.2.2.2.2.2.2.2.2.2.2.1, (out.2.2.2.2.2.2.2.2.2.2.2.2.2.2.1, (out.2.2.2.2.2.2.2.2.2.2.2.2.2.2.2.1, (out.2.2.2.2.2.2.2.2.2.2.2.2.2.2.2.2.1, (out.2.2.2.2.2.2.2.2.2.2.2.2.2.2.2.2.2.1, (u1.1, out.2.2.2.2.2.2.2.2.2.2.2.2.2.2.2.2.2.2.2))))))))))))))))))), ()) := (hideF_eq _).trans (by kernel_rfl)
theorem phi (n : Nat) : ∀ e ∈ (X n).c.Φ, EntryOk Tryz.prog e := allE_cons (mkEntry_ok (F_entry_Reader_Small.ok n)) (allE_cons (mkEntry_ok (F_pack_Reader_Text.ok n)) (allE_cons (mkEntry_ok (F_pack_Reader_Num.ok n)) (allE_nil)))
theorem ok (n : Nat) : FnOk Tryz.prog 214 ia io (fRun (X n) n T Tryz.f214 ia io) := tree_ok mixed tabIs (phi n) Tryz.func214 (by kernel_rfl) rfl
noncomputable def en (n : Nat) : Entry := mkEntry 214 ia io (fRun (X n) n T Tryz.f214 ia io)
end F_wire_reader_list
end Go.Proofs.YtdlkpmohjhjmfaaGreatDoor

namespace Go.Proofs.YtdlkpmohjhjmfaaGreatDoor
open Go Go.Va Go.Proofs
namespace F_wire_reader_numbers
abbrev ia : List Ai := [.fn (.str 2) [(.d T_pack_Reader)]]
abbrev io : List (Nat × Oi) := [(2, .val (.r 0 (.int .i64)))]
abbrev R : Type := DOut ia io
noncomputable def X (n : Nat) : Ctx := ⟨⟨tab, [F_pack_Reader_Count.en n, F_pack_Reader_Int.en n], 0, []⟩, 19, bnOf 0 ia⟩
abbrev g1 : List Si := [.ref 1 1 T_wire_reader, .val 3 (.r 200300 (.int .i64)), .dat 7 (.int .i64), .dat 8 (.int .i64), .box 1 (.p (.p (.al 500000 T_pack_Reader) (.d .unit)) (.d .unit)), .box 500000 (.d T_pack_Reader)]
abbrev g2 : List Si := [.val 3 (.r 200300 (.int .i64)), .box 500000 (.d T_pack_Reader)]
noncomputable def T : CT := (.s .o (.s .o (.s (.s .o (.b (.l g1 .o))) (.r g2 .o))))
noncomputable def J1 (n : Nat) (m : Nat) : (List (Int)) × Int × Int × D_wire_reader × D_pack_Reader × Unit → Option R := jL (X n) n T (bodyOf Tryz.f216) (endK ia io) g1 [1, 1, 0, 1, 0] [] m
noncomputable def J2 (n : Nat) : (List (Int)) × D_pack_Reader × Unit → Option R := jR (X n) n T (bodyOf Tryz.f216) (endK ia io) g2 [1, 1, 1] []
noncomputable def f (n : Nat) (rc0 : D_pack_Reader) : Option R := fRun (X n) n T Tryz.f216 ia io (rc0, ())
theorem e0 (n : Nat) (rc0 : D_pack_Reader) : f n rc0 =
  bnd (F_pack_Reader_Count.f n rc0 16) fun u1 =>
  J1 n n ([], u1.1, 0, (((), ()), ()), u1.2.1, ()) := (hideF_eq _).trans (by kernel_rfl)
theorem e1 (n m : Nat) (out : List (Int)) (t7 : Int) (t8 : Int) (r : D_wire_reader) (b500000 : D_pack_Reader) : J1 n (m + 1) (out, t7, t8, r, b500000, ()) =
  bIf ((hide (decide (t8 < t7)))) (
    bnd (F_pack_Reader_Int.f n b500000) fun u1 =>
    gIf ((out.length + 1) * 8 ≤ 70368744177664) (
      J1 n m ((out ++ ([u1.1] : List (Int))), t7, (IntKind.i64.wrap (t8 + (1 : Int))), (((), r.1.2), r.2), u1.2.1, ())
      )
    ) (
    J2 n (out, b500000, ())
    ) := (hideF_eq _).trans (by kernel_rfl)
theorem e2 (n : Nat) (out : List (Int)) (b500000 : D_pack_Reader) : J2 n (out, b500000, ()) =
  some (out, b500000, ()) := (hideF_eq _).trans (by kernel_rfl)
theorem phi (n : Nat) : ∀ e ∈ (X n).c.Φ, EntryOk Tryz.prog e := allE_cons (mkEntry_ok (F_pack_Reader_Count.ok n)) (allE_cons (mkEntry_ok (F_pack_Reader_Int.ok n)) (allE_nil))
theorem ok (n : Nat) : FnOk Tryz.prog 216 ia io (fRun (X n) n T Tryz.f216 ia io) := tree_ok mixed tabIs (phi n) Tryz.func216 (by kernel_rfl) rfl
noncomputable def en (n : Nat) : Entry := mkEntry 216 ia io (fRun (X n) n T Tryz.f216 ia io)
end F_wire_reader_numbers
end Go.Proofs.YtdlkpmohjhjmfaaGreatDoor

namespace Go.Proofs.YtdlkpmohjhjmfaaGreatDoor
open Go Go.Va Go.Proofs
namespace F_wire_reader_key
abbrev ia : List Ai := [.fn (.str 2) [(.d T_pack_Reader)], .ptr (.p (.d (.int .i64)) (.p (.d .str) (.p (.d .str) (.p (.d .str) (.p (.d (.int .u64)) (.p (.r 0 (.int .u8)) (.p (.r 0 T_api_Tag) (.p (.d T_api_Lock) (.p (.d .bool) (.p (.d T_api_Default) (.p (.r 0 T_api_Rule) (.p (.r 0 T_api_Grant) (.p (.d (.int .i64)) (.p (.r 0 (.int .i64)) (.d (.pair .str (.pair .str (.pair .str (.pair T_api_Spot (.pair (.int .i64) .unit))))))))))))))))))))]
abbrev io : List (Nat × Oi) := []
abbrev R : Type := DOut ia io
noncomputable def X (n : Nat) : Ctx := ⟨⟨tab, [F_pack_Reader_Text.en n, F_pack_Reader_Num.en n], 0, []⟩, 18, bnOf 0 ia⟩
noncomputable def T : CT := .o
noncomputable def f (n : Nat) (rc0 : D_pack_Reader) (out : D_api_Request) : Option R := fRun (X n) n T Tryz.f237 ia io (rc0, out, ())
theorem e0 (n : Nat) (rc0 : D_pack_Reader) (out : D_api_Request) : f n rc0 out =
  bnd (F_pack_Reader_Text.f n rc0) fun u1 =>
  bnd (F_pack_Reader_Num.f n u1.2.1) fun u2 =>
  some (u2.2.1, (out.1, (out.2.1, (out.2.2.1, (u1.1, (u2.1, (out.2.2.2.2.2.1, (out.2.2.2.2.2.2.1, (out.2.2.2.2.2.2.2.1, (out.2.2.2.2.2.2.2.2.1, (out.2.2.2.2.2.2.2.2.2.1, (out.2.2.2.2.2.2.2.2.2.2.1, (out.2.2.2.2.2.2.2.2.2.2.2.1, (out.2.2.2.2.2.2.2.2.2.2.2.2.1, (out.2.2.2.2.2.2.2.2.2.2.2.2.2.1, out.2.2.2.2.2.2.2.2.2.2.2.2.2.2)))))))))))))), ()) := (hideF_eq _).trans (by kernel_rfl)
theorem phi (n : Nat) : ∀ e ∈ (X n).c.Φ, EntryOk Tryz.prog e := allE_cons (mkEntry_ok (F_pack_Reader_Text.ok n)) (allE_cons (mkEntry_ok (F_pack_Reader_Num.ok n)) (allE_nil))
theorem ok (n : Nat) : FnOk Tryz.prog 237 ia io (fRun (X n) n T Tryz.f237 ia io) := tree_ok mixed tabIs (phi n) Tryz.func237 (by kernel_rfl) rfl
noncomputable def en (n : Nat) : Entry := mkEntry 237 ia io (fRun (X n) n T Tryz.f237 ia io)
end F_wire_reader_key
end Go.Proofs.YtdlkpmohjhjmfaaGreatDoor

namespace Go.Proofs.YtdlkpmohjhjmfaaGreatDoor
open Go Go.Va Go.Proofs
namespace F_wire_reader_version
abbrev ia : List Ai := [.fn (.str 2) [(.d T_pack_Reader)], .ptr (.p (.d (.int .i64)) (.p (.d .str) (.p (.d .str) (.p (.d .str) (.p (.d (.int .u64)) (.p (.r 0 (.int .u8)) (.p (.r 0 T_api_Tag) (.p (.d T_api_Lock) (.p (.d .bool) (.p (.d T_api_Default) (.p (.r 0 T_api_Rule) (.p (.r 0 T_api_Grant) (.p (.d (.int .i64)) (.p (.r 0 (.int .i64)) (.d (.pair .str (.pair .str (.pair .str (.pair T_api_Spot (.pair (.int .i64) .unit))))))))))))))))))))]
abbrev io : List (Nat × Oi) := []
abbrev R : Type := DOut ia io
noncomputable def X (n : Nat) : Ctx := ⟨⟨tab, [F_entry_Reader_Tags.en n, F_entry_Reader_Lock.en n, F_pack_Reader_Flag.en n, F_wire_reader_key.en n], 0, []⟩, 51, bnOf 0 ia⟩
noncomputable def T : CT := .o
noncomputable def f (n : Nat) (rc0 : D_pack_Reader) (out : D_api_Request) : Option R := fRun (X n) n T Tryz.f213 ia io (rc0, out, ())
theorem e0 (n : Nat) (rc0 : D_pack_Reader) (out : D_api_Request) : f n rc0 out =
  bnd (F_wire_reader_key.f n rc0 (out.1, (out.2.1, (out.2.2.1, (out.2.2.2.1, (out.2.2.2.2.1, (out.2.2.2.2.2.1, (out.2.2.2.2.2.2.1, (out.2.2.2.2.2.2.2.1, (out.2.2.2.2.2.2.2.2.1, (out.2.2.2.2.2.2.2.2.2.1, (out.2.2.2.2.2.2.2.2.2.2.1, (out.2.2.2.2.2.2.2.2.2.2.2.1, (out.2.2.2.2.2.2.2.2.2.2.2.2.1, (out.2.2.2.2.2.2.2.2.2.2.2.2.2.1, out.2.2.2.2.2.2.2.2.2.2.2.2.2.2))))))))))))))) fun u1 =>
  bIf ((hide (u1.2.1.1 == (10 : Int)))) (
    bnd (F_pack_Reader_Flag.f n u1.1) fun u2 =>
    some (u2.2.1, (u1.2.1.1, (u1.2.1.2.1, (u1.2.1.2.2.1, (u1.2.1.2.2.2.1, (u1.2.1.2.2.2.2.1, (u1.2.1.2.2.2.2.2.1, (u1.2.1.2.2.2.2.2.2.1, (u1.2.1.2.2.2.2.2.2.2.1, (u2.1, (u1.2.1.2.2.2.2.2.2.2.2.2.1, (u1.2.1.2.2.2.2.2.2.2.2.2.2.1, (u1.2.1.2.2.2.2.2.2.2.2.2.2.2.1, (u1.2.1.2.2.2.2.2.2.2.2.2.2.2.2.1, (u1.2.1.2.2.2.2.2.2.2.2.2.2.2.2.2.1, u1.2.1.2.2.2.2.2.2.2.2.2.2.2.2.2.2)))))))))))))), ())
    ) (
    bIf ((hide (u1.2.1.1 == (11 : Int)))) (
      bnd (F_entry_Reader_Lock.f n u1.1) fun u3 =>
      bnd (F_pack_Reader_Flag.f n u3.2.1) fun u4 =>
      some (u4.2.1, (u1.2.1.1, (u1.2.1.2.1, (u1.2.1.2.2.1, (u1.2.1.2.2.2.1, (u1.2.1.2.2.2.2.1, (u1.2.1.2.2.2.2.2.1, (u1.2.1.2.2.2.2.2.2.1, (u3.1, (u4.1, (u1.2.1.2.2.2.2.2.2.2.2.2.1, (u1.2.1.2.2.2.2.2.2.2.2.2.2.1, (u1.2.1.2.2.2.2.2.2.2.2.2.2.2.1, (u1.2.1.2.2.2.2.2.2.2.2.2.2.2.2.1, (u1.2.1.2.2.2.2.2.2.2.2.2.2.2.2.2.1, u1.2.1.2.2.2.2.2.2.2.2.2.2.2.2.2.2)))))))))))))), ())
      ) (
      bIf ((hide (u1.2.1.1 == (12 : Int)))) (
        bnd (F_entry_Reader_Lock.f n u1.1) fun u5 =>
        some (u5.2.1, (u1.2.1.1, (u1.2.1.2.1, (u1.2.1.2.2.1, (u1.2.1.2.2.2.1, (u1.2.1.2.2.2.2.1, (u1.2.1.2.2.2.2.2.1, (u1.2.1.2.2.2.2.2.2.1, (u5.1, (u1.2.1.2.2.2.2.2.2.2.2.1, (u1.2.1.2.2.2.2.2.2.2.2.2.1, (u1.2.1.2.2.2.2.2.2.2.2.2.2.1, (u1.2.1.2.2.2.2.2.2.2.2.2.2.2.1, (u1.2.1.2.2.2.2.2.2.2.2.2.2.2.2.1, (u1.2.1.2.2.2.2.2.2.2.2.2.2.2.2.2.1, u1.2.1.2.2.2.2.2.2.2.2.2.2.2.2.2.2)))))))))))))), ())
        ) (
        bIf ((hide (u1.2.1.1 == (13 : Int)))) (
          bnd (F_entry_Reader_Tags.f n u1.1) fun u6 =>
          some (u6.2.1, (u1.2.1.1, (u1.2.1.2.1, (u1.2.1.2.2.1, (u1.2.1.2.2.2.1, (u1.2.1.2.2.2.2.1, (u1.2.1.2.2.2.2.2.1, (u6.1, (u1.2.1.2.2.2.2.2.2.2.1, (u1.2.1.2.2.2.2.2.2.2.2.1, (u1.2.1.2.2.2.2.2.2.2.2.2.1, (u1.2.1.2.2.2.2.2.2.2.2.2.2.1, (u1.2.1.2.2.2.2.2.2.2.2.2.2.2.1, (u1.2.1.2.2.2.2.2.2.2.2.2.2.2.2.1, (u1.2.1.2.2.2.2.2.2.2.2.2.2.2.2.2.1, u1.2.1.2.2.2.2.2.2.2.2.2.2.2.2.2.2)))))))))))))), ())
          ) (
          some (u1.1, (u1.2.1.1, (u1.2.1.2.1, (u1.2.1.2.2.1, (u1.2.1.2.2.2.1, (u1.2.1.2.2.2.2.1, (u1.2.1.2.2.2.2.2.1, (u1.2.1.2.2.2.2.2.2.1, (u1.2.1.2.2.2.2.2.2.2.1, (u1.2.1.2.2.2.2.2.2.2.2.1, (u1.2.1.2.2.2.2.2.2.2.2.2.1, (u1.2.1.2.2.2.2.2.2.2.2.2.2.1, (u1.2.1.2.2.2.2.2.2.2.2.2.2.2.1, (u1.2.1.2.2.2.2.2.2.2.2.2.2.2.2.1, (u1.2.1.2.2.2.2.2.2.2.2.2.2.2.2.2.1, u1.2.1.2.2.2.2.2.2.2.2.2.2.2.2.2.2)))))))))))))), ())
          )
        )
      )
    ) := (hideF_eq _).trans (by kernel_rfl)
theorem phi (n : Nat) : ∀ e ∈ (X n).c.Φ, EntryOk Tryz.prog e := allE_cons (mkEntry_ok (F_entry_Reader_Tags.ok n)) (allE_cons (mkEntry_ok (F_entry_Reader_Lock.ok n)) (allE_cons (mkEntry_ok (F_pack_Reader_Flag.ok n)) (allE_cons (mkEntry_ok (F_wire_reader_key.ok n)) (allE_nil))))
theorem ok (n : Nat) : FnOk Tryz.prog 213 ia io (fRun (X n) n T Tryz.f213 ia io) := tree_ok mixed tabIs (phi n) Tryz.func213 (by kernel_rfl) rfl
noncomputable def en (n : Nat) : Entry := mkEntry 213 ia io (fRun (X n) n T Tryz.f213 ia io)
end F_wire_reader_version
end Go.Proofs.YtdlkpmohjhjmfaaGreatDoor

namespace Go.Proofs.YtdlkpmohjhjmfaaGreatDoor
open Go Go.Va Go.Proofs
namespace F_wire_reader_fields
abbrev ia : List Ai := [.fn (.str 2) [(.d T_pack_Reader)], .ptr (.p (.d (.int .i64)) (.p (.d .str) (.p (.d .str) (.p (.d .str) (.p (.d (.int .u64)) (.p (.r 0 (.int .u8)) (.p (.r 0 T_api_Tag) (.p (.d T_api_Lock) (.p (.d .bool) (.p (.d T_api_Default) (.p (.r 0 T_api_Rule) (.p (.r 0 T_api_Grant) (.p (.d (.int .i64)) (.p (.r 0 (.int .i64)) (.d (.pair .str (.pair .str (.pair .str (.pair T_api_Spot (.pair (.int .i64) .unit))))))))))))))))))))]
abbrev io : List (Nat × Oi) := []
abbrev R : Type := DOut ia io
noncomputable def X (n : Nat) : Ctx := ⟨⟨tab, [F_entry_Reader_Small.en n, F_pack_Reader_Text.en n, F_entry_Reader_Default.en n, F_entry_Reader_Rules.en n, F_entry_Reader_Grants.en n, F_wire_reader_body.en n, F_entry_Reader_Tags.en n, F_entry_Reader_Lock.en n, F_wire_reader_version.en n, F_wire_reader_list.en n, F_pack_Reader_Num.en n, F_wire_reader_numbers.en n], 0, []⟩, 175, bnOf 0 ia⟩
abbrev g1 : List Si := [.ref 1 502000 T_api_Request, .ref 2 2 T_wire_reader, .dat 7 (.int .i64), .dat 8 .bool, .box 2 (.p (.p (.al 500000 T_pack_Reader) (.d .unit)) (.d .unit)), .box 500000 (.d T_pack_Reader), .box 502000 (.p (.d (.int .i64)) (.p (.d .str) (.p (.d .str) (.p (.d .str) (.p (.d (.int .u64)) (.p (.r 100000502000000 (.int .u8)) (.p (.r 100000502000001 T_api_Tag) (.p (.d T_api_Lock) (.p (.d .bool) (.p (.d T_api_Default) (.p (.r 100000502000002 T_api_Rule) (.p (.r 100000502000003 T_api_Grant) (.p (.d (.int .i64)) (.p (.r 100000502000004 (.int .i64)) (.d (.pair .str (.pair .str (.pair .str (.pair T_api_Spot (.pair (.int .i64) .unit))))))))))))))))))))]
abbrev g2 : List Si := [.ref 1 502000 T_api_Request, .ref 2 2 T_wire_reader, .dat 7 (.int .i64), .dat 59 .bool, .box 2 (.p (.p (.al 500000 T_pack_Reader) (.d .unit)) (.d .unit)), .box 500000 (.d T_pack_Reader), .box 502000 (.p (.d (.int .i64)) (.p (.d .str) (.p (.d .str) (.p (.d .str) (.p (.d (.int .u64)) (.p (.r 100000502000000 (.int .u8)) (.p (.r 100000502000001 T_api_Tag) (.p (.d T_api_Lock) (.p (.d .bool) (.p (.d T_api_Default) (.p (.r 100000502000002 T_api_Rule) (.p (.r 100000502000003 T_api_Grant) (.p (.d (.int .i64)) (.p (.r 100000502000004 (.int .i64)) (.d (.pair .str (.pair .str (.pair .str (.pair T_api_Spot (.pair (.int .i64) .unit))))))))))))))))))))]
abbrev g3 : List Si := [.ref 1 502000 T_api_Request, .ref 2 2 T_wire_reader, .dat 7 (.int .i64), .dat 78 .bool, .box 2 (.p (.p (.al 500000 T_pack_Reader) (.d .unit)) (.d .unit)), .box 500000 (.d T_pack_Reader), .box 502000 (.p (.d (.int .i64)) (.p (.d .str) (.p (.d .str) (.p (.d .str) (.p (.d (.int .u64)) (.p (.r 100000502000000 (.int .u8)) (.p (.r 100000502000001 T_api_Tag) (.p (.d T_api_Lock) (.p (.d .bool) (.p (.d T_api_Default) (.p (.r 100000502000002 T_api_Rule) (.p (.r 100000502000003 T_api_Grant) (.p (.d (.int .i64)) (.p (.r 100000502000004 (.int .i64)) (.d (.pair .str (.pair .str (.pair .str (.pair T_api_Spot (.pair (.int .i64) .unit))))))))))))))))))))]
noncomputable def T : CT := (.s .o (.s .o (.b (.s .o (.r g1 (.c .o (.s .o (.c .o (.s .o (.c .o (.s .o (.c .o (.s .o (.r g2 (.c .o (.s .o (.c .o (.s .o (.r g3 .o)))))))))))))))))))
noncomputable def J1 (n : Nat) : Int × Bool × D_wire_reader × D_pack_Reader × D_api_Request × Unit → Option R := jR (X n) n T (bodyOf Tryz.f156) (endK ia io) g1 [1, 1, 0, 1] []
noncomputable def J2 (n : Nat) : Int × Bool × D_wire_reader × D_pack_Reader × D_api_Request × Unit → Option R := jR (X n) n T (bodyOf Tryz.f156) (endK ia io) g2 [1, 1, 0, 1, 1, 1, 1, 1, 1, 1, 1, 1] []
noncomputable def J3 (n : Nat) : Int × Bool × D_wire_reader × D_pack_Reader × D_api_Request × Unit → Option R := jR (X n) n T (bodyOf Tryz.f156) (endK ia io) g3 [1, 1, 0, 1, 1, 1, 1, 1, 1, 1, 1, 1, 1, 1, 1, 1] []
noncomputable def f (n : Nat) (tc0 : D_pack_Reader) (o : D_api_Request) : Option R := fRun (X n) n T Tryz.f156 ia io (tc0, o, ())
theorem e0 (n : Nat) (tc0 : D_pack_Reader) (o : D_api_Request) : f n tc0 o =
  bIf ((hide (o.1 == (1 : Int)))) (
    J1 n (o.1, true, (((), ()), ()), tc0, (o.1, (o.2.1, (o.2.2.1, (o.2.2.2.1, (o.2.2.2.2.1, (o.2.2.2.2.2.1, (o.2.2.2.2.2.2.1, (o.2.2.2.2.2.2.2.1, (o.2.2.2.2.2.2.2.2.1, (o.2.2.2.2.2.2.2.2.2.1, (o.2.2.2.2.2.2.2.2.2.2.1, (o.2.2.2.2.2.2.2.2.2.2.2.1, (o.2.2.2.2.2.2.2.2.2.2.2.2.1, (o.2.2.2.2.2.2.2.2.2.2.2.2.2.1, o.2.2.2.2.2.2.2.2.2.2.2.2.2.2)))))))))))))), ())
    ) (
    J1 n (o.1, (hide (o.1 == (3 : Int))), (((), ()), ()), tc0, (o.1, (o.2.1, (o.2.2.1, (o.2.2.2.1, (o.2.2.2.2.1, (o.2.2.2.2.2.1, (o.2.2.2.2.2.2.1, (o.2.2.2.2.2.2.2.1, (o.2.2.2.2.2.2.2.2.1, (o.2.2.2.2.2.2.2.2.2.1, (o.2.2.2.2.2.2.2.2.2.2.1, (o.2.2.2.2.2.2.2.2.2.2.2.1, (o.2.2.2.2.2.2.2.2.2.2.2.2.1, (o.2.2.2.2.2.2.2.2.2.2.2.2.2.1, o.2.2.2.2.2.2.2.2.2.2.2.2.2.2)))))))))))))), ())
    ) := (hideF_eq _).trans (by kernel_rfl)
theorem e1 (n : Nat) (t7 : Int) (t8 : Bool) (A : D_wire_reader) (b500000 : D_pack_Reader) (o : D_api_Request) : J1 n (t7, t8, A, b500000, o, ()) =
  bIf (t8) (
    bnd (F_entry_Reader_Default.f n b500000) fun u1 =>
    some (u1.2.1, (o.1, (o.2.1, (o.2.2.1, (o.2.2.2.1, (o.2.2.2.2.1, (o.2.2.2.2.2.1, (o.2.2.2.2.2.2.1, (o.2.2.2.2.2.2.2.1, (o.2.2.2.2.2.2.2.2.1, (u1.1, (o.2.2.2.2.2.2.2.2.2.2.1, (o.2.2.2.2.2.2.2.2.2.2.2.1, (o.2.2.2.2.2.2.2.2.2.2.2.2.1, (o.2.2.2.2.2.2.2.2.2.2.2.2.2.1, o.2.2.2.2.2.2.2.2.2.2.2.2.2.2)))))))))))))), ())
    ) (
    bIf ((hide (t7 == (4 : Int)))) (
      bnd (F_entry_Reader_Rules.f n b500000) fun u2 =>
      some (u2.2.1, (o.1, (o.2.1, (o.2.2.1, (o.2.2.2.1, (o.2.2.2.2.1, (o.2.2.2.2.2.1, (o.2.2.2.2.2.2.1, (o.2.2.2.2.2.2.2.1, (o.2.2.2.2.2.2.2.2.1, (o.2.2.2.2.2.2.2.2.2.1, (u2.1, (o.2.2.2.2.2.2.2.2.2.2.2.1, (o.2.2.2.2.2.2.2.2.2.2.2.2.1, (o.2.2.2.2.2.2.2.2.2.2.2.2.2.1, o.2.2.2.2.2.2.2.2.2.2.2.2.2.2)))))))))))))), ())
      ) (
      bIf ((hide (t7 == (5 : Int)))) (
        bnd (F_entry_Reader_Grants.f n b500000) fun u3 =>
        some (u3.2.1, (o.1, (o.2.1, (o.2.2.1, (o.2.2.2.1, (o.2.2.2.2.1, (o.2.2.2.2.2.1, (o.2.2.2.2.2.2.1, (o.2.2.2.2.2.2.2.1, (o.2.2.2.2.2.2.2.2.1, (o.2.2.2.2.2.2.2.2.2.1, (o.2.2.2.2.2.2.2.2.2.2.1, (u3.1, (o.2.2.2.2.2.2.2.2.2.2.2.2.1, (o.2.2.2.2.2.2.2.2.2.2.2.2.2.1, o.2.2.2.2.2.2.2.2.2.2.2.2.2.2)))))))))))))), ())
        ) (
        bIf ((hide (t7 == (6 : Int)))) (
          bnd (F_pack_Reader_Text.f n b500000) fun u4 =>
          bnd (F_wire_reader_body.f n u4.2.1) fun u5 =>
          bnd (F_entry_Reader_Tags.f n u5.2.1) fun u6 =>
          bnd (F_entry_Reader_Lock.f n u6.2.1) fun u7 =>
          some (u7.2.1, (o.1, (o.2.1, (o.2.2.1, (u4.1, (o.2.2.2.2.1, (u5.1, (u6.1, (u7.1, (o.2.2.2.2.2.2.2.2.1, (o.2.2.2.2.2.2.2.2.2.1, (o.2.2.2.2.2.2.2.2.2.2.1, (o.2.2.2.2.2.2.2.2.2.2.2.1, (o.2.2.2.2.2.2.2.2.2.2.2.2.1, (o.2.2.2.2.2.2.2.2.2.2.2.2.2.1, o.2.2.2.2.2.2.2.2.2.2.2.2.2.2)))))))))))))), ())
          ) (
          bIf ((hide (t7 == (7 : Int)))) (
            J2 n (t7, true, (((), A.1.2), A.2), b500000, (o.1, (o.2.1, (o.2.2.1, (o.2.2.2.1, (o.2.2.2.2.1, (o.2.2.2.2.2.1, (o.2.2.2.2.2.2.1, (o.2.2.2.2.2.2.2.1, (o.2.2.2.2.2.2.2.2.1, (o.2.2.2.2.2.2.2.2.2.1, (o.2.2.2.2.2.2.2.2.2.2.1, (o.2.2.2.2.2.2.2.2.2.2.2.1, (o.2.2.2.2.2.2.2.2.2.2.2.2.1, (o.2.2.2.2.2.2.2.2.2.2.2.2.2.1, o.2.2.2.2.2.2.2.2.2.2.2.2.2.2)))))))))))))), ())
            ) (
            bIf ((hide (t7 == (8 : Int)))) (
              J2 n (t7, true, (((), A.1.2), A.2), b500000, (o.1, (o.2.1, (o.2.2.1, (o.2.2.2.1, (o.2.2.2.2.1, (o.2.2.2.2.2.1, (o.2.2.2.2.2.2.1, (o.2.2.2.2.2.2.2.1, (o.2.2.2.2.2.2.2.2.1, (o.2.2.2.2.2.2.2.2.2.1, (o.2.2.2.2.2.2.2.2.2.2.1, (o.2.2.2.2.2.2.2.2.2.2.2.1, (o.2.2.2.2.2.2.2.2.2.2.2.2.1, (o.2.2.2.2.2.2.2.2.2.2.2.2.2.1, o.2.2.2.2.2.2.2.2.2.2.2.2.2.2)))))))))))))), ())
              ) (
              bIf ((hide (t7 == (10 : Int)))) (
                J2 n (t7, true, (((), A.1.2), A.2), b500000, (o.1, (o.2.1, (o.2.2.1, (o.2.2.2.1, (o.2.2.2.2.1, (o.2.2.2.2.2.1, (o.2.2.2.2.2.2.1, (o.2.2.2.2.2.2.2.1, (o.2.2.2.2.2.2.2.2.1, (o.2.2.2.2.2.2.2.2.2.1, (o.2.2.2.2.2.2.2.2.2.2.1, (o.2.2.2.2.2.2.2.2.2.2.2.1, (o.2.2.2.2.2.2.2.2.2.2.2.2.1, (o.2.2.2.2.2.2.2.2.2.2.2.2.2.1, o.2.2.2.2.2.2.2.2.2.2.2.2.2.2)))))))))))))), ())
                ) (
                bIf ((hide (t7 == (11 : Int)))) (
                  J2 n (t7, true, (((), A.1.2), A.2), b500000, (o.1, (o.2.1, (o.2.2.1, (o.2.2.2.1, (o.2.2.2.2.1, (o.2.2.2.2.2.1, (o.2.2.2.2.2.2.1, (o.2.2.2.2.2.2.2.1, (o.2.2.2.2.2.2.2.2.1, (o.2.2.2.2.2.2.2.2.2.1, (o.2.2.2.2.2.2.2.2.2.2.1, (o.2.2.2.2.2.2.2.2.2.2.2.1, (o.2.2.2.2.2.2.2.2.2.2.2.2.1, (o.2.2.2.2.2.2.2.2.2.2.2.2.2.1, o.2.2.2.2.2.2.2.2.2.2.2.2.2.2)))))))))))))), ())
                  ) (
                  bIf ((hide (t7 == (12 : Int)))) (
                    J2 n (t7, true, (((), A.1.2), A.2), b500000, (o.1, (o.2.1, (o.2.2.1, (o.2.2.2.1, (o.2.2.2.2.1, (o.2.2.2.2.2.1, (o.2.2.2.2.2.2.1, (o.2.2.2.2.2.2.2.1, (o.2.2.2.2.2.2.2.2.1, (o.2.2.2.2.2.2.2.2.2.1, (o.2.2.2.2.2.2.2.2.2.2.1, (o.2.2.2.2.2.2.2.2.2.2.2.1, (o.2.2.2.2.2.2.2.2.2.2.2.2.1, (o.2.2.2.2.2.2.2.2.2.2.2.2.2.1, o.2.2.2.2.2.2.2.2.2.2.2.2.2.2)))))))))))))), ())
                    ) (
                    J2 n (t7, (hide (t7 == (13 : Int))), (((), A.1.2), A.2), b500000, (o.1, (o.2.1, (o.2.2.1, (o.2.2.2.1, (o.2.2.2.2.1, (o.2.2.2.2.2.1, (o.2.2.2.2.2.2.1, (o.2.2.2.2.2.2.2.1, (o.2.2.2.2.2.2.2.2.1, (o.2.2.2.2.2.2.2.2.2.1, (o.2.2.2.2.2.2.2.2.2.2.1, (o.2.2.2.2.2.2.2.2.2.2.2.1, (o.2.2.2.2.2.2.2.2.2.2.2.2.1, (o.2.2.2.2.2.2.2.2.2.2.2.2.2.1, o.2.2.2.2.2.2.2.2.2.2.2.2.2.2)))))))))))))), ())
                    )
                  )
                )
              )
            )
          )
        )
      )
    ) := (hideF_eq _).trans (by kernel_rfl)
theorem e2 (n : Nat) (t7 : Int) (t59 : Bool) (A : D_wire_reader) (b500000 : D_pack_Reader) (o : D_api_Request) : J2 n (t7, t59, A, b500000, o, ()) =
  bIf (t59) (
    bnd (F_wire_reader_version.f n b500000 (o.1, (o.2.1, (o.2.2.1, (o.2.2.2.1, (o.2.2.2.2.1, (o.2.2.2.2.2.1, (o.2.2.2.2.2.2.1, (o.2.2.2.2.2.2.2.1, (o.2.2.2.2.2.2.2.2.1, (o.2.2.2.2.2.2.2.2.2.1, (o.2.2.2.2.2.2.2.2.2.2.1, (o.2.2.2.2.2.2.2.2.2.2.2.1, (o.2.2.2.2.2.2.2.2.2.2.2.2.1, (o.2.2.2.2.2.2.2.2.2.2.2.2.2.1, o.2.2.2.2.2.2.2.2.2.2.2.2.2.2))))))))))))))) fun u1 =>
    some (u1.1, (u1.2.1.1, (u1.2.1.2.1, (u1.2.1.2.2.1, (u1.2.1.2.2.2.1, (u1.2.1.2.2.2.2.1, (u1.2.1.2.2.2.2.2.1, (u1.2.1.2.2.2.2.2.2.1, (u1.2.1.2.2.2.2.2.2.2.1, (u1.2.1.2.2.2.2.2.2.2.2.1, (u1.2.1.2.2.2.2.2.2.2.2.2.1, (u1.2.1.2.2.2.2.2.2.2.2.2.2.1, (u1.2.1.2.2.2.2.2.2.2.2.2.2.2.1, (u1.2.1.2.2.2.2.2.2.2.2.2.2.2.2.1, (u1.2.1.2.2.2.2.2.2.2.2.2.2.2.2.2.1, u1.2.1.2.2.2.2.2.2.2.2.2.2.2.2.2.2)))))))))))))), ())
    ) (
    bIf ((hide (t7 == (9 : Int)))) (
      bnd (F_pack_Reader_Text.f n b500000) fun u2 =>
      some (u2.2.1, (o.1, (o.2.1, (o.2.2.1, (u2.1, (o.2.2.2.2.1, (o.2.2.2.2.2.1, (o.2.2.2.2.2.2.1, (o.2.2.2.2.2.2.2.1, (o.2.2.2.2.2.2.2.2.1, (o.2.2.2.2.2.2.2.2.2.1, (o.2.2.2.2.2.2.2.2.2.2.1, (o.2.2.2.2.2.2.2.2.2.2.2.1, (o.2.2.2.2.2.2.2.2.2.2.2.2.1, (o.2.2.2.2.2.2.2.2.2.2.2.2.2.1, o.2.2.2.2.2.2.2.2.2.2.2.2.2.2)))))))))))))), ())
      ) (
      bIf ((hide (t7 == (14 : Int)))) (
        J3 n (t7, true, (((), A.1.2), A.2), b500000, (o.1, (o.2.1, (o.2.2.1, (o.2.2.2.1, (o.2.2.2.2.1, (o.2.2.2.2.2.1, (o.2.2.2.2.2.2.1, (o.2.2.2.2.2.2.2.1, (o.2.2.2.2.2.2.2.2.1, (o.2.2.2.2.2.2.2.2.2.1, (o.2.2.2.2.2.2.2.2.2.2.1, (o.2.2.2.2.2.2.2.2.2.2.2.1, (o.2.2.2.2.2.2.2.2.2.2.2.2.1, (o.2.2.2.2.2.2.2.2.2.2.2.2.2.1, o.2.2.2.2.2.2.2.2.2.2.2.2.2.2)))))))))))))), ())
        ) (
        J3 n (t7, (hide (t7 == (15 : Int))), (((), A.1.2), A.2), b500000, (o.1, (o.2.1, (o.2.2.1, (o.2.2.2.1, (o.2.2.2.2.1, (o.2.2.2.2.2.1, (o.2.2.2.2.2.2.1, (o.2.2.2.2.2.2.2.1, (o.2.2.2.2.2.2.2.2.1, (o.2.2.2.2.2.2.2.2.2.1, (o.2.2.2.2.2.2.2.2.2.2.1, (o.2.2.2.2.2.2.2.2.2.2.2.1, (o.2.2.2.2.2.2.2.2.2.2.2.2.1, (o.2.2.2.2.2.2.2.2.2.2.2.2.2.1, o.2.2.2.2.2.2.2.2.2.2.2.2.2.2)))))))))))))), ())
        )
      )
    ) := (hideF_eq _).trans (by kernel_rfl)
theorem e3 (n : Nat) (t7 : Int) (t78 : Bool) (A : D_wire_reader) (b500000 : D_pack_Reader) (o : D_api_Request) : J3 n (t7, t78, A, b500000, o, ()) =
  bIf (t78) (
    bnd (F_wire_reader_list.f n b500000 (o.1, (o.2.1, (o.2.2.1, (o.2.2.2.1, (o.2.2.2.2.1, (o.2.2.2.2.2.1, (o.2.2.2.2.2.2.1, (o.2.2.2.2.2.2.2.1, (o.2.2.2.2.2.2.2.2.1, (o.2.2.2.2.2.2.2.2.2.1, (o.2.2.2.2.2.2.2.2.2.2.1, (o.2.2.2.2.2.2.2.2.2.2.2.1, (o.2.2.2.2.2.2.2.2.2.2.2.2.1, (o.2.2.2.2.2.2.2.2.2.2.2.2.2.1, o.2.2.2.2.2.2.2.2.2.2.2.2.2.2))))))))))))))) fun u1 =>
    some (u1.1, (u1.2.1.1, (u1.2.1.2.1, (u1.2.1.2.2.1, (u1.2.1.2.2.2.1, (u1.2.1.2.2.2.2.1, (u1.2.1.2.2.2.2.2.1, (u1.2.1.2.2.2.2.2.2.1, (u1.2.1.2.2.2.2.2.2.2.1, (u1.2.1.2.2.2.2.2.2.2.2.1, (u1.2.1.2.2.2.2.2.2.2.2.2.1, (u1.2.1.2.2.2.2.2.2.2.2.2.2.1, (u1.2.1.2.2.2.2.2.2.2.2.2.2.2.1, (u1.2.1.2.2.2.2.2.2.2.2.2.2.2.2.1, (u1.2.1.2.2.2.2.2.2.2.2.2.2.2.2.2.1, u1.2.1.2.2.2.2.2.2.2.2.2.2.2.2.2.2)))))))))))))), ())
    ) (
    bIf ((hide (t7 == (16 : Int)))) (
      bnd (F_pack_Reader_Text.f n b500000) fun u2 =>
      bnd (F_entry_Reader_Tags.f n u2.2.1) fun u3 =>
      some (u3.2.1, (o.1, (o.2.1, (o.2.2.1, (u2.1, (o.2.2.2.2.1, (o.2.2.2.2.2.1, (u3.1, (o.2.2.2.2.2.2.2.1, (o.2.2.2.2.2.2.2.2.1, (o.2.2.2.2.2.2.2.2.2.1, (o.2.2.2.2.2.2.2.2.2.2.1, (o.2.2.2.2.2.2.2.2.2.2.2.1, (o.2.2.2.2.2.2.2.2.2.2.2.2.1, (o.2.2.2.2.2.2.2.2.2.2.2.2.2.1, o.2.2.2.2.2.2.2.2.2.2.2.2.2.2)))))))))))))), ())
      ) (
      bIf ((hide (t7 == (17 : Int)))) (
        bnd (F_pack_Reader_Num.f n b500000) fun u4 =>
        bnd (F_entry_Reader_Small.f n u4.2.1) fun u5 =>
        bnd (F_wire_reader_body.f n u5.2.1) fun u6 =>
        some (u6.2.1, (o.1, (o.2.1, (o.2.2.1, (o.2.2.2.1, (u4.1, (u6.1, (o.2.2.2.2.2.2.1, (o.2.2.2.2.2.2.2.1, (o.2.2.2.2.2.2.2.2.1, (o.2.2.2.2.2.2.2.2.2.1, (o.2.2.2.2.2.2.2.2.2.2.1, (o.2.2.2.2.2.2.2.2.2.2.2.1, (u5.1, (o.2.2.2.2.2.2.2.2.2.2.2.2.2.1, o.2.2.2.2.2.2.2.2.2.2.2.2.2.2)))))))))))))), ())
        ) (
        bIf ((hide (t7 == (18 : Int)))) (
          bnd (F_pack_Reader_Num.f n b500000) fun u7 =>
          bnd (F_wire_reader_numbers.f n u7.2.1) fun u8 =>
          some (u8.2.1, (o.1, (o.2.1, (o.2.2.1, (o.2.2.2.1, (u7.1, (o.2.2.2.2.2.1, (o.2.2.2.2.2.2.1, (o.2.2.2.2.2.2.2.1, (o.2.2.2.2.2.2.2.2.1, (o.2.2.2.2.2.2.2.2.2.1, (o.2.2.2.2.2.2.2.2.2.2.1, (o.2.2.2.2.2.2.2.2.2.2.2.1, (o.2.2.2.2.2.2.2.2.2.2.2.2.1, (u8.1, o.2.2.2.2.2.2.2.2.2.2.2.2.2.2)))))))))))))), ())
          ) (
          bIf ((hide (t7 == (19 : Int)))) (
            bnd (F_pack_Reader_Num.f n b500000) fun u9 =>
            some (u9.2.1, (o.1, (o.2.1, (o.2.2.1, (o.2.2.2.1, (u9.1, (o.2.2.2.2.2.1, (o.2.2.2.2.2.2.1, (o.2.2.2.2.2.2.2.1, (o.2.2.2.2.2.2.2.2.1, (o.2.2.2.2.2.2.2.2.2.1, (o.2.2.2.2.2.2.2.2.2.2.1, (o.2.2.2.2.2.2.2.2.2.2.2.1, (o.2.2.2.2.2.2.2.2.2.2.2.2.1, (o.2.2.2.2.2.2.2.2.2.2.2.2.2.1, o.2.2.2.2.2.2.2.2.2.2.2.2.2.2)))))))))))))), ())
            ) (
            bIf ((hide (t7 == (20 : Int)))) (
              bnd (F_pack_Reader_Text.f n b500000) fun u10 =>
              bnd (F_pack_Reader_Text.f n u10.2.1) fun u11 =>
              bnd (F_pack_Reader_Text.f n u11.2.1) fun u12 =>
              bnd (F_pack_Reader_Num.f n u12.2.1) fun u13 =>
              some (u13.2.1, (o.1, (o.2.1, (o.2.2.1, (u10.1, (o.2.2.2.2.1, (o.2.2.2.2.2.1, (o.2.2.2.2.2.2.1, (o.2.2.2.2.2.2.2.1, (o.2.2.2.2.2.2.2.2.1, (o.2.2.2.2.2.2.2.2.2.1, (o.2.2.2.2.2.2.2.2.2.2.1, (o.2.2.2.2.2.2.2.2.2.2.2.1, (o.2.2.2.2.2.2.2.2.2.2.2.2.1, (o.2.2.2.2.2.2.2.2.2.2.2.2.2.1, (o.2.2.2.2.2.2.2.2.2.2.2.2.2.2.1, (o.2.2.2.2.2.2.2.2.2.2.2.2.2.2.2.1, (o.2.2.2.2.2.2.2.2.2.2.2.2.2.2.2.2.1, ((u11.1, (u12.1, (u13.1, o.2.2.2.2.2.2.2.2.2.2.2.2.2.2.2.2.2.1.2.2.2))), o.2.2.2.2.2.2.2.2.2.2.2.2.2.2.2.2.2.2)))))))))))))))))), ())
              ) (
              some (b500000, (o.1, (o.2.1, (o.2.2.1, (o.2.2.2.1, (o.2.2.2.2.1, (o.2.2.2.2.2.1, (o.2.2.2.2.2.2.1, (o.2.2.2.2.2.2.2.1, (o.2.2.2.2.2.2.2.2.1, (o.2.2.2.2.2.2.2.2.2.1, (o.2.2.2.2.2.2.2.2.2.2.1, (o.2.2.2.2.2.2.2.2.2.2.2.1, (o.2.2.2.2.2.2.2.2.2.2.2.2.1, (o.2.2.2.2.2.2.2.2.2.2.2.2.2.1, o.2.2.2.2.2.2.2.2.2.2.2.2.2.2)))))))))))))), ())
              )
            )
          )
        )
      )
    ) := (hideF_eq _).trans (by kernel_rfl)
theorem phi (n : Nat) : ∀ e ∈ (X n).c.Φ, EntryOk Tryz.prog e := allE_cons (mkEntry_ok (F_entry_Reader_Small.ok n)) (allE_cons (mkEntry_ok (F_pack_Reader_Text.ok n)) (allE_cons (mkEntry_ok (F_entry_Reader_Default.ok n)) (allE_cons (mkEntry_ok (F_entry_Reader_Rules.ok n)) (allE_cons (mkEntry_ok (F_entry_Reader_Grants.ok n)) (allE_cons (mkEntry_ok (F_wire_reader_body.ok n)) (allE_cons (mkEntry_ok (F_entry_Reader_Tags.ok n)) (allE_cons (mkEntry_ok (F_entry_Reader_Lock.ok n)) (allE_cons (mkEntry_ok (F_wire_reader_version.ok n)) (allE_cons (mkEntry_ok (F_wire_reader_list.ok n)) (allE_cons (mkEntry_ok (F_pack_Reader_Num.ok n)) (allE_cons (mkEntry_ok (F_wire_reader_numbers.ok n)) (allE_nil))))))))))))
theorem ok (n : Nat) : FnOk Tryz.prog 156 ia io (fRun (X n) n T Tryz.f156 ia io) := tree_ok mixed tabIs (phi n) Tryz.func156 (by kernel_rfl) rfl
noncomputable def en (n : Nat) : Entry := mkEntry 156 ia io (fRun (X n) n T Tryz.f156 ia io)
end F_wire_reader_fields
end Go.Proofs.YtdlkpmohjhjmfaaGreatDoor

namespace Go.Proofs.YtdlkpmohjhjmfaaGreatDoor
open Go Go.Va Go.Proofs
namespace F_wire_Asked
abbrev ia : List Ai := [.dat (.slice (.int .u8))]
abbrev io : List (Nat × Oi) := [(2, .cel (.d T_api_Request)), (3, .dat (.int .i64))]
abbrev R : Type := DOut ia io
noncomputable def X (n : Nat) : Ctx := ⟨⟨tab, [F_wire_Ask.en n, F_bytes_Equal.en n, F_entry_NewReader.en n, F_entry_Reader_Small.en n, F_pack_Reader_Text.en n, F_wire_reader_fields.en n, F_pack_Reader_End.en n], 0, []⟩, 56, bnOf 0 ia⟩
abbrev g1 : List Si := [.dat 0 (.slice (.int .u8)), .ref 2 2 T_api_Request, .ref 4 4 T_wire_reader, .ref 5 5 T_api_Request, .dat 27 .bool, .box 2 (.p (.d (.int .i64)) (.p (.d .str) (.p (.d .str) (.p (.d .str) (.p (.d (.int .u64)) (.p (.r 100000000002000 (.int .u8)) (.p (.r 100000000002001 T_api_Tag) (.p (.d T_api_Lock) (.p (.d .bool) (.p (.d T_api_Default) (.p (.r 100000000002002 T_api_Rule) (.p (.r 100000000002003 T_api_Grant) (.p (.d (.int .i64)) (.p (.r 100000000002004 (.int .i64)) (.d (.pair .str (.pair .str (.pair .str (.pair T_api_Spot (.pair (.int .i64) .unit)))))))))))))))))))), .box 4 (.p (.p (.al 1500000000009 T_pack_Reader) (.d .unit)) (.d .unit)), .box 5 (.p (.d (.int .i64)) (.p (.d .str) (.p (.d .str) (.p (.d .str) (.p (.d (.int .u64)) (.p (.r 100000000005000 (.int .u8)) (.p (.r 100000000005001 T_api_Tag) (.p (.d T_api_Lock) (.p (.d .bool) (.p (.d T_api_Default) (.p (.r 100000000005002 T_api_Rule) (.p (.r 100000000005003 T_api_Grant) (.p (.d (.int .i64)) (.p (.r 100000000005004 (.int .i64)) (.d (.pair .str (.pair .str (.pair .str (.pair T_api_Spot (.pair (.int .i64) .unit)))))))))))))))))))), .box 1500000000009 (.d T_pack_Reader)]
abbrev g2 : List Si := [.dat 0 (.slice (.int .u8)), .ref 2 2 T_api_Request, .ref 4 4 T_wire_reader, .ref 5 5 T_api_Request, .box 2 (.p (.d (.int .i64)) (.p (.d .str) (.p (.d .str) (.p (.d .str) (.p (.d (.int .u64)) (.p (.r 100000000002000 (.int .u8)) (.p (.r 100000000002001 T_api_Tag) (.p (.d T_api_Lock) (.p (.d .bool) (.p (.d T_api_Default) (.p (.r 100000000002002 T_api_Rule) (.p (.r 100000000002003 T_api_Grant) (.p (.d (.int .i64)) (.p (.r 100000000002004 (.int .i64)) (.d (.pair .str (.pair .str (.pair .str (.pair T_api_Spot (.pair (.int .i64) .unit)))))))))))))))))))), .box 4 (.p (.p (.al 1500000000009 T_pack_Reader) (.d .unit)) (.d .unit)), .box 5 (.p (.d (.int .i64)) (.p (.d .str) (.p (.d .str) (.p (.d .str) (.p (.d (.int .u64)) (.p (.r 100000000005000 (.int .u8)) (.p (.r 100000000005001 T_api_Tag) (.p (.d T_api_Lock) (.p (.d .bool) (.p (.d T_api_Default) (.p (.r 100000000005002 T_api_Rule) (.p (.r 100000000005003 T_api_Grant) (.p (.d (.int .i64)) (.p (.r 100000000005004 (.int .i64)) (.d (.pair .str (.pair .str (.pair .str (.pair T_api_Spot (.pair (.int .i64) .unit)))))))))))))))))))), .box 1500000000009 (.d T_pack_Reader)]
abbrev g3 : List Si := [.ref 2 2 T_api_Request, .ref 5 5 T_api_Request, .dat 53 .bool, .box 2 (.p (.d (.int .i64)) (.p (.d .str) (.p (.d .str) (.p (.d .str) (.p (.d (.int .u64)) (.p (.r 100000000002000 (.int .u8)) (.p (.r 100000000002001 T_api_Tag) (.p (.d T_api_Lock) (.p (.d .bool) (.p (.d T_api_Default) (.p (.r 100000000002002 T_api_Rule) (.p (.r 100000000002003 T_api_Grant) (.p (.d (.int .i64)) (.p (.r 100000000002004 (.int .i64)) (.d (.pair .str (.pair .str (.pair .str (.pair T_api_Spot (.pair (.int .i64) .unit)))))))))))))))))))), .box 5 (.d T_api_Request)]
abbrev g4 : List Si := [.ref 2 2 T_api_Request, .ref 5 5 T_api_Request, .box 2 (.p (.d (.int .i64)) (.p (.d .str) (.p (.d .str) (.p (.d .str) (.p (.d (.int .u64)) (.p (.r 100000000002000 (.int .u8)) (.p (.r 100000000002001 T_api_Tag) (.p (.d T_api_Lock) (.p (.d .bool) (.p (.d T_api_Default) (.p (.r 100000000002002 T_api_Rule) (.p (.r 100000000002003 T_api_Grant) (.p (.d (.int .i64)) (.p (.r 100000000002004 (.int .i64)) (.d (.pair .str (.pair .str (.pair .str (.pair T_api_Spot (.pair (.int .i64) .unit)))))))))))))))))))), .box 5 (.d T_api_Request)]
noncomputable def T : CT := (.s .o (.s .o (.s .o (.s .o (.s (.s .o (.r g1 .o)) (.r g2 (.s .o (.s .o (.s (.s .o (.s .o (.r g3 .o))) (.r g4 .o))))))))))
noncomputable def J1 (n : Nat) : (List (Int)) × Bool × D_api_Request × D_wire_reader × D_api_Request × D_pack_Reader × Unit → Option R := jR (X n) n T (bodyOf Tryz.f97) (endK ia io) g1 [1, 1, 1, 1, 0, 1] []
noncomputable def J2 (n : Nat) : (List (Int)) × D_api_Request × D_wire_reader × D_api_Request × D_pack_Reader × Unit → Option R := jR (X n) n T (bodyOf Tryz.f97) (endK ia io) g2 [1, 1, 1, 1, 1] []
noncomputable def J3 (n : Nat) : Bool × D_api_Request × D_api_Request × Unit → Option R := jR (X n) n T (bodyOf Tryz.f97) (endK ia io) g3 [1, 1, 1, 1, 1, 1, 1, 0, 1, 1] []
noncomputable def J4 (n : Nat) : D_api_Request × D_api_Request × Unit → Option R := jR (X n) n T (bodyOf Tryz.f97) (endK ia io) g4 [1, 1, 1, 1, 1, 1, 1, 1] []
noncomputable def f (n : Nat) (b : List (Int)) : Option R := fRun (X n) n T Tryz.f97 ia io (b, ())
theorem e0 (n : Nat) (b : List (Int)) : f n b =
  bnd (F_entry_NewReader.f n b) fun u1 =>
  bnd (F_entry_Reader_Small.f n u1.1) fun u2 =>
  bnd (F_pack_Reader_Text.f n u2.2.1) fun u3 =>
  bIf ((hide (u2.1 != (21 : Int)))) (
    J1 n (b, (hide (u2.1 != (22 : Int))), (0, ((⟨#[]⟩ : ByteArray), ((⟨#[]⟩ : ByteArray), ((⟨#[]⟩ : ByteArray), (0, ([], ([], ((0, (0, (false, ()))), (false, ((0, (0, ())), ([], ([], (0, ([], ((⟨#[]⟩ : ByteArray), ((⟨#[]⟩ : ByteArray), ((⟨#[]⟩ : ByteArray), (((⟨#[]⟩ : ByteArray), ((⟨#[]⟩ : ByteArray), (0, ()))), (0, ()))))))))))))))))))), (((), ()), ()), (u2.1, (u3.1, ((⟨#[]⟩ : ByteArray), ((⟨#[]⟩ : ByteArray), (0, ([], ([], ((0, (0, (false, ()))), (false, ((0, (0, ())), ([], ([], (0, ([], ((⟨#[]⟩ : ByteArray), ((⟨#[]⟩ : ByteArray), ((⟨#[]⟩ : ByteArray), (((⟨#[]⟩ : ByteArray), ((⟨#[]⟩ : ByteArray), (0, ()))), (0, ()))))))))))))))))))), u3.2.1, ())
    ) (
    J1 n (b, false, (0, ((⟨#[]⟩ : ByteArray), ((⟨#[]⟩ : ByteArray), ((⟨#[]⟩ : ByteArray), (0, ([], ([], ((0, (0, (false, ()))), (false, ((0, (0, ())), ([], ([], (0, ([], ((⟨#[]⟩ : ByteArray), ((⟨#[]⟩ : ByteArray), ((⟨#[]⟩ : ByteArray), (((⟨#[]⟩ : ByteArray), ((⟨#[]⟩ : ByteArray), (0, ()))), (0, ()))))))))))))))))))), (((), ()), ()), (u2.1, (u3.1, ((⟨#[]⟩ : ByteArray), ((⟨#[]⟩ : ByteArray), (0, ([], ([], ((0, (0, (false, ()))), (false, ((0, (0, ())), ([], ([], (0, ([], ((⟨#[]⟩ : ByteArray), ((⟨#[]⟩ : ByteArray), ((⟨#[]⟩ : ByteArray), (((⟨#[]⟩ : ByteArray), ((⟨#[]⟩ : ByteArray), (0, ()))), (0, ()))))))))))))))))))), u3.2.1, ())
    ) := (hideF_eq _).trans (by kernel_rfl)
theorem e1 (n : Nat) (b : List (Int)) (t27 : Bool) (b2 : D_api_Request) (r : D_wire_reader) (out : D_api_Request) (b1500000000009 : D_pack_Reader) : J1 n (b, t27, b2, r, out, b1500000000009, ()) =
  bIf (t27) (
    bnd (F_pack_Reader_Text.f n b1500000000009) fun u1 =>
    J2 n (b, (b2.1, (b2.2.1, (b2.2.2.1, (b2.2.2.2.1, (b2.2.2.2.2.1, (b2.2.2.2.2.2.1, (b2.2.2.2.2.2.2.1, (b2.2.2.2.2.2.2.2.1, (b2.2.2.2.2.2.2.2.2.1, (b2.2.2.2.2.2.2.2.2.2.1, (b2.2.2.2.2.2.2.2.2.2.2.1, (b2.2.2.2.2.2.2.2.2.2.2.2.1, (b2.2.2.2.2.2.2.2.2.2.2.2.2.1, (b2.2.2.2.2.2.2.2.2.2.2.2.2.2.1, b2.2.2.2.2.2.2.2.2.2.2.2.2.2.2)))))))))))))), (((), r.1.2), r.2), (out.1, (out.2.1, (u1.1, (out.2.2.2.1, (out.2.2.2.2.1, (out.2.2.2.2.2.1, (out.2.2.2.2.2.2.1, (out.2.2.2.2.2.2.2.1, (out.2.2.2.2.2.2.2.2.1, (out.2.2.2.2.2.2.2.2.2.1, (out.2.2.2.2.2.2.2.2.2.2.1, (out.2.2.2.2.2.2.2.2.2.2.2.1, (out.2.2.2.2.2.2.2.2.2.2.2.2.1, (out.2.2.2.2.2.2.2.2.2.2.2.2.2.1, out.2.2.2.2.2.2.2.2.2.2.2.2.2.2)))))))))))))), u1.2.1, ())
    ) (
    J2 n (b, (b2.1, (b2.2.1, (b2.2.2.1, (b2.2.2.2.1, (b2.2.2.2.2.1, (b2.2.2.2.2.2.1, (b2.2.2.2.2.2.2.1, (b2.2.2.2.2.2.2.2.1, (b2.2.2.2.2.2.2.2.2.1, (b2.2.2.2.2.2.2.2.2.2.1, (b2.2.2.2.2.2.2.2.2.2.2.1, (b2.2.2.2.2.2.2.2.2.2.2.2.1, (b2.2.2.2.2.2.2.2.2.2.2.2.2.1, (b2.2.2.2.2.2.2.2.2.2.2.2.2.2.1, b2.2.2.2.2.2.2.2.2.2.2.2.2.2.2)))))))))))))), (((), r.1.2), r.2), (out.1, (out.2.1, (out.2.2.1, (out.2.2.2.1, (out.2.2.2.2.1, (out.2.2.2.2.2.1, (out.2.2.2.2.2.2.1, (out.2.2.2.2.2.2.2.1, (out.2.2.2.2.2.2.2.2.1, (out.2.2.2.2.2.2.2.2.2.1, (out.2.2.2.2.2.2.2.2.2.2.1, (out.2.2.2.2.2.2.2.2.2.2.2.1, (out.2.2.2.2.2.2.2.2.2.2.2.2.1, (out.2.2.2.2.2.2.2.2.2.2.2.2.2.1, out.2.2.2.2.2.2.2.2.2.2.2.2.2.2)))))))))))))), b1500000000009, ())
    ) := (hideF_eq _).trans (by kernel_rfl)
theorem e2 (n : Nat) (b : List (Int)) (b2 : D_api_Request) (r : D_wire_reader) (out : D_api_Request) (b1500000000009 : D_pack_Reader) : J2 n (b, b2, r, out, b1500000000009, ()) =
  bnd (F_wire_reader_fields.f n b1500000000009 (out.1, (out.2.1, (out.2.2.1, (out.2.2.2.1, (out.2.2.2.2.1, (out.2.2.2.2.2.1, (out.2.2.2.2.2.2.1, (out.2.2.2.2.2.2.2.1, (out.2.2.2.2.2.2.2.2.1, (out.2.2.2.2.2.2.2.2.2.1, (out.2.2.2.2.2.2.2.2.2.2.1, (out.2.2.2.2.2.2.2.2.2.2.2.1, (out.2.2.2.2.2.2.2.2.2.2.2.2.1, (out.2.2.2.2.2.2.2.2.2.2.2.2.2.1, out.2.2.2.2.2.2.2.2.2.2.2.2.2.2))))))))))))))) fun u1 =>
  bnd (F_pack_Reader_End.f n u1.1) fun u2 =>
  bIf ((hide (u2.1 != (0 : Int)))) (
    some ((0, ((⟨#[]⟩ : ByteArray), ((⟨#[]⟩ : ByteArray), ((⟨#[]⟩ : ByteArray), (0, ([], ([], ((0, (0, (false, ()))), (false, ((0, (0, ())), ([], ([], (0, ([], ((⟨#[]⟩ : ByteArray), ((⟨#[]⟩ : ByteArray), ((⟨#[]⟩ : ByteArray), (((⟨#[]⟩ : ByteArray), ((⟨#[]⟩ : ByteArray), (0, ()))), (0, ()))))))))))))))))))), 2, ())
    ) (
    bnd (F_wire_Ask.f n (u1.2.1.1, (u1.2.1.2.1, (u1.2.1.2.2.1, (u1.2.1.2.2.2.1, (u1.2.1.2.2.2.2.1, (u1.2.1.2.2.2.2.2.1, (u1.2.1.2.2.2.2.2.2.1, (u1.2.1.2.2.2.2.2.2.2.1, (u1.2.1.2.2.2.2.2.2.2.2.1, (u1.2.1.2.2.2.2.2.2.2.2.2.1, (u1.2.1.2.2.2.2.2.2.2.2.2.2.1, (u1.2.1.2.2.2.2.2.2.2.2.2.2.2.1, (u1.2.1.2.2.2.2.2.2.2.2.2.2.2.2.1, (u1.2.1.2.2.2.2.2.2.2.2.2.2.2.2.2.1, u1.2.1.2.2.2.2.2.2.2.2.2.2.2.2.2.2))))))))))))))) fun u3 =>
    bIf ((hide (u3.2.1 != (0 : Int)))) (
      J3 n (true, (b2.1, (b2.2.1, (b2.2.2.1, (b2.2.2.2.1, (b2.2.2.2.2.1, (b2.2.2.2.2.2.1, (b2.2.2.2.2.2.2.1, (b2.2.2.2.2.2.2.2.1, (b2.2.2.2.2.2.2.2.2.1, (b2.2.2.2.2.2.2.2.2.2.1, (b2.2.2.2.2.2.2.2.2.2.2.1, (b2.2.2.2.2.2.2.2.2.2.2.2.1, (b2.2.2.2.2.2.2.2.2.2.2.2.2.1, (b2.2.2.2.2.2.2.2.2.2.2.2.2.2.1, b2.2.2.2.2.2.2.2.2.2.2.2.2.2.2)))))))))))))), (u1.2.1.1, (u1.2.1.2.1, (u1.2.1.2.2.1, (u1.2.1.2.2.2.1, (u1.2.1.2.2.2.2.1, (u1.2.1.2.2.2.2.2.1, (u1.2.1.2.2.2.2.2.2.1, (u1.2.1.2.2.2.2.2.2.2.1, (u1.2.1.2.2.2.2.2.2.2.2.1, (u1.2.1.2.2.2.2.2.2.2.2.2.1, (u1.2.1.2.2.2.2.2.2.2.2.2.2.1, (u1.2.1.2.2.2.2.2.2.2.2.2.2.2.1, (u1.2.1.2.2.2.2.2.2.2.2.2.2.2.2.1, (u1.2.1.2.2.2.2.2.2.2.2.2.2.2.2.2.1, u1.2.1.2.2.2.2.2.2.2.2.2.2.2.2.2.2)))))))))))))), ())
      ) (
      bnd (F_bytes_Equal.f n u3.1 b) fun u4 =>
      J3 n ((!u4.1), (b2.1, (b2.2.1, (b2.2.2.1, (b2.2.2.2.1, (b2.2.2.2.2.1, (b2.2.2.2.2.2.1, (b2.2.2.2.2.2.2.1, (b2.2.2.2.2.2.2.2.1, (b2.2.2.2.2.2.2.2.2.1, (b2.2.2.2.2.2.2.2.2.2.1, (b2.2.2.2.2.2.2.2.2.2.2.1, (b2.2.2.2.2.2.2.2.2.2.2.2.1, (b2.2.2.2.2.2.2.2.2.2.2.2.2.1, (b2.2.2.2.2.2.2.2.2.2.2.2.2.2.1, b2.2.2.2.2.2.2.2.2.2.2.2.2.2.2)))))))))))))), (u1.2.1.1, (u1.2.1.2.1, (u1.2.1.2.2.1, (u1.2.1.2.2.2.1, (u1.2.1.2.2.2.2.1, (u1.2.1.2.2.2.2.2.1, (u1.2.1.2.2.2.2.2.2.1, (u1.2.1.2.2.2.2.2.2.2.1, (u1.2.1.2.2.2.2.2.2.2.2.1, (u1.2.1.2.2.2.2.2.2.2.2.2.1, (u1.2.1.2.2.2.2.2.2.2.2.2.2.1, (u1.2.1.2.2.2.2.2.2.2.2.2.2.2.1, (u1.2.1.2.2.2.2.2.2.2.2.2.2.2.2.1, (u1.2.1.2.2.2.2.2.2.2.2.2.2.2.2.2.1, u1.2.1.2.2.2.2.2.2.2.2.2.2.2.2.2.2)))))))))))))), ())
      )
    ) := (hideF_eq _).trans (by kernel_rfl)
theorem e3 (n : Nat) (t53 : Bool) (b2 : D_api_Request) (out : D_api_Request) : J3 n (t53, b2, out, ()) =
  bIf (t53) (
    some ((0, ((⟨#[]⟩ : ByteArray), ((⟨#[]⟩ : ByteArray), ((⟨#[]⟩ : ByteArray), (0, ([], ([], ((0, (0, (false, ()))), (false, ((0, (0, ())), ([], ([], (0, ([], ((⟨#[]⟩ : ByteArray), ((⟨#[]⟩ : ByteArray), ((⟨#[]⟩ : ByteArray), (((⟨#[]⟩ : ByteArray), ((⟨#[]⟩ : ByteArray), (0, ()))), (0, ()))))))))))))))))))), 2, ())
    ) (
    J4 n ((b2.1, (b2.2.1, (b2.2.2.1, (b2.2.2.2.1, (b2.2.2.2.2.1, (b2.2.2.2.2.2.1, (b2.2.2.2.2.2.2.1, (b2.2.2.2.2.2.2.2.1, (b2.2.2.2.2.2.2.2.2.1, (b2.2.2.2.2.2.2.2.2.2.1, (b2.2.2.2.2.2.2.2.2.2.2.1, (b2.2.2.2.2.2.2.2.2.2.2.2.1, (b2.2.2.2.2.2.2.2.2.2.2.2.2.1, (b2.2.2.2.2.2.2.2.2.2.2.2.2.2.1, b2.2.2.2.2.2.2.2.2.2.2.2.2.2.2)))))))))))))), out, ())
    ) := (hideF_eq _).trans (by kernel_rfl)
theorem e4 (n : Nat) (b2 : D_api_Request) (out : D_api_Request) : J4 n (b2, out, ()) =
  some (out, 0, ()) := (hideF_eq _).trans (by kernel_rfl)
theorem phi (n : Nat) : ∀ e ∈ (X n).c.Φ, EntryOk Tryz.prog e := allE_cons (mkEntry_ok (F_wire_Ask.ok n)) (allE_cons (mkEntry_ok (F_bytes_Equal.ok n)) (allE_cons (mkEntry_ok (F_entry_NewReader.ok n)) (allE_cons (mkEntry_ok (F_entry_Reader_Small.ok n)) (allE_cons (mkEntry_ok (F_pack_Reader_Text.ok n)) (allE_cons (mkEntry_ok (F_wire_reader_fields.ok n)) (allE_cons (mkEntry_ok (F_pack_Reader_End.ok n)) (allE_nil)))))))
theorem ok (n : Nat) : FnOk Tryz.prog 97 ia io (fRun (X n) n T Tryz.f97 ia io) := tree_ok mixed tabIs (phi n) Tryz.func97 (by kernel_rfl) rfl
noncomputable def en (n : Nat) : Entry := mkEntry 97 ia io (fRun (X n) n T Tryz.f97 ia io)
end F_wire_Asked
end Go.Proofs.YtdlkpmohjhjmfaaGreatDoor

namespace Go.Proofs.YtdlkpmohjhjmfaaGreatDoor
open Go Go.Va Go.Proofs
namespace F_alpha_Unhex
abbrev ia : List Ai := [.dat .str]
abbrev io : List (Nat × Oi) := [(2, .val (.r 0 (.int .u8))), (3, .dat (.int .i64))]
abbrev R : Type := DOut ia io
noncomputable def X (n : Nat) : Ctx := ⟨⟨tab, [F_strings_IndexByte.en], 0, []⟩, 42, bnOf 0 ia⟩
abbrev g1 : List Si := [.dat 0 .str, .val 4 (.r 200400 (.int .u8)), .dat 5 (.int .i64)]
abbrev g2 : List Si := [.dat 0 .str, .val 4 (.r 200400 (.int .u8)), .dat 5 (.int .i64), .dat 6 (.int .i64), .dat 7 (.int .i64)]
abbrev g3 : List Si := [.dat 0 .str, .val 4 (.r 200400 (.int .u8)), .dat 5 (.int .i64)]
abbrev g4 : List Si := [.val 4 (.r 200400 (.int .u8))]
noncomputable def T : CT := (.s .o (.s .o (.s .o (.s (.s .o (.b (.l g1 (.s .o (.s (.b (.s .o (.s .o (.r g2 .o)))) (.r g3 .o)))))) (.r g4 .o)))))
noncomputable def J1 (n : Nat) (m : Nat) : ByteArray × (List (Int)) × Int × Unit → Option R := jL (X n) n T (bodyOf Tryz.f96) (endK ia io) g1 [1, 1, 1, 0, 1, 0] [] m
noncomputable def J2 (n m1 : Nat) : ByteArray × (List (Int)) × Int × Int × Int × Unit → Option R := jR (X n) n T (bodyOf Tryz.f96) (endK ia io) g2 [1, 1, 1, 0, 1, 0, 0, 1, 0, 0, 1, 1] [m1]
noncomputable def J3 (n m1 : Nat) : ByteArray × (List (Int)) × Int × Unit → Option R := jR (X n) n T (bodyOf Tryz.f96) (endK ia io) g3 [1, 1, 1, 0, 1, 0, 0, 1, 1] [m1]
noncomputable def J4 (n : Nat) : (List (Int)) × Unit → Option R := jR (X n) n T (bodyOf Tryz.f96) (endK ia io) g4 [1, 1, 1, 1] []
noncomputable def f (n : Nat) (s_ : ByteArray) : Option R := fRun (X n) n T Tryz.f96 ia io (s_, ())
theorem e0 (n : Nat) (s_ : ByteArray) : f n s_ =
  gNo ((2 : Int) = 0) (
    bIf ((hide ((Int.tmod (s_.size : Int) 2) != (0 : Int)))) (
      some ([], 5, ())
      ) (
      J1 n n (s_, [], 0, ())
      )
    ) := (hideF_eq _).trans (by kernel_rfl)
theorem e1 (n m : Nat) (s_ : ByteArray) (out : List (Int)) (i : Int) : J1 n (m + 1) (s_, out, i, ()) =
  bIf ((hide (decide (i < (s_.size : Int))))) (
    gIf (0 ≤ i ∧ i < (s_.size : Int)) (
      bnd (F_strings_IndexByte.f (⟨#[48, 49, 50, 51, 52, 53, 54, 55, 56, 57, 97, 98, 99, 100, 101, 102]⟩ : ByteArray) (bt s_ i)) fun u1 =>
      gIf (0 ≤ (IntKind.i64.wrap (i + (1 : Int))) ∧ (IntKind.i64.wrap (i + (1 : Int))) < (s_.size : Int)) (
        bnd (F_strings_IndexByte.f (⟨#[48, 49, 50, 51, 52, 53, 54, 55, 56, 57, 97, 98, 99, 100, 101, 102]⟩ : ByteArray) (bt s_ (IntKind.i64.wrap (i + (1 : Int))))) fun u2 =>
        bIf ((hide (decide (u1.1 < (0 : Int))))) (
          some ([], 5, ())
          ) (
          bIf ((hide (decide (u2.1 < (0 : Int))))) (
            some ([], 5, ())
            ) (
            J2 n m (s_, out, i, u1.1, u2.1, ())
            )
          )
        )
      )
    ) (
    J4 n (out, ())
    ) := (hideF_eq _).trans (by kernel_rfl)
theorem e2 (n m1 : Nat) (s_ : ByteArray) (out : List (Int)) (i : Int) (hi : Int) (lo : Int) : J2 n m1 (s_, out, i, hi, lo, ()) =
  gNo ((4 : Int) < 0) (
    gIf ((out.length + 1) * 1 ≤ 70368744177664) (
      J3 n m1 (s_, (out ++ ([(IntKind.u8.wrap (bitI .or .i64 (shlI .i64 hi 4) lo))] : List (Int))), i, ())
      )
    ) := (hideF_eq _).trans (by kernel_rfl)
theorem e3 (n m1 : Nat) (s_ : ByteArray) (out : List (Int)) (i : Int) : J3 n m1 (s_, out, i, ()) =
  J1 n m1 (s_, out, (IntKind.i64.wrap (i + (2 : Int))), ()) := (hideF_eq _).trans (by kernel_rfl)
theorem e4 (n : Nat) (out : List (Int)) : J4 n (out, ()) =
  some (out, 0, ()) := (hideF_eq _).trans (by kernel_rfl)
theorem phi (n : Nat) : ∀ e ∈ (X n).c.Φ, EntryOk Tryz.prog e := allE_cons (mkEntry_ok (F_strings_IndexByte.ok)) (allE_nil)
theorem ok (n : Nat) : FnOk Tryz.prog 96 ia io (fRun (X n) n T Tryz.f96 ia io) := tree_ok mixed tabIs (phi n) Tryz.func96 (by kernel_rfl) rfl
noncomputable def en (n : Nat) : Entry := mkEntry 96 ia io (fRun (X n) n T Tryz.f96 ia io)
end F_alpha_Unhex
end Go.Proofs.YtdlkpmohjhjmfaaGreatDoor

namespace Go.Proofs.YtdlkpmohjhjmfaaGreatDoor
open Go Go.Va Go.Proofs
namespace F_internal_stringslite_HasPrefix
abbrev ia : List Ai := [.dat .str, .dat .str]
abbrev io : List (Nat × Oi) := [(4, .dat .bool)]
abbrev R : Type := DOut ia io
noncomputable def X (n : Nat) : Ctx := ⟨⟨tab, [], 0, []⟩, 18, bnOf 0 ia⟩
noncomputable def T : CT := .o
noncomputable def f (n : Nat) (s_ : ByteArray) (prefix_ : ByteArray) : Option R := fRun (X n) n T Tryz.f203 ia io (s_, prefix_, ())
theorem e0 (n : Nat) (s_ : ByteArray) (prefix_ : ByteArray) : f n s_ prefix_ =
  bIf ((hide (decide ((s_.size : Int) ≥ (prefix_.size : Int))))) (
    gIf (0 ≤ (prefix_.size : Int) ∧ (prefix_.size : Int) ≤ (s_.size : Int)) (
      gIf (0 ≤ (0 : Int) ∧ (0 : Int) ≤ (prefix_.size : Int)) (
        some ((hide (eqS (s_.extract 0 ((prefix_.size : Int).toNat)) prefix_)), ())
        )
      )
    ) (
    some (false, ())
    ) := (hideF_eq _).trans (by kernel_rfl)
theorem phi (n : Nat) : ∀ e ∈ (X n).c.Φ, EntryOk Tryz.prog e := allE_nil
theorem ok (n : Nat) : FnOk Tryz.prog 203 ia io (fRun (X n) n T Tryz.f203 ia io) := tree_ok mixed tabIs (phi n) Tryz.func203 (by kernel_rfl) rfl
noncomputable def en (n : Nat) : Entry := mkEntry 203 ia io (fRun (X n) n T Tryz.f203 ia io)
end F_internal_stringslite_HasPrefix
end Go.Proofs.YtdlkpmohjhjmfaaGreatDoor

namespace Go.Proofs.YtdlkpmohjhjmfaaGreatDoor
open Go Go.Va Go.Proofs
namespace F_internal_stringslite_CutPrefix
abbrev ia : List Ai := [.dat .str, .dat .str]
abbrev io : List (Nat × Oi) := [(4, .dat .str), (5, .dat .bool)]
abbrev R : Type := DOut ia io
noncomputable def X (n : Nat) : Ctx := ⟨⟨tab, [F_internal_stringslite_HasPrefix.en n], 0, []⟩, 15, bnOf 0 ia⟩
noncomputable def T : CT := .o
noncomputable def f (n : Nat) (s_ : ByteArray) (prefix_ : ByteArray) : Option R := fRun (X n) n T Tryz.f151 ia io (s_, prefix_, ())
theorem e0 (n : Nat) (s_ : ByteArray) (prefix_ : ByteArray) : f n s_ prefix_ =
  bnd (F_internal_stringslite_HasPrefix.f n s_ prefix_) fun u1 =>
  bIf ((!u1.1)) (
    some (s_, false, ())
    ) (
    gIf (0 ≤ (s_.size : Int) ∧ (s_.size : Int) ≤ (s_.size : Int)) (
      gIf (0 ≤ (prefix_.size : Int) ∧ (prefix_.size : Int) ≤ (s_.size : Int)) (
        some ((s_.extract ((prefix_.size : Int).toNat) (((s_.size : Int)).toNat)), true, ())
        )
      )
    ) := (hideF_eq _).trans (by kernel_rfl)
theorem phi (n : Nat) : ∀ e ∈ (X n).c.Φ, EntryOk Tryz.prog e := allE_cons (mkEntry_ok (F_internal_stringslite_HasPrefix.ok n)) (allE_nil)
theorem ok (n : Nat) : FnOk Tryz.prog 151 ia io (fRun (X n) n T Tryz.f151 ia io) := tree_ok mixed tabIs (phi n) Tryz.func151 (by kernel_rfl) rfl
noncomputable def en (n : Nat) : Entry := mkEntry 151 ia io (fRun (X n) n T Tryz.f151 ia io)
end F_internal_stringslite_CutPrefix
end Go.Proofs.YtdlkpmohjhjmfaaGreatDoor

namespace Go.Proofs.YtdlkpmohjhjmfaaGreatDoor
open Go Go.Va Go.Proofs
namespace F_strings_CutPrefix
abbrev ia : List Ai := [.dat .str, .dat .str]
abbrev io : List (Nat × Oi) := [(4, .dat .str), (5, .dat .bool)]
abbrev R : Type := DOut ia io
noncomputable def X (n : Nat) : Ctx := ⟨⟨tab, [F_internal_stringslite_CutPrefix.en n], 0, []⟩, 11, bnOf 0 ia⟩
noncomputable def T : CT := .o
noncomputable def f (n : Nat) (s_ : ByteArray) (prefix_ : ByteArray) : Option R := fRun (X n) n T Tryz.f95 ia io (s_, prefix_, ())
theorem e0 (n : Nat) (s_ : ByteArray) (prefix_ : ByteArray) : f n s_ prefix_ =
  bnd (F_internal_stringslite_CutPrefix.f n s_ prefix_) fun u1 =>
  some (u1.1, u1.2.1, ()) := (hideF_eq _).trans (by kernel_rfl)
theorem phi (n : Nat) : ∀ e ∈ (X n).c.Φ, EntryOk Tryz.prog e := allE_cons (mkEntry_ok (F_internal_stringslite_CutPrefix.ok n)) (allE_nil)
theorem ok (n : Nat) : FnOk Tryz.prog 95 ia io (fRun (X n) n T Tryz.f95 ia io) := tree_ok mixed tabIs (phi n) Tryz.func95 (by kernel_rfl) rfl
noncomputable def en (n : Nat) : Entry := mkEntry 95 ia io (fRun (X n) n T Tryz.f95 ia io)
end F_strings_CutPrefix
end Go.Proofs.YtdlkpmohjhjmfaaGreatDoor

namespace Go.Proofs.YtdlkpmohjhjmfaaGreatDoor
open Go Go.Va Go.Proofs
namespace F_script_ask
abbrev ia : List Ai := [.dat .str]
abbrev io : List (Nat × Oi) := [(2, .cel (.p (.d (.int .i64)) (.p (.d T_api_Request) (.p (.d (.int .i64)) (.p (.d (.int .i64)) (.p (.r 0 (.int .i64)) (.d .unit))))))), (3, .dat .bool)]
abbrev R : Type := DOut ia io
noncomputable def X (n : Nat) : Ctx := ⟨⟨tab, [F_acts_Good.en n, F_strings_CutPrefix.en n, F_alpha_Unhex.en n, F_wire_Asked.en n], 0, []⟩, 40, bnOf 0 ia⟩
noncomputable def T : CT := .o
noncomputable def f (n : Nat) (w_ : ByteArray) : Option R := fRun (X n) n T Tryz.f50 ia io (w_, ())
theorem e0 (n : Nat) (w_ : ByteArray) : f n w_ =
  bnd (F_strings_CutPrefix.f n w_ (⟨#[120]⟩ : ByteArray)) fun u1 =>
  bnd (F_alpha_Unhex.f n u1.1) fun u2 =>
  bnd (F_wire_Asked.f n u2.1) fun u3 =>
  bIf (u1.2.1) (
    bIf ((hide (u2.2.1 == (0 : Int)))) (
      bIf ((hide (u3.2.1 == (0 : Int)))) (
        bnd (F_acts_Good.f n u3.1) fun u4 =>
        some ((2, (u3.1, (0, (0, ([], ()))))), u4.1, ())
        ) (
        some ((2, (u3.1, (0, (0, ([], ()))))), false, ())
        )
      ) (
      some ((2, (u3.1, (0, (0, ([], ()))))), false, ())
      )
    ) (
    some ((2, (u3.1, (0, (0, ([], ()))))), false, ())
    ) := (hideF_eq _).trans (by kernel_rfl)
theorem phi (n : Nat) : ∀ e ∈ (X n).c.Φ, EntryOk Tryz.prog e := allE_cons (mkEntry_ok (F_acts_Good.ok n)) (allE_cons (mkEntry_ok (F_strings_CutPrefix.ok n)) (allE_cons (mkEntry_ok (F_alpha_Unhex.ok n)) (allE_cons (mkEntry_ok (F_wire_Asked.ok n)) (allE_nil))))
theorem ok (n : Nat) : FnOk Tryz.prog 50 ia io (fRun (X n) n T Tryz.f50 ia io) := tree_ok mixed tabIs (phi n) Tryz.func50 (by kernel_rfl) rfl
noncomputable def en (n : Nat) : Entry := mkEntry 50 ia io (fRun (X n) n T Tryz.f50 ia io)
end F_script_ask
end Go.Proofs.YtdlkpmohjhjmfaaGreatDoor

namespace Go.Proofs.YtdlkpmohjhjmfaaGreatDoor
open Go Go.Va Go.Proofs
namespace F_script_crash
abbrev ia : List Ai := [.dat (.slice (.int .i64))]
abbrev io : List (Nat × Oi) := [(2, .cel (.p (.d (.int .i64)) (.p (.p (.d (.int .i64)) (.p (.d .str) (.p (.d .str) (.p (.d .str) (.p (.d (.int .u64)) (.p (.r 0 (.int .u8)) (.p (.r 0 T_api_Tag) (.p (.d T_api_Lock) (.p (.d .bool) (.p (.d T_api_Default) (.p (.r 0 T_api_Rule) (.p (.r 0 T_api_Grant) (.p (.d (.int .i64)) (.p (.r 0 (.int .i64)) (.d (.pair .str (.pair .str (.pair .str (.pair T_api_Spot (.pair (.int .i64) .unit)))))))))))))))))))) (.p (.d (.int .i64)) (.p (.d (.int .i64)) (.p (.r 0 (.int .i64)) (.d .unit))))))), (3, .dat .bool)]
abbrev R : Type := DOut ia io
noncomputable def X (n : Nat) : Ctx := ⟨⟨tab, [], 0, []⟩, 45, bnOf 0 ia⟩
abbrev g1 : List Si := [.dat 0 (.slice (.int .i64)), .ref 2 2 T_api_Act, .dat 21 .bool, .box 2 (.p (.d (.int .i64)) (.p (.p (.d (.int .i64)) (.p (.d .str) (.p (.d .str) (.p (.d .str) (.p (.d (.int .u64)) (.p (.r 100000000002000 (.int .u8)) (.p (.r 100000000002001 T_api_Tag) (.p (.d T_api_Lock) (.p (.d .bool) (.p (.d T_api_Default) (.p (.r 100000000002002 T_api_Rule) (.p (.r 100000000002003 T_api_Grant) (.p (.d (.int .i64)) (.p (.r 100000000002004 (.int .i64)) (.d (.pair .str (.pair .str (.pair .str (.pair T_api_Spot (.pair (.int .i64) .unit)))))))))))))))))))) (.p (.d (.int .i64)) (.p (.d (.int .i64)) (.p (.r 100000000002005 (.int .i64)) (.d .unit))))))]
abbrev g2 : List Si := [.dat 0 (.slice (.int .i64)), .ref 2 2 T_api_Act, .box 2 (.p (.d (.int .i64)) (.p (.p (.d (.int .i64)) (.p (.d .str) (.p (.d .str) (.p (.d .str) (.p (.d (.int .u64)) (.p (.r 100000000002000 (.int .u8)) (.p (.r 100000000002001 T_api_Tag) (.p (.d T_api_Lock) (.p (.d .bool) (.p (.d T_api_Default) (.p (.r 100000000002002 T_api_Rule) (.p (.r 100000000002003 T_api_Grant) (.p (.d (.int .i64)) (.p (.r 100000000002004 (.int .i64)) (.d (.pair .str (.pair .str (.pair .str (.pair T_api_Spot (.pair (.int .i64) .unit)))))))))))))))))))) (.p (.d (.int .i64)) (.p (.d (.int .i64)) (.p (.r 100000000002005 (.int .i64)) (.d .unit))))))]
abbrev g3 : List Si := [.ref 2 2 T_api_Act, .ref 4 4 T_api_Act, .dat 31 (.slice (.int .i64)), .dat 32 (.int .i64), .dat 33 (.int .i64), .box 2 (.p (.d (.int .i64)) (.p (.p (.d (.int .i64)) (.p (.d .str) (.p (.d .str) (.p (.d .str) (.p (.d (.int .u64)) (.p (.r 100000000002000 (.int .u8)) (.p (.r 100000000002001 T_api_Tag) (.p (.d T_api_Lock) (.p (.d .bool) (.p (.d T_api_Default) (.p (.r 100000000002002 T_api_Rule) (.p (.r 100000000002003 T_api_Grant) (.p (.d (.int .i64)) (.p (.r 100000000002004 (.int .i64)) (.d (.pair .str (.pair .str (.pair .str (.pair T_api_Spot (.pair (.int .i64) .unit)))))))))))))))))))) (.p (.d (.int .i64)) (.p (.d (.int .i64)) (.p (.r 100000000002005 (.int .i64)) (.d .unit)))))), .box 4 (.p (.d (.int .i64)) (.p (.p (.d (.int .i64)) (.p (.d .str) (.p (.d .str) (.p (.d .str) (.p (.d (.int .u64)) (.p (.r 100000000004000 (.int .u8)) (.p (.r 100000000004001 T_api_Tag) (.p (.d T_api_Lock) (.p (.d .bool) (.p (.d T_api_Default) (.p (.r 100000000004002 T_api_Rule) (.p (.r 100000000004003 T_api_Grant) (.p (.d (.int .i64)) (.p (.r 100000000004004 (.int .i64)) (.d (.pair .str (.pair .str (.pair .str (.pair T_api_Spot (.pair (.int .i64) .unit)))))))))))))))))))) (.p (.d (.int .i64)) (.p (.d (.int .i64)) (.p (.r 100000000004005 (.int .i64)) (.d .unit))))))]
abbrev g4 : List Si := [.ref 2 2 T_api_Act, .ref 4 4 T_api_Act, .box 2 (.p (.d (.int .i64)) (.p (.p (.d (.int .i64)) (.p (.d .str) (.p (.d .str) (.p (.d .str) (.p (.d (.int .u64)) (.p (.r 100000000002000 (.int .u8)) (.p (.r 100000000002001 T_api_Tag) (.p (.d T_api_Lock) (.p (.d .bool) (.p (.d T_api_Default) (.p (.r 100000000002002 T_api_Rule) (.p (.r 100000000002003 T_api_Grant) (.p (.d (.int .i64)) (.p (.r 100000000002004 (.int .i64)) (.d (.pair .str (.pair .str (.pair .str (.pair T_api_Spot (.pair (.int .i64) .unit)))))))))))))))))))) (.p (.d (.int .i64)) (.p (.d (.int .i64)) (.p (.r 100000000002005 (.int .i64)) (.d .unit)))))), .box 4 (.p (.d (.int .i64)) (.p (.p (.d (.int .i64)) (.p (.d .str) (.p (.d .str) (.p (.d .str) (.p (.d (.int .u64)) (.p (.r 100000000004000 (.int .u8)) (.p (.r 100000000004001 T_api_Tag) (.p (.d T_api_Lock) (.p (.d .bool) (.p (.d T_api_Default) (.p (.r 100000000004002 T_api_Rule) (.p (.r 100000000004003 T_api_Grant) (.p (.d (.int .i64)) (.p (.r 100000000004004 (.int .i64)) (.d (.pair .str (.pair .str (.pair .str (.pair T_api_Spot (.pair (.int .i64) .unit)))))))))))))))))))) (.p (.d (.int .i64)) (.p (.d (.int .i64)) (.p (.r 100000000004005 (.int .i64)) (.d .unit))))))]
noncomputable def T : CT := (.s .o (.s (.s .o (.r g1 .o)) (.r g2 (.s .o (.s (.s .o (.b (.l g3 .o))) (.r g4 .o))))))
noncomputable def J1 (n : Nat) : (List (Int)) × Bool × D_api_Act × Unit → Option R := jR (X n) n T (bodyOf Tryz.f52) (endK ia io) g1 [1, 0, 1] []
noncomputable def J2 (n : Nat) : (List (Int)) × D_api_Act × Unit → Option R := jR (X n) n T (bodyOf Tryz.f52) (endK ia io) g2 [1, 1] []
noncomputable def J3 (n : Nat) (m : Nat) : (List (Int)) × Int × Int × D_api_Act × D_api_Act × Unit → Option R := jL (X n) n T (bodyOf Tryz.f52) (endK ia io) g3 [1, 1, 1, 0, 1, 0] [] m
noncomputable def J4 (n : Nat) : D_api_Act × D_api_Act × Unit → Option R := jR (X n) n T (bodyOf Tryz.f52) (endK ia io) g4 [1, 1, 1, 1] []
noncomputable def f (n : Nat) (n_ : List (Int)) : Option R := fRun (X n) n T Tryz.f52 ia io (n_, ())
theorem e0 (n : Nat) (n_ : List (Int)) : f n n_ =
  bIf ((hide (decide (((n_.length : Nat) : Int) < (2 : Int))))) (
    J1 n (n_, true, (0, ((0, ((⟨#[]⟩ : ByteArray), ((⟨#[]⟩ : ByteArray), ((⟨#[]⟩ : ByteArray), (0, ([], ([], ((0, (0, (false, ()))), (false, ((0, (0, ())), ([], ([], (0, ([], ((⟨#[]⟩ : ByteArray), ((⟨#[]⟩ : ByteArray), ((⟨#[]⟩ : ByteArray), (((⟨#[]⟩ : ByteArray), ((⟨#[]⟩ : ByteArray), (0, ()))), (0, ()))))))))))))))))))), (0, (0, ([], ()))))), ())
    ) (
    gIf (0 ≤ (1 : Int) ∧ (1 : Int) < ((n_.length : Nat) : Int)) (
      bIf ((hide (decide ((List.getD n_ 1 0) < (0 : Int))))) (
        J1 n (n_, true, (0, ((0, ((⟨#[]⟩ : ByteArray), ((⟨#[]⟩ : ByteArray), ((⟨#[]⟩ : ByteArray), (0, ([], ([], ((0, (0, (false, ()))), (false, ((0, (0, ())), ([], ([], (0, ([], ((⟨#[]⟩ : ByteArray), ((⟨#[]⟩ : ByteArray), ((⟨#[]⟩ : ByteArray), (((⟨#[]⟩ : ByteArray), ((⟨#[]⟩ : ByteArray), (0, ()))), (0, ()))))))))))))))))))), (0, (0, ([], ()))))), ())
        ) (
        gIf (0 ≤ (1 : Int) ∧ (1 : Int) < ((n_.length : Nat) : Int)) (
          J1 n (n_, (hide (decide ((List.getD n_ 1 0) > (255 : Int)))), (0, ((0, ((⟨#[]⟩ : ByteArray), ((⟨#[]⟩ : ByteArray), ((⟨#[]⟩ : ByteArray), (0, ([], ([], ((0, (0, (false, ()))), (false, ((0, (0, ())), ([], ([], (0, ([], ((⟨#[]⟩ : ByteArray), ((⟨#[]⟩ : ByteArray), ((⟨#[]⟩ : ByteArray), (((⟨#[]⟩ : ByteArray), ((⟨#[]⟩ : ByteArray), (0, ()))), (0, ()))))))))))))))))))), (0, (0, ([], ()))))), ())
          )
        )
      )
    ) := (hideF_eq _).trans (by kernel_rfl)
theorem e1 (n : Nat) (n_ : List (Int)) (t21 : Bool) (b2 : D_api_Act) : J1 n (n_, t21, b2, ()) =
  bIf (t21) (
    some ((0, ((0, ((⟨#[]⟩ : ByteArray), ((⟨#[]⟩ : ByteArray), ((⟨#[]⟩ : ByteArray), (0, ([], ([], ((0, (0, (false, ()))), (false, ((0, (0, ())), ([], ([], (0, ([], ((⟨#[]⟩ : ByteArray), ((⟨#[]⟩ : ByteArray), ((⟨#[]⟩ : ByteArray), (((⟨#[]⟩ : ByteArray), ((⟨#[]⟩ : ByteArray), (0, ()))), (0, ()))))))))))))))))))), (0, (0, ([], ()))))), false, ())
    ) (
    J2 n (n_, (b2.1, ((b2.2.1.1, (b2.2.1.2.1, (b2.2.1.2.2.1, (b2.2.1.2.2.2.1, (b2.2.1.2.2.2.2.1, (b2.2.1.2.2.2.2.2.1, (b2.2.1.2.2.2.2.2.2.1, (b2.2.1.2.2.2.2.2.2.2.1, (b2.2.1.2.2.2.2.2.2.2.2.1, (b2.2.1.2.2.2.2.2.2.2.2.2.1, (b2.2.1.2.2.2.2.2.2.2.2.2.2.1, (b2.2.1.2.2.2.2.2.2.2.2.2.2.2.1, (b2.2.1.2.2.2.2.2.2.2.2.2.2.2.2.1, (b2.2.1.2.2.2.2.2.2.2.2.2.2.2.2.2.1, b2.2.1.2.2.2.2.2.2.2.2.2.2.2.2.2.2)))))))))))))), (b2.2.2.1, (b2.2.2.2.1, (b2.2.2.2.2.1, b2.2.2.2.2.2))))), ())
    ) := (hideF_eq _).trans (by kernel_rfl)
theorem e2 (n : Nat) (n_ : List (Int)) (b2 : D_api_Act) : J2 n (n_, b2, ()) =
  gIf (0 ≤ (0 : Int) ∧ (0 : Int) < ((n_.length : Nat) : Int)) (
    gIf (0 ≤ (1 : Int) ∧ (1 : Int) < ((n_.length : Nat) : Int)) (
      gIf (0 ≤ ((n_.length : Nat) : Int) ∧ ((n_.length : Nat) : Int) ≤ ((n_.length : Nat) : Int)) (
        gIf (0 ≤ (2 : Int) ∧ (2 : Int) ≤ ((n_.length : Nat) : Int)) (
          J3 n n (((n_.take ((((n_.length : Nat) : Int)).toNat)).drop 2), ((((n_.take ((((n_.length : Nat) : Int)).toNat)).drop 2).length : Nat) : Int), 0, (b2.1, ((b2.2.1.1, (b2.2.1.2.1, (b2.2.1.2.2.1, (b2.2.1.2.2.2.1, (b2.2.1.2.2.2.2.1, (b2.2.1.2.2.2.2.2.1, (b2.2.1.2.2.2.2.2.2.1, (b2.2.1.2.2.2.2.2.2.2.1, (b2.2.1.2.2.2.2.2.2.2.2.1, (b2.2.1.2.2.2.2.2.2.2.2.2.1, (b2.2.1.2.2.2.2.2.2.2.2.2.2.1, (b2.2.1.2.2.2.2.2.2.2.2.2.2.2.1, (b2.2.1.2.2.2.2.2.2.2.2.2.2.2.2.1, (b2.2.1.2.2.2.2.2.2.2.2.2.2.2.2.2.1, b2.2.1.2.2.2.2.2.2.2.2.2.2.2.2.2.2)))))))))))))), (b2.2.2.1, (b2.2.2.2.1, (b2.2.2.2.2.1, b2.2.2.2.2.2))))), (8, ((0, ((⟨#[]⟩ : ByteArray), ((⟨#[]⟩ : ByteArray), ((⟨#[]⟩ : ByteArray), (0, ([], ([], ((0, (0, (false, ()))), (false, ((0, (0, ())), ([], ([], (0, ([], ((⟨#[]⟩ : ByteArray), ((⟨#[]⟩ : ByteArray), ((⟨#[]⟩ : ByteArray), (((⟨#[]⟩ : ByteArray), ((⟨#[]⟩ : ByteArray), (0, ()))), (0, ()))))))))))))))))))), ((List.getD n_ 1 0), ((List.getD n_ 0 0), ([], ()))))), ())
          )
        )
      )
    ) := (hideF_eq _).trans (by kernel_rfl)
theorem e3 (n m : Nat) (t31 : List (Int)) (t32 : Int) (t33 : Int) (b2 : D_api_Act) (a : D_api_Act) : J3 n (m + 1) (t31, t32, t33, b2, a, ()) =
  bIf ((hide (decide (t33 < t32)))) (
    gIf (0 ≤ t33 ∧ t33 < ((t31.length : Nat) : Int)) (
      gIf ((a.2.2.2.2.1.length + 1) * 8 ≤ 70368744177664) (
        J3 n m (t31, t32, (IntKind.i64.wrap (t33 + (1 : Int))), (b2.1, ((b2.2.1.1, (b2.2.1.2.1, (b2.2.1.2.2.1, (b2.2.1.2.2.2.1, (b2.2.1.2.2.2.2.1, (b2.2.1.2.2.2.2.2.1, (b2.2.1.2.2.2.2.2.2.1, (b2.2.1.2.2.2.2.2.2.2.1, (b2.2.1.2.2.2.2.2.2.2.2.1, (b2.2.1.2.2.2.2.2.2.2.2.2.1, (b2.2.1.2.2.2.2.2.2.2.2.2.2.1, (b2.2.1.2.2.2.2.2.2.2.2.2.2.2.1, (b2.2.1.2.2.2.2.2.2.2.2.2.2.2.2.1, (b2.2.1.2.2.2.2.2.2.2.2.2.2.2.2.2.1, b2.2.1.2.2.2.2.2.2.2.2.2.2.2.2.2.2)))))))))))))), (b2.2.2.1, (b2.2.2.2.1, (b2.2.2.2.2.1, b2.2.2.2.2.2))))), (a.1, ((a.2.1.1, (a.2.1.2.1, (a.2.1.2.2.1, (a.2.1.2.2.2.1, (a.2.1.2.2.2.2.1, (a.2.1.2.2.2.2.2.1, (a.2.1.2.2.2.2.2.2.1, (a.2.1.2.2.2.2.2.2.2.1, (a.2.1.2.2.2.2.2.2.2.2.1, (a.2.1.2.2.2.2.2.2.2.2.2.1, (a.2.1.2.2.2.2.2.2.2.2.2.2.1, (a.2.1.2.2.2.2.2.2.2.2.2.2.2.1, (a.2.1.2.2.2.2.2.2.2.2.2.2.2.2.1, (a.2.1.2.2.2.2.2.2.2.2.2.2.2.2.2.1, a.2.1.2.2.2.2.2.2.2.2.2.2.2.2.2.2)))))))))))))), (a.2.2.1, (a.2.2.2.1, ((a.2.2.2.2.1 ++ ([(List.getD t31 t33.toNat 0)] : List (Int))), a.2.2.2.2.2))))), ())
        )
      )
    ) (
    J4 n ((b2.1, ((b2.2.1.1, (b2.2.1.2.1, (b2.2.1.2.2.1, (b2.2.1.2.2.2.1, (b2.2.1.2.2.2.2.1, (b2.2.1.2.2.2.2.2.1, (b2.2.1.2.2.2.2.2.2.1, (b2.2.1.2.2.2.2.2.2.2.1, (b2.2.1.2.2.2.2.2.2.2.2.1, (b2.2.1.2.2.2.2.2.2.2.2.2.1, (b2.2.1.2.2.2.2.2.2.2.2.2.2.1, (b2.2.1.2.2.2.2.2.2.2.2.2.2.2.1, (b2.2.1.2.2.2.2.2.2.2.2.2.2.2.2.1, (b2.2.1.2.2.2.2.2.2.2.2.2.2.2.2.2.1, b2.2.1.2.2.2.2.2.2.2.2.2.2.2.2.2.2)))))))))))))), (b2.2.2.1, (b2.2.2.2.1, (b2.2.2.2.2.1, b2.2.2.2.2.2))))), (a.1, ((a.2.1.1, (a.2.1.2.1, (a.2.1.2.2.1, (a.2.1.2.2.2.1, (a.2.1.2.2.2.2.1, (a.2.1.2.2.2.2.2.1, (a.2.1.2.2.2.2.2.2.1, (a.2.1.2.2.2.2.2.2.2.1, (a.2.1.2.2.2.2.2.2.2.2.1, (a.2.1.2.2.2.2.2.2.2.2.2.1, (a.2.1.2.2.2.2.2.2.2.2.2.2.1, (a.2.1.2.2.2.2.2.2.2.2.2.2.2.1, (a.2.1.2.2.2.2.2.2.2.2.2.2.2.2.1, (a.2.1.2.2.2.2.2.2.2.2.2.2.2.2.2.1, a.2.1.2.2.2.2.2.2.2.2.2.2.2.2.2.2)))))))))))))), (a.2.2.1, (a.2.2.2.1, (a.2.2.2.2.1, a.2.2.2.2.2))))), ())
    ) := (hideF_eq _).trans (by kernel_rfl)
theorem e4 (n : Nat) (b2 : D_api_Act) (a : D_api_Act) : J4 n (b2, a, ()) =
  some ((a.1, ((a.2.1.1, (a.2.1.2.1, (a.2.1.2.2.1, (a.2.1.2.2.2.1, (a.2.1.2.2.2.2.1, (a.2.1.2.2.2.2.2.1, (a.2.1.2.2.2.2.2.2.1, (a.2.1.2.2.2.2.2.2.2.1, (a.2.1.2.2.2.2.2.2.2.2.1, (a.2.1.2.2.2.2.2.2.2.2.2.1, (a.2.1.2.2.2.2.2.2.2.2.2.2.1, (a.2.1.2.2.2.2.2.2.2.2.2.2.2.1, (a.2.1.2.2.2.2.2.2.2.2.2.2.2.2.1, (a.2.1.2.2.2.2.2.2.2.2.2.2.2.2.2.1, a.2.1.2.2.2.2.2.2.2.2.2.2.2.2.2.2)))))))))))))), (a.2.2.1, (a.2.2.2.1, (a.2.2.2.2.1, a.2.2.2.2.2))))), true, ()) := (hideF_eq _).trans (by kernel_rfl)
theorem phi (n : Nat) : ∀ e ∈ (X n).c.Φ, EntryOk Tryz.prog e := allE_nil
theorem ok (n : Nat) : FnOk Tryz.prog 52 ia io (fRun (X n) n T Tryz.f52 ia io) := tree_ok mixed tabIs (phi n) Tryz.func52 (by kernel_rfl) rfl
noncomputable def en (n : Nat) : Entry := mkEntry 52 ia io (fRun (X n) n T Tryz.f52 ia io)
end F_script_crash
end Go.Proofs.YtdlkpmohjhjmfaaGreatDoor

namespace Go.Proofs.YtdlkpmohjhjmfaaGreatDoor
open Go Go.Va Go.Proofs
namespace F_script_numbers
abbrev ia : List Ai := [.dat (.slice .str)]
abbrev io : List (Nat × Oi) := [(2, .val (.r 0 (.int .i64))), (3, .dat .bool)]
abbrev R : Type := DOut ia io
noncomputable def X (n : Nat) : Ctx := ⟨⟨tab, [F_script_number.en], 0, []⟩, 28, bnOf 0 ia⟩
abbrev g1 : List Si := [.val 4 (.r 200400 (.int .i64)), .dat 9 (.slice .str), .dat 10 (.int .i64), .dat 11 (.int .i64)]
abbrev g2 : List Si := [.val 4 (.r 200400 (.int .i64))]
noncomputable def T : CT := (.s .o (.s .o (.s (.s .o (.b (.l g1 .o))) (.r g2 .o))))
noncomputable def J1 (n : Nat) (m : Nat) : (List (Int)) × (List (ByteArray)) × Int × Int × Unit → Option R := jL (X n) n T (bodyOf Tryz.f51) (endK ia io) g1 [1, 1, 0, 1, 0] [] m
noncomputable def J2 (n : Nat) : (List (Int)) × Unit → Option R := jR (X n) n T (bodyOf Tryz.f51) (endK ia io) g2 [1, 1, 1] []
noncomputable def f (n : Nat) (w_ : List (ByteArray)) : Option R := fRun (X n) n T Tryz.f51 ia io (w_, ())
theorem e0 (n : Nat) (w_ : List (ByteArray)) : f n w_ =
  J1 n n ([], w_, ((w_.length : Nat) : Int), 0, ()) := (hideF_eq _).trans (by kernel_rfl)
theorem e1 (n m : Nat) (out : List (Int)) (t9 : List (ByteArray)) (t10 : Int) (t11 : Int) : J1 n (m + 1) (out, t9, t10, t11, ()) =
  bIf ((hide (decide (t11 < t10)))) (
    gIf (0 ≤ t11 ∧ t11 < ((t9.length : Nat) : Int)) (
      bnd (F_script_number.f (List.getD t9 t11.toNat (⟨#[]⟩ : ByteArray))) fun u1 =>
      bIf ((!u1.2.1)) (
        some ([], false, ())
        ) (
        gIf ((out.length + 1) * 8 ≤ 70368744177664) (
          J1 n m ((out ++ ([u1.1] : List (Int))), t9, t10, (IntKind.i64.wrap (t11 + (1 : Int))), ())
          )
        )
      )
    ) (
    J2 n (out, ())
    ) := (hideF_eq _).trans (by kernel_rfl)
theorem e2 (n : Nat) (out : List (Int)) : J2 n (out, ()) =
  some (out, true, ()) := (hideF_eq _).trans (by kernel_rfl)
theorem phi (n : Nat) : ∀ e ∈ (X n).c.Φ, EntryOk Tryz.prog e := allE_cons (mkEntry_ok (F_script_number.ok)) (allE_nil)
theorem ok (n : Nat) : FnOk Tryz.prog 51 ia io (fRun (X n) n T Tryz.f51 ia io) := tree_ok mixed tabIs (phi n) Tryz.func51 (by kernel_rfl) rfl
noncomputable def en (n : Nat) : Entry := mkEntry 51 ia io (fRun (X n) n T Tryz.f51 ia io)
end F_script_numbers
end Go.Proofs.YtdlkpmohjhjmfaaGreatDoor

namespace Go.Proofs.YtdlkpmohjhjmfaaGreatDoor
open Go Go.Va Go.Proofs
namespace F_script_read
abbrev ia : List Ai := [.dat (.slice .str)]
abbrev io : List (Nat × Oi) := [(2, .cel (.p (.d (.int .i64)) (.p (.d T_api_Request) (.p (.d (.int .i64)) (.p (.d (.int .i64)) (.p (.r 0 (.int .i64)) (.d .unit))))))), (3, .dat .bool)]
abbrev R : Type := DOut ia io
noncomputable def X (n : Nat) : Ctx := ⟨⟨tab, [F_script_words.en, F_script_ask.en n, F_script_numbers.en n, F_script_crash.en n], 0, []⟩, 80, bnOf 0 ia⟩
abbrev g1 : List Si := [.dat 0 (.slice .str), .ref 2 2 T_api_Act, .dat 30 .bool, .box 2 (.p (.d (.int .i64)) (.p (.p (.d (.int .i64)) (.p (.d .str) (.p (.d .str) (.p (.d .str) (.p (.d (.int .u64)) (.p (.r 100000000002000 (.int .u8)) (.p (.r 100000000002001 T_api_Tag) (.p (.d T_api_Lock) (.p (.d .bool) (.p (.d T_api_Default) (.p (.r 100000000002002 T_api_Rule) (.p (.r 100000000002003 T_api_Grant) (.p (.d (.int .i64)) (.p (.r 100000000002004 (.int .i64)) (.d (.pair .str (.pair .str (.pair .str (.pair T_api_Spot (.pair (.int .i64) .unit)))))))))))))))))))) (.p (.d (.int .i64)) (.p (.d (.int .i64)) (.p (.r 100000000002005 (.int .i64)) (.d .unit))))))]
abbrev g2 : List Si := [.dat 0 (.slice .str), .ref 2 2 T_api_Act, .box 2 (.p (.d (.int .i64)) (.p (.p (.d (.int .i64)) (.p (.d .str) (.p (.d .str) (.p (.d .str) (.p (.d (.int .u64)) (.p (.r 100000000002000 (.int .u8)) (.p (.r 100000000002001 T_api_Tag) (.p (.d T_api_Lock) (.p (.d .bool) (.p (.d T_api_Default) (.p (.r 100000000002002 T_api_Rule) (.p (.r 100000000002003 T_api_Grant) (.p (.d (.int .i64)) (.p (.r 100000000002004 (.int .i64)) (.d (.pair .str (.pair .str (.pair .str (.pair T_api_Spot (.pair (.int .i64) .unit)))))))))))))))))))) (.p (.d (.int .i64)) (.p (.d (.int .i64)) (.p (.r 100000000002005 (.int .i64)) (.d .unit))))))]
noncomputable def T : CT := (.s .o (.s .o (.s (.s .o (.r g1 .o)) (.r g2 .o))))
noncomputable def J1 (n : Nat) : (List (ByteArray)) × Bool × D_api_Act × Unit → Option R := jR (X n) n T (bodyOf Tryz.f24) (endK ia io) g1 [1, 1, 0, 1] []
noncomputable def J2 (n : Nat) : (List (ByteArray)) × D_api_Act × Unit → Option R := jR (X n) n T (bodyOf Tryz.f24) (endK ia io) g2 [1, 1, 1] []
noncomputable def f (n : Nat) (w_ : List (ByteArray)) : Option R := fRun (X n) n T Tryz.f24 ia io (w_, ())
theorem e0 (n : Nat) (w_ : List (ByteArray)) : f n w_ =
  bnd (F_script_words.f) fun u1 =>
  gIf (0 ≤ (0 : Int) ∧ (0 : Int) < ((w_.length : Nat) : Int)) (
    bIf ((smGet u1.1 (List.getD w_ 0 (⟨#[]⟩ : ByteArray))).2) (
      some (((smGet u1.1 (List.getD w_ 0 (⟨#[]⟩ : ByteArray))).1, ((0, ((⟨#[]⟩ : ByteArray), ((⟨#[]⟩ : ByteArray), ((⟨#[]⟩ : ByteArray), (0, ([], ([], ((0, (0, (false, ()))), (false, ((0, (0, ())), ([], ([], (0, ([], ((⟨#[]⟩ : ByteArray), ((⟨#[]⟩ : ByteArray), ((⟨#[]⟩ : ByteArray), (((⟨#[]⟩ : ByteArray), ((⟨#[]⟩ : ByteArray), (0, ()))), (0, ()))))))))))))))))))), (0, (0, ([], ()))))), (hide (((w_.length : Nat) : Int) == (1 : Int))), ())
      ) (
      gIf (0 ≤ (0 : Int) ∧ (0 : Int) < ((w_.length : Nat) : Int)) (
        bIf ((hide (eqS (List.getD w_ 0 (⟨#[]⟩ : ByteArray)) (⟨#[97, 115, 107]⟩ : ByteArray)))) (
          J1 n (w_, (hide (((w_.length : Nat) : Int) == (2 : Int))), (0, ((0, ((⟨#[]⟩ : ByteArray), ((⟨#[]⟩ : ByteArray), ((⟨#[]⟩ : ByteArray), (0, ([], ([], ((0, (0, (false, ()))), (false, ((0, (0, ())), ([], ([], (0, ([], ((⟨#[]⟩ : ByteArray), ((⟨#[]⟩ : ByteArray), ((⟨#[]⟩ : ByteArray), (((⟨#[]⟩ : ByteArray), ((⟨#[]⟩ : ByteArray), (0, ()))), (0, ()))))))))))))))))))), (0, (0, ([], ()))))), ())
          ) (
          J1 n (w_, false, (0, ((0, ((⟨#[]⟩ : ByteArray), ((⟨#[]⟩ : ByteArray), ((⟨#[]⟩ : ByteArray), (0, ([], ([], ((0, (0, (false, ()))), (false, ((0, (0, ())), ([], ([], (0, ([], ((⟨#[]⟩ : ByteArray), ((⟨#[]⟩ : ByteArray), ((⟨#[]⟩ : ByteArray), (((⟨#[]⟩ : ByteArray), ((⟨#[]⟩ : ByteArray), (0, ()))), (0, ()))))))))))))))))))), (0, (0, ([], ()))))), ())
          )
        )
      )
    ) := (hideF_eq _).trans (by kernel_rfl)
theorem e1 (n : Nat) (w_ : List (ByteArray)) (t30 : Bool) (b2 : D_api_Act) : J1 n (w_, t30, b2, ()) =
  bIf (t30) (
    gIf (0 ≤ (1 : Int) ∧ (1 : Int) < ((w_.length : Nat) : Int)) (
      bnd (F_script_ask.f n (List.getD w_ 1 (⟨#[]⟩ : ByteArray))) fun u1 =>
      some ((u1.1.1, (u1.1.2.1, (u1.1.2.2.1, (u1.1.2.2.2.1, (u1.1.2.2.2.2.1, u1.1.2.2.2.2.2))))), u1.2.1, ())
      )
    ) (
    J2 n (w_, (b2.1, ((b2.2.1.1, (b2.2.1.2.1, (b2.2.1.2.2.1, (b2.2.1.2.2.2.1, (b2.2.1.2.2.2.2.1, (b2.2.1.2.2.2.2.2.1, (b2.2.1.2.2.2.2.2.2.1, (b2.2.1.2.2.2.2.2.2.2.1, (b2.2.1.2.2.2.2.2.2.2.2.1, (b2.2.1.2.2.2.2.2.2.2.2.2.1, (b2.2.1.2.2.2.2.2.2.2.2.2.2.1, (b2.2.1.2.2.2.2.2.2.2.2.2.2.2.1, (b2.2.1.2.2.2.2.2.2.2.2.2.2.2.2.1, (b2.2.1.2.2.2.2.2.2.2.2.2.2.2.2.2.1, b2.2.1.2.2.2.2.2.2.2.2.2.2.2.2.2.2)))))))))))))), (b2.2.2.1, (b2.2.2.2.1, (b2.2.2.2.2.1, b2.2.2.2.2.2))))), ())
    ) := (hideF_eq _).trans (by kernel_rfl)
theorem e2 (n : Nat) (w_ : List (ByteArray)) (b2 : D_api_Act) : J2 n (w_, b2, ()) =
  gIf (0 ≤ ((w_.length : Nat) : Int) ∧ ((w_.length : Nat) : Int) ≤ ((w_.length : Nat) : Int)) (
    gIf (0 ≤ (1 : Int) ∧ (1 : Int) ≤ ((w_.length : Nat) : Int)) (
      bnd (F_script_numbers.f n ((w_.take ((((w_.length : Nat) : Int)).toNat)).drop 1)) fun u1 =>
      bIf ((!u1.2.1)) (
        some ((0, ((0, ((⟨#[]⟩ : ByteArray), ((⟨#[]⟩ : ByteArray), ((⟨#[]⟩ : ByteArray), (0, ([], ([], ((0, (0, (false, ()))), (false, ((0, (0, ())), ([], ([], (0, ([], ((⟨#[]⟩ : ByteArray), ((⟨#[]⟩ : ByteArray), ((⟨#[]⟩ : ByteArray), (((⟨#[]⟩ : ByteArray), ((⟨#[]⟩ : ByteArray), (0, ()))), (0, ()))))))))))))))))))), (0, (0, ([], ()))))), false, ())
        ) (
        gIf (0 ≤ (0 : Int) ∧ (0 : Int) < ((w_.length : Nat) : Int)) (
          bIf ((hide (eqS (List.getD w_ 0 (⟨#[]⟩ : ByteArray)) (⟨#[99, 114, 97, 115, 104]⟩ : ByteArray)))) (
            bnd (F_script_crash.f n u1.1) fun u2 =>
            some ((u2.1.1, ((u2.1.2.1.1, (u2.1.2.1.2.1, (u2.1.2.1.2.2.1, (u2.1.2.1.2.2.2.1, (u2.1.2.1.2.2.2.2.1, (u2.1.2.1.2.2.2.2.2.1, (u2.1.2.1.2.2.2.2.2.2.1, (u2.1.2.1.2.2.2.2.2.2.2.1, (u2.1.2.1.2.2.2.2.2.2.2.2.1, (u2.1.2.1.2.2.2.2.2.2.2.2.2.1, (u2.1.2.1.2.2.2.2.2.2.2.2.2.2.1, (u2.1.2.1.2.2.2.2.2.2.2.2.2.2.2.1, (u2.1.2.1.2.2.2.2.2.2.2.2.2.2.2.2.1, (u2.1.2.1.2.2.2.2.2.2.2.2.2.2.2.2.2.1, u2.1.2.1.2.2.2.2.2.2.2.2.2.2.2.2.2.2)))))))))))))), (u2.1.2.2.1, (u2.1.2.2.2.1, (u2.1.2.2.2.2.1, u2.1.2.2.2.2.2))))), u2.2.1, ())
            ) (
            bIf ((hide (((u1.1.length : Nat) : Int) != (1 : Int)))) (
              some ((0, ((0, ((⟨#[]⟩ : ByteArray), ((⟨#[]⟩ : ByteArray), ((⟨#[]⟩ : ByteArray), (0, ([], ([], ((0, (0, (false, ()))), (false, ((0, (0, ())), ([], ([], (0, ([], ((⟨#[]⟩ : ByteArray), ((⟨#[]⟩ : ByteArray), ((⟨#[]⟩ : ByteArray), (((⟨#[]⟩ : ByteArray), ((⟨#[]⟩ : ByteArray), (0, ()))), (0, ()))))))))))))))))))), (0, (0, ([], ()))))), false, ())
              ) (
              gIf (0 ≤ (0 : Int) ∧ (0 : Int) < ((w_.length : Nat) : Int)) (
                bIf ((hide (eqS (List.getD w_ 0 (⟨#[]⟩ : ByteArray)) (⟨#[99, 108, 111, 99, 107]⟩ : ByteArray)))) (
                  gIf (0 ≤ (0 : Int) ∧ (0 : Int) < ((u1.1.length : Nat) : Int)) (
                    some ((3, ((0, ((⟨#[]⟩ : ByteArray), ((⟨#[]⟩ : ByteArray), ((⟨#[]⟩ : ByteArray), (0, ([], ([], ((0, (0, (false, ()))), (false, ((0, (0, ())), ([], ([], (0, ([], ((⟨#[]⟩ : ByteArray), ((⟨#[]⟩ : ByteArray), ((⟨#[]⟩ : ByteArray), (((⟨#[]⟩ : ByteArray), ((⟨#[]⟩ : ByteArray), (0, ()))), (0, ()))))))))))))))))))), ((List.getD u1.1 (0 + 0) 0), (0, ([], ()))))), true, ())
                    )
                  ) (
                  gIf (0 ≤ (0 : Int) ∧ (0 : Int) < ((w_.length : Nat) : Int)) (
                    bIf ((hide (eqS (List.getD w_ 0 (⟨#[]⟩ : ByteArray)) (⟨#[102, 97, 105, 108]⟩ : ByteArray)))) (
                      gIf (0 ≤ (0 : Int) ∧ (0 : Int) < ((u1.1.length : Nat) : Int)) (
                        some ((7, ((0, ((⟨#[]⟩ : ByteArray), ((⟨#[]⟩ : ByteArray), ((⟨#[]⟩ : ByteArray), (0, ([], ([], ((0, (0, (false, ()))), (false, ((0, (0, ())), ([], ([], (0, ([], ((⟨#[]⟩ : ByteArray), ((⟨#[]⟩ : ByteArray), ((⟨#[]⟩ : ByteArray), (((⟨#[]⟩ : ByteArray), ((⟨#[]⟩ : ByteArray), (0, ()))), (0, ()))))))))))))))))))), (0, ((List.getD u1.1 (0 + 0) 0), ([], ()))))), true, ())
                        )
                      ) (
                      some ((0, ((0, ((⟨#[]⟩ : ByteArray), ((⟨#[]⟩ : ByteArray), ((⟨#[]⟩ : ByteArray), (0, ([], ([], ((0, (0, (false, ()))), (false, ((0, (0, ())), ([], ([], (0, ([], ((⟨#[]⟩ : ByteArray), ((⟨#[]⟩ : ByteArray), ((⟨#[]⟩ : ByteArray), (((⟨#[]⟩ : ByteArray), ((⟨#[]⟩ : ByteArray), (0, ()))), (0, ()))))))))))))))))))), (0, (0, ([], ()))))), false, ())
                      )
                    )
                  )
                )
              )
            )
          )
        )
      )
    ) := (hideF_eq _).trans (by kernel_rfl)
theorem phi (n : Nat) : ∀ e ∈ (X n).c.Φ, EntryOk Tryz.prog e := allE_cons (mkEntry_ok (F_script_words.ok)) (allE_cons (mkEntry_ok (F_script_ask.ok n)) (allE_cons (mkEntry_ok (F_script_numbers.ok n)) (allE_cons (mkEntry_ok (F_script_crash.ok n)) (allE_nil))))
theorem ok (n : Nat) : FnOk Tryz.prog 24 ia io (fRun (X n) n T Tryz.f24 ia io) := tree_ok mixed tabIs (phi n) Tryz.func24 (by kernel_rfl) rfl
noncomputable def en (n : Nat) : Entry := mkEntry 24 ia io (fRun (X n) n T Tryz.f24 ia io)
end F_script_read
end Go.Proofs.YtdlkpmohjhjmfaaGreatDoor

namespace Go.Proofs.YtdlkpmohjhjmfaaGreatDoor
open Go Go.Va Go.Proofs
namespace F_script_Act
abbrev ia : List Ai := [.dat .str]
abbrev io : List (Nat × Oi) := [(2, .cel (.p (.d (.int .i64)) (.p (.d T_api_Request) (.p (.d (.int .i64)) (.p (.d (.int .i64)) (.p (.r 0 (.int .i64)) (.d .unit))))))), (3, .dat (.int .i64))]
abbrev R : Type := DOut ia io
noncomputable def X (n : Nat) : Ctx := ⟨⟨tab, [F_script_read.en n, F_strings_Split.en], 0, []⟩, 16, bnOf 0 ia⟩
noncomputable def T : CT := .o
noncomputable def f (n : Nat) (s_ : ByteArray) : Option R := fRun (X n) n T Tryz.f11 ia io (s_, ())
theorem e0 (n : Nat) (s_ : ByteArray) : f n s_ =
  bnd (F_strings_Split.f s_ (⟨#[32]⟩ : ByteArray)) fun u1 =>
  bnd (F_script_read.f n u1.1) fun u2 =>
  bIf ((!u2.2.1)) (
    some ((0, ((0, ((⟨#[]⟩ : ByteArray), ((⟨#[]⟩ : ByteArray), ((⟨#[]⟩ : ByteArray), (0, ([], ([], ((0, (0, (false, ()))), (false, ((0, (0, ())), ([], ([], (0, ([], ((⟨#[]⟩ : ByteArray), ((⟨#[]⟩ : ByteArray), ((⟨#[]⟩ : ByteArray), (((⟨#[]⟩ : ByteArray), ((⟨#[]⟩ : ByteArray), (0, ()))), (0, ()))))))))))))))))))), (0, (0, ([], ()))))), 5, ())
    ) (
    some ((u2.1.1, (u2.1.2.1, (u2.1.2.2.1, (u2.1.2.2.2.1, (u2.1.2.2.2.2.1, u2.1.2.2.2.2.2))))), 0, ())
    ) := (hideF_eq _).trans (by kernel_rfl)
theorem phi (n : Nat) : ∀ e ∈ (X n).c.Φ, EntryOk Tryz.prog e := allE_cons (mkEntry_ok (F_script_read.ok n)) (allE_cons (mkEntry_ok (F_strings_Split.ok)) (allE_nil))
theorem ok (n : Nat) : FnOk Tryz.prog 11 ia io (fRun (X n) n T Tryz.f11 ia io) := tree_ok mixed tabIs (phi n) Tryz.func11 (by kernel_rfl) rfl
noncomputable def en (n : Nat) : Entry := mkEntry 11 ia io (fRun (X n) n T Tryz.f11 ia io)
end F_script_Act
end Go.Proofs.YtdlkpmohjhjmfaaGreatDoor

namespace Go.Proofs.YtdlkpmohjhjmfaaGreatDoor
open Go Go.Va Go.Proofs
namespace F_script_Acts
abbrev ia : List Ai := [.dat .str]
abbrev io : List (Nat × Oi) := [(2, .val (.r 0 T_api_Act)), (3, .dat (.int .i64)), (4, .dat (.int .i64))]
abbrev R : Type := DOut ia io
noncomputable def X (n : Nat) : Ctx := ⟨⟨tab, [F_script_Act.en n, F_strings_Cut.en], 0, []⟩, 43, bnOf 0 ia⟩
abbrev g1 : List Si := [.dat 0 .str, .val 5 (.r 200500 T_api_Act), .dat 6 (.int .i64)]
abbrev g2 : List Si := [.val 5 (.r 200500 T_api_Act)]
noncomputable def T : CT := (.s .o (.s .o (.s .o (.s (.s .o (.b (.l g1 .o))) (.r g2 .o)))))
noncomputable def J1 (n : Nat) (m : Nat) : ByteArray × (List (D_api_Act)) × Int × Unit → Option R := jL (X n) n T (bodyOf Tryz.f13) (endK ia io) g1 [1, 1, 1, 0, 1, 0] [] m
noncomputable def J2 (n : Nat) : (List (D_api_Act)) × Unit → Option R := jR (X n) n T (bodyOf Tryz.f13) (endK ia io) g2 [1, 1, 1, 1] []
noncomputable def f (n : Nat) (s_ : ByteArray) : Option R := fRun (X n) n T Tryz.f13 ia io (s_, ())
theorem e0 (n : Nat) (s_ : ByteArray) : f n s_ =
  bIf ((hide (decide ((s_.size : Int) > (65536 : Int))))) (
    some ([], 0, 9, ())
    ) (
    J1 n n (s_, [], 1, ())
    ) := (hideF_eq _).trans (by kernel_rfl)
theorem e1 (n m : Nat) (s_ : ByteArray) (out : List (D_api_Act)) (n_ : Int) : J1 n (m + 1) (s_, out, n_, ()) =
  bIf ((hide (!eqS s_ (⟨#[]⟩ : ByteArray)))) (
    bnd (F_strings_Cut.f s_ (⟨#[10]⟩ : ByteArray)) fun u1 =>
    bnd (F_script_Act.f n u1.1) fun u2 =>
    bIf ((hide (u2.2.1 != (0 : Int)))) (
      some ([], n_, u2.2.1, ())
      ) (
      gIf ((out.length + 1) * 384 ≤ 70368744177664) (
        J1 n m (u1.2.1, (out ++ ([(u2.1.1, (u2.1.2.1, (u2.1.2.2.1, (u2.1.2.2.2.1, (u2.1.2.2.2.2.1, u2.1.2.2.2.2.2)))))] : List (D_api_Act))), (IntKind.i64.wrap (n_ + (1 : Int))), ())
        )
      )
    ) (
    J2 n (out, ())
    ) := (hideF_eq _).trans (by kernel_rfl)
theorem e2 (n : Nat) (out : List (D_api_Act)) : J2 n (out, ()) =
  bIf ((hide (decide (((out.length : Nat) : Int) > (4096 : Int))))) (
    some ([], 0, 9, ())
    ) (
    some (out, 0, 0, ())
    ) := (hideF_eq _).trans (by kernel_rfl)
theorem phi (n : Nat) : ∀ e ∈ (X n).c.Φ, EntryOk Tryz.prog e := allE_cons (mkEntry_ok (F_script_Act.ok n)) (allE_cons (mkEntry_ok (F_strings_Cut.ok)) (allE_nil))
theorem ok (n : Nat) : FnOk Tryz.prog 13 ia io (fRun (X n) n T Tryz.f13 ia io) := tree_ok mixed tabIs (phi n) Tryz.func13 (by kernel_rfl) rfl
noncomputable def en (n : Nat) : Entry := mkEntry 13 ia io (fRun (X n) n T Tryz.f13 ia io)
end F_script_Acts
end Go.Proofs.YtdlkpmohjhjmfaaGreatDoor

namespace Go.Proofs.YtdlkpmohjhjmfaaGreatDoor
open Go Go.Va Go.Proofs
namespace F_alpha_Hex
abbrev ia : List Ai := [.dat (.slice (.int .u8))]
abbrev io : List (Nat × Oi) := [(2, .dat .str)]
abbrev R : Type := DOut ia io
noncomputable def X (n : Nat) : Ctx := ⟨⟨tab, [], 0, []⟩, 28, bnOf 0 ia⟩
abbrev g1 : List Si := [.val 3 (.r 200300 (.int .u8)), .dat 10 (.slice (.int .u8)), .dat 11 (.int .i64), .dat 12 (.int .i64)]
abbrev g2 : List Si := [.val 3 (.r 200300 (.int .u8))]
noncomputable def T : CT := (.s .o (.s .o (.s (.s .o (.b (.l g1 .o))) (.r g2 .o))))
noncomputable def J1 (n : Nat) (m : Nat) : (List (Int)) × (List (Int)) × Int × Int × Unit → Option R := jL (X n) n T (bodyOf Tryz.f29) (endK ia io) g1 [1, 1, 0, 1, 0] [] m
noncomputable def J2 (n : Nat) : (List (Int)) × Unit → Option R := jR (X n) n T (bodyOf Tryz.f29) (endK ia io) g2 [1, 1, 1] []
noncomputable def f (n : Nat) (b : List (Int)) : Option R := fRun (X n) n T Tryz.f29 ia io (b, ())
theorem e0 (n : Nat) (b : List (Int)) : f n b =
  gIf (0 ≤ (0 : Int) ∧ (0 : Int) ≤ (IntKind.i64.wrap ((2 : Int) * ((b.length : Nat) : Int))) ∧ (IntKind.i64.wrap ((2 : Int) * ((b.length : Nat) : Int))) * ((1 : Nat) : Int) ≤ 70368744177664 ∧ 1 ≤ 1 ∧ 1 ≤ Ty.sz (.int .u8)) (
    J1 n n ([], b, ((b.length : Nat) : Int), 0, ())
    ) := (hideF_eq _).trans (by kernel_rfl)
theorem e1 (n m : Nat) (out : List (Int)) (t10 : List (Int)) (t11 : Int) (t12 : Int) : J1 n (m + 1) (out, t10, t11, t12, ()) =
  bIf ((hide (decide (t12 < t11)))) (
    gIf (0 ≤ t12 ∧ t12 < ((t10.length : Nat) : Int)) (
      gNo ((4 : Int) < 0) (
        gIf (0 ≤ (shrI .u8 (List.getD t10 t12.toNat 0) 4) ∧ (shrI .u8 (List.getD t10 t12.toNat 0) 4) < ((⟨#[48, 49, 50, 51, 52, 53, 54, 55, 56, 57, 97, 98, 99, 100, 101, 102]⟩ : ByteArray).size : Int)) (
          gIf (0 ≤ (bitI .and .u8 (List.getD t10 t12.toNat 0) 15) ∧ (bitI .and .u8 (List.getD t10 t12.toNat 0) 15) < ((⟨#[48, 49, 50, 51, 52, 53, 54, 55, 56, 57, 97, 98, 99, 100, 101, 102]⟩ : ByteArray).size : Int)) (
            gIf ((out.length + 2) * 1 ≤ 70368744177664) (
              J1 n m ((out ++ ([(bt (⟨#[48, 49, 50, 51, 52, 53, 54, 55, 56, 57, 97, 98, 99, 100, 101, 102]⟩ : ByteArray) (shrI .u8 (List.getD t10 t12.toNat 0) 4)), (bt (⟨#[48, 49, 50, 51, 52, 53, 54, 55, 56, 57, 97, 98, 99, 100, 101, 102]⟩ : ByteArray) (bitI .and .u8 (List.getD t10 t12.toNat 0) 15))] : List (Int))), t10, t11, (IntKind.i64.wrap (t12 + (1 : Int))), ())
              )
            )
          )
        )
      )
    ) (
    J2 n (out, ())
    ) := (hideF_eq _).trans (by kernel_rfl)
theorem e2 (n : Nat) (out : List (Int)) : J2 n (out, ()) =
  some ((bytesOf out), ()) := (hideF_eq _).trans (by kernel_rfl)
theorem phi (n : Nat) : ∀ e ∈ (X n).c.Φ, EntryOk Tryz.prog e := allE_nil
theorem ok (n : Nat) : FnOk Tryz.prog 29 ia io (fRun (X n) n T Tryz.f29 ia io) := tree_ok mixed tabIs (phi n) Tryz.func29 (by kernel_rfl) rfl
noncomputable def en (n : Nat) : Entry := mkEntry 29 ia io (fRun (X n) n T Tryz.f29 ia io)
end F_alpha_Hex
end Go.Proofs.YtdlkpmohjhjmfaaGreatDoor

namespace Go.Proofs.YtdlkpmohjhjmfaaGreatDoor
open Go Go.Va Go.Proofs
namespace F_script_bare
abbrev ia : List Ai := [.dat T_api_Act]
abbrev io : List (Nat × Oi) := [(2, .dat .bool)]
abbrev R : Type := DOut ia io
noncomputable def X (n : Nat) : Ctx := ⟨⟨tab, [F_wire_Same.en n], 0, []⟩, 23, bnOf 0 ia⟩
noncomputable def T : CT := .o
noncomputable def f (n : Nat) (a : D_api_Act) : Option R := fRun (X n) n T Tryz.f43 ia io (a, ())
theorem e0 (n : Nat) (a : D_api_Act) : f n a =
  bnd (F_wire_Same.f n a.2.1 (0, ((⟨#[]⟩ : ByteArray), ((⟨#[]⟩ : ByteArray), ((⟨#[]⟩ : ByteArray), (0, ([], ([], ((0, (0, (false, ()))), (false, ((0, (0, ())), ([], ([], (0, ([], ((⟨#[]⟩ : ByteArray), ((⟨#[]⟩ : ByteArray), ((⟨#[]⟩ : ByteArray), (((⟨#[]⟩ : ByteArray), ((⟨#[]⟩ : ByteArray), (0, ()))), (0, ())))))))))))))))))))) fun u1 =>
  bIf (u1.1) (
    bIf ((hide (a.2.2.1 == (0 : Int)))) (
      bIf ((hide (a.2.2.2.1 == (0 : Int)))) (
        some ((hide (((a.2.2.2.2.1.length : Nat) : Int) == (0 : Int))), ())
        ) (
        some (false, ())
        )
      ) (
      some (false, ())
      )
    ) (
    some (false, ())
    ) := (hideF_eq _).trans (by kernel_rfl)
theorem phi (n : Nat) : ∀ e ∈ (X n).c.Φ, EntryOk Tryz.prog e := allE_cons (mkEntry_ok (F_wire_Same.ok n)) (allE_nil)
theorem ok (n : Nat) : FnOk Tryz.prog 43 ia io (fRun (X n) n T Tryz.f43 ia io) := tree_ok mixed tabIs (phi n) Tryz.func43 (by kernel_rfl) rfl
noncomputable def en (n : Nat) : Entry := mkEntry 43 ia io (fRun (X n) n T Tryz.f43 ia io)
end F_script_bare
end Go.Proofs.YtdlkpmohjhjmfaaGreatDoor

namespace Go.Proofs.YtdlkpmohjhjmfaaGreatDoor
open Go Go.Va Go.Proofs
namespace F_script_line
abbrev ia : List Ai := [.dat T_api_Act]
abbrev io : List (Nat × Oi) := [(2, .val (.r 0 .str)), (3, .dat .bool)]
abbrev R : Type := DOut ia io
noncomputable def X (n : Nat) : Ctx := ⟨⟨tab, [F_alpha_Hex.en n, F_strconv_Itoa.en, F_wire_Ask.en n, F_script_bare.en n, F_strconv_FormatInt.en, F_script_word.en], 0, []⟩, 101, bnOf 0 ia⟩
abbrev g1 : List Si := [.ref 1 1 T_api_Act, .ref 4 4 T_api_Act, .val 7 (.r 200700 .str), .dat 65 (.slice (.int .i64)), .dat 66 (.int .i64), .dat 67 (.int .i64), .box 1 (.d T_api_Act), .box 4 (.p (.d (.int .i64)) (.p (.d T_api_Request) (.p (.d (.int .i64)) (.p (.d (.int .i64)) (.p (.r 100000000004000 (.int .i64)) (.d .unit))))))]
abbrev g2 : List Si := [.ref 1 1 T_api_Act, .ref 4 4 T_api_Act, .val 7 (.r 200700 .str), .box 1 (.d T_api_Act), .box 4 (.p (.d (.int .i64)) (.p (.d T_api_Request) (.p (.d (.int .i64)) (.p (.d (.int .i64)) (.p (.r 100000000004000 (.int .i64)) (.d .unit))))))]
abbrev g3 : List Si := [.ref 1 1 T_api_Act, .box 1 (.d T_api_Act)]
noncomputable def T : CT := (.s .o (.s .o (.s (.s .o (.b (.s .o (.c .o (.s .o (.c .o (.s .o (.c .o (.s .o (.c (.s .o (.s .o (.s (.s .o (.b (.l g1 .o))) (.r g2 .o)))) .o)))))))))) (.r g3 .o))))
noncomputable def J1 (n : Nat) (m : Nat) : (List (ByteArray)) × (List (Int)) × Int × Int × D_api_Act × D_api_Act × Unit → Option R := jL (X n) n T (bodyOf Tryz.f20) (endK ia io) g1 [1, 1, 0, 1, 0, 1, 1, 1, 1, 1, 1, 1, 0, 1, 1, 0, 1, 0] [] m
noncomputable def J2 (n : Nat) : (List (ByteArray)) × D_api_Act × D_api_Act × Unit → Option R := jR (X n) n T (bodyOf Tryz.f20) (endK ia io) g2 [1, 1, 0, 1, 0, 1, 1, 1, 1, 1, 1, 1, 0, 1, 1, 1] []
noncomputable def J3 (n : Nat) : D_api_Act × Unit → Option R := jR (X n) n T (bodyOf Tryz.f20) (endK ia io) g3 [1, 1, 1] []
noncomputable def f (n : Nat) (a : D_api_Act) : Option R := fRun (X n) n T Tryz.f20 ia io (a, ())
theorem e0 (n : Nat) (a : D_api_Act) : f n a =
  bIf ((hide (a.1 == (2 : Int)))) (
    bnd (F_wire_Ask.f n a.2.1) fun u1 =>
    bnd (F_alpha_Hex.f n u1.1) fun u2 =>
    gIf ((⟨#[120]⟩ : ByteArray).size + u2.1.size ≤ 4611686018427387904) (
      bIf ((hide (u1.2.1 == (0 : Int)))) (
        bnd (F_script_bare.f n (a.1, ((0, ((⟨#[]⟩ : ByteArray), ((⟨#[]⟩ : ByteArray), ((⟨#[]⟩ : ByteArray), (0, ([], ([], ((0, (0, (false, ()))), (false, ((0, (0, ())), ([], ([], (0, ([], ((⟨#[]⟩ : ByteArray), ((⟨#[]⟩ : ByteArray), ((⟨#[]⟩ : ByteArray), (((⟨#[]⟩ : ByteArray), ((⟨#[]⟩ : ByteArray), (0, ()))), (0, ()))))))))))))))))))), a.2.2))) fun u3 =>
        some (([(⟨#[97, 115, 107]⟩ : ByteArray), ((⟨#[120]⟩ : ByteArray) ++ u2.1)] : List (ByteArray)), u3.1, ())
        ) (
        some (([(⟨#[97, 115, 107]⟩ : ByteArray), ((⟨#[120]⟩ : ByteArray) ++ u2.1)] : List (ByteArray)), false, ())
        )
      )
    ) (
    bIf ((hide (a.1 == (3 : Int)))) (
      bnd (F_strconv_FormatInt.f a.2.2.1 10) fun u4 =>
      bnd (F_script_bare.f n (a.1, (a.2.1, (0, a.2.2.2)))) fun u5 =>
      some (([(⟨#[99, 108, 111, 99, 107]⟩ : ByteArray), u4.1] : List (ByteArray)), u5.1, ())
      ) (
      bIf ((hide (a.1 == (7 : Int)))) (
        bnd (F_strconv_Itoa.f a.2.2.2.1) fun u6 =>
        bnd (F_script_bare.f n (a.1, (a.2.1, (a.2.2.1, (0, a.2.2.2.2))))) fun u7 =>
        some (([(⟨#[102, 97, 105, 108]⟩ : ByteArray), u6.1] : List (ByteArray)), u7.1, ())
        ) (
        bIf ((hide (a.1 == (8 : Int)))) (
          bnd (F_strconv_Itoa.f a.2.2.2.1) fun u8 =>
          bnd (F_strconv_FormatInt.f a.2.2.1 10) fun u9 =>
          J1 n n (([(⟨#[99, 114, 97, 115, 104]⟩ : ByteArray), u8.1, u9.1] : List (ByteArray)), a.2.2.2.2.1, ((a.2.2.2.2.1.length : Nat) : Int), 0, a, (a.1, (a.2.1, (0, (0, ([], a.2.2.2.2.2))))), ())
          ) (
          J3 n (a, ())
          )
        )
      )
    ) := (hideF_eq _).trans (by kernel_rfl)
theorem e1 (n m : Nat) (out : List (ByteArray)) (t65 : List (Int)) (t66 : Int) (t67 : Int) (a : D_api_Act) (rest_ : D_api_Act) : J1 n (m + 1) (out, t65, t66, t67, a, rest_, ()) =
  bIf ((hide (decide (t67 < t66)))) (
    gIf (0 ≤ t67 ∧ t67 < ((t65.length : Nat) : Int)) (
      bnd (F_strconv_Itoa.f (List.getD t65 t67.toNat 0)) fun u1 =>
      gIf ((out.length + 1) * 16 ≤ 70368744177664) (
        J1 n m ((out ++ ([u1.1] : List (ByteArray))), t65, t66, (IntKind.i64.wrap (t67 + (1 : Int))), a, (rest_.1, (rest_.2.1, (rest_.2.2.1, (rest_.2.2.2.1, (rest_.2.2.2.2.1, rest_.2.2.2.2.2))))), ())
        )
      )
    ) (
    J2 n (out, a, (rest_.1, (rest_.2.1, (rest_.2.2.1, (rest_.2.2.2.1, (rest_.2.2.2.2.1, rest_.2.2.2.2.2))))), ())
    ) := (hideF_eq _).trans (by kernel_rfl)
theorem e2 (n : Nat) (out : List (ByteArray)) (a : D_api_Act) (rest_ : D_api_Act) : J2 n (out, a, rest_, ()) =
  bnd (F_script_bare.f n (rest_.1, (rest_.2.1, (rest_.2.2.1, (rest_.2.2.2.1, (rest_.2.2.2.2.1, rest_.2.2.2.2.2)))))) fun u1 =>
  bIf (u1.1) (
    bIf ((hide (decide (a.2.2.1 ≥ (0 : Int))))) (
      some (out, (hide (decide (a.2.2.1 ≤ (255 : Int)))), ())
      ) (
      some (out, false, ())
      )
    ) (
    some (out, false, ())
    ) := (hideF_eq _).trans (by kernel_rfl)
theorem e3 (n : Nat) (a : D_api_Act) : J3 n (a, ()) =
  bnd (F_script_word.f a.1) fun u1 =>
  bIf ((hide (!eqS u1.1 (⟨#[]⟩ : ByteArray)))) (
    bnd (F_script_bare.f n a) fun u2 =>
    some (([u1.1] : List (ByteArray)), u2.1, ())
    ) (
    some (([u1.1] : List (ByteArray)), false, ())
    ) := (hideF_eq _).trans (by kernel_rfl)
theorem phi (n : Nat) : ∀ e ∈ (X n).c.Φ, EntryOk Tryz.prog e := allE_cons (mkEntry_ok (F_alpha_Hex.ok n)) (allE_cons (mkEntry_ok (F_strconv_Itoa.ok)) (allE_cons (mkEntry_ok (F_wire_Ask.ok n)) (allE_cons (mkEntry_ok (F_script_bare.ok n)) (allE_cons (mkEntry_ok (F_strconv_FormatInt.ok)) (allE_cons (mkEntry_ok (F_script_word.ok)) (allE_nil))))))
theorem ok (n : Nat) : FnOk Tryz.prog 20 ia io (fRun (X n) n T Tryz.f20 ia io) := tree_ok mixed tabIs (phi n) Tryz.func20 (by kernel_rfl) rfl
noncomputable def en (n : Nat) : Entry := mkEntry 20 ia io (fRun (X n) n T Tryz.f20 ia io)
end F_script_line
end Go.Proofs.YtdlkpmohjhjmfaaGreatDoor

namespace Go.Proofs.YtdlkpmohjhjmfaaGreatDoor
open Go Go.Va Go.Proofs
namespace F_script_Line
abbrev ia : List Ai := [.dat T_api_Act]
abbrev io : List (Nat × Oi) := [(2, .dat .str), (3, .dat (.int .i64))]
abbrev R : Type := DOut ia io
noncomputable def X (n : Nat) : Ctx := ⟨⟨tab, [F_script_line.en n, F_strings_Join.en], 0, []⟩, 15, bnOf 0 ia⟩
noncomputable def T : CT := .o
noncomputable def f (n : Nat) (a : D_api_Act) : Option R := fRun (X n) n T Tryz.f8 ia io (a, ())
theorem e0 (n : Nat) (a : D_api_Act) : f n a =
  bnd (F_script_line.f n a) fun u1 =>
  bIf ((!u1.2.1)) (
    some ((⟨#[]⟩ : ByteArray), 1, ())
    ) (
    bnd (F_strings_Join.f u1.1 (⟨#[32]⟩ : ByteArray)) fun u2 =>
    some (u2.1, 0, ())
    ) := (hideF_eq _).trans (by kernel_rfl)
theorem phi (n : Nat) : ∀ e ∈ (X n).c.Φ, EntryOk Tryz.prog e := allE_cons (mkEntry_ok (F_script_line.ok n)) (allE_cons (mkEntry_ok (F_strings_Join.ok)) (allE_nil))
theorem ok (n : Nat) : FnOk Tryz.prog 8 ia io (fRun (X n) n T Tryz.f8 ia io) := tree_ok mixed tabIs (phi n) Tryz.func8 (by kernel_rfl) rfl
noncomputable def en (n : Nat) : Entry := mkEntry 8 ia io (fRun (X n) n T Tryz.f8 ia io)
end F_script_Line
end Go.Proofs.YtdlkpmohjhjmfaaGreatDoor

namespace Go.Proofs.YtdlkpmohjhjmfaaGreatDoor
open Go Go.Va Go.Proofs
namespace F_script_Reply
abbrev ia : List Ai := [.dat T_api_Reply]
abbrev io : List (Nat × Oi) := [(2, .dat .str)]
abbrev R : Type := DOut ia io
noncomputable def X (n : Nat) : Ctx := ⟨⟨tab, [F_wire_Tell.en n, F_alpha_Hex.en n, F_strconv_Itoa.en], 0, []⟩, 24, bnOf 0 ia⟩
abbrev g1 : List Si := [.ref 1 1 T_api_Reply, .dat 3 (.slice (.int .u8)), .dat 16 .bool, .box 1 (.d T_api_Reply)]
abbrev g2 : List Si := [.ref 1 1 T_api_Reply, .box 1 (.d T_api_Reply)]
noncomputable def T : CT := (.s .o (.s .o (.s (.s .o (.r g1 .o)) (.r g2 .o))))
noncomputable def J1 (n : Nat) : (List (Int)) × Bool × D_api_Reply × Unit → Option R := jR (X n) n T (bodyOf Tryz.f14) (endK ia io) g1 [1, 1, 0, 1] []
noncomputable def J2 (n : Nat) : D_api_Reply × Unit → Option R := jR (X n) n T (bodyOf Tryz.f14) (endK ia io) g2 [1, 1, 1] []
noncomputable def f (n : Nat) (r : D_api_Reply) : Option R := fRun (X n) n T Tryz.f14 ia io (r, ())
theorem e0 (n : Nat) (r : D_api_Reply) : f n r =
  bnd (F_wire_Tell.f n r) fun u1 =>
  bIf ((hide (r.1 == (0 : Int)))) (
    J1 n (u1.1, (hide (u1.2.1 == (0 : Int))), r, ())
    ) (
    J1 n (u1.1, false, r, ())
    ) := (hideF_eq _).trans (by kernel_rfl)
theorem e1 (n : Nat) (b : List (Int)) (t16 : Bool) (r : D_api_Reply) : J1 n (b, t16, r, ()) =
  bIf (t16) (
    bnd (F_alpha_Hex.f n b) fun u1 =>
    gIf ((⟨#[111, 107, 32]⟩ : ByteArray).size + u1.1.size ≤ 4611686018427387904) (
      some (((⟨#[111, 107, 32]⟩ : ByteArray) ++ u1.1), ())
      )
    ) (
    J2 n (r, ())
    ) := (hideF_eq _).trans (by kernel_rfl)
theorem e2 (n : Nat) (r : D_api_Reply) : J2 n (r, ()) =
  bnd (F_strconv_Itoa.f r.1) fun u1 =>
  gIf ((⟨#[101, 114, 114, 111, 114, 32]⟩ : ByteArray).size + u1.1.size ≤ 4611686018427387904) (
    some (((⟨#[101, 114, 114, 111, 114, 32]⟩ : ByteArray) ++ u1.1), ())
    ) := (hideF_eq _).trans (by kernel_rfl)
theorem phi (n : Nat) : ∀ e ∈ (X n).c.Φ, EntryOk Tryz.prog e := allE_cons (mkEntry_ok (F_wire_Tell.ok n)) (allE_cons (mkEntry_ok (F_alpha_Hex.ok n)) (allE_cons (mkEntry_ok (F_strconv_Itoa.ok)) (allE_nil)))
theorem ok (n : Nat) : FnOk Tryz.prog 14 ia io (fRun (X n) n T Tryz.f14 ia io) := tree_ok mixed tabIs (phi n) Tryz.func14 (by kernel_rfl) rfl
noncomputable def en (n : Nat) : Entry := mkEntry 14 ia io (fRun (X n) n T Tryz.f14 ia io)
end F_script_Reply
end Go.Proofs.YtdlkpmohjhjmfaaGreatDoor

namespace Go.Proofs.YtdlkpmohjhjmfaaGreatDoor
open Go Go.Va Go.Proofs
namespace F_law30_awake
abbrev ia : List Ai := []
abbrev io : List (Nat × Oi) := [(0, .dat .bool)]
abbrev R : Type := DOut ia io
noncomputable def X (n : Nat) : Ctx := ⟨⟨tab, [F_script_Line.en n, F_script_Act.en n, F_script_Acts.en n, F_script_Reply.en n], 0, []⟩, 66, bnOf 0 ia⟩
noncomputable def T : CT := .o
noncomputable def f (n : Nat) : Option R := fRun (X n) n T Tryz.f10 ia io (())
theorem e0 (n : Nat) : f n =
  bnd (F_script_Act.f n (⟨#[99, 114, 97, 115, 104, 32, 49, 32, 53, 32, 50, 32, 48]⟩ : ByteArray)) fun u1 =>
  bnd (F_script_Line.f n (3, ((0, ((⟨#[]⟩ : ByteArray), ((⟨#[]⟩ : ByteArray), ((⟨#[]⟩ : ByteArray), (0, ([], ([], ((0, (0, (false, ()))), (false, ((0, (0, ())), ([], ([], (0, ([], ((⟨#[]⟩ : ByteArray), ((⟨#[]⟩ : ByteArray), ((⟨#[]⟩ : ByteArray), (((⟨#[]⟩ : ByteArray), ((⟨#[]⟩ : ByteArray), (0, ()))), (0, ()))))))))))))))))))), ((-5), (0, ([], ())))))) fun u2 =>
  bnd (F_script_Acts.f n (⟨#[111, 112, 101, 110, 10, 115, 119, 101, 101, 112]⟩ : ByteArray)) fun u3 =>
  bIf ((hide (u1.2.1 == (0 : Int)))) (
    bIf ((hide (u2.2.1 == (0 : Int)))) (
      bIf ((hide (u3.2.2.1 == (0 : Int)))) (
        bIf ((hide (u3.2.1 == (0 : Int)))) (
          bIf ((hide (u1.1.2.2.2.1 == (1 : Int)))) (
            bIf ((hide (u1.1.2.2.1 == (5 : Int)))) (
              bIf ((hide (((u1.1.2.2.2.2.1.length : Nat) : Int) == (2 : Int)))) (
                bIf ((hide (eqS u2.1 (⟨#[99, 108, 111, 99, 107, 32, 45, 53]⟩ : ByteArray)))) (
                  bIf ((hide (((u3.1.length : Nat) : Int) == (2 : Int)))) (
                    bnd (F_script_Reply.f n (7, (0, ([], ((0, (false, (0, (0, ((List.replicate 32 0), (0, ((0, (0, (false, ()))), ([], ())))))))), ([], (false, ([], ([], ()))))))))) fun u4 =>
                    some ((hide (eqS u4.1 (⟨#[101, 114, 114, 111, 114, 32, 55]⟩ : ByteArray))), ())
                    ) (
                    some (false, ())
                    )
                  ) (
                  some (false, ())
                  )
                ) (
                some (false, ())
                )
              ) (
              some (false, ())
              )
            ) (
            some (false, ())
            )
          ) (
          some (false, ())
          )
        ) (
        some (false, ())
        )
      ) (
      some (false, ())
      )
    ) (
    some (false, ())
    ) := (hideF_eq _).trans (by kernel_rfl)
theorem phi (n : Nat) : ∀ e ∈ (X n).c.Φ, EntryOk Tryz.prog e := allE_cons (mkEntry_ok (F_script_Line.ok n)) (allE_cons (mkEntry_ok (F_script_Act.ok n)) (allE_cons (mkEntry_ok (F_script_Acts.ok n)) (allE_cons (mkEntry_ok (F_script_Reply.ok n)) (allE_nil))))
theorem ok (n : Nat) : FnOk Tryz.prog 10 ia io (fRun (X n) n T Tryz.f10 ia io) := tree_ok mixed tabIs (phi n) Tryz.func10 (by kernel_rfl) rfl
noncomputable def en (n : Nat) : Entry := mkEntry 10 ia io (fRun (X n) n T Tryz.f10 ia io)
end F_law30_awake
end Go.Proofs.YtdlkpmohjhjmfaaGreatDoor

namespace Go.Proofs.YtdlkpmohjhjmfaaGreatDoor
open Go Go.Va Go.Proofs
namespace F_law30_digits
abbrev ia : List Ai := [.dat (.int .u64)]
abbrev io : List (Nat × Oi) := [(2, .dat .str)]
abbrev R : Type := DOut ia io
noncomputable def X (n : Nat) : Ctx := ⟨⟨tab, [], 0, []⟩, 23, bnOf 0 ia⟩
abbrev g1 : List Si := [.dat 0 (.int .u64), .dat 3 .str]
abbrev g2 : List Si := [.dat 3 .str]
noncomputable def T : CT := (.s .o (.s .o (.s (.b (.l g1 .o)) (.r g2 .o))))
noncomputable def J1 (n : Nat) (m : Nat) : Int × ByteArray × Unit → Option R := jL (X n) n T (bodyOf Tryz.f38) (endK ia io) g1 [1, 1, 0, 0] [] m
noncomputable def J2 (n : Nat) : ByteArray × Unit → Option R := jR (X n) n T (bodyOf Tryz.f38) (endK ia io) g2 [1, 1, 1] []
noncomputable def f (n : Nat) (n_ : Int) : Option R := fRun (X n) n T Tryz.f38 ia io (n_, ())
theorem e0 (n : Nat) (n_ : Int) : f n n_ =
  gNo ((10 : Int) = 0) (
    J1 n n (n_, (bytesOf ([(IntKind.u8.wrap (IntKind.u64.wrap ((48 : Int) + (Int.tmod n_ 10))))] : List (Int))), ())
    ) := (hideF_eq _).trans (by kernel_rfl)
theorem e1 (n m : Nat) (n_ : Int) (s_ : ByteArray) : J1 n (m + 1) (n_, s_, ()) =
  bIf ((hide (decide (n_ ≥ (10 : Int))))) (
    gNo ((10 : Int) = 0) (
      gNo ((10 : Int) = 0) (
        gIf ((bytesOf ([(IntKind.u8.wrap (IntKind.u64.wrap ((48 : Int) + (Int.tmod (IntKind.u64.wrap (Int.tdiv n_ 10)) 10))))] : List (Int))).size + s_.size ≤ 4611686018427387904) (
          J1 n m ((IntKind.u64.wrap (Int.tdiv n_ 10)), ((bytesOf ([(IntKind.u8.wrap (IntKind.u64.wrap ((48 : Int) + (Int.tmod (IntKind.u64.wrap (Int.tdiv n_ 10)) 10))))] : List (Int))) ++ s_), ())
          )
        )
      )
    ) (
    J2 n (s_, ())
    ) := (hideF_eq _).trans (by kernel_rfl)
theorem e2 (n : Nat) (s_ : ByteArray) : J2 n (s_, ()) =
  some (s_, ()) := (hideF_eq _).trans (by kernel_rfl)
theorem phi (n : Nat) : ∀ e ∈ (X n).c.Φ, EntryOk Tryz.prog e := allE_nil
theorem ok (n : Nat) : FnOk Tryz.prog 38 ia io (fRun (X n) n T Tryz.f38 ia io) := tree_ok mixed tabIs (phi n) Tryz.func38 (by kernel_rfl) rfl
noncomputable def en (n : Nat) : Entry := mkEntry 38 ia io (fRun (X n) n T Tryz.f38 ia io)
end F_law30_digits
end Go.Proofs.YtdlkpmohjhjmfaaGreatDoor

namespace Go.Proofs.YtdlkpmohjhjmfaaGreatDoor
open Go Go.Va Go.Proofs
namespace F_law30_number
abbrev ia : List Ai := [.dat (.int .i64)]
abbrev io : List (Nat × Oi) := [(2, .dat .str)]
abbrev R : Type := DOut ia io
noncomputable def X (n : Nat) : Ctx := ⟨⟨tab, [F_law30_digits.en n], 0, []⟩, 15, bnOf 0 ia⟩
noncomputable def T : CT := .o
noncomputable def f (n : Nat) (n_ : Int) : Option R := fRun (X n) n T Tryz.f17 ia io (n_, ())
theorem e0 (n : Nat) (n_ : Int) : f n n_ =
  bIf ((hide (decide (n_ ≥ (0 : Int))))) (
    bnd (F_law30_digits.f n (IntKind.u64.wrap n_)) fun u1 =>
    some (u1.1, ())
    ) (
    bnd (F_law30_digits.f n (IntKind.u64.wrap ((IntKind.u64.wrap (IntKind.i64.wrap (0 - (IntKind.i64.wrap (n_ + (1 : Int)))))) + (1 : Int)))) fun u2 =>
    gIf ((⟨#[45]⟩ : ByteArray).size + u2.1.size ≤ 4611686018427387904) (
      some (((⟨#[45]⟩ : ByteArray) ++ u2.1), ())
      )
    ) := (hideF_eq _).trans (by kernel_rfl)
theorem phi (n : Nat) : ∀ e ∈ (X n).c.Φ, EntryOk Tryz.prog e := allE_cons (mkEntry_ok (F_law30_digits.ok n)) (allE_nil)
theorem ok (n : Nat) : FnOk Tryz.prog 17 ia io (fRun (X n) n T Tryz.f17 ia io) := tree_ok mixed tabIs (phi n) Tryz.func17 (by kernel_rfl) rfl
noncomputable def en (n : Nat) : Entry := mkEntry 17 ia io (fRun (X n) n T Tryz.f17 ia io)
end F_law30_number
end Go.Proofs.YtdlkpmohjhjmfaaGreatDoor

namespace Go.Proofs.YtdlkpmohjhjmfaaGreatDoor
open Go Go.Va Go.Proofs
namespace F_ref01_Number
abbrev ia : List Ai := [.dat (.int .i64)]
abbrev io : List (Nat × Oi) := [(2, .dat .str)]
abbrev R : Type := DOut ia io
noncomputable def X (n : Nat) : Ctx := ⟨⟨tab, [], 0, []⟩, 23, bnOf 0 ia⟩
abbrev g1 : List Si := [.dat 0 (.int .i64), .dat 3 .str]
abbrev g2 : List Si := [.dat 3 .str]
noncomputable def T : CT := (.s .o (.s .o (.s (.b (.l g1 .o)) (.r g2 .o))))
noncomputable def J1 (n : Nat) (m : Nat) : Int × ByteArray × Unit → Option R := jL (X n) n T (bodyOf Tryz.f18) (endK ia io) g1 [1, 1, 0, 0] [] m
noncomputable def J2 (n : Nat) : ByteArray × Unit → Option R := jR (X n) n T (bodyOf Tryz.f18) (endK ia io) g2 [1, 1, 1] []
noncomputable def f (n : Nat) (n_ : Int) : Option R := fRun (X n) n T Tryz.f18 ia io (n_, ())
theorem e0 (n : Nat) (n_ : Int) : f n n_ =
  gNo ((10 : Int) = 0) (
    J1 n n (n_, (bytesOf ([(IntKind.u8.wrap (IntKind.i64.wrap ((48 : Int) + (Int.tmod n_ 10))))] : List (Int))), ())
    ) := (hideF_eq _).trans (by kernel_rfl)
theorem e1 (n m : Nat) (n_ : Int) (s_ : ByteArray) : J1 n (m + 1) (n_, s_, ()) =
  bIf ((hide (decide (n_ ≥ (10 : Int))))) (
    gNo ((10 : Int) = 0) (
      gNo ((10 : Int) = 0) (
        gIf ((bytesOf ([(IntKind.u8.wrap (IntKind.i64.wrap ((48 : Int) + (Int.tmod (IntKind.i64.wrap (Int.tdiv n_ 10)) 10))))] : List (Int))).size + s_.size ≤ 4611686018427387904) (
          J1 n m ((IntKind.i64.wrap (Int.tdiv n_ 10)), ((bytesOf ([(IntKind.u8.wrap (IntKind.i64.wrap ((48 : Int) + (Int.tmod (IntKind.i64.wrap (Int.tdiv n_ 10)) 10))))] : List (Int))) ++ s_), ())
          )
        )
      )
    ) (
    J2 n (s_, ())
    ) := (hideF_eq _).trans (by kernel_rfl)
theorem e2 (n : Nat) (s_ : ByteArray) : J2 n (s_, ()) =
  some (s_, ()) := (hideF_eq _).trans (by kernel_rfl)
theorem phi (n : Nat) : ∀ e ∈ (X n).c.Φ, EntryOk Tryz.prog e := allE_nil
theorem ok (n : Nat) : FnOk Tryz.prog 18 ia io (fRun (X n) n T Tryz.f18 ia io) := tree_ok mixed tabIs (phi n) Tryz.func18 (by kernel_rfl) rfl
noncomputable def en (n : Nat) : Entry := mkEntry 18 ia io (fRun (X n) n T Tryz.f18 ia io)
end F_ref01_Number
end Go.Proofs.YtdlkpmohjhjmfaaGreatDoor

namespace Go.Proofs.YtdlkpmohjhjmfaaGreatDoor
open Go Go.Va Go.Proofs
namespace F_ref04_Hex
abbrev ia : List Ai := [.dat (.slice (.int .u8))]
abbrev io : List (Nat × Oi) := [(2, .dat .str)]
abbrev R : Type := DOut ia io
noncomputable def X (n : Nat) : Ctx := ⟨⟨tab, [], 0, []⟩, 42, bnOf 0 ia⟩
abbrev g1 : List Si := [.dat 0 (.slice (.int .u8)), .dat 3 .str, .dat 4 .str, .dat 5 (.int .i64)]
abbrev g2 : List Si := [.dat 4 .str]
noncomputable def T : CT := (.s .o (.s .o (.s .o (.s (.s .o (.b (.l g1 .o))) (.r g2 .o)))))
noncomputable def J1 (n : Nat) (m : Nat) : (List (Int)) × ByteArray × ByteArray × Int × Unit → Option R := jL (X n) n T (bodyOf Tryz.f16) (endK ia io) g1 [1, 1, 1, 0, 1, 0] [] m
noncomputable def J2 (n : Nat) : ByteArray × Unit → Option R := jR (X n) n T (bodyOf Tryz.f16) (endK ia io) g2 [1, 1, 1, 1] []
noncomputable def f (n : Nat) (b : List (Int)) : Option R := fRun (X n) n T Tryz.f16 ia io (b, ())
theorem e0 (n : Nat) (b : List (Int)) : f n b =
  J1 n n (b, (⟨#[48, 49, 50, 51, 52, 53, 54, 55, 56, 57, 97, 98, 99, 100, 101, 102]⟩ : ByteArray), (⟨#[]⟩ : ByteArray), 0, ()) := (hideF_eq _).trans (by kernel_rfl)
theorem e1 (n m : Nat) (b : List (Int)) (d : ByteArray) (out : ByteArray) (i : Int) : J1 n (m + 1) (b, d, out, i, ()) =
  bIf ((hide (decide (i < ((b.length : Nat) : Int))))) (
    gIf (0 ≤ i ∧ i < ((b.length : Nat) : Int)) (
      gNo ((16 : Int) = 0) (
        gIf (0 ≤ i ∧ i < ((b.length : Nat) : Int)) (
          gNo ((16 : Int) = 0) (
            gIf (0 ≤ (IntKind.u8.wrap ((IntKind.u8.wrap (Int.tdiv (List.getD b i.toNat 0) 16)) + (1 : Int))) ∧ (IntKind.u8.wrap ((IntKind.u8.wrap (Int.tdiv (List.getD b i.toNat 0) 16)) + (1 : Int))) ≤ (d.size : Int)) (
              gIf (0 ≤ (IntKind.u8.wrap (Int.tdiv (List.getD b i.toNat 0) 16)) ∧ (IntKind.u8.wrap (Int.tdiv (List.getD b i.toNat 0) 16)) ≤ (IntKind.u8.wrap ((IntKind.u8.wrap (Int.tdiv (List.getD b i.toNat 0) 16)) + (1 : Int)))) (
                gIf (0 ≤ i ∧ i < ((b.length : Nat) : Int)) (
                  gNo ((16 : Int) = 0) (
                    gIf (0 ≤ i ∧ i < ((b.length : Nat) : Int)) (
                      gNo ((16 : Int) = 0) (
                        gIf (0 ≤ (IntKind.u8.wrap ((Int.tmod (List.getD b i.toNat 0) 16) + (1 : Int))) ∧ (IntKind.u8.wrap ((Int.tmod (List.getD b i.toNat 0) 16) + (1 : Int))) ≤ (d.size : Int)) (
                          gIf (0 ≤ (Int.tmod (List.getD b i.toNat 0) 16) ∧ (Int.tmod (List.getD b i.toNat 0) 16) ≤ (IntKind.u8.wrap ((Int.tmod (List.getD b i.toNat 0) 16) + (1 : Int)))) (
                            gIf ((d.extract ((IntKind.u8.wrap (Int.tdiv (List.getD b i.toNat 0) 16)).toNat) ((IntKind.u8.wrap ((IntKind.u8.wrap (Int.tdiv (List.getD b i.toNat 0) 16)) + (1 : Int))).toNat)).size + (d.extract ((Int.tmod (List.getD b i.toNat 0) 16).toNat) ((IntKind.u8.wrap ((Int.tmod (List.getD b i.toNat 0) 16) + (1 : Int))).toNat)).size ≤ 4611686018427387904) (
                              gIf (out.size + ((d.extract ((IntKind.u8.wrap (Int.tdiv (List.getD b i.toNat 0) 16)).toNat) ((IntKind.u8.wrap ((IntKind.u8.wrap (Int.tdiv (List.getD b i.toNat 0) 16)) + (1 : Int))).toNat)) ++ (d.extract ((Int.tmod (List.getD b i.toNat 0) 16).toNat) ((IntKind.u8.wrap ((Int.tmod (List.getD b i.toNat 0) 16) + (1 : Int))).toNat))).size ≤ 4611686018427387904) (
                                J1 n m (b, d, (out ++ ((d.extract ((IntKind.u8.wrap (Int.tdiv (List.getD b i.toNat 0) 16)).toNat) ((IntKind.u8.wrap ((IntKind.u8.wrap (Int.tdiv (List.getD b i.toNat 0) 16)) + (1 : Int))).toNat)) ++ (d.extract ((Int.tmod (List.getD b i.toNat 0) 16).toNat) ((IntKind.u8.wrap ((Int.tmod (List.getD b i.toNat 0) 16) + (1 : Int))).toNat)))), (IntKind.i64.wrap (i + (1 : Int))), ())
                                )
                              )
                            )
                          )
                        )
                      )
                    )
                  )
                )
              )
            )
          )
        )
      )
    ) (
    J2 n (out, ())
    ) := (hideF_eq _).trans (by kernel_rfl)
theorem e2 (n : Nat) (out : ByteArray) : J2 n (out, ()) =
  some (out, ()) := (hideF_eq _).trans (by kernel_rfl)
theorem phi (n : Nat) : ∀ e ∈ (X n).c.Φ, EntryOk Tryz.prog e := allE_nil
theorem ok (n : Nat) : FnOk Tryz.prog 16 ia io (fRun (X n) n T Tryz.f16 ia io) := tree_ok mixed tabIs (phi n) Tryz.func16 (by kernel_rfl) rfl
noncomputable def en (n : Nat) : Entry := mkEntry 16 ia io (fRun (X n) n T Tryz.f16 ia io)
end F_ref04_Hex
end Go.Proofs.YtdlkpmohjhjmfaaGreatDoor

namespace Go.Proofs.YtdlkpmohjhjmfaaGreatDoor
open Go Go.Va Go.Proofs
namespace F_law30_ScriptReplies
abbrev ia : List Ai := [.dat T_api_Reply]
abbrev io : List (Nat × Oi) := [(2, .dat .bool)]
abbrev R : Type := DOut ia io
noncomputable def X (n : Nat) : Ctx := ⟨⟨tab, [F_law30_awake.en n, F_script_Reply.en n, F_ref26_Tell.en n, F_ref04_Hex.en n, F_law30_number.en n, F_ref01_Number.en n], 0, []⟩, 42, bnOf 0 ia⟩
abbrev g1 : List Si := [.ref 1 1 T_api_Reply, .dat 3 .str, .dat 4 .str, .dat 19 .bool, .box 1 (.d T_api_Reply)]
abbrev g2 : List Si := [.ref 1 1 T_api_Reply, .dat 3 .str, .box 1 (.d T_api_Reply)]
noncomputable def T : CT := (.s .o (.s .o (.s .o (.s (.s .o (.r g1 .o)) (.r g2 .o)))))
noncomputable def J1 (n : Nat) : ByteArray × ByteArray × Bool × D_api_Reply × Unit → Option R := jR (X n) n T (bodyOf Tryz.f6) (endK ia io) g1 [1, 1, 1, 0, 1] []
noncomputable def J2 (n : Nat) : ByteArray × D_api_Reply × Unit → Option R := jR (X n) n T (bodyOf Tryz.f6) (endK ia io) g2 [1, 1, 1, 1] []
noncomputable def f (n : Nat) (r : D_api_Reply) : Option R := fRun (X n) n T Tryz.f6 ia io (r, ())
theorem e0 (n : Nat) (r : D_api_Reply) : f n r =
  bnd (F_script_Reply.f n r) fun u1 =>
  bnd (F_ref26_Tell.f n r) fun u2 =>
  bIf ((hide (r.1 == (0 : Int)))) (
    J1 n (u1.1, u2.1, (hide (u2.2.1 == (0 : Int))), r, ())
    ) (
    J1 n (u1.1, u2.1, false, r, ())
    ) := (hideF_eq _).trans (by kernel_rfl)
theorem e1 (n : Nat) (s_ : ByteArray) (t : ByteArray) (t19 : Bool) (r : D_api_Reply) : J1 n (s_, t, t19, r, ()) =
  bIf (t19) (
    bnd (F_law30_awake.f n) fun u1 =>
    bIf (u1.1) (
      bnd (F_ref04_Hex.f n (ofBytes t)) fun u2 =>
      gIf ((⟨#[111, 107, 32]⟩ : ByteArray).size + u2.1.size ≤ 4611686018427387904) (
        some ((hide (eqS s_ ((⟨#[111, 107, 32]⟩ : ByteArray) ++ u2.1))), ())
        )
      ) (
      some (false, ())
      )
    ) (
    J2 n (s_, r, ())
    ) := (hideF_eq _).trans (by kernel_rfl)
theorem e2 (n : Nat) (s_ : ByteArray) (r : D_api_Reply) : J2 n (s_, r, ()) =
  bnd (F_law30_awake.f n) fun u1 =>
  bIf (u1.1) (
    bnd (F_law30_number.f n r.1) fun u2 =>
    gIf ((⟨#[101, 114, 114, 111, 114, 32]⟩ : ByteArray).size + u2.1.size ≤ 4611686018427387904) (
      bIf ((hide (eqS s_ ((⟨#[101, 114, 114, 111, 114, 32]⟩ : ByteArray) ++ u2.1)))) (
        bnd (F_ref01_Number.f n 7) fun u3 =>
        some ((hide (eqS u3.1 (⟨#[55]⟩ : ByteArray))), ())
        ) (
        some (false, ())
        )
      )
    ) (
    some (false, ())
    ) := (hideF_eq _).trans (by kernel_rfl)
theorem phi (n : Nat) : ∀ e ∈ (X n).c.Φ, EntryOk Tryz.prog e := allE_cons (mkEntry_ok (F_law30_awake.ok n)) (allE_cons (mkEntry_ok (F_script_Reply.ok n)) (allE_cons (mkEntry_ok (F_ref26_Tell.ok n)) (allE_cons (mkEntry_ok (F_ref04_Hex.ok n)) (allE_cons (mkEntry_ok (F_law30_number.ok n)) (allE_cons (mkEntry_ok (F_ref01_Number.ok n)) (allE_nil))))))
theorem ok (n : Nat) : FnOk Tryz.prog 6 ia io (fRun (X n) n T Tryz.f6 ia io) := tree_ok mixed tabIs (phi n) Tryz.func6 (by kernel_rfl) rfl
noncomputable def en (n : Nat) : Entry := mkEntry 6 ia io (fRun (X n) n T Tryz.f6 ia io)
end F_law30_ScriptReplies
end Go.Proofs.YtdlkpmohjhjmfaaGreatDoor

