/-
  The plain laws.
-/
import Derived.Test.YtcpkhpboemfglaaGreatDoorP0
import Derived.Test.YtcpkhpboemfglaaGreatDoorF1
import Derived.Test.YtcpkhpboemfglaaGreatDoorF0
import Derived.Test.YtcpkhpboemfglaaGreatDoorRows
import Derived.Test.YtcpkhpboemfglaaGreatDoorCards
import Derived.Test.YtcpkhpboemfglaaGreatDoorTie
import Derived.JoinedCond
import Derived.ChangeCalls
import Derived.Lib.LaidIn
import Derived.Lib.LaidU8T
import Derived.Deep.DeepHandedRow
import Derived.ProofKit
import Derived.HandedShaped
import Derived.Shelf.Vars
set_option linter.unusedVariables false
set_option linter.unusedSimpArgs false
namespace Go.Proofs.YtcpkhpboemfglaaGreatDoor
open Go Go.Va Go.Proofs

theorem bytesOf_size (l : List Int) : (bytesOf l).size = l.length := by
  rw [size_eq]; unfold bytesOf; simp
theorem eW_len (x : Int) : (eW x).length ≤ 10 := eN_len _
theorem eI_len (x : Int) : (eI x).length ≤ 10 := eN_len _
theorem eF_len (b : Bool) : (eF b).length = 1 := rfl
theorem eT_len (s : ByteArray) : (eT s).length ≤ s.size + 10 := by
  unfold eT; rw [List.length_append, ← size_of]; have := eW_len (s.size : Int); omega
theorem pNum {n : Nat} (hn : 300 ≤ n) {x : Int} (hx : U64 x) : F_ref10_Num.f n x = some (bytesOf (eN x), ()) := ref10_Num hn hx
theorem pW {n : Nat} (hn : 300 ≤ n) (x : Int) : F_ref14_num.f n x = some (bytesOf (eW x), ()) := by
  rw [F_ref14_num.e0, ref10_Num hn (wrap_U64 _), bnd_some]; rfl
theorem pInt {n : Nat} (hn : 300 ≤ n) {t : Int} (h : I64 t) : F_ref10_Int.f n t = some (bytesOf (eI t), ()) := by
  rw [F_ref10_Int.e0, ref01_Zig n h, bnd_some, ref10_Num hn (zig_U64 h), bnd_some]; rfl
theorem pFlag {n : Nat} (b : Bool) : F_ref10_Flag.f n b = some (bytesOf (eF b), ()) := by
  rw [F_ref10_Flag.e0]; cases b <;> rfl
theorem pText {n : Nat} (hn : 300 ≤ n) {s : ByteArray} (h : (eT s).length ≤ 70368744177664) : F_ref10_Text.f n s = some (bytesOf (eT s), ()) := by
  rw [F_ref10_Text.e0, ref10_Num hn (wrap_U64 _), bnd_some]
  unfold eT at h ⊢
  rw [List.length_append, ← size_of] at h
  rw [bytesOf_append, bytesOf_ofBytes]
  dsimp only
  rw [bytesOf_size, gIf_pos (by unfold eW at h; omega)]; rfl
theorem pDig {n : Nat} (hn : 300 ≤ n) {d : List Int} (hd : d.length = 32) : F_ref10_Digest.f n d = some (bytesOf d, ()) := by
  rw [F_ref10_Digest.e0]
  have := app_loop (l := d) (0 : Int) (fun x => [x]) 70368744177664 (fun m k L => F_ref10_Digest.J1 n m (bytesOf L, k, d, ())) (fun L => some (bytesOf L, ()))
    (fun m k L hk hL => by
      try dsimp only
      rw [F_ref10_Digest.e1, hide_eq, decide_eq_true (by omega), bIf_true, gIf_pos ⟨by omega, by omega⟩, Int.toNat_natCast, cast_up k (by omega), gIf_pos (by rw [bytesOf_size, bytesOf_size]; simp at hL ⊢; omega), ← bytesOf_append])
    (fun m L hL => by
      try dsimp only
      rw [F_ref10_Digest.e1, hide_eq, decide_eq_false (by omega), bIf_false, F_ref10_Digest.e2]) n 0 [] (by omega) (by omega) (by simp; omega)
  try dsimp only at this
  rw [show ((0 : Nat) : Int) = 0 from rfl, show bytesOf [] = ⟨#[]⟩ from rfl] at this
  rw [this, List.drop_zero, List.nil_append]
  congr 2; simp
theorem pTags {n : Nat} (hn : 300 ≤ n) {l : List D_api_Tag} (hl : TsB n l) (hn2 : n ≤ 536870912) (h : (eTags l).length ≤ 70368744177664) : F_ref14_PutTags.f n l = some (bytesOf (eTags l), ()) := by
  have hlen := hl.1
  rw [F_ref14_PutTags.e0]
  unfold eTags at h ⊢
  simp only [List.length_append] at h
  rw [pW hn, bnd_some]
  try dsimp only
  have := app_loop (l := l) (Va.dflt T_api_Tag) eTag 70368744177664 (fun m k L => F_ref14_PutTags.J1 n m (l, bytesOf L, k, ())) (fun L => some (bytesOf L, ()))
    (fun m k L hk hL => by
      have hr := hl.2 _ (getD_memA (d := Va.dflt T_api_Tag) hk)
      have hg : (0 ≤ (k : Int) ∧ (k : Int) < ((l.length : Nat) : Int)) := ⟨by omega, by omega⟩
      unfold eTag at hL ⊢
      simp only [List.length_append] at hL
      try dsimp only
      rw [F_ref14_PutTags.e1, hide_eq, decide_eq_true (by omega), bIf_true]
      simp only [gIf_pos hg, Int.toNat_natCast, cast_up k (show k < 4611686018427387904 by omega)]
      rw [pText hn (by omega), bnd_some]
      try dsimp only
      rw [pText hn (by omega), bnd_some]
      try dsimp only
      rw [bytesOf_size, bytesOf_size, gIf_pos (by first | omega | (simp only [List.length_append]; omega) | (simp only [List.length_append, bytesOf_size]; omega)), ← bytesOf_append]
      rw [bytesOf_size, bytesOf_size, gIf_pos (by first | omega | (simp only [List.length_append]; omega) | (simp only [List.length_append, bytesOf_size]; omega)), ← bytesOf_append])
    (fun m L hL => by
      try dsimp only
      rw [F_ref14_PutTags.e1, hide_eq, decide_eq_false (by omega), bIf_false, F_ref14_PutTags.e2]) n 0 (eW ((l.length : Nat) : Int)) (by omega) (by omega) (by rw [List.drop_zero]; omega)
  try dsimp only at this
  rw [show ((0 : Nat) : Int) = 0 from rfl] at this
  rw [this, List.drop_zero]
theorem pRules {n : Nat} (hn : 300 ≤ n) {l : List D_api_Rule} (hl : RusB n l) (hn2 : n ≤ 536870912) (h : (eRules l).length ≤ 70368744177664) : F_ref14_PutRules.f n l = some (bytesOf (eRules l), ()) := by
  have hlen := hl.len
  rw [F_ref14_PutRules.e0]
  unfold eRules at h ⊢
  simp only [List.length_append] at h
  rw [pW hn, bnd_some]
  try dsimp only
  have := app_loop (l := l) (Va.dflt T_api_Rule) eRule 70368744177664 (fun m k L => F_ref14_PutRules.J1 n m (l, bytesOf L, k, ())) (fun L => some (bytesOf L, ()))
    (fun m k L hk hL => by
      have hr := hl.all _ (getD_memA (d := Va.dflt T_api_Rule) hk)
      have hg : (0 ≤ (k : Int) ∧ (k : Int) < ((l.length : Nat) : Int)) := ⟨by omega, by omega⟩
      unfold eRule at hL ⊢
      simp only [List.length_append] at hL
      try dsimp only
      rw [F_ref14_PutRules.e1, hide_eq, decide_eq_true (by omega), bIf_true]
      simp only [gIf_pos hg, Int.toNat_natCast, cast_up k (show k < 4611686018427387904 by omega)]
      rw [pText hn (by omega), bnd_some]
      try dsimp only
      rw [pTags hn hr.tags hn2 (by omega), bnd_some]
      try dsimp only
      rw [bytesOf_size, bytesOf_size, gIf_pos (by first | omega | (simp only [List.length_append]; omega) | (simp only [List.length_append, bytesOf_size]; omega)), ← bytesOf_append]
      rw [pW hn, bnd_some]
      try dsimp only
      rw [bytesOf_size, bytesOf_size, gIf_pos (by first | omega | (simp only [List.length_append]; omega) | (simp only [List.length_append, bytesOf_size]; omega)), ← bytesOf_append]
      rw [pW hn, bnd_some]
      try dsimp only
      rw [bytesOf_size, bytesOf_size, gIf_pos (by first | omega | (simp only [List.length_append]; omega) | (simp only [List.length_append, bytesOf_size]; omega)), ← bytesOf_append]
      rw [pFlag, bnd_some]
      try dsimp only
      rw [bytesOf_size, bytesOf_size, gIf_pos (by first | omega | (simp only [List.length_append]; omega) | (simp only [List.length_append, bytesOf_size]; omega)), ← bytesOf_append]
      rw [bytesOf_size, bytesOf_size, gIf_pos (by first | omega | (simp only [List.length_append]; omega) | (simp only [List.length_append, bytesOf_size]; omega)), ← bytesOf_append]
      simp only [List.append_assoc])
    (fun m L hL => by
      try dsimp only
      rw [F_ref14_PutRules.e1, hide_eq, decide_eq_false (by omega), bIf_false, F_ref14_PutRules.e2]) n 0 (eW ((l.length : Nat) : Int)) (by omega) (by omega) (by rw [List.drop_zero]; omega)
  try dsimp only at this
  rw [show ((0 : Nat) : Int) = 0 from rfl] at this
  rw [this, List.drop_zero]
theorem pGrants {n : Nat} (hn : 300 ≤ n) {l : List D_api_Grant} (hl : GrsB n l) (hn2 : n ≤ 536870912) (h : (eGrants l).length ≤ 70368744177664) : F_ref14_PutGrants.f n l = some (bytesOf (eGrants l), ()) := by
  have hlen := hl.len
  rw [F_ref14_PutGrants.e0]
  unfold eGrants at h ⊢
  simp only [List.length_append] at h
  rw [pW hn, bnd_some]
  try dsimp only
  have := app_loop (l := l) (Va.dflt T_api_Grant) eGrant 70368744177664 (fun m k L => F_ref14_PutGrants.J1 n m (l, bytesOf L, k, ())) (fun L => some (bytesOf L, ()))
    (fun m k L hk hL => by
      have hr := hl.all _ (getD_memA (d := Va.dflt T_api_Grant) hk)
      have hg : (0 ≤ (k : Int) ∧ (k : Int) < ((l.length : Nat) : Int)) := ⟨by omega, by omega⟩
      unfold eGrant at hL ⊢
      simp only [List.length_append] at hL
      try dsimp only
      rw [F_ref14_PutGrants.e1, hide_eq, decide_eq_true (by omega), bIf_true]
      simp only [gIf_pos hg, Int.toNat_natCast, cast_up k (show k < 4611686018427387904 by omega)]
      rw [pFlag, bnd_some]
      try dsimp only
      rw [pText hn (by omega), bnd_some]
      try dsimp only
      rw [bytesOf_size, bytesOf_size, gIf_pos (by first | omega | (simp only [List.length_append]; omega) | (simp only [List.length_append, bytesOf_size]; omega)), ← bytesOf_append]
      rw [pText hn (by omega), bnd_some]
      try dsimp only
      rw [bytesOf_size, bytesOf_size, gIf_pos (by first | omega | (simp only [List.length_append]; omega) | (simp only [List.length_append, bytesOf_size]; omega)), ← bytesOf_append]
      rw [pText hn (by omega), bnd_some]
      try dsimp only
      rw [bytesOf_size, bytesOf_size, gIf_pos (by first | omega | (simp only [List.length_append]; omega) | (simp only [List.length_append, bytesOf_size]; omega)), ← bytesOf_append]
      rw [bytesOf_size, bytesOf_size, gIf_pos (by first | omega | (simp only [List.length_append]; omega) | (simp only [List.length_append, bytesOf_size]; omega)), ← bytesOf_append]
      simp only [List.append_assoc])
    (fun m L hL => by
      try dsimp only
      rw [F_ref14_PutGrants.e1, hide_eq, decide_eq_false (by omega), bIf_false, F_ref14_PutGrants.e2]) n 0 (eW ((l.length : Nat) : Int)) (by omega) (by omega) (by rw [List.drop_zero]; omega)
  try dsimp only at this
  rw [show ((0 : Nat) : Int) = 0 from rfl] at this
  rw [this, List.drop_zero]
theorem pLock {n : Nat} (hn : 300 ≤ n) {l : D_api_Lock} (hl : I64 l.2.1) (h : (eLock l).length ≤ 70368744177664) : F_ref14_PutLock.f n l = some (bytesOf (eLock l), ()) := by
  rw [F_ref14_PutLock.e0]
  unfold eLock at h ⊢
  simp only [List.length_append] at h
  rw [pW hn, bnd_some]
  try dsimp only
  rw [pInt hn hl, bnd_some]
  try dsimp only
  rw [bytesOf_size, bytesOf_size, gIf_pos (by first | omega | (simp only [List.length_append]; omega) | (simp only [List.length_append, bytesOf_size]; omega)), ← bytesOf_append]
  rw [pFlag, bnd_some]
  try dsimp only
  rw [bytesOf_size, bytesOf_size, gIf_pos (by first | omega | (simp only [List.length_append]; omega) | (simp only [List.length_append, bytesOf_size]; omega)), ← bytesOf_append]
  try simp only [List.append_assoc]
theorem pDef {n : Nat} (hn : 300 ≤ n) {d : D_api_Default} (h : (eDef d).length ≤ 70368744177664) : F_ref14_PutDefault.f n d = some (bytesOf (eDef d), ()) := by
  rw [F_ref14_PutDefault.e0]
  unfold eDef at h ⊢
  simp only [List.length_append] at h
  rw [pW hn, bnd_some]
  try dsimp only
  rw [pW hn, bnd_some]
  try dsimp only
  rw [bytesOf_size, bytesOf_size, gIf_pos (by first | omega | (simp only [List.length_append]; omega) | (simp only [List.length_append, bytesOf_size]; omega)), ← bytesOf_append]
  try simp only [List.append_assoc]
theorem pPart {n : Nat} (hn : 300 ≤ n) {p : D_api_Part} (hp : U64 p.2.2.1) (hd : p.2.2.2.1.length = 32) (h : (ePart p).length ≤ 70368744177664) : F_ref14_PutPart.f n p = some (bytesOf (ePart p), ()) := by
  rw [F_ref14_PutPart.e0]
  unfold ePart at h ⊢
  simp only [List.length_append] at h
  rw [pW hn, bnd_some]
  try dsimp only
  rw [pW hn, bnd_some]
  try dsimp only
  rw [bytesOf_size, bytesOf_size, gIf_pos (by first | omega | (simp only [List.length_append]; omega) | (simp only [List.length_append, bytesOf_size]; omega)), ← bytesOf_append]
  rw [pNum hn hp, bnd_some]
  try dsimp only
  rw [bytesOf_size, bytesOf_size, gIf_pos (by first | omega | (simp only [List.length_append]; omega) | (simp only [List.length_append, bytesOf_size]; omega)), ← bytesOf_append]
  rw [pDig hn hd, bnd_some]
  try dsimp only
  rw [bytesOf_size, bytesOf_size, gIf_pos (by first | omega | (simp only [List.length_append]; omega) | (simp only [List.length_append, bytesOf_size]; omega)), ← bytesOf_append]
  try simp only [List.append_assoc]
theorem pVer {n : Nat} (hn : 300 ≤ n) {v : Ver} (h1 : U64 v.1) (h2 : I64 (made v)) (h3 : U64 (blob v)) (h5 : (dig v).length = 32) (h4 : I64 (lock v).2.1) (ht : TsB n (tags v)) (hn2 : n ≤ 536870912) (h : (eVer v).length ≤ 70368744177664) : F_ref14_PutVersion.f n v = some (bytesOf (eVer v), ()) := by
  rw [F_ref14_PutVersion.e0]
  unfold eVer at h ⊢
  simp only [List.length_append] at h
  rw [pNum hn h1, bnd_some, show v.2.1 = mark v from rfl, show v.2.2.2.2.2.1 = made v from rfl, show v.2.2.1 = vsize v from rfl, show v.2.2.2.1 = blob v from rfl, show v.2.2.2.2.1 = dig v from rfl, show v.2.2.2.2.2.2.1 = lock v from rfl, show v.2.2.2.2.2.2.2.1 = tags v from rfl]
  rw [pFlag, bnd_some]
  try dsimp only
  rw [bytesOf_size, bytesOf_size, gIf_pos (by first | omega | (simp only [List.length_append]; omega) | (simp only [List.length_append, bytesOf_size]; omega)), ← bytesOf_append]
  rw [pInt hn h2, bnd_some]
  try dsimp only
  rw [bytesOf_size, bytesOf_size, gIf_pos (by first | omega | (simp only [List.length_append]; omega) | (simp only [List.length_append, bytesOf_size]; omega)), ← bytesOf_append]
  cases hm : mark v
  · rw [hm] at h
    simp only [Bool.false_eq_true, if_false, List.length_append] at h ⊢
    rw [bIf_false]
    rw [pW hn, bnd_some]
    try dsimp only
    rw [bytesOf_size, bytesOf_size, gIf_pos (by first | omega | (simp only [List.length_append]; omega) | (simp only [List.length_append, bytesOf_size]; omega)), ← bytesOf_append]
    rw [pNum hn h3, bnd_some]
    try dsimp only
    rw [bytesOf_size, bytesOf_size, gIf_pos (by first | omega | (simp only [List.length_append]; omega) | (simp only [List.length_append, bytesOf_size]; omega)), ← bytesOf_append]
    rw [pDig hn h5, bnd_some]
    try dsimp only
    rw [bytesOf_size, bytesOf_size, gIf_pos (by first | omega | (simp only [List.length_append]; omega) | (simp only [List.length_append, bytesOf_size]; omega)), ← bytesOf_append]
    rw [pLock hn h4 (by omega), bnd_some]
    try dsimp only
    rw [bytesOf_size, bytesOf_size, gIf_pos (by first | omega | (simp only [List.length_append]; omega) | (simp only [List.length_append, bytesOf_size]; omega)), ← bytesOf_append]
    rw [pTags hn ht hn2 (by omega), bnd_some]
    try dsimp only
    rw [bytesOf_size, bytesOf_size, gIf_pos (by first | omega | (simp only [List.length_append]; omega) | (simp only [List.length_append, bytesOf_size]; omega)), ← bytesOf_append]
    simp only [List.append_assoc]
  · rw [bIf_true]
    simp only [if_true, List.append_nil, List.append_assoc]
end Go.Proofs.YtcpkhpboemfglaaGreatDoor

namespace Go.Proofs.YtcpkhpboemfglaaGreatDoor
open Go Go.Va Go.Proofs

theorem flat_len {α : Type} {f : α → List Int} {c : Nat} : ∀ {l : List α}, (∀ x ∈ l, (f x).length ≤ c) → (l.flatMap f).length ≤ l.length * c
  | [], _ => by simp
  | x :: l, h => by
    have h1 := h x (List.mem_cons_self ..)
    have h2 := flat_len (l := l) (fun y hy => h y (List.mem_cons_of_mem _ hy))
    rw [List.flatMap_cons, List.length_append, List.length_cons, Nat.succ_mul]; omega
theorem chk_all {α : Type} {p : α → Bool} {q : α → α → Bool} : ∀ {o : Option α} {l : List α}, chk p q o l = true → ∀ x ∈ l, p x = true
  | _, [], _ => by intro x hx; exact nomatch hx
  | o, y :: l, h => by
    intro x hx
    have h2 : p y = true ∧ ∃ o', chk p q o' l = true := by
      cases o with
      | none =>
        have h' : (p y && chk p q (some y) l) = true := h
        rw [Bool.and_eq_true] at h'
        exact ⟨h'.1, _, h'.2⟩
      | some a =>
        have h' : (p y && (q a y && chk p q (some y) l)) = true := h
        rw [Bool.and_eq_true, Bool.and_eq_true] at h'
        exact ⟨h'.1, _, h'.2.2⟩
    rcases List.mem_cons.1 hx with rfl | hx
    · exact h2.1
    · obtain ⟨o', h3⟩ := h2.2
      exact chk_all h3 x hx
theorem tagsB_len {l : List D_api_Tag} (h : tagsB l = true) : l.length ≤ 8 ∧ ∀ t ∈ l, tagB t = true := by
  unfold tagsB at h
  rw [Bool.and_eq_true, decide_eq_true_iff] at h
  exact ⟨h.1, chk_all h.2⟩
theorem tagB_len {t : D_api_Tag} (h : tagB t = true) : t.1.size ≤ 64 ∧ t.2.1.size ≤ 64 := by
  unfold tagB at h
  simp only [Bool.and_eq_true, decide_eq_true_iff] at h
  exact ⟨h.2.1, h.2.2.1⟩
theorem eTags_len {l : List D_api_Tag} (h : tagsB l = true) : (eTags l).length ≤ 1200 := by
  obtain ⟨h1, h2⟩ := tagsB_len h
  have h3 := flat_len (l := l) (f := eTag) (c := 148) (fun t ht => by
    obtain ⟨a, b⟩ := tagB_len (h2 t ht)
    have := eT_len t.1
    have := eT_len t.2.1
    unfold eTag; rw [List.length_append]; omega)
  have := eW_len ((l.length : Nat) : Int)
  unfold eTags; rw [List.length_append]; omega
theorem keyB_len {s : ByteArray} (h : keyB s = true) : s.size ≤ 200 := by
  unfold keyB at h
  simp only [Bool.and_eq_true, decide_eq_true_iff] at h; exact h.2.1
theorem globB_len {s : ByteArray} (h : globB s = true) : s.size ≤ 200 := by
  unfold globB at h
  simp only [Bool.and_eq_true, decide_eq_true_iff] at h; exact h.1
theorem bucketB_len {s : ByteArray} (h : bucketB s = true) : s.size ≤ 63 := by
  unfold bucketB at h
  simp only [Bool.and_eq_true, decide_eq_true_iff] at h; exact h.2.1
theorem eLock_len (l : D_api_Lock) : (eLock l).length ≤ 21 := by
  have := eW_len l.1
  have := eI_len l.2.1
  unfold eLock eF; simp only [List.length_append, List.length_singleton]; omega
theorem eVer_len {v : Ver} (h : verB v = true) (hd : (dig v).length = 32) : (eVer v).length ≤ 1400 := by
  have := eN_len v.1
  have := eI_len (made v)
  unfold eVer
  unfold verB at h
  cases hm : mark v
  · rw [hm] at h
    simp only [Bool.and_eq_true, Bool.false_eq_true, if_false] at h
    have := eTags_len h.2.2.2.2.2.2
    have := eW_len (vsize v)
    have := eN_len (blob v)
    have := eLock_len (lock v)
    unfold eF
    simp only [List.length_append, List.length_singleton, Bool.false_eq_true, if_false]; omega
  · unfold eF
    simp only [List.length_append, List.length_singleton, if_true, List.length_nil]; omega
theorem ruleB_len {r : D_api_Rule} (h : ruleB r = true) : (eRule r).length ≤ 1600 := by
  unfold ruleB at h
  simp only [Bool.and_eq_true, decide_eq_true_iff] at h
  have := eTags_len h.2.2.1
  have := eT_len r.1
  have := eW_len r.2.2.1
  have := eW_len r.2.2.2.1
  unfold eRule eF; simp only [List.length_append, List.length_singleton]; omega
theorem rulesB_len {l : List D_api_Rule} (h : rulesB l = true) : (eRules l).length ≤ 13000 := by
  unfold rulesB at h
  simp only [Bool.and_eq_true, decide_eq_true_iff, List.all_eq_true] at h
  have h3 := flat_len (l := l) (f := eRule) (c := 1600) (fun r hr => ruleB_len (h.2 r hr))
  have := eW_len ((l.length : Nat) : Int)
  unfold eRules; rw [List.length_append]; omega
theorem grantB_len {g : D_api_Grant} (h : grantB g = true) : (eGrant g).length ≤ 640 := by
  unfold grantB at h
  simp only [Bool.and_eq_true] at h
  have := globB_len h.1
  have := globB_len h.2.1
  have := globB_len h.2.2
  have := eT_len g.2.1
  have := eT_len g.2.2.1
  have := eT_len g.2.2.2.1
  unfold eGrant eF; simp only [List.length_append, List.length_singleton]; omega
theorem grantsB_len {l : List D_api_Grant} (h : grantsB l = true) : (eGrants l).length ≤ 13000 := by
  unfold grantsB at h
  simp only [Bool.and_eq_true, decide_eq_true_iff, List.all_eq_true] at h
  have h3 := flat_len (l := l) (f := eGrant) (c := 640) (fun r hr => grantB_len (h.2 r hr))
  have := eW_len ((l.length : Nat) : Int)
  unfold eGrants; rw [List.length_append]; omega

/-- What a sound change is, part by part. -/
structure Snd (e : E) : Prop where
  kind : 1 ≤ e.1 ∧ e.1 ≤ 13
  time : clampI e.2.1 = e.2.1
  buck : (if e.1 = 1 then eqS e.2.2.1 ⟨#[]⟩ else bucketB e.2.2.1) = true
  key : fld (hasB e.1) 107 (keyB e.2.2.2.1) (eqS e.2.2.2.1 ⟨#[]⟩) = true
  id : fld (hasB e.1) 105 (decide (e.2.2.2.2.1 ≥ 1)) (e.2.2.2.2.1 == 0) = true
  ver : fld (hasB e.1) 118 (verB e.2.2.2.2.2.1 && (e.2.2.2.2.2.1.2.2.2.2.2.1 == e.2.1)) (sameV e.2.2.2.2.2.1 verZ) = true
  lock : fld (hasB e.1) 108 (lockB e.2.2.2.2.2.2.1) (eqD T_api_Lock e.2.2.2.2.2.2.1 (0, (0, (false, ())))) = true
  tags : fld (hasB e.1) 116 (tagsB e.2.2.2.2.2.2.2.1) (((e.2.2.2.2.2.2.2.1.length : Nat) : Int) == 0) = true
  dflt : fld (hasB e.1) 100 (modeB e.2.2.2.2.2.2.2.2.1) (eqD T_api_Default e.2.2.2.2.2.2.2.2.1 (0, (0, ()))) = true
  rules : fld (hasB e.1) 114 (rulesB e.2.2.2.2.2.2.2.2.2.1) (((e.2.2.2.2.2.2.2.2.2.1.length : Nat) : Int) == 0) = true
  grants : fld (hasB e.1) 103 (grantsB e.2.2.2.2.2.2.2.2.2.2.1) (((e.2.2.2.2.2.2.2.2.2.2.1.length : Nat) : Int) == 0) = true
  part : fld (hasB e.1) 112 (partB e.2.2.2.2.2.2.2.2.2.2.2.1) (eqD T_api_Part e.2.2.2.2.2.2.2.2.2.2.2.1 partZ) = true
theorem hasB_other {k : Int} (h : ¬ (1 ≤ k ∧ k ≤ 13)) : hasB k = ⟨#[]⟩ := by
  unfold hasB
  rw [if_neg (by omega), if_neg (by omega), if_neg (by omega), if_neg (by omega), if_neg (by omega), if_neg (by omega), if_neg (by omega), if_neg (by omega), if_neg (by omega), if_neg (by omega)]
theorem snd_of {e : E} (h : soundE e = true) : Snd e := by
  unfold soundE at h
  simp only [Bool.and_eq_true, beq_iff_eq] at h
  obtain ⟨h1, h2, h3, h4, h5, h6, h7, h8, h9, h10, h11, h12⟩ := h
  refine ⟨?_, h2, h3, h4, h5, ?_, h7, ?_, h9, ?_, ?_, h12⟩
  · by_cases hk : 1 ≤ e.1 ∧ e.1 ≤ 13
    · exact hk
    · rw [hasB_other hk, eqS_self] at h1; exact nomatch h1
  all_goals assumption
theorem Snd.kinds {e : E} (h : Snd e) : e.1 = 1 ∨ e.1 = 2 ∨ e.1 = 3 ∨ e.1 = 4 ∨ e.1 = 5 ∨ e.1 = 6 ∨ e.1 = 7 ∨ e.1 = 8 ∨ e.1 = 9 ∨ e.1 = 10 ∨ e.1 = 11 ∨ e.1 = 12 ∨ e.1 = 13 := by
  have := h.kind; omega
theorem fld_yes {k : Int} {c : Nat} {g z : Bool} (h : fld (hasB k) c g z = true) (hi : inB (hasB k) c = true) : g = true := by
  unfold fld at h; rw [if_pos hi] at h; exact h
theorem fld_no {k : Int} {c : Nat} {g z : Bool} (h : fld (hasB k) c g z = true) (hi : inB (hasB k) c = false) : z = true := by
  unfold fld at h; rw [if_neg (by rw [hi]; decide)] at h; exact h
theorem eK_len {e : E} (h : Snd e) (hr : ER e) : (eK e).length ≤ 14000 := by
  rcases h.kinds with k | k | k | k | k | k | k | k | k | k | k | k | k
  · rw [eK_1 e k]
    simp
  · rw [eK_2 e k]
    simp
  · rw [eK_3 e k]
    simp
  · rw [eK_4 e k]
    have := eW_len e.2.2.2.2.2.2.2.2.1.1
    have := eW_len e.2.2.2.2.2.2.2.2.1.2.1
    unfold eDef
    try simp only [List.length_append]
    omega
  · rw [eK_5 e k]
    have := rulesB_len (fld_yes h.rules (by rw [k]; decide +kernel))
    try simp only [List.length_append]
    omega
  · rw [eK_6 e k]
    have := grantsB_len (fld_yes h.grants (by rw [k]; decide +kernel))
    try simp only [List.length_append]
    omega
  · rw [eK_7 e k]
    have := keyB_len (fld_yes h.key (by rw [k]; decide +kernel))
    have := eT_len e.2.2.2.1
    have := eVer_len (Bool.and_eq_true _ _ ▸ (fld_yes h.ver (by rw [k]; decide +kernel))).1 hr.vdig
    try simp only [List.length_append]
    omega
  · rw [eK_8 e k]
    have := keyB_len (fld_yes h.key (by rw [k]; decide +kernel))
    have := eT_len e.2.2.2.1
    have := eN_len e.2.2.2.2.1
    try simp only [List.length_append]
    omega
  · rw [eK_9 e k]
    have := keyB_len (fld_yes h.key (by rw [k]; decide +kernel))
    have := eT_len e.2.2.2.1
    have := eN_len e.2.2.2.2.1
    have := eLock_len e.2.2.2.2.2.2.1
    try simp only [List.length_append]
    omega
  · rw [eK_10 e k]
    have := keyB_len (fld_yes h.key (by rw [k]; decide +kernel))
    have := eT_len e.2.2.2.1
    have := eN_len e.2.2.2.2.1
    have := eTags_len (fld_yes h.tags (by rw [k]; decide +kernel))
    try simp only [List.length_append]
    omega
  · rw [eK_11 e k]
    have := keyB_len (fld_yes h.key (by rw [k]; decide +kernel))
    have := eT_len e.2.2.2.1
    have := eN_len e.2.2.2.2.1
    have := eTags_len (fld_yes h.tags (by rw [k]; decide +kernel))
    try simp only [List.length_append]
    omega
  · rw [eK_12 e k]
    have := eN_len e.2.2.2.2.1
    have := eW_len e.2.2.2.2.2.2.2.2.2.2.2.1.1
    have := eW_len e.2.2.2.2.2.2.2.2.2.2.2.1.2.1
    have := eN_len e.2.2.2.2.2.2.2.2.2.2.2.1.2.2.1
    have := hr.pdig
    unfold ePart
    try simp only [List.length_append]
    omega
  · rw [eK_13 e k]
    have := eN_len e.2.2.2.2.1
    try simp only [List.length_append]
    omega
theorem eE_len {e : E} (h : Snd e) (hr : ER e) : (eE e).length ≤ 15000 := by
  rw [eE_eq]
  have := eK_len h hr
  have := eW_len e.1
  have := eI_len e.2.1
  have hb := h.buck
  by_cases h1 : e.1 = 1
  · simp only [List.length_append, if_pos h1, List.length_nil]; omega
  · rw [if_neg h1] at hb
    have := bucketB_len hb
    have := eT_len e.2.2.1
    simp only [List.length_append, if_neg h1]; omega
def encL (l : List E) : List Int := eW ((l.length : Nat) : Int) ++ l.flatMap eE
def encS (l : List E) : List Int × Int :=
  if 1 ≤ l.length ∧ l.length ≤ 8 then if l.all soundE then if (encL l).length ≤ 16384 then (encL l, 0) else ([], 17) else ([], 2) else ([], 9)
structure EsR (n : Nat) (l : List E) : Prop where
  b : EsB n l
  r : ∀ e ∈ l, ER e
theorem flatE_len {l : List E} {n : Nat} (hl : EsR n l) (h : l.all soundE = true) : (l.flatMap eE).length ≤ l.length * 15000 := by
  rw [List.all_eq_true] at h
  exact flat_len (fun e he => eE_len (snd_of (h e he)) (hl.r e he))
theorem pK {n : Nat} (hn : 300 ≤ n) (e : E) (he : EB n e) (hr : ER e) (hn2 : n ≤ 536870912) (h : (eK e).length ≤ 14000) (s : List Int) (hs : s.length ≤ 1000) : F_ref14_put.J1 n (hasB e.1, bytesOf s, e, ()) = some (bytesOf (s ++ eK e), ()) := by
  have hz := hasB_size e.1
  have hl : (hasB e.1).data.toList.length = (hasB e.1).size := rfl
  rw [F_ref14_put.e1]
  have := app_loop (l := (hasB e.1).data.toList) 0 (fldE e) 70368744 (fun m k L => F_ref14_put.J2 n m (hasB e.1, bytesOf L, k, e, ())) (fun L => some (bytesOf L, ()))
    (fun m k L hk hL => by
      try dsimp only
      rw [F_ref14_put.e2, hide_eq, decide_eq_true (by omega), bIf_true, gIf_pos ⟨by omega, by omega⟩, bt_nat]
      simp only [F_ref14_put.e3, cast_up k (show k < 4611686018427387904 by omega), hide_eq]
      generalize (hasB e.1).data.toList.getD k 0 = c at hL
      simp only [show ∀ q : Nat, (((c.toNat : Nat) : Int) == (q : Int)) = decide (c.toNat = q) from fun q => decide_eq_decide.2 (by omega),
        show (((c.toNat : Nat) : Int) == 107) = decide (c = 107) from u8_eq (c := 107) (by decide), show (((c.toNat : Nat) : Int) == 105) = decide (c = 105) from u8_eq (c := 105) (by decide),
        show (((c.toNat : Nat) : Int) == 118) = decide (c = 118) from u8_eq (c := 118) (by decide), show (((c.toNat : Nat) : Int) == 108) = decide (c = 108) from u8_eq (c := 108) (by decide),
        show (((c.toNat : Nat) : Int) == 116) = decide (c = 116) from u8_eq (c := 116) (by decide), show (((c.toNat : Nat) : Int) == 100) = decide (c = 100) from u8_eq (c := 100) (by decide),
        show (((c.toNat : Nat) : Int) == 114) = decide (c = 114) from u8_eq (c := 114) (by decide), show (((c.toNat : Nat) : Int) == 103) = decide (c = 103) from u8_eq (c := 103) (by decide),
        show (((c.toNat : Nat) : Int) == 112) = decide (c = 112) from u8_eq (c := 112) (by decide), bIf_eq, decide_eq_true_iff]
      unfold fldE at hL ⊢
      by_cases hc : c = 107
      · rw [if_pos hc] at hL
        rw [if_pos hc, if_pos hc, pText hn (by omega), bnd_some, bytesOf_size, bytesOf_size, gIf_pos (by omega), ← bytesOf_append]
      rw [if_neg hc] at hL
      rw [if_neg hc, if_neg hc]
      clear hc
      by_cases hc : c = 105
      · rw [if_pos hc] at hL
        rw [if_pos hc, if_pos hc, pNum hn hr.id, bnd_some, bytesOf_size, bytesOf_size, gIf_pos (by omega), ← bytesOf_append]
      rw [if_neg hc] at hL
      rw [if_neg hc, if_neg hc]
      clear hc
      by_cases hc : c = 118
      · rw [if_pos hc] at hL
        rw [if_pos hc, if_pos hc, pVer hn hr.vid hr.vmade hr.vblob hr.vdig hr.vlock he.ver.tags hn2 (by omega), bnd_some, bytesOf_size, bytesOf_size, gIf_pos (by omega), ← bytesOf_append]
      rw [if_neg hc] at hL
      rw [if_neg hc, if_neg hc]
      clear hc
      by_cases hc : c = 108
      · rw [if_pos hc] at hL
        rw [if_pos hc, if_pos hc, pLock hn hr.lock (by omega), bnd_some, bytesOf_size, bytesOf_size, gIf_pos (by omega), ← bytesOf_append]
      rw [if_neg hc] at hL
      rw [if_neg hc, if_neg hc]
      clear hc
      by_cases hc : c = 116
      · rw [if_pos hc] at hL
        rw [if_pos hc, if_pos hc, pTags hn he.tags hn2 (by omega), bnd_some, bytesOf_size, bytesOf_size, gIf_pos (by omega), ← bytesOf_append]
      rw [if_neg hc] at hL
      rw [if_neg hc, if_neg hc]
      clear hc
      by_cases hc : c = 100
      · rw [if_pos hc] at hL
        rw [if_pos hc, if_pos hc, pDef hn (by omega), bnd_some, bytesOf_size, bytesOf_size, gIf_pos (by omega), ← bytesOf_append]
      rw [if_neg hc] at hL
      rw [if_neg hc, if_neg hc]
      clear hc
      by_cases hc : c = 114
      · rw [if_pos hc] at hL
        rw [if_pos hc, if_pos hc, pRules hn he.rules hn2 (by omega), bnd_some, bytesOf_size, bytesOf_size, gIf_pos (by omega), ← bytesOf_append]
      rw [if_neg hc] at hL
      rw [if_neg hc, if_neg hc]
      clear hc
      by_cases hc : c = 103
      · rw [if_pos hc] at hL
        rw [if_pos hc, if_pos hc, pGrants hn he.grants hn2 (by omega), bnd_some, bytesOf_size, bytesOf_size, gIf_pos (by omega), ← bytesOf_append]
      rw [if_neg hc] at hL
      rw [if_neg hc, if_neg hc]
      clear hc
      by_cases hc : c = 112
      · rw [if_pos hc] at hL
        rw [if_pos hc, if_pos hc, pPart hn hr.pblob hr.pdig (by omega), bnd_some, bytesOf_size, bytesOf_size, gIf_pos (by omega), ← bytesOf_append]
      rw [if_neg hc] at hL
      rw [if_neg hc, if_neg hc]
      clear hc
      rw [List.append_nil])
    (fun m L hL => by
      try dsimp only
      rw [F_ref14_put.e2, hide_eq, decide_eq_false (by omega), bIf_false, F_ref14_put.e4]) n 0 s (by omega) (by omega) (by
        rw [List.drop_zero]
        have : (eK e).length = ((hasB e.1).data.toList.flatMap (fldE e)).length := rfl
        omega)
  try dsimp only at this
  rw [show ((0 : Nat) : Int) = 0 from rfl] at this
  rw [this, List.drop_zero]; rfl
theorem pE {n : Nat} (hn : 300 ≤ n) {e : E} (hs : Snd e) (he : EB n e) (hr : ER e) (hn2 : n ≤ 536870912) : F_ref14_put.f n e = some (bytesOf (eE e), ()) := by
  have h1 := eK_len hs hr
  have h2 := eW_len e.1
  have h3 := eI_len e.2.1
  have hb := hs.buck
  rw [F_ref14_put.e0, ref14_has, bnd_some, pW hn, bnd_some, pInt hn hr.time, bnd_some, eE_eq]
  try dsimp only
  rw [bytesOf_size, bytesOf_size, gIf_pos (by omega), ← bytesOf_append]
  by_cases h1 : e.1 = 1
  · rw [hide_eq, show (e.1 != 1) = false by rw [h1]; rfl, bIf_false, pK hn e he hr hn2 (by omega) _ (by rw [List.length_append]; omega), if_pos h1]
    simp only [List.append_assoc, List.nil_append]
  · rw [if_neg h1] at hb ⊢
    have h4 := bucketB_len hb
    have h5 := eT_len e.2.2.1
    rw [hide_eq, show (e.1 != 1) = true by rw [bne, beq_eq_false_iff_ne.2 h1]; rfl, bIf_true, pText hn (by omega), bnd_some]
    try dsimp only
    rw [bytesOf_size, bytesOf_size, gIf_pos (by rw [List.length_append]; omega), ← bytesOf_append, pK hn e he hr hn2 (by omega) _ (by simp only [List.length_append]; omega)]
    simp only [List.append_assoc]
theorem ref14_Encode {n : Nat} (hn : 300 ≤ n) {l : List E} (hl : EsR n l) (hn2 : n ≤ 536870912) : F_ref14_Encode.f n l = some (bytesOf (encS l).1, (encS l).2, ()) := by
  have hlen := hl.b.len
  rw [F_ref14_Encode.e0, hide_eq, hide_eq]
  unfold encS
  by_cases h1 : 1 ≤ l.length ∧ l.length ≤ 8
  · rw [decide_eq_false (by omega), bIf_false, decide_eq_false (by omega), bIf_false, F_ref14_Encode.e1, pW hn, bnd_some, if_pos h1]
    try dsimp only
    have h2 := all_loop (l := l) (Va.dflt T_api_Entry) soundE (fun m k => F_ref14_Encode.J2 n m (l, bytesOf (eW ((l.length : Nat) : Int)), k, ())) (F_ref14_Encode.J3 n (l, bytesOf (eW ((l.length : Nat) : Int)), ())) (some ((⟨#[]⟩ : ByteArray), 2, ()))
      (fun m k hk => by
        try dsimp only
        rw [F_ref14_Encode.e2, hide_eq, decide_eq_true (by omega), bIf_true, gIf_pos ⟨by omega, by omega⟩, Int.toNat_natCast, ref14_Sound hn2 hn (hl.b.all _ (getD_memA hk)), bnd_some, cast_up k (by omega)]
        cases soundE _ <;> rfl)
      (fun m => by
        try dsimp only
        rw [F_ref14_Encode.e2, hide_eq, decide_eq_false (by omega), bIf_false]) n 0 (by omega) (by omega)
    try dsimp only at h2
    rw [show ((0 : Nat) : Int) = 0 from rfl, List.drop_zero] at h2
    rw [h2]
    cases ha : l.all soundE
    · rfl
    · have hf := flatE_len hl ha
      rw [List.all_eq_true] at ha
      rw [bIf_true, if_pos rfl, F_ref14_Encode.e3]
      have hw := eW_len ((l.length : Nat) : Int)
      have h3 := app_loop (l := l) (Va.dflt T_api_Entry) eE 7036874417 (fun m k L => F_ref14_Encode.J4 n m (l, bytesOf L, k, ())) (fun L => F_ref14_Encode.J5 n (bytesOf L, ()))
        (fun m k L hk hL => by
          have hm := getD_memA (d := Va.dflt T_api_Entry) hk
          try dsimp only
          rw [F_ref14_Encode.e4, hide_eq, decide_eq_true (by omega), bIf_true, gIf_pos ⟨by omega, by omega⟩, Int.toNat_natCast, pE hn (snd_of (ha _ hm)) (hl.b.all _ hm) (hl.r _ hm) hn2, bnd_some, cast_up k (by omega), bytesOf_size, bytesOf_size, gIf_pos (by omega), ← bytesOf_append])
        (fun m L hL => by
          try dsimp only
          rw [F_ref14_Encode.e4, hide_eq, decide_eq_false (by omega), bIf_false]) n 0 (eW ((l.length : Nat) : Int)) (by omega) (by omega) (by rw [List.drop_zero]; omega)
      try dsimp only at h3
      rw [show ((0 : Nat) : Int) = 0 from rfl, List.drop_zero] at h3
      rw [h3, F_ref14_Encode.e5, hide_eq, bytesOf_size]
      change bIf (decide ((((encL l).length : Nat) : Int) > 16384)) (some ((⟨#[]⟩ : ByteArray), 17, ())) (some (bytesOf (encL l), 0, ())) = _
      by_cases hz : (encL l).length ≤ 16384
      · rw [decide_eq_false (by omega), if_pos hz]; rfl
      · rw [decide_eq_true (by omega), if_neg hz]; rfl
  · rw [if_neg h1]
    by_cases h2 : l.length < 1
    · rw [decide_eq_true (by omega)]; rfl
    · rw [decide_eq_false (by omega), bIf_false, decide_eq_true (by omega)]; rfl
theorem clone_byte {n : Nat} {s : List Int} (h : s.length ≤ 70368744177664) : F_slices_Clone_byte.f n s = some (s, ()) := by
  rw [F_slices_Clone_byte.e0, gIf_pos (by rw [List.length_nil]; omega)]
  by_cases h0 : s.length = 0
  · rw [List.eq_nil_of_length_eq_zero h0]; exact bothC_self _
  · rw [show (s.length == 0) = false by rw [beq_eq_false_iff_ne]; exact h0]; rfl
theorem clip_byte {n : Nat} (s : List Int) : F_slices_Clip_byte.f n s = some (s, ()) := by
  rw [F_slices_Clip_byte.e0, gIf_pos ⟨by omega, by omega⟩, gIf_pos ⟨by omega, by omega⟩, gIf_pos ⟨by omega, by omega, rfl⟩, Int.toNat_natCast, List.take_length, List.drop_zero]
theorem wOut {n : Nat} {w : List Int} (u : Unit) (h : w.length ≤ 70368744177664) : F_pack_Writer_Out.f n (w, u) = some (w, (w, u), ()) := by
  rw [F_pack_Writer_Out.e0, hide_eq, bIf_false]
  try dsimp only
  rw [clone_byte h, bnd_some, clip_byte, bnd_some]
theorem entry_Encode {n : Nat} (hn : 300 ≤ n) {l : List E} (hl : EsR n l) (hn2 : n ≤ 536870912) : F_entry_Encode.f n l = some ((encS l).1, (encS l).2, ()) := by
  have hlen := hl.b.len
  rw [F_entry_Encode.e0, hide_eq, hide_eq]
  unfold encS
  by_cases h1 : 1 ≤ l.length ∧ l.length ≤ 8
  · rw [show (((l.length : Nat) : Int) == 0) = false by rw [beq_eq_false_iff_ne]; omega, bIf_false, decide_eq_false (by omega), bIf_false, F_entry_Encode.e1, if_pos h1]
    obtain ⟨i, h2, h2'⟩ := idx_loop (l := l) (Va.dflt T_api_Entry) (fun e => !soundE e) (fun m k => F_slices_IndexFunc_Entry.J1 n m (l, ((l.length : Nat) : Int), k, ()))
      (fun m k hk => by
        try dsimp only
        rw [F_slices_IndexFunc_Entry.e1, hide_eq, decide_eq_true (by omega), bIf_true, gIf_pos ⟨by omega, by omega⟩, Int.toNat_natCast, F_entry_Encode_1.e0, entry_Sound hn2 hn (hl.b.all _ (getD_memA hk)), cast_up k (by omega)]; rfl)
      (fun m => by
        try dsimp only
        rw [F_slices_IndexFunc_Entry.e1, hide_eq, decide_eq_false (by omega), bIf_false, F_slices_IndexFunc_Entry.e2]) n 0 (by omega) (by omega)
    try dsimp only at h2
    rw [show ((0 : Nat) : Int) = 0 from rfl] at h2
    rw [F_slices_ContainsFunc_Entry.e0, F_slices_IndexFunc_Entry.e0, h2, bnd_some, bnd_some, hide_eq]
    try dsimp only
    rw [h2', List.drop_zero, show (l.any fun e => !soundE e) = !(l.all soundE) by rw [← any_not, Bool.not_not]]
    cases ha : l.all soundE
    · rfl
    · have hf := flatE_len hl ha
      rw [List.all_eq_true] at ha
      have hw := eW_len ((l.length : Nat) : Int)
      rw [Bool.not_true, bIf_false, if_pos rfl, F_entry_NewWriter.e0, F_pack_New.e0, bnd_some, bnd_some]
      try dsimp only
      rw [wW hn [] () (by rw [List.length_nil]; omega), bnd_some]
      try dsimp only
      have h3 := app_loop (l := l) (Va.dflt T_api_Entry) eE 7036874417 (fun m k L => F_entry_Encode.J2 n m (l, ((l.length : Nat) : Int), k, ((), ()), (L, ()), ())) (fun L => F_entry_Encode.J3 n (((), ()), (L, ()), ()))
        (fun m k L hk hL => by
          have hm := getD_memA (d := Va.dflt T_api_Entry) hk
          try dsimp only
          rw [F_entry_Encode.e2, hide_eq, decide_eq_true (by omega), bIf_true, gIf_pos ⟨by omega, by omega⟩, Int.toNat_natCast]
          try dsimp only
          rw [wE hn hn2 L () (hl.b.all _ hm) (hl.r _ hm) (by omega), bnd_some, cast_up k (by omega)])
        (fun m L hL => by
          try dsimp only
          rw [F_entry_Encode.e2, hide_eq, decide_eq_false (by omega), bIf_false]) n 0 (eW ((l.length : Nat) : Int)) (by omega) (by omega) (by rw [List.drop_zero]; omega)
      try dsimp only at h3
      rw [show ((0 : Nat) : Int) = 0 from rfl, List.drop_zero] at h3
      rw [List.nil_append, h3, F_entry_Encode.e3]
      try dsimp only
      rw [wOut () (by rw [List.length_append]; omega), bnd_some, hide_eq]
      change bIf (decide ((((encL l).length : Nat) : Int) > 16384)) (some ([], 17, ())) (some (encL l, 0, ())) = _
      by_cases hz : (encL l).length ≤ 16384
      · rw [decide_eq_false (by omega), if_pos hz]; rfl
      · rw [decide_eq_true (by omega), if_neg hz]; rfl
  · rw [if_neg h1]
    by_cases h2 : l.length = 0
    · rw [show (((l.length : Nat) : Int) == 0) = true by rw [h2]; rfl]; rfl
    · rw [show (((l.length : Nat) : Int) == 0) = false by rw [beq_eq_false_iff_ne]; omega, bIf_false, decide_eq_true (by omega)]; rfl
end Go.Proofs.YtcpkhpboemfglaaGreatDoor

namespace Go.Proofs.YtcpkhpboemfglaaGreatDoor
open Go Go.Va Go.Proofs

/-- Bytes. -/
def BY (l : List Int) : Prop := ∀ x ∈ l, 0 ≤ x ∧ x ≤ 255
/-- A reader: of any bytes it tells something; of what was written, what was written. -/
structure Rd (n : Nat) {α : Type} (F : D_pack_Reader → Option (α × D_pack_Reader × Unit)) (enc : α → List Int) (ok : α → Prop) (bd : α → Prop) : Prop where
  any : ∀ b e, BB n b → ∃ x b' e', F (b, e, ()) = some (x, (b', e', ()), ()) ∧ BB n b' ∧ bd x
  enc : ∀ x rest, ok x → BB n (enc x ++ rest) → F (enc x ++ rest, 0, ()) = some (x, (rest, 0, ()), ())
theorem BB_right {n : Nat} {a b : List Int} (h : BB n (a ++ b)) : BB n b := ⟨by have := h.len; rw [List.length_append] at this; omega, fun x hx => h.byte x (List.mem_append.2 (.inr hx))⟩
theorem BB_left {n : Nat} {a b : List Int} (h : BB n (a ++ b)) : BB n a := ⟨by have := h.len; rw [List.length_append] at this; omega, fun x hx => h.byte x (List.mem_append.2 (.inl hx))⟩

theorem rfail {n : Nat} (b : List Int) (e e' : Int) (u : Unit) : F_pack_Reader_fail.f n (b, e, u) e' = some ((b, (if e = 0 then e' else e), ()), ()) := by
  rw [F_pack_Reader_fail.e0, hide_eq]
  by_cases h : e = 0
  · rw [if_pos h, show ((b, e, u).2.1 == 0) = true from beq_iff_eq.2 h, bIf_true]
  · rw [if_neg h, show ((b, e, u).2.1 == 0) = false from beq_eq_false_iff_ne.2 h, bIf_false]
def tk (k : Nat) (b : List Int) (e : Int) : List Int × D_pack_Reader := if e = 0 then if k ≤ b.length then (b.take k, (b.drop k, 0, ())) else ([], (b, 3, ())) else ([], (b, e, ()))
theorem rtake {n : Nat} (b : List Int) (e : Int) (u : Unit) (k : Nat) : F_pack_Reader_take.f n (b, e, u) (k : Int) = some ((tk k b e).1, (tk k b e).2, ()) := by
  rw [F_pack_Reader_take.e0]
  simp only [hide_eq, F_pack_Reader_take.e1, rfail, bnd_some]
  unfold tk
  by_cases h : e = 0
  · subst h
    rw [if_pos rfl, show ((0 : Int) == 0) = true from rfl, bIf_true]
    by_cases hk : k ≤ b.length
    · rw [decide_eq_false (by omega), if_pos hk, bIf_false, show ((0 : Int) != 0) = false from rfl, bIf_false, gIf_pos ⟨by omega, by omega⟩, gIf_pos ⟨by omega, by omega⟩, gIf_pos ⟨by omega, by omega⟩, gIf_pos ⟨by omega, by omega⟩]
      simp
    · rw [decide_eq_true (by omega), if_neg hk, bIf_true]; rfl
  · rw [show (e == 0) = false from beq_eq_false_iff_ne.2 h, bIf_false, show (e != 0) = true by rw [bne, beq_eq_false_iff_ne.2 h]; rfl, bIf_true]
    simp only [if_neg h]
theorem tk_any {n : Nat} {b : List Int} (e : Int) (hb : BB n b) (k : Nat) : ∃ (x b' : List Int) (e' : Int), tk k b e = (x, (b', e', ())) ∧ BB n b' ∧ BB n x ∧ (e' = 0 → x.length = k) ∧ (x.length = 0 ∨ x.length = k) := by
  have hlen := hb.len
  unfold tk
  by_cases h : e = 0
  · rw [if_pos h]
    by_cases hk : k ≤ b.length
    · rw [if_pos hk]
      exact ⟨_, _, _, rfl, BB_drop hb k, BB_take hb k, fun _ => by rw [List.length_take]; omega, .inr (by rw [List.length_take]; omega)⟩
    · rw [if_neg hk]
      exact ⟨_, _, _, rfl, hb, BB_nil (by omega), by intro h; exact absurd h (by decide), .inl rfl⟩
  · rw [if_neg h]
    exact ⟨_, _, _, rfl, hb, BB_nil (by omega), fun h' => absurd h' h, .inl rfl⟩
theorem tk_enc (a rest : List Int) (k : Nat) (h : k = a.length) : tk k (a ++ rest) 0 = (a, (rest, 0, ())) := by
  subst h
  unfold tk
  rw [if_pos rfl, if_pos (by rw [List.length_append]; omega), List.take_left' rfl, List.drop_left' rfl]

theorem rNum {n : Nat} (hn : 300 ≤ n) (hn2 : n ≤ 536870912) : Rd n (α := Int) (F_pack_Reader_Num.f n) eN U64 U64 where
  any b e hb := by
    obtain ⟨w, u, e2, h1, h2, h3, h4, h5, h6⟩ := bits_Unpack_any hn2 hn hb
    rw [F_pack_Reader_Num.e0]
    simp only [hide_eq, bIf_false, F_pack_Reader_Num.e1, h1, bnd_some, rfail]
    by_cases h : e = 0
    · subst h
      rw [show ((0 : Int) != 0) = false from rfl, bIf_false]
      by_cases he : e2 = 0
      · subst he
        obtain ⟨y, rfl⟩ := Int.eq_ofNat_of_zero_le h3
        rw [show ((0 : Int) != 0) = false from rfl, bIf_false, rtake, bnd_some]
        obtain ⟨x, b', e', h7, h8, _, _, _⟩ := tk_any (n := n) 0 hb y
        try dsimp only
        rw [h7]
        exact ⟨_, _, _, rfl, h8, h2⟩
      · rw [show (e2 != 0) = true by rw [bne, beq_eq_false_iff_ne.2 he]; rfl, bIf_true]
        exact ⟨_, _, _, rfl, hb, ⟨by omega, by omega⟩⟩
    · rw [show (e != 0) = true by rw [bne, beq_eq_false_iff_ne.2 h]; rfl, bIf_true]
      exact ⟨_, _, _, rfl, hb, ⟨by omega, by omega⟩⟩
  enc x rest hx hb := by
    rw [F_pack_Reader_Num.e0]
    simp only [hide_eq, bIf_false, F_pack_Reader_Num.e1, bits_Unpack_eN hn2 hn hx hb, bnd_some, show ((0 : Int) != 0) = false from rfl, rtake, tk_enc _ _ _ rfl]
theorem rInt {n : Nat} (hn : 300 ≤ n) (hn2 : n ≤ 536870912) : Rd n (α := Int) (F_pack_Reader_Int.f n) eI I64 I64 where
  any b e hb := by
    obtain ⟨x, b', e', h1, h2, h3⟩ := (rNum hn hn2).any b e hb
    rw [F_pack_Reader_Int.e0, h1, bnd_some, bits_Zag n h3, bnd_some]
    exact ⟨_, _, _, rfl, h2, zag_I64 h3⟩
  enc x rest hx hb := by
    unfold eI at hb ⊢
    rw [F_pack_Reader_Int.e0, (rNum hn hn2).enc _ rest (zig_U64 hx) hb, bnd_some, bits_Zag n (zig_U64 hx), bnd_some, zag_zig]
theorem eW_nat {n : Nat} (hn : 300 ≤ n) (hn2 : n ≤ 536870912) {x : Int} (h : 0 ≤ x ∧ x < 9223372036854775808) : eW x = eN x := by unfold eW; rw [wrap_u64 (by omega)]
theorem rCount {n : Nat} (hn : 300 ≤ n) (hn2 : n ≤ 536870912) {most : Int} (hm : 0 ≤ most ∧ most < 9223372036854775808) : Rd n (α := Int) (fun r => F_pack_Reader_Count.f n r most) eW (fun x => 0 ≤ x ∧ x ≤ most) (fun x => 0 ≤ x ∧ x ≤ most) where
  any b e hb := by
    obtain ⟨x, b', e', h1, h2, h3⟩ := (rNum hn hn2).any b e hb
    obtain ⟨h4, h5⟩ := h3
    try dsimp only
    rw [F_pack_Reader_Count.e0, h1, bnd_some]
    simp only [hide_eq, bIf_false, F_pack_Reader_Count.e1, F_pack_Reader_Count.e2, F_pack_Reader_Count.e3, rfail, bnd_some]
    by_cases h : e' = 0
    · subst h
      rw [show ((0 : Int) != 0) = false from rfl, bIf_false, decide_eq_false (by omega), bIf_false, wrap_u64 (x := most) (by omega)]
      by_cases hx : x > most
      · rw [decide_eq_true hx, bIf_true]
        exact ⟨_, _, _, rfl, h2, by omega, by omega⟩
      · rw [decide_eq_false hx, bIf_false, wrap_i64 (by omega)]
        exact ⟨_, _, _, rfl, h2, by omega, by omega⟩
    · rw [show (e' != 0) = true by rw [bne, beq_eq_false_iff_ne.2 h]; rfl, bIf_true]
      exact ⟨_, _, _, rfl, h2, by omega, by omega⟩
  enc x rest hx hb := by
    rw [eW_nat hn hn2 (by omega)] at hb ⊢
    try dsimp only
    rw [F_pack_Reader_Count.e0, (rNum hn hn2).enc _ rest ⟨by omega, by omega⟩ hb, bnd_some]
    simp only [hide_eq, bIf_false, F_pack_Reader_Count.e1, F_pack_Reader_Count.e2, F_pack_Reader_Count.e3, rfail, bnd_some]
    rw [show ((0 : Int) != 0) = false from rfl, bIf_false, decide_eq_false (by omega), bIf_false, wrap_u64 (x := most) (by omega), decide_eq_false (by omega), bIf_false, wrap_i64 (by omega)]
theorem rSmall {n : Nat} (hn : 300 ≤ n) (hn2 : n ≤ 536870912) : Rd n (α := Int) (F_entry_Reader_Small.f n) eW (fun x => 0 ≤ x ∧ x ≤ 1099511627776) (fun x => 0 ≤ x ∧ x ≤ 1099511627776) where
  any b e hb := by
    obtain ⟨x, b', e', h1, h2, h3⟩ := (rCount hn hn2 (most := 1099511627776) (by omega)).any b e hb
    rw [F_entry_Reader_Small.e0, h1, bnd_some]
    exact ⟨_, _, _, rfl, h2, h3⟩
  enc x rest hx hb := by
    rw [F_entry_Reader_Small.e0, (rCount hn hn2 (most := 1099511627776) (by omega)).enc x rest hx hb, bnd_some]
theorem rText {n : Nat} (hn : 300 ≤ n) (hn2 : n ≤ 536870912) : Rd n (α := ByteArray) (F_pack_Reader_Text.f n) eT (fun s => s.size ≤ 16384) (fun s => s.size < n) where
  any b e hb := by
    obtain ⟨x, b', e', h1, h2, h3, h4⟩ := (rCount hn hn2 (most := 16384) (by omega)).any b e hb
    obtain ⟨y, rfl⟩ := Int.eq_ofNat_of_zero_le h3
    rw [F_pack_Reader_Text.e0, h1, bnd_some, hide_eq, bIf_false]
    try dsimp only
    rw [rtake, bnd_some]
    obtain ⟨x, b2, e2, h7, h8, h9, _, _⟩ := tk_any (n := n) e' h2 y
    try dsimp only
    rw [h7]
    exact ⟨_, _, _, rfl, h8, by rw [bytesOf_size]; exact h9.len⟩
  enc s rest hs hb := by
    unfold eT at hb ⊢
    rw [List.append_assoc] at hb ⊢
    rw [F_pack_Reader_Text.e0, (rCount hn hn2 (most := 16384) (by omega)).enc _ _ ⟨by omega, by omega⟩ hb, bnd_some, hide_eq, bIf_false]
    try dsimp only
    rw [rtake, bnd_some, tk_enc _ _ _ (size_of s), bytesOf_ofBytes]
theorem rFlag {n : Nat} (hn : 300 ≤ n) (hn2 : n ≤ 536870912) : Rd n (α := Bool) (F_pack_Reader_Flag.f n) eF (fun _ => True) (fun _ => True) where
  any b e hb := by
    rw [F_pack_Reader_Flag.e0, hide_eq, bIf_false, show (1 : Int) = ((1 : Nat) : Int) from rfl, rtake, bnd_some]
    obtain ⟨x, b2, e2, h7, h8, h9, h10, _⟩ := tk_any (n := n) e hb 1
    try dsimp only
    rw [h7]
    simp only [hide_eq, rfail, bnd_some, F_pack_Reader_Flag.e1]
    by_cases h : e2 = 0
    · have hx := h10 h
      subst h
      rw [show ((0 : Int) == 0) = true from rfl, bIf_true, gIf_pos ⟨by omega, by omega⟩, gNo_neg (by decide)]
      cases (shrI .u8 (x.getD 0 0) ((1 : Nat) : Int) != 0)
      · rw [bIf_false, bIf_true, gIf_pos ⟨by omega, by omega⟩]
        exact ⟨_, _, _, rfl, h8, trivial⟩
      · rw [bIf_true]
        exact ⟨_, _, _, rfl, h8, trivial⟩
    · rw [show (e2 == 0) = false from beq_eq_false_iff_ne.2 h, bIf_false, bIf_false]
      exact ⟨_, _, _, rfl, h8, trivial⟩
  enc x rest _ hb := by
    rw [F_pack_Reader_Flag.e0, hide_eq, bIf_false, show (1 : Int) = ((1 : Nat) : Int) from rfl, rtake, bnd_some, tk_enc (eF x) rest 1 rfl]
    simp only [hide_eq, rfail, bnd_some, F_pack_Reader_Flag.e1]
    have hg : (0 ≤ (0 : Int) ∧ (0 : Int) < (((eF x).length : Nat) : Int)) := by rw [eF_len]; omega
    rw [show ((0 : Int) == 0) = true from rfl, bIf_true, gIf_pos hg, gNo_neg (by decide), show (shrI .u8 ((eF x).getD 0 0) ((1 : Nat) : Int) != 0) = false by cases x <;> decide, bIf_false, bIf_true, gIf_pos hg,
      show ((eF x).getD 0 0 == 1) = x by cases x <;> rfl]
theorem rDig {n : Nat} (hn : 300 ≤ n) (hn2 : n ≤ 536870912) : Rd n (α := List Int) (F_pack_Reader_Digest.f n) (fun d => d) (fun d => d.length = 32) (fun d => d.length = 32 ∧ BY d) where
  any b e hb := by
    rw [F_pack_Reader_Digest.e0, hide_eq, bIf_true, show (32 : Int) = ((32 : Nat) : Int) from rfl, rtake, bnd_some]
    obtain ⟨x, b2, e2, h7, h8, h9, _, h10⟩ := tk_any (n := n) e hb 32
    try dsimp only
    rw [h7]
    try dsimp only
    rw [gIf_pos (by omega)]
    exact ⟨_, _, _, rfl, h8, by rw [List.length_append, List.length_drop, List.length_replicate]; omega, by
      intro y hy
      rcases List.mem_append.1 hy with hy | hy
      · exact h9.byte y hy
      · have := List.eq_of_mem_replicate (List.mem_of_mem_drop hy); omega⟩
  enc x rest hx hb := by
    rw [F_pack_Reader_Digest.e0, hide_eq, bIf_true, show (32 : Int) = ((32 : Nat) : Int) from rfl, rtake, bnd_some, tk_enc _ _ _ hx.symm]
    try dsimp only
    rw [gIf_pos (by omega), hx]
    simp
/-- A loop that reads elements one by one. -/
theorem rd_any {n : Nat} {α R : Type} {F : D_pack_Reader → Option (α × D_pack_Reader × Unit)} {en : α → List Int} {ok bd : α → Prop} (hF : Rd n F en ok bd) (c : Nat)
    (J : Nat → List α → Int → D_pack_Reader → Option R) (fin : List α → D_pack_Reader → Option R)
    (hs : ∀ m out (k : Nat) r x r', k < c → out.length = k → F r = some (x, r', ()) → J (m + 1) out (k : Int) r = J m (out ++ [x]) ((k + 1 : Nat) : Int) r')
    (he : ∀ m out r, out.length = c → J (m + 1) out (c : Int) r = fin out r) :
    ∀ (m k : Nat) out b e, k ≤ c → c - k < m → out.length = k → (∀ x ∈ out, bd x) → BB n b →
      ∃ out' b' e', J m out (k : Int) (b, e, ()) = fin out' (b', e', ()) ∧ BB n b' ∧ out'.length = c ∧ ∀ x ∈ out', bd x
  | 0, k, out, b, e, _, h, _, _, _ => by omega
  | m + 1, k, out, b, e, hk, h, ho, hbd, hb => by
    by_cases hlt : k < c
    · obtain ⟨x, b', e', h1, h2, h3⟩ := hF.any b e hb
      rw [hs m out k _ x _ hlt ho h1]
      exact rd_any hF c J fin hs he m (k + 1) (out ++ [x]) b' e' (by omega) (by omega) (by simp; omega) (by
        intro y hy
        rcases List.mem_append.1 hy with hy | hy
        · exact hbd y hy
        · rw [List.mem_singleton] at hy; rw [hy]; exact h3) h2
    · have : k = c := by omega
      subst this
      rw [he m out _ ho]
      exact ⟨out, b, e, rfl, hb, ho, hbd⟩
theorem rd_enc {n : Nat} {α R : Type} {F : D_pack_Reader → Option (α × D_pack_Reader × Unit)} {en : α → List Int} {ok bd : α → Prop} (hF : Rd n F en ok bd) (c : Nat)
    (J : Nat → List α → Int → D_pack_Reader → Option R) (fin : List α → D_pack_Reader → Option R)
    (hs : ∀ m out (k : Nat) r x r', k < c → out.length = k → F r = some (x, r', ()) → J (m + 1) out (k : Int) r = J m (out ++ [x]) ((k + 1 : Nat) : Int) r')
    (he : ∀ m out r, out.length = c → J (m + 1) out (c : Int) r = fin out r) (rest : List Int) :
    ∀ (m : Nat) (l : List α) (k : Nat) out, k + l.length = c → l.length < m → out.length = k → (∀ x ∈ l, ok x) → BB n (l.flatMap en ++ rest) →
      J m out (k : Int) (l.flatMap en ++ rest, 0, ()) = fin (out ++ l) (rest, 0, ())
  | 0, l, k, out, _, h, _, _, _ => by omega
  | m + 1, [], k, out, hk, h, ho, hok, hb => by
    rw [List.length_nil] at hk
    have : k = c := by omega
    subst this
    rw [he m out _ ho, List.append_nil]; rfl
  | m + 1, x :: l, k, out, hk, h, ho, hok, hb => by
    rw [List.length_cons] at hk h
    rw [List.flatMap_cons, List.append_assoc] at hb ⊢
    rw [hs m out k _ x (l.flatMap en ++ rest, 0, ()) (by omega) ho (hF.enc x _ (hok x (List.mem_cons_self ..)) hb),
      rd_enc hF c J fin hs he rest m l (k + 1) (out ++ [x]) (by omega) (by omega) (by simp; omega) (fun y hy => hok y (List.mem_cons_of_mem _ hy)) (BB_right hb), List.append_assoc]; rfl
end Go.Proofs.YtcpkhpboemfglaaGreatDoor

namespace Go.Proofs.YtcpkhpboemfglaaGreatDoor
open Go Go.Va Go.Proofs

theorem bnd_bnd {α β γ : Type} (a : Option α) (f : α → Option β) (g : β → Option γ) : bnd (bnd a f) g = bnd a fun x => bnd (f x) g := by cases a <;> rfl
def Small (x : Int) : Prop := 0 ≤ x ∧ x ≤ 1099511627776
def okT (s : ByteArray) : Prop := s.size ≤ 16384
def okTag (t : D_api_Tag) : Prop := okT t.1 ∧ okT t.2.1
def okTags (l : List D_api_Tag) : Prop := l.length ≤ 8 ∧ ∀ t ∈ l, okTag t
def okLock (l : D_api_Lock) : Prop := Small l.1 ∧ I64 l.2.1
def bdLock (l : D_api_Lock) : Prop := I64 l.2.1
structure okVer (v : Ver) : Prop where
  id : U64 v.1
  md : I64 (made v)
  yes : mark v = true → v = (v.1, (true, (0, (0, ((List.replicate 32 0), (made v, ((0, (0, (false, ()))), ([], ()))))))))
  no : mark v = false → Small (vsize v) ∧ U64 (blob v) ∧ (dig v).length = 32 ∧ okLock (lock v) ∧ okTags (tags v)
structure bdVer (n : Nat) (v : Ver) : Prop where
  b : VB n v
  id : U64 v.1
  md : I64 (made v)
  bl : U64 (blob v)
  lk : bdLock (lock v)
  dy : BY (dig v)
def okDef (d : D_api_Default) : Prop := Small d.1 ∧ Small d.2.1
def okRule (r : D_api_Rule) : Prop := okT r.1 ∧ okTags r.2.1 ∧ Small r.2.2.1 ∧ Small r.2.2.2.1
def okRules (l : List D_api_Rule) : Prop := l.length ≤ 8 ∧ ∀ t ∈ l, okRule t
def okGrant (g : D_api_Grant) : Prop := okT g.2.1 ∧ okT g.2.2.1 ∧ okT g.2.2.2.1
def okGrants (l : List D_api_Grant) : Prop := l.length ≤ 8 ∧ ∀ t ∈ l, okGrant t
def okPart (p : D_api_Part) : Prop := Small p.1 ∧ Small p.2.1 ∧ U64 p.2.2.1 ∧ p.2.2.2.1.length = 32
def bdPart (p : D_api_Part) : Prop := U64 p.2.2.1 ∧ p.2.2.2.1.length = 32 ∧ BY p.2.2.2.1
theorem BY_zero (k : Nat) : BY (List.replicate k 0) := by intro x hx; have := List.eq_of_mem_replicate hx; omega
theorem rLock {n : Nat} (hn : 300 ≤ n) (hn2 : n ≤ 536870912) : Rd n (α := D_api_Lock) (F_entry_Reader_Lock.f n) eLock okLock bdLock where
  any b0 e0 hb0 := by
    rw [F_entry_Reader_Lock.e0]
    obtain ⟨x1, b1, e1, h1, hb1, d1⟩ := (rSmall hn hn2).any b0 e0 hb0
    rw [h1, bnd_some]
    try dsimp only
    obtain ⟨x2, b2, e2, h2, hb2, d2⟩ := (rInt hn hn2).any b1 e1 hb1
    rw [h2, bnd_some]
    try dsimp only
    obtain ⟨x3, b3, e3, h3, hb3, d3⟩ := (rFlag hn hn2).any b2 e2 hb2
    rw [h3, bnd_some]
    try dsimp only
    exact ⟨_, _, _, rfl, hb3, d2⟩
  enc x rest hx hb := by
    unfold eLock at hb ⊢
    try simp only [List.append_assoc] at hb ⊢
    rw [F_entry_Reader_Lock.e0]
    rw [(rSmall hn hn2).enc _ _ hx.1 hb, bnd_some]
    try dsimp only
    replace hb := BB_right hb
    rw [(rInt hn hn2).enc _ _ hx.2 hb, bnd_some]
    try dsimp only
    replace hb := BB_right hb
    rw [(rFlag hn hn2).enc _ _ trivial hb, bnd_some]
    try dsimp only
theorem rDef {n : Nat} (hn : 300 ≤ n) (hn2 : n ≤ 536870912) : Rd n (α := D_api_Default) (F_entry_Reader_Default.f n) eDef okDef (fun _ => True) where
  any b0 e0 hb0 := by
    rw [F_entry_Reader_Default.e0]
    obtain ⟨x1, b1, e1, h1, hb1, d1⟩ := (rSmall hn hn2).any b0 e0 hb0
    rw [h1, bnd_some]
    try dsimp only
    obtain ⟨x2, b2, e2, h2, hb2, d2⟩ := (rSmall hn hn2).any b1 e1 hb1
    rw [h2, bnd_some]
    try dsimp only
    exact ⟨_, _, _, rfl, hb2, trivial⟩
  enc x rest hx hb := by
    unfold eDef at hb ⊢
    try simp only [List.append_assoc] at hb ⊢
    rw [F_entry_Reader_Default.e0]
    rw [(rSmall hn hn2).enc _ _ hx.1 hb, bnd_some]
    try dsimp only
    replace hb := BB_right hb
    rw [(rSmall hn hn2).enc _ _ hx.2 hb, bnd_some]
    try dsimp only
theorem rPart {n : Nat} (hn : 300 ≤ n) (hn2 : n ≤ 536870912) : Rd n (α := D_api_Part) (F_entry_Reader_Part.f n) ePart okPart bdPart where
  any b0 e0 hb0 := by
    rw [F_entry_Reader_Part.e0]
    obtain ⟨x1, b1, e1, h1, hb1, d1⟩ := (rSmall hn hn2).any b0 e0 hb0
    rw [h1, bnd_some]
    try dsimp only
    obtain ⟨x2, b2, e2, h2, hb2, d2⟩ := (rSmall hn hn2).any b1 e1 hb1
    rw [h2, bnd_some]
    try dsimp only
    obtain ⟨x3, b3, e3, h3, hb3, d3⟩ := (rNum hn hn2).any b2 e2 hb2
    rw [h3, bnd_some]
    try dsimp only
    obtain ⟨x4, b4, e4, h4, hb4, d4⟩ := (rDig hn hn2).any b3 e3 hb3
    rw [h4, bnd_some]
    try dsimp only
    exact ⟨_, _, _, rfl, hb4, d3, d4⟩
  enc x rest hx hb := by
    unfold ePart at hb ⊢
    try simp only [List.append_assoc] at hb ⊢
    rw [F_entry_Reader_Part.e0]
    rw [(rSmall hn hn2).enc _ _ hx.1 hb, bnd_some]
    try dsimp only
    replace hb := BB_right hb
    rw [(rSmall hn hn2).enc _ _ hx.2.1 hb, bnd_some]
    try dsimp only
    replace hb := BB_right hb
    rw [(rNum hn hn2).enc _ _ hx.2.2.1 hb, bnd_some]
    try dsimp only
    replace hb := BB_right hb
    rw [(rDig hn hn2).enc _ _ hx.2.2.2 hb, bnd_some]
    try dsimp only
noncomputable def tagRd (n : Nat) (r : D_pack_Reader) : Option (D_api_Tag × D_pack_Reader × Unit) := bnd (F_pack_Reader_Text.f n r) fun u1 => bnd (F_pack_Reader_Text.f n u1.2.1) fun u2 => some ((u1.1, (u2.1, ())), u2.2.1, ())
noncomputable def ruleRd (n : Nat) (r : D_pack_Reader) : Option (D_api_Rule × D_pack_Reader × Unit) := bnd (F_pack_Reader_Text.f n r) fun u1 => bnd (F_entry_Reader_Tags.f n u1.2.1) fun u2 => bnd (F_entry_Reader_Small.f n u2.2.1) fun u3 => bnd (F_entry_Reader_Small.f n u3.2.1) fun u4 => bnd (F_pack_Reader_Flag.f n u4.2.1) fun u5 => some ((u1.1, (u2.1, (u3.1, (u4.1, (u5.1, ()))))), u5.2.1, ())
noncomputable def grantRd (n : Nat) (r : D_pack_Reader) : Option (D_api_Grant × D_pack_Reader × Unit) := bnd (F_pack_Reader_Flag.f n r) fun u1 => bnd (F_pack_Reader_Text.f n u1.2.1) fun u2 => bnd (F_pack_Reader_Text.f n u2.2.1) fun u3 => bnd (F_pack_Reader_Text.f n u3.2.1) fun u4 => some ((u1.1, (u2.1, (u3.1, (u4.1, ())))), u4.2.1, ())
theorem tagR {n : Nat} (hn : 300 ≤ n) (hn2 : n ≤ 536870912) : Rd n (α := D_api_Tag) (tagRd n) eTag okTag (TB n) where
  any b0 e0 hb0 := by
    unfold tagRd
    obtain ⟨x1, b1, e1, h1, hb1, d1⟩ := (rText hn hn2).any b0 e0 hb0
    rw [h1, bnd_some]
    try dsimp only
    obtain ⟨x2, b2, e2, h2, hb2, d2⟩ := (rText hn hn2).any b1 e1 hb1
    rw [h2, bnd_some]
    try dsimp only
    exact ⟨_, _, _, rfl, hb2, d1, d2⟩
  enc x rest hx hb := by
    unfold eTag at hb ⊢
    try simp only [List.append_assoc] at hb ⊢
    unfold tagRd
    rw [(rText hn hn2).enc _ _ hx.1 hb, bnd_some]
    try dsimp only
    replace hb := BB_right hb
    rw [(rText hn hn2).enc _ _ hx.2 hb, bnd_some]
    try dsimp only
theorem rTags {n : Nat} (hn : 300 ≤ n) (hn2 : n ≤ 536870912) : Rd n (α := List D_api_Tag) (F_entry_Reader_Tags.f n) eTags okTags (TsB n) where
  any b e hb := by
    obtain ⟨c, b1, e1, h1, hb1, h2, h3⟩ := (rCount hn hn2 (most := 8) (by omega)).any b e hb
    obtain ⟨y, rfl⟩ := Int.eq_ofNat_of_zero_le h2
    rw [F_entry_Reader_Tags.e0, h1, bnd_some]
    try dsimp only
    obtain ⟨out', b', e', h4, h5, h6, h7⟩ := rd_any (tagR hn hn2) y (fun m out k r => F_entry_Reader_Tags.J1 n m (out, (y : Int), k, ((), ()), r, ())) (fun out r => some (out, r, ())) (fun m out k r x r' hk ho hF => by
      try dsimp only
      rw [F_entry_Reader_Tags.e1, hide_eq, decide_eq_true (by omega), bIf_true]
      have : ∀ (K : D_api_Tag → D_pack_Reader → Option (F_entry_Reader_Tags.R)), bnd (tagRd n r) (fun u => K u.1 u.2.1) = K x r' := by intro K; rw [hF, bnd_some]
      have h2 := this (fun x r' => gIf ((out.length + 1) * 32 ≤ 70368744177664) (F_entry_Reader_Tags.J1 n m (out ++ [x], (y : Int), IntKind.i64.wrap ((k : Int) + 1), ((), ()), r', ())))
      rw [gIf_pos (by omega), cast_up k (by omega)] at h2
      unfold tagRd at h2
      simp only [bnd_bnd, bnd_some] at h2
      rw [cast_up k (by omega)]
      exact h2)
      (fun m out r ho => by
      try dsimp only
      rw [F_entry_Reader_Tags.e1, hide_eq, decide_eq_false (by omega), bIf_false, F_entry_Reader_Tags.e2]) n 0 [] b1 e1 (by omega) (by omega) rfl (by intro x hx; exact nomatch hx) hb1
    try dsimp only at h4
    rw [show ((0 : Nat) : Int) = 0 from rfl] at h4
    rw [h4]
    exact ⟨_, _, _, rfl, h5, by omega, h7⟩
  enc l rest hl hb := by
    unfold eTags at hb ⊢
    rw [List.append_assoc] at hb ⊢
    have hlen := hl.1
    rw [F_entry_Reader_Tags.e0, (rCount hn hn2 (most := 8) (by omega)).enc _ _ ⟨by omega, by omega⟩ hb, bnd_some]
    try dsimp only
    have h4 := rd_enc (tagR hn hn2) l.length (fun m out k r => F_entry_Reader_Tags.J1 n m (out, ((l.length : Nat) : Int), k, ((), ()), r, ())) (fun out r => some (out, r, ())) (fun m out k r x r' hk ho hF => by
      try dsimp only
      rw [F_entry_Reader_Tags.e1, hide_eq, decide_eq_true (by omega), bIf_true]
      have : ∀ (K : D_api_Tag → D_pack_Reader → Option (F_entry_Reader_Tags.R)), bnd (tagRd n r) (fun u => K u.1 u.2.1) = K x r' := by intro K; rw [hF, bnd_some]
      have h2 := this (fun x r' => gIf ((out.length + 1) * 32 ≤ 70368744177664) (F_entry_Reader_Tags.J1 n m (out ++ [x], ((l.length : Nat) : Int), IntKind.i64.wrap ((k : Int) + 1), ((), ()), r', ())))
      rw [gIf_pos (by omega), cast_up k (by omega)] at h2
      unfold tagRd at h2
      simp only [bnd_bnd, bnd_some] at h2
      rw [cast_up k (by omega)]
      exact h2)
      (fun m out r ho => by
      try dsimp only
      rw [F_entry_Reader_Tags.e1, hide_eq, decide_eq_false (by omega), bIf_false, F_entry_Reader_Tags.e2]) rest n l 0 [] (by omega) (by omega) rfl hl.2 (BB_right hb)
    try dsimp only at h4
    rw [show ((0 : Nat) : Int) = 0 from rfl] at h4
    rw [h4, List.nil_append]
theorem ruleR {n : Nat} (hn : 300 ≤ n) (hn2 : n ≤ 536870912) : Rd n (α := D_api_Rule) (ruleRd n) eRule okRule (RuB n) where
  any b0 e0 hb0 := by
    unfold ruleRd
    obtain ⟨x1, b1, e1, h1, hb1, d1⟩ := (rText hn hn2).any b0 e0 hb0
    rw [h1, bnd_some]
    try dsimp only
    obtain ⟨x2, b2, e2, h2, hb2, d2⟩ := (rTags hn hn2).any b1 e1 hb1
    rw [h2, bnd_some]
    try dsimp only
    obtain ⟨x3, b3, e3, h3, hb3, d3⟩ := (rSmall hn hn2).any b2 e2 hb2
    rw [h3, bnd_some]
    try dsimp only
    obtain ⟨x4, b4, e4, h4, hb4, d4⟩ := (rSmall hn hn2).any b3 e3 hb3
    rw [h4, bnd_some]
    try dsimp only
    obtain ⟨x5, b5, e5, h5, hb5, d5⟩ := (rFlag hn hn2).any b4 e4 hb4
    rw [h5, bnd_some]
    try dsimp only
    exact ⟨_, _, _, rfl, hb5, d1, d2⟩
  enc x rest hx hb := by
    unfold eRule at hb ⊢
    try simp only [List.append_assoc] at hb ⊢
    unfold ruleRd
    rw [(rText hn hn2).enc _ _ hx.1 hb, bnd_some]
    try dsimp only
    replace hb := BB_right hb
    rw [(rTags hn hn2).enc _ _ hx.2.1 hb, bnd_some]
    try dsimp only
    replace hb := BB_right hb
    rw [(rSmall hn hn2).enc _ _ hx.2.2.1 hb, bnd_some]
    try dsimp only
    replace hb := BB_right hb
    rw [(rSmall hn hn2).enc _ _ hx.2.2.2 hb, bnd_some]
    try dsimp only
    replace hb := BB_right hb
    rw [(rFlag hn hn2).enc _ _ trivial hb, bnd_some]
    try dsimp only
theorem rRules {n : Nat} (hn : 300 ≤ n) (hn2 : n ≤ 536870912) : Rd n (α := List D_api_Rule) (F_entry_Reader_Rules.f n) eRules okRules (RusB n) where
  any b e hb := by
    obtain ⟨c, b1, e1, h1, hb1, h2, h3⟩ := (rCount hn hn2 (most := 8) (by omega)).any b e hb
    obtain ⟨y, rfl⟩ := Int.eq_ofNat_of_zero_le h2
    rw [F_entry_Reader_Rules.e0, h1, bnd_some]
    try dsimp only
    obtain ⟨out', b', e', h4, h5, h6, h7⟩ := rd_any (ruleR hn hn2) y (fun m out k r => F_entry_Reader_Rules.J1 n m (out, (y : Int), k, ((), ()), r, ())) (fun out r => some (out, r, ())) (fun m out k r x r' hk ho hF => by
      try dsimp only
      rw [F_entry_Reader_Rules.e1, hide_eq, decide_eq_true (by omega), bIf_true]
      have : ∀ (K : D_api_Rule → D_pack_Reader → Option (F_entry_Reader_Rules.R)), bnd (ruleRd n r) (fun u => K u.1 u.2.1) = K x r' := by intro K; rw [hF, bnd_some]
      have h2 := this (fun x r' => gIf ((out.length + 1) * 64 ≤ 70368744177664) (F_entry_Reader_Rules.J1 n m (out ++ [x], (y : Int), IntKind.i64.wrap ((k : Int) + 1), ((), ()), r', ())))
      rw [gIf_pos (by omega), cast_up k (by omega)] at h2
      unfold ruleRd at h2
      simp only [bnd_bnd, bnd_some] at h2
      rw [cast_up k (by omega)]
      exact h2)
      (fun m out r ho => by
      try dsimp only
      rw [F_entry_Reader_Rules.e1, hide_eq, decide_eq_false (by omega), bIf_false, F_entry_Reader_Rules.e2]) n 0 [] b1 e1 (by omega) (by omega) rfl (by intro x hx; exact nomatch hx) hb1
    try dsimp only at h4
    rw [show ((0 : Nat) : Int) = 0 from rfl] at h4
    rw [h4]
    exact ⟨_, _, _, rfl, h5, by omega, h7⟩
  enc l rest hl hb := by
    unfold eRules at hb ⊢
    rw [List.append_assoc] at hb ⊢
    have hlen := hl.1
    rw [F_entry_Reader_Rules.e0, (rCount hn hn2 (most := 8) (by omega)).enc _ _ ⟨by omega, by omega⟩ hb, bnd_some]
    try dsimp only
    have h4 := rd_enc (ruleR hn hn2) l.length (fun m out k r => F_entry_Reader_Rules.J1 n m (out, ((l.length : Nat) : Int), k, ((), ()), r, ())) (fun out r => some (out, r, ())) (fun m out k r x r' hk ho hF => by
      try dsimp only
      rw [F_entry_Reader_Rules.e1, hide_eq, decide_eq_true (by omega), bIf_true]
      have : ∀ (K : D_api_Rule → D_pack_Reader → Option (F_entry_Reader_Rules.R)), bnd (ruleRd n r) (fun u => K u.1 u.2.1) = K x r' := by intro K; rw [hF, bnd_some]
      have h2 := this (fun x r' => gIf ((out.length + 1) * 64 ≤ 70368744177664) (F_entry_Reader_Rules.J1 n m (out ++ [x], ((l.length : Nat) : Int), IntKind.i64.wrap ((k : Int) + 1), ((), ()), r', ())))
      rw [gIf_pos (by omega), cast_up k (by omega)] at h2
      unfold ruleRd at h2
      simp only [bnd_bnd, bnd_some] at h2
      rw [cast_up k (by omega)]
      exact h2)
      (fun m out r ho => by
      try dsimp only
      rw [F_entry_Reader_Rules.e1, hide_eq, decide_eq_false (by omega), bIf_false, F_entry_Reader_Rules.e2]) rest n l 0 [] (by omega) (by omega) rfl hl.2 (BB_right hb)
    try dsimp only at h4
    rw [show ((0 : Nat) : Int) = 0 from rfl] at h4
    rw [h4, List.nil_append]
theorem grantR {n : Nat} (hn : 300 ≤ n) (hn2 : n ≤ 536870912) : Rd n (α := D_api_Grant) (grantRd n) eGrant okGrant (GrB n) where
  any b0 e0 hb0 := by
    unfold grantRd
    obtain ⟨x1, b1, e1, h1, hb1, d1⟩ := (rFlag hn hn2).any b0 e0 hb0
    rw [h1, bnd_some]
    try dsimp only
    obtain ⟨x2, b2, e2, h2, hb2, d2⟩ := (rText hn hn2).any b1 e1 hb1
    rw [h2, bnd_some]
    try dsimp only
    obtain ⟨x3, b3, e3, h3, hb3, d3⟩ := (rText hn hn2).any b2 e2 hb2
    rw [h3, bnd_some]
    try dsimp only
    obtain ⟨x4, b4, e4, h4, hb4, d4⟩ := (rText hn hn2).any b3 e3 hb3
    rw [h4, bnd_some]
    try dsimp only
    exact ⟨_, _, _, rfl, hb4, d2, d3, d4⟩
  enc x rest hx hb := by
    unfold eGrant at hb ⊢
    try simp only [List.append_assoc] at hb ⊢
    unfold grantRd
    rw [(rFlag hn hn2).enc _ _ trivial hb, bnd_some]
    try dsimp only
    replace hb := BB_right hb
    rw [(rText hn hn2).enc _ _ hx.1 hb, bnd_some]
    try dsimp only
    replace hb := BB_right hb
    rw [(rText hn hn2).enc _ _ hx.2.1 hb, bnd_some]
    try dsimp only
    replace hb := BB_right hb
    rw [(rText hn hn2).enc _ _ hx.2.2 hb, bnd_some]
    try dsimp only
theorem rGrants {n : Nat} (hn : 300 ≤ n) (hn2 : n ≤ 536870912) : Rd n (α := List D_api_Grant) (F_entry_Reader_Grants.f n) eGrants okGrants (GrsB n) where
  any b e hb := by
    obtain ⟨c, b1, e1, h1, hb1, h2, h3⟩ := (rCount hn hn2 (most := 8) (by omega)).any b e hb
    obtain ⟨y, rfl⟩ := Int.eq_ofNat_of_zero_le h2
    rw [F_entry_Reader_Grants.e0, h1, bnd_some]
    try dsimp only
    obtain ⟨out', b', e', h4, h5, h6, h7⟩ := rd_any (grantR hn hn2) y (fun m out k r => F_entry_Reader_Grants.J1 n m (out, (y : Int), k, ((), ()), r, ())) (fun out r => some (out, r, ())) (fun m out k r x r' hk ho hF => by
      try dsimp only
      rw [F_entry_Reader_Grants.e1, hide_eq, decide_eq_true (by omega), bIf_true]
      have : ∀ (K : D_api_Grant → D_pack_Reader → Option (F_entry_Reader_Grants.R)), bnd (grantRd n r) (fun u => K u.1 u.2.1) = K x r' := by intro K; rw [hF, bnd_some]
      have h2 := this (fun x r' => gIf ((out.length + 1) * 56 ≤ 70368744177664) (F_entry_Reader_Grants.J1 n m (out ++ [x], (y : Int), IntKind.i64.wrap ((k : Int) + 1), ((), ()), r', ())))
      rw [gIf_pos (by omega), cast_up k (by omega)] at h2
      unfold grantRd at h2
      simp only [bnd_bnd, bnd_some] at h2
      rw [cast_up k (by omega)]
      exact h2)
      (fun m out r ho => by
      try dsimp only
      rw [F_entry_Reader_Grants.e1, hide_eq, decide_eq_false (by omega), bIf_false, F_entry_Reader_Grants.e2]) n 0 [] b1 e1 (by omega) (by omega) rfl (by intro x hx; exact nomatch hx) hb1
    try dsimp only at h4
    rw [show ((0 : Nat) : Int) = 0 from rfl] at h4
    rw [h4]
    exact ⟨_, _, _, rfl, h5, by omega, h7⟩
  enc l rest hl hb := by
    unfold eGrants at hb ⊢
    rw [List.append_assoc] at hb ⊢
    have hlen := hl.1
    rw [F_entry_Reader_Grants.e0, (rCount hn hn2 (most := 8) (by omega)).enc _ _ ⟨by omega, by omega⟩ hb, bnd_some]
    try dsimp only
    have h4 := rd_enc (grantR hn hn2) l.length (fun m out k r => F_entry_Reader_Grants.J1 n m (out, ((l.length : Nat) : Int), k, ((), ()), r, ())) (fun out r => some (out, r, ())) (fun m out k r x r' hk ho hF => by
      try dsimp only
      rw [F_entry_Reader_Grants.e1, hide_eq, decide_eq_true (by omega), bIf_true]
      have : ∀ (K : D_api_Grant → D_pack_Reader → Option (F_entry_Reader_Grants.R)), bnd (grantRd n r) (fun u => K u.1 u.2.1) = K x r' := by intro K; rw [hF, bnd_some]
      have h2 := this (fun x r' => gIf ((out.length + 1) * 56 ≤ 70368744177664) (F_entry_Reader_Grants.J1 n m (out ++ [x], ((l.length : Nat) : Int), IntKind.i64.wrap ((k : Int) + 1), ((), ()), r', ())))
      rw [gIf_pos (by omega), cast_up k (by omega)] at h2
      unfold grantRd at h2
      simp only [bnd_bnd, bnd_some] at h2
      rw [cast_up k (by omega)]
      exact h2)
      (fun m out r ho => by
      try dsimp only
      rw [F_entry_Reader_Grants.e1, hide_eq, decide_eq_false (by omega), bIf_false, F_entry_Reader_Grants.e2]) rest n l 0 [] (by omega) (by omega) rfl hl.2 (BB_right hb)
    try dsimp only at h4
    rw [show ((0 : Nat) : Int) = 0 from rfl] at h4
    rw [h4, List.nil_append]
theorem rVer {n : Nat} (hn : 300 ≤ n) (hn2 : n ≤ 536870912) : Rd n (α := Ver) (F_entry_Reader_Version.f n) eVer okVer (bdVer n) where
  any b0 e0 hb0 := by
    rw [F_entry_Reader_Version.e0]
    obtain ⟨x1, b1, e1, h1, hb1, d1⟩ := (rNum hn hn2).any b0 e0 hb0
    rw [h1, bnd_some]
    try dsimp only
    obtain ⟨x2, b2, e2, h2, hb2, d2⟩ := (rFlag hn hn2).any b1 e1 hb1
    rw [h2, bnd_some]
    try dsimp only
    obtain ⟨x3, b3, e3, h3, hb3, d3⟩ := (rInt hn hn2).any b2 e2 hb2
    rw [h3, bnd_some]
    try dsimp only
    cases x2
    · rw [bIf_false]
      obtain ⟨x4, b4, e4, h4, hb4, d4⟩ := (rSmall hn hn2).any b3 e3 hb3
      rw [h4, bnd_some]
      try dsimp only
      obtain ⟨x5, b5, e5, h5, hb5, d5⟩ := (rNum hn hn2).any b4 e4 hb4
      rw [h5, bnd_some]
      try dsimp only
      obtain ⟨x6, b6, e6, h6, hb6, d6⟩ := (rDig hn hn2).any b5 e5 hb5
      rw [h6, bnd_some]
      try dsimp only
      obtain ⟨x7, b7, e7, h7, hb7, d7⟩ := (rLock hn hn2).any b6 e6 hb6
      rw [h7, bnd_some]
      try dsimp only
      obtain ⟨x8, b8, e8, h8, hb8, d8⟩ := (rTags hn hn2).any b7 e7 hb7
      rw [h8, bnd_some]
      try dsimp only
      exact ⟨_, _, _, rfl, hb8, ⟨⟨d1.1, d5.1, d6.1, d8⟩, d1, d3, d5, d7, d6.2⟩⟩
    · rw [bIf_true]
      exact ⟨_, _, _, rfl, hb3, ⟨⟨d1.1, Int.le_refl 0, rfl, ⟨by change 0 < n; omega, by intro t ht; exact nomatch ht⟩⟩, d1, d3, ⟨Int.le_refl 0, by change (0 : Int) < _; decide⟩, ⟨by change (_ : Int) ≤ 0; decide, by change (0 : Int) < _; decide⟩, BY_zero 32⟩⟩
  enc x rest hx hb := by
    unfold eVer at hb ⊢
    simp only [List.append_assoc] at hb ⊢
    rw [F_entry_Reader_Version.e0, (rNum hn hn2).enc _ _ hx.id hb, bnd_some]
    try dsimp only
    replace hb := BB_right hb
    rw [(rFlag hn hn2).enc _ _ trivial hb, bnd_some]
    try dsimp only
    replace hb := BB_right hb
    rw [(rInt hn hn2).enc _ _ hx.md hb, bnd_some]
    try dsimp only
    replace hb := BB_right hb
    cases hm : mark x
    · obtain ⟨k1, k2, k3, k4, k5⟩ := hx.no hm
      rw [hm] at hb
      simp only [Bool.false_eq_true, if_false, List.append_assoc] at hb ⊢
      rw [bIf_false, (rSmall hn hn2).enc _ _ k1 hb, bnd_some]
      try dsimp only
      replace hb := BB_right hb
      rw [(rNum hn hn2).enc _ _ k2 hb, bnd_some]
      try dsimp only
      replace hb := BB_right hb
      rw [(rDig hn hn2).enc _ _ k3 hb, bnd_some]
      try dsimp only
      replace hb := BB_right hb
      rw [(rLock hn hn2).enc _ _ k4 hb, bnd_some]
      try dsimp only
      replace hb := BB_right hb
      rw [(rTags hn hn2).enc _ _ k5 hb, bnd_some]
      try dsimp only
      rw [← hm]; rfl
    · have hv := hx.yes hm
      simp only [if_true, List.nil_append]
      rw [bIf_true, ← hv]
end Go.Proofs.YtcpkhpboemfglaaGreatDoor

namespace Go.Proofs.YtcpkhpboemfglaaGreatDoor
open Go Go.Va Go.Proofs

theorem eqS_eq' {a b : ByteArray} (h : eqS a b = true) : a = b := by rw [eqS_eq, ba_beq] at h; exact of_decide_eq_true h
theorem digEq : ∀ {a b : List Int}, a.length = b.length → eqD (.arr 32 (.int .u8)) a b = true → a = b
  | [], [], _, _ => rfl
  | [], _ :: _, h, _ => by simp at h
  | _ :: _, [], h, _ => by simp at h
  | x :: a, y :: b, hl, h => by
    have h : (decide (x = y) && eqD (.arr 32 (.int .u8)) a b) = true := h
    rw [Bool.and_eq_true] at h
    rw [of_decide_eq_true h.1, digEq (by simpa using hl) h.2]
theorem lockEq {a b : D_api_Lock} (h : eqD T_api_Lock a b = true) : a = b := by
  have h : (decide (a.1 = b.1) && (decide (a.2.1 = b.2.1) && ((a.2.2.1 == b.2.2.1) && true))) = true := h
  simp only [Bool.and_eq_true, decide_eq_true_iff, beq_iff_eq, and_true] at h
  obtain ⟨h1, h2, h3⟩ := h
  obtain ⟨a1, a2, a3, a4⟩ := a
  obtain ⟨b1, b2, b3, b4⟩ := b
  dsimp only at h1 h2 h3
  rw [h1, h2, h3]
theorem defEq {a b : D_api_Default} (h : eqD T_api_Default a b = true) : a = b := by
  have h : (decide (a.1 = b.1) && (decide (a.2.1 = b.2.1) && true)) = true := h
  simp only [Bool.and_eq_true, decide_eq_true_iff, and_true] at h
  obtain ⟨h1, h2⟩ := h
  obtain ⟨a1, a2, a4⟩ := a
  obtain ⟨b1, b2, b4⟩ := b
  dsimp only at h1 h2
  rw [h1, h2]
theorem partEq {a b : D_api_Part} (ha : a.2.2.2.1.length = 32) (hb : b.2.2.2.1.length = 32) (h : eqD T_api_Part a b = true) : a = b := by
  have h : (decide (a.1 = b.1) && (decide (a.2.1 = b.2.1) && (decide (a.2.2.1 = b.2.2.1) && (eqD (.arr 32 (.int .u8)) a.2.2.2.1 b.2.2.2.1 && true)))) = true := h
  simp only [Bool.and_eq_true, decide_eq_true_iff, and_true] at h
  obtain ⟨h1, h2, h3, h4⟩ := h
  have h4 := digEq (ha.trans hb.symm) h4
  obtain ⟨a1, a2, a3, a4, a5⟩ := a
  obtain ⟨b1, b2, b3, b4, b5⟩ := b
  dsimp only at h1 h2 h3 h4
  rw [h1, h2, h3, h4]
theorem allB_eq {α : Type} {q : α → α → Bool} (hq : ∀ x y, q x y = true → x = y) : ∀ {a b : List α}, allB q a b = true → a = b
  | [], [], _ => rfl
  | [], _ :: _, h => nomatch h
  | _ :: _, [], h => nomatch h
  | x :: a, y :: b, h => by
    have h : (q x y && allB q a b) = true := h
    rw [Bool.and_eq_true] at h
    rw [hq x y h.1, allB_eq hq h.2]
theorem tagEq (a b : D_api_Tag) (h : sameT a b = true) : a = b := by
  unfold sameT at h
  rw [Bool.and_eq_true] at h
  obtain ⟨a1, a2, a3⟩ := a
  obtain ⟨b1, b2, b3⟩ := b
  have h1 := eqS_eq' h.1
  have h2 := eqS_eq' h.2
  dsimp only at h1 h2
  rw [h1, h2]
theorem verEq {a b : Ver} (ha : (dig a).length = 32) (hb : (dig b).length = 32) (h : sameV a b = true) : a = b := by
  unfold sameV at h
  simp only [Bool.and_eq_true, beq_iff_eq] at h
  obtain ⟨h1, h2, h3, h4, h5, h6, h7, h8⟩ := h
  have h1 := allB_eq tagEq h1
  have h6 := digEq (ha.trans hb.symm) h6
  have h8 := lockEq h8
  obtain ⟨a1, a2, a3, a4, a5, a6, a7, a8, a9⟩ := a
  obtain ⟨b1, b2, b3, b4, b5, b6, b7, b8, b9⟩ := b
  unfold tags at h1
  unfold mark at h3
  unfold vsize at h4
  unfold blob at h5
  unfold dig at h6
  unfold made at h7
  unfold lock at h8
  dsimp only at h1 h2 h3 h4 h5 h6 h7 h8
  rw [h1, h2, h3, h4, h5, h6, h7, h8]
theorem len0 {α : Type} {l : List α} (h : (((l.length : Nat) : Int) == 0) = true) : l = [] := by
  rw [beq_iff_eq] at h; exact List.eq_nil_of_length_eq_zero (by omega)

theorem okTags_of {l : List D_api_Tag} (h : tagsB l = true) : okTags l := by
  obtain ⟨h1, h2⟩ := tagsB_len h
  exact ⟨h1, fun t ht => by obtain ⟨a, b⟩ := tagB_len (h2 t ht); exact ⟨by unfold okT; omega, by unfold okT; omega⟩⟩
theorem okLock_of {l : D_api_Lock} (h : lockB l = true) (hi : I64 l.2.1) : okLock l := by
  refine ⟨?_, hi⟩
  unfold lockB at h
  unfold Small
  split at h
  · omega
  · split at h
    · omega
    · exact nomatch h
theorem okDef_of {d : D_api_Default} (h : modeB d = true) : okDef d := by
  unfold modeB at h
  unfold okDef Small
  split at h
  · rw [beq_iff_eq] at h; omega
  · simp only [Bool.and_eq_true, Bool.or_eq_true, beq_iff_eq, decide_eq_true_iff] at h; omega
theorem okRule_of {r : D_api_Rule} (h : ruleB r = true) : okRule r := by
  unfold ruleB at h
  simp only [Bool.and_eq_true, decide_eq_true_iff] at h
  obtain ⟨h1, _, h3, h4, h5, h6, h7⟩ := h
  exact ⟨by unfold okT; omega, okTags_of h3, by unfold Small; omega, by unfold Small; omega⟩
theorem okRules_of {l : List D_api_Rule} (h : rulesB l = true) : okRules l := by
  unfold rulesB at h
  simp only [Bool.and_eq_true, decide_eq_true_iff, List.all_eq_true] at h
  exact ⟨h.1, fun r hr => okRule_of (h.2 r hr)⟩
theorem okGrant_of {r : D_api_Grant} (h : grantB r = true) : okGrant r := by
  unfold grantB at h
  simp only [Bool.and_eq_true] at h
  have := globB_len h.1
  have := globB_len h.2.1
  have := globB_len h.2.2
  exact ⟨by unfold okT; omega, by unfold okT; omega, by unfold okT; omega⟩
theorem okGrants_of {l : List D_api_Grant} (h : grantsB l = true) : okGrants l := by
  unfold grantsB at h
  simp only [Bool.and_eq_true, decide_eq_true_iff, List.all_eq_true] at h
  exact ⟨h.1, fun r hr => okGrant_of (h.2 r hr)⟩
theorem okPart_of {p : D_api_Part} (h : partB p = true) (h1 : U64 p.2.2.1) (h2 : p.2.2.2.1.length = 32) : okPart p := by
  unfold partB at h
  simp only [Bool.and_eq_true, decide_eq_true_iff] at h
  exact ⟨by unfold Small; omega, by unfold Small; omega, h1, h2⟩
theorem okVer_of {v : Ver} (h : verB v = true) (h1 : U64 v.1) (h2 : I64 (made v)) (h3 : U64 (blob v)) (h4 : (dig v).length = 32) (h5 : I64 (lock v).2.1) : okVer v := by
  unfold verB at h
  refine ⟨h1, h2, fun hm => ?_, fun hm => ?_⟩
  · rw [hm] at h
    simp only [Bool.and_eq_true, beq_iff_eq, List.all_eq_true, decide_eq_true_iff, if_true, Bool.not_eq_true'] at h
    obtain ⟨_, _, k1, k2, k3, ⟨k4, k5, k6⟩, k7⟩ := h
    have k3' : dig v = List.replicate 32 0 := List.eq_replicate_iff.2 ⟨h4, k3⟩
    have k7' := List.eq_nil_of_length_eq_zero k7
    obtain ⟨a1, a2, a3, a4, a5, a6, ⟨c1, c2, c3, c4⟩, a8, a9⟩ := v
    unfold mark at hm
    unfold vsize at k1
    unfold blob at k2
    unfold dig at k3'
    unfold lock at k4 k5 k6
    unfold tags at k7'
    unfold made
    dsimp only at hm k1 k2 k3' k4 k5 k6 k7' ⊢
    rw [hm, k1, k2, k3', k4, k5, k6, k7']
  · rw [hm] at h
    simp only [Bool.and_eq_true, Bool.false_eq_true, if_false, decide_eq_true_iff] at h
    obtain ⟨_, _, k1, k2, k3, k4, k5⟩ := h
    exact ⟨by unfold Small; omega, h3, h4, okLock_of k4 h5, okTags_of k5⟩

abbrev hdE (k t : Int) (b : ByteArray) : E := (k, (t, (b, ((⟨#[]⟩ : ByteArray), (0, (verZ, (lockZ, ([], ((0, (0, ())), ([], ([], (partZ, ()))))))))))))
/-- Digests of bytes. -/
def EY (e : E) : Prop := BY (dig e.2.2.2.2.2.1) ∧ BY e.2.2.2.2.2.2.2.2.2.2.2.1.2.2.2.1
def bdE (n : Nat) (e : E) : Prop := EB n e ∧ ER e ∧ EY e
def okE (e : E) : Prop := Snd e ∧ ER e
theorem I64_0 : I64 0 := by unfold I64; omega
theorem U64_0 : U64 0 := by unfold U64; omega
theorem bdVerZ {n : Nat} (hn : 300 ≤ n) : bdVer n verZ := ⟨VBz (by omega), U64_0, I64_0, U64_0, I64_0, BY_zero 32⟩
theorem mkE {n : Nat} {k t : Int} {b y : ByteArray} {i : Int} {v : Ver} {l : D_api_Lock} {tg : List D_api_Tag} {d : D_api_Default} {r : List D_api_Rule} {g : List D_api_Grant} {p : D_api_Part} {u : Unit}
    (h1 : I64 t) (h2 : b.size < n) (h3 : y.size < n) (h4 : U64 i) (h5 : bdVer n v) (h6 : bdLock l) (h7 : TsB n tg) (h8 : RusB n r) (h9 : GrsB n g) (h10 : bdPart p) : bdE n (k, t, b, y, i, v, l, tg, d, r, g, p, u) :=
  ⟨⟨h2, h3, h4.1, h5.b, h7, h8, h9⟩, ⟨h1, h4, h5.id, h5.md, h5.bl, h5.b.dig, h5.lk, h6, h10.1, h10.2.1⟩, h5.dy, h10.2.2⟩
theorem rJ_any_1 {n : Nat} (hn : 300 ≤ n) (hn2 : n ≤ 536870912) (q : D_entry_Reader) (b2 : E) {t : Int} {b : ByteArray} (ht : I64 t) (hbk : b.size < n) (b0 : List Int) (e0 : Int) (hb0 : BB n b0) :
    ∃ (x : E) (b' : List Int) (e' : Int), F_entry_Reader_entry.J1 n (q, b2, hdE 1 t b, (b0, e0, ()), ()) = some (x, (b', e', ()), ()) ∧ BB n b' ∧ bdE n x := by
  have h0 : 0 < n := by omega
  simp only [F_entry_Reader_entry.e1, F_entry_Reader_entry.e2, hide_eq, Int.reduceBEq, bIf_true, bIf_false]
  exact ⟨_, _, _, rfl, hb0, mkE ht hbk (h0) (U64_0) (bdVerZ hn) (I64_0) (⟨h0, by intro t ht; exact nomatch ht⟩) (⟨h0, by intro t ht; exact nomatch ht⟩) (⟨h0, by intro t ht; exact nomatch ht⟩) (⟨U64_0, rfl, BY_zero 32⟩)⟩
theorem rJ_any_2 {n : Nat} (hn : 300 ≤ n) (hn2 : n ≤ 536870912) (q : D_entry_Reader) (b2 : E) {t : Int} {b : ByteArray} (ht : I64 t) (hbk : b.size < n) (b0 : List Int) (e0 : Int) (hb0 : BB n b0) :
    ∃ (x : E) (b' : List Int) (e' : Int), F_entry_Reader_entry.J1 n (q, b2, hdE 2 t b, (b0, e0, ()), ()) = some (x, (b', e', ()), ()) ∧ BB n b' ∧ bdE n x := by
  have h0 : 0 < n := by omega
  simp only [F_entry_Reader_entry.e1, F_entry_Reader_entry.e2, hide_eq, Int.reduceBEq, bIf_true, bIf_false]
  exact ⟨_, _, _, rfl, hb0, mkE ht hbk (h0) (U64_0) (bdVerZ hn) (I64_0) (⟨h0, by intro t ht; exact nomatch ht⟩) (⟨h0, by intro t ht; exact nomatch ht⟩) (⟨h0, by intro t ht; exact nomatch ht⟩) (⟨U64_0, rfl, BY_zero 32⟩)⟩
theorem rJ_any_3 {n : Nat} (hn : 300 ≤ n) (hn2 : n ≤ 536870912) (q : D_entry_Reader) (b2 : E) {t : Int} {b : ByteArray} (ht : I64 t) (hbk : b.size < n) (b0 : List Int) (e0 : Int) (hb0 : BB n b0) :
    ∃ (x : E) (b' : List Int) (e' : Int), F_entry_Reader_entry.J1 n (q, b2, hdE 3 t b, (b0, e0, ()), ()) = some (x, (b', e', ()), ()) ∧ BB n b' ∧ bdE n x := by
  have h0 : 0 < n := by omega
  simp only [F_entry_Reader_entry.e1, F_entry_Reader_entry.e2, hide_eq, Int.reduceBEq, bIf_true, bIf_false]
  exact ⟨_, _, _, rfl, hb0, mkE ht hbk (h0) (U64_0) (bdVerZ hn) (I64_0) (⟨h0, by intro t ht; exact nomatch ht⟩) (⟨h0, by intro t ht; exact nomatch ht⟩) (⟨h0, by intro t ht; exact nomatch ht⟩) (⟨U64_0, rfl, BY_zero 32⟩)⟩
theorem rJ_any_4 {n : Nat} (hn : 300 ≤ n) (hn2 : n ≤ 536870912) (q : D_entry_Reader) (b2 : E) {t : Int} {b : ByteArray} (ht : I64 t) (hbk : b.size < n) (b0 : List Int) (e0 : Int) (hb0 : BB n b0) :
    ∃ (x : E) (b' : List Int) (e' : Int), F_entry_Reader_entry.J1 n (q, b2, hdE 4 t b, (b0, e0, ()), ()) = some (x, (b', e', ()), ()) ∧ BB n b' ∧ bdE n x := by
  have h0 : 0 < n := by omega
  simp only [F_entry_Reader_entry.e1, F_entry_Reader_entry.e2, hide_eq, Int.reduceBEq, bIf_true, bIf_false]
  obtain ⟨x1, b1, e1, h1, hb1, d1⟩ := (rDef hn hn2).any b0 e0 hb0
  rw [h1, bnd_some]
  try dsimp only
  exact ⟨_, _, _, rfl, hb1, mkE ht hbk (h0) (U64_0) (bdVerZ hn) (I64_0) (⟨h0, by intro t ht; exact nomatch ht⟩) (⟨h0, by intro t ht; exact nomatch ht⟩) (⟨h0, by intro t ht; exact nomatch ht⟩) (⟨U64_0, rfl, BY_zero 32⟩)⟩
theorem rJ_any_5 {n : Nat} (hn : 300 ≤ n) (hn2 : n ≤ 536870912) (q : D_entry_Reader) (b2 : E) {t : Int} {b : ByteArray} (ht : I64 t) (hbk : b.size < n) (b0 : List Int) (e0 : Int) (hb0 : BB n b0) :
    ∃ (x : E) (b' : List Int) (e' : Int), F_entry_Reader_entry.J1 n (q, b2, hdE 5 t b, (b0, e0, ()), ()) = some (x, (b', e', ()), ()) ∧ BB n b' ∧ bdE n x := by
  have h0 : 0 < n := by omega
  simp only [F_entry_Reader_entry.e1, F_entry_Reader_entry.e2, hide_eq, Int.reduceBEq, bIf_true, bIf_false]
  obtain ⟨x1, b1, e1, h1, hb1, d1⟩ := (rRules hn hn2).any b0 e0 hb0
  rw [h1, bnd_some]
  try dsimp only
  exact ⟨_, _, _, rfl, hb1, mkE ht hbk (h0) (U64_0) (bdVerZ hn) (I64_0) (⟨h0, by intro t ht; exact nomatch ht⟩) d1 (⟨h0, by intro t ht; exact nomatch ht⟩) (⟨U64_0, rfl, BY_zero 32⟩)⟩
theorem rJ_any_6 {n : Nat} (hn : 300 ≤ n) (hn2 : n ≤ 536870912) (q : D_entry_Reader) (b2 : E) {t : Int} {b : ByteArray} (ht : I64 t) (hbk : b.size < n) (b0 : List Int) (e0 : Int) (hb0 : BB n b0) :
    ∃ (x : E) (b' : List Int) (e' : Int), F_entry_Reader_entry.J1 n (q, b2, hdE 6 t b, (b0, e0, ()), ()) = some (x, (b', e', ()), ()) ∧ BB n b' ∧ bdE n x := by
  have h0 : 0 < n := by omega
  simp only [F_entry_Reader_entry.e1, F_entry_Reader_entry.e2, hide_eq, Int.reduceBEq, bIf_true, bIf_false]
  obtain ⟨x1, b1, e1, h1, hb1, d1⟩ := (rGrants hn hn2).any b0 e0 hb0
  rw [h1, bnd_some]
  try dsimp only
  exact ⟨_, _, _, rfl, hb1, mkE ht hbk (h0) (U64_0) (bdVerZ hn) (I64_0) (⟨h0, by intro t ht; exact nomatch ht⟩) (⟨h0, by intro t ht; exact nomatch ht⟩) d1 (⟨U64_0, rfl, BY_zero 32⟩)⟩
theorem rJ_any_7 {n : Nat} (hn : 300 ≤ n) (hn2 : n ≤ 536870912) (q : D_entry_Reader) (b2 : E) {t : Int} {b : ByteArray} (ht : I64 t) (hbk : b.size < n) (b0 : List Int) (e0 : Int) (hb0 : BB n b0) :
    ∃ (x : E) (b' : List Int) (e' : Int), F_entry_Reader_entry.J1 n (q, b2, hdE 7 t b, (b0, e0, ()), ()) = some (x, (b', e', ()), ()) ∧ BB n b' ∧ bdE n x := by
  have h0 : 0 < n := by omega
  simp only [F_entry_Reader_entry.e1, F_entry_Reader_entry.e2, hide_eq, Int.reduceBEq, bIf_true, bIf_false]
  obtain ⟨x1, b1, e1, h1, hb1, d1⟩ := (rText hn hn2).any b0 e0 hb0
  rw [h1, bnd_some]
  try dsimp only
  obtain ⟨x2, b2, e2, h2, hb2, d2⟩ := (rVer hn hn2).any b1 e1 hb1
  rw [h2, bnd_some]
  try dsimp only
  exact ⟨_, _, _, rfl, hb2, mkE ht hbk d1 (U64_0) d2 (I64_0) (⟨h0, by intro t ht; exact nomatch ht⟩) (⟨h0, by intro t ht; exact nomatch ht⟩) (⟨h0, by intro t ht; exact nomatch ht⟩) (⟨U64_0, rfl, BY_zero 32⟩)⟩
theorem rJ_any_8 {n : Nat} (hn : 300 ≤ n) (hn2 : n ≤ 536870912) (q : D_entry_Reader) (b2 : E) {t : Int} {b : ByteArray} (ht : I64 t) (hbk : b.size < n) (b0 : List Int) (e0 : Int) (hb0 : BB n b0) :
    ∃ (x : E) (b' : List Int) (e' : Int), F_entry_Reader_entry.J1 n (q, b2, hdE 8 t b, (b0, e0, ()), ()) = some (x, (b', e', ()), ()) ∧ BB n b' ∧ bdE n x := by
  have h0 : 0 < n := by omega
  simp only [F_entry_Reader_entry.e1, F_entry_Reader_entry.e2, hide_eq, Int.reduceBEq, bIf_true, bIf_false]
  obtain ⟨x1, b1, e1, h1, hb1, d1⟩ := (rText hn hn2).any b0 e0 hb0
  rw [h1, bnd_some]
  try dsimp only
  obtain ⟨x2, b2, e2, h2, hb2, d2⟩ := (rNum hn hn2).any b1 e1 hb1
  rw [h2, bnd_some]
  try dsimp only
  exact ⟨_, _, _, rfl, hb2, mkE ht hbk d1 d2 (bdVerZ hn) (I64_0) (⟨h0, by intro t ht; exact nomatch ht⟩) (⟨h0, by intro t ht; exact nomatch ht⟩) (⟨h0, by intro t ht; exact nomatch ht⟩) (⟨U64_0, rfl, BY_zero 32⟩)⟩
theorem rJ_any_9 {n : Nat} (hn : 300 ≤ n) (hn2 : n ≤ 536870912) (q : D_entry_Reader) (b2 : E) {t : Int} {b : ByteArray} (ht : I64 t) (hbk : b.size < n) (b0 : List Int) (e0 : Int) (hb0 : BB n b0) :
    ∃ (x : E) (b' : List Int) (e' : Int), F_entry_Reader_entry.J1 n (q, b2, hdE 9 t b, (b0, e0, ()), ()) = some (x, (b', e', ()), ()) ∧ BB n b' ∧ bdE n x := by
  have h0 : 0 < n := by omega
  simp only [F_entry_Reader_entry.e1, F_entry_Reader_entry.e2, hide_eq, Int.reduceBEq, bIf_true, bIf_false]
  obtain ⟨x1, b1, e1, h1, hb1, d1⟩ := (rText hn hn2).any b0 e0 hb0
  rw [h1, bnd_some]
  try dsimp only
  obtain ⟨x2, b2, e2, h2, hb2, d2⟩ := (rNum hn hn2).any b1 e1 hb1
  rw [h2, bnd_some]
  try dsimp only
  obtain ⟨x3, b3, e3, h3, hb3, d3⟩ := (rLock hn hn2).any b2 e2 hb2
  rw [h3, bnd_some]
  try dsimp only
  exact ⟨_, _, _, rfl, hb3, mkE ht hbk d1 d2 (bdVerZ hn) d3 (⟨h0, by intro t ht; exact nomatch ht⟩) (⟨h0, by intro t ht; exact nomatch ht⟩) (⟨h0, by intro t ht; exact nomatch ht⟩) (⟨U64_0, rfl, BY_zero 32⟩)⟩
theorem rJ_any_10 {n : Nat} (hn : 300 ≤ n) (hn2 : n ≤ 536870912) (q : D_entry_Reader) (b2 : E) {t : Int} {b : ByteArray} (ht : I64 t) (hbk : b.size < n) (b0 : List Int) (e0 : Int) (hb0 : BB n b0) :
    ∃ (x : E) (b' : List Int) (e' : Int), F_entry_Reader_entry.J1 n (q, b2, hdE 10 t b, (b0, e0, ()), ()) = some (x, (b', e', ()), ()) ∧ BB n b' ∧ bdE n x := by
  have h0 : 0 < n := by omega
  simp only [F_entry_Reader_entry.e1, F_entry_Reader_entry.e2, hide_eq, Int.reduceBEq, bIf_true, bIf_false]
  obtain ⟨x1, b1, e1, h1, hb1, d1⟩ := (rText hn hn2).any b0 e0 hb0
  rw [h1, bnd_some]
  try dsimp only
  obtain ⟨x2, b2, e2, h2, hb2, d2⟩ := (rNum hn hn2).any b1 e1 hb1
  rw [h2, bnd_some]
  try dsimp only
  obtain ⟨x3, b3, e3, h3, hb3, d3⟩ := (rTags hn hn2).any b2 e2 hb2
  rw [h3, bnd_some]
  try dsimp only
  exact ⟨_, _, _, rfl, hb3, mkE ht hbk d1 d2 (bdVerZ hn) (I64_0) d3 (⟨h0, by intro t ht; exact nomatch ht⟩) (⟨h0, by intro t ht; exact nomatch ht⟩) (⟨U64_0, rfl, BY_zero 32⟩)⟩
theorem rJ_any_11 {n : Nat} (hn : 300 ≤ n) (hn2 : n ≤ 536870912) (q : D_entry_Reader) (b2 : E) {t : Int} {b : ByteArray} (ht : I64 t) (hbk : b.size < n) (b0 : List Int) (e0 : Int) (hb0 : BB n b0) :
    ∃ (x : E) (b' : List Int) (e' : Int), F_entry_Reader_entry.J1 n (q, b2, hdE 11 t b, (b0, e0, ()), ()) = some (x, (b', e', ()), ()) ∧ BB n b' ∧ bdE n x := by
  have h0 : 0 < n := by omega
  simp only [F_entry_Reader_entry.e1, F_entry_Reader_entry.e2, hide_eq, Int.reduceBEq, bIf_true, bIf_false]
  obtain ⟨x1, b1, e1, h1, hb1, d1⟩ := (rText hn hn2).any b0 e0 hb0
  rw [h1, bnd_some]
  try dsimp only
  obtain ⟨x2, b2, e2, h2, hb2, d2⟩ := (rNum hn hn2).any b1 e1 hb1
  rw [h2, bnd_some]
  try dsimp only
  obtain ⟨x3, b3, e3, h3, hb3, d3⟩ := (rTags hn hn2).any b2 e2 hb2
  rw [h3, bnd_some]
  try dsimp only
  exact ⟨_, _, _, rfl, hb3, mkE ht hbk d1 d2 (bdVerZ hn) (I64_0) d3 (⟨h0, by intro t ht; exact nomatch ht⟩) (⟨h0, by intro t ht; exact nomatch ht⟩) (⟨U64_0, rfl, BY_zero 32⟩)⟩
theorem rJ_any_12 {n : Nat} (hn : 300 ≤ n) (hn2 : n ≤ 536870912) (q : D_entry_Reader) (b2 : E) {t : Int} {b : ByteArray} (ht : I64 t) (hbk : b.size < n) (b0 : List Int) (e0 : Int) (hb0 : BB n b0) :
    ∃ (x : E) (b' : List Int) (e' : Int), F_entry_Reader_entry.J1 n (q, b2, hdE 12 t b, (b0, e0, ()), ()) = some (x, (b', e', ()), ()) ∧ BB n b' ∧ bdE n x := by
  have h0 : 0 < n := by omega
  simp only [F_entry_Reader_entry.e1, F_entry_Reader_entry.e2, hide_eq, Int.reduceBEq, bIf_true, bIf_false]
  obtain ⟨x1, b1, e1, h1, hb1, d1⟩ := (rNum hn hn2).any b0 e0 hb0
  rw [h1, bnd_some]
  try dsimp only
  obtain ⟨x2, b2, e2, h2, hb2, d2⟩ := (rPart hn hn2).any b1 e1 hb1
  rw [h2, bnd_some]
  try dsimp only
  exact ⟨_, _, _, rfl, hb2, mkE ht hbk (h0) d1 (bdVerZ hn) (I64_0) (⟨h0, by intro t ht; exact nomatch ht⟩) (⟨h0, by intro t ht; exact nomatch ht⟩) (⟨h0, by intro t ht; exact nomatch ht⟩) d2⟩
theorem rJ_any_13 {n : Nat} (hn : 300 ≤ n) (hn2 : n ≤ 536870912) (q : D_entry_Reader) (b2 : E) {t : Int} {b : ByteArray} (ht : I64 t) (hbk : b.size < n) (b0 : List Int) (e0 : Int) (hb0 : BB n b0) :
    ∃ (x : E) (b' : List Int) (e' : Int), F_entry_Reader_entry.J1 n (q, b2, hdE 13 t b, (b0, e0, ()), ()) = some (x, (b', e', ()), ()) ∧ BB n b' ∧ bdE n x := by
  have h0 : 0 < n := by omega
  simp only [F_entry_Reader_entry.e1, F_entry_Reader_entry.e2, hide_eq, Int.reduceBEq, bIf_true, bIf_false]
  obtain ⟨x1, b1, e1, h1, hb1, d1⟩ := (rNum hn hn2).any b0 e0 hb0
  rw [h1, bnd_some]
  try dsimp only
  exact ⟨_, _, _, rfl, hb1, mkE ht hbk (h0) d1 (bdVerZ hn) (I64_0) (⟨h0, by intro t ht; exact nomatch ht⟩) (⟨h0, by intro t ht; exact nomatch ht⟩) (⟨h0, by intro t ht; exact nomatch ht⟩) (⟨U64_0, rfl, BY_zero 32⟩)⟩
theorem rJ_any {n : Nat} (hn : 300 ≤ n) (hn2 : n ≤ 536870912) (q : D_entry_Reader) (b2 : E) (k : Int) {t : Int} {b : ByteArray} (ht : I64 t) (hbk : b.size < n) (b0 : List Int) (e0 : Int) (hb0 : BB n b0) :
    ∃ (x : E) (b' : List Int) (e' : Int), F_entry_Reader_entry.J1 n (q, b2, hdE k t b, (b0, e0, ()), ()) = some (x, (b', e', ()), ()) ∧ BB n b' ∧ bdE n x := by
  by_cases hk' : 1 ≤ k ∧ k ≤ 13
  · have : k = 1 ∨ k = 2 ∨ k = 3 ∨ k = 4 ∨ k = 5 ∨ k = 6 ∨ k = 7 ∨ k = 8 ∨ k = 9 ∨ k = 10 ∨ k = 11 ∨ k = 12 ∨ k = 13 := by omega
    rcases this with h | h | h | h | h | h | h | h | h | h | h | h | h <;> subst h
    · exact rJ_any_1 hn hn2 q b2 ht hbk b0 e0 hb0
    · exact rJ_any_2 hn hn2 q b2 ht hbk b0 e0 hb0
    · exact rJ_any_3 hn hn2 q b2 ht hbk b0 e0 hb0
    · exact rJ_any_4 hn hn2 q b2 ht hbk b0 e0 hb0
    · exact rJ_any_5 hn hn2 q b2 ht hbk b0 e0 hb0
    · exact rJ_any_6 hn hn2 q b2 ht hbk b0 e0 hb0
    · exact rJ_any_7 hn hn2 q b2 ht hbk b0 e0 hb0
    · exact rJ_any_8 hn hn2 q b2 ht hbk b0 e0 hb0
    · exact rJ_any_9 hn hn2 q b2 ht hbk b0 e0 hb0
    · exact rJ_any_10 hn hn2 q b2 ht hbk b0 e0 hb0
    · exact rJ_any_11 hn hn2 q b2 ht hbk b0 e0 hb0
    · exact rJ_any_12 hn hn2 q b2 ht hbk b0 e0 hb0
    · exact rJ_any_13 hn hn2 q b2 ht hbk b0 e0 hb0
  · have c4 : (k == 4) = false := by rw [beq_eq_false_iff_ne]; omega
    have c5 : (k == 5) = false := by rw [beq_eq_false_iff_ne]; omega
    have c6 : (k == 6) = false := by rw [beq_eq_false_iff_ne]; omega
    have c7 : (k == 7) = false := by rw [beq_eq_false_iff_ne]; omega
    have c8 : (k == 8) = false := by rw [beq_eq_false_iff_ne]; omega
    have c9 : (k == 9) = false := by rw [beq_eq_false_iff_ne]; omega
    have c10 : (k == 10) = false := by rw [beq_eq_false_iff_ne]; omega
    have c11 : (k == 11) = false := by rw [beq_eq_false_iff_ne]; omega
    have c12 : (k == 12) = false := by rw [beq_eq_false_iff_ne]; omega
    have c13 : (k == 13) = false := by rw [beq_eq_false_iff_ne]; omega
    simp only [F_entry_Reader_entry.e1, F_entry_Reader_entry.e2, hide_eq, c4, c5, c6, c7, c8, c9, c10, c11, c12, c13, bIf_true, bIf_false]
    have h0 : 0 < n := by omega
    exact ⟨_, _, _, rfl, hb0, mkE ht hbk h0 U64_0 (bdVerZ hn) I64_0 ⟨h0, by intro t ht; exact nomatch ht⟩ ⟨h0, by intro t ht; exact nomatch ht⟩ ⟨h0, by intro t ht; exact nomatch ht⟩ ⟨U64_0, rfl, BY_zero 32⟩⟩
theorem rJ_enc_1 {n : Nat} (hn : 300 ≤ n) (hn2 : n ≤ 536870912) (q : D_entry_Reader) (b2 : E) (t : Int) (b y : ByteArray) (i : Int) (v : Ver) (l : D_api_Lock) (tg : List D_api_Tag) (d : D_api_Default) (r : List D_api_Rule) (g : List D_api_Grant) (p : D_api_Part) (u : Unit) (hs : Snd (1, t, b, y, i, v, l, tg, d, r, g, p, u)) (hr : ER (1, t, b, y, i, v, l, tg, d, r, g, p, u)) (rest : List Int) (hb : BB n (eK (1, t, b, y, i, v, l, tg, d, r, g, p, u) ++ rest)) :
    F_entry_Reader_entry.J1 n (q, b2, hdE 1 t b, (eK (1, t, b, y, i, v, l, tg, d, r, g, p, u) ++ rest, 0, ()), ()) = some ((1, t, b, y, i, v, l, tg, d, r, g, p, u), (rest, 0, ()), ()) := by
  have zk : y = (⟨#[]⟩ : ByteArray) := eqS_eq' (fld_no hs.key (show inB (hasB 1) 107 = false by decide +kernel))
  have zi : i = 0 := beq_iff_eq.1 (fld_no hs.id (show inB (hasB 1) 105 = false by decide +kernel))
  have zv : v = verZ := verEq hr.vdig rfl (fld_no hs.ver (show inB (hasB 1) 118 = false by decide +kernel))
  have zl : l = lockZ := lockEq (fld_no hs.lock (show inB (hasB 1) 108 = false by decide +kernel))
  have zt : tg = [] := len0 (fld_no hs.tags (show inB (hasB 1) 116 = false by decide +kernel))
  have zd : d = (0, (0, ())) := defEq (fld_no hs.dflt (show inB (hasB 1) 100 = false by decide +kernel))
  have zr : r = [] := len0 (fld_no hs.rules (show inB (hasB 1) 114 = false by decide +kernel))
  have zg : g = [] := len0 (fld_no hs.grants (show inB (hasB 1) 103 = false by decide +kernel))
  have zp : p = partZ := partEq hr.pdig rfl (fld_no hs.part (show inB (hasB 1) 112 = false by decide +kernel))
  rw [eK_1 _ rfl] at hb ⊢
  try dsimp only at hb ⊢
  try simp only [List.append_assoc] at hb ⊢
  simp only [F_entry_Reader_entry.e1, F_entry_Reader_entry.e2, hide_eq, Int.reduceBEq, bIf_true, bIf_false]
  rw [zk, zi, zv, zl, zt, zd, zr, zg, zp]
  try rfl
theorem rJ_enc_2 {n : Nat} (hn : 300 ≤ n) (hn2 : n ≤ 536870912) (q : D_entry_Reader) (b2 : E) (t : Int) (b y : ByteArray) (i : Int) (v : Ver) (l : D_api_Lock) (tg : List D_api_Tag) (d : D_api_Default) (r : List D_api_Rule) (g : List D_api_Grant) (p : D_api_Part) (u : Unit) (hs : Snd (2, t, b, y, i, v, l, tg, d, r, g, p, u)) (hr : ER (2, t, b, y, i, v, l, tg, d, r, g, p, u)) (rest : List Int) (hb : BB n (eK (2, t, b, y, i, v, l, tg, d, r, g, p, u) ++ rest)) :
    F_entry_Reader_entry.J1 n (q, b2, hdE 2 t b, (eK (2, t, b, y, i, v, l, tg, d, r, g, p, u) ++ rest, 0, ()), ()) = some ((2, t, b, y, i, v, l, tg, d, r, g, p, u), (rest, 0, ()), ()) := by
  have zk : y = (⟨#[]⟩ : ByteArray) := eqS_eq' (fld_no hs.key (show inB (hasB 2) 107 = false by decide +kernel))
  have zi : i = 0 := beq_iff_eq.1 (fld_no hs.id (show inB (hasB 2) 105 = false by decide +kernel))
  have zv : v = verZ := verEq hr.vdig rfl (fld_no hs.ver (show inB (hasB 2) 118 = false by decide +kernel))
  have zl : l = lockZ := lockEq (fld_no hs.lock (show inB (hasB 2) 108 = false by decide +kernel))
  have zt : tg = [] := len0 (fld_no hs.tags (show inB (hasB 2) 116 = false by decide +kernel))
  have zd : d = (0, (0, ())) := defEq (fld_no hs.dflt (show inB (hasB 2) 100 = false by decide +kernel))
  have zr : r = [] := len0 (fld_no hs.rules (show inB (hasB 2) 114 = false by decide +kernel))
  have zg : g = [] := len0 (fld_no hs.grants (show inB (hasB 2) 103 = false by decide +kernel))
  have zp : p = partZ := partEq hr.pdig rfl (fld_no hs.part (show inB (hasB 2) 112 = false by decide +kernel))
  rw [eK_2 _ rfl] at hb ⊢
  try dsimp only at hb ⊢
  try simp only [List.append_assoc] at hb ⊢
  simp only [F_entry_Reader_entry.e1, F_entry_Reader_entry.e2, hide_eq, Int.reduceBEq, bIf_true, bIf_false]
  rw [zk, zi, zv, zl, zt, zd, zr, zg, zp]
  try rfl
theorem rJ_enc_3 {n : Nat} (hn : 300 ≤ n) (hn2 : n ≤ 536870912) (q : D_entry_Reader) (b2 : E) (t : Int) (b y : ByteArray) (i : Int) (v : Ver) (l : D_api_Lock) (tg : List D_api_Tag) (d : D_api_Default) (r : List D_api_Rule) (g : List D_api_Grant) (p : D_api_Part) (u : Unit) (hs : Snd (3, t, b, y, i, v, l, tg, d, r, g, p, u)) (hr : ER (3, t, b, y, i, v, l, tg, d, r, g, p, u)) (rest : List Int) (hb : BB n (eK (3, t, b, y, i, v, l, tg, d, r, g, p, u) ++ rest)) :
    F_entry_Reader_entry.J1 n (q, b2, hdE 3 t b, (eK (3, t, b, y, i, v, l, tg, d, r, g, p, u) ++ rest, 0, ()), ()) = some ((3, t, b, y, i, v, l, tg, d, r, g, p, u), (rest, 0, ()), ()) := by
  have zk : y = (⟨#[]⟩ : ByteArray) := eqS_eq' (fld_no hs.key (show inB (hasB 3) 107 = false by decide +kernel))
  have zi : i = 0 := beq_iff_eq.1 (fld_no hs.id (show inB (hasB 3) 105 = false by decide +kernel))
  have zv : v = verZ := verEq hr.vdig rfl (fld_no hs.ver (show inB (hasB 3) 118 = false by decide +kernel))
  have zl : l = lockZ := lockEq (fld_no hs.lock (show inB (hasB 3) 108 = false by decide +kernel))
  have zt : tg = [] := len0 (fld_no hs.tags (show inB (hasB 3) 116 = false by decide +kernel))
  have zd : d = (0, (0, ())) := defEq (fld_no hs.dflt (show inB (hasB 3) 100 = false by decide +kernel))
  have zr : r = [] := len0 (fld_no hs.rules (show inB (hasB 3) 114 = false by decide +kernel))
  have zg : g = [] := len0 (fld_no hs.grants (show inB (hasB 3) 103 = false by decide +kernel))
  have zp : p = partZ := partEq hr.pdig rfl (fld_no hs.part (show inB (hasB 3) 112 = false by decide +kernel))
  rw [eK_3 _ rfl] at hb ⊢
  try dsimp only at hb ⊢
  try simp only [List.append_assoc] at hb ⊢
  simp only [F_entry_Reader_entry.e1, F_entry_Reader_entry.e2, hide_eq, Int.reduceBEq, bIf_true, bIf_false]
  rw [zk, zi, zv, zl, zt, zd, zr, zg, zp]
  try rfl
theorem rJ_enc_4 {n : Nat} (hn : 300 ≤ n) (hn2 : n ≤ 536870912) (q : D_entry_Reader) (b2 : E) (t : Int) (b y : ByteArray) (i : Int) (v : Ver) (l : D_api_Lock) (tg : List D_api_Tag) (d : D_api_Default) (r : List D_api_Rule) (g : List D_api_Grant) (p : D_api_Part) (u : Unit) (hs : Snd (4, t, b, y, i, v, l, tg, d, r, g, p, u)) (hr : ER (4, t, b, y, i, v, l, tg, d, r, g, p, u)) (rest : List Int) (hb : BB n (eK (4, t, b, y, i, v, l, tg, d, r, g, p, u) ++ rest)) :
    F_entry_Reader_entry.J1 n (q, b2, hdE 4 t b, (eK (4, t, b, y, i, v, l, tg, d, r, g, p, u) ++ rest, 0, ()), ()) = some ((4, t, b, y, i, v, l, tg, d, r, g, p, u), (rest, 0, ()), ()) := by
  have zk : y = (⟨#[]⟩ : ByteArray) := eqS_eq' (fld_no hs.key (show inB (hasB 4) 107 = false by decide +kernel))
  have zi : i = 0 := beq_iff_eq.1 (fld_no hs.id (show inB (hasB 4) 105 = false by decide +kernel))
  have zv : v = verZ := verEq hr.vdig rfl (fld_no hs.ver (show inB (hasB 4) 118 = false by decide +kernel))
  have zl : l = lockZ := lockEq (fld_no hs.lock (show inB (hasB 4) 108 = false by decide +kernel))
  have zt : tg = [] := len0 (fld_no hs.tags (show inB (hasB 4) 116 = false by decide +kernel))
  have gd := fld_yes hs.dflt (show inB (hasB 4) 100 = true by decide +kernel)
  have zr : r = [] := len0 (fld_no hs.rules (show inB (hasB 4) 114 = false by decide +kernel))
  have zg : g = [] := len0 (fld_no hs.grants (show inB (hasB 4) 103 = false by decide +kernel))
  have zp : p = partZ := partEq hr.pdig rfl (fld_no hs.part (show inB (hasB 4) 112 = false by decide +kernel))
  rw [eK_4 _ rfl] at hb ⊢
  try dsimp only at hb ⊢
  try simp only [List.append_assoc] at hb ⊢
  simp only [F_entry_Reader_entry.e1, F_entry_Reader_entry.e2, hide_eq, Int.reduceBEq, bIf_true, bIf_false]
  rw [(rDef hn hn2).enc _ _ (okDef_of gd) hb, bnd_some]
  try dsimp only
  rw [zk, zi, zv, zl, zt, zr, zg, zp]
theorem rJ_enc_5 {n : Nat} (hn : 300 ≤ n) (hn2 : n ≤ 536870912) (q : D_entry_Reader) (b2 : E) (t : Int) (b y : ByteArray) (i : Int) (v : Ver) (l : D_api_Lock) (tg : List D_api_Tag) (d : D_api_Default) (r : List D_api_Rule) (g : List D_api_Grant) (p : D_api_Part) (u : Unit) (hs : Snd (5, t, b, y, i, v, l, tg, d, r, g, p, u)) (hr : ER (5, t, b, y, i, v, l, tg, d, r, g, p, u)) (rest : List Int) (hb : BB n (eK (5, t, b, y, i, v, l, tg, d, r, g, p, u) ++ rest)) :
    F_entry_Reader_entry.J1 n (q, b2, hdE 5 t b, (eK (5, t, b, y, i, v, l, tg, d, r, g, p, u) ++ rest, 0, ()), ()) = some ((5, t, b, y, i, v, l, tg, d, r, g, p, u), (rest, 0, ()), ()) := by
  have zk : y = (⟨#[]⟩ : ByteArray) := eqS_eq' (fld_no hs.key (show inB (hasB 5) 107 = false by decide +kernel))
  have zi : i = 0 := beq_iff_eq.1 (fld_no hs.id (show inB (hasB 5) 105 = false by decide +kernel))
  have zv : v = verZ := verEq hr.vdig rfl (fld_no hs.ver (show inB (hasB 5) 118 = false by decide +kernel))
  have zl : l = lockZ := lockEq (fld_no hs.lock (show inB (hasB 5) 108 = false by decide +kernel))
  have zt : tg = [] := len0 (fld_no hs.tags (show inB (hasB 5) 116 = false by decide +kernel))
  have zd : d = (0, (0, ())) := defEq (fld_no hs.dflt (show inB (hasB 5) 100 = false by decide +kernel))
  have gr := fld_yes hs.rules (show inB (hasB 5) 114 = true by decide +kernel)
  have zg : g = [] := len0 (fld_no hs.grants (show inB (hasB 5) 103 = false by decide +kernel))
  have zp : p = partZ := partEq hr.pdig rfl (fld_no hs.part (show inB (hasB 5) 112 = false by decide +kernel))
  rw [eK_5 _ rfl] at hb ⊢
  try dsimp only at hb ⊢
  try simp only [List.append_assoc] at hb ⊢
  simp only [F_entry_Reader_entry.e1, F_entry_Reader_entry.e2, hide_eq, Int.reduceBEq, bIf_true, bIf_false]
  rw [(rRules hn hn2).enc _ _ (okRules_of gr) hb, bnd_some]
  try dsimp only
  rw [zk, zi, zv, zl, zt, zd, zg, zp]
theorem rJ_enc_6 {n : Nat} (hn : 300 ≤ n) (hn2 : n ≤ 536870912) (q : D_entry_Reader) (b2 : E) (t : Int) (b y : ByteArray) (i : Int) (v : Ver) (l : D_api_Lock) (tg : List D_api_Tag) (d : D_api_Default) (r : List D_api_Rule) (g : List D_api_Grant) (p : D_api_Part) (u : Unit) (hs : Snd (6, t, b, y, i, v, l, tg, d, r, g, p, u)) (hr : ER (6, t, b, y, i, v, l, tg, d, r, g, p, u)) (rest : List Int) (hb : BB n (eK (6, t, b, y, i, v, l, tg, d, r, g, p, u) ++ rest)) :
    F_entry_Reader_entry.J1 n (q, b2, hdE 6 t b, (eK (6, t, b, y, i, v, l, tg, d, r, g, p, u) ++ rest, 0, ()), ()) = some ((6, t, b, y, i, v, l, tg, d, r, g, p, u), (rest, 0, ()), ()) := by
  have zk : y = (⟨#[]⟩ : ByteArray) := eqS_eq' (fld_no hs.key (show inB (hasB 6) 107 = false by decide +kernel))
  have zi : i = 0 := beq_iff_eq.1 (fld_no hs.id (show inB (hasB 6) 105 = false by decide +kernel))
  have zv : v = verZ := verEq hr.vdig rfl (fld_no hs.ver (show inB (hasB 6) 118 = false by decide +kernel))
  have zl : l = lockZ := lockEq (fld_no hs.lock (show inB (hasB 6) 108 = false by decide +kernel))
  have zt : tg = [] := len0 (fld_no hs.tags (show inB (hasB 6) 116 = false by decide +kernel))
  have zd : d = (0, (0, ())) := defEq (fld_no hs.dflt (show inB (hasB 6) 100 = false by decide +kernel))
  have zr : r = [] := len0 (fld_no hs.rules (show inB (hasB 6) 114 = false by decide +kernel))
  have gg := fld_yes hs.grants (show inB (hasB 6) 103 = true by decide +kernel)
  have zp : p = partZ := partEq hr.pdig rfl (fld_no hs.part (show inB (hasB 6) 112 = false by decide +kernel))
  rw [eK_6 _ rfl] at hb ⊢
  try dsimp only at hb ⊢
  try simp only [List.append_assoc] at hb ⊢
  simp only [F_entry_Reader_entry.e1, F_entry_Reader_entry.e2, hide_eq, Int.reduceBEq, bIf_true, bIf_false]
  rw [(rGrants hn hn2).enc _ _ (okGrants_of gg) hb, bnd_some]
  try dsimp only
  rw [zk, zi, zv, zl, zt, zd, zr, zp]
theorem rJ_enc_7 {n : Nat} (hn : 300 ≤ n) (hn2 : n ≤ 536870912) (q : D_entry_Reader) (b2 : E) (t : Int) (b y : ByteArray) (i : Int) (v : Ver) (l : D_api_Lock) (tg : List D_api_Tag) (d : D_api_Default) (r : List D_api_Rule) (g : List D_api_Grant) (p : D_api_Part) (u : Unit) (hs : Snd (7, t, b, y, i, v, l, tg, d, r, g, p, u)) (hr : ER (7, t, b, y, i, v, l, tg, d, r, g, p, u)) (rest : List Int) (hb : BB n (eK (7, t, b, y, i, v, l, tg, d, r, g, p, u) ++ rest)) :
    F_entry_Reader_entry.J1 n (q, b2, hdE 7 t b, (eK (7, t, b, y, i, v, l, tg, d, r, g, p, u) ++ rest, 0, ()), ()) = some ((7, t, b, y, i, v, l, tg, d, r, g, p, u), (rest, 0, ()), ()) := by
  have gk := fld_yes hs.key (show inB (hasB 7) 107 = true by decide +kernel)
  have zi : i = 0 := beq_iff_eq.1 (fld_no hs.id (show inB (hasB 7) 105 = false by decide +kernel))
  have gv := fld_yes hs.ver (show inB (hasB 7) 118 = true by decide +kernel)
  have zl : l = lockZ := lockEq (fld_no hs.lock (show inB (hasB 7) 108 = false by decide +kernel))
  have zt : tg = [] := len0 (fld_no hs.tags (show inB (hasB 7) 116 = false by decide +kernel))
  have zd : d = (0, (0, ())) := defEq (fld_no hs.dflt (show inB (hasB 7) 100 = false by decide +kernel))
  have zr : r = [] := len0 (fld_no hs.rules (show inB (hasB 7) 114 = false by decide +kernel))
  have zg : g = [] := len0 (fld_no hs.grants (show inB (hasB 7) 103 = false by decide +kernel))
  have zp : p = partZ := partEq hr.pdig rfl (fld_no hs.part (show inB (hasB 7) 112 = false by decide +kernel))
  rw [eK_7 _ rfl] at hb ⊢
  try dsimp only at hb ⊢
  try simp only [List.append_assoc] at hb ⊢
  simp only [F_entry_Reader_entry.e1, F_entry_Reader_entry.e2, hide_eq, Int.reduceBEq, bIf_true, bIf_false]
  rw [(rText hn hn2).enc _ _ (show y.size ≤ 16384 by have h200 : y.size ≤ 200 := keyB_len gk; omega) hb, bnd_some]
  try dsimp only
  replace hb := BB_right hb
  rw [(rVer hn hn2).enc _ _ (okVer_of (Bool.and_eq_true _ _ ▸ gv).1 hr.vid hr.vmade hr.vblob hr.vdig hr.vlock) hb, bnd_some]
  try dsimp only
  rw [zi, zl, zt, zd, zr, zg, zp]
theorem rJ_enc_8 {n : Nat} (hn : 300 ≤ n) (hn2 : n ≤ 536870912) (q : D_entry_Reader) (b2 : E) (t : Int) (b y : ByteArray) (i : Int) (v : Ver) (l : D_api_Lock) (tg : List D_api_Tag) (d : D_api_Default) (r : List D_api_Rule) (g : List D_api_Grant) (p : D_api_Part) (u : Unit) (hs : Snd (8, t, b, y, i, v, l, tg, d, r, g, p, u)) (hr : ER (8, t, b, y, i, v, l, tg, d, r, g, p, u)) (rest : List Int) (hb : BB n (eK (8, t, b, y, i, v, l, tg, d, r, g, p, u) ++ rest)) :
    F_entry_Reader_entry.J1 n (q, b2, hdE 8 t b, (eK (8, t, b, y, i, v, l, tg, d, r, g, p, u) ++ rest, 0, ()), ()) = some ((8, t, b, y, i, v, l, tg, d, r, g, p, u), (rest, 0, ()), ()) := by
  have gk := fld_yes hs.key (show inB (hasB 8) 107 = true by decide +kernel)
  have gi := fld_yes hs.id (show inB (hasB 8) 105 = true by decide +kernel)
  have zv : v = verZ := verEq hr.vdig rfl (fld_no hs.ver (show inB (hasB 8) 118 = false by decide +kernel))
  have zl : l = lockZ := lockEq (fld_no hs.lock (show inB (hasB 8) 108 = false by decide +kernel))
  have zt : tg = [] := len0 (fld_no hs.tags (show inB (hasB 8) 116 = false by decide +kernel))
  have zd : d = (0, (0, ())) := defEq (fld_no hs.dflt (show inB (hasB 8) 100 = false by decide +kernel))
  have zr : r = [] := len0 (fld_no hs.rules (show inB (hasB 8) 114 = false by decide +kernel))
  have zg : g = [] := len0 (fld_no hs.grants (show inB (hasB 8) 103 = false by decide +kernel))
  have zp : p = partZ := partEq hr.pdig rfl (fld_no hs.part (show inB (hasB 8) 112 = false by decide +kernel))
  rw [eK_8 _ rfl] at hb ⊢
  try dsimp only at hb ⊢
  try simp only [List.append_assoc] at hb ⊢
  simp only [F_entry_Reader_entry.e1, F_entry_Reader_entry.e2, hide_eq, Int.reduceBEq, bIf_true, bIf_false]
  rw [(rText hn hn2).enc _ _ (show y.size ≤ 16384 by have h200 : y.size ≤ 200 := keyB_len gk; omega) hb, bnd_some]
  try dsimp only
  replace hb := BB_right hb
  rw [(rNum hn hn2).enc _ _ hr.id hb, bnd_some]
  try dsimp only
  rw [zv, zl, zt, zd, zr, zg, zp]
theorem rJ_enc_9 {n : Nat} (hn : 300 ≤ n) (hn2 : n ≤ 536870912) (q : D_entry_Reader) (b2 : E) (t : Int) (b y : ByteArray) (i : Int) (v : Ver) (l : D_api_Lock) (tg : List D_api_Tag) (d : D_api_Default) (r : List D_api_Rule) (g : List D_api_Grant) (p : D_api_Part) (u : Unit) (hs : Snd (9, t, b, y, i, v, l, tg, d, r, g, p, u)) (hr : ER (9, t, b, y, i, v, l, tg, d, r, g, p, u)) (rest : List Int) (hb : BB n (eK (9, t, b, y, i, v, l, tg, d, r, g, p, u) ++ rest)) :
    F_entry_Reader_entry.J1 n (q, b2, hdE 9 t b, (eK (9, t, b, y, i, v, l, tg, d, r, g, p, u) ++ rest, 0, ()), ()) = some ((9, t, b, y, i, v, l, tg, d, r, g, p, u), (rest, 0, ()), ()) := by
  have gk := fld_yes hs.key (show inB (hasB 9) 107 = true by decide +kernel)
  have gi := fld_yes hs.id (show inB (hasB 9) 105 = true by decide +kernel)
  have zv : v = verZ := verEq hr.vdig rfl (fld_no hs.ver (show inB (hasB 9) 118 = false by decide +kernel))
  have gl := fld_yes hs.lock (show inB (hasB 9) 108 = true by decide +kernel)
  have zt : tg = [] := len0 (fld_no hs.tags (show inB (hasB 9) 116 = false by decide +kernel))
  have zd : d = (0, (0, ())) := defEq (fld_no hs.dflt (show inB (hasB 9) 100 = false by decide +kernel))
  have zr : r = [] := len0 (fld_no hs.rules (show inB (hasB 9) 114 = false by decide +kernel))
  have zg : g = [] := len0 (fld_no hs.grants (show inB (hasB 9) 103 = false by decide +kernel))
  have zp : p = partZ := partEq hr.pdig rfl (fld_no hs.part (show inB (hasB 9) 112 = false by decide +kernel))
  rw [eK_9 _ rfl] at hb ⊢
  try dsimp only at hb ⊢
  try simp only [List.append_assoc] at hb ⊢
  simp only [F_entry_Reader_entry.e1, F_entry_Reader_entry.e2, hide_eq, Int.reduceBEq, bIf_true, bIf_false]
  rw [(rText hn hn2).enc _ _ (show y.size ≤ 16384 by have h200 : y.size ≤ 200 := keyB_len gk; omega) hb, bnd_some]
  try dsimp only
  replace hb := BB_right hb
  rw [(rNum hn hn2).enc _ _ hr.id hb, bnd_some]
  try dsimp only
  replace hb := BB_right hb
  rw [(rLock hn hn2).enc _ _ (okLock_of gl hr.lock) hb, bnd_some]
  try dsimp only
  rw [zv, zt, zd, zr, zg, zp]
theorem rJ_enc_10 {n : Nat} (hn : 300 ≤ n) (hn2 : n ≤ 536870912) (q : D_entry_Reader) (b2 : E) (t : Int) (b y : ByteArray) (i : Int) (v : Ver) (l : D_api_Lock) (tg : List D_api_Tag) (d : D_api_Default) (r : List D_api_Rule) (g : List D_api_Grant) (p : D_api_Part) (u : Unit) (hs : Snd (10, t, b, y, i, v, l, tg, d, r, g, p, u)) (hr : ER (10, t, b, y, i, v, l, tg, d, r, g, p, u)) (rest : List Int) (hb : BB n (eK (10, t, b, y, i, v, l, tg, d, r, g, p, u) ++ rest)) :
    F_entry_Reader_entry.J1 n (q, b2, hdE 10 t b, (eK (10, t, b, y, i, v, l, tg, d, r, g, p, u) ++ rest, 0, ()), ()) = some ((10, t, b, y, i, v, l, tg, d, r, g, p, u), (rest, 0, ()), ()) := by
  have gk := fld_yes hs.key (show inB (hasB 10) 107 = true by decide +kernel)
  have gi := fld_yes hs.id (show inB (hasB 10) 105 = true by decide +kernel)
  have zv : v = verZ := verEq hr.vdig rfl (fld_no hs.ver (show inB (hasB 10) 118 = false by decide +kernel))
  have zl : l = lockZ := lockEq (fld_no hs.lock (show inB (hasB 10) 108 = false by decide +kernel))
  have gt := fld_yes hs.tags (show inB (hasB 10) 116 = true by decide +kernel)
  have zd : d = (0, (0, ())) := defEq (fld_no hs.dflt (show inB (hasB 10) 100 = false by decide +kernel))
  have zr : r = [] := len0 (fld_no hs.rules (show inB (hasB 10) 114 = false by decide +kernel))
  have zg : g = [] := len0 (fld_no hs.grants (show inB (hasB 10) 103 = false by decide +kernel))
  have zp : p = partZ := partEq hr.pdig rfl (fld_no hs.part (show inB (hasB 10) 112 = false by decide +kernel))
  rw [eK_10 _ rfl] at hb ⊢
  try dsimp only at hb ⊢
  try simp only [List.append_assoc] at hb ⊢
  simp only [F_entry_Reader_entry.e1, F_entry_Reader_entry.e2, hide_eq, Int.reduceBEq, bIf_true, bIf_false]
  rw [(rText hn hn2).enc _ _ (show y.size ≤ 16384 by have h200 : y.size ≤ 200 := keyB_len gk; omega) hb, bnd_some]
  try dsimp only
  replace hb := BB_right hb
  rw [(rNum hn hn2).enc _ _ hr.id hb, bnd_some]
  try dsimp only
  replace hb := BB_right hb
  rw [(rTags hn hn2).enc _ _ (okTags_of gt) hb, bnd_some]
  try dsimp only
  rw [zv, zl, zd, zr, zg, zp]
theorem rJ_enc_11 {n : Nat} (hn : 300 ≤ n) (hn2 : n ≤ 536870912) (q : D_entry_Reader) (b2 : E) (t : Int) (b y : ByteArray) (i : Int) (v : Ver) (l : D_api_Lock) (tg : List D_api_Tag) (d : D_api_Default) (r : List D_api_Rule) (g : List D_api_Grant) (p : D_api_Part) (u : Unit) (hs : Snd (11, t, b, y, i, v, l, tg, d, r, g, p, u)) (hr : ER (11, t, b, y, i, v, l, tg, d, r, g, p, u)) (rest : List Int) (hb : BB n (eK (11, t, b, y, i, v, l, tg, d, r, g, p, u) ++ rest)) :
    F_entry_Reader_entry.J1 n (q, b2, hdE 11 t b, (eK (11, t, b, y, i, v, l, tg, d, r, g, p, u) ++ rest, 0, ()), ()) = some ((11, t, b, y, i, v, l, tg, d, r, g, p, u), (rest, 0, ()), ()) := by
  have gk := fld_yes hs.key (show inB (hasB 11) 107 = true by decide +kernel)
  have gi := fld_yes hs.id (show inB (hasB 11) 105 = true by decide +kernel)
  have zv : v = verZ := verEq hr.vdig rfl (fld_no hs.ver (show inB (hasB 11) 118 = false by decide +kernel))
  have zl : l = lockZ := lockEq (fld_no hs.lock (show inB (hasB 11) 108 = false by decide +kernel))
  have gt := fld_yes hs.tags (show inB (hasB 11) 116 = true by decide +kernel)
  have zd : d = (0, (0, ())) := defEq (fld_no hs.dflt (show inB (hasB 11) 100 = false by decide +kernel))
  have zr : r = [] := len0 (fld_no hs.rules (show inB (hasB 11) 114 = false by decide +kernel))
  have zg : g = [] := len0 (fld_no hs.grants (show inB (hasB 11) 103 = false by decide +kernel))
  have zp : p = partZ := partEq hr.pdig rfl (fld_no hs.part (show inB (hasB 11) 112 = false by decide +kernel))
  rw [eK_11 _ rfl] at hb ⊢
  try dsimp only at hb ⊢
  try simp only [List.append_assoc] at hb ⊢
  simp only [F_entry_Reader_entry.e1, F_entry_Reader_entry.e2, hide_eq, Int.reduceBEq, bIf_true, bIf_false]
  rw [(rText hn hn2).enc _ _ (show y.size ≤ 16384 by have h200 : y.size ≤ 200 := keyB_len gk; omega) hb, bnd_some]
  try dsimp only
  replace hb := BB_right hb
  rw [(rNum hn hn2).enc _ _ hr.id hb, bnd_some]
  try dsimp only
  replace hb := BB_right hb
  rw [(rTags hn hn2).enc _ _ (okTags_of gt) hb, bnd_some]
  try dsimp only
  rw [zv, zl, zd, zr, zg, zp]
theorem rJ_enc_12 {n : Nat} (hn : 300 ≤ n) (hn2 : n ≤ 536870912) (q : D_entry_Reader) (b2 : E) (t : Int) (b y : ByteArray) (i : Int) (v : Ver) (l : D_api_Lock) (tg : List D_api_Tag) (d : D_api_Default) (r : List D_api_Rule) (g : List D_api_Grant) (p : D_api_Part) (u : Unit) (hs : Snd (12, t, b, y, i, v, l, tg, d, r, g, p, u)) (hr : ER (12, t, b, y, i, v, l, tg, d, r, g, p, u)) (rest : List Int) (hb : BB n (eK (12, t, b, y, i, v, l, tg, d, r, g, p, u) ++ rest)) :
    F_entry_Reader_entry.J1 n (q, b2, hdE 12 t b, (eK (12, t, b, y, i, v, l, tg, d, r, g, p, u) ++ rest, 0, ()), ()) = some ((12, t, b, y, i, v, l, tg, d, r, g, p, u), (rest, 0, ()), ()) := by
  have zk : y = (⟨#[]⟩ : ByteArray) := eqS_eq' (fld_no hs.key (show inB (hasB 12) 107 = false by decide +kernel))
  have gi := fld_yes hs.id (show inB (hasB 12) 105 = true by decide +kernel)
  have zv : v = verZ := verEq hr.vdig rfl (fld_no hs.ver (show inB (hasB 12) 118 = false by decide +kernel))
  have zl : l = lockZ := lockEq (fld_no hs.lock (show inB (hasB 12) 108 = false by decide +kernel))
  have zt : tg = [] := len0 (fld_no hs.tags (show inB (hasB 12) 116 = false by decide +kernel))
  have zd : d = (0, (0, ())) := defEq (fld_no hs.dflt (show inB (hasB 12) 100 = false by decide +kernel))
  have zr : r = [] := len0 (fld_no hs.rules (show inB (hasB 12) 114 = false by decide +kernel))
  have zg : g = [] := len0 (fld_no hs.grants (show inB (hasB 12) 103 = false by decide +kernel))
  have gp := fld_yes hs.part (show inB (hasB 12) 112 = true by decide +kernel)
  rw [eK_12 _ rfl] at hb ⊢
  try dsimp only at hb ⊢
  try simp only [List.append_assoc] at hb ⊢
  simp only [F_entry_Reader_entry.e1, F_entry_Reader_entry.e2, hide_eq, Int.reduceBEq, bIf_true, bIf_false]
  rw [(rNum hn hn2).enc _ _ hr.id hb, bnd_some]
  try dsimp only
  replace hb := BB_right hb
  rw [(rPart hn hn2).enc _ _ (okPart_of gp hr.pblob hr.pdig) hb, bnd_some]
  try dsimp only
  rw [zk, zv, zl, zt, zd, zr, zg]
theorem rJ_enc_13 {n : Nat} (hn : 300 ≤ n) (hn2 : n ≤ 536870912) (q : D_entry_Reader) (b2 : E) (t : Int) (b y : ByteArray) (i : Int) (v : Ver) (l : D_api_Lock) (tg : List D_api_Tag) (d : D_api_Default) (r : List D_api_Rule) (g : List D_api_Grant) (p : D_api_Part) (u : Unit) (hs : Snd (13, t, b, y, i, v, l, tg, d, r, g, p, u)) (hr : ER (13, t, b, y, i, v, l, tg, d, r, g, p, u)) (rest : List Int) (hb : BB n (eK (13, t, b, y, i, v, l, tg, d, r, g, p, u) ++ rest)) :
    F_entry_Reader_entry.J1 n (q, b2, hdE 13 t b, (eK (13, t, b, y, i, v, l, tg, d, r, g, p, u) ++ rest, 0, ()), ()) = some ((13, t, b, y, i, v, l, tg, d, r, g, p, u), (rest, 0, ()), ()) := by
  have zk : y = (⟨#[]⟩ : ByteArray) := eqS_eq' (fld_no hs.key (show inB (hasB 13) 107 = false by decide +kernel))
  have gi := fld_yes hs.id (show inB (hasB 13) 105 = true by decide +kernel)
  have zv : v = verZ := verEq hr.vdig rfl (fld_no hs.ver (show inB (hasB 13) 118 = false by decide +kernel))
  have zl : l = lockZ := lockEq (fld_no hs.lock (show inB (hasB 13) 108 = false by decide +kernel))
  have zt : tg = [] := len0 (fld_no hs.tags (show inB (hasB 13) 116 = false by decide +kernel))
  have zd : d = (0, (0, ())) := defEq (fld_no hs.dflt (show inB (hasB 13) 100 = false by decide +kernel))
  have zr : r = [] := len0 (fld_no hs.rules (show inB (hasB 13) 114 = false by decide +kernel))
  have zg : g = [] := len0 (fld_no hs.grants (show inB (hasB 13) 103 = false by decide +kernel))
  have zp : p = partZ := partEq hr.pdig rfl (fld_no hs.part (show inB (hasB 13) 112 = false by decide +kernel))
  rw [eK_13 _ rfl] at hb ⊢
  try dsimp only at hb ⊢
  try simp only [List.append_assoc] at hb ⊢
  simp only [F_entry_Reader_entry.e1, F_entry_Reader_entry.e2, hide_eq, Int.reduceBEq, bIf_true, bIf_false]
  rw [(rNum hn hn2).enc _ _ hr.id hb, bnd_some]
  try dsimp only
  rw [zk, zv, zl, zt, zd, zr, zg, zp]
theorem rE {n : Nat} (hn : 300 ≤ n) (hn2 : n ≤ 536870912) : Rd n (α := E) (F_entry_Reader_entry.f n) eE okE (bdE n) where
  any b0 e0 hb0 := by
    rw [F_entry_Reader_entry.e0]
    obtain ⟨x1, b1, e1, h1, hb1, d1⟩ := (rSmall hn hn2).any b0 e0 hb0
    rw [h1, bnd_some]
    try dsimp only
    obtain ⟨x2, b2, e2, h2, hb2, d2⟩ := (rInt hn hn2).any b1 e1 hb1
    rw [h2, bnd_some, hide_eq]
    try dsimp only
    cases (x1 != 1)
    · rw [bIf_false]
      exact rJ_any hn hn2 _ _ x1 d2 (by change 0 < n; omega) b2 e2 hb2
    · obtain ⟨x3, b3, e3, h3, hb3, d3⟩ := (rText hn hn2).any b2 e2 hb2
      rw [bIf_true, h3, bnd_some]
      try dsimp only
      exact rJ_any hn hn2 _ _ x1 d2 d3 b3 e3 hb3
  enc e rest he hb := by
    obtain ⟨hs, hr⟩ := he
    have hk := hs.kind
    have hb0 := hs.buck
    rw [F_entry_Reader_entry.e0]
    rw [eE_eq] at hb ⊢
    simp only [List.append_assoc] at hb ⊢
    rw [(rSmall hn hn2).enc _ _ ⟨by omega, by omega⟩ hb, bnd_some]
    try dsimp only
    replace hb := BB_right hb
    rw [(rInt hn hn2).enc _ _ hr.time hb, bnd_some, hide_eq]
    try dsimp only
    replace hb := BB_right hb
    have key : ∀ q b2, BB n (eK e ++ rest) → F_entry_Reader_entry.J1 n (q, b2, hdE e.1 e.2.1 e.2.2.1, (eK e ++ rest, 0, ()), ()) = some (e, (rest, 0, ()), ()) := by
      intro q b2 hb
      have hkk := hs.kinds
      obtain ⟨k, t, b, y, i, v, l, tg, d, r, g, p, u⟩ := e
      dsimp only at hkk
      rcases hkk with h | h | h | h | h | h | h | h | h | h | h | h | h <;> subst h
      · exact rJ_enc_1 hn hn2 q b2 t b y i v l tg d r g p u hs hr rest hb
      · exact rJ_enc_2 hn hn2 q b2 t b y i v l tg d r g p u hs hr rest hb
      · exact rJ_enc_3 hn hn2 q b2 t b y i v l tg d r g p u hs hr rest hb
      · exact rJ_enc_4 hn hn2 q b2 t b y i v l tg d r g p u hs hr rest hb
      · exact rJ_enc_5 hn hn2 q b2 t b y i v l tg d r g p u hs hr rest hb
      · exact rJ_enc_6 hn hn2 q b2 t b y i v l tg d r g p u hs hr rest hb
      · exact rJ_enc_7 hn hn2 q b2 t b y i v l tg d r g p u hs hr rest hb
      · exact rJ_enc_8 hn hn2 q b2 t b y i v l tg d r g p u hs hr rest hb
      · exact rJ_enc_9 hn hn2 q b2 t b y i v l tg d r g p u hs hr rest hb
      · exact rJ_enc_10 hn hn2 q b2 t b y i v l tg d r g p u hs hr rest hb
      · exact rJ_enc_11 hn hn2 q b2 t b y i v l tg d r g p u hs hr rest hb
      · exact rJ_enc_12 hn hn2 q b2 t b y i v l tg d r g p u hs hr rest hb
      · exact rJ_enc_13 hn hn2 q b2 t b y i v l tg d r g p u hs hr rest hb
    by_cases h1 : e.1 = 1
    · rw [if_pos h1] at hb ⊢ hb0
      rw [List.nil_append] at hb ⊢
      rw [show (e.1 != 1) = false by rw [h1]; rfl, bIf_false]
      have hbb := eqS_eq' hb0
      rw [hbb] at key
      exact key _ _ hb
    · rw [if_neg h1] at hb ⊢ hb0
      have := bucketB_len hb0
      rw [show (e.1 != 1) = true by rw [bne, beq_eq_false_iff_ne.2 h1]; rfl, bIf_true, (rText hn hn2).enc _ _ (by omega) hb, bnd_some]
      try dsimp only
      exact key _ _ (BB_right hb)
end Go.Proofs.YtcpkhpboemfglaaGreatDoor

namespace Go.Proofs.YtcpkhpboemfglaaGreatDoor
open Go Go.Va Go.Proofs

theorem BY_app {a b : List Int} (ha : BY a) (hb : BY b) : BY (a ++ b) := by
  intro x hx
  rcases List.mem_append.1 hx with h | h
  · exact ha x h
  · exact hb x h
theorem BY_nil : BY [] := by intro x h; exact nomatch h
theorem BY_flat {α : Type} {f : α → List Int} {l : List α} (h : ∀ x ∈ l, BY (f x)) : BY (l.flatMap f) := by
  intro y hy
  obtain ⟨x, hx, hy⟩ := List.mem_flatMap.1 hy
  exact h x hx y hy
theorem BY_N (x : Int) : BY (eN x) := eN_byte x
theorem BY_W (x : Int) : BY (eW x) := eN_byte _
theorem BY_I (x : Int) : BY (eI x) := eN_byte _
theorem BY_F (b : Bool) : BY (eF b) := by intro x hx; unfold eF at hx; rw [List.mem_singleton] at hx; subst hx; cases b <;> decide
theorem BY_T (s : ByteArray) : BY (eT s) := BY_app (BY_W _) fun x hx => ofBytes_range hx
theorem BY_Tags (l : List D_api_Tag) : BY (eTags l) := BY_app (BY_W _) (BY_flat fun t _ => BY_app (BY_T _) (BY_T _))
theorem BY_Lock (l : D_api_Lock) : BY (eLock l) := BY_app (BY_W _) (BY_app (BY_I _) (BY_F _))
theorem BY_Ver {v : Ver} (h : BY (dig v)) : BY (eVer v) := by
  refine BY_app (BY_N _) (BY_app (BY_F _) (BY_app (BY_I _) ?_))
  split
  · exact BY_nil
  · exact BY_app (BY_W _) (BY_app (BY_N _) (BY_app h (BY_app (BY_Lock _) (BY_Tags _))))
theorem BY_fld {e : E} (h : EY e) (c : UInt8) : BY (fldE e c) := by
  unfold fldE
  split
  · exact BY_T _
  split
  · exact BY_N _
  split
  · exact BY_Ver h.1
  split
  · exact BY_Lock _
  split
  · exact BY_Tags _
  split
  · exact BY_app (BY_W _) (BY_W _)
  split
  · exact BY_app (BY_W _) (BY_flat fun r _ => BY_app (BY_T _) (BY_app (BY_Tags _) (BY_app (BY_W _) (BY_app (BY_W _) (BY_F _)))))
  split
  · exact BY_app (BY_W _) (BY_flat fun r _ => BY_app (BY_F _) (BY_app (BY_T _) (BY_app (BY_T _) (BY_T _))))
  split
  · exact BY_app (BY_W _) (BY_app (BY_W _) (BY_app (BY_N _) h.2))
  · exact BY_nil
theorem BY_E {e : E} (h : EY e) : BY (eE e) := by
  refine BY_app (BY_W _) (BY_app (BY_I _) (BY_app ?_ (BY_flat fun c _ => BY_fld h c)))
  split
  · exact BY_nil
  · exact BY_T _
theorem BY_L {l : List E} (h : ∀ e ∈ l, EY e) : BY (encL l) := BY_app (BY_W _) (BY_flat fun e he => BY_E (h e he))
theorem bytes_inj {a b : List Int} (ha : BY a) (hb : BY b) (h : eqS (bytesOf a) (bytesOf b) = true) : a = b := by
  have := congrArg ofBytes (eqS_eq' h)
  rwa [ofBytes_bytesOf ha, ofBytes_bytesOf hb] at this

/-- What every list of changes that comes in is. -/
structure EsI (n : Nat) (l : List E) : Prop where
  r : EsR n l
  y : ∀ e ∈ l, EY e
theorem encS_ok {l : List E} (h : (encS l).2 = 0) : (encS l).1 = encL l ∧ 1 ≤ l.length ∧ l.length ≤ 8 ∧ (∀ e ∈ l, soundE e = true) ∧ (encL l).length ≤ 16384 := by
  unfold encS at h ⊢
  split at h
  · rename_i h1
    split at h
    · rename_i h2
      split at h
      · rename_i h3
        rw [if_pos h1, if_pos h2, if_pos h3]
        exact ⟨rfl, h1.1, h1.2, List.all_eq_true.1 h2, h3⟩
      · exact absurd h (by decide)
    · exact absurd h (by decide)
  · exact absurd h (by decide)

theorem dec_hs {n : Nat} (hn : 300 ≤ n) (hn2 : n ≤ 536870912) (b : List Int) (c : Nat) (hc : c ≤ 8) : ∀ m (out : List E) (k : Nat) r x r', k < c → out.length = k → F_entry_Reader_entry.f n r = some (x, r', ()) →
    F_entry_Decode.J1 n (m + 1) (b, out, (c : Int), (k : Int), ((), ()), r, ()) = F_entry_Decode.J1 n m (b, out ++ [x], (c : Int), ((k + 1 : Nat) : Int), ((), ()), r', ()) := by
  intro m out k r x r' hk ho hF
  rw [F_entry_Decode.e1, hide_eq, decide_eq_true (by omega), bIf_true, hF, bnd_some, gIf_pos (by omega), cast_up k (by omega)]
theorem dec_he {n : Nat} (hn : 300 ≤ n) (hn2 : n ≤ 536870912) (b : List Int) (c : Nat) : ∀ m (out : List E) r, out.length = c → F_entry_Decode.J1 n (m + 1) (b, out, (c : Int), (c : Int), ((), ()), r, ()) = F_entry_Decode.J2 n (b, out, ((), ()), r, ()) := by
  intro m out r _
  rw [F_entry_Decode.e1, hide_eq, decide_eq_false (by omega), bIf_false]
theorem dec_any {n : Nat} (hn : 300 ≤ n) (hn2 : n ≤ 536870912) {b : List Int} (hb : BB n b) : ∃ (out : List E) (b' : List Int) (e' : Int), F_entry_Decode.f n b = F_entry_Decode.J2 n (b, out, ((), ()), (b', e', ()), ()) ∧ BB n b' ∧ EsI n out := by
  have hlen := hb.len
  rw [F_entry_Decode.e0, F_entry_NewReader.e0, F_pack_Read.e0, clone_byte (by omega), bnd_some, bnd_some, bnd_some]
  try dsimp only
  obtain ⟨c, b1, e1, h1, hb1, h2, h3⟩ := (rCount hn hn2 (most := 8) (by omega)).any b 0 hb
  obtain ⟨y, rfl⟩ := Int.eq_ofNat_of_zero_le h2
  try dsimp only at h1
  rw [h1, bnd_some]
  try dsimp only
  obtain ⟨out', b', e', h4, h5, h6, h7⟩ := rd_any (rE hn hn2) y (fun m out k r => F_entry_Decode.J1 n m (b, out, (y : Int), k, ((), ()), r, ())) (fun out r => F_entry_Decode.J2 n (b, out, ((), ()), r, ())) (dec_hs hn hn2 b y (by omega)) (dec_he hn hn2 b y) n 0 [] b1 e1 (by omega) (by omega) rfl (by intro x hx; exact nomatch hx) hb1
  try dsimp only at h4
  rw [show ((0 : Nat) : Int) = 0 from rfl] at h4
  rw [h4]
  exact ⟨out', b', e', rfl, h5, ⟨⟨⟨by omega, fun x hx => (h7 x hx).1⟩, fun x hx => (h7 x hx).2.1⟩, fun x hx => (h7 x hx).2.2⟩⟩
theorem dec_enc {n : Nat} (hn : 300 ≤ n) (hn2 : n ≤ 536870912) {l : List E} (hl : l.length ≤ 8) (hok : ∀ e ∈ l, okE e) {rest : List Int} (hb : BB n (encL l ++ rest)) :
    F_entry_Decode.f n (encL l ++ rest) = F_entry_Decode.J2 n (encL l ++ rest, l, ((), ()), (rest, 0, ()), ()) := by
  have hlen := hb.len
  rw [F_entry_Decode.e0, F_entry_NewReader.e0, F_pack_Read.e0, clone_byte (by omega), bnd_some, bnd_some, bnd_some]
  try dsimp only
  have hb2 := hb
  have h1 : F_pack_Reader_Count.f n (encL l ++ rest, 0, ()) 8 = some (((l.length : Nat) : Int), (l.flatMap eE ++ rest, 0, ()), ()) := by
    unfold encL at hb2 ⊢
    rw [List.append_assoc] at hb2 ⊢
    exact (rCount hn hn2 (most := 8) (by omega)).enc _ _ ⟨by omega, by omega⟩ hb2
  rw [h1, bnd_some]
  try dsimp only
  have hb3 : BB n (l.flatMap eE ++ rest) := by
    unfold encL at hb2
    rw [List.append_assoc] at hb2
    exact BB_right hb2
  have h4 := rd_enc (rE hn hn2) l.length (fun m out k r => F_entry_Decode.J1 n m (encL l ++ rest, out, ((l.length : Nat) : Int), k, ((), ()), r, ())) (fun out r => F_entry_Decode.J2 n (encL l ++ rest, out, ((), ()), r, ())) (dec_hs hn hn2 _ _ hl) (dec_he hn hn2 _ _) rest n l 0 [] (by omega) (by omega) rfl hok hb3
  try dsimp only at h4
  rw [show ((0 : Nat) : Int) = 0 from rfl] at h4
  rw [h4, List.nil_append]
theorem rEnd {n : Nat} (hn : 300 ≤ n) (hn2 : n ≤ 536870912) (b : List Int) (e : Int) : ∃ r', F_pack_Reader_End.f n (b, e, ()) = some ((if e = 0 then if b.length = 0 then 0 else 2 else e), r', ()) := by
  rw [F_pack_Reader_End.e0]
  simp only [hide_eq, bIf_true, bIf_false, F_pack_Reader_End.e1, F_pack_Reader_Error.e0, rfail, bnd_some]
  by_cases h : e = 0
  · subst h
    rw [show ((0 : Int) == 0) = true from rfl, bIf_true, if_pos rfl]
    by_cases h0 : b.length = 0
    · rw [decide_eq_false (by omega), bIf_false, if_pos h0]; exact ⟨_, rfl⟩
    · rw [decide_eq_true (by omega), bIf_true, if_neg h0]; exact ⟨_, rfl⟩
  · rw [show (e == 0) = false from beq_eq_false_iff_ne.2 h, bIf_false, if_neg h]; exact ⟨_, rfl⟩
theorem clip_E {n : Nat} (hn : 300 ≤ n) (hn2 : n ≤ 536870912) (l : List E) : F_slices_Clip_Entry.f n l = some (l, ()) := by
  rw [F_slices_Clip_Entry.e0, gIf_pos ⟨by omega, by omega⟩, gIf_pos ⟨by omega, by omega⟩, gIf_pos ⟨by omega, by omega, rfl⟩, Int.toNat_natCast, List.take_length, List.drop_zero]
/-- What Decode tells at last. -/
theorem dec_J2 {n : Nat} (hn : 300 ≤ n) (hn2 : n ≤ 536870912) (b : List Int) {l : List E} (hl : EsR n l) (b' : List Int) (e' : Int) : F_entry_Decode.J2 n (b, l, ((), ()), (b', e', ()), ()) =
    if e' = 0 ∧ b'.length = 0 ∧ (encS l).2 = 0 ∧ eqS (bytesOf (encS l).1) (bytesOf b) = true then some (l, 0, ()) else some ([], 2, ()) := by
  obtain ⟨r', h1⟩ := rEnd hn hn2 b' e'
  rw [F_entry_Decode.e2, h1, bnd_some, hide_eq]
  try dsimp only
  by_cases h : e' = 0
  · rw [if_pos h]
    by_cases h0 : b'.length = 0
    · rw [if_pos h0, show ((0 : Int) != 0) = false from rfl, bIf_false, entry_Encode hn hl hn2, bnd_some, hide_eq]
      try dsimp only
      by_cases h2 : (encS l).2 = 0
      · rw [h2, show ((0 : Int) != 0) = false from rfl, bIf_false, F_bytes_Equal.e0, bnd_some, hide_eq]
        try dsimp only
        cases h3 : eqS (bytesOf (encS l).1) (bytesOf b)
        · rw [Bool.not_false, bIf_true, if_neg (by rintro ⟨_, _, _, h⟩; exact nomatch h)]
        · rw [Bool.not_true, bIf_false, F_entry_Decode.e3, clip_E hn hn2, bnd_some, if_pos ⟨h, h0, rfl, rfl⟩]
      · rw [show ((encS l).2 != 0) = true by rw [bne, beq_eq_false_iff_ne.2 h2]; rfl, bIf_true, if_neg (fun hh => h2 hh.2.2.1)]
    · rw [if_neg h0, if_neg (fun hh => h0 hh.2.1)]; rfl
  · rw [if_neg h, show (e' != 0) = true by rw [bne, beq_eq_false_iff_ne.2 h]; rfl, bIf_true, if_neg (fun hh => h hh.1)]
theorem okE_of {n : Nat} (hn : 300 ≤ n) (hn2 : n ≤ 536870912) {l : List E} (hl : EsR n l) (h : (encS l).2 = 0) : ∀ e ∈ l, okE e := fun e he => ⟨snd_of ((encS_ok h).2.2.2.1 e he), hl.r e he⟩
/-- What is written is read, with nothing behind it. -/
theorem dec_back {n : Nat} (hn : 300 ≤ n) (hn2 : n ≤ 536870912) {l : List E} (hl : EsI n l) (h : (encS l).2 = 0) (h17 : 20000 ≤ n) : F_entry_Decode.f n (encL l) = some (l, 0, ()) := by
  obtain ⟨h1, h2, h3, h4, h5⟩ := encS_ok h
  have := dec_enc hn hn2 h3 (okE_of hn hn2 hl.r h) (rest := []) ⟨by rw [List.append_nil]; omega, by rw [List.append_nil]; exact BY_L hl.y⟩
  rw [List.append_nil] at this
  rw [this, dec_J2 hn hn2 _ hl.r, if_pos ⟨rfl, rfl, h, by rw [h1]; exact eqS_self _⟩]
theorem dec_more {n : Nat} (hn : 300 ≤ n) (hn2 : n ≤ 536870912) {l : List E} (hl : EsI n l) (h : (encS l).2 = 0) {q : List Int} (hq : q ≠ []) (hb : BB n (encL l ++ q)) : F_entry_Decode.f n (encL l ++ q) = some ([], 2, ()) := by
  obtain ⟨h1, h2, h3, h4, h5⟩ := encS_ok h
  rw [dec_enc hn hn2 h3 (okE_of hn hn2 hl.r h) hb, dec_J2 hn hn2 _ hl.r, if_neg (fun hh => hq (List.eq_nil_of_length_eq_zero hh.2.1))]
/-- What is read of any bytes is written as these. -/
theorem dec_reads {n : Nat} (hn : 300 ≤ n) (hn2 : n ≤ 536870912) {b : List Int} (hb : BB n b) : F_entry_Decode.f n b = some ([], 2, ()) ∨ ∃ l, F_entry_Decode.f n b = some (l, 0, ()) ∧ EsI n l ∧ (encS l).2 = 0 ∧ encL l = b := by
  obtain ⟨l, b', e', h1, h2, h3⟩ := dec_any hn hn2 hb
  rw [h1, dec_J2 hn hn2 _ h3.r]
  by_cases h : e' = 0 ∧ b'.length = 0 ∧ (encS l).2 = 0 ∧ eqS (bytesOf (encS l).1) (bytesOf b) = true
  · rw [if_pos h]
    have h4 := (encS_ok h.2.2.1).1
    have h5 := h.2.2.2
    rw [h4] at h5
    exact .inr ⟨l, rfl, h3, h.2.2.1, bytes_inj (BY_L h3.y) hb.byte h5⟩
  · rw [if_neg h]; exact .inl rfl
theorem dec_cut {n : Nat} (hn : 300 ≤ n) (hn2 : n ≤ 536870912) {l : List E} (hl : EsI n l) (h : (encS l).2 = 0) (h17 : 20000 ≤ n) {p q : List Int} (hpq : encL l = p ++ q) (hq : q ≠ []) : F_entry_Decode.f n p = some ([], 2, ()) := by
  have hbb : BB n (encL l) := ⟨by have := (encS_ok h).2.2.2.2; omega, BY_L hl.y⟩
  have hp : BB n p := by rw [hpq] at hbb; exact BB_left hbb
  rcases dec_reads hn hn2 hp with h1 | ⟨l', h1, h2, h3, h4⟩
  · exact h1
  · have h5 := dec_back hn hn2 hl h h17
    have h6 := dec_more hn hn2 h2 h3 hq (by rw [h4, ← hpq]; exact hbb)
    rw [h4, ← hpq, h5] at h6
    have := congrArg (fun o : Option (List E × Int × Unit) => o.map fun x => x.2.1) h6
    have h7 : (0 : Int) = 2 := Option.some.inj this
    omega
theorem ruleEq (a b : D_api_Rule) (h : sameR a b = true) : a = b := by
  unfold sameR at h
  simp only [Bool.and_eq_true, beq_iff_eq] at h
  obtain ⟨h1, h2, h3, h4, h5⟩ := h
  have h1 := eqS_eq' h1
  have h5 := allB_eq tagEq h5
  obtain ⟨a1, a2, a3, a4, a5, a6⟩ := a
  obtain ⟨b1, b2, b3, b4, b5, b6⟩ := b
  dsimp only at h1 h2 h3 h4 h5
  rw [h1, h2, h3, h4, h5]
theorem grantEq (a b : D_api_Grant) (h : sameG a b = true) : a = b := by
  have h : ((a.1 == b.1) && ((a.2.1 == b.2.1) && ((a.2.2.1 == b.2.2.1) && ((a.2.2.2.1 == b.2.2.2.1) && true)))) = true := h
  simp only [Bool.and_eq_true, ba_beq, decide_eq_true_iff, beq_iff_eq, and_true] at h
  obtain ⟨h1, h2, h3, h4⟩ := h
  obtain ⟨a1, a2, a3, a4, a5⟩ := a
  obtain ⟨b1, b2, b3, b4, b5⟩ := b
  dsimp only at h1 h2 h3 h4
  rw [h1, h2, h3, h4]
theorem grantRefl (a : D_api_Grant) : sameG a a = true := by
  change ((a.1 == a.1) && ((a.2.1 == a.2.1) && ((a.2.2.1 == a.2.2.1) && ((a.2.2.2.1 == a.2.2.2.1) && true)))) = true
  simp [ba_beq]
theorem ruleRefl (a : D_api_Rule) : sameR a a = true := by
  unfold sameR
  rw [eqS_self, allB_refl _ (fun x _ => sameT_refl x)]
  simp only [beq_self_eq_true, Bool.and_true]
theorem sameE_refl (a : E) : sameE a a = true := by
  unfold sameE
  rw [eqS_self, eqS_self, lockRefl, defRefl, partRefl, sameV_refl, allB_refl _ (fun x _ => sameT_refl x), allB_refl _ (fun x _ => ruleRefl x), allB_refl _ (fun x _ => grantRefl x)]
  simp only [beq_self_eq_true, Bool.and_true]
theorem sameE_eq {a b : E} (ha : ER a) (hb : ER b) (h : sameE a b = true) : a = b := by
  unfold sameE at h
  simp only [Bool.and_eq_true, beq_iff_eq] at h
  obtain ⟨h1, h2, h3, h4, h5, h6, h7, h8, h9, h10, h11, h12⟩ := h
  have h3 := eqS_eq' h3
  have h4 := eqS_eq' h4
  have h6 := lockEq h6
  have h7 := defEq h7
  have h8 := partEq ha.pdig hb.pdig h8
  have h9 := verEq ha.vdig hb.vdig h9
  have h10 := allB_eq tagEq h10
  have h11 := allB_eq ruleEq h11
  have h12 := allB_eq grantEq h12
  obtain ⟨a1, a2, a3, a4, a5, a6, a7, a8, a9, a10, a11, a12, a13⟩ := a
  obtain ⟨b1, b2, b3, b4, b5, b6, b7, b8, b9, b10, b11, b12, b13⟩ := b
  dsimp only at h1 h2 h3 h4 h5 h6 h7 h8 h9 h10 h11 h12
  rw [h1, h2, h3, h4, h5, h6, h7, h8, h9, h10, h11, h12]

abbrev eA : E := (8, (5, ((⟨#[97, 98, 99]⟩ : ByteArray), ((⟨#[107]⟩ : ByteArray), (3, (verZ, (lockZ, ([], ((0, (0, ())), ([], ([], (partZ, ()))))))))))))
theorem eA_sound : soundE eA = true := by decide +kernel
theorem eA_enc : encS [eA] = ([1, 8, 10, 3, 97, 98, 99, 1, 107, 3], 0) := by
  unfold encS
  rw [if_pos (by decide), if_pos (by rw [List.all_cons, List.all_nil, eA_sound]; rfl), if_pos (by decide +kernel)]
  rw [Prod.mk.injEq]
  exact ⟨by decide +kernel, rfl⟩
theorem eA_I {n : Nat} (hn : 300 ≤ n) : EsI n [eA] := by
  have h0 : 0 < n := by omega
  have h := mkE (n := n) (k := 8) (t := 5) (b := (⟨#[97, 98, 99]⟩ : ByteArray)) (y := (⟨#[107]⟩ : ByteArray)) (i := 3) (v := verZ) (l := lockZ) (tg := []) (d := (0, (0, ()))) (r := []) (g := []) (p := partZ) (u := ())
    (by unfold I64; omega) (by change 3 < n; omega) (by change 1 < n; omega) (by unfold U64; omega) (bdVerZ hn) I64_0 ⟨h0, by intro t ht; exact nomatch ht⟩ ⟨h0, by intro t ht; exact nomatch ht⟩ ⟨h0, by intro t ht; exact nomatch ht⟩ ⟨U64_0, rfl, BY_zero 32⟩
  exact ⟨⟨⟨by change 1 < n; omega, fun e he => by rw [List.mem_singleton] at he; rw [he]; exact h.1⟩, fun e he => by rw [List.mem_singleton] at he; rw [he]; exact h.2.1⟩, fun e he => by rw [List.mem_singleton] at he; rw [he]; exact h.2.2⟩
theorem awakeT {n : Nat} (hn : 20000 ≤ n) (hn2 : n ≤ 536870912) : F_law14_awake.f n = some (true, ()) := by
  have hI := eA_I (n := n) (by omega)
  have h0 : (encS [eA]).2 = 0 := by rw [eA_enc]
  have h1 := (encS_ok h0).1
  have hb := dec_back (by omega) hn2 hI h0 hn
  rw [F_law14_awake.e0, entry_Encode (by omega) hI.r hn2, bnd_some]
  dsimp only
  rw [h1, hb, bnd_some, ← h1, eA_enc]
  dsimp only
  simp only [hide_eq]
  rw [show ((0 : Int) == 0) = true from rfl, bIf_true, bIf_true, show eqS (bytesOf [1, 8, 10, 3, 97, 98, 99, 1, 107, 3]) ⟨#[1, 8, 10, 3, 97, 98, 99, 1, 107, 3]⟩ = true by decide +kernel, bIf_true,
    show ((([eA].length : Nat) : Int) == 1) = true from rfl, bIf_true, gIf_pos ⟨by decide, by decide⟩, show (([eA].getD 0 (Va.dflt T_api_Entry)).2.2.2.2.1 == 3) = true from rfl, bIf_true,
    entry_Sound hn2 (by omega) (hI.r.b.all eA (List.mem_singleton.2 rfl)), eA_sound, bnd_some]
theorem lawEncodes {n : Nat} (hn : 20000 ≤ n) (hn2 : n ≤ 536870912) {l : List E} (hl : EsR n l) : F_law14_EntryEncodes.f n l = some (true, ()) := by
  have hlen := hl.b.len
  rw [F_law14_EntryEncodes.e0, entry_Encode (by omega) hl hn2, bnd_some, ref14_Encode (by omega) hl hn2, bnd_some, awakeT hn hn2, bnd_some, Bool.not_true, bIf_false]
  simp only [hide_eq]
  rw [eqS_self, Bool.not_true, bIf_false, bne, beq_self_eq_true, Bool.not_true, bIf_false, F_law14_EntryEncodes.e1]
  have h2 := all_loop (l := l) (Va.dflt T_api_Entry) (fun _ => true) (fun m k => F_law14_EntryEncodes.J2 n m (l, k, ())) (some (true, ())) (some (false, ()))
    (fun m k hk => by
      have hm := hl.b.all _ (getD_memA (d := Va.dflt T_api_Entry) hk)
      try dsimp only
      rw [F_law14_EntryEncodes.e2, hide_eq, decide_eq_true (by omega), bIf_true, gIf_pos ⟨by omega, by omega⟩, gIf_pos ⟨by omega, by omega⟩, Int.toNat_natCast, entry_Sound hn2 (by omega) hm, bnd_some, ref14_Sound hn2 (by omega) hm, bnd_some]
      simp only [hide_eq, F_law14_EntryEncodes.e3, beq_self_eq_true, Bool.not_true, bIf_false]
      have hg : (0 ≤ (k : Int) ∧ (k : Int) < ((l.length : Nat) : Int)) := ⟨by omega, by omega⟩
      rw [cast_up k (by omega), bIf_true]
      simp only [gIf_pos hg]
      by_cases h0 : k = 0
      · rw [decide_eq_false (by omega), bIf_false]
      · have hg2 : (0 ≤ (k : Int) - 1 ∧ (k : Int) - 1 < ((l.length : Nat) : Int)) := ⟨by omega, by omega⟩
        rw [decide_eq_true (by omega), bIf_true, wrap_i64 (x := (k : Int) - 1) (by omega)]
        simp only [gIf_pos hg2]
        rw [entry_Same hn2 hm, bnd_some, ref14_Same hn2 hm, bnd_some, beq_self_eq_true, Bool.not_true, bIf_false])
    (fun m => by
      try dsimp only
      rw [F_law14_EntryEncodes.e2, hide_eq, decide_eq_false (by omega), bIf_false, F_law14_EntryEncodes.e4]) n 0 (by omega) (by omega)
  try dsimp only at h2
  rw [show ((0 : Nat) : Int) = 0 from rfl, List.drop_zero] at h2
  rw [h2, show (l.all fun _ => true) = true by simp, bIf_true]
theorem lawBack {n : Nat} (hn : 20000 ≤ n) (hn2 : n ≤ 536870912) {l : List E} (hl : EsI n l) : F_law14_EntryBack.f n l = some (true, ()) := by
  rw [F_law14_EntryBack.e0, ref14_Encode (by omega) hl.r hn2, bnd_some, awakeT hn hn2, bnd_some, Bool.not_true, bIf_false, hide_eq]
  dsimp only
  by_cases h : (encS l).2 = 0
  · have h1 := (encS_ok h).1
    rw [h, show ((0 : Int) != 0) = false from rfl, bIf_false, F_law14_EntryBack.e1, h1, ofBytes_bytesOf (BY_L hl.y), dec_back (by omega) hn2 hl h hn, bnd_some, hide_eq, show ((0 : Int) == 0) = true from rfl, bIf_true, ref14_All hn2 hl.r.b, bnd_some, allB_refl _ (fun x _ => sameE_refl x)]
  · rw [show ((encS l).2 != 0) = true by rw [bne, beq_eq_false_iff_ne.2 h]; rfl, bIf_true, bnd_some]
theorem lawReads {n : Nat} (hn : 20000 ≤ n) (hn2 : n ≤ 536870912) {b : List Int} (hb : BB n b) : F_law14_EntryReads.f n b = some (true, ()) := by
  rw [F_law14_EntryReads.e0, awakeT hn hn2]
  rcases dec_reads (by omega) hn2 hb with h | ⟨l, h1, h2, h3, h4⟩
  · rw [h, bnd_some, bnd_some, Bool.not_true, bIf_false, hide_eq, F_law14_EntryReads.e1]
    dsimp only
    rw [show ((2 : Int) != 0) = true from rfl, bIf_true, awakeT hn hn2, bnd_some, bIf_true]; simp only [hide_eq]; rfl
  · rw [h1, bnd_some, bnd_some, Bool.not_true, bIf_false, hide_eq, F_law14_EntryReads.e1]
    dsimp only
    rw [show ((0 : Int) != 0) = false from rfl, bIf_false, F_law14_EntryReads.e2, ref14_Encode (by omega) h2.r hn2, bnd_some, h3, (encS_ok h3).1, h4]
    simp only [hide_eq]
    rw [show ((0 : Int) == 0) = true from rfl, bIf_true, eqS_self]
theorem lawSpoilt {n : Nat} (hn : 20000 ≤ n) (hn2 : n ≤ 536870912) {l : List E} (hl : EsI n l) {cut : Int} (hc : 0 ≤ cut ∧ cut ≤ 65535) {more : List Int} (hm : BB (n - 20000) more) : F_law14_EntrySpoilt.f n l cut more = some (true, ()) := by
  rw [F_law14_EntrySpoilt.e0, entry_Encode (by omega) hl.r hn2, bnd_some, awakeT hn hn2, bnd_some, Bool.not_true, bIf_false, hide_eq]
  dsimp only
  by_cases h : (encS l).2 = 0
  · obtain ⟨h1, h2, h3, h4, h5⟩ := encS_ok h
    have hlm := hm.len
    have hpos : 1 ≤ (encL l).length := by
      have := packF_pos (k := 10) (IntKind.u64.wrap ((l.length : Nat) : Int)).toNat (by omega)
      unfold encL eW eN; rw [List.length_append]; omega
    obtain ⟨c, rfl⟩ := Int.eq_ofNat_of_zero_le hc.1
    have hmod : Int.tmod (IntKind.i64.wrap (c : Int)) (((encL l).length : Nat) : Int) = ((c % (encL l).length : Nat) : Int) := by
      rw [wrap_i64 (by omega)]; rfl
    have hlt : c % (encL l).length < (encL l).length := Nat.mod_lt _ hpos
    rw [h, show ((0 : Int) != 0) = false from rfl, bIf_false, F_law14_EntrySpoilt.e1, h1, hmod, gNo_neg (by omega), gIf_pos ⟨by omega, by omega⟩, gIf_pos ⟨by omega, by omega⟩, Int.toNat_natCast, List.drop_zero, List.nil_append, gIf_pos (by rw [List.length_nil, List.length_take]; omega),
      dec_cut (by omega) hn2 hl h hn (List.take_append_drop (c % (encL l).length) (encL l)).symm (by
        intro hh
        have := congrArg List.length hh
        rw [List.length_drop, List.length_nil] at this; omega), bnd_some, gIf_pos (by rw [List.length_nil]; omega), List.nil_append, gIf_pos (by omega)]
    simp only [hide_eq]
    by_cases h0 : more = []
    · subst h0
      rw [List.append_nil, dec_back (by omega) hn2 hl h hn, bnd_some]; rfl
    · rw [dec_more (by omega) hn2 hl h h0 ⟨by rw [List.length_append]; omega, BY_app (BY_L hl.y) hm.byte⟩, bnd_some, decide_eq_true (by have := List.length_pos_iff.2 h0; omega)]; rfl
  · rw [show ((encS l).2 != 0) = true by rw [bne, beq_eq_false_iff_ne.2 h]; rfl, bIf_true, bnd_some]
theorem lawApart {n : Nat} (hn : 20000 ≤ n) (hn2 : n ≤ 536870912) {a b : E} (ha : EsI n [a]) (hb : EsI n [b]) : F_law14_EntryApart.f n a b = some (true, ()) := by
  rw [F_law14_EntryApart.e0, entry_Encode (by omega) ha.r hn2, bnd_some, entry_Encode (by omega) hb.r hn2, bnd_some, awakeT hn hn2, bnd_some, Bool.not_true, bIf_false]
  simp only [hide_eq]
  by_cases h : (encS [a]).2 = 0
  · rw [h, show ((0 : Int) != 0) = false from rfl, bIf_false]
    by_cases h' : (encS [b]).2 = 0
    · have ma := List.mem_singleton.2 (rfl : a = a)
      have mb := List.mem_singleton.2 (rfl : b = b)
      rw [h', show ((0 : Int) != 0) = false from rfl, bIf_false, F_law14_EntryApart.e1, ref14_Same hn2 (ha.r.b.all a ma), entry_Same hn2 (ha.r.b.all a ma), bnd_some, bnd_some, bnd_some]
      simp only [hide_eq]
      rw [(encS_ok h).1, (encS_ok h').1]
      have key : eqS (bytesOf (encL [a])) (bytesOf (encL [b])) = sameE a b := by
        cases hs : sameE a b
        · cases he : eqS (bytesOf (encL [a])) (bytesOf (encL [b]))
          · rfl
          · have e1 := bytes_inj (BY_L ha.y) (BY_L hb.y) he
            have e2 := dec_back (by omega) hn2 ha h hn
            rw [e1, dec_back (by omega) hn2 hb h' hn] at e2
            have e3 := congrArg (fun o : Option (List E × Int × Unit) => (o.map fun x => x.1)) e2
            have e4 : [b] = [a] := Option.some.inj e3
            have e5 : b = a := (List.cons.inj e4).1
            rw [e5, sameE_refl] at hs
            exact nomatch hs
        · rw [sameE_eq (ha.r.r a ma) (hb.r.r b mb) hs, eqS_self]
      rw [key, beq_self_eq_true, bIf_true]
    · rw [show ((encS [b]).2 != 0) = true by rw [bne, beq_eq_false_iff_ne.2 h']; rfl, bIf_true, bnd_some]
  · rw [show ((encS [a]).2 != 0) = true by rw [bne, beq_eq_false_iff_ne.2 h]; rfl, bIf_true, bnd_some]
end Go.Proofs.YtcpkhpboemfglaaGreatDoor

namespace Go.Proofs.YtcpkhpboemfglaaGreatDoor
open Go Go.Va Go.Proofs Go.ChangeShapes Go.WideShapes Go.ChangeAt Go.RowKit

theorem kids : Kids Tryz.prog (· < Tryz.prog.types.size) := kids_rows (by kernel_rfl) (by kernel_rfl)
theorem full : ∀ t e, t < Tryz.prog.types.size → Tryz.prog.underlying t = some (.slice e) → 0 < Tryz.prog.cellsOf e := slices_full_of Tryz.prog (by kernel_rfl)
theorem own : ownKnob Tryz.prog.godebug = none := by kernel_rfl

mutual
theorem bulk_eq {H : Type} : ∀ (d : DataW H), Rows.uptoBulk d = bulk d
  | .lit l => by cases l <;> simp [Rows.uptoBulk, bulk]
  | .nil => by simp [Rows.uptoBulk, bulk]
  | .ptr d => by simp [Rows.uptoBulk, bulk, bulk_eq d]
  | .slice elems spare => by simp [Rows.uptoBulk, bulk, bulkL_eq elems, bulkL_eq spare]
  | .agg parts => by simp [Rows.uptoBulk, bulk, bulkL_eq parts]
  | .iface _ d => by simp [Rows.uptoBulk, bulk, bulk_eq d]
  | .map entries => by simp [Rows.uptoBulk, bulk, bulkE_eq entries]
  | .held _ => by simp [Rows.uptoBulk, bulk]
theorem bulkL_eq {H : Type} : ∀ (l : List (DataW H)), Rows.uptoBulkAll l = bulkL l
  | [] => by simp [Rows.uptoBulkAll, bulkL]
  | d :: r => by simp [Rows.uptoBulkAll, bulkL, bulk_eq d, bulkL_eq r]
theorem bulkE_eq {H : Type} : ∀ (l : List (Lit × DataW H)), Rows.uptoBulkEntries l = bulkE l
  | [] => by simp [Rows.uptoBulkEntries, bulkE]
  | x :: r => by simp [Rows.uptoBulkEntries, bulkE, bulkX_eq x, bulkE_eq r]
theorem bulkX_eq {H : Type} : ∀ (x : Lit × DataW H), Rows.uptoBulkEntry x = bulkX x
  | (l, d) => by cases l <;> simp [Rows.uptoBulkEntry, bulkX, bulk_eq d]
end

theorem small_of {H : Type} {ds gs : List (DataW H)} (h : Rows.uptoSmall H (ds ++ gs) = true) : bulkL ds ≤ 1048576 := by
  have h := of_decide_eq_true h
  rw [bulkL_eq, bulkL_append] at h
  omega

/-! The room: what a datum's volume gives. -/
theorem vol_mem {e : Ty} {l : List (Den e)} {x : Den e} (h : x ∈ l) : vol e x ≤ (l.map (vol e)).sum := by
  induction l with
  | nil => simp at h
  | cons y l ih =>
    rw [List.map_cons, List.sum_cons]
    rcases List.mem_cons.1 h with rfl | h
    · omega
    · have := ih h; omega
theorem vol_len {e : Ty} {l : List (Den e)} (h : ∀ x ∈ l, 1 ≤ vol e x) : l.length ≤ (l.map (vol e)).sum := by
  induction l with
  | nil => simp
  | cons y l ih =>
    rw [List.map_cons, List.sum_cons, List.length_cons]
    have h1 := h y List.mem_cons_self
    have h2 := ih (fun x hx => h x (List.mem_cons_of_mem _ hx))
    omega
theorem vol_Tag (t : D_api_Tag) : vol T_api_Tag t = t.1.size + 1 + (t.2.1.size + 1) := rfl
theorem vol_Ver (v : Ver) : vol T_api_Version v = 1 + (1 + (1 + (1 + ((((dig v).map (vol (.int .u8))).sum + 1) + (1 + (vol T_api_Lock (lock v) + ((((tags v).map (vol T_api_Tag)).sum + 1) + 0))))))) := rfl
theorem vol_Rule (r : D_api_Rule) : vol T_api_Rule r = r.1.size + 1 + (((r.2.1.map (vol T_api_Tag)).sum + 1) + vol T_api_Lock r.2.2) := rfl
theorem vol_Grant (g : D_api_Grant) : vol T_api_Grant g = 1 + (g.2.1.size + 1 + (g.2.2.1.size + 1 + (g.2.2.2.1.size + 1))) := rfl
theorem vol_E (e : E) : vol T_api_Entry e = 1 + (1 + (e.2.2.1.size + 1 + (e.2.2.2.1.size + 1 + (1 + (vol T_api_Version e.2.2.2.2.2.1 + (vol T_api_Lock e.2.2.2.2.2.2.1 + (((e.2.2.2.2.2.2.2.1.map (vol T_api_Tag)).sum + 1) + (vol T_api_Default e.2.2.2.2.2.2.2.2.1 + (((e.2.2.2.2.2.2.2.2.2.1.map (vol T_api_Rule)).sum + 1) + (((e.2.2.2.2.2.2.2.2.2.2.1.map (vol T_api_Grant)).sum + 1) + (vol T_api_Part e.2.2.2.2.2.2.2.2.2.2.2.1 + 0))))))))))) := rfl
theorem u64_of {x : Int} (h : IntKind.u64.min ≤ x ∧ x ≤ IntKind.u64.max) : U64 x := by
  have h1 : (0 : Int) ≤ x := h.1
  have h2 : x ≤ 18446744073709551615 := h.2
  exact ⟨h1, by omega⟩
theorem i64_of {x : Int} (h : IntKind.i64.min ≤ x ∧ x ≤ IntKind.i64.max) : I64 x := by
  have h1 : (-9223372036854775808 : Int) ≤ x := h.1
  have h2 : x ≤ 9223372036854775807 := h.2
  exact ⟨h1, by omega⟩
theorem u8_of {x : Int} (h : IntKind.u8.min ≤ x ∧ x ≤ IntKind.u8.max) : 0 ≤ x ∧ x ≤ 255 := ⟨h.1, h.2⟩
theorem u16_of {x : Int} (h : IntKind.u16.min ≤ x ∧ x ≤ IntKind.u16.max) : 0 ≤ x ∧ x ≤ 65535 := ⟨h.1, h.2⟩
theorem Ts_of {n : Nat} {l : List D_api_Tag} (h : (l.map (vol T_api_Tag)).sum < n) : TsB n l := by
  have hl := vol_len (e := T_api_Tag) (l := l) (fun x _ => by rw [vol_Tag]; omega)
  exact ⟨by omega, fun t ht => by have := vol_mem (e := T_api_Tag) ht; rw [vol_Tag] at this; exact ⟨by omega, by omega⟩⟩
theorem V_ofW {n : Nat} {v : Ver} (hw : Wf T_api_Version v) (h : vol T_api_Version v < n) : bdVer n v := by
  rw [vol_Ver] at h
  obtain ⟨w1, w2, w3, w4, w5, w6, w7, w8, w9⟩ := hw
  exact ⟨⟨(u64_of w1).1, (u64_of w4).1, w5.1, Ts_of (by omega)⟩, u64_of w1, i64_of w6, u64_of w4, i64_of w7.2.1, fun x hx => u8_of (w5.2 x hx)⟩
theorem E_ofW {n : Nat} {e : E} (hw : Wf T_api_Entry e) (h : vol T_api_Entry e < n) : bdE n e := by
  rw [vol_E] at h
  obtain ⟨w1, w2, w3, w4, w5, w6, w7, w8, w9, w10, w11, w12, w13⟩ := hw
  have hv := V_ofW w6 (n := n) (by omega)
  have l1 := vol_len (e := T_api_Rule) (l := e.2.2.2.2.2.2.2.2.2.1) (fun x _ => by rw [vol_Rule]; omega)
  have l2 := vol_len (e := T_api_Grant) (l := e.2.2.2.2.2.2.2.2.2.2.1) (fun x _ => by rw [vol_Grant]; omega)
  refine ⟨⟨by omega, by omega, (u64_of w5).1, hv.b, Ts_of (by omega), ⟨by omega, fun r hr => ?_⟩, ⟨by omega, fun g hg => ?_⟩⟩, ⟨i64_of w2, u64_of w5, hv.id, hv.md, hv.bl, hv.b.dig, hv.lk, i64_of w7.2.1, u64_of w12.2.2.1, w12.2.2.2.1.1⟩, hv.dy, fun x hx => u8_of (w12.2.2.2.1.2 x hx)⟩
  · have := vol_mem (e := T_api_Rule) hr
    rw [vol_Rule] at this
    exact ⟨by omega, Ts_of (by omega)⟩
  · have := vol_mem (e := T_api_Grant) hg
    rw [vol_Grant] at this
    exact ⟨by omega, by omega, by omega⟩
theorem Es_ofW {n : Nat} {l : List E} (hw : Wf (.slice T_api_Entry) l) (h : vol (.slice T_api_Entry) l < n) : EsI n l := by
  have h : (l.map (vol T_api_Entry)).sum + 1 < n := h
  have hl := vol_len (e := T_api_Entry) (l := l) (fun x _ => by rw [vol_E]; omega)
  have hb : ∀ e ∈ l, bdE n e := fun e he => E_ofW (hw.2 e he) (by have := vol_mem (e := T_api_Entry) he; omega)
  exact ⟨⟨⟨by omega, fun e he => (hb e he).1⟩, fun e he => (hb e he).2.1⟩, fun e he => (hb e he).2.2⟩
theorem E1_ofW {n : Nat} {e : E} (hw : Wf T_api_Entry e) (h : vol T_api_Entry e < n) : EsI n [e] := by
  have hb := E_ofW hw h
  have := vol_E e
  exact ⟨⟨⟨by rw [List.length_singleton]; omega, fun x hx => by rw [List.mem_singleton] at hx; rw [hx]; exact hb.1⟩, fun x hx => by rw [List.mem_singleton] at hx; rw [hx]; exact hb.2.1⟩, fun x hx => by rw [List.mem_singleton] at hx; rw [hx]; exact hb.2.2⟩
theorem B_ofW {n : Nat} {l : List Int} (hw : Wf (.slice (.int .u8)) l) (h : vol (.slice (.int .u8)) l < n) : BB n l := by
  have h : (l.map (vol (.int .u8))).sum + 1 < n := h
  have hl := vol_len (e := .int .u8) (l := l) (fun x _ => Nat.le_refl 1)
  exact ⟨by omega, fun x hx => u8_of (hw.2 x hx)⟩

/-! The two tables. -/
theorem acc_eq : (Rows.laid_unicode_utf8_acceptRanges : DataW Unit) = Lib.acceptData := by kernel_rfl
theorem fst_eq : Rows.laid_unicode_utf8_first = Lib.firstData := by kernel_rfl
theorem tabs_of {W : World} (h3 : Lib.VarReads Tryz.prog W "unicode/utf8.first" Lib.firstData) (h4 : Lib.VarReads Tryz.prog W "unicode/utf8.acceptRanges" Lib.acceptData) : Lib.Utf8Tabs 0 1 W :=
  utf8Tabs_of_readsT (U8Types.of196 Tryz.l196) ⟨by kernel_rfl, by kernel_rfl, by kernel_rfl, by kernel_rfl, by kernel_rfl, by kernel_rfl, by kernel_rfl⟩ h3 h4
theorem live_of {W : World} {b o : Nat} {v : Value} (h : W.cell? ⟨b, o, none⟩ = some v) : b < W.heap.size := by
  rcases Nat.lt_or_ge b W.heap.size with hb | hb
  · exact hb
  · have : W.heap[b]? = none := Array.getElem?_eq_none hb
    simp [World.cell?, this] at h
theorem gl_of {W : World} (h : Lib.Utf8Tabs 0 1 W) (hsh : W.ShapedOpen Tryz.prog) : ∀ p ∈ Gl.tab, p.1 < W.heap.size ∧ ∃ cs, p.2 cs ∧ At W ⟨p.1, 0, none⟩ cs := by
  obtain ⟨h0, h1⟩ := h
  intro p hp
  have hp : p = (0, fun cs => cs = firstCells) ∨ p = (1, fun cs => cs = acceptCells) ∨ p = (2, fun cs => ∃ m, cs = [.int .i64 m]) := by simpa [Gl.tab] using hp
  rcases hp with rfl | rfl | rfl
  · refine ⟨live_of (h0 0 (by omega)), _, rfl, rfl, fun j hj => ?_⟩
    have hj2 : j < 256 := by simpa [firstCells, Lib.firstTab] using hj
    simp only [Nat.zero_add]
    rw [h0 j hj2]
    simp [firstCells, Lib.firstTab]
  · refine ⟨live_of (h1 0 (by omega)).1, _, rfl, rfl, fun j hj => ?_⟩
    have hl : acceptCells.length = 32 := by kernel_rfl
    have hj2 : j < 32 := by rw [← hl]; exact hj
    simp only [Nat.zero_add]
    obtain ⟨e0, e1⟩ := acc_get (j / 2) (by omega)
    obtain ⟨c0, c1⟩ := h1 (j / 2) (by omega)
    rcases Nat.mod_two_eq_zero_or_one j with hm | hm
    · have ej : j = 2 * (j / 2) := by omega
      rw [show (⟨1, j, none⟩ : Addr) = ⟨1, 2 * (j / 2), none⟩ by rw [← ej], c0, ← e0, ← ej, List.getElem?_eq_getElem hj]
    · have ej : j = 2 * (j / 2) + 1 := by omega
      rw [show (⟨1, j, none⟩ : Addr) = ⟨1, 2 * (j / 2) + 1, none⟩ by rw [← ej], c1, ← e1, ← ej, List.getElem?_eq_getElem hj]
  · obtain ⟨m, hm⟩ := cell_of_shapedOpen_int (P := Tryz.prog) (g := 2) (t := 3) (zero := #[.int .i64 0]) hsh (of_decide_eq_true (by kernel_rfl)) (by kernel_rfl) rfl (by kernel_rfl) (by kernel_rfl) Tryz.underlying3
    refine ⟨live_of hm, _, ⟨m, rfl⟩, rfl, fun j hj => ?_⟩
    obtain rfl : j = 0 := by simpa using hj
    simpa using hm

/-- A world for the witness: the tables as their initialisers lay them. -/
noncomputable def laidWorld (os : Os) : World :=
  let w0 := World.holding Tryz.prog os ⟨#[], #[], []⟩
  let put (h : Array Obj) (g : Nat) (cs : Array Value) : Array Obj := h.modify g fun
    | .cells _ t frozen => .cells cs t frozen
    | o => o
  let h1 := put w0.heap 0 firstCells.toArray
  let h2 := put h1 1 acceptCells.toArray
  { w0 with heap := h2 }
set_option maxRecDepth 100000 in
theorem laid_met (os : Os) (args : Array Value) : laidMet Tryz.prog Rows.entryEncodesRow.laid ((laidWorld os).forCall (fun _ _ => 0) ⟨#[], args, []⟩).memory :=
  (LaidIn.of_run (l := [("unicode/utf8.acceptRanges", Lib.acceptData), ("unicode/utf8.first", Lib.firstData)]) [0, 1] 8 (by kernel_rfl) (by kernel_rfl) (by kernel_rfl) (by kernel_rfl)).met

set_option maxRecDepth 100000 in
def zE : Array Value := #[Value.int IntKind.i64 0, Value.int IntKind.i64 0, Value.string ⟨#[]⟩, Value.string ⟨#[]⟩, Value.int IntKind.u64 0, Value.int IntKind.u64 0, Value.bool false, Value.int IntKind.i64 0, Value.int IntKind.u64 0, Value.int IntKind.u8 0, Value.int IntKind.u8 0, Value.int IntKind.u8 0, Value.int IntKind.u8 0, Value.int IntKind.u8 0, Value.int IntKind.u8 0, Value.int IntKind.u8 0, Value.int IntKind.u8 0, Value.int IntKind.u8 0, Value.int IntKind.u8 0, Value.int IntKind.u8 0, Value.int IntKind.u8 0, Value.int IntKind.u8 0, Value.int IntKind.u8 0, Value.int IntKind.u8 0, Value.int IntKind.u8 0, Value.int IntKind.u8 0, Value.int IntKind.u8 0, Value.int IntKind.u8 0, Value.int IntKind.u8 0, Value.int IntKind.u8 0, Value.int IntKind.u8 0, Value.int IntKind.u8 0, Value.int IntKind.u8 0, Value.int IntKind.u8 0, Value.int IntKind.u8 0, Value.int IntKind.u8 0, Value.int IntKind.u8 0, Value.int IntKind.u8 0, Value.int IntKind.u8 0, Value.int IntKind.u8 0, Value.int IntKind.u8 0, Value.int IntKind.i64 0, Value.int IntKind.i64 0, Value.int IntKind.i64 0, Value.bool false, Value.slice none 0 0, Value.int IntKind.i64 0, Value.int IntKind.i64 0, Value.bool false, Value.slice none 0 0, Value.int IntKind.i64 0, Value.int IntKind.i64 0, Value.slice none 0 0, Value.slice none 0 0, Value.int IntKind.i64 0, Value.int IntKind.i64 0, Value.int IntKind.u64 0, Value.int IntKind.u8 0, Value.int IntKind.u8 0, Value.int IntKind.u8 0, Value.int IntKind.u8 0, Value.int IntKind.u8 0, Value.int IntKind.u8 0, Value.int IntKind.u8 0, Value.int IntKind.u8 0, Value.int IntKind.u8 0, Value.int IntKind.u8 0, Value.int IntKind.u8 0, Value.int IntKind.u8 0, Value.int IntKind.u8 0, Value.int IntKind.u8 0, Value.int IntKind.u8 0, Value.int IntKind.u8 0, Value.int IntKind.u8 0, Value.int IntKind.u8 0, Value.int IntKind.u8 0, Value.int IntKind.u8 0, Value.int IntKind.u8 0, Value.int IntKind.u8 0, Value.int IntKind.u8 0, Value.int IntKind.u8 0, Value.int IntKind.u8 0, Value.int IntKind.u8 0, Value.int IntKind.u8 0, Value.int IntKind.u8 0, Value.int IntKind.u8 0, Value.int IntKind.u8 0, Value.int IntKind.u8 0, Value.int IntKind.u8 0]
def dV {H : Type} : DataW H := .agg [.lit (.int .u64 0), .lit (.bool false), .lit (.int .i64 0), .lit (.int .u64 0), .agg (List.replicate 32 (.lit (.int .u8 0))), .lit (.int .i64 0), .agg [.lit (.int .i64 0), .lit (.int .i64 0), .lit (.bool false)], .nil]
def dE {H : Type} : DataW H := .agg [.lit (.int .i64 0), .lit (.int .i64 0), .lit (.string []), .lit (.string []), .lit (.int .u64 0), dV, .agg [.lit (.int .i64 0), .lit (.int .i64 0), .lit (.bool false)], .nil, .agg [.lit (.int .i64 0), .lit (.int .i64 0)], .nil, .nil, .agg [.lit (.int .i64 0), .lit (.int .i64 0), .lit (.int .u64 0), .agg (List.replicate 32 (.lit (.int .u8 0)))]]

theorem getL {α : Type} {a : Array α} {i : Nat} {x : α} (h : a.toList[i]? = some x) : a[i]? = some x := by simpa using h
/-! Facts of the whole program, each asked once. -/
theorem and_i {a b : Bool} (ha : a = true) (hb : b = true) : (a && b) = true := by rw [ha, hb]; rfl
theorem factLaid : laidOutB Tryz.pinned.checked.prog = true := by kernel_rfl
theorem factMaps : mapsRowed Tryz.pinned.checked.prog = true := by kernel_rfl
theorem factHeard : Tryz.pinned.checked.prog.stopsHeard = true := by kernel_rfl
theorem factEnter : Tryz.pinned.checked.prog.mayEnter = true := by kernel_rfl
end Go.Proofs.YtcpkhpboemfglaaGreatDoor

