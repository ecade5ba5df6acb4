/-
  The plain laws.
-/
import Derived.Test.YtcpkhpboemfglaaGreatDoorF0
import Derived.Test.YtcpkhpboemfglaaGreatDoorVaPlain
import Derived.Lib.MapLaws
import Derived.Test.YtcpkhpboemfglaaGreatDoorRows
import Derived.Test.YtcpkhpboemfglaaGreatDoorCards
import Derived.Test.YtcpkhpboemfglaaGreatDoorTie
import Derived.JoinedCond
import Derived.ChangeCalls
import Derived.Lib.LaidIn
import Derived.Lib.LaidU8T
import Derived.Deep.DeepHandedRow
import Derived.ProofKit
import Derived.HandedShaped
import Derived.Shelf.Vars
import Derived.Test.YtcpkhpboemfglaaGreatDoorF1
set_option linter.unusedVariables false
set_option linter.unusedSimpArgs false
namespace Go.Proofs.YtcpkhpboemfglaaGreatDoor
open Go Go.Va Go.Proofs
def ok32 (b : UInt8) : Bool := decide (32 ≤ b.toNat) && decide (b.toNat ≠ 127)
def cleanB (s : ByteArray) : Bool := s.data.toList.all ok32 && Lib.validD s.data.toList
theorem bnd_some {α β : Type} (a : α) (f : α → Option β) : bnd (some a) f = f a := rfl
theorem all_drop (l : List UInt8) (k : Nat) (h : k < l.length) : (l.drop k).all ok32 = (ok32 (l.getD k 0) && (l.drop (k + 1)).all ok32) := by
  rw [List.drop_eq_getElem_cons h, List.all_cons, List.getD_eq_getElem?_getD, List.getElem?_eq_getElem h]
  rfl
theorem ok32_hi {b : UInt8} (h : 128 ≤ b.toNat) : ok32 b = true := by
  unfold ok32; rw [decide_eq_true (by omega), decide_eq_true (by omega)]; rfl
theorem getD_dropA (l : List UInt8) (k i : Nat) : (l.drop k).getD i 0 = l.getD (k + i) 0 := by
  rw [List.getD_eq_getElem?_getD, List.getD_eq_getElem?_getD, List.getElem?_drop]
theorem bt_nat (s : ByteArray) (k : Nat) : bt s (k : Int) = ((s.data.toList.getD k 0).toNat : Int) := rfl
theorem clean42_J (n : Nat) (s : ByteArray) (hs : s.size ≤ 1073741824) : ∀ (m k : Nat), k ≤ s.size → s.size - k < m →
    F_label_Clean.J1 n m (s, ofBytes s, (((ofBytes s).length : Nat) : Int), (k : Int), ()) = some ((s.data.toList.drop k).all ok32 && Lib.validD s.data.toList, ())
  | 0, k, _, h => by omega
  | m + 1, k, hk, h => by
    have hsz := size_eq s
    have hl := size_of s
    rw [F_label_Clean.e1]
    simp only [hide_eq, bIf_eq, gIf_eq, Nat.zero_add]
    by_cases hlt : k < s.size
    · rw [if_pos (decide_eq_true (by omega)), if_pos ⟨by omega, by omega⟩, all_drop _ _ (by omega), wrap_i64 (by omega)]
      have hb : (ofBytes s).getD (k : Int).toNat 0 = ((s.data.toList.getD k 0).toNat : Int) := by rw [← bt_getD]; rfl
      rw [hb]
      have ih := clean42_J n s hs m (k + 1) (by omega) (by omega)
      rw [show (((k + 1 : Nat) : Int)) = (k : Int) + 1 by omega] at ih
      rw [ih]
      generalize s.data.toList.getD k 0 = b
      unfold ok32
      by_cases h1 : b.toNat < 32
      · rw [if_pos (decide_eq_true (by omega)), decide_eq_false (by omega)]; rfl
      · rw [if_neg (by simp; omega), decide_eq_true (by omega)]
        by_cases h2 : b.toNat = 127
        · rw [if_pos (by rw [beq_iff_eq]; omega), decide_eq_false (by omega)]; rfl
        · rw [if_neg (by rw [beq_iff_eq]; omega), decide_eq_true (by omega)]; simp
    · rw [if_neg (by simp; omega)]
      have hkk : k = s.size := by omega
      subst hkk
      rw [hsz, List.drop_length]
      rw [F_label_Clean.e2]
      unfold F_unicode_utf8_ValidString.f
      rw [if_pos (by omega), bnd_some]
      rfl
theorem clean42 {n : Nat} {s : ByteArray} (hs : s.size ≤ 1073741824) (hn : s.size < n) : F_label_Clean.f n s = some (cleanB s, ()) := by
  rw [F_label_Clean.e0]
  change F_label_Clean.J1 n n (s, ofBytes s, (((ofBytes s).length : Nat) : Int), ((0 : Nat) : Int), ()) = _
  rw [clean42_J n s hs n 0 (by omega) (by omega)]
  rfl
theorem step7 (n m : Nat) (r1 : Nat) (s : ByteArray) (hs : s.size ≤ 1073741824) (k : Nat) (hk : k ≤ s.size) (w : Nat) (hw : w ≤ 4) (r : Nat) (hr : r < 1048576) (least : Int) (i : Nat) (hi : i < w) :
    F_ref06_Clean.J7 n r1 (m + 1) (s, (k : Int), (w : Int), (r : Int), least, (i : Int), ()) =
      if k + i < s.size then
        if (s.data.toList.getD (k + i) 0).toNat / 64 = 2 then F_ref06_Clean.J7 n r1 m (s, (k : Int), (w : Int), ((r * 64 + (s.data.toList.getD (k + i) 0).toNat % 64 : Nat) : Int), least, ((i + 1 : Nat) : Int), ())
        else some (false, ())
      else some (false, ()) := by
  rw [F_ref06_Clean.e7]
  simp only [hide_eq, bIf_eq, gIf_eq]
  rw [if_pos (decide_eq_true (by omega)), wrap_i64 (x := (k : Int) + (i : Int)) (by omega)]
  rw [show ((k : Int) + (i : Int)) = ((k + i : Nat) : Int) by omega, bt_nat]
  have hb := (s.data.toList.getD (k + i) 0).toNat_lt
  generalize hB : (s.data.toList.getD (k + i) 0).toNat = b at hb ⊢
  by_cases h1 : k + i < s.size
  · rw [if_neg (by simp; omega), if_pos ⟨by omega, by omega⟩, if_pos h1]
    by_cases h2 : b / 64 = 2
    · rw [if_neg (by simp; omega), if_pos ⟨by omega, by omega⟩, if_neg (by simp; omega), if_pos h2, F_ref06_Clean.e8]
      simp only [gIf_eq]
      rw [wrap_i64 (x := (k : Int) + (i : Int)) (by omega), show ((k : Int) + (i : Int)) = ((k + i : Nat) : Int) by omega, bt_nat, hB, if_pos ⟨by omega, by omega⟩, F_ref06_Clean.e9]
      rw [wrap_i64 (x := (i : Int) + 1) (by omega), wrap_i64 (x := (r : Int) * 64) (by omega), wrap_i64 (x := (b : Int)) (by omega), wrap_i64 (x := (r : Int) * 64 + (b : Int)) (by omega), wrap_i64 (by omega)]
      rw [show ((r : Int) * 64 + (b : Int) - 128) = ((r * 64 + b % 64 : Nat) : Int) by omega]
      rfl
    · rw [if_neg h2]
      by_cases h3 : b < 128
      · rw [if_pos (decide_eq_true (by omega))]
      · rw [if_neg (by simp; omega), if_pos ⟨by omega, by omega⟩, if_pos (decide_eq_true (by omega))]
  · rw [if_pos (decide_eq_true (by omega)), if_neg h1]
theorem end7 (n m : Nat) (r1 : Nat) (s : ByteArray) (hs : s.size ≤ 1073741824) (k : Nat) (hk : k ≤ s.size) (w : Nat) (hw : w ≤ 4) (r : Nat) (least : Nat) :
    F_ref06_Clean.J7 n r1 (m + 1) (s, (k : Int), (w : Int), (r : Int), (least : Int), (w : Int), ()) =
      if least ≤ r ∧ r ≤ 1114111 ∧ ¬ (55296 ≤ r ∧ r ≤ 57343) then F_ref06_Clean.J1 n r1 (s, ((k + w : Nat) : Int), ()) else some (false, ()) := by
  rw [F_ref06_Clean.e7]
  simp only [hide_eq, bIf_eq, gIf_eq]
  rw [if_neg (by simp), F_ref06_Clean.e10]
  simp only [hide_eq, bIf_eq, gIf_eq]
  have e : F_ref06_Clean.J11 n r1 (s, (k : Int), (w : Int), ()) = F_ref06_Clean.J1 n r1 (s, ((k + w : Nat) : Int), ()) := by
    rw [F_ref06_Clean.e11]
    rw [wrap_i64 (by omega)]; congr 2
  rw [e]
  by_cases h1 : r < least
  · rw [if_pos (decide_eq_true (by omega)), if_neg (by omega)]
  · rw [if_neg (by simp; omega)]
    by_cases h2 : 1114111 < r
    · rw [if_pos (decide_eq_true (by omega)), if_neg (by omega)]
    · rw [if_neg (by simp; omega)]
      by_cases h3 : 55296 ≤ r
      · rw [if_pos (decide_eq_true (by omega))]
        by_cases h4 : r ≤ 57343
        · rw [if_pos (decide_eq_true (by omega)), if_neg (by omega)]
        · rw [if_neg (by simp; omega), if_pos (by omega)]
      · rw [if_neg (by simp; omega), if_pos (by omega)]
theorem sign44 (q : Nat) (r1 : Nat) (s : ByteArray) (hs : s.size ≤ 1073741824) (k : Nat) (hk : k < s.size) (b : Nat) (w : Nat) (hw : 1 ≤ w ∧ w ≤ 4) (r : Nat) (hr : r < 128) (least : Nat) :
    F_ref06_Clean.J5 (q + 5) r1 (s, (k : Int), (b : Int), (w : Int), (r : Int), (least : Int), ()) = if 32 ≤ b ∧ b ≠ 127 then F_ref06_Clean.J7 (q + 5) r1 (q + 4 + 1) (s, (k : Int), (w : Int), (r : Int), (least : Int), ((1 : Nat) : Int), ()) else some (false, ()) := by
  rw [F_ref06_Clean.e5]
  simp only [hide_eq, bIf_eq, gIf_eq]
  by_cases h1 : b < 32
  · rw [if_pos (decide_eq_true (by omega)), if_neg (by omega)]
  · rw [if_neg (by simp; omega)]
    by_cases h2 : b = 127
    · rw [if_pos (by rw [beq_iff_eq]; omega), if_neg (by omega)]
    · rw [if_neg (by rw [beq_iff_eq]; omega), if_pos (by omega)]
      rw [F_ref06_Clean.e6]; rfl
theorem round44 (n m : Nat) (s : ByteArray) (hs : s.size ≤ 1073741824) (k : Nat) (hk : k < s.size) (b : Nat) (hb : (s.data.toList.getD k 0).toNat = b) :
    F_ref06_Clean.J1 n (m + 1) (s, (k : Int), ()) =
      if b < 128 then F_ref06_Clean.J5 n m (s, (k : Int), (b : Int), ((1 : Nat) : Int), (b : Int), ((0 : Nat) : Int), ())
      else if 192 ≤ b ∧ b < 224 then F_ref06_Clean.J5 n m (s, (k : Int), (b : Int), ((2 : Nat) : Int), ((b - 192 : Nat) : Int), ((128 : Nat) : Int), ())
      else if 224 ≤ b ∧ b < 240 then F_ref06_Clean.J5 n m (s, (k : Int), (b : Int), ((3 : Nat) : Int), ((b - 224 : Nat) : Int), ((2048 : Nat) : Int), ())
      else if 240 ≤ b ∧ b < 248 then F_ref06_Clean.J5 n m (s, (k : Int), (b : Int), ((4 : Nat) : Int), ((b - 240 : Nat) : Int), ((65536 : Nat) : Int), ())
      else some (false, ()) := by
  have hb2 := (s.data.toList.getD k 0).toNat_lt
  rw [F_ref06_Clean.e1]
  simp only [hide_eq, bIf_eq, gIf_eq]
  rw [bt_nat, hb, wrap_i64 (by omega), if_pos (decide_eq_true (by omega)), if_pos ⟨by omega, by omega⟩]
  by_cases h1 : b < 128
  · rw [if_pos (decide_eq_true (by omega)), if_pos h1]; rfl
  · rw [if_neg (by simp; omega), if_neg h1]
    have hS2 : ∀ t : Bool, F_ref06_Clean.J2 n m (s, (k : Int), (b : Int), t, ()) = if t = true then F_ref06_Clean.J5 n m (s, (k : Int), (b : Int), 2, (IntKind.i64.wrap ((b : Int) - 192)), 128, ()) else if decide ((b : Int) ≥ 224) = true then F_ref06_Clean.J3 n m (s, (k : Int), (b : Int), decide ((b : Int) < 240), ()) else F_ref06_Clean.J3 n m (s, (k : Int), (b : Int), false, ()) := by
      intro t; rw [F_ref06_Clean.e2]; simp only [hide_eq, bIf_eq, gIf_eq]
    have hS3 : ∀ t : Bool, F_ref06_Clean.J3 n m (s, (k : Int), (b : Int), t, ()) = if t = true then F_ref06_Clean.J5 n m (s, (k : Int), (b : Int), 3, (IntKind.i64.wrap ((b : Int) - 224)), 2048, ()) else if decide ((b : Int) ≥ 240) = true then F_ref06_Clean.J4 n m (s, (k : Int), (b : Int), decide ((b : Int) < 248), ()) else F_ref06_Clean.J4 n m (s, (k : Int), (b : Int), false, ()) := by
      intro t; rw [F_ref06_Clean.e3]; simp only [hide_eq, bIf_eq, gIf_eq]
    have hS4 : ∀ t : Bool, F_ref06_Clean.J4 n m (s, (k : Int), (b : Int), t, ()) = if t = true then F_ref06_Clean.J5 n m (s, (k : Int), (b : Int), 4, (IntKind.i64.wrap ((b : Int) - 240)), 65536, ()) else some (false, ()) := by
      intro t; rw [F_ref06_Clean.e4]; simp only [hide_eq, bIf_eq, gIf_eq]
    simp only [hS2, hS3, hS4]
    by_cases h2 : 192 ≤ b ∧ b < 224
    · rw [if_pos (decide_eq_true (by omega)), if_pos (decide_eq_true (by omega)), if_pos h2, wrap_i64 (by omega), show ((b : Int) - 192) = ((b - 192 : Nat) : Int) by omega]; rfl
    · rw [if_neg h2]
      by_cases h3 : 224 ≤ b ∧ b < 240
      · rw [if_pos (decide_eq_true (by omega)), if_neg (by simp; omega), if_pos (decide_eq_true (by omega)), if_pos (decide_eq_true (by omega)), if_pos h3, wrap_i64 (x := (b : Int) - 224) (by omega), show ((b : Int) - 224) = ((b - 224 : Nat) : Int) by omega]; rfl
      · rw [if_neg h3]
        by_cases h4 : 240 ≤ b ∧ b < 248
        · rw [if_pos (decide_eq_true (by omega)), if_neg (by simp; omega), if_pos (decide_eq_true (by omega)), if_neg (by simp; omega), if_pos (decide_eq_true (by omega)), if_pos (decide_eq_true (by omega)), if_pos h4, wrap_i64 (x := (b : Int) - 240) (by omega), show ((b : Int) - 240) = ((b - 240 : Nat) : Int) by omega]; rfl
        · rw [if_neg h4]
          split <;> (simp only [decide_eq_true_eq, Bool.false_eq_true, if_false, ge_iff_le]; repeat' split) <;> first | rfl | (exfalso; simp_all; omega) | (exfalso; omega)
theorem clean44_J (q : Nat) (s : ByteArray) (hs : s.size ≤ 1073741824) : ∀ (m k : Nat), k ≤ s.size → s.size - k < m →
    F_ref06_Clean.J1 (q + 5) m (s, (k : Int), ()) = some ((s.data.toList.drop k).all ok32 && Lib.validD (s.data.toList.drop k), ())
  | 0, k, _, h => by omega
  | m + 1, k, hk, h => by
    have hsz := size_eq s
    by_cases hlt : k < s.size
    · obtain ⟨b, hb⟩ : ∃ b, (s.data.toList.getD k 0).toNat = b := ⟨_, rfl⟩
      have hb0 := (s.data.toList.getD k 0).toNat_lt
      have hb1 := (s.data.toList.getD (k + 1) 0).toNat_lt
      have hb2 := (s.data.toList.getD (k + 2) 0).toNat_lt
      have hb3 := (s.data.toList.getD (k + 3) 0).toNat_lt
      have ih1 := fun h' => clean44_J q s hs m (k + 1) h' (by omega)
      have ih2 := fun h' => clean44_J q s hs m (k + 2) h' (by omega)
      have ih3 := fun h' => clean44_J q s hs m (k + 3) h' (by omega)
      have ih4 := fun h' => clean44_J q s hs m (k + 4) h' (by omega)
      rw [round44 (q + 5) m s hs k hlt b hb]
      have hne : s.data.toList.drop k ≠ [] := by
        intro e; have := congrArg List.length e; rw [List.length_drop] at this; simp at this; omega
      rw [Lib.validD_step _ hne, Lib.decodeL_N, List.length_drop, ← hsz]
      simp only [getD_dropA, List.drop_drop, Nat.add_zero]
      have a1 := fun h' => all_drop s.data.toList (k + 1) h'
      have a2 := fun h' => all_drop s.data.toList (k + 2) h'
      have a3 := fun h' => all_drop s.data.toList (k + 3) h'
      rw [all_drop s.data.toList k (by omega)]
      have o0 : 128 ≤ b → ok32 (s.data.toList.getD k 0) = true := fun h' => ok32_hi (by omega)
      have o1 : 128 ≤ (s.data.toList.getD (k + 1) 0).toNat → ok32 (s.data.toList.getD (k + 1) 0) = true := fun h' => ok32_hi h'
      have o2 : 128 ≤ (s.data.toList.getD (k + 2) 0).toNat → ok32 (s.data.toList.getD (k + 2) 0) = true := fun h' => ok32_hi h'
      have o3 : 128 ≤ (s.data.toList.getD (k + 3) 0).toNat → ok32 (s.data.toList.getD (k + 3) 0) = true := fun h' => ok32_hi h'
      have s1 := fun (w : Nat) hw r hr least hi => step7 (q + 5) (q + 4) m s hs k hk w hw r hr least 1 hi
      have s2 := fun (w : Nat) hw r hr least hi => step7 (q + 5) (q + 3) m s hs k hk w hw r hr least 2 hi
      have s3 := fun (w : Nat) hw r hr least hi => step7 (q + 5) (q + 2) m s hs k hk w hw r hr least 3 hi
      rw [hb] at hb0 ⊢
      generalize (s.data.toList.getD (k + 1) 0).toNat = b1 at hb1 o1 s1 ⊢
      generalize (s.data.toList.getD (k + 2) 0).toNat = b2 at hb2 o2 s2 ⊢
      generalize (s.data.toList.getD (k + 3) 0).toNat = b3 at hb3 o3 s3 ⊢
      obtain ⟨D, hD⟩ : ∃ D, Lib.decodeN (s.size - k) b b1 b2 b3 = D := ⟨_, rfl⟩
      rw [hD]
      unfold Lib.decodeN at hD
      have hbad : D = (65533, 1) → ∀ x y : Bool, (some (x && y && (if D.1 = 65533 ∧ D.2 = 1 then false else Lib.validD (s.data.toList.drop (k + D.2))), ()) : Option F_ref06_Clean.R) = some (false, ()) := by
        rintro rfl x y; rw [if_pos ⟨rfl, rfl⟩, Bool.and_false]
      have hgood : ∀ r w, D = (r, w) → w ≠ 1 ∨ r ≠ 65533 → (if D.1 = 65533 ∧ D.2 = 1 then false else Lib.validD (s.data.toList.drop (k + D.2))) = Lib.validD (s.data.toList.drop (k + w)) := by
        rintro r w rfl h'; rw [if_neg (by simp only; omega)]
      by_cases h1 : b < 128
      · rw [if_pos h1] at hD
        rw [if_pos h1, sign44 q m s hs k hlt b 1 (by omega) b h1 0, end7 (q + 5) (q + 4) m s hs k hk 1 (by omega) b 0]
        rw [hgood b 1 hD.symm (by omega), if_pos (by omega : 0 ≤ b ∧ b ≤ 1114111 ∧ ¬ (55296 ≤ b ∧ b ≤ 57343)), ih1 (by omega)]
        unfold ok32
        rw [hb]
        by_cases hc : 32 ≤ b ∧ b ≠ 127
        · rw [if_pos hc, decide_eq_true hc.1, decide_eq_true hc.2]; rfl
        · rw [if_neg hc]
          have : (decide (32 ≤ b) && decide (b ≠ 127)) = false := by simp; omega
          rw [this]; rfl
      · rw [if_neg h1] at hD ⊢
        rw [o0 (by omega)]
        by_cases h2 : 192 ≤ b ∧ b < 224
        · rw [if_pos h2, sign44 q m s hs k hlt b 2 (by omega) (b - 192) (by omega) 128, if_pos (by omega), s1 2 (by omega) (b - 192) (by omega) _ (by omega), end7 (q + 5) (q + 3) m s hs k hk 2 (by omega)]
          by_cases c : k + 1 < s.size ∧ b1 / 64 = 2
          · rw [if_pos ⟨by omega, by omega, c.2⟩] at hD
            rw [if_pos c.1, if_pos c.2]
            have er : (b - 192) * 64 + b1 % 64 = b % 32 * 64 + b1 % 64 := by omega
            rw [er]
            have hrr : b % 32 * 64 + b1 % 64 < 2048 := by omega
            generalize b % 32 * 64 + b1 % 64 = rr at hD hrr ⊢
            by_cases c3 : rr ≥ 128
            · rw [if_pos c3] at hD
              rw [if_pos (by omega : 128 ≤ rr ∧ rr ≤ 1114111 ∧ ¬ (55296 ≤ rr ∧ rr ≤ 57343)), hgood _ _ hD.symm (by omega), ih2 (by omega), a1 (by omega), o1 (by omega)]; rfl
            · rw [if_neg c3] at hD
              rw [if_neg (by omega : ¬ (128 ≤ rr ∧ rr ≤ 1114111 ∧ ¬ (55296 ≤ rr ∧ rr ≤ 57343))), hbad hD.symm]
          · rw [if_neg (by omega), if_neg (by omega), if_neg (by omega)] at hD
            rw [hbad hD.symm]
            by_cases c3 : k + 1 < s.size
            · rw [if_pos c3, if_neg (by omega)]
            · rw [if_neg c3]
        · rw [if_neg h2]
          rw [if_neg (by omega)] at hD
          by_cases h3 : 224 ≤ b ∧ b < 240
          · rw [if_pos h3, sign44 q m s hs k hlt b 3 (by omega) (b - 224) (by omega) 2048, if_pos (by omega), s1 3 (by omega) (b - 224) (by omega) _ (by omega)]
            by_cases c1 : k + 1 < s.size ∧ b1 / 64 = 2
            · rw [if_pos c1.1, if_pos c1.2, s2 3 (by omega) _ (by omega) _ (by omega), end7 (q + 5) (q + 2) m s hs k hk 3 (by omega)]
              by_cases c2 : k + 2 < s.size ∧ b2 / 64 = 2
              · rw [if_pos ⟨by omega, ⟨by omega, c1.2⟩, by omega, c2.2⟩] at hD
                rw [if_pos c2.1, if_pos c2.2]
                have er : ((b - 224) * 64 + b1 % 64) * 64 + b2 % 64 = b % 16 * 4096 + b1 % 64 * 64 + b2 % 64 := by omega
                rw [er]
                generalize b % 16 * 4096 + b1 % 64 * 64 + b2 % 64 = rr at hD ⊢
                by_cases c3 : rr ≥ 2048 ∧ (rr < 55296 ∨ 57344 ≤ rr ∧ rr ≤ 1114111)
                · rw [if_pos c3] at hD
                  rw [if_pos (by omega : 2048 ≤ rr ∧ rr ≤ 1114111 ∧ ¬ (55296 ≤ rr ∧ rr ≤ 57343)), hgood _ _ hD.symm (by omega), ih3 (by omega), a1 (by omega), o1 (by omega), a2 (by omega), o2 (by omega)]; rfl
                · rw [if_neg c3] at hD
                  rw [if_neg (by omega : ¬ (2048 ≤ rr ∧ rr ≤ 1114111 ∧ ¬ (55296 ≤ rr ∧ rr ≤ 57343))), hbad hD.symm]
              · rw [if_neg (by omega), if_neg (by omega)] at hD
                rw [hbad hD.symm]
                by_cases c3 : k + 2 < s.size
                · rw [if_pos c3, if_neg (by omega)]
                · rw [if_neg c3]
            · rw [if_neg (by omega), if_neg (by omega)] at hD
              rw [hbad hD.symm]
              by_cases c3 : k + 1 < s.size
              · rw [if_pos c3, if_neg (by omega)]
              · rw [if_neg c3]
          · rw [if_neg h3]
            rw [if_neg (by omega)] at hD
            by_cases h4 : 240 ≤ b ∧ b < 248
            · rw [if_pos h4, sign44 q m s hs k hlt b 4 (by omega) (b - 240) (by omega) 65536, if_pos (by omega), s1 4 (by omega) (b - 240) (by omega) _ (by omega)]
              by_cases c1 : k + 1 < s.size ∧ b1 / 64 = 2
              · rw [if_pos c1.1, if_pos c1.2, s2 4 (by omega) _ (by omega) _ (by omega)]
                by_cases c2 : k + 2 < s.size ∧ b2 / 64 = 2
                · rw [if_pos c2.1, if_pos c2.2, s3 4 (by omega) _ (by omega) _ (by omega), end7 (q + 5) (q + 1) m s hs k hk 4 (by omega)]
                  by_cases c5 : k + 3 < s.size ∧ b3 / 64 = 2
                  · rw [if_pos ⟨by omega, ⟨by omega, c1.2⟩, ⟨by omega, c2.2⟩, by omega, c5.2⟩] at hD
                    rw [if_pos c5.1, if_pos c5.2]
                    have er : (((b - 240) * 64 + b1 % 64) * 64 + b2 % 64) * 64 + b3 % 64 = b % 8 * 262144 + b1 % 64 * 4096 + b2 % 64 * 64 + b3 % 64 := by omega
                    rw [er]
                    generalize b % 8 * 262144 + b1 % 64 * 4096 + b2 % 64 * 64 + b3 % 64 = rr at hD ⊢
                    by_cases c3 : rr ≥ 65536 ∧ (rr < 55296 ∨ 57344 ≤ rr ∧ rr ≤ 1114111)
                    · rw [if_pos c3] at hD
                      rw [if_pos (by omega : 65536 ≤ rr ∧ rr ≤ 1114111 ∧ ¬ (55296 ≤ rr ∧ rr ≤ 57343)), hgood _ _ hD.symm (by omega), ih4 (by omega), a1 (by omega), o1 (by omega), a2 (by omega), o2 (by omega), a3 (by omega), o3 (by omega)]; rfl
                    · rw [if_neg c3] at hD
                      rw [if_neg (by omega : ¬ (65536 ≤ rr ∧ rr ≤ 1114111 ∧ ¬ (55296 ≤ rr ∧ rr ≤ 57343))), hbad hD.symm]
                  · rw [if_neg (by omega)] at hD
                    rw [hbad hD.symm]
                    by_cases c3 : k + 3 < s.size
                    · rw [if_pos c3, if_neg (by omega)]
                    · rw [if_neg c3]
                · rw [if_neg (by omega)] at hD
                  rw [hbad hD.symm]
                  by_cases c3 : k + 2 < s.size
                  · rw [if_pos c3, if_neg (by omega)]
                  · rw [if_neg c3]
              · rw [if_neg (by omega)] at hD
                rw [hbad hD.symm]
                by_cases c3 : k + 1 < s.size
                · rw [if_pos c3, if_neg (by omega)]
                · rw [if_neg c3]
            · rw [if_neg (by omega)] at hD
              rw [if_neg h4, hbad hD.symm]
    · have hkk : k = s.size := by omega
      subst hkk
      rw [F_ref06_Clean.e1]
      simp only [hide_eq, bIf_eq, gIf_eq]
      rw [if_neg (by simp), hsz, List.drop_length]
      rw [F_ref06_Clean.e12]; rfl
theorem clean44 {n : Nat} {s : ByteArray} (hs : s.size ≤ 1073741824) (hn : s.size < n) (h5 : 5 ≤ n) : F_ref06_Clean.f n s = some (cleanB s, ()) := by
  obtain ⟨q, rfl⟩ : ∃ q, n = q + 5 := ⟨n - 5, by omega⟩
  rw [F_ref06_Clean.e0]
  change F_ref06_Clean.J1 (q + 5) (q + 5) (s, ((0 : Nat) : Int), ()) = _
  rw [clean44_J q s hs (q + 5) 0 (by omega) (by omega)]
  rfl
end Go.Proofs.YtcpkhpboemfglaaGreatDoor

namespace Go.Proofs.YtcpkhpboemfglaaGreatDoor
open Go Go.Va Go.Proofs
theorem ba_beq (a b : ByteArray) : (a == b) = decide (a = b) := by
  change (a.data == b.data) = _
  by_cases h : a = b
  · subst h; simp
  · rw [decide_eq_false h]
    exact beq_false_of_ne (fun e => h (by cases a; cases b; exact congrArg _ e))
theorem eqS_eq (a b : ByteArray) : eqS a b = (a == b) := by
  unfold eqS
  rw [Lib.toList_data, Lib.toList_data, ba_beq]
  by_cases h : a = b
  · subst h; simp
  · rw [decide_eq_false h]
    exact beq_false_of_ne (fun e => h (by cases a; cases b; simp at e; rw [e]))
def clampI (t : Int) : Int := if t < -62135596800 then -62135596800 else if t > 253402300799 then 253402300799 else t
theorem clamp33 (n : Nat) (t : Int) : F_when_Clamp.f n t = some (clampI t, ()) := by
  rw [F_when_Clamp.e0]
  unfold clampI maxI minI
  congr 2
  repeat' split
  all_goals omega
theorem clamp36 (n : Nat) (t : Int) : F_ref05_Clamp.f n t = some (clampI t, ()) := by
  rw [F_ref05_Clamp.e0]
  unfold clampI
  simp only [hide_eq, bIf_eq, decide_eq_true_eq]
  repeat' split
  all_goals first | rfl | omega
def lockB (l : D_api_Lock) : Bool :=
  if l.1 = 0 then l.2.1 == 0 else if l.1 = 1 ∨ l.1 = 2 then l.2.1 == clampI l.2.1 else false
theorem lock34 (n : Nat) (l : D_api_Lock) : F_mode_Sound.f n l = some (lockB l, ()) := by
  rw [F_mode_Sound.e0]
  unfold lockB
  simp only [hide_eq, bIf_eq, F_mode_Sound.e1, clamp33, bnd_some, beq_iff_eq]
  by_cases h0 : l.1 = 0
  · rw [if_pos h0, if_pos h0]
  · rw [if_neg h0, if_neg h0]
    by_cases h1 : l.1 = 1
    · rw [if_pos h1, if_pos (c := l.1 = 1 ∨ l.1 = 2) (.inl h1)]; rfl
    · rw [if_neg h1]
      by_cases h2 : l.1 = 2
      · rw [if_pos h2, if_pos (c := l.1 = 1 ∨ l.1 = 2) (.inr h2)]
      · rw [if_neg h2, if_neg (c := l.1 = 1 ∨ l.1 = 2) (not_or.2 ⟨h1, h2⟩)]
theorem lock37 (n : Nat) (l : D_api_Lock) : F_ref12_Sound.f n l = some (lockB l, ()) := by
  rw [F_ref12_Sound.e0]
  unfold lockB
  simp only [hide_eq, bIf_eq, clamp36, bnd_some, beq_iff_eq]
  by_cases h0 : l.1 = 0
  · rw [if_pos h0, if_pos h0]
  · rw [if_neg h0, if_neg h0]
    by_cases h1 : l.1 = 1
    · rw [if_pos h1, if_pos (c := l.1 = 1 ∨ l.1 = 2) (.inl h1), BEq.comm]
    · rw [if_neg h1]
      by_cases h2 : l.1 = 2
      · rw [if_pos h2, if_pos (c := l.1 = 1 ∨ l.1 = 2) (.inr h2), BEq.comm]
      · rw [if_neg h2, if_neg (c := l.1 = 1 ∨ l.1 = 2) (not_or.2 ⟨h1, h2⟩)]
theorem size0 (s : ByteArray) : eqS s ⟨#[]⟩ = decide (s.size = 0) := by
  rw [eqS_eq, ba_beq]
  by_cases h : s = ⟨#[]⟩
  · subst h; rfl
  · rw [decide_eq_false h, decide_eq_false]
    intro h2
    apply h
    cases s with | mk d =>
    have : d = #[] := Array.eq_empty_of_size_eq_zero h2
    rw [this]
def tagB (t : D_api_Tag) : Bool := decide (1 ≤ t.1.size) && (decide (t.1.size ≤ 64) && (decide (t.2.1.size ≤ 64) && (cleanB t.1 && cleanB t.2.1)))
def TB (n : Nat) (t : D_api_Tag) : Prop := t.1.size < n ∧ t.2.1.size < n
theorem tag47 {n : Nat} {t : D_api_Tag} (h : TB n t) (hn : n ≤ 536870912) : F_tags_good.f n t = some (tagB t, ()) := by
  rw [F_tags_good.e0]
  unfold tagB
  rw [clean42 (by have := h.1; omega) h.1, clean42 (by have := h.2; omega) h.2, size0]
  simp only [hide_eq, bIf_eq, bnd_some]
  have e1 : decide ((t.1.size : Int) ≤ 64) = decide (t.1.size ≤ 64) := decide_eq_decide.2 (by omega)
  have e2 : decide ((t.2.1.size : Int) ≤ 64) = decide (t.2.1.size ≤ 64) := decide_eq_decide.2 (by omega)
  have e0 : (!decide (t.1.size = 0)) = decide (1 ≤ t.1.size) := by
    by_cases h0 : t.1.size = 0
    · rw [decide_eq_true h0, decide_eq_false (by omega)]; rfl
    · rw [decide_eq_false h0, decide_eq_true (by omega)]; rfl
  rw [e0, e1, e2]
  cases decide (1 ≤ t.1.size) <;> cases decide (t.1.size ≤ 64) <;> cases decide (t.2.1.size ≤ 64) <;> cases cleanB t.1 <;> simp
def chk {α : Type} (p : α → Bool) (q : α → α → Bool) : Option α → List α → Bool
  | _, [] => true
  | none, x :: l => p x && chk p q (some x) l
  | some y, x :: l => p x && (q y x && chk p q (some x) l)
def prev {α : Type} (l : List α) (k : Nat) : Option α := if k = 0 then none else l[k - 1]?
theorem chk_zero {α : Type} {p : α → Bool} {q : α → α → Bool} {l : List α} {d : α} (h : 0 < l.length) : chk p q (prev l 0) (l.drop 0) = (p (l.getD 0 d) && chk p q (prev l 1) (l.drop 1)) := by
  cases l with
  | nil => simp at h
  | cons x r => rfl
theorem chk_succ {α : Type} {p : α → Bool} {q : α → α → Bool} {l : List α} {d : α} {k : Nat} (h0 : 0 < k) (h : k < l.length) : chk p q (prev l k) (l.drop k) = (p (l.getD k d) && (q (l.getD (k - 1) d) (l.getD k d) && chk p q (prev l (k + 1)) (l.drop (k + 1)))) := by
  rw [List.drop_eq_getElem_cons h]
  unfold prev
  rw [if_neg (by omega), if_neg (by omega), List.getElem?_eq_getElem (by omega), Nat.add_sub_cancel, List.getElem?_eq_getElem h]
  rw [List.getD_eq_getElem?_getD, List.getD_eq_getElem?_getD, List.getElem?_eq_getElem h, List.getElem?_eq_getElem (by omega)]
  rfl
theorem chk_end {α : Type} {p : α → Bool} {q : α → α → Bool} {l : List α} {k : Nat} (h : l.length ≤ k) (o : Option α) : chk p q o (l.drop k) = true := by
  rw [List.drop_eq_nil_of_le h]; cases o <;> rfl
theorem getD_memA {α : Type} {l : List α} {k : Nat} {d : α} (h : k < l.length) : l.getD k d ∈ l := by
  rw [List.getD_eq_getElem?_getD, List.getElem?_eq_getElem h]; exact List.getElem_mem h
def tagsB (l : List (D_api_Tag)) : Bool := decide (l.length ≤ 8) && chk tagB (fun a b => ltS a.1 b.1) none l
def TsB (n : Nat) (l : List (D_api_Tag)) : Prop := l.length < n ∧ ∀ t ∈ l, TB n t
theorem tags35_J (n : Nat) (hn : n ≤ 536870912) (l : List (D_api_Tag)) (hl : TsB n l) : ∀ (m k : Nat), k ≤ l.length → l.length - k < m →
    F_tags_Sound.J1 n m (l, l, ((l.length : Nat) : Int), (k : Int), ()) = some (chk tagB (fun a b => ltS a.1 b.1) (prev l k) (l.drop k), ())
  | 0, k, _, h => by omega
  | m + 1, k, hk, h => by
    have hl1 := hl.1
    rw [F_tags_Sound.e1]
    simp only [hide_eq, bIf_eq, gIf_eq]
    by_cases hlt : k < l.length
    · have ih := tags35_J n hn l hl m (k + 1) (by omega) (by omega)
      rw [if_pos (decide_eq_true (by omega)), if_pos ⟨by omega, by omega⟩, Int.toNat_natCast, tag47 (hl.2 _ (getD_memA hlt)) hn, bnd_some, wrap_i64 (x := (k : Int) + 1) (by omega), show ((k : Int) + 1) = ((k + 1 : Nat) : Int) by omega, ih]
      by_cases h0 : k = 0
      · subst h0
        rw [chk_zero (d := Va.dflt T_api_Tag) (by omega), if_neg (c := decide (((0 : Nat) : Int) > 0) = true) (by simp)]
        cases tagB (l.getD 0 (Va.dflt T_api_Tag)) <;> simp
      · rw [chk_succ (d := Va.dflt T_api_Tag) (by omega) hlt, if_pos (c := decide ((k : Int) > 0) = true) (decide_eq_true (by omega)), wrap_i64 (by omega), if_pos (show 0 ≤ (k : Int) - 1 ∧ (k : Int) - 1 < ((l.length : Nat) : Int) from ⟨by omega, by omega⟩), show ((k : Int) - 1).toNat = k - 1 by omega]
        cases tagB (l.getD k (Va.dflt T_api_Tag)) <;> cases ltS (l.getD (k - 1) (Va.dflt T_api_Tag)).1 (l.getD k (Va.dflt T_api_Tag)).1 <;> simp
    · rw [if_neg (by simp; omega), chk_end (by omega)]
      rw [F_tags_Sound.e2]
theorem tags35 {n : Nat} (hn : n ≤ 536870912) {l : List (D_api_Tag)} (hl : TsB n l) : F_tags_Sound.f n l = some (tagsB l, ()) := by
  have h := tags35_J n hn l hl n 0 (by omega) (by have := hl.1; omega)
  rw [F_tags_Sound.e0]
  unfold tagsB
  simp only [hide_eq, bIf_eq]
  by_cases h8 : l.length ≤ 8
  · rw [if_neg (by simp; omega), decide_eq_true h8]
    exact h
  · rw [if_pos (decide_eq_true (by omega)), decide_eq_false h8]; rfl
theorem less_tri : ∀ x y : List UInt8, Op.bytesLess x y = !(Op.bytesLess y x || y == x)
  | [], [] => rfl
  | [], _ :: _ => rfl
  | _ :: _, [] => rfl
  | a :: x, b :: y => by
    have ih := less_tri x y
    simp only [Op.bytesLess, List.cons_beq_cons, ih]
    by_cases h : a = b
    · subst h
      simp
    · have h1 : (a == b) = false := beq_false_of_ne h
      have h2 : (b == a) = false := beq_false_of_ne (fun e => h e.symm)
      rw [h1, h2]
      simp only [Bool.false_and, Bool.or_false]
      have h3 : ¬ a.toNat = b.toNat := fun e => h (UInt8.toNat_inj.1 e)
      have h4 : decide (a < b) = decide (a.toNat < b.toNat) := decide_eq_decide.2 UInt8.lt_iff_toNat_lt
      have h5 : decide (b < a) = decide (b.toNat < a.toNat) := decide_eq_decide.2 UInt8.lt_iff_toNat_lt
      rw [h4, h5]
      by_cases h6 : a.toNat < b.toNat
      · rw [decide_eq_true h6, decide_eq_false (by omega)]; rfl
      · rw [decide_eq_false h6, decide_eq_true (by omega)]; rfl
theorem ltS_tri (a b : ByteArray) : ltS a b = !(ltS b a || eqS b a) := less_tri _ _
theorem tags38_J (n : Nat) (hn : n ≤ 536870912) (h5 : 5 ≤ n) (l : List (D_api_Tag)) (hl : TsB n l) : ∀ (m k : Nat), k ≤ l.length → l.length - k < m →
    F_ref08_Sound.J1 n m (l, (k : Int), ()) = some (chk tagB (fun a b => ltS a.1 b.1) (prev l k) (l.drop k), ())
  | 0, k, _, h => by omega
  | m + 1, k, hk, h => by
    have hl1 := hl.1
    rw [F_ref08_Sound.e1]
    simp only [hide_eq, bIf_eq, gIf_eq]
    by_cases hlt : k < l.length
    · have ih := tags38_J n hn h5 l hl m (k + 1) (by omega) (by omega)
      have hg : (0 ≤ (k : Int) ∧ (k : Int) < ((l.length : Nat) : Int)) := ⟨by omega, by omega⟩
      obtain ⟨hb1, hb2⟩ := hl.2 _ (getD_memA (d := Va.dflt T_api_Tag) hlt)
      rw [if_pos (decide_eq_true (by omega))]
      simp only [if_pos hg, Int.toNat_natCast]
      rw [clean44 (by omega) hb1 h5, clean44 (by omega) hb2 h5, bnd_some, bnd_some, F_ref08_Sound.e2]
      simp only [hide_eq, bIf_eq, gIf_eq, F_ref08_Sound.e3, if_pos hg, Int.toNat_natCast]
      rw [wrap_i64 (x := (k : Int) + 1) (by omega), show ((k : Int) + 1) = ((k + 1 : Nat) : Int) by omega, ih]
      have hx : chk tagB (fun a b => ltS a.1 b.1) (prev l k) (l.drop k) = (tagB (l.getD k (Va.dflt T_api_Tag)) && ((if k = 0 then true else ltS (l.getD (k - 1) (Va.dflt T_api_Tag)).1 (l.getD k (Va.dflt T_api_Tag)).1) && chk tagB (fun a b => ltS a.1 b.1) (prev l (k + 1)) (l.drop (k + 1)))) := by
        by_cases h0 : k = 0
        · subst h0
          rw [chk_zero (d := Va.dflt T_api_Tag) (by omega), if_pos rfl, Bool.true_and]
        · rw [chk_succ (d := Va.dflt T_api_Tag) (by omega) hlt, if_neg h0]
      rw [hx]
      have g1 : decide (((l.getD k (Va.dflt T_api_Tag)).1.size : Int) < 1) = !decide (1 ≤ (l.getD k (Va.dflt T_api_Tag)).1.size) := by
        by_cases h0 : 1 ≤ (l.getD k (Va.dflt T_api_Tag)).1.size
        · rw [decide_eq_true h0, decide_eq_false (by omega)]; rfl
        · rw [decide_eq_false h0, decide_eq_true (by omega)]; rfl
      have g2 : decide (((l.getD k (Va.dflt T_api_Tag)).1.size : Int) > 64) = !decide ((l.getD k (Va.dflt T_api_Tag)).1.size ≤ 64) := by
        by_cases h0 : (l.getD k (Va.dflt T_api_Tag)).1.size ≤ 64
        · rw [decide_eq_true h0, decide_eq_false (by omega)]; rfl
        · rw [decide_eq_false h0, decide_eq_true (by omega)]; rfl
      have g3 : decide (((l.getD k (Va.dflt T_api_Tag)).2.1.size : Int) > 64) = !decide ((l.getD k (Va.dflt T_api_Tag)).2.1.size ≤ 64) := by
        by_cases h0 : (l.getD k (Va.dflt T_api_Tag)).2.1.size ≤ 64
        · rw [decide_eq_true h0, decide_eq_false (by omega)]; rfl
        · rw [decide_eq_false h0, decide_eq_true (by omega)]; rfl
      simp only [g1, g2, g3]
      have hy : (if decide ((k : Int) > 0) = true then if 0 ≤ IntKind.i64.wrap ((k : Int) - 1) ∧ IntKind.i64.wrap ((k : Int) - 1) < ((l.length : Nat) : Int) then if (ltS (l.getD k (Va.dflt T_api_Tag)).1 (l.getD (IntKind.i64.wrap ((k : Int) - 1)).toNat (Va.dflt T_api_Tag)).1 || eqS (l.getD k (Va.dflt T_api_Tag)).1 (l.getD (IntKind.i64.wrap ((k : Int) - 1)).toNat (Va.dflt T_api_Tag)).1) = true then some (false, ()) else some (chk tagB (fun a b => ltS a.1 b.1) (prev l (k + 1)) (l.drop (k + 1)), ()) else none else (some (chk tagB (fun a b => ltS a.1 b.1) (prev l (k + 1)) (l.drop (k + 1)), ()) : Option F_ref08_Sound.R)) =
          some ((if k = 0 then true else ltS (l.getD (k - 1) (Va.dflt T_api_Tag)).1 (l.getD k (Va.dflt T_api_Tag)).1) && chk tagB (fun a b => ltS a.1 b.1) (prev l (k + 1)) (l.drop (k + 1)), ()) := by
        by_cases h0 : k = 0
        · rw [if_neg (by simp; omega), if_pos h0]; rfl
        · rw [if_pos (decide_eq_true (by omega)), if_neg h0, wrap_i64 (by omega), if_pos (show 0 ≤ (k : Int) - 1 ∧ (k : Int) - 1 < ((l.length : Nat) : Int) from ⟨by omega, by omega⟩), show ((k : Int) - 1).toNat = k - 1 by omega, ltS_tri (l.getD (k - 1) (Va.dflt T_api_Tag)).1 (l.getD k (Va.dflt T_api_Tag)).1]
          cases (ltS (l.getD k (Va.dflt T_api_Tag)).1 (l.getD (k - 1) (Va.dflt T_api_Tag)).1 || eqS (l.getD k (Va.dflt T_api_Tag)).1 (l.getD (k - 1) (Va.dflt T_api_Tag)).1) <;> simp
      simp only [hy]
      unfold tagB
      cases decide (1 ≤ (l.getD k (Va.dflt T_api_Tag)).1.size) <;> cases decide ((l.getD k (Va.dflt T_api_Tag)).1.size ≤ 64) <;> cases decide ((l.getD k (Va.dflt T_api_Tag)).2.1.size ≤ 64) <;> cases cleanB (l.getD k (Va.dflt T_api_Tag)).1 <;> cases cleanB (l.getD k (Va.dflt T_api_Tag)).2.1 <;> simp
    · rw [if_neg (by simp; omega), chk_end (by omega)]
      rw [F_ref08_Sound.e4]
theorem tags38 {n : Nat} (hn : n ≤ 536870912) (h5 : 5 ≤ n) {l : List (D_api_Tag)} (hl : TsB n l) : F_ref08_Sound.f n l = some (tagsB l, ()) := by
  have h := tags38_J n hn h5 l hl n 0 (by omega) (by have := hl.1; omega)
  rw [F_ref08_Sound.e0]
  unfold tagsB
  simp only [hide_eq, bIf_eq]
  by_cases h8 : l.length ≤ 8
  · rw [if_neg (by simp; omega), decide_eq_true h8]
    exact h
  · rw [if_pos (decide_eq_true (by omega)), decide_eq_false h8]; rfl
def allB {α : Type} (q : α → α → Bool) : List α → List α → Bool
  | [], [] => true
  | x :: a, y :: b => q x y && allB q a b
  | _, _ => false
theorem allB_len {α : Type} {q : α → α → Bool} : ∀ (a b : List α), a.length ≠ b.length → allB q a b = false
  | [], [], h => absurd rfl h
  | [], _ :: _, _ => rfl
  | _ :: _, [], _ => rfl
  | x :: a, y :: b, h => by
    unfold allB
    rw [allB_len a b (by simp at h; omega), Bool.and_false]
theorem allB_step {α : Type} {q : α → α → Bool} {a b : List α} {k : Nat} (d : α) (ha : k < a.length) (hb : k < b.length) : allB q (a.drop k) (b.drop k) = (q (a.getD k d) (b.getD k d) && allB q (a.drop (k + 1)) (b.drop (k + 1))) := by
  rw [List.drop_eq_getElem_cons ha, List.drop_eq_getElem_cons hb]
  rw [List.getD_eq_getElem?_getD, List.getD_eq_getElem?_getD, List.getElem?_eq_getElem ha, List.getElem?_eq_getElem hb]
  rfl
theorem allB_end {α : Type} {q : α → α → Bool} {a b : List α} {k : Nat} (ha : a.length ≤ k) (hb : b.length ≤ k) : allB q (a.drop k) (b.drop k) = true := by
  rw [List.drop_eq_nil_of_le ha, List.drop_eq_nil_of_le hb]; rfl
theorem allB_refl {α : Type} {q : α → α → Bool} : ∀ (a : List α), (∀ x ∈ a, q x x = true) → allB q a a = true
  | [], _ => rfl
  | x :: a, h => by
    unfold allB
    rw [h x List.mem_cons_self, allB_refl a (fun y hy => h y (List.mem_cons_of_mem _ hy))]; rfl
def sameT (a b : D_api_Tag) : Bool := eqS a.1 b.1 && eqS a.2.1 b.2.1
theorem sameT_eq (a b : D_api_Tag) : eqD T_api_Tag a b = sameT a b := by
  change ((a.1 == b.1) && ((a.2.1 == b.2.1) && true)) = _
  unfold sameT
  rw [eqS_eq, eqS_eq, Bool.and_true]
theorem sameT_refl (a : D_api_Tag) : sameT a a = true := by unfold sameT; rw [eqS_self, eqS_self]; rfl
theorem same52_J (n : Nat) (hn : n ≤ 536870912) (a b : List (D_api_Tag)) (hab : a.length = b.length) (hl : a.length < n) : ∀ (m k : Nat), k ≤ a.length → a.length - k < m →
    F_slices_Equal_Tag.J1 n m (a, b, ((a.length : Nat) : Int), (k : Int), ()) = some (allB sameT (a.drop k) (b.drop k), ())
  | 0, k, _, h => by omega
  | m + 1, k, hk, h => by
    rw [F_slices_Equal_Tag.e1]
    simp only [hide_eq, bIf_eq, gIf_eq]
    by_cases hlt : k < a.length
    · have ih := same52_J n hn a b hab hl m (k + 1) (by omega) (by omega)
      rw [if_pos (decide_eq_true (by omega)), if_pos ⟨by omega, by omega⟩, if_pos ⟨by omega, by omega⟩, Int.toNat_natCast, wrap_i64 (x := (k : Int) + 1) (by omega), show ((k : Int) + 1) = ((k + 1 : Nat) : Int) by omega, ih, sameT_eq, allB_step (Va.dflt T_api_Tag) hlt (by omega)]
      cases sameT (a.getD k (Va.dflt T_api_Tag)) (b.getD k (Va.dflt T_api_Tag)) <;> simp
    · rw [if_neg (by simp; omega), allB_end (by omega) (by omega)]
      rw [F_slices_Equal_Tag.e2]
theorem same52 {n : Nat} (hn : n ≤ 536870912) {a b : List (D_api_Tag)} (ha : a.length < n) : F_slices_Equal_Tag.f n a b = some (allB sameT a b, ()) := by
  rw [F_slices_Equal_Tag.e0]
  simp only [hide_eq, bIf_eq]
  by_cases h : a.length = b.length
  · rw [if_neg (by simp [h])]
    exact same52_J n hn a b h ha n 0 (by omega) (by omega)
  · rw [if_pos (by simp; omega), allB_len a b h]
theorem same48 {n : Nat} (hn : n ≤ 536870912) {a b : List (D_api_Tag)} (ha : a.length < n) : F_tags_Same.f n a b = some (allB sameT a b, ()) := by
  rw [F_tags_Same.e0]
  rw [same52 hn ha, bnd_some]
theorem same32_J (n : Nat) (hn : n ≤ 536870912) (a b : List (D_api_Tag)) (hab : a.length = b.length) (hl : a.length < n) : ∀ (m k : Nat), k ≤ a.length → a.length - k < m →
    F_ref08_Same.J1 n m (a, b, (k : Int), ()) = some (allB sameT (a.drop k) (b.drop k), ())
  | 0, k, _, h => by omega
  | m + 1, k, hk, h => by
    rw [F_ref08_Same.e1]
    simp only [hide_eq, bIf_eq, gIf_eq, F_ref08_Same.e2]
    by_cases hlt : k < a.length
    · have ih := same32_J n hn a b hab hl m (k + 1) (by omega) (by omega)
      have hg : (0 ≤ (k : Int) ∧ (k : Int) < ((a.length : Nat) : Int)) := ⟨by omega, by omega⟩
      have hg2 : (0 ≤ (k : Int) ∧ (k : Int) < ((b.length : Nat) : Int)) := ⟨by omega, by omega⟩
      rw [if_pos (decide_eq_true (by omega))]
      simp only [if_pos hg, if_pos hg2, Int.toNat_natCast]
      rw [wrap_i64 (x := (k : Int) + 1) (by omega), show ((k : Int) + 1) = ((k + 1 : Nat) : Int) by omega, ih, allB_step (Va.dflt T_api_Tag) hlt (by omega)]
      have hx : sameT (a.getD k (Va.dflt T_api_Tag)) (b.getD k (Va.dflt T_api_Tag)) = (eqS (a.getD k (Va.dflt T_api_Tag)).1 (b.getD k (Va.dflt T_api_Tag)).1 && eqS (a.getD k (Va.dflt T_api_Tag)).2.1 (b.getD k (Va.dflt T_api_Tag)).2.1) := rfl
      rw [hx]
      rcases Bool.eq_false_or_eq_true (eqS (a.getD k (Va.dflt T_api_Tag)).1 (b.getD k (Va.dflt T_api_Tag)).1) with h1 | h1 <;> rcases Bool.eq_false_or_eq_true (eqS (a.getD k (Va.dflt T_api_Tag)).2.1 (b.getD k (Va.dflt T_api_Tag)).2.1) with h2 | h2 <;> simp only [h1, h2] <;> rfl
    · rw [if_neg (by simp; omega), allB_end (by omega) (by omega)]
      rw [F_ref08_Same.e3]
theorem same32 {n : Nat} (hn : n ≤ 536870912) {a b : List (D_api_Tag)} (ha : a.length < n) : F_ref08_Same.f n a b = some (allB sameT a b, ()) := by
  rw [F_ref08_Same.e0]
  simp only [hide_eq, bIf_eq]
  by_cases h : a.length = b.length
  · rw [if_neg (by simp [h])]
    exact same32_J n hn a b h ha n 0 (by omega) (by omega)
  · rw [if_pos (by simp; omega), allB_len a b h]
def keyB (s : ByteArray) : Bool := decide (1 ≤ s.size) && (decide (s.size ≤ 200) && cleanB s)
theorem key24 {n : Nat} {s : ByteArray} (hs : s.size < n) (hn : n ≤ 536870912) : F_label_Key.f n s = some (keyB s, ()) := by
  rw [F_label_Key.e0]
  unfold keyB
  rw [clean42 (by omega) hs, size0]
  simp only [hide_eq, bIf_eq, bnd_some]
  have e1 : decide ((s.size : Int) ≤ 200) = decide (s.size ≤ 200) := decide_eq_decide.2 (by omega)
  have e0 : (!decide (s.size = 0)) = decide (1 ≤ s.size) := by
    by_cases h0 : s.size = 0
    · rw [decide_eq_true h0, decide_eq_false (by omega)]; rfl
    · rw [decide_eq_false h0, decide_eq_true (by omega)]; rfl
  rw [e0, e1]
  cases decide (1 ≤ s.size) <;> cases decide (s.size ≤ 200) <;> simp
end Go.Proofs.YtcpkhpboemfglaaGreatDoor

namespace Go.Proofs.YtcpkhpboemfglaaGreatDoor
open Go Go.Va Go.Proofs
abbrev Ver : Type := D_api_Version
def mark (v : Ver) : Bool := v.2.1
def vsize (v : Ver) : Int := v.2.2.1
def blob (v : Ver) : Int := v.2.2.2.1
def dig (v : Ver) : List Int := v.2.2.2.2.1
def made (v : Ver) : Int := v.2.2.2.2.2.1
def lock (v : Ver) : D_api_Lock := v.2.2.2.2.2.2.1
def tags (v : Ver) : List (D_api_Tag) := v.2.2.2.2.2.2.2.1
theorem z_pos (z : Int) : decide (z > 0) = decide (1 ≤ z) := decide_eq_decide.2 (by omega)
theorem z_eq (z : Int) (h : 0 ≤ z) : (z == 0) = !decide (1 ≤ z) := by
  by_cases h1 : z = 0
  · subst h1; rfl
  · rw [decide_eq_true (by omega), beq_false_of_ne h1]; rfl
theorem z_lt (z : Int) : decide (z < 1) = !decide (1 ≤ z) := by
  by_cases h : 1 ≤ z
  · rw [decide_eq_true h, decide_eq_false (by omega)]; rfl
  · rw [decide_eq_false h, decide_eq_true (by omega)]; rfl
def verB (v : Ver) : Bool :=
  decide (1 ≤ v.1) && (decide (made v = clampI (made v)) &&
    if mark v = true then (vsize v == 0) && ((blob v == 0) && ((dig v).all (· == 0) && (((lock v).1 == 0 && ((lock v).2.1 == 0 && !(lock v).2.2.1)) && decide ((tags v).length = 0))))
    else decide (0 ≤ vsize v) && (decide (vsize v ≤ 16384) && (decide (1 ≤ blob v) && (lockB (lock v) && tagsB (tags v)))))
structure VB (n : Nat) (v : Ver) : Prop where
  id : 0 ≤ v.1
  blob : 0 ≤ blob v
  dig : (dig v).length = 32
  tags : TsB n (tags v)
theorem zeroD : ∀ (k : Nat) (d : List Int), d.length = k → eqD (.arr k (.int .u8)) d (List.replicate k 0) = d.all (· == 0)
  | 0, [], _ => rfl
  | k + 1, x :: d, h => by
    have ih := zeroD k d (by simpa using h)
    change (decide (x = 0) && eqD (.arr k (.int .u8)) d (List.replicate k 0)) = ((x == 0) && d.all (· == 0))
    rw [ih]; rfl
theorem ver18 {n : Nat} (hn : n ≤ 536870912) {v : Ver} (hv : VB n v) : F_object_Good.f n v = some (verB v, ()) := by
  rw [F_object_Good.e0]
  simp only [hide_eq, bIf_eq, clamp33, bnd_some]
  rw [F_object_Good.e1]
  have ht := tags35 hn hv.tags
  unfold tags at ht
  rw [lock34, ht]
  simp only [hide_eq, bIf_eq, bnd_some]
  have hz : eqD (.arr 32 (.int .u8)) v.2.2.2.2.1 ([] ++ List.replicate (32 - ([] : List Int).length) 0) = (dig v).all (· == 0) := zeroD 32 _ hv.dig
  rw [hz]
  have hl : eqD T_api_Lock v.2.2.2.2.2.2.1 (0, (0, (false, ()))) = ((lock v).1 == 0 && ((lock v).2.1 == 0 && !(lock v).2.2.1)) := by
    change (decide ((lock v).1 = 0) && (decide ((lock v).2.1 = 0) && (((lock v).2.2.1 == false) && true))) = _
    cases (lock v).2.2.1 <;> rfl
  rw [hl]
  have h0 := hv.id
  have hb := hv.blob
  have e2 : (((v.2.2.2.2.2.2.2.1.length : Nat) : Int) == 0) = decide ((tags v).length = 0) := by
    change (((tags v).length : Int) == 0) = _
    cases (tags v).length <;> rfl
  rw [e2]
  have e3 : decide (v.2.2.2.1 > 0) = decide (1 ≤ blob v) := z_pos (blob v)
  have e4 : (v.1 == 0) = !decide (1 ≤ v.1) := z_eq v.1 h0
  have e5 : (v.2.2.2.2.2.1 != clampI v.2.2.2.2.2.1) = !decide (made v = clampI (made v)) := rfl
  simp only [e3, e4, e5]
  unfold verB
  change (if (!decide (1 ≤ v.1)) = true then _ else if (!decide (made v = clampI (made v))) = true then _ else if mark v = true then _ else _) = _
  cases decide (1 ≤ v.1)
  · rfl
  · cases decide (made v = clampI (made v))
    · rfl
    · cases hm : mark v
      · change (if decide (0 ≤ vsize v) = true then if decide (vsize v ≤ 16384) = true then _ else _ else _) = _
        change (if decide (0 ≤ vsize v) = true then if decide (vsize v ≤ 16384) = true then if decide (1 ≤ blob v) = true then if lockB (lock v) = true then some (tagsB (tags v), ()) else some (false, ()) else some (false, ()) else some (false, ()) else (some (false, ()) : Option F_object_Good.R)) = _
        cases decide (0 ≤ vsize v) <;> cases decide (vsize v ≤ 16384) <;> cases decide (1 ≤ blob v) <;> cases lockB (lock v) <;> rfl
      · change (if (vsize v == 0) = true then if (blob v == 0) = true then if (dig v).all (· == 0) = true then if ((lock v).1 == 0 && ((lock v).2.1 == 0 && !(lock v).2.2.1)) = true then some (decide ((tags v).length = 0), ()) else some (false, ()) else some (false, ()) else some (false, ()) else (some (false, ()) : Option F_object_Good.R)) = _
        cases (vsize v == 0) <;> cases (blob v == 0) <;> cases (dig v).all (· == 0) <;> cases ((lock v).1 == 0 && ((lock v).2.1 == 0 && !(lock v).2.2.1)) <;> rfl
def rest19 (v : Ver) : Bool := (vsize v == 0) && ((blob v == 0) && (((lock v).1 == 0 && ((lock v).2.1 == 0 && !(lock v).2.2.1)) && decide ((tags v).length = 0)))
theorem rest19_eq (n : Nat) (v : Ver) : F_ref13_Good.J3 n (v, ()) = some (rest19 v, ()) := by
  rw [F_ref13_Good.e3]
  unfold rest19
  simp only [hide_eq, bIf_eq]
  have e2 : (((v.2.2.2.2.2.2.2.1.length : Nat) : Int) == 0) = decide ((tags v).length = 0) := by
    change (((tags v).length : Int) == 0) = _
    cases (tags v).length <;> rfl
  rw [e2]
  change (if (vsize v == 0) = true then if (blob v == 0) = true then if ((lock v).1 == 0) = true then if ((lock v).2.1 == 0) = true then if (!(lock v).2.2.1) = true then some (decide ((tags v).length = 0), ()) else some (false, ()) else some (false, ()) else some (false, ()) else some (false, ()) else (some (false, ()) : Option F_ref13_Good.R)) = _
  cases (vsize v == 0) <;> cases (blob v == 0) <;> cases ((lock v).1 == 0) <;> cases ((lock v).2.1 == 0) <;> cases (lock v).2.2.1 <;> rfl
theorem dig19_J (n : Nat) (v : Ver) (hd : (dig v).length = 32) : ∀ (m k : Nat), k ≤ 32 → 32 - k < m →
    F_ref13_Good.J2 n m ((k : Int), v, ()) = some (((dig v).drop k).all (· == 0) && rest19 v, ())
  | 0, k, _, h => by omega
  | m + 1, k, hk, h => by
    rw [F_ref13_Good.e2]
    simp only [hide_eq, bIf_eq, gIf_eq]
    by_cases hlt : k < 32
    · have ih := dig19_J n v hd m (k + 1) (by omega) (by omega)
      rw [if_pos (decide_eq_true (by omega)), if_pos ⟨by omega, by omega⟩, Int.toNat_natCast, wrap_i64 (x := (k : Int) + 1) (by omega), show ((k : Int) + 1) = ((k + 1 : Nat) : Int) by omega, ih]
      have hk' : k < (dig v).length := by rw [hd]; exact hlt
      rw [List.drop_eq_getElem_cons hk', List.all_cons]
      have e4 : List.getD v.2.2.2.2.1 k 0 = (dig v)[k]'hk' := by
        change (dig v).getD k 0 = _
        rw [List.getD_eq_getElem?_getD, List.getElem?_eq_getElem hk']; rfl
      rw [e4]
      cases hx : ((dig v)[k]'hk' == 0)
      · rw [if_pos (by simp [bne, hx])]; rfl
      · rw [if_neg (by simp [bne, hx])]; rfl
    · rw [if_neg (by simp; omega), rest19_eq, List.drop_eq_nil_of_le (by omega)]
      rfl
theorem ver19 {n : Nat} (hn : n ≤ 536870912) (h5 : 40 ≤ n) {v : Ver} (hv : VB n v) : F_ref13_Good.f n v = some (verB v, ()) := by
  rw [F_ref13_Good.e0]
  have hd := dig19_J n v hv.dig n 0 (by omega) (by omega)
  simp only [hide_eq, bIf_eq, clamp36, bnd_some]
  rw [F_ref13_Good.e1]
  have ht := tags38 hn (by omega) hv.tags
  unfold tags at ht
  rw [lock37, ht]
  simp only [hide_eq, bIf_eq, bnd_some]
  have hd' : F_ref13_Good.J2 n n (0, v, ()) = some ((dig v).all (· == 0) && rest19 v, ()) := hd
  rw [hd']
  have e4 : decide (v.1 < 1) = !decide (1 ≤ v.1) := z_lt v.1
  have e5 : (clampI v.2.2.2.2.2.1 != v.2.2.2.2.2.1) = !decide (made v = clampI (made v)) := by
    unfold bne; rw [BEq.comm]; rfl
  simp only [e4, e5]
  unfold verB
  change (if (!decide (1 ≤ v.1)) = true then _ else if (!decide (made v = clampI (made v))) = true then _ else if (!mark v) = true then _ else _) = _
  cases decide (1 ≤ v.1)
  · rfl
  · cases decide (made v = clampI (made v))
    · rfl
    · cases hm : mark v
      · change (if decide (0 ≤ vsize v) = true then if decide (vsize v ≤ 16384) = true then if decide (1 ≤ blob v) = true then if lockB (lock v) = true then some (tagsB (tags v), ()) else some (false, ()) else some (false, ()) else some (false, ()) else (some (false, ()) : Option F_ref13_Good.R)) = _
        cases decide (0 ≤ vsize v) <;> cases decide (vsize v ≤ 16384) <;> cases decide (1 ≤ blob v) <;> cases lockB (lock v) <;> rfl
      · change some ((dig v).all (· == 0) && rest19 v, ()) = _
        unfold rest19
        cases (vsize v == 0) <;> cases (blob v == 0) <;> cases (dig v).all (· == 0) <;> cases ((lock v).1 == 0 && ((lock v).2.1 == 0 && !(lock v).2.2.1)) <;> rfl
def sameV (a b : Ver) : Bool := allB sameT (tags a) (tags b) && ((a.1 == b.1) && ((mark a == mark b) && ((vsize a == vsize b) && ((blob a == blob b) && (eqD (.arr 32 (.int .u8)) (dig a) (dig b) && ((made a == made b) && eqD T_api_Lock (lock a) (lock b)))))))
theorem sameV40 {n : Nat} (hn : n ≤ 536870912) {a b : Ver} (ha : (tags a).length < n) : F_object_SameVersion.f n a b = some (sameV a b, ()) := by
  rw [F_object_SameVersion.e0]
  have h := same48 (b := tags b) hn ha
  unfold tags at h
  rw [h, bnd_some]
  simp only [hide_eq, bIf_eq]
  unfold sameV
  change (if allB sameT (tags a) (tags b) = true then if (a.1 == b.1) = true then if (mark a == mark b) = true then if (vsize a == vsize b) = true then if (blob a == blob b) = true then if eqD (.arr 32 (.int .u8)) (dig a) (dig b) = true then if (made a == made b) = true then some (eqD T_api_Lock (lock a) (lock b), ()) else some (false, ()) else some (false, ()) else some (false, ()) else some (false, ()) else some (false, ()) else some (false, ()) else (some (false, ()) : Option F_object_SameVersion.R)) = _
  cases allB sameT (tags a) (tags b) <;> cases (a.1 == b.1) <;> cases (mark a == mark b) <;> cases (vsize a == vsize b) <;> cases (blob a == blob b) <;> cases eqD (.arr 32 (.int .u8)) (dig a) (dig b) <;> cases (made a == made b) <;> rfl
theorem sameV17 {n : Nat} (hn : n ≤ 536870912) {a b : Ver} (ha : (tags a).length < n) : F_ref13_SameVersion.f n a b = some (sameV a b, ()) := by
  rw [F_ref13_SameVersion.e0]
  have h := same32 (b := tags b) hn ha
  unfold tags at h
  rw [F_ref13_SameVersion.e1]
  rw [h, bnd_some]
  simp only [hide_eq, bIf_eq]
  unfold sameV
  change (if (!(a.1 == b.1)) = true then some (false, ()) else if (!(mark a == mark b)) = true then some (false, ()) else if (!(vsize a == vsize b)) = true then some (false, ()) else if (!(blob a == blob b)) = true then some (false, ()) else if (!(made a == made b)) = true then some (false, ()) else if (!(eqD T_api_Lock (lock a) (lock b))) = true then some (false, ()) else if eqD (.arr 32 (.int .u8)) (dig a) (dig b) = true then some (allB sameT (tags a) (tags b), ()) else (some (false, ()) : Option F_ref13_SameVersion.R)) = _
  cases allB sameT (tags a) (tags b) <;> cases (a.1 == b.1) <;> cases (mark a == mark b) <;> cases (vsize a == vsize b) <;> cases (blob a == blob b) <;> cases eqD (.arr 32 (.int .u8)) (dig a) (dig b) <;> cases (made a == made b) <;> cases eqD T_api_Lock (lock a) (lock b) <;> rfl
theorem digRefl : ∀ (d : List Int), eqD (.arr 32 (.int .u8)) d d = true
  | [] => rfl
  | x :: d => by
    have := digRefl d
    change (decide (x = x) && eqD (.arr 32 (.int .u8)) d d) = true
    rw [this, decide_eq_true rfl]; rfl
theorem lockRefl (l : D_api_Lock) : eqD T_api_Lock l l = true := by
  change (decide (l.1 = l.1) && (decide (l.2.1 = l.2.1) && ((l.2.2.1 == l.2.2.1) && true))) = true
  rw [decide_eq_true rfl, decide_eq_true rfl, beq_self_eq_true]; rfl
theorem sameV_refl (a : Ver) : sameV a a = true := by
  unfold sameV
  rw [allB_refl _ (fun x _ => sameT_refl x), digRefl, lockRefl]
  simp
end Go.Proofs.YtcpkhpboemfglaaGreatDoor

namespace Go.Proofs.YtcpkhpboemfglaaGreatDoor
open Go Go.Va Go.Proofs
theorem bIf_true {α : Type} (x y : α) : bIf true x y = x := rfl
theorem bIf_false {α : Type} (x y : α) : bIf false x y = y := rfl
theorem bIf_and (a b : Bool) : bIf a (some (b, ())) (some (false, ())) = some (a && b, ()) := by cases a <;> rfl
theorem bIf_nand (a b : Bool) : bIf a (some (false, ())) (some (b, ())) = some (!a && b, ()) := by cases a <;> rfl
theorem bIf_same {α : Type} (a : Bool) (x : α) : bIf a x x = x := by cases a <;> rfl
theorem bIf_bool (a : Bool) : bIf a (some (true, ())) (some (false, ())) = some (a, ()) := by cases a <;> rfl
theorem all_loop {α R : Type} {l : List α} (d : α) (p : α → Bool) (J : Nat → Int → Option R) (yes no : Option R)
    (hs : ∀ m (k : Nat), k < l.length → J (m + 1) (k : Int) = bIf (p (l.getD k d)) (J m ((k + 1 : Nat) : Int)) no) (he : ∀ m, J (m + 1) ((l.length : Nat) : Int) = yes) :
    ∀ (m k : Nat), k ≤ l.length → l.length - k < m → J m (k : Int) = bIf ((l.drop k).all p) yes no
  | 0, k, _, h => by omega
  | m + 1, k, hk, h => by
    by_cases hlt : k < l.length
    · rw [hs m k hlt, all_loop d p J yes no hs he m (k + 1) (by omega) (by omega), List.drop_eq_getElem_cons hlt, List.all_cons, List.getD_eq_getElem?_getD, List.getElem?_eq_getElem hlt]
      simp only [Option.getD_some]
      cases p l[k] <;> rfl
    · have : k = l.length := by omega
      subst this
      rw [he, List.drop_length]; rfl
theorem idx_loop {α : Type} {l : List α} (d : α) (p : α → Bool) (J : Nat → Int → Option (Int × Unit))
    (hs : ∀ m (k : Nat), k < l.length → J (m + 1) (k : Int) = bIf (p (l.getD k d)) (some ((k : Int), ())) (J m ((k + 1 : Nat) : Int))) (he : ∀ m, J (m + 1) ((l.length : Nat) : Int) = some (-1, ())) :
    ∀ (m k : Nat), k ≤ l.length → l.length - k < m → ∃ i, J m (k : Int) = some (i, ()) ∧ decide (i ≥ 0) = (l.drop k).any p
  | 0, k, _, h => by omega
  | m + 1, k, hk, h => by
    by_cases hlt : k < l.length
    · obtain ⟨i, h1, h2⟩ := idx_loop d p J hs he m (k + 1) (by omega) (by omega)
      rw [hs m k hlt, List.drop_eq_getElem_cons hlt, List.any_cons, List.getD_eq_getElem?_getD, List.getElem?_eq_getElem hlt]
      simp only [Option.getD_some]
      cases p l[k]
      · exact ⟨i, h1, by rw [h2]; rfl⟩
      · exact ⟨_, rfl, by simp⟩
    · have : k = l.length := by omega
      subst this
      rw [he, List.drop_length]
      exact ⟨_, rfl, rfl⟩
theorem cast_up (k : Nat) (h : k < 4611686018427387904) : IntKind.i64.wrap ((k : Int) + 1) = ((k + 1 : Nat) : Int) := by rw [wrap_i64 (by omega)]; omega
theorem dec_not {p q : Prop} [Decidable p] [Decidable q] (h : p ↔ ¬ q) : decide p = !decide q := by rw [← decide_not]; exact decide_eq_decide.2 h
def modeB (d : D_api_Default) : Bool := if d.1 = 0 then d.2.1 == 0 else (d.1 == 1 || d.1 == 2) && (decide (d.2.1 ≥ 1) && decide (d.2.1 ≤ 36500))
theorem mode_Good (n : Nat) (d : D_api_Default) : F_mode_Good.f n d = some (modeB d, ()) := by
  rw [F_mode_Good.e0]
  simp only [F_mode_Good.e1, hide_eq, bIf_and]
  unfold modeB
  by_cases h0 : d.1 = 0
  · simp [h0, bIf_true]
  · rw [beq_false_of_ne h0, bIf_false, if_neg h0]
    cases (d.1 == 1) <;> rfl
def globL : List UInt8 → Bool
  | [] => true
  | c :: r => if c = 92 then match r with
    | [] => false
    | _ :: r' => globL r'
    else globL r
def globB (p : ByteArray) : Bool := decide (p.size ≤ 200) && globL p.data.toList
theorem globL_cons {c : UInt8} {r : List UInt8} (h : c ≠ 92) : globL (c :: r) = globL r := by rw [globL.eq_def]; simp only [if_neg h]
theorem globL_q (b : UInt8) (r : List UInt8) : globL (92 :: b :: r) = globL r := by rw [globL.eq_def]; simp
theorem globL_end : globL [92] = false := by rw [globL.eq_def]; simp
theorem drop_getD (l : List UInt8) {k : Nat} (h : k < l.length) : l.drop k = l.getD k 0 :: l.drop (k + 1) := by
  rw [List.drop_eq_getElem_cons h, List.getD_eq_getElem?_getD, List.getElem?_eq_getElem h]; rfl
theorem u8_eq {b : UInt8} {c : Nat} (hc : c < 256) : ((b.toNat : Int) == (c : Int)) = decide (b = UInt8.ofNat c) := by
  have := b.toNat_lt
  by_cases h : b = UInt8.ofNat c
  · subst h; rw [decide_eq_true rfl]; simp [UInt8.toNat_ofNat']; omega
  · rw [decide_eq_false h]
    refine beq_false_of_ne (fun e => h ?_)
    apply UInt8.toNat_inj.1
    simp [UInt8.toNat_ofNat']
    omega
theorem glob_J (n : Nat) (p : ByteArray) (hp : p.size ≤ 200) : ∀ (m k : Nat) (out : List D_glob_piece), k ≤ p.size → p.size - k < m → out.length ≤ k →
    ∃ o, F_glob_pieces.J1 n m (p, out, (k : Int), ()) = some (o, globL (p.data.toList.drop k), ())
  | 0, k, out, _, h, _ => by omega
  | m + 1, k, out, hk, h, ho => by
    have hsz := size_eq p
    rw [F_glob_pieces.e1]
    simp only [hide_eq]
    by_cases hlt : k < p.size
    · have hd := drop_getD p.data.toList (k := k) (by omega)
      rw [decide_eq_true (by omega), bIf_true, gIf_pos ⟨by omega, by omega⟩, bt_nat, hd]
      have hg : ∀ o : List D_glob_piece, o.length ≤ k + 1 → (o.length + 1) * 16 ≤ 70368744177664 := fun o h' => by omega
      have e1 : (((p.data.toList.getD k 0).toNat : Int) == 42) = decide (p.data.toList.getD k 0 = 42) := u8_eq (c := 42) (by decide)
      have e2 : (((p.data.toList.getD k 0).toNat : Int) == 63) = decide (p.data.toList.getD k 0 = 63) := u8_eq (c := 63) (by decide)
      have e3 : (((p.data.toList.getD k 0).toNat : Int) == 92) = decide (p.data.toList.getD k 0 = 92) := u8_eq (c := 92) (by decide)
      rw [e1, e2, e3]
      generalize p.data.toList.getD k 0 = c
      have st : ∀ o : List D_glob_piece, o.length ≤ k + 1 → ∃ o', F_glob_pieces.J3 n m (p, o, (k : Int), ()) = some (o', globL (p.data.toList.drop (k + 1)), ()) := fun o h' => by
        rw [F_glob_pieces.e3, cast_up k (by omega)]
        exact glob_J n p hp m (k + 1) o (by omega) (by omega) h'
      by_cases h1 : c = 42
      · rw [decide_eq_true h1, bIf_true, gIf_pos (hg out (by omega)), globL_cons (by rw [h1]; decide)]
        exact st _ (by simp; omega)
      · rw [decide_eq_false h1, bIf_false]
        by_cases h2 : c = 63
        · rw [decide_eq_true h2, bIf_true, gIf_pos (hg out (by omega)), globL_cons (by rw [h2]; decide)]
          exact st _ (by simp; omega)
        · rw [decide_eq_false h2, bIf_false]
          by_cases h3 : c = 92
          · rw [decide_eq_true h3, bIf_true, cast_up k (by omega), h3]
            by_cases h4 : k + 1 = p.size
            · rw [beq_iff_eq.2 (by omega), bIf_true, List.drop_eq_nil_of_le (by omega), globL_end]
              exact ⟨_, rfl⟩
            · rw [beq_false_of_ne (by omega), bIf_false, F_glob_pieces.e2, gIf_pos ⟨by omega, by omega⟩, gIf_pos (hg out (by omega)), F_glob_pieces.e3, cast_up (k + 1) (by omega), drop_getD p.data.toList (k := k + 1) (by omega), globL_q]
              exact glob_J n p hp m (k + 1 + 1) _ (by omega) (by omega) (by simp; omega)
          · rw [decide_eq_false h3, bIf_false, F_glob_pieces.e2, gIf_pos ⟨by omega, by omega⟩, gIf_pos (hg out (by omega)), globL_cons h3]
            exact st _ (by simp; omega)
    · have hkk : k = p.size := by omega
      subst hkk
      rw [decide_eq_false (by omega), bIf_false, F_glob_pieces.e4, hsz, List.drop_length]
      exact ⟨_, rfl⟩
theorem glob_Sound {n : Nat} {p : ByteArray} (hp : p.size < n) : F_glob_Sound.f n p = some (globB p, ()) := by
  rw [F_glob_Sound.e0, F_glob_pieces.e0]
  simp only [hide_eq]
  unfold globB
  by_cases h : p.size ≤ 200
  · rw [decide_eq_false (by omega), bIf_false, decide_eq_true h]
    obtain ⟨o, ho⟩ := glob_J n p h n 0 [] (by omega) (by omega) (by simp)
    rw [show ((0 : Nat) : Int) = 0 from rfl] at ho
    rw [ho]; rfl
  · rw [decide_eq_true (by omega), decide_eq_false h]; rfl
def partB (p : D_api_Part) : Bool := decide (p.1 ≥ 1) && (decide (p.1 ≤ 10000) && (decide (p.2.1 ≥ 0) && (decide (p.2.1 ≤ 1024) && decide (p.2.2.1 ≥ 1))))
def ruleB (r : D_api_Rule) : Bool := decide (r.1.size ≤ 200) && (cleanB r.1 && (tagsB r.2.1 && (decide (r.2.2.1 ≥ 0) && (decide (r.2.2.1 ≤ 36500) && (decide (r.2.2.2.1 ≥ 0) && decide (r.2.2.2.1 ≤ 36500))))))
structure RuB (n : Nat) (r : D_api_Rule) : Prop where
  pre : r.1.size < n
  tags : TsB n r.2.1
theorem dec_cast (a b : Nat) : decide ((a : Int) ≤ (b : Int)) = decide (a ≤ b) := decide_eq_decide.2 (by omega)
theorem entry_Rule {n : Nat} (hn : n ≤ 536870912) {r : D_api_Rule} (hr : RuB n r) : F_entry_Rule.f n r = some (ruleB r, ()) := by
  have h1 := hr.pre
  rw [F_entry_Rule.e0, clean42 (by omega) h1, tags35 hn hr.tags]
  simp only [hide_eq, bnd_some, bIf_and]
  rw [show (200 : Int) = ((200 : Nat) : Int) from rfl, dec_cast]; rfl
def rulesB (l : List D_api_Rule) : Bool := decide (l.length ≤ 8) && l.all ruleB
structure RusB (n : Nat) (l : List D_api_Rule) : Prop where
  len : l.length < n
  all : ∀ r ∈ l, RuB n r
theorem any_not {α : Type} (p : α → Bool) : ∀ l : List α, (!l.any fun x => !p x) = l.all p
  | [] => rfl
  | x :: l => by
    have := any_not p l
    simp only [List.any_cons, List.all_cons, Bool.not_or, Bool.not_not, this]
theorem entry_Rules {n : Nat} (hn : n ≤ 536870912) {l : List D_api_Rule} (hl : RusB n l) : F_entry_Rules.f n l = some (rulesB l, ()) := by
  have hlen := hl.len
  obtain ⟨i, h1, h2⟩ := idx_loop (l := l) (Va.dflt T_api_Rule) (fun r => !ruleB r) (fun m k => F_slices_IndexFunc_Rule.J1 n m (l, ((l.length : Nat) : Int), k, ()))
    (fun m k hk => by
      try dsimp only
      rw [F_slices_IndexFunc_Rule.e1, hide_eq, decide_eq_true (by omega), bIf_true, gIf_pos ⟨by omega, by omega⟩, Int.toNat_natCast, F_entry_Rules_1.e0, entry_Rule hn (hl.all _ (getD_memA hk)), cast_up k (by omega)]; rfl)
    (fun m => by
      try dsimp only
      rw [F_slices_IndexFunc_Rule.e1, hide_eq, decide_eq_false (by omega), bIf_false, F_slices_IndexFunc_Rule.e2]) n 0 (by omega) (by omega)
  rw [F_entry_Rules.e0, F_slices_ContainsFunc_Rule.e0, F_slices_IndexFunc_Rule.e0]
  try dsimp only at h1
  rw [show ((0 : Nat) : Int) = 0 from rfl] at h1
  rw [h1]
  simp only [hide_eq, bnd_some, bIf_and]
  rw [h2, List.drop_zero, any_not, show (8 : Int) = ((8 : Nat) : Int) from rfl, dec_cast]; rfl
def grantB (g : D_api_Grant) : Bool := globB g.2.1 && (globB g.2.2.1 && globB g.2.2.2.1)
structure GrB (n : Nat) (g : D_api_Grant) : Prop where
  a : g.2.1.size < n
  b : g.2.2.1.size < n
  c : g.2.2.2.1.size < n
def grantsB (l : List D_api_Grant) : Bool := decide (l.length ≤ 8) && l.all grantB
structure GrsB (n : Nat) (l : List D_api_Grant) : Prop where
  len : l.length < n
  all : ∀ r ∈ l, GrB n r
theorem entry_Grants {n : Nat} (hn : n ≤ 536870912) {l : List D_api_Grant} (hl : GrsB n l) : F_entry_Grants.f n l = some (grantsB l, ()) := by
  have hlen := hl.len
  obtain ⟨i, h1, h2⟩ := idx_loop (l := l) (Va.dflt T_api_Grant) (fun r => !grantB r) (fun m k => F_slices_IndexFunc_Grant.J1 n m (l, ((l.length : Nat) : Int), k, ()))
    (fun m k hk => by
      have hr := hl.all _ (getD_memA (d := Va.dflt T_api_Grant) hk)
      try dsimp only
      rw [F_slices_IndexFunc_Grant.e1, hide_eq, decide_eq_true (by omega), bIf_true, gIf_pos ⟨by omega, by omega⟩, Int.toNat_natCast, F_entry_Grants_1.e0]
      generalize hx : l.getD k (Va.dflt T_api_Grant) = r at hr
      rw [glob_Sound hr.a, glob_Sound hr.b, glob_Sound hr.c, cast_up k (by omega)]
      simp only [bnd_some]
      unfold grantB
      cases globB r.2.1 <;> cases globB r.2.2.1 <;> cases globB r.2.2.2.1 <;> rfl)
    (fun m => by
      try dsimp only
      rw [F_slices_IndexFunc_Grant.e1, hide_eq, decide_eq_false (by omega), bIf_false, F_slices_IndexFunc_Grant.e2]) n 0 (by omega) (by omega)
  rw [F_entry_Grants.e0, F_slices_ContainsFunc_Grant.e0, F_slices_IndexFunc_Grant.e0]
  try dsimp only at h1
  rw [show ((0 : Nat) : Int) = 0 from rfl] at h1
  rw [h1]
  simp only [hide_eq, bnd_some, bIf_and]
  rw [h2, List.drop_zero, any_not, show (8 : Int) = ((8 : Nat) : Int) from rfl, dec_cast]; rfl
end Go.Proofs.YtcpkhpboemfglaaGreatDoor

namespace Go.Proofs.YtcpkhpboemfglaaGreatDoor
open Go Go.Va Go.Proofs
def lowB (b : UInt8) : Bool := (decide (97 ≤ b.toNat) && decide (b.toNat ≤ 122)) || (decide (48 ≤ b.toNat) && decide (b.toNat ≤ 57))
def digB (b : UInt8) : Bool := decide (48 ≤ b.toNat) && decide (b.toNat ≤ 57)
def lowT : List UInt8 := [97, 98, 99, 100, 101, 102, 103, 104, 105, 106, 107, 108, 109, 110, 111, 112, 113, 114, 115, 116, 117, 118, 119, 120, 121, 122, 48, 49, 50, 51, 52, 53, 54, 55, 56, 57]
def digT : List UInt8 := [48, 49, 50, 51, 52, 53, 54, 55, 56, 57]
theorem low_all : ∀ n, n < 256 → (decide (Lib.indexByte lowT (UInt8.ofNat n) ≥ 0) = lowB (UInt8.ofNat n) ∧ digT.contains (UInt8.ofNat n) = digB (UInt8.ofNat n)) := by decide +kernel
theorem ofNat_toNat (b : UInt8) : UInt8.ofNat b.toNat = b := by simp
theorem low_idx (b : UInt8) : decide (Lib.indexByte lowT b ≥ 0) = lowB b := by
  have := (low_all b.toNat b.toNat_lt).1; rwa [ofNat_toNat] at this
theorem dig_has (b : UInt8) : digT.contains b = digB b := by
  have := (low_all b.toNat b.toNat_lt).2; rwa [ofNat_toNat] at this
theorem among_low (n : Nat) (b : UInt8) : F_label_among.f n ⟨#[97, 98, 99, 100, 101, 102, 103, 104, 105, 106, 107, 108, 109, 110, 111, 112, 113, 114, 115, 116, 117, 118, 119, 120, 121, 122, 48, 49, 50, 51, 52, 53, 54, 55, 56, 57]⟩ (b.toNat : Int) = some (lowB b, ()) := by
  rw [F_label_among.e0]
  unfold F_strings_IndexByte.f
  rw [bnd_some, hide_eq]
  have e : ((b.toNat : Int)).toNat.toUInt8 = b := by
    rw [Int.toNat_natCast]
    exact ofNat_toNat b
  rw [e]
  exact congrArg (fun x => some (x, ())) (low_idx b)
def spl (c : UInt8) : List UInt8 → List (List UInt8)
  | [] => [[]]
  | b :: r => if b = c then [] :: spl c r else match spl c r with
    | [] => [[b]]
    | p :: ps => (b :: p) :: ps
theorem index_cons (b c : UInt8) (l : List UInt8) : Lib.index (b :: l) [c] = if b = c then 0 else if Lib.index l [c] = -1 then -1 else Lib.index l [c] + 1 := by
  rw [Lib.index]
  by_cases h : b = c
  · subst h; simp [List.isPrefixOf]
  · rw [if_neg h]
    have hp : ([c] : List UInt8).isPrefixOf (b :: l) = false := by simp [List.isPrefixOf, Ne.symm h]
    rw [hp]
    simp
theorem splitK_spl (c : UInt8) : ∀ l : List UInt8, Lib.splitK [c] 0 (Lib.count l [c]) l = spl c l
  | [] => by rw [Lib.count_one]; rfl
  | b :: l => by
    have ih := splitK_spl c l
    by_cases h : b = c
    · subst h
      rw [Lib.count_cons_eq, Nat.add_comm, Lib.splitK, index_cons, if_pos rfl, if_neg (by decide)]
      unfold spl
      rw [if_pos rfl]
      change List.take 0 (b :: l) :: Lib.splitK [b] 0 (Lib.count l [b]) (List.drop 1 (b :: l)) = _
      rw [List.take_zero, List.drop_one, List.tail_cons, ih]
    · rw [Lib.count_cons_ne b c l h]
      unfold spl
      rw [if_neg h, ← ih]
      cases hk : Lib.count l [c] with
      | zero => rfl
      | succ k =>
        rw [Lib.splitK, Lib.splitK, index_cons, if_neg h]
        by_cases hm : Lib.index l [c] = -1
        · rw [if_pos hm, if_pos (by decide), if_pos (by rw [hm]; decide)]
        · have hge := Lib.index_ge l [c]
          obtain ⟨j, hj⟩ : ∃ j : Nat, Lib.index l [c] = j := ⟨(Lib.index l [c]).toNat, by omega⟩
          rw [if_neg hm, hj, if_neg (by rw [beq_iff_eq]; omega), if_neg (by rw [beq_iff_eq]; omega), show ((j : Int) + 1).toNat = j + 1 by omega, show ((j : Int)).toNat = j by omega]
          rfl
def okP (p : List UInt8) : Bool := decide (1 ≤ p.length) && (decide (p.length ≤ 3) && p.all digB)
def addrL (l : List UInt8) : Bool := decide ((spl 46 l).length = 4) && (spl 46 l).all okP
theorem dropWhile_nil {α : Type} (p : α → Bool) : ∀ l : List α, (l.dropWhile p = []) ↔ l.all p = true
  | [] => by simp
  | x :: l => by
    rw [List.dropWhile_cons, List.all_cons]
    cases h : p x
    · simp
    · simp [dropWhile_nil p l]
theorem trimS_nil (l : List UInt8) : (Lib.trimS l digT = []) ↔ l.all digB = true := by
  have hd : (digT.contains ·) = digB := funext dig_has
  unfold Lib.trimS Lib.trimLeftS Lib.trimRightS
  rw [hd, dropWhile_nil, List.all_reverse]
  constructor
  · intro h
    have : l.reverse.dropWhile digB = [] := by
      cases hc : l.reverse.dropWhile digB with
      | nil => rfl
      | cons x r =>
        have h1 := List.head?_dropWhile_not digB l.reverse
        rw [hc] at h1 h
        simp only [List.all_cons, Bool.and_eq_true] at h
        simp [h.1] at h1
    rw [dropWhile_nil, List.all_reverse] at this
    exact this
  · intro h
    have : l.reverse.dropWhile digB = [] := by rw [dropWhile_nil, List.all_reverse]; exact h
    rw [this]; rfl
theorem all_map {α β : Type} (f : α → β) (p : β → Bool) : ∀ l : List α, (l.map f).all p = l.all fun x => p (f x)
  | [] => rfl
  | x :: l => by simp only [List.map_cons, List.all_cons, all_map f p l]
theorem label_address {n : Nat} (hn : 300 ≤ n) {s : ByteArray} (hs : s.size ≤ 63) : F_label_address.f n s = some (addrL s.data.toList, ()) := by
  rw [F_label_address.e0]
  unfold F_strings_Split.f
  rw [if_pos ⟨by omega, by decide⟩, bnd_some]
  have hmap := Lib.splitB_data ⟨#[46]⟩ 0 (Lib.countB s ⟨#[46]⟩) s
  have hlen := Lib.splitB_all ⟨#[46]⟩ (by decide) 0 _ s rfl
  have hcl := Lib.countB_le ⟨#[46]⟩ (by decide) s.size s (Nat.le_refl _)
  have hspl : (Lib.splitB ⟨#[46]⟩ 0 (Lib.countB s ⟨#[46]⟩) s).map (·.data.toList) = spl 46 s.data.toList := hmap.trans (splitK_spl 46 s.data.toList)
  simp only [hide_eq]
  generalize Lib.splitB ⟨#[46]⟩ 0 (Lib.countB s ⟨#[46]⟩) s = t at hspl hlen
  unfold addrL
  rw [← hspl, List.length_map, all_map]
  have h1 := all_loop (l := t) (⟨#[]⟩ : ByteArray) (fun x => okP x.data.toList) (fun m k => F_label_address.J1 n m (t, ((t.length : Nat) : Int), k, ())) (some (true, ())) (some (false, ()))
    (fun m k hk => by
      try dsimp only
      rw [F_label_address.e1, hide_eq, decide_eq_true (by omega), bIf_true, gIf_pos ⟨by omega, by omega⟩, Int.toNat_natCast, Nat.zero_add, cast_up k (by omega)]
      generalize t.getD k ⟨#[]⟩ = x
      simp only [hide_eq]
      rw [size0]
      unfold okP
      have hx := size_eq x
      have e1 : decide (x.size = 0) = !decide (1 ≤ x.data.toList.length) := dec_not (by omega)
      have e2 : decide ((x.size : Int) > 3) = !decide (x.data.toList.length ≤ 3) := dec_not (by omega)
      rw [e1, e2]
      by_cases h3 : x.data.toList.length ≤ 3
      · unfold F_strings_Trim.f
        rw [if_pos ⟨by omega, by decide, by decide⟩, bnd_some, decide_eq_true h3]
        have e3 : eqS (⟨(Lib.trimS x.data.toList digT).toArray⟩ : ByteArray) ⟨#[]⟩ = x.data.toList.all digB := by
          rw [size0]
          have hz : ((⟨(Lib.trimS x.data.toList digT).toArray⟩ : ByteArray).size = 0) ↔ x.data.toList.all digB = true := by
            rw [← trimS_nil]
            simp [ByteArray.size]
          by_cases h : x.data.toList.all digB = true
          · rw [h, decide_eq_true (hz.2 h)]
          · rw [decide_eq_false (fun h' => h (hz.1 h'))]; simpa using h
        rw [show (#[48, 49, 50, 51, 52, 53, 54, 55, 56, 57] : Array UInt8).toList = digT from rfl, e3]
        cases decide (1 ≤ x.data.toList.length) <;> cases x.data.toList.all digB <;> rfl
      · rw [decide_eq_false h3]
        cases decide (1 ≤ x.data.toList.length) <;> rfl)
    (fun m => by
      try dsimp only
      rw [F_label_address.e1, hide_eq, decide_eq_false (by omega), bIf_false, F_label_address.e2]) n 0 (by omega) (by omega)
  try dsimp only at h1
  rw [show ((0 : Nat) : Int) = 0 from rfl] at h1
  by_cases h4 : t.length = 4
  · rw [show (((t.length : Nat) : Int) != 4) = false by rw [h4]; rfl, bIf_false, h1, decide_eq_true h4, List.drop_zero, bIf_bool]; rfl
  · rw [show (((t.length : Nat) : Int) != 4) = true by rw [bne_iff_ne]; omega, bIf_true, decide_eq_false h4]; rfl
def badN (c d : UInt8) : Bool := (decide (d = 46) || decide (d = 45)) && (decide (c = 46) || decide (d = 46))
def mid (c : UInt8) : Bool := decide (c = 45) || decide (c = 46)
def nxt (c : UInt8) : List UInt8 → Bool
  | [] => false
  | d :: _ => !badN c d
def lab : Bool → List UInt8 → Bool
  | _, [] => true
  | first, c :: r => (lowB c || (mid c && (!first && nxt c r))) && lab false r
def bucketB (s : ByteArray) : Bool := decide (3 ≤ s.size) && (decide (s.size ≤ 63) && (!addrL s.data.toList && lab true s.data.toList))
theorem u8_ne {b : UInt8} {c : Nat} (hc : c < 256) : ((b.toNat : Int) != (c : Int)) = !decide (b = UInt8.ofNat c) := by rw [← u8_eq hc]; rfl
theorem bucket_J (n : Nat) (s : ByteArray) (hs : s.size ≤ 63) : ∀ (m k : Nat), k ≤ s.size → s.size - k < m →
    F_label_Bucket.J2 n m (s, (s.size : Int), (k : Int), ()) = some (lab (decide (k = 0)) (s.data.toList.drop k), ())
  | 0, k, _, h => by omega
  | m + 1, k, hk, h => by
    have hsz := size_eq s
    rw [F_label_Bucket.e2]
    simp only [hide_eq]
    by_cases hlt : k < s.size
    · have ih := bucket_J n s hs m (k + 1) (by omega) (by omega)
      rw [decide_eq_false (show ¬ (k + 1 = 0) by omega)] at ih
      have hg : (0 ≤ (k : Int) ∧ (k : Int) < (s.size : Int)) := ⟨by omega, by omega⟩
      simp only [gIf_pos hg]
      rw [decide_eq_true (by omega), bIf_true, bt_nat, among_low, bnd_some, cast_up k (by omega), ih, wrap_i64 (x := (s.size : Int) - 1) (by omega)]
      rw [drop_getD s.data.toList (k := k) (by omega)]
      have e1 : (((s.data.toList.getD k 0).toNat : Int) != 45) = !decide (s.data.toList.getD k 0 = 45) := u8_ne (c := 45) (by decide)
      have e2 : (((s.data.toList.getD k 0).toNat : Int) != 46) = !decide (s.data.toList.getD k 0 = 46) := u8_ne (c := 46) (by decide)
      rw [e1, e2]
      generalize hc : s.data.toList.getD k 0 = c
      conv => rhs; unfold lab
      have e3 : ((k : Int) == 0) = decide (k = 0) := by
        by_cases h0 : k = 0
        · subst h0; rfl
        · rw [decide_eq_false h0]; exact beq_false_of_ne (by omega)
      have e4 : ((k : Int) == (s.size : Int) - 1) = decide (k + 1 = s.size) := by
        by_cases h0 : k + 1 = s.size
        · rw [decide_eq_true h0]; exact beq_iff_eq.2 (by omega)
        · rw [decide_eq_false h0]; exact beq_false_of_ne (by omega)
      rw [e3, e4]
      cases hl : lowB c
      · simp only [bIf_false]
        unfold mid
        by_cases hend : k + 1 = s.size
        · rw [decide_eq_true hend, show s.data.toList.drop (k + 1) = [] from List.drop_eq_nil_of_le (by omega)]
          cases decide (c = 45) <;> cases decide (c = 46) <;> cases decide (k = 0) <;> rfl
        · rw [decide_eq_false hend]
          have hJ3 : F_label_Bucket.J3 n m (s, (k : Int), (s.size : Int), (k : Int), ()) = some (!badN c (s.data.toList.getD (k + 1) 0) && lab false (s.data.toList.drop (k + 1)), ()) := by
            rw [F_label_Bucket.e3, cast_up k (by omega), gIf_pos ⟨by omega, by omega⟩, bt_nat, bt_nat, hc, ih]
            simp only [hide_eq, gIf_pos hg]
            have f1 : (((s.data.toList.getD (k + 1) 0).toNat : Int) == 46) = decide (s.data.toList.getD (k + 1) 0 = 46) := u8_eq (c := 46) (by decide)
            have f2 : (((s.data.toList.getD (k + 1) 0).toNat : Int) == 45) = decide (s.data.toList.getD (k + 1) 0 = 45) := u8_eq (c := 45) (by decide)
            have f3 : ((c.toNat : Int) == 46) = decide (c = 46) := u8_eq (c := 46) (by decide)
            rw [f1, f2, f3]
            unfold badN
            cases decide (s.data.toList.getD (k + 1) 0 = 46) <;> cases decide (s.data.toList.getD (k + 1) 0 = 45) <;> cases decide (c = 46) <;> rfl
          rw [hJ3]
          have hm : nxt c (s.data.toList.drop (k + 1)) = !badN c (s.data.toList.getD (k + 1) 0) := by
            rw [drop_getD s.data.toList (k := k + 1) (by omega)]; rfl
          rw [hm]
          cases decide (c = 45) <;> cases decide (c = 46) <;> cases decide (k = 0) <;> simp [bIf_true, bIf_false]
      · simp only [bIf_true, Bool.true_or, Bool.true_and]
    · have hkk : k = s.size := by omega
      subst hkk
      rw [decide_eq_false (by omega), bIf_false, F_label_Bucket.e4, hsz, List.drop_length]
      rfl
theorem label_Bucket {n : Nat} (hn : 300 ≤ n) (s : ByteArray) : F_label_Bucket.f n s = some (bucketB s, ()) := by
  rw [F_label_Bucket.e0]
  simp only [hide_eq]
  unfold bucketB
  have e1 : decide ((s.size : Int) < 3) = !decide (3 ≤ s.size) := dec_not (by omega)
  have e2 : decide ((s.size : Int) > 63) = !decide (s.size ≤ 63) := dec_not (by omega)
  rw [e1, e2]
  by_cases h : s.size ≤ 63
  · rw [label_address hn h, bnd_some, decide_eq_true h, F_label_Bucket.e1]
    have := bucket_J n s h n 0 (by omega) (by omega)
    rw [show ((0 : Nat) : Int) = 0 from rfl, List.drop_zero] at this
    rw [this]
    cases decide (3 ≤ s.size) <;> cases addrL s.data.toList <;> simp [bIf_true, bIf_false]
  · rw [decide_eq_false h]
    cases decide (3 ≤ s.size) <;> rfl
end Go.Proofs.YtcpkhpboemfglaaGreatDoor

namespace Go.Proofs.YtcpkhpboemfglaaGreatDoor
open Go Go.Va Go.Proofs
theorem zip_loop {α : Type} {a b : List α} (d : α) (q : α → α → Bool) (J : Nat → Int → Option (Bool × Unit)) (hab : a.length = b.length)
    (hs : ∀ m (k : Nat), k < a.length → J (m + 1) (k : Int) = bIf (q (a.getD k d) (b.getD k d)) (J m ((k + 1 : Nat) : Int)) (some (false, ())))
    (he : ∀ m, J (m + 1) ((a.length : Nat) : Int) = some (true, ())) :
    ∀ (m k : Nat), k ≤ a.length → a.length - k < m → J m (k : Int) = some (allB q (a.drop k) (b.drop k), ())
  | 0, k, _, h => by omega
  | m + 1, k, hk, h => by
    by_cases hlt : k < a.length
    · rw [hs m k hlt, zip_loop d q J hab hs he m (k + 1) (by omega) (by omega), allB_step d hlt (by omega)]
      cases q (a.getD k d) (b.getD k d) <;> rfl
    · have : k = a.length := by omega
      subst this
      rw [he, allB_end (by omega) (by omega)]
theorem ne_len {α β : Type} (a : List α) (b : List β) : (((a.length : Nat) : Int) != ((b.length : Nat) : Int)) = !decide (a.length = b.length) := by
  rw [bne, show ((((a.length : Nat) : Int) == ((b.length : Nat) : Int))) = decide (((a.length : Nat) : Int) = ((b.length : Nat) : Int)) from rfl]
  congr 1; exact decide_eq_decide.2 (by omega)
abbrev E : Type := D_api_Entry
structure EB (n : Nat) (e : E) : Prop where
  buck : e.2.2.1.size < n
  key : e.2.2.2.1.size < n
  id : 0 ≤ e.2.2.2.2.1
  ver : VB n e.2.2.2.2.2.1
  tags : TsB n e.2.2.2.2.2.2.2.1
  rules : RusB n e.2.2.2.2.2.2.2.2.2.1
  grants : GrsB n e.2.2.2.2.2.2.2.2.2.2.1
structure EsB (n : Nat) (l : List E) : Prop where
  len : l.length < n
  all : ∀ e ∈ l, EB n e
def hasB (k : Int) : ByteArray :=
  if k = 1 ∨ k = 2 ∨ k = 3 then ⟨#[46]⟩ else if k = 4 then ⟨#[100]⟩ else if k = 5 then ⟨#[114]⟩ else if k = 6 then ⟨#[103]⟩ else if k = 7 then ⟨#[107, 118]⟩
  else if k = 8 then ⟨#[107, 105]⟩ else if k = 9 then ⟨#[107, 105, 108]⟩ else if k = 10 ∨ k = 11 then ⟨#[107, 105, 116]⟩ else if k = 12 then ⟨#[105, 112]⟩ else if k = 13 then ⟨#[105]⟩ else ⟨#[]⟩
def inB (s : ByteArray) (c : Nat) : Bool := s.data.toList.any fun b => decide (b = UInt8.ofNat c)
def fld (h : ByteArray) (c : Nat) (good zero : Bool) : Bool := if inB h c then good else zero
abbrev verZ : Ver := (0, (false, (0, (0, ((List.replicate 32 0), (0, ((0, (0, (false, ()))), ([], ()))))))))
end Go.Proofs.YtcpkhpboemfglaaGreatDoor

namespace Go.Proofs.YtcpkhpboemfglaaGreatDoor
open Go Go.Va Go.Proofs
abbrev lockZ : D_api_Lock := (0, (0, (false, ())))
abbrev partZ : D_api_Part := (0, (0, (0, ((List.replicate 32 0), ()))))
theorem allB_nil {α : Type} (q : α → α → Bool) (a : List α) : allB q a [] = (((a.length : Nat) : Int) == 0) := by
  cases a with
  | nil => rfl
  | cons x a => rfl
theorem defRefl (p : D_api_Default) : eqD T_api_Default p p = true := by
  change (decide (p.1 = p.1) && (decide (p.2.1 = p.2.1) && true)) = true
  rw [decide_eq_true rfl, decide_eq_true rfl]; rfl
theorem c00 : (((0 : Nat) : Int) == (0 : Int)) = true := rfl
theorem VBz {n : Nat} (hn : 0 < n) : VB n verZ := ⟨by decide, by decide, rfl, ⟨hn, by intro t ht; exact nomatch ht⟩⟩
theorem bucket_nil (b : ByteArray) (h : eqS b ⟨#[]⟩ = true) : bucketB b = false := by
  rw [size0, decide_eq_true_iff] at h
  unfold bucketB
  rw [decide_eq_false (by omega)]; rfl
end Go.Proofs.YtcpkhpboemfglaaGreatDoor

namespace Go.Proofs.YtcpkhpboemfglaaGreatDoor
open Go Go.Va Go.Proofs
def packF : Nat → Nat → List Int
  | 0, _ => []
  | k + 1, x => if x < 128 then [(x : Int)] else ((x % 128 + 128 : Nat) : Int) :: packF k (x / 128)
def eN (x : Int) : List Int := packF 10 x.toNat
theorem packF_big {k x : Nat} (h : ¬ x < 128) : packF (k + 1) x = ((x % 128 + 128 : Nat) : Int) :: packF k (x / 128) := by rw [packF, if_neg h]
theorem packF_small {k x : Nat} (h : x < 128) : packF (k + 1) x = [(x : Int)] := by rw [packF, if_pos h]
theorem packF_len : ∀ (k x : Nat), (packF k x).length ≤ k
  | 0, _ => Nat.le_refl 0
  | k + 1, x => by
    unfold packF
    split
    · simp
    · have := packF_len k (x / 128); simp; omega
theorem packF_pos {k : Nat} (x : Nat) (h : 0 < k) : 1 ≤ (packF k x).length := by
  cases k with
  | zero => omega
  | succ k => unfold packF; split <;> simp
theorem packF_byte : ∀ (k x : Nat), ∀ y ∈ packF k x, 0 ≤ y ∧ y ≤ 255
  | 0, _ => by intro y h; exact nomatch h
  | k + 1, x => by
    intro y h
    unfold packF at h
    split at h
    · rw [List.mem_singleton] at h; omega
    · rcases List.mem_cons.1 h with h | h
      · omega
      · exact packF_byte k _ y h
theorem eN_len (x : Int) : (eN x).length ≤ 10 := packF_len 10 _
theorem eN_byte (x : Int) : ∀ y ∈ eN x, 0 ≤ y ∧ y ≤ 255 := packF_byte 10 _
def U64 (x : Int) : Prop := 0 ≤ x ∧ x < 18446744073709551616
def I64 (x : Int) : Prop := -9223372036854775808 ≤ x ∧ x < 9223372036854775808
theorem shr7 (k : IntKind) (hk : 7 ≤ k.bits) (x : Nat) : shrI k (x : Int) 7 = ((x / 128 : Nat) : Int) := by
  unfold shrI
  rw [show ((7 : Int).toNat) = 7 from rfl, Nat.min_eq_left hk, Int.fdiv_eq_ediv_of_nonneg _ (by decide), show ((2 : Int) ^ 7) = 128 from rfl]; omega
theorem or128 : ∀ v : Nat, v < 256 → bitI .or .u8 (v : Int) 128 = ((v % 128 + 128 : Nat) : Int) := by decide +kernel
theorem u8_low (x : Nat) : IntKind.u8.wrap (x : Int) = ((x % 256 : Nat) : Int) := by rw [wrap_u8_mod]; omega
theorem bits_Pack_J (n : Nat) : ∀ (k m x : Nat) (out : List Int), x < 128 ^ (k + 1) → k + 1 ≤ m → out.length + k + 1 ≤ 70368744177664 →
    F_bits_Pack.J1 n m ((x : Int), out, ()) = some (out ++ packF (k + 1) x, ())
  | k, 0, x, out, hx, hm, ho => by omega
  | k, m + 1, x, out, hx, hm, ho => by
    rw [F_bits_Pack.e1, hide_eq]
    by_cases h : x < 128
    · rw [decide_eq_false (by omega), bIf_false, F_bits_Pack.e2, gIf_pos (by omega), u8_low, Nat.mod_eq_of_lt (by omega), packF, if_pos h]
    · rw [decide_eq_true (by omega), bIf_true, gIf_pos (by omega), gNo_neg (by decide), u8_low, or128 _ (by omega), shr7 _ (by decide)]
      cases k with
      | zero => rw [Nat.zero_add, Nat.pow_one] at hx; omega
      | succ k =>
        rw [bits_Pack_J n k m (x / 128) _ (by rw [Nat.div_lt_iff_lt_mul (by decide), ← Nat.pow_succ]; exact hx) (by omega) (by simp; omega), List.append_assoc]
        rw [packF_big h, show x % 256 % 128 = x % 128 by omega]; rfl
theorem u64_pow {x : Nat} (h : x < 18446744073709551616) : x < 128 ^ (9 + 1) := Nat.lt_trans h (by decide)
theorem bits_Pack {n : Nat} (hn : 300 ≤ n) {x : Int} (hx : U64 x) : F_bits_Pack.f n x = some (eN x, ()) := by
  obtain ⟨h0, h1⟩ := hx
  rw [F_bits_Pack.e0]
  have := bits_Pack_J n 9 n x.toNat [] (u64_pow (by omega)) (by omega) (by simp)
  rw [Int.toNat_of_nonneg h0] at this
  rw [this, List.nil_append]; rfl
theorem set_last (pre : List Int) (a b : Int) (l : Nat) (h : l = pre.length) : List.set (pre ++ [a]) l b = pre ++ [b] := by
  subst h; rw [List.set_append_right _ _ (Nat.le_refl _)]; simp
theorem getD_last (pre : List Int) (a : Int) (l : Nat) (h : l = pre.length) : List.getD (pre ++ [a]) l 0 = a := by
  subst h; simp
theorem ref01_Pack_J (n : Nat) : ∀ (k m x : Nat) (pre : List Int), x < 128 ^ (k + 1) → x < 18446744073709551616 → k + 1 ≤ m → pre.length + k + 2 ≤ 70368744177664 →
    F_ref01_Pack.J1 n m ((x : Int), pre ++ [((x % 128 : Nat) : Int)], ()) = some (pre ++ packF (k + 1) x, ())
  | k, 0, x, pre, hx, h64, hm, ho => by omega
  | k, m + 1, x, pre, hx, h64, hm, ho => by
    rw [F_ref01_Pack.e1, hide_eq]
    by_cases h : x < 128
    · rw [decide_eq_false (by omega), bIf_false, F_ref01_Pack.e2, Nat.mod_eq_of_lt h, packF, if_pos h]
    · have hl : IntKind.i64.wrap ((((pre ++ [((x % 128 : Nat) : Int)]).length : Nat) : Int) - 1) = ((pre.length : Nat) : Int) := by
        rw [List.length_append, List.length_singleton, wrap_i64 (by omega)]; omega
      rw [decide_eq_true (by omega), bIf_true, hl]
      have hg : (0 ≤ ((pre.length : Nat) : Int) ∧ ((pre.length : Nat) : Int) < (((pre ++ [((x % 128 : Nat) : Int)]).length : Nat) : Int)) := by
        rw [List.length_append, List.length_singleton]; omega
      rw [gIf_pos hg, gIf_pos hg, gNo_neg (by decide), gNo_neg (by decide), Int.toNat_natCast, Nat.zero_add, set_last _ _ _ _ rfl, getD_last _ _ _ rfl, gIf_pos (by simp; omega)]
      have hd : Int.tdiv (x : Int) 128 = ((x / 128 : Nat) : Int) := rfl
      rw [hd, wrap_u64 (by omega)]
      have hd2 : Int.tmod ((x / 128 : Nat) : Int) 128 = ((x / 128 % 128 : Nat) : Int) := rfl
      rw [hd2, u8_low, Nat.mod_eq_of_lt (show x / 128 % 128 < 256 by omega), show (((x % 128 : Nat) : Int) + 128) = ((x % 128 + 128 : Nat) : Int) by omega, u8_low, Nat.mod_eq_of_lt (show x % 128 + 128 < 256 by omega)]
      cases k with
      | zero => rw [Nat.zero_add, Nat.pow_one] at hx; omega
      | succ k =>
        rw [ref01_Pack_J n k m (x / 128) _ (by rw [Nat.div_lt_iff_lt_mul (by decide), ← Nat.pow_succ]; exact hx) (by omega) (by omega) (by simp; omega), List.append_assoc]
        rw [packF_big h]; rfl
theorem ref01_Pack {n : Nat} (hn : 300 ≤ n) {x : Int} (hx : U64 x) : F_ref01_Pack.f n x = some (eN x, ()) := by
  obtain ⟨h0, h1⟩ := hx
  rw [F_ref01_Pack.e0, gNo_neg (by decide)]
  have := ref01_Pack_J n 9 n x.toNat [] (u64_pow (by omega)) (by omega) (by omega) (by simp)
  rw [Int.toNat_of_nonneg h0, List.nil_append] at this
  have hd : Int.tmod x 128 = ((x.toNat % 128 : Nat) : Int) := by
    obtain ⟨y, rfl⟩ := Int.eq_ofNat_of_zero_le h0; rfl
  rw [hd, u8_low, Nat.mod_eq_of_lt (by omega), this, List.nil_append]; rfl
theorem ref10_Num {n : Nat} (hn : 300 ≤ n) {x : Int} (hx : U64 x) : F_ref10_Num.f n x = some (bytesOf (eN x), ()) := by
  rw [F_ref10_Num.e0, ref01_Pack hn hx, bnd_some]
def zigI (t : Int) : Int := if 0 ≤ t then 2 * t else -2 * t - 1
def zagI (u : Int) : Int := if u % 2 = 0 then u / 2 else -(u / 2) - 1
theorem zig_U64 {t : Int} (h : I64 t) : U64 (zigI t) := by unfold zigI U64; obtain ⟨h1, h2⟩ := h; split <;> omega
theorem zag_zig (t : Int) : zagI (zigI t) = t := by unfold zigI zagI; split <;> split <;> omega
theorem xor_ones64 (x : BitVec 64) : (x ^^^ (BitVec.ofInt 64 (-1))).toNat = 2 ^ 64 - 1 - x.toNat := by
  rw [show (BitVec.ofInt 64 (-1)) = BitVec.allOnes 64 by decide, BitVec.xor_allOnes, BitVec.toNat_not]
theorem xor_zero64 (x : BitVec 64) : (x ^^^ (BitVec.ofInt 64 0)).toNat = x.toNat := by
  rw [show (BitVec.ofInt 64 0) = 0#64 by decide, BitVec.xor_zero]
theorem ofInt_nat64 {x : Int} (h : U64 x) : (BitVec.ofInt 64 x).toNat = x.toNat := by
  obtain ⟨h1, h2⟩ := h
  rw [BitVec.toNat_ofInt]; omega
theorem shr63 {t : Int} (h : I64 t) : shrI .i64 t 63 = if 0 ≤ t then 0 else -1 := by
  obtain ⟨h1, h2⟩ := h
  unfold shrI
  rw [show (min (63 : Int).toNat IntKind.i64.bits) = 63 from rfl, Int.fdiv_eq_ediv_of_nonneg _ (by decide), show ((2 : Int) ^ 63) = 9223372036854775808 from rfl]
  split <;> omega
theorem bits_Zig (n : Nat) {t : Int} (h : I64 t) : F_bits_Zig.f n t = some (zigI t, ()) := by
  rw [F_bits_Zig.e0, gNo_neg (by decide), gNo_neg (by decide), shr63 h]
  obtain ⟨h1, h2⟩ := h
  have hs : shlI .u64 (IntKind.u64.wrap t) 1 = (2 * t) % 18446744073709551616 := by
    unfold shlI
    rw [show (min (1 : Int).toNat IntKind.u64.bits) = 1 from rfl, wrap_u64_mod, wrap_u64_mod]; omega
  have hu : U64 ((2 * t) % 18446744073709551616) := by unfold U64; omega
  rw [hs]
  unfold bitI
  dsimp only
  rw [show IntKind.u64.bits = 64 from rfl]
  by_cases h0 : 0 ≤ t
  · rw [if_pos h0, show IntKind.u64.wrap 0 = 0 from rfl, xor_zero64, ofInt_nat64 hu, wrap_u64 (by omega)]
    unfold zigI
    rw [if_pos h0]; congr 2; omega
  · rw [if_neg h0, show BitVec.ofInt 64 (IntKind.u64.wrap (-1)) = BitVec.ofInt 64 (-1) by decide, xor_ones64, ofInt_nat64 hu, wrap_u64 (by omega)]
    unfold zigI
    rw [if_neg h0]; congr 2; omega
theorem ref01_Zig (n : Nat) {t : Int} (h : I64 t) : F_ref01_Zig.f n t = some (zigI t, ()) := by
  obtain ⟨h1, h2⟩ := h
  rw [F_ref01_Zig.e0, hide_eq]
  unfold zigI
  by_cases h0 : 0 ≤ t
  · rw [decide_eq_true (by omega), bIf_true, if_pos h0, wrap_u64 (x := t) (by omega), wrap_u64 (by omega)]
  · rw [decide_eq_false (by omega), bIf_false, if_neg h0, wrap_i64 (x := t + 1) (by omega), wrap_i64 (by omega), wrap_u64 (x := 0 - (t + 1)) (by omega), wrap_u64 (x := 2 * _) (by omega), wrap_u64 (by omega)]
    congr 2; omega
end Go.Proofs.YtcpkhpboemfglaaGreatDoor

namespace Go.Proofs.YtcpkhpboemfglaaGreatDoor
open Go Go.Va Go.Proofs
theorem andNot128 : ∀ v : Nat, v < 256 → bitI .andNot .u8 (v : Int) 128 = ((v % 128 : Nat) : Int) := by decide +kernel
theorem shr7_u8 (x : Nat) : shrI .u8 (x : Int) 7 = ((x / 128 : Nat) : Int) := shr7 _ (by decide) x
theorem orsh {i v c : Nat} (hi : i ≤ 9) (hv : v < 128 ^ i) (hs : v + c * 128 ^ i < 18446744073709551616) :
    bitI .or .u64 (v : Int) (shlI .u64 (c : Int) ((7 * i : Nat) : Int)) = ((v + c * 128 ^ i : Nat) : Int) := by
  have h7 : (128 : Nat) ^ i = 2 ^ (7 * i) := by rw [Nat.pow_mul]
  have e1 : shlI .u64 (c : Int) ((7 * i : Nat) : Int) = ((c * 128 ^ i : Nat) : Int) := by
    unfold shlI
    rw [Int.toNat_natCast, Nat.min_eq_left (show 7 * i ≤ IntKind.u64.bits by change 7 * i ≤ 64; omega), show ((c : Int) * 2 ^ (7 * i)) = ((c * 128 ^ i : Nat) : Int) by rw [h7]; push_cast; rfl, wrap_u64 (by omega)]
  rw [e1]
  unfold bitI
  dsimp only
  rw [show IntKind.u64.bits = 64 from rfl, BitVec.toNat_or, ofInt_nat64 ⟨by omega, by omega⟩, ofInt_nat64 ⟨by omega, by omega⟩, Int.toNat_natCast, Int.toNat_natCast]
  have e2 : v ||| c * 128 ^ i = v + c * 128 ^ i := by
    rw [h7] at hv ⊢
    rw [Nat.or_comm, Nat.mul_comm, ← Nat.two_pow_add_eq_or_of_lt hv, Nat.add_comm]
  rw [e2, wrap_u64 (by omega)]
theorem wrap_U64 (x : Int) : U64 (IntKind.u64.wrap x) := by rw [wrap_u64_mod]; unfold U64; omega
theorem bitI_U64 (op : BinOp) (x y : Int) : U64 (bitI op .u64 x y) := by
  unfold bitI; dsimp only; split <;> exact wrap_U64 _
structure BB (n : Nat) (b : List Int) : Prop where
  len : b.length < n
  byte : ∀ x ∈ b, 0 ≤ x ∧ x ≤ 255
theorem BB_nil {n : Nat} (h : 0 < n) : BB n [] := ⟨h, by intro x h; exact nomatch h⟩
theorem BB_drop {n : Nat} {b : List Int} (h : BB n b) (k : Nat) : BB n (b.drop k) := ⟨by have := h.len; rw [List.length_drop]; omega, fun x hx => h.byte x (List.mem_of_mem_drop hx)⟩
theorem BB_take {n : Nat} {b : List Int} (h : BB n b) (k : Nat) : BB n (b.take k) := ⟨by have := h.len; rw [List.length_take]; omega, fun x hx => h.byte x (List.mem_of_mem_take hx)⟩
theorem bits_Unpack_J3 {n : Nat} (hn : n ≤ 536870912) (h3 : 300 ≤ n) {b : List Int} (hb : BB n b) (m : Nat) (v x : Int) (k : Nat) (hk : k < b.length)
    (ih : ∀ v, U64 v → ∃ (w u e : Int), F_bits_Unpack.J1 n m (b, v, b, ((b.length : Nat) : Int), ((k + 1 : Nat) : Int), ()) = some (w, u, e, ()) ∧ U64 w ∧ 0 ≤ u ∧ u ≤ b.length ∧ 0 ≤ e ∧ e ≤ 3) :
    ∃ (w u e : Int), F_bits_Unpack.J3 n m (b, v, (k : Int), x, b, ((b.length : Nat) : Int), (k : Int), ()) = some (w, u, e, ()) ∧ U64 w ∧ 0 ≤ u ∧ u ≤ b.length ∧ 0 ≤ e ∧ e ≤ 3 := by
  have hl := hb.len
  have hw := bitI_U64 .or v (shlI .u64 (IntKind.u64.wrap (bitI .andNot .u8 x 128)) (IntKind.u64.wrap ((7 : Int) * (IntKind.u64.wrap (k : Int)))))
  rw [F_bits_Unpack.e3, gNo_neg (by have := (wrap_U64 ((7 : Int) * (IntKind.u64.wrap (k : Int)))).1; omega), gNo_neg (by decide), cast_up k (by omega), bits_Pack h3 hw, bnd_some]
  generalize bitI .or .u64 v _ = w at hw
  rw [hide_eq]
  cases (shrI .u8 x 7 != 0)
  · rw [bIf_false, gIf_pos ⟨by omega, by omega⟩, gIf_pos ⟨by omega, by omega⟩, F_bytes_Equal.e0, bnd_some]
    cases hide (eqS _ _)
    · exact ⟨0, 0, 2, rfl, by unfold U64; omega, by omega, by omega, by omega, by omega⟩
    · exact ⟨w, ((k + 1 : Nat) : Int), 0, rfl, hw, by omega, by omega, by omega, by omega⟩
  · rw [bIf_true]
    exact ih w hw
theorem bits_Unpack_J {n : Nat} (hn : n ≤ 536870912) (h3 : 300 ≤ n) {b : List Int} (hb : BB n b) : ∀ (m k : Nat) (v : Int), U64 v → k ≤ b.length → b.length - k < m →
    ∃ (w u e : Int), F_bits_Unpack.J1 n m (b, v, b, ((b.length : Nat) : Int), (k : Int), ()) = some (w, u, e, ()) ∧ U64 w ∧ 0 ≤ u ∧ u ≤ b.length ∧ 0 ≤ e ∧ e ≤ 3
  | 0, k, v, _, _, h => by omega
  | m + 1, k, v, hv, hk, h => by
    have hl := hb.len
    rw [F_bits_Unpack.e1, hide_eq]
    by_cases hlt : k < b.length
    · rw [decide_eq_true (by omega), bIf_true, gIf_pos ⟨by omega, by omega⟩]
      have h3' := fun x => bits_Unpack_J3 hn h3 hb m v x k hlt (fun v hv => bits_Unpack_J hn h3 hb m (k + 1) v hv (by omega) (by omega))
      simp only [F_bits_Unpack.e2, hide_eq]
      cases ((k : Int) == 9)
      · exact h3' _
      · cases decide ((List.getD b (k : Int).toNat 0) > (1 : Int))
        · exact h3' _
        · exact ⟨0, 0, 2, rfl, by unfold U64; omega, by omega, by omega, by omega, by omega⟩
    · rw [decide_eq_false (by omega), bIf_false, F_bits_Unpack.e4]
      exact ⟨0, 0, 3, rfl, by unfold U64; omega, by omega, by omega, by omega, by omega⟩
theorem bits_Unpack_any {n : Nat} (hn : n ≤ 536870912) (h3 : 300 ≤ n) {b : List Int} (hb : BB n b) :
    ∃ (w u e : Int), F_bits_Unpack.f n b = some (w, u, e, ()) ∧ U64 w ∧ 0 ≤ u ∧ u ≤ b.length ∧ 0 ≤ e ∧ e ≤ 3 := by
  have hl := hb.len
  rw [F_bits_Unpack.e0]
  exact bits_Unpack_J hn h3 hb n 0 0 (by unfold U64; omega) (by omega) (by omega)
theorem bits_Unpack_enc {n : Nat} (hn : n ≤ 536870912) (h3 : 300 ≤ n) {b rest : List Int} (hb : BB n b) {x : Nat} (hx : x < 18446744073709551616) :
    ∀ (k m i y v : Nat) (pre : List Int), pre.length = i → i + k = 9 → k < m → b = pre ++ (packF (k + 1) y ++ rest) → pre ++ packF (k + 1) y = eN (x : Int) → x = v + y * 128 ^ i → v < 128 ^ i → y < 128 ^ (k + 1) →
    F_bits_Unpack.J1 n m (b, (v : Int), b, ((b.length : Nat) : Int), (i : Int), ()) = some ((x : Int), (((eN (x : Int)).length : Nat) : Int), 0, ())
  | k, 0, i, y, v, pre, hp, hi, hm, hbe, hen, hxe, hv, hy => by omega
  | k, m + 1, i, y, v, pre, hp, hi, hm, hbe, hen, hxe, hv, hy => by
    have hl := hb.len
    have hlen : i < b.length := by
      have := packF_pos (k := k + 1) y (by omega)
      rw [hbe]; simp; omega
    have hor : ∀ c : Nat, v + c * 128 ^ i < 18446744073709551616 → bitI .or .u64 (v : Int) (shlI .u64 (c : Int) (IntKind.u64.wrap ((7 : Int) * (IntKind.u64.wrap (i : Int))))) = ((v + c * 128 ^ i : Nat) : Int) := by
      intro c hc
      rw [wrap_u64 (x := (i : Int)) (by omega), wrap_u64 (by omega), show ((7 : Int) * (i : Int)) = ((7 * i : Nat) : Int) by omega]
      exact orsh (by omega) hv hc
    rw [F_bits_Unpack.e1, hide_eq, decide_eq_true (by omega), bIf_true, gIf_pos ⟨by omega, by omega⟩, Int.toNat_natCast]
    simp only [F_bits_Unpack.e2, hide_eq]
    by_cases h : y < 128
    · have hc : b.getD i 0 = (y : Int) := by
        rw [hbe, packF_small h]
        subst hp; simp
      have h9 : ((i : Int) == 9) = true → decide ((y : Int) > 1) = false := by
        intro h9
        have : i = 9 := by have := beq_iff_eq.1 h9; omega
        subst this
        apply decide_eq_false
        rw [show (128 : Nat) ^ 9 = 9223372036854775808 from rfl] at hxe
        omega
      have hg : bIf ((i : Int) == 9) (bIf (decide (b.getD i 0 > 1)) (some (0, 0, 2, ())) (F_bits_Unpack.J3 n m (b, (v : Int), (i : Int), b.getD i 0, b, ((b.length : Nat) : Int), (i : Int), ()))) (bIf false (some (0, 0, 2, ())) (F_bits_Unpack.J3 n m (b, (v : Int), (i : Int), b.getD i 0, b, ((b.length : Nat) : Int), (i : Int), ()))) = F_bits_Unpack.J3 n m (b, (v : Int), (i : Int), b.getD i 0, b, ((b.length : Nat) : Int), (i : Int), ()) := by
        rw [hc]
        cases hq : ((i : Int) == 9)
        · rfl
        · rw [h9 hq]; rfl
      rw [hg, hc, F_bits_Unpack.e3, gNo_neg (by have := (wrap_U64 ((7 : Int) * (IntKind.u64.wrap (i : Int)))).1; omega), gNo_neg (by decide), hide_eq, shr7_u8, Nat.div_eq_of_lt h, andNot128 y (by omega), Nat.mod_eq_of_lt h, wrap_u64 (x := (y : Int)) (by omega), hor y (by omega), ← hxe, cast_up i (by omega), bits_Pack h3 ⟨by omega, by omega⟩, bnd_some,
        gIf_pos ⟨by omega, by omega⟩, gIf_pos ⟨by omega, by omega⟩, F_bytes_Equal.e0, bnd_some, Int.toNat_natCast, List.drop_zero]
      rw [packF_small h] at hen hbe
      have ht : b.take (i + 1) = eN (x : Int) := by
        rw [← hen, hbe]
        subst hp
        rw [← List.append_assoc, List.take_append_of_le_length (by simp), List.take_of_length_le (by simp)]
      rw [ht, eqS_self, ← hen, List.length_append, hp, hide_eq, show (((0 : Nat) : Int) != 0) = false from rfl, bIf_false]; rfl
    · cases k with
      | zero => rw [Nat.zero_add, Nat.pow_one] at hy; omega
      | succ k =>
        have hc : b.getD i 0 = ((y % 128 + 128 : Nat) : Int) := by
          rw [hbe, packF_big h]
          subst hp; simp
        have h9 : ((i : Int) == 9) = false := by rw [beq_eq_false_iff_ne]; omega
        have hdm : y % 128 + 128 * (y / 128) = y := Nat.mod_add_div y 128
        have e1 : y % 128 * 128 ^ i + y / 128 * 128 ^ (i + 1) = y * 128 ^ i := by
          rw [Nat.pow_succ, show y / 128 * (128 ^ i * 128) = (128 * (y / 128)) * 128 ^ i by rw [Nat.mul_comm (128 ^ i) 128, ← Nat.mul_assoc, Nat.mul_comm (y / 128) 128], ← Nat.add_mul, hdm]
        have e2 : v + y % 128 * 128 ^ i < 128 ^ (i + 1) := by
          have h1 : y % 128 ≤ 127 := by omega
          have h2 := Nat.mul_le_mul_right (128 ^ i) h1
          rw [Nat.pow_succ]; omega
        rw [h9, bIf_false, bIf_false, hc, F_bits_Unpack.e3, gNo_neg (by have := (wrap_U64 ((7 : Int) * (IntKind.u64.wrap (i : Int)))).1; omega), gNo_neg (by decide), hide_eq, shr7_u8, show (y % 128 + 128) / 128 = 1 by omega, andNot128 _ (by omega), show (y % 128 + 128) % 128 = y % 128 by omega, wrap_u64 (x := ((y % 128 : Nat) : Int)) (by omega), hor _ (by omega), cast_up i (by omega)]
        rw [packF_big h] at hen hbe
        exact bits_Unpack_enc (rest := rest) hn h3 hb hx k m (i + 1) (y / 128) (v + y % 128 * 128 ^ i) (pre ++ [((y % 128 + 128 : Nat) : Int)]) (by simp; omega) (by omega) (by omega) (by rw [hbe]; simp) (by rw [← hen]; simp) (by omega) e2
          (by rw [Nat.div_lt_iff_lt_mul (by decide), ← Nat.pow_succ]; exact hy)
theorem bits_Unpack_eN {n : Nat} (hn : n ≤ 536870912) (h3 : 300 ≤ n) {rest : List Int} {x : Int} (hx : U64 x) (hb : BB n (eN x ++ rest)) :
    F_bits_Unpack.f n (eN x ++ rest) = some (x, (((eN x).length : Nat) : Int), 0, ()) := by
  obtain ⟨h0, h1⟩ := hx
  obtain ⟨y, rfl⟩ := Int.eq_ofNat_of_zero_le h0
  rw [F_bits_Unpack.e0]
  exact bits_Unpack_enc (rest := rest) hn h3 hb (x := y) (by omega) 9 n 0 y 0 [] rfl rfl (by omega) rfl rfl (by simp) (by simp) (u64_pow (by omega))
theorem bits_Zag (n : Nat) {u : Int} (h : U64 u) : F_bits_Zag.f n u = some (zagI u, ()) := by
  have hu := h
  obtain ⟨h0, h1⟩ := h
  obtain ⟨y, rfl⟩ := Int.eq_ofNat_of_zero_le h0
  have ha : bitI .and .u64 (y : Int) 1 = ((y % 2 : Nat) : Int) := by
    unfold bitI
    dsimp only
    rw [show IntKind.u64.bits = 64 from rfl, BitVec.toNat_and, ofInt_nat64 hu, show (BitVec.ofInt 64 1).toNat = 1 from rfl, Int.toNat_natCast, Nat.and_one_is_mod, wrap_u64 (by omega)]
  have hs : shrI .u64 (y : Int) 1 = ((y / 2 : Nat) : Int) := by
    unfold shrI
    rw [show (min (1 : Int).toNat IntKind.u64.bits) = 1 from rfl, Int.fdiv_eq_ediv_of_nonneg _ (by decide), show ((2 : Int) ^ 1) = 2 from rfl]; omega
  rw [F_bits_Zag.e0, gNo_neg (by decide), ha, hs, wrap_i64 (x := ((y / 2 : Nat) : Int)) (by omega), wrap_i64 (x := ((y % 2 : Nat) : Int)) (by omega), wrap_i64 (x := 0 - ((y % 2 : Nat) : Int)) (by omega)]
  unfold bitI
  dsimp only
  rw [show IntKind.i64.bits = 64 from rfl]
  unfold zagI
  rcases Nat.mod_two_eq_zero_or_one y with hm | hm
  · rw [hm, show (0 - ((0 : Nat) : Int)) = 0 from rfl, xor_zero64, ofInt_nat64 ⟨by omega, by omega⟩, if_pos (by omega), Int.toNat_natCast, wrap_i64 (by omega)]; rfl
  · rw [hm, show (0 - ((1 : Nat) : Int)) = -1 from rfl, xor_ones64, ofInt_nat64 ⟨by omega, by omega⟩, if_neg (by omega), Int.toNat_natCast]
    congr 2
    simp [IntKind.wrap, IntKind.bits, IntKind.signed]; omega
theorem zag_I64 {u : Int} (h : U64 u) : I64 (zagI u) := by unfold zagI I64; obtain ⟨h1, h2⟩ := h; split <;> omega
end Go.Proofs.YtcpkhpboemfglaaGreatDoor

namespace Go.Proofs.YtcpkhpboemfglaaGreatDoor
open Go Go.Va Go.Proofs
def eW (x : Int) : List Int := eN (IntKind.u64.wrap x)
def eI (t : Int) : List Int := eN (zigI t)
def eF (b : Bool) : List Int := [if b then 1 else 0]
def eT (s : ByteArray) : List Int := eW (s.size : Int) ++ ofBytes s
def eTag (t : D_api_Tag) : List Int := eT t.1 ++ eT t.2.1
def eTags (l : List D_api_Tag) : List Int := eW ((l.length : Nat) : Int) ++ l.flatMap eTag
def eLock (l : D_api_Lock) : List Int := eW l.1 ++ (eI l.2.1 ++ eF l.2.2.1)
def eVer (v : Ver) : List Int := eN v.1 ++ (eF (mark v) ++ (eI (made v) ++ if mark v then [] else eW (vsize v) ++ (eN (blob v) ++ (dig v ++ (eLock (lock v) ++ eTags (tags v))))))
def eDef (d : D_api_Default) : List Int := eW d.1 ++ eW d.2.1
def eRule (r : D_api_Rule) : List Int := eT r.1 ++ (eTags r.2.1 ++ (eW r.2.2.1 ++ (eW r.2.2.2.1 ++ eF r.2.2.2.2.1)))
def eRules (l : List D_api_Rule) : List Int := eW ((l.length : Nat) : Int) ++ l.flatMap eRule
def eGrant (g : D_api_Grant) : List Int := eF g.1 ++ (eT g.2.1 ++ (eT g.2.2.1 ++ eT g.2.2.2.1))
def eGrants (l : List D_api_Grant) : List Int := eW ((l.length : Nat) : Int) ++ l.flatMap eGrant
def ePart (p : D_api_Part) : List Int := eW p.1 ++ (eW p.2.1 ++ (eN p.2.2.1 ++ p.2.2.2.1))
def fldE (e : E) (c : UInt8) : List Int :=
  if c = 107 then eT e.2.2.2.1 else if c = 105 then eN e.2.2.2.2.1 else if c = 118 then eVer e.2.2.2.2.2.1 else if c = 108 then eLock e.2.2.2.2.2.2.1 else if c = 116 then eTags e.2.2.2.2.2.2.2.1
  else if c = 100 then eDef e.2.2.2.2.2.2.2.2.1 else if c = 114 then eRules e.2.2.2.2.2.2.2.2.2.1 else if c = 103 then eGrants e.2.2.2.2.2.2.2.2.2.2.1 else if c = 112 then ePart e.2.2.2.2.2.2.2.2.2.2.2.1 else []
def eE (e : E) : List Int := eW e.1 ++ (eI e.2.1 ++ ((if e.1 = 1 then [] else eT e.2.2.1) ++ (hasB e.1).data.toList.flatMap (fldE e)))
structure ER (e : E) : Prop where
  time : I64 e.2.1
  id : U64 e.2.2.2.2.1
  vid : U64 e.2.2.2.2.2.1.1
  vmade : I64 (made e.2.2.2.2.2.1)
  vblob : U64 (blob e.2.2.2.2.2.1)
  vdig : (dig e.2.2.2.2.2.1).length = 32
  vlock : I64 (lock e.2.2.2.2.2.1).2.1
  lock : I64 e.2.2.2.2.2.2.1.2.1
  pblob : U64 e.2.2.2.2.2.2.2.2.2.2.2.1.2.2.1
  pdig : e.2.2.2.2.2.2.2.2.2.2.2.1.2.2.2.1.length = 32
theorem app_loop {α R : Type} {l : List α} (d : α) (g : α → List Int) (C : Nat) (J : Nat → Int → List Int → Option R) (fin : List Int → Option R)
    (hs : ∀ m (k : Nat) L, k < l.length → L.length + (g (l.getD k d)).length ≤ C → J (m + 1) (k : Int) L = J m ((k + 1 : Nat) : Int) (L ++ g (l.getD k d)))
    (he : ∀ m L, L.length ≤ C → J (m + 1) ((l.length : Nat) : Int) L = fin L) :
    ∀ (m k : Nat) (L : List Int), k ≤ l.length → l.length - k < m → L.length + ((l.drop k).flatMap g).length ≤ C → J m (k : Int) L = fin (L ++ (l.drop k).flatMap g)
  | 0, k, L, _, h, _ => by omega
  | m + 1, k, L, hk, h, hC => by
    by_cases hlt : k < l.length
    · have hd : l.drop k = l.getD k d :: l.drop (k + 1) := by
        rw [List.drop_eq_getElem_cons hlt, List.getD_eq_getElem?_getD, List.getElem?_eq_getElem hlt]; rfl
      rw [hd, List.flatMap_cons] at hC ⊢
      rw [List.length_append] at hC
      rw [hs m k L hlt (by omega), app_loop d g C J fin hs he m (k + 1) _ (by omega) (by omega) (by rw [List.length_append]; omega), List.append_assoc]
    · have : k = l.length := by omega
      subst this
      rw [List.drop_length, List.flatMap_nil, List.append_nil]
      rw [List.drop_length, List.flatMap_nil, List.length_nil] at hC
      exact he m L (by omega)
theorem wput {n : Nat} (w : List Int) (u : Unit) (b : List Int) (h : w.length + b.length ≤ 70368744177664) : F_pack_Writer_put.f n (w, u) b = some ((w ++ b, ()), ()) := by
  rw [F_pack_Writer_put.e0, hide_eq, bIf_true, gIf_pos (by dsimp only; omega)]
theorem wNum {n : Nat} (hn : 300 ≤ n) (w : List Int) (u : Unit) {x : Int} (hx : U64 x) (h : w.length + (eN x).length ≤ 70368744177664) : F_pack_Writer_Num.f n (w, u) x = some ((w ++ eN x, ()), ()) := by
  rw [F_pack_Writer_Num.e0, bits_Pack hn hx]
  simp (disch := first | assumption | exact wrap_U64 _ | omega | (simp only [List.length_append, List.length_cons, List.length_nil] at *; omega)) only [bnd_some, wput]
theorem wW {n : Nat} (hn : 300 ≤ n) (w : List Int) (u : Unit) {x : Int} (h : w.length + (eW x).length ≤ 70368744177664) : F_pack_Writer_Num.f n (w, u) (IntKind.u64.wrap x) = some ((w ++ eW x, ()), ()) := wNum hn w u (wrap_U64 _) h
theorem wInt {n : Nat} (hn : 300 ≤ n) (w : List Int) (u : Unit) {x : Int} (hx : I64 x) (h : w.length + (eI x).length ≤ 70368744177664) : F_pack_Writer_Int.f n (w, u) x = some ((w ++ eI x, ()), ()) := by
  rw [F_pack_Writer_Int.e0, bits_Zig n hx, bnd_some]
  dsimp only
  rw [wNum hn w () (zig_U64 hx) h, bnd_some]; rfl
theorem wFlag {n : Nat} (w : List Int) (u : Unit) {b : Bool} (h : w.length + (eF b).length ≤ 70368744177664) : F_pack_Writer_Flag.f n (w, u) b = some ((w ++ eF b, ()), ()) := by
  rw [F_pack_Writer_Flag.e0]
  unfold eF at h
  rw [List.length_singleton] at h
  cases b
  · simp (disch := first | assumption | exact wrap_U64 _ | omega | (simp only [List.length_append, List.length_cons, List.length_nil] at *; omega)) only [bIf_false, wput, bnd_some]; rfl
  · simp (disch := first | assumption | exact wrap_U64 _ | omega | (simp only [List.length_append, List.length_cons, List.length_nil] at *; omega)) only [bIf_true, wput, bnd_some]; rfl
theorem wText {n : Nat} (hn : 300 ≤ n) (w : List Int) (u : Unit) {s : ByteArray} (h : w.length + (eT s).length ≤ 70368744177664) : F_pack_Writer_Text.f n (w, u) s = some ((w ++ eT s, ()), ()) := by
  rw [F_pack_Writer_Text.e0]
  unfold eT at h ⊢
  rw [List.length_append] at h
  dsimp only
  rw [wW hn w () (by omega), bnd_some]
  dsimp only
  rw [wput _ _ _ (by rw [List.length_append]; omega), bnd_some, List.append_assoc]
theorem wDig {n : Nat} (w : List Int) (u : Unit) {d : List Int} (h : w.length + d.length ≤ 70368744177664) : F_pack_Writer_Digest.f n (w, u) d = some ((w ++ d, ()), ()) := by
  rw [F_pack_Writer_Digest.e0]
  simp (disch := first | assumption | exact wrap_U64 _ | omega | (simp only [List.length_append, List.length_cons, List.length_nil] at *; omega)) only [bnd_some, wput]
theorem wLock {n : Nat} (hn : 300 ≤ n) (w : List Int) (u : Unit) {l : D_api_Lock} (hl : I64 l.2.1) (h : w.length + (eLock l).length ≤ 70368744177664) : F_entry_Writer_Lock.f n (w, u) l = some ((w ++ eLock l, ()), ()) := by
  rw [F_entry_Writer_Lock.e0]
  unfold eLock at h ⊢
  simp only [List.length_append] at h
  dsimp only
  rw [wW hn w () (by omega), bnd_some]
  dsimp only
  rw [wInt hn _ () hl (by rw [List.length_append]; omega), bnd_some]
  dsimp only
  rw [wFlag _ () (by first | omega | (simp only [List.length_append]; omega)), bnd_some]
  simp only [List.append_assoc]
theorem wTags {n : Nat} (hn : 300 ≤ n) (w : List Int) (u : Unit) {l : List D_api_Tag} (hl : l.length < n) (hn2 : n ≤ 536870912) (h : w.length + (eTags l).length ≤ 70368744177664) : F_entry_Writer_Tags.f n (w, u) l = some ((w ++ eTags l, ()), ()) := by
  rw [F_entry_Writer_Tags.e0]
  unfold eTags at h ⊢
  simp only [List.length_append] at h
  dsimp only
  rw [wW hn w () (by omega), bnd_some]
  dsimp only
  have := app_loop (l := l) (Va.dflt T_api_Tag) eTag 70368744177664 (fun m k L => F_entry_Writer_Tags.J1 n m (l, ((l.length : Nat) : Int), k, ((), ()), (L, ()), ())) (fun L => some ((L, ()), ()))
    (fun m k L hk hL => by
      unfold eTag at hL ⊢
      simp only [List.length_append] at hL
      try dsimp only
      rw [F_entry_Writer_Tags.e1, hide_eq, decide_eq_true (by omega), bIf_true, gIf_pos ⟨by omega, by omega⟩, Int.toNat_natCast, cast_up k (by omega)]
      try dsimp only
      rw [wText hn _ () (by omega), bnd_some]
      try dsimp only
      rw [wText hn _ () (by rw [List.length_append]; omega), bnd_some]
      simp only [List.append_assoc])
    (fun m L hL => by
      try dsimp only
      rw [F_entry_Writer_Tags.e1, hide_eq, decide_eq_false (by omega), bIf_false]) n 0 (w ++ eW ((l.length : Nat) : Int)) (by omega) (by omega) (by rw [List.length_append, List.drop_zero]; omega)
  try dsimp only at this
  rw [show ((0 : Nat) : Int) = 0 from rfl] at this
  rw [this, List.drop_zero, List.append_assoc]
theorem wDef {n : Nat} (hn : 300 ≤ n) (w : List Int) (u : Unit) {d : D_api_Default} (h : w.length + (eDef d).length ≤ 70368744177664) : F_entry_Writer_Default.f n (w, u) d = some ((w ++ eDef d, ()), ()) := by
  rw [F_entry_Writer_Default.e0]
  unfold eDef at h ⊢
  simp only [List.length_append] at h
  try dsimp only
  rw [wW hn _ () (by first | omega | (simp only [List.length_append]; omega)), bnd_some]
  try dsimp only
  rw [wW hn _ () (by first | omega | (simp only [List.length_append]; omega)), bnd_some]
  try dsimp only
  simp only [List.append_assoc]
theorem wRules {n : Nat} (hn : 300 ≤ n) (w : List Int) (u : Unit) {l : List D_api_Rule} (hl : RusB n l) (hn2 : n ≤ 536870912) (h : w.length + (eRules l).length ≤ 70368744177664) : F_entry_Writer_Rules.f n (w, u) l = some ((w ++ eRules l, ()), ()) := by
  have hlen := hl.len
  rw [F_entry_Writer_Rules.e0]
  unfold eRules at h ⊢
  simp only [List.length_append] at h
  dsimp only
  rw [wW hn w () (by omega), bnd_some]
  dsimp only
  have := app_loop (l := l) (Va.dflt T_api_Rule) eRule 70368744177664 (fun m k L => F_entry_Writer_Rules.J1 n m (l, ((l.length : Nat) : Int), k, ((), ()), (L, ()), ())) (fun L => some ((L, ()), ()))
    (fun m k L hk hL => by
      have hr := hl.all _ (getD_memA (d := Va.dflt T_api_Rule) hk)
      unfold eRule at hL ⊢
      simp only [List.length_append] at hL
      try dsimp only
      rw [F_entry_Writer_Rules.e1, hide_eq, decide_eq_true (by omega), bIf_true, gIf_pos ⟨by omega, by omega⟩, Int.toNat_natCast, cast_up k (by omega)]
      try dsimp only
      rw [wText hn _ () (by first | omega | (simp only [List.length_append]; omega)), bnd_some]
      try dsimp only
      rw [wTags hn _ () hr.tags.1 hn2 (by first | omega | (simp only [List.length_append]; omega)), bnd_some]
      try dsimp only
      rw [wW hn _ () (by first | omega | (simp only [List.length_append]; omega)), bnd_some]
      try dsimp only
      rw [wW hn _ () (by first | omega | (simp only [List.length_append]; omega)), bnd_some]
      try dsimp only
      rw [wFlag _ () (by first | omega | (simp only [List.length_append]; omega)), bnd_some]
      try dsimp only
      simp only [List.append_assoc])
    (fun m L hL => by
      try dsimp only
      rw [F_entry_Writer_Rules.e1, hide_eq, decide_eq_false (by omega), bIf_false]) n 0 (w ++ eW ((l.length : Nat) : Int)) (by omega) (by omega) (by rw [List.length_append, List.drop_zero]; omega)
  try dsimp only at this
  rw [show ((0 : Nat) : Int) = 0 from rfl] at this
  rw [this, List.drop_zero, List.append_assoc]
theorem wGrants {n : Nat} (hn : 300 ≤ n) (w : List Int) (u : Unit) {l : List D_api_Grant} (hl : GrsB n l) (hn2 : n ≤ 536870912) (h : w.length + (eGrants l).length ≤ 70368744177664) : F_entry_Writer_Grants.f n (w, u) l = some ((w ++ eGrants l, ()), ()) := by
  have hlen := hl.len
  rw [F_entry_Writer_Grants.e0]
  unfold eGrants at h ⊢
  simp only [List.length_append] at h
  dsimp only
  rw [wW hn w () (by omega), bnd_some]
  dsimp only
  have := app_loop (l := l) (Va.dflt T_api_Grant) eGrant 70368744177664 (fun m k L => F_entry_Writer_Grants.J1 n m (l, ((l.length : Nat) : Int), k, ((), ()), (L, ()), ())) (fun L => some ((L, ()), ()))
    (fun m k L hk hL => by
      have hr := hl.all _ (getD_memA (d := Va.dflt T_api_Grant) hk)
      unfold eGrant at hL ⊢
      simp only [List.length_append] at hL
      try dsimp only
      rw [F_entry_Writer_Grants.e1, hide_eq, decide_eq_true (by omega), bIf_true, gIf_pos ⟨by omega, by omega⟩, Int.toNat_natCast, cast_up k (by omega)]
      try dsimp only
      rw [wFlag _ () (by first | omega | (simp only [List.length_append]; omega)), bnd_some]
      try dsimp only
      rw [wText hn _ () (by first | omega | (simp only [List.length_append]; omega)), bnd_some]
      try dsimp only
      rw [wText hn _ () (by first | omega | (simp only [List.length_append]; omega)), bnd_some]
      try dsimp only
      rw [wText hn _ () (by first | omega | (simp only [List.length_append]; omega)), bnd_some]
      try dsimp only
      simp only [List.append_assoc])
    (fun m L hL => by
      try dsimp only
      rw [F_entry_Writer_Grants.e1, hide_eq, decide_eq_false (by omega), bIf_false]) n 0 (w ++ eW ((l.length : Nat) : Int)) (by omega) (by omega) (by rw [List.length_append, List.drop_zero]; omega)
  try dsimp only at this
  rw [show ((0 : Nat) : Int) = 0 from rfl] at this
  rw [this, List.drop_zero, List.append_assoc]
theorem wVer {n : Nat} (hn : 300 ≤ n) (w : List Int) (u : Unit) {v : Ver} (h1 : U64 v.1) (h2 : I64 (made v)) (h3 : U64 (blob v)) (h4 : I64 (lock v).2.1) (ht : (tags v).length < n) (hn2 : n ≤ 536870912) (h : w.length + (eVer v).length ≤ 70368744177664) : F_entry_Writer_Version.f n (w, u) v = some ((w ++ eVer v, ()), ()) := by
  rw [F_entry_Writer_Version.e0]
  unfold eVer at h ⊢
  simp only [List.length_append] at h
  try dsimp only
  rw [wNum hn _ () h1 (by omega), bnd_some]
  try dsimp only
  rw [show v.2.1 = mark v from rfl, wFlag _ () (by first | omega | (simp only [List.length_append]; omega)), bnd_some]
  try dsimp only
  rw [show v.2.2.2.2.2.1 = made v from rfl, wInt hn _ () h2 (by first | omega | (simp only [List.length_append]; omega)), bnd_some]
  try dsimp only
  cases hm : mark v
  · rw [hm] at h
    simp only [Bool.false_eq_true, if_false, List.length_append] at h ⊢
    rw [bIf_false, show v.2.2.1 = vsize v from rfl, wW hn _ () (by first | omega | (simp only [List.length_append]; omega)), bnd_some]
    try dsimp only
    rw [show v.2.2.2.1 = blob v from rfl, wNum hn _ () h3 (by first | omega | (simp only [List.length_append]; omega)), bnd_some]
    try dsimp only
    rw [show v.2.2.2.2.1 = dig v from rfl, wDig _ () (by first | omega | (simp only [List.length_append]; omega)), bnd_some]
    try dsimp only
    rw [show v.2.2.2.2.2.2.1 = lock v from rfl, wLock hn _ () h4 (by first | omega | (simp only [List.length_append]; omega)), bnd_some]
    try dsimp only
    rw [show v.2.2.2.2.2.2.2.1 = tags v from rfl, wTags hn _ () ht hn2 (by first | omega | (simp only [List.length_append]; omega)), bnd_some]
    simp only [List.append_assoc]
  · rw [bIf_true]
    simp only [if_true, List.append_nil, List.append_assoc]
end Go.Proofs.YtcpkhpboemfglaaGreatDoor

namespace Go.Proofs.YtcpkhpboemfglaaGreatDoor
open Go Go.Va Go.Proofs
theorem bytesOf_size (l : List Int) : (bytesOf l).size = l.length := by
  rw [size_eq]; unfold bytesOf; simp
theorem eW_len (x : Int) : (eW x).length ≤ 10 := eN_len _
theorem eI_len (x : Int) : (eI x).length ≤ 10 := eN_len _
theorem eF_len (b : Bool) : (eF b).length = 1 := rfl
theorem eT_len (s : ByteArray) : (eT s).length ≤ s.size + 10 := by
  unfold eT; rw [List.length_append, ← size_of]; have := eW_len (s.size : Int); omega
theorem pNum {n : Nat} (hn : 300 ≤ n) {x : Int} (hx : U64 x) : F_ref10_Num.f n x = some (bytesOf (eN x), ()) := ref10_Num hn hx
theorem pW {n : Nat} (hn : 300 ≤ n) (x : Int) : F_ref14_num.f n x = some (bytesOf (eW x), ()) := by
  rw [F_ref14_num.e0, ref10_Num hn (wrap_U64 _), bnd_some]; rfl
theorem pInt {n : Nat} (hn : 300 ≤ n) {t : Int} (h : I64 t) : F_ref10_Int.f n t = some (bytesOf (eI t), ()) := by
  rw [F_ref10_Int.e0, ref01_Zig n h, bnd_some, ref10_Num hn (zig_U64 h), bnd_some]; rfl
theorem pFlag {n : Nat} (b : Bool) : F_ref10_Flag.f n b = some (bytesOf (eF b), ()) := by
  rw [F_ref10_Flag.e0]; cases b <;> rfl
theorem pText {n : Nat} (hn : 300 ≤ n) {s : ByteArray} (h : (eT s).length ≤ 70368744177664) : F_ref10_Text.f n s = some (bytesOf (eT s), ()) := by
  rw [F_ref10_Text.e0, ref10_Num hn (wrap_U64 _), bnd_some]
  unfold eT at h ⊢
  rw [List.length_append, ← size_of] at h
  rw [bytesOf_append, bytesOf_ofBytes]
  dsimp only
  rw [bytesOf_size, gIf_pos (by unfold eW at h; omega)]; rfl
theorem pDig {n : Nat} (hn : 300 ≤ n) {d : List Int} (hd : d.length = 32) : F_ref10_Digest.f n d = some (bytesOf d, ()) := by
  rw [F_ref10_Digest.e0]
  have := app_loop (l := d) (0 : Int) (fun x => [x]) 70368744177664 (fun m k L => F_ref10_Digest.J1 n m (bytesOf L, k, d, ())) (fun L => some (bytesOf L, ()))
    (fun m k L hk hL => by
      try dsimp only
      rw [F_ref10_Digest.e1, hide_eq, decide_eq_true (by omega), bIf_true, gIf_pos ⟨by omega, by omega⟩, Int.toNat_natCast, cast_up k (by omega), gIf_pos (by rw [bytesOf_size, bytesOf_size]; simp at hL ⊢; omega), ← bytesOf_append])
    (fun m L hL => by
      try dsimp only
      rw [F_ref10_Digest.e1, hide_eq, decide_eq_false (by omega), bIf_false, F_ref10_Digest.e2]) n 0 [] (by omega) (by omega) (by simp; omega)
  try dsimp only at this
  rw [show ((0 : Nat) : Int) = 0 from rfl, show bytesOf [] = ⟨#[]⟩ from rfl] at this
  rw [this, List.drop_zero, List.nil_append]
  congr 2; simp
theorem pTags {n : Nat} (hn : 300 ≤ n) {l : List D_api_Tag} (hl : TsB n l) (hn2 : n ≤ 536870912) (h : (eTags l).length ≤ 70368744177664) : F_ref14_PutTags.f n l = some (bytesOf (eTags l), ()) := by
  have hlen := hl.1
  rw [F_ref14_PutTags.e0]
  unfold eTags at h ⊢
  simp only [List.length_append] at h
  rw [pW hn, bnd_some]
  try dsimp only
  have := app_loop (l := l) (Va.dflt T_api_Tag) eTag 70368744177664 (fun m k L => F_ref14_PutTags.J1 n m (l, bytesOf L, k, ())) (fun L => some (bytesOf L, ()))
    (fun m k L hk hL => by
      have hr := hl.2 _ (getD_memA (d := Va.dflt T_api_Tag) hk)
      have hg : (0 ≤ (k : Int) ∧ (k : Int) < ((l.length : Nat) : Int)) := ⟨by omega, by omega⟩
      unfold eTag at hL ⊢
      simp only [List.length_append] at hL
      try dsimp only
      rw [F_ref14_PutTags.e1, hide_eq, decide_eq_true (by omega), bIf_true]
      simp only [gIf_pos hg, Int.toNat_natCast, cast_up k (show k < 4611686018427387904 by omega)]
      rw [pText hn (by omega), bnd_some]
      try dsimp only
      rw [pText hn (by omega), bnd_some]
      try dsimp only
      rw [bytesOf_size, bytesOf_size, gIf_pos (by first | omega | (simp only [List.length_append]; omega) | (simp only [List.length_append, bytesOf_size]; omega)), ← bytesOf_append]
      rw [bytesOf_size, bytesOf_size, gIf_pos (by first | omega | (simp only [List.length_append]; omega) | (simp only [List.length_append, bytesOf_size]; omega)), ← bytesOf_append])
    (fun m L hL => by
      try dsimp only
      rw [F_ref14_PutTags.e1, hide_eq, decide_eq_false (by omega), bIf_false, F_ref14_PutTags.e2]) n 0 (eW ((l.length : Nat) : Int)) (by omega) (by omega) (by rw [List.drop_zero]; omega)
  try dsimp only at this
  rw [show ((0 : Nat) : Int) = 0 from rfl] at this
  rw [this, List.drop_zero]
theorem pLock {n : Nat} (hn : 300 ≤ n) {l : D_api_Lock} (hl : I64 l.2.1) (h : (eLock l).length ≤ 70368744177664) : F_ref14_PutLock.f n l = some (bytesOf (eLock l), ()) := by
  rw [F_ref14_PutLock.e0]
  unfold eLock at h ⊢
  simp only [List.length_append] at h
  rw [pW hn, bnd_some]
  try dsimp only
  rw [pInt hn hl, bnd_some]
  try dsimp only
  rw [bytesOf_size, bytesOf_size, gIf_pos (by first | omega | (simp only [List.length_append]; omega) | (simp only [List.length_append, bytesOf_size]; omega)), ← bytesOf_append]
  rw [pFlag, bnd_some]
  try dsimp only
  rw [bytesOf_size, bytesOf_size, gIf_pos (by first | omega | (simp only [List.length_append]; omega) | (simp only [List.length_append, bytesOf_size]; omega)), ← bytesOf_append]
  try simp only [List.append_assoc]
theorem pVer {n : Nat} (hn : 300 ≤ n) {v : Ver} (h1 : U64 v.1) (h2 : I64 (made v)) (h3 : U64 (blob v)) (h5 : (dig v).length = 32) (h4 : I64 (lock v).2.1) (ht : TsB n (tags v)) (hn2 : n ≤ 536870912) (h : (eVer v).length ≤ 70368744177664) : F_ref14_PutVersion.f n v = some (bytesOf (eVer v), ()) := by
  rw [F_ref14_PutVersion.e0]
  unfold eVer at h ⊢
  simp only [List.length_append] at h
  rw [pNum hn h1, bnd_some, show v.2.1 = mark v from rfl, show v.2.2.2.2.2.1 = made v from rfl, show v.2.2.1 = vsize v from rfl, show v.2.2.2.1 = blob v from rfl, show v.2.2.2.2.1 = dig v from rfl, show v.2.2.2.2.2.2.1 = lock v from rfl, show v.2.2.2.2.2.2.2.1 = tags v from rfl]
  rw [pFlag, bnd_some]
  try dsimp only
  rw [bytesOf_size, bytesOf_size, gIf_pos (by first | omega | (simp only [List.length_append]; omega) | (simp only [List.length_append, bytesOf_size]; omega)), ← bytesOf_append]
  rw [pInt hn h2, bnd_some]
  try dsimp only
  rw [bytesOf_size, bytesOf_size, gIf_pos (by first | omega | (simp only [List.length_append]; omega) | (simp only [List.length_append, bytesOf_size]; omega)), ← bytesOf_append]
  cases hm : mark v
  · rw [hm] at h
    simp only [Bool.false_eq_true, if_false, List.length_append] at h ⊢
    rw [bIf_false]
    rw [pW hn, bnd_some]
    try dsimp only
    rw [bytesOf_size, bytesOf_size, gIf_pos (by first | omega | (simp only [List.length_append]; omega) | (simp only [List.length_append, bytesOf_size]; omega)), ← bytesOf_append]
    rw [pNum hn h3, bnd_some]
    try dsimp only
    rw [bytesOf_size, bytesOf_size, gIf_pos (by first | omega | (simp only [List.length_append]; omega) | (simp only [List.length_append, bytesOf_size]; omega)), ← bytesOf_append]
    rw [pDig hn h5, bnd_some]
    try dsimp only
    rw [bytesOf_size, bytesOf_size, gIf_pos (by first | omega | (simp only [List.length_append]; omega) | (simp only [List.length_append, bytesOf_size]; omega)), ← bytesOf_append]
    rw [pLock hn h4 (by omega), bnd_some]
    try dsimp only
    rw [bytesOf_size, bytesOf_size, gIf_pos (by first | omega | (simp only [List.length_append]; omega) | (simp only [List.length_append, bytesOf_size]; omega)), ← bytesOf_append]
    rw [pTags hn ht hn2 (by omega), bnd_some]
    try dsimp only
    rw [bytesOf_size, bytesOf_size, gIf_pos (by first | omega | (simp only [List.length_append]; omega) | (simp only [List.length_append, bytesOf_size]; omega)), ← bytesOf_append]
    simp only [List.append_assoc]
  · rw [bIf_true]
    simp only [if_true, List.append_nil, List.append_assoc]
end Go.Proofs.YtcpkhpboemfglaaGreatDoor

namespace Go.Proofs.YtcpkhpboemfglaaGreatDoor
open Go Go.Va Go.Proofs
theorem flat_len {α : Type} {f : α → List Int} {c : Nat} : ∀ {l : List α}, (∀ x ∈ l, (f x).length ≤ c) → (l.flatMap f).length ≤ l.length * c
  | [], _ => by simp
  | x :: l, h => by
    have h1 := h x (List.mem_cons_self ..)
    have h2 := flat_len (l := l) (fun y hy => h y (List.mem_cons_of_mem _ hy))
    rw [List.flatMap_cons, List.length_append, List.length_cons, Nat.succ_mul]; omega
theorem chk_all {α : Type} {p : α → Bool} {q : α → α → Bool} : ∀ {o : Option α} {l : List α}, chk p q o l = true → ∀ x ∈ l, p x = true
  | _, [], _ => by intro x hx; exact nomatch hx
  | o, y :: l, h => by
    intro x hx
    have h2 : p y = true ∧ ∃ o', chk p q o' l = true := by
      cases o with
      | none =>
        have h' : (p y && chk p q (some y) l) = true := h
        rw [Bool.and_eq_true] at h'
        exact ⟨h'.1, _, h'.2⟩
      | some a =>
        have h' : (p y && (q a y && chk p q (some y) l)) = true := h
        rw [Bool.and_eq_true, Bool.and_eq_true] at h'
        exact ⟨h'.1, _, h'.2.2⟩
    rcases List.mem_cons.1 hx with rfl | hx
    · exact h2.1
    · obtain ⟨o', h3⟩ := h2.2
      exact chk_all h3 x hx
theorem tagsB_len {l : List D_api_Tag} (h : tagsB l = true) : l.length ≤ 8 ∧ ∀ t ∈ l, tagB t = true := by
  unfold tagsB at h
  rw [Bool.and_eq_true, decide_eq_true_iff] at h
  exact ⟨h.1, chk_all h.2⟩
theorem tagB_len {t : D_api_Tag} (h : tagB t = true) : t.1.size ≤ 64 ∧ t.2.1.size ≤ 64 := by
  unfold tagB at h
  simp only [Bool.and_eq_true, decide_eq_true_iff] at h
  exact ⟨h.2.1, h.2.2.1⟩
theorem eTags_len {l : List D_api_Tag} (h : tagsB l = true) : (eTags l).length ≤ 1200 := by
  obtain ⟨h1, h2⟩ := tagsB_len h
  have h3 := flat_len (l := l) (f := eTag) (c := 148) (fun t ht => by
    obtain ⟨a, b⟩ := tagB_len (h2 t ht)
    have := eT_len t.1
    have := eT_len t.2.1
    unfold eTag; rw [List.length_append]; omega)
  have := eW_len ((l.length : Nat) : Int)
  unfold eTags; rw [List.length_append]; omega
theorem keyB_len {s : ByteArray} (h : keyB s = true) : s.size ≤ 200 := by
  unfold keyB at h
  simp only [Bool.and_eq_true, decide_eq_true_iff] at h; exact h.2.1
theorem eLock_len (l : D_api_Lock) : (eLock l).length ≤ 21 := by
  have := eW_len l.1
  have := eI_len l.2.1
  unfold eLock eF; simp only [List.length_append, List.length_singleton]; omega
theorem eVer_len {v : Ver} (h : verB v = true) (hd : (dig v).length = 32) : (eVer v).length ≤ 1400 := by
  have := eN_len v.1
  have := eI_len (made v)
  unfold eVer
  unfold verB at h
  cases hm : mark v
  · rw [hm] at h
    simp only [Bool.and_eq_true, Bool.false_eq_true, if_false] at h
    have := eTags_len h.2.2.2.2.2.2
    have := eW_len (vsize v)
    have := eN_len (blob v)
    have := eLock_len (lock v)
    unfold eF
    simp only [List.length_append, List.length_singleton, Bool.false_eq_true, if_false]; omega
  · unfold eF
    simp only [List.length_append, List.length_singleton, if_true, List.length_nil]; omega
structure Snd (e : E) : Prop where
  kind : 1 ≤ e.1 ∧ e.1 ≤ 13
  time : clampI e.2.1 = e.2.1
  buck : (if e.1 = 1 then eqS e.2.2.1 ⟨#[]⟩ else bucketB e.2.2.1) = true
  key : fld (hasB e.1) 107 (keyB e.2.2.2.1) (eqS e.2.2.2.1 ⟨#[]⟩) = true
  id : fld (hasB e.1) 105 (decide (e.2.2.2.2.1 ≥ 1)) (e.2.2.2.2.1 == 0) = true
  ver : fld (hasB e.1) 118 (verB e.2.2.2.2.2.1 && (e.2.2.2.2.2.1.2.2.2.2.2.1 == e.2.1)) (sameV e.2.2.2.2.2.1 verZ) = true
  lock : fld (hasB e.1) 108 (lockB e.2.2.2.2.2.2.1) (eqD T_api_Lock e.2.2.2.2.2.2.1 (0, (0, (false, ())))) = true
  tags : fld (hasB e.1) 116 (tagsB e.2.2.2.2.2.2.2.1) (((e.2.2.2.2.2.2.2.1.length : Nat) : Int) == 0) = true
  dflt : fld (hasB e.1) 100 (modeB e.2.2.2.2.2.2.2.2.1) (eqD T_api_Default e.2.2.2.2.2.2.2.2.1 (0, (0, ()))) = true
  rules : fld (hasB e.1) 114 (rulesB e.2.2.2.2.2.2.2.2.2.1) (((e.2.2.2.2.2.2.2.2.2.1.length : Nat) : Int) == 0) = true
  grants : fld (hasB e.1) 103 (grantsB e.2.2.2.2.2.2.2.2.2.2.1) (((e.2.2.2.2.2.2.2.2.2.2.1.length : Nat) : Int) == 0) = true
  part : fld (hasB e.1) 112 (partB e.2.2.2.2.2.2.2.2.2.2.2.1) (eqD T_api_Part e.2.2.2.2.2.2.2.2.2.2.2.1 partZ) = true
structure EsR (n : Nat) (l : List E) : Prop where
  b : EsB n l
  r : ∀ e ∈ l, ER e
theorem clone_byte {n : Nat} {s : List Int} (h : s.length ≤ 70368744177664) : F_slices_Clone_byte.f n s = some (s, ()) := by
  rw [F_slices_Clone_byte.e0, gIf_pos (by rw [List.length_nil]; omega)]
  by_cases h0 : s.length = 0
  · rw [List.eq_nil_of_length_eq_zero h0]; exact bothC_self _
  · rw [show (s.length == 0) = false by rw [beq_eq_false_iff_ne]; exact h0]; rfl
theorem clip_byte {n : Nat} (s : List Int) : F_slices_Clip_byte.f n s = some (s, ()) := by
  rw [F_slices_Clip_byte.e0, gIf_pos ⟨by omega, by omega⟩, gIf_pos ⟨by omega, by omega⟩, gIf_pos ⟨by omega, by omega, rfl⟩, Int.toNat_natCast, List.take_length, List.drop_zero]
theorem wOut {n : Nat} {w : List Int} (u : Unit) (h : w.length ≤ 70368744177664) : F_pack_Writer_Out.f n (w, u) = some (w, (w, u), ()) := by
  rw [F_pack_Writer_Out.e0, hide_eq, bIf_false]
  try dsimp only
  rw [clone_byte h, bnd_some, clip_byte, bnd_some]
end Go.Proofs.YtcpkhpboemfglaaGreatDoor

namespace Go.Proofs.YtcpkhpboemfglaaGreatDoor
open Go Go.Va Go.Proofs
def BY (l : List Int) : Prop := ∀ x ∈ l, 0 ≤ x ∧ x ≤ 255
structure Rd (n : Nat) {α : Type} (F : D_pack_Reader → Option (α × D_pack_Reader × Unit)) (enc : α → List Int) (ok : α → Prop) (bd : α → Prop) : Prop where
  any : ∀ b e, BB n b → ∃ x b' e', F (b, e, ()) = some (x, (b', e', ()), ()) ∧ BB n b' ∧ bd x
  enc : ∀ x rest, ok x → BB n (enc x ++ rest) → F (enc x ++ rest, 0, ()) = some (x, (rest, 0, ()), ())
theorem BB_right {n : Nat} {a b : List Int} (h : BB n (a ++ b)) : BB n b := ⟨by have := h.len; rw [List.length_append] at this; omega, fun x hx => h.byte x (List.mem_append.2 (.inr hx))⟩
theorem rfail {n : Nat} (b : List Int) (e e' : Int) (u : Unit) : F_pack_Reader_fail.f n (b, e, u) e' = some ((b, (if e = 0 then e' else e), ()), ()) := by
  rw [F_pack_Reader_fail.e0, hide_eq]
  by_cases h : e = 0
  · rw [if_pos h, show ((b, e, u).2.1 == 0) = true from beq_iff_eq.2 h, bIf_true]
  · rw [if_neg h, show ((b, e, u).2.1 == 0) = false from beq_eq_false_iff_ne.2 h, bIf_false]
def tk (k : Nat) (b : List Int) (e : Int) : List Int × D_pack_Reader := if e = 0 then if k ≤ b.length then (b.take k, (b.drop k, 0, ())) else ([], (b, 3, ())) else ([], (b, e, ()))
theorem rtake {n : Nat} (b : List Int) (e : Int) (u : Unit) (k : Nat) : F_pack_Reader_take.f n (b, e, u) (k : Int) = some ((tk k b e).1, (tk k b e).2, ()) := by
  rw [F_pack_Reader_take.e0]
  simp only [hide_eq, F_pack_Reader_take.e1, rfail, bnd_some]
  unfold tk
  by_cases h : e = 0
  · subst h
    rw [if_pos rfl, show ((0 : Int) == 0) = true from rfl, bIf_true]
    by_cases hk : k ≤ b.length
    · rw [decide_eq_false (by omega), if_pos hk, bIf_false, show ((0 : Int) != 0) = false from rfl, bIf_false, gIf_pos ⟨by omega, by omega⟩, gIf_pos ⟨by omega, by omega⟩, gIf_pos ⟨by omega, by omega⟩, gIf_pos ⟨by omega, by omega⟩]
      simp
    · rw [decide_eq_true (by omega), if_neg hk, bIf_true]; rfl
  · rw [show (e == 0) = false from beq_eq_false_iff_ne.2 h, bIf_false, show (e != 0) = true by rw [bne, beq_eq_false_iff_ne.2 h]; rfl, bIf_true]
    simp only [if_neg h]
theorem tk_any {n : Nat} {b : List Int} (e : Int) (hb : BB n b) (k : Nat) : ∃ (x b' : List Int) (e' : Int), tk k b e = (x, (b', e', ())) ∧ BB n b' ∧ BB n x ∧ (e' = 0 → x.length = k) ∧ (x.length = 0 ∨ x.length = k) := by
  have hlen := hb.len
  unfold tk
  by_cases h : e = 0
  · rw [if_pos h]
    by_cases hk : k ≤ b.length
    · rw [if_pos hk]
      exact ⟨_, _, _, rfl, BB_drop hb k, BB_take hb k, fun _ => by rw [List.length_take]; omega, .inr (by rw [List.length_take]; omega)⟩
    · rw [if_neg hk]
      exact ⟨_, _, _, rfl, hb, BB_nil (by omega), by intro h; exact absurd h (by decide), .inl rfl⟩
  · rw [if_neg h]
    exact ⟨_, _, _, rfl, hb, BB_nil (by omega), fun h' => absurd h' h, .inl rfl⟩
theorem tk_enc (a rest : List Int) (k : Nat) (h : k = a.length) : tk k (a ++ rest) 0 = (a, (rest, 0, ())) := by
  subst h
  unfold tk
  rw [if_pos rfl, if_pos (by rw [List.length_append]; omega), List.take_left' rfl, List.drop_left' rfl]
theorem rNum {n : Nat} (hn : 300 ≤ n) (hn2 : n ≤ 536870912) : Rd n (α := Int) (F_pack_Reader_Num.f n) eN U64 U64 where
  any b e hb := by
    obtain ⟨w, u, e2, h1, h2, h3, h4, h5, h6⟩ := bits_Unpack_any hn2 hn hb
    rw [F_pack_Reader_Num.e0]
    simp only [hide_eq, bIf_false, F_pack_Reader_Num.e1, h1, bnd_some, rfail]
    by_cases h : e = 0
    · subst h
      rw [show ((0 : Int) != 0) = false from rfl, bIf_false]
      by_cases he : e2 = 0
      · subst he
        obtain ⟨y, rfl⟩ := Int.eq_ofNat_of_zero_le h3
        rw [show ((0 : Int) != 0) = false from rfl, bIf_false, rtake, bnd_some]
        obtain ⟨x, b', e', h7, h8, _, _, _⟩ := tk_any (n := n) 0 hb y
        try dsimp only
        rw [h7]
        exact ⟨_, _, _, rfl, h8, h2⟩
      · rw [show (e2 != 0) = true by rw [bne, beq_eq_false_iff_ne.2 he]; rfl, bIf_true]
        exact ⟨_, _, _, rfl, hb, ⟨by omega, by omega⟩⟩
    · rw [show (e != 0) = true by rw [bne, beq_eq_false_iff_ne.2 h]; rfl, bIf_true]
      exact ⟨_, _, _, rfl, hb, ⟨by omega, by omega⟩⟩
  enc x rest hx hb := by
    rw [F_pack_Reader_Num.e0]
    simp only [hide_eq, bIf_false, F_pack_Reader_Num.e1, bits_Unpack_eN hn2 hn hx hb, bnd_some, show ((0 : Int) != 0) = false from rfl, rtake, tk_enc _ _ _ rfl]
theorem rInt {n : Nat} (hn : 300 ≤ n) (hn2 : n ≤ 536870912) : Rd n (α := Int) (F_pack_Reader_Int.f n) eI I64 I64 where
  any b e hb := by
    obtain ⟨x, b', e', h1, h2, h3⟩ := (rNum hn hn2).any b e hb
    rw [F_pack_Reader_Int.e0, h1, bnd_some, bits_Zag n h3, bnd_some]
    exact ⟨_, _, _, rfl, h2, zag_I64 h3⟩
  enc x rest hx hb := by
    unfold eI at hb ⊢
    rw [F_pack_Reader_Int.e0, (rNum hn hn2).enc _ rest (zig_U64 hx) hb, bnd_some, bits_Zag n (zig_U64 hx), bnd_some, zag_zig]
theorem eW_nat {n : Nat} (hn : 300 ≤ n) (hn2 : n ≤ 536870912) {x : Int} (h : 0 ≤ x ∧ x < 9223372036854775808) : eW x = eN x := by unfold eW; rw [wrap_u64 (by omega)]
theorem rCount {n : Nat} (hn : 300 ≤ n) (hn2 : n ≤ 536870912) {most : Int} (hm : 0 ≤ most ∧ most < 9223372036854775808) : Rd n (α := Int) (fun r => F_pack_Reader_Count.f n r most) eW (fun x => 0 ≤ x ∧ x ≤ most) (fun x => 0 ≤ x ∧ x ≤ most) where
  any b e hb := by
    obtain ⟨x, b', e', h1, h2, h3⟩ := (rNum hn hn2).any b e hb
    obtain ⟨h4, h5⟩ := h3
    try dsimp only
    rw [F_pack_Reader_Count.e0, h1, bnd_some]
    simp only [hide_eq, bIf_false, F_pack_Reader_Count.e1, F_pack_Reader_Count.e2, F_pack_Reader_Count.e3, rfail, bnd_some]
    by_cases h : e' = 0
    · subst h
      rw [show ((0 : Int) != 0) = false from rfl, bIf_false, decide_eq_false (by omega), bIf_false, wrap_u64 (x := most) (by omega)]
      by_cases hx : x > most
      · rw [decide_eq_true hx, bIf_true]
        exact ⟨_, _, _, rfl, h2, by omega, by omega⟩
      · rw [decide_eq_false hx, bIf_false, wrap_i64 (by omega)]
        exact ⟨_, _, _, rfl, h2, by omega, by omega⟩
    · rw [show (e' != 0) = true by rw [bne, beq_eq_false_iff_ne.2 h]; rfl, bIf_true]
      exact ⟨_, _, _, rfl, h2, by omega, by omega⟩
  enc x rest hx hb := by
    rw [eW_nat hn hn2 (by omega)] at hb ⊢
    try dsimp only
    rw [F_pack_Reader_Count.e0, (rNum hn hn2).enc _ rest ⟨by omega, by omega⟩ hb, bnd_some]
    simp only [hide_eq, bIf_false, F_pack_Reader_Count.e1, F_pack_Reader_Count.e2, F_pack_Reader_Count.e3, rfail, bnd_some]
    rw [show ((0 : Int) != 0) = false from rfl, bIf_false, decide_eq_false (by omega), bIf_false, wrap_u64 (x := most) (by omega), decide_eq_false (by omega), bIf_false, wrap_i64 (by omega)]
theorem rSmall {n : Nat} (hn : 300 ≤ n) (hn2 : n ≤ 536870912) : Rd n (α := Int) (F_entry_Reader_Small.f n) eW (fun x => 0 ≤ x ∧ x ≤ 1099511627776) (fun x => 0 ≤ x ∧ x ≤ 1099511627776) where
  any b e hb := by
    obtain ⟨x, b', e', h1, h2, h3⟩ := (rCount hn hn2 (most := 1099511627776) (by omega)).any b e hb
    rw [F_entry_Reader_Small.e0, h1, bnd_some]
    exact ⟨_, _, _, rfl, h2, h3⟩
  enc x rest hx hb := by
    rw [F_entry_Reader_Small.e0, (rCount hn hn2 (most := 1099511627776) (by omega)).enc x rest hx hb, bnd_some]
theorem rText {n : Nat} (hn : 300 ≤ n) (hn2 : n ≤ 536870912) : Rd n (α := ByteArray) (F_pack_Reader_Text.f n) eT (fun s => s.size ≤ 16384) (fun s => s.size < n) where
  any b e hb := by
    obtain ⟨x, b', e', h1, h2, h3, h4⟩ := (rCount hn hn2 (most := 16384) (by omega)).any b e hb
    obtain ⟨y, rfl⟩ := Int.eq_ofNat_of_zero_le h3
    rw [F_pack_Reader_Text.e0, h1, bnd_some, hide_eq, bIf_false]
    try dsimp only
    rw [rtake, bnd_some]
    obtain ⟨x, b2, e2, h7, h8, h9, _, _⟩ := tk_any (n := n) e' h2 y
    try dsimp only
    rw [h7]
    exact ⟨_, _, _, rfl, h8, by rw [bytesOf_size]; exact h9.len⟩
  enc s rest hs hb := by
    unfold eT at hb ⊢
    rw [List.append_assoc] at hb ⊢
    rw [F_pack_Reader_Text.e0, (rCount hn hn2 (most := 16384) (by omega)).enc _ _ ⟨by omega, by omega⟩ hb, bnd_some, hide_eq, bIf_false]
    try dsimp only
    rw [rtake, bnd_some, tk_enc _ _ _ (size_of s), bytesOf_ofBytes]
theorem rFlag {n : Nat} (hn : 300 ≤ n) (hn2 : n ≤ 536870912) : Rd n (α := Bool) (F_pack_Reader_Flag.f n) eF (fun _ => True) (fun _ => True) where
  any b e hb := by
    rw [F_pack_Reader_Flag.e0, hide_eq, bIf_false, show (1 : Int) = ((1 : Nat) : Int) from rfl, rtake, bnd_some]
    obtain ⟨x, b2, e2, h7, h8, h9, h10, _⟩ := tk_any (n := n) e hb 1
    try dsimp only
    rw [h7]
    simp only [hide_eq, rfail, bnd_some, F_pack_Reader_Flag.e1]
    by_cases h : e2 = 0
    · have hx := h10 h
      subst h
      rw [show ((0 : Int) == 0) = true from rfl, bIf_true, gIf_pos ⟨by omega, by omega⟩, gNo_neg (by decide)]
      cases (shrI .u8 (x.getD 0 0) ((1 : Nat) : Int) != 0)
      · rw [bIf_false, bIf_true, gIf_pos ⟨by omega, by omega⟩]
        exact ⟨_, _, _, rfl, h8, trivial⟩
      · rw [bIf_true]
        exact ⟨_, _, _, rfl, h8, trivial⟩
    · rw [show (e2 == 0) = false from beq_eq_false_iff_ne.2 h, bIf_false, bIf_false]
      exact ⟨_, _, _, rfl, h8, trivial⟩
  enc x rest _ hb := by
    rw [F_pack_Reader_Flag.e0, hide_eq, bIf_false, show (1 : Int) = ((1 : Nat) : Int) from rfl, rtake, bnd_some, tk_enc (eF x) rest 1 rfl]
    simp only [hide_eq, rfail, bnd_some, F_pack_Reader_Flag.e1]
    have hg : (0 ≤ (0 : Int) ∧ (0 : Int) < (((eF x).length : Nat) : Int)) := by rw [eF_len]; omega
    rw [show ((0 : Int) == 0) = true from rfl, bIf_true, gIf_pos hg, gNo_neg (by decide), show (shrI .u8 ((eF x).getD 0 0) ((1 : Nat) : Int) != 0) = false by cases x <;> decide, bIf_false, bIf_true, gIf_pos hg,
      show ((eF x).getD 0 0 == 1) = x by cases x <;> rfl]
theorem rDig {n : Nat} (hn : 300 ≤ n) (hn2 : n ≤ 536870912) : Rd n (α := List Int) (F_pack_Reader_Digest.f n) (fun d => d) (fun d => d.length = 32) (fun d => d.length = 32 ∧ BY d) where
  any b e hb := by
    rw [F_pack_Reader_Digest.e0, hide_eq, bIf_true, show (32 : Int) = ((32 : Nat) : Int) from rfl, rtake, bnd_some]
    obtain ⟨x, b2, e2, h7, h8, h9, _, h10⟩ := tk_any (n := n) e hb 32
    try dsimp only
    rw [h7]
    try dsimp only
    rw [gIf_pos (by omega)]
    exact ⟨_, _, _, rfl, h8, by rw [List.length_append, List.length_drop, List.length_replicate]; omega, by
      intro y hy
      rcases List.mem_append.1 hy with hy | hy
      · exact h9.byte y hy
      · have := List.eq_of_mem_replicate (List.mem_of_mem_drop hy); omega⟩
  enc x rest hx hb := by
    rw [F_pack_Reader_Digest.e0, hide_eq, bIf_true, show (32 : Int) = ((32 : Nat) : Int) from rfl, rtake, bnd_some, tk_enc _ _ _ hx.symm]
    try dsimp only
    rw [gIf_pos (by omega), hx]
    simp
theorem rd_any {n : Nat} {α R : Type} {F : D_pack_Reader → Option (α × D_pack_Reader × Unit)} {en : α → List Int} {ok bd : α → Prop} (hF : Rd n F en ok bd) (c : Nat)
    (J : Nat → List α → Int → D_pack_Reader → Option R) (fin : List α → D_pack_Reader → Option R)
    (hs : ∀ m out (k : Nat) r x r', k < c → out.length = k → F r = some (x, r', ()) → J (m + 1) out (k : Int) r = J m (out ++ [x]) ((k + 1 : Nat) : Int) r')
    (he : ∀ m out r, out.length = c → J (m + 1) out (c : Int) r = fin out r) :
    ∀ (m k : Nat) out b e, k ≤ c → c - k < m → out.length = k → (∀ x ∈ out, bd x) → BB n b →
      ∃ out' b' e', J m out (k : Int) (b, e, ()) = fin out' (b', e', ()) ∧ BB n b' ∧ out'.length = c ∧ ∀ x ∈ out', bd x
  | 0, k, out, b, e, _, h, _, _, _ => by omega
  | m + 1, k, out, b, e, hk, h, ho, hbd, hb => by
    by_cases hlt : k < c
    · obtain ⟨x, b', e', h1, h2, h3⟩ := hF.any b e hb
      rw [hs m out k _ x _ hlt ho h1]
      exact rd_any hF c J fin hs he m (k + 1) (out ++ [x]) b' e' (by omega) (by omega) (by simp; omega) (by
        intro y hy
        rcases List.mem_append.1 hy with hy | hy
        · exact hbd y hy
        · rw [List.mem_singleton] at hy; rw [hy]; exact h3) h2
    · have : k = c := by omega
      subst this
      rw [he m out _ ho]
      exact ⟨out, b, e, rfl, hb, ho, hbd⟩
theorem rd_enc {n : Nat} {α R : Type} {F : D_pack_Reader → Option (α × D_pack_Reader × Unit)} {en : α → List Int} {ok bd : α → Prop} (hF : Rd n F en ok bd) (c : Nat)
    (J : Nat → List α → Int → D_pack_Reader → Option R) (fin : List α → D_pack_Reader → Option R)
    (hs : ∀ m out (k : Nat) r x r', k < c → out.length = k → F r = some (x, r', ()) → J (m + 1) out (k : Int) r = J m (out ++ [x]) ((k + 1 : Nat) : Int) r')
    (he : ∀ m out r, out.length = c → J (m + 1) out (c : Int) r = fin out r) (rest : List Int) :
    ∀ (m : Nat) (l : List α) (k : Nat) out, k + l.length = c → l.length < m → out.length = k → (∀ x ∈ l, ok x) → BB n (l.flatMap en ++ rest) →
      J m out (k : Int) (l.flatMap en ++ rest, 0, ()) = fin (out ++ l) (rest, 0, ())
  | 0, l, k, out, _, h, _, _, _ => by omega
  | m + 1, [], k, out, hk, h, ho, hok, hb => by
    rw [List.length_nil] at hk
    have : k = c := by omega
    subst this
    rw [he m out _ ho, List.append_nil]; rfl
  | m + 1, x :: l, k, out, hk, h, ho, hok, hb => by
    rw [List.length_cons] at hk h
    rw [List.flatMap_cons, List.append_assoc] at hb ⊢
    rw [hs m out k _ x (l.flatMap en ++ rest, 0, ()) (by omega) ho (hF.enc x _ (hok x (List.mem_cons_self ..)) hb),
      rd_enc hF c J fin hs he rest m l (k + 1) (out ++ [x]) (by omega) (by omega) (by simp; omega) (fun y hy => hok y (List.mem_cons_of_mem _ hy)) (BB_right hb), List.append_assoc]; rfl
end Go.Proofs.YtcpkhpboemfglaaGreatDoor

namespace Go.Proofs.YtcpkhpboemfglaaGreatDoor
open Go Go.Va Go.Proofs
theorem bnd_bnd {α β γ : Type} (a : Option α) (f : α → Option β) (g : β → Option γ) : bnd (bnd a f) g = bnd a fun x => bnd (f x) g := by cases a <;> rfl
def Small (x : Int) : Prop := 0 ≤ x ∧ x ≤ 1099511627776
def okT (s : ByteArray) : Prop := s.size ≤ 16384
def okTag (t : D_api_Tag) : Prop := okT t.1 ∧ okT t.2.1
def okTags (l : List D_api_Tag) : Prop := l.length ≤ 8 ∧ ∀ t ∈ l, okTag t
def okLock (l : D_api_Lock) : Prop := Small l.1 ∧ I64 l.2.1
def bdLock (l : D_api_Lock) : Prop := I64 l.2.1
structure okVer (v : Ver) : Prop where
  id : U64 v.1
  md : I64 (made v)
  yes : mark v = true → v = (v.1, (true, (0, (0, ((List.replicate 32 0), (made v, ((0, (0, (false, ()))), ([], ()))))))))
  no : mark v = false → Small (vsize v) ∧ U64 (blob v) ∧ (dig v).length = 32 ∧ okLock (lock v) ∧ okTags (tags v)
structure bdVer (n : Nat) (v : Ver) : Prop where
  b : VB n v
  id : U64 v.1
  md : I64 (made v)
  bl : U64 (blob v)
  lk : bdLock (lock v)
  dy : BY (dig v)
theorem BY_zero (k : Nat) : BY (List.replicate k 0) := by intro x hx; have := List.eq_of_mem_replicate hx; omega
theorem rLock {n : Nat} (hn : 300 ≤ n) (hn2 : n ≤ 536870912) : Rd n (α := D_api_Lock) (F_entry_Reader_Lock.f n) eLock okLock bdLock where
  any b0 e0 hb0 := by
    rw [F_entry_Reader_Lock.e0]
    obtain ⟨x1, b1, e1, h1, hb1, d1⟩ := (rSmall hn hn2).any b0 e0 hb0
    rw [h1, bnd_some]
    try dsimp only
    obtain ⟨x2, b2, e2, h2, hb2, d2⟩ := (rInt hn hn2).any b1 e1 hb1
    rw [h2, bnd_some]
    try dsimp only
    obtain ⟨x3, b3, e3, h3, hb3, d3⟩ := (rFlag hn hn2).any b2 e2 hb2
    rw [h3, bnd_some]
    try dsimp only
    exact ⟨_, _, _, rfl, hb3, d2⟩
  enc x rest hx hb := by
    unfold eLock at hb ⊢
    try simp only [List.append_assoc] at hb ⊢
    rw [F_entry_Reader_Lock.e0]
    rw [(rSmall hn hn2).enc _ _ hx.1 hb, bnd_some]
    try dsimp only
    replace hb := BB_right hb
    rw [(rInt hn hn2).enc _ _ hx.2 hb, bnd_some]
    try dsimp only
    replace hb := BB_right hb
    rw [(rFlag hn hn2).enc _ _ trivial hb, bnd_some]
    try dsimp only
noncomputable def tagRd (n : Nat) (r : D_pack_Reader) : Option (D_api_Tag × D_pack_Reader × Unit) := bnd (F_pack_Reader_Text.f n r) fun u1 => bnd (F_pack_Reader_Text.f n u1.2.1) fun u2 => some ((u1.1, (u2.1, ())), u2.2.1, ())
theorem tagR {n : Nat} (hn : 300 ≤ n) (hn2 : n ≤ 536870912) : Rd n (α := D_api_Tag) (tagRd n) eTag okTag (TB n) where
  any b0 e0 hb0 := by
    unfold tagRd
    obtain ⟨x1, b1, e1, h1, hb1, d1⟩ := (rText hn hn2).any b0 e0 hb0
    rw [h1, bnd_some]
    try dsimp only
    obtain ⟨x2, b2, e2, h2, hb2, d2⟩ := (rText hn hn2).any b1 e1 hb1
    rw [h2, bnd_some]
    try dsimp only
    exact ⟨_, _, _, rfl, hb2, d1, d2⟩
  enc x rest hx hb := by
    unfold eTag at hb ⊢
    try simp only [List.append_assoc] at hb ⊢
    unfold tagRd
    rw [(rText hn hn2).enc _ _ hx.1 hb, bnd_some]
    try dsimp only
    replace hb := BB_right hb
    rw [(rText hn hn2).enc _ _ hx.2 hb, bnd_some]
    try dsimp only
theorem rTags {n : Nat} (hn : 300 ≤ n) (hn2 : n ≤ 536870912) : Rd n (α := List D_api_Tag) (F_entry_Reader_Tags.f n) eTags okTags (TsB n) where
  any b e hb := by
    obtain ⟨c, b1, e1, h1, hb1, h2, h3⟩ := (rCount hn hn2 (most := 8) (by omega)).any b e hb
    obtain ⟨y, rfl⟩ := Int.eq_ofNat_of_zero_le h2
    rw [F_entry_Reader_Tags.e0, h1, bnd_some]
    try dsimp only
    obtain ⟨out', b', e', h4, h5, h6, h7⟩ := rd_any (tagR hn hn2) y (fun m out k r => F_entry_Reader_Tags.J1 n m (out, (y : Int), k, ((), ()), r, ())) (fun out r => some (out, r, ())) (fun m out k r x r' hk ho hF => by
      try dsimp only
      rw [F_entry_Reader_Tags.e1, hide_eq, decide_eq_true (by omega), bIf_true]
      have : ∀ (K : D_api_Tag → D_pack_Reader → Option (F_entry_Reader_Tags.R)), bnd (tagRd n r) (fun u => K u.1 u.2.1) = K x r' := by intro K; rw [hF, bnd_some]
      have h2 := this (fun x r' => gIf ((out.length + 1) * 32 ≤ 70368744177664) (F_entry_Reader_Tags.J1 n m (out ++ [x], (y : Int), IntKind.i64.wrap ((k : Int) + 1), ((), ()), r', ())))
      rw [gIf_pos (by omega), cast_up k (by omega)] at h2
      unfold tagRd at h2
      simp only [bnd_bnd, bnd_some] at h2
      rw [cast_up k (by omega)]
      exact h2)
      (fun m out r ho => by
      try dsimp only
      rw [F_entry_Reader_Tags.e1, hide_eq, decide_eq_false (by omega), bIf_false, F_entry_Reader_Tags.e2]) n 0 [] b1 e1 (by omega) (by omega) rfl (by intro x hx; exact nomatch hx) hb1
    try dsimp only at h4
    rw [show ((0 : Nat) : Int) = 0 from rfl] at h4
    rw [h4]
    exact ⟨_, _, _, rfl, h5, by omega, h7⟩
  enc l rest hl hb := by
    unfold eTags at hb ⊢
    rw [List.append_assoc] at hb ⊢
    have hlen := hl.1
    rw [F_entry_Reader_Tags.e0, (rCount hn hn2 (most := 8) (by omega)).enc _ _ ⟨by omega, by omega⟩ hb, bnd_some]
    try dsimp only
    have h4 := rd_enc (tagR hn hn2) l.length (fun m out k r => F_entry_Reader_Tags.J1 n m (out, ((l.length : Nat) : Int), k, ((), ()), r, ())) (fun out r => some (out, r, ())) (fun m out k r x r' hk ho hF => by
      try dsimp only
      rw [F_entry_Reader_Tags.e1, hide_eq, decide_eq_true (by omega), bIf_true]
      have : ∀ (K : D_api_Tag → D_pack_Reader → Option (F_entry_Reader_Tags.R)), bnd (tagRd n r) (fun u => K u.1 u.2.1) = K x r' := by intro K; rw [hF, bnd_some]
      have h2 := this (fun x r' => gIf ((out.length + 1) * 32 ≤ 70368744177664) (F_entry_Reader_Tags.J1 n m (out ++ [x], ((l.length : Nat) : Int), IntKind.i64.wrap ((k : Int) + 1), ((), ()), r', ())))
      rw [gIf_pos (by omega), cast_up k (by omega)] at h2
      unfold tagRd at h2
      simp only [bnd_bnd, bnd_some] at h2
      rw [cast_up k (by omega)]
      exact h2)
      (fun m out r ho => by
      try dsimp only
      rw [F_entry_Reader_Tags.e1, hide_eq, decide_eq_false (by omega), bIf_false, F_entry_Reader_Tags.e2]) rest n l 0 [] (by omega) (by omega) rfl hl.2 (BB_right hb)
    try dsimp only at h4
    rw [show ((0 : Nat) : Int) = 0 from rfl] at h4
    rw [h4, List.nil_append]
theorem rVer {n : Nat} (hn : 300 ≤ n) (hn2 : n ≤ 536870912) : Rd n (α := Ver) (F_entry_Reader_Version.f n) eVer okVer (bdVer n) where
  any b0 e0 hb0 := by
    rw [F_entry_Reader_Version.e0]
    obtain ⟨x1, b1, e1, h1, hb1, d1⟩ := (rNum hn hn2).any b0 e0 hb0
    rw [h1, bnd_some]
    try dsimp only
    obtain ⟨x2, b2, e2, h2, hb2, d2⟩ := (rFlag hn hn2).any b1 e1 hb1
    rw [h2, bnd_some]
    try dsimp only
    obtain ⟨x3, b3, e3, h3, hb3, d3⟩ := (rInt hn hn2).any b2 e2 hb2
    rw [h3, bnd_some]
    try dsimp only
    cases x2
    · rw [bIf_false]
      obtain ⟨x4, b4, e4, h4, hb4, d4⟩ := (rSmall hn hn2).any b3 e3 hb3
      rw [h4, bnd_some]
      try dsimp only
      obtain ⟨x5, b5, e5, h5, hb5, d5⟩ := (rNum hn hn2).any b4 e4 hb4
      rw [h5, bnd_some]
      try dsimp only
      obtain ⟨x6, b6, e6, h6, hb6, d6⟩ := (rDig hn hn2).any b5 e5 hb5
      rw [h6, bnd_some]
      try dsimp only
      obtain ⟨x7, b7, e7, h7, hb7, d7⟩ := (rLock hn hn2).any b6 e6 hb6
      rw [h7, bnd_some]
      try dsimp only
      obtain ⟨x8, b8, e8, h8, hb8, d8⟩ := (rTags hn hn2).any b7 e7 hb7
      rw [h8, bnd_some]
      try dsimp only
      exact ⟨_, _, _, rfl, hb8, ⟨⟨d1.1, d5.1, d6.1, d8⟩, d1, d3, d5, d7, d6.2⟩⟩
    · rw [bIf_true]
      exact ⟨_, _, _, rfl, hb3, ⟨⟨d1.1, Int.le_refl 0, rfl, ⟨by change 0 < n; omega, by intro t ht; exact nomatch ht⟩⟩, d1, d3, ⟨Int.le_refl 0, by change (0 : Int) < _; decide⟩, ⟨by change (_ : Int) ≤ 0; decide, by change (0 : Int) < _; decide⟩, BY_zero 32⟩⟩
  enc x rest hx hb := by
    unfold eVer at hb ⊢
    simp only [List.append_assoc] at hb ⊢
    rw [F_entry_Reader_Version.e0, (rNum hn hn2).enc _ _ hx.id hb, bnd_some]
    try dsimp only
    replace hb := BB_right hb
    rw [(rFlag hn hn2).enc _ _ trivial hb, bnd_some]
    try dsimp only
    replace hb := BB_right hb
    rw [(rInt hn hn2).enc _ _ hx.md hb, bnd_some]
    try dsimp only
    replace hb := BB_right hb
    cases hm : mark x
    · obtain ⟨k1, k2, k3, k4, k5⟩ := hx.no hm
      rw [hm] at hb
      simp only [Bool.false_eq_true, if_false, List.append_assoc] at hb ⊢
      rw [bIf_false, (rSmall hn hn2).enc _ _ k1 hb, bnd_some]
      try dsimp only
      replace hb := BB_right hb
      rw [(rNum hn hn2).enc _ _ k2 hb, bnd_some]
      try dsimp only
      replace hb := BB_right hb
      rw [(rDig hn hn2).enc _ _ k3 hb, bnd_some]
      try dsimp only
      replace hb := BB_right hb
      rw [(rLock hn hn2).enc _ _ k4 hb, bnd_some]
      try dsimp only
      replace hb := BB_right hb
      rw [(rTags hn hn2).enc _ _ k5 hb, bnd_some]
      try dsimp only
      rw [← hm]; rfl
    · have hv := hx.yes hm
      simp only [if_true, List.nil_append]
      rw [bIf_true, ← hv]
end Go.Proofs.YtcpkhpboemfglaaGreatDoor

namespace Go.Proofs.YtcpkhpboemfglaaGreatDoor
open Go Go.Va Go.Proofs
theorem eqS_eq' {a b : ByteArray} (h : eqS a b = true) : a = b := by rw [eqS_eq, ba_beq] at h; exact of_decide_eq_true h
theorem digEq : ∀ {a b : List Int}, a.length = b.length → eqD (.arr 32 (.int .u8)) a b = true → a = b
  | [], [], _, _ => rfl
  | [], _ :: _, h, _ => by simp at h
  | _ :: _, [], h, _ => by simp at h
  | x :: a, y :: b, hl, h => by
    have h : (decide (x = y) && eqD (.arr 32 (.int .u8)) a b) = true := h
    rw [Bool.and_eq_true] at h
    rw [of_decide_eq_true h.1, digEq (by simpa using hl) h.2]
theorem lockEq {a b : D_api_Lock} (h : eqD T_api_Lock a b = true) : a = b := by
  have h : (decide (a.1 = b.1) && (decide (a.2.1 = b.2.1) && ((a.2.2.1 == b.2.2.1) && true))) = true := h
  simp only [Bool.and_eq_true, decide_eq_true_iff, beq_iff_eq, and_true] at h
  obtain ⟨h1, h2, h3⟩ := h
  obtain ⟨a1, a2, a3, a4⟩ := a
  obtain ⟨b1, b2, b3, b4⟩ := b
  dsimp only at h1 h2 h3
  rw [h1, h2, h3]
theorem defEq {a b : D_api_Default} (h : eqD T_api_Default a b = true) : a = b := by
  have h : (decide (a.1 = b.1) && (decide (a.2.1 = b.2.1) && true)) = true := h
  simp only [Bool.and_eq_true, decide_eq_true_iff, and_true] at h
  obtain ⟨h1, h2⟩ := h
  obtain ⟨a1, a2, a4⟩ := a
  obtain ⟨b1, b2, b4⟩ := b
  dsimp only at h1 h2
  rw [h1, h2]
theorem allB_eq {α : Type} {q : α → α → Bool} (hq : ∀ x y, q x y = true → x = y) : ∀ {a b : List α}, allB q a b = true → a = b
  | [], [], _ => rfl
  | [], _ :: _, h => nomatch h
  | _ :: _, [], h => nomatch h
  | x :: a, y :: b, h => by
    have h : (q x y && allB q a b) = true := h
    rw [Bool.and_eq_true] at h
    rw [hq x y h.1, allB_eq hq h.2]
theorem tagEq (a b : D_api_Tag) (h : sameT a b = true) : a = b := by
  unfold sameT at h
  rw [Bool.and_eq_true] at h
  obtain ⟨a1, a2, a3⟩ := a
  obtain ⟨b1, b2, b3⟩ := b
  have h1 := eqS_eq' h.1
  have h2 := eqS_eq' h.2
  dsimp only at h1 h2
  rw [h1, h2]
theorem verEq {a b : Ver} (ha : (dig a).length = 32) (hb : (dig b).length = 32) (h : sameV a b = true) : a = b := by
  unfold sameV at h
  simp only [Bool.and_eq_true, beq_iff_eq] at h
  obtain ⟨h1, h2, h3, h4, h5, h6, h7, h8⟩ := h
  have h1 := allB_eq tagEq h1
  have h6 := digEq (ha.trans hb.symm) h6
  have h8 := lockEq h8
  obtain ⟨a1, a2, a3, a4, a5, a6, a7, a8, a9⟩ := a
  obtain ⟨b1, b2, b3, b4, b5, b6, b7, b8, b9⟩ := b
  unfold tags at h1
  unfold mark at h3
  unfold vsize at h4
  unfold blob at h5
  unfold dig at h6
  unfold made at h7
  unfold lock at h8
  dsimp only at h1 h2 h3 h4 h5 h6 h7 h8
  rw [h1, h2, h3, h4, h5, h6, h7, h8]
theorem len0 {α : Type} {l : List α} (h : (((l.length : Nat) : Int) == 0) = true) : l = [] := by
  rw [beq_iff_eq] at h; exact List.eq_nil_of_length_eq_zero (by omega)
theorem okTags_of {l : List D_api_Tag} (h : tagsB l = true) : okTags l := by
  obtain ⟨h1, h2⟩ := tagsB_len h
  exact ⟨h1, fun t ht => by obtain ⟨a, b⟩ := tagB_len (h2 t ht); exact ⟨by unfold okT; omega, by unfold okT; omega⟩⟩
theorem okLock_of {l : D_api_Lock} (h : lockB l = true) (hi : I64 l.2.1) : okLock l := by
  refine ⟨?_, hi⟩
  unfold lockB at h
  unfold Small
  split at h
  · omega
  · split at h
    · omega
    · exact nomatch h
theorem okVer_of {v : Ver} (h : verB v = true) (h1 : U64 v.1) (h2 : I64 (made v)) (h3 : U64 (blob v)) (h4 : (dig v).length = 32) (h5 : I64 (lock v).2.1) : okVer v := by
  unfold verB at h
  refine ⟨h1, h2, fun hm => ?_, fun hm => ?_⟩
  · rw [hm] at h
    simp only [Bool.and_eq_true, beq_iff_eq, List.all_eq_true, decide_eq_true_iff, if_true, Bool.not_eq_true'] at h
    obtain ⟨_, _, k1, k2, k3, ⟨k4, k5, k6⟩, k7⟩ := h
    have k3' : dig v = List.replicate 32 0 := List.eq_replicate_iff.2 ⟨h4, k3⟩
    have k7' := List.eq_nil_of_length_eq_zero k7
    obtain ⟨a1, a2, a3, a4, a5, a6, ⟨c1, c2, c3, c4⟩, a8, a9⟩ := v
    unfold mark at hm
    unfold vsize at k1
    unfold blob at k2
    unfold dig at k3'
    unfold lock at k4 k5 k6
    unfold tags at k7'
    unfold made
    dsimp only at hm k1 k2 k3' k4 k5 k6 k7' ⊢
    rw [hm, k1, k2, k3', k4, k5, k6, k7']
  · rw [hm] at h
    simp only [Bool.and_eq_true, Bool.false_eq_true, if_false, decide_eq_true_iff] at h
    obtain ⟨_, _, k1, k2, k3, k4, k5⟩ := h
    exact ⟨by unfold Small; omega, h3, h4, okLock_of k4 h5, okTags_of k5⟩
def EY (e : E) : Prop := BY (dig e.2.2.2.2.2.1) ∧ BY e.2.2.2.2.2.2.2.2.2.2.2.1.2.2.2.1
theorem I64_0 : I64 0 := by unfold I64; omega
theorem U64_0 : U64 0 := by unfold U64; omega
end Go.Proofs.YtcpkhpboemfglaaGreatDoor

namespace Go.Proofs.YtcpkhpboemfglaaGreatDoor
open Go Go.Va Go.Proofs
theorem BY_app {a b : List Int} (ha : BY a) (hb : BY b) : BY (a ++ b) := by
  intro x hx
  rcases List.mem_append.1 hx with h | h
  · exact ha x h
  · exact hb x h
theorem BY_nil : BY [] := by intro x h; exact nomatch h
theorem BY_flat {α : Type} {f : α → List Int} {l : List α} (h : ∀ x ∈ l, BY (f x)) : BY (l.flatMap f) := by
  intro y hy
  obtain ⟨x, hx, hy⟩ := List.mem_flatMap.1 hy
  exact h x hx y hy
theorem BY_N (x : Int) : BY (eN x) := eN_byte x
theorem BY_W (x : Int) : BY (eW x) := eN_byte _
theorem BY_I (x : Int) : BY (eI x) := eN_byte _
theorem BY_F (b : Bool) : BY (eF b) := by intro x hx; unfold eF at hx; rw [List.mem_singleton] at hx; subst hx; cases b <;> decide
theorem BY_T (s : ByteArray) : BY (eT s) := BY_app (BY_W _) fun x hx => ofBytes_range hx
theorem BY_Tags (l : List D_api_Tag) : BY (eTags l) := BY_app (BY_W _) (BY_flat fun t _ => BY_app (BY_T _) (BY_T _))
theorem BY_Lock (l : D_api_Lock) : BY (eLock l) := BY_app (BY_W _) (BY_app (BY_I _) (BY_F _))
theorem BY_Ver {v : Ver} (h : BY (dig v)) : BY (eVer v) := by
  refine BY_app (BY_N _) (BY_app (BY_F _) (BY_app (BY_I _) ?_))
  split
  · exact BY_nil
  · exact BY_app (BY_W _) (BY_app (BY_N _) (BY_app h (BY_app (BY_Lock _) (BY_Tags _))))
theorem bytes_inj {a b : List Int} (ha : BY a) (hb : BY b) (h : eqS (bytesOf a) (bytesOf b) = true) : a = b := by
  have := congrArg ofBytes (eqS_eq' h)
  rwa [ofBytes_bytesOf ha, ofBytes_bytesOf hb] at this
structure EsI (n : Nat) (l : List E) : Prop where
  r : EsR n l
  y : ∀ e ∈ l, EY e
theorem rEnd {n : Nat} (hn : 300 ≤ n) (hn2 : n ≤ 536870912) (b : List Int) (e : Int) : ∃ r', F_pack_Reader_End.f n (b, e, ()) = some ((if e = 0 then if b.length = 0 then 0 else 2 else e), r', ()) := by
  rw [F_pack_Reader_End.e0]
  simp only [hide_eq, bIf_true, bIf_false, F_pack_Reader_End.e1, F_pack_Reader_Error.e0, rfail, bnd_some]
  by_cases h : e = 0
  · subst h
    rw [show ((0 : Int) == 0) = true from rfl, bIf_true, if_pos rfl]
    by_cases h0 : b.length = 0
    · rw [decide_eq_false (by omega), bIf_false, if_pos h0]; exact ⟨_, rfl⟩
    · rw [decide_eq_true (by omega), bIf_true, if_neg h0]; exact ⟨_, rfl⟩
  · rw [show (e == 0) = false from beq_eq_false_iff_ne.2 h, bIf_false, if_neg h]; exact ⟨_, rfl⟩
end Go.Proofs.YtcpkhpboemfglaaGreatDoor

namespace Go.Proofs.YtcpkhpboemfglaaGreatDoor
open Go Go.Va Go.Proofs Go.ChangeShapes Go.WideShapes Go.ChangeAt Go.RowKit
theorem kids : Kids Tryz.prog (· < Tryz.prog.types.size) := kids_rows (by kernel_rfl) (by kernel_rfl)
theorem full : ∀ t e, t < Tryz.prog.types.size → Tryz.prog.underlying t = some (.slice e) → 0 < Tryz.prog.cellsOf e := slices_full_of Tryz.prog (by kernel_rfl)
theorem own : ownKnob Tryz.prog.godebug = none := by kernel_rfl
mutual
theorem bulk_eq {H : Type} : ∀ (d : DataW H), Rows.uptoBulk d = bulk d
  | .lit l => by cases l <;> simp [Rows.uptoBulk, bulk]
  | .nil => by simp [Rows.uptoBulk, bulk]
  | .ptr d => by simp [Rows.uptoBulk, bulk, bulk_eq d]
  | .slice elems spare => by simp [Rows.uptoBulk, bulk, bulkL_eq elems, bulkL_eq spare]
  | .agg parts => by simp [Rows.uptoBulk, bulk, bulkL_eq parts]
  | .iface _ d => by simp [Rows.uptoBulk, bulk, bulk_eq d]
  | .map entries => by simp [Rows.uptoBulk, bulk, bulkE_eq entries]
  | .held _ => by simp [Rows.uptoBulk, bulk]
theorem bulkL_eq {H : Type} : ∀ (l : List (DataW H)), Rows.uptoBulkAll l = bulkL l
  | [] => by simp [Rows.uptoBulkAll, bulkL]
  | d :: r => by simp [Rows.uptoBulkAll, bulkL, bulk_eq d, bulkL_eq r]
theorem bulkE_eq {H : Type} : ∀ (l : List (Lit × DataW H)), Rows.uptoBulkEntries l = bulkE l
  | [] => by simp [Rows.uptoBulkEntries, bulkE]
  | x :: r => by simp [Rows.uptoBulkEntries, bulkE, bulkX_eq x, bulkE_eq r]
theorem bulkX_eq {H : Type} : ∀ (x : Lit × DataW H), Rows.uptoBulkEntry x = bulkX x
  | (l, d) => by cases l <;> simp [Rows.uptoBulkEntry, bulkX, bulk_eq d]
end
theorem small_of {H : Type} {ds gs : List (DataW H)} (h : Rows.uptoSmall H (ds ++ gs) = true) : bulkL ds ≤ 1048576 := by
  have h := of_decide_eq_true h
  rw [bulkL_eq, bulkL_append] at h
  omega
theorem vol_mem {e : Ty} {l : List (Den e)} {x : Den e} (h : x ∈ l) : vol e x ≤ (l.map (vol e)).sum := by
  induction l with
  | nil => simp at h
  | cons y l ih =>
    rw [List.map_cons, List.sum_cons]
    rcases List.mem_cons.1 h with rfl | h
    · omega
    · have := ih h; omega
theorem vol_len {e : Ty} {l : List (Den e)} (h : ∀ x ∈ l, 1 ≤ vol e x) : l.length ≤ (l.map (vol e)).sum := by
  induction l with
  | nil => simp
  | cons y l ih =>
    rw [List.map_cons, List.sum_cons, List.length_cons]
    have h1 := h y List.mem_cons_self
    have h2 := ih (fun x hx => h x (List.mem_cons_of_mem _ hx))
    omega
theorem vol_Tag (t : D_api_Tag) : vol T_api_Tag t = t.1.size + 1 + (t.2.1.size + 1) := rfl
theorem vol_Ver (v : Ver) : vol T_api_Version v = 1 + (1 + (1 + (1 + ((((dig v).map (vol (.int .u8))).sum + 1) + (1 + (vol T_api_Lock (lock v) + ((((tags v).map (vol T_api_Tag)).sum + 1) + 0))))))) := rfl
theorem u64_of {x : Int} (h : IntKind.u64.min ≤ x ∧ x ≤ IntKind.u64.max) : U64 x := by
  have h1 : (0 : Int) ≤ x := h.1
  have h2 : x ≤ 18446744073709551615 := h.2
  exact ⟨h1, by omega⟩
theorem i64_of {x : Int} (h : IntKind.i64.min ≤ x ∧ x ≤ IntKind.i64.max) : I64 x := by
  have h1 : (-9223372036854775808 : Int) ≤ x := h.1
  have h2 : x ≤ 9223372036854775807 := h.2
  exact ⟨h1, by omega⟩
theorem u8_of {x : Int} (h : IntKind.u8.min ≤ x ∧ x ≤ IntKind.u8.max) : 0 ≤ x ∧ x ≤ 255 := ⟨h.1, h.2⟩
theorem Ts_of {n : Nat} {l : List D_api_Tag} (h : (l.map (vol T_api_Tag)).sum < n) : TsB n l := by
  have hl := vol_len (e := T_api_Tag) (l := l) (fun x _ => by rw [vol_Tag]; omega)
  exact ⟨by omega, fun t ht => by have := vol_mem (e := T_api_Tag) ht; rw [vol_Tag] at this; exact ⟨by omega, by omega⟩⟩
theorem V_ofW {n : Nat} {v : Ver} (hw : Wf T_api_Version v) (h : vol T_api_Version v < n) : bdVer n v := by
  rw [vol_Ver] at h
  obtain ⟨w1, w2, w3, w4, w5, w6, w7, w8, w9⟩ := hw
  exact ⟨⟨(u64_of w1).1, (u64_of w4).1, w5.1, Ts_of (by omega)⟩, u64_of w1, i64_of w6, u64_of w4, i64_of w7.2.1, fun x hx => u8_of (w5.2 x hx)⟩
theorem B_ofW {n : Nat} {l : List Int} (hw : Wf (.slice (.int .u8)) l) (h : vol (.slice (.int .u8)) l < n) : BB n l := by
  have h : (l.map (vol (.int .u8))).sum + 1 < n := h
  have hl := vol_len (e := .int .u8) (l := l) (fun x _ => Nat.le_refl 1)
  exact ⟨by omega, fun x hx => u8_of (hw.2 x hx)⟩
theorem acc_eq : (Rows.laid_unicode_utf8_acceptRanges : DataW Unit) = Lib.acceptData := by kernel_rfl
theorem fst_eq : Rows.laid_unicode_utf8_first = Lib.firstData := by kernel_rfl
theorem tabs_of {W : World} (h3 : Lib.VarReads Tryz.prog W "unicode/utf8.first" Lib.firstData) (h4 : Lib.VarReads Tryz.prog W "unicode/utf8.acceptRanges" Lib.acceptData) : Lib.Utf8Tabs 0 1 W :=
  utf8Tabs_of_readsT (U8Types.of196 Tryz.l196) ⟨by kernel_rfl, by kernel_rfl, by kernel_rfl, by kernel_rfl, by kernel_rfl, by kernel_rfl, by kernel_rfl⟩ h3 h4
theorem live_of {W : World} {b o : Nat} {v : Value} (h : W.cell? ⟨b, o, none⟩ = some v) : b < W.heap.size := by
  rcases Nat.lt_or_ge b W.heap.size with hb | hb
  · exact hb
  · have : W.heap[b]? = none := Array.getElem?_eq_none hb
    simp [World.cell?, this] at h
theorem gl_of {W : World} (h : Lib.Utf8Tabs 0 1 W) (hsh : W.ShapedOpen Tryz.prog) : ∀ p ∈ Gl.tab, p.1 < W.heap.size ∧ ∃ cs, p.2 cs ∧ At W ⟨p.1, 0, none⟩ cs := by
  obtain ⟨h0, h1⟩ := h
  intro p hp
  have hp : p = (0, fun cs => cs = firstCells) ∨ p = (1, fun cs => cs = acceptCells) ∨ p = (2, fun cs => ∃ m, cs = [.int .i64 m]) := by simpa [Gl.tab] using hp
  rcases hp with rfl | rfl | rfl
  · refine ⟨live_of (h0 0 (by omega)), _, rfl, rfl, fun j hj => ?_⟩
    have hj2 : j < 256 := by simpa [firstCells, Lib.firstTab] using hj
    simp only [Nat.zero_add]
    rw [h0 j hj2]
    simp [firstCells, Lib.firstTab]
  · refine ⟨live_of (h1 0 (by omega)).1, _, rfl, rfl, fun j hj => ?_⟩
    have hl : acceptCells.length = 32 := by kernel_rfl
    have hj2 : j < 32 := by rw [← hl]; exact hj
    simp only [Nat.zero_add]
    obtain ⟨e0, e1⟩ := acc_get (j / 2) (by omega)
    obtain ⟨c0, c1⟩ := h1 (j / 2) (by omega)
    rcases Nat.mod_two_eq_zero_or_one j with hm | hm
    · have ej : j = 2 * (j / 2) := by omega
      rw [show (⟨1, j, none⟩ : Addr) = ⟨1, 2 * (j / 2), none⟩ by rw [← ej], c0, ← e0, ← ej, List.getElem?_eq_getElem hj]
    · have ej : j = 2 * (j / 2) + 1 := by omega
      rw [show (⟨1, j, none⟩ : Addr) = ⟨1, 2 * (j / 2) + 1, none⟩ by rw [← ej], c1, ← e1, ← ej, List.getElem?_eq_getElem hj]
  · obtain ⟨m, hm⟩ := cell_of_shapedOpen_int (P := Tryz.prog) (g := 2) (t := 3) (zero := #[.int .i64 0]) hsh (of_decide_eq_true (by kernel_rfl)) (by kernel_rfl) rfl (by kernel_rfl) (by kernel_rfl) Tryz.underlying3
    refine ⟨live_of hm, _, ⟨m, rfl⟩, rfl, fun j hj => ?_⟩
    obtain rfl : j = 0 := by simpa using hj
    simpa using hm
noncomputable def laidWorld (os : Os) : World :=
  let w0 := World.holding Tryz.prog os ⟨#[], #[], []⟩
  let put (h : Array Obj) (g : Nat) (cs : Array Value) : Array Obj := h.modify g fun
    | .cells _ t frozen => .cells cs t frozen
    | o => o
  let h1 := put w0.heap 0 firstCells.toArray
  let h2 := put h1 1 acceptCells.toArray
  { w0 with heap := h2 }
set_option maxRecDepth 100000 in
theorem laid_met (os : Os) (args : Array Value) : laidMet Tryz.prog Rows.entryEncodesRow.laid ((laidWorld os).forCall (fun _ _ => 0) ⟨#[], args, []⟩).memory :=
  (LaidIn.of_run (l := [("unicode/utf8.acceptRanges", Lib.acceptData), ("unicode/utf8.first", Lib.firstData)]) [0, 1] 8 (by kernel_rfl) (by kernel_rfl) (by kernel_rfl) (by kernel_rfl)).met
theorem getL {α : Type} {a : Array α} {i : Nat} {x : α} (h : a.toList[i]? = some x) : a[i]? = some x := by simpa using h
theorem and_i {a b : Bool} (ha : a = true) (hb : b = true) : (a && b) = true := by rw [ha, hb]; rfl
theorem factLaid : laidOutB Tryz.pinned.checked.prog = true := by kernel_rfl
theorem factMaps : mapsRowed Tryz.pinned.checked.prog = true := by kernel_rfl
theorem factHeard : Tryz.pinned.checked.prog.stopsHeard = true := by kernel_rfl
theorem factEnter : Tryz.pinned.checked.prog.mayEnter = true := by kernel_rfl
end Go.Proofs.YtcpkhpboemfglaaGreatDoor

namespace Go.Proofs.YtcpkhpboemfglaaGreatDoor
open Go Go.Va Go.Proofs
abbrev Q : Type := D_api_Request
abbrev spotZ : D_api_Spot := ((⟨#[]⟩ : ByteArray), ((⟨#[]⟩ : ByteArray), (0, ())))
def nameB (s : ByteArray) : Bool := decide (s.size ≤ 200) && cleanB s
structure QB (n : Nat) (e : Q) : Prop where
  w : e.2.1.size < n
  b : e.2.2.1.size < n
  y : e.2.2.2.1.size < n
  i : 0 ≤ e.2.2.2.2.1
  bo : e.2.2.2.2.2.1.length < n
  tg : TsB n e.2.2.2.2.2.2.1
  r : RusB n e.2.2.2.2.2.2.2.2.2.2.1
  g : GrsB n e.2.2.2.2.2.2.2.2.2.2.2.1
  ns : e.2.2.2.2.2.2.2.2.2.2.2.2.2.1.length < n
  af : e.2.2.2.2.2.2.2.2.2.2.2.2.2.2.1.size < n
  pr : e.2.2.2.2.2.2.2.2.2.2.2.2.2.2.2.1.size < n
  ma : e.2.2.2.2.2.2.2.2.2.2.2.2.2.2.2.2.1.size < n
  fb : e.2.2.2.2.2.2.2.2.2.2.2.2.2.2.2.2.2.1.1.size < n
  fk : e.2.2.2.2.2.2.2.2.2.2.2.2.2.2.2.2.2.1.2.1.size < n
  fi : 0 ≤ e.2.2.2.2.2.2.2.2.2.2.2.2.2.2.2.2.2.1.2.2.1
theorem hide_n (x : Bool) : hide x = x := by cases x <;> rw [hide_eq]
theorem bIf_t {α : Type} (x y : α) : bIf true x y = x := by rw [bIf_eq, if_pos rfl]
theorem bIf_f {α : Type} (x y : α) : bIf false x y = y := by rw [bIf_eq, if_neg (by decide)]
theorem bnd_s {α β : Type} (a : α) (f : α → Option β) : bnd (some a) f = f a := by rw [bnd_some]
theorem acts_name {n : Nat} (hn2 : n ≤ 536870912) {s : ByteArray} (h : s.size < n) : F_acts_name.f n s = some (nameB s, ()) := by
  rw [F_acts_name.e0, clean42 (by omega) h]
  simp only [hide_eq, bnd_some, bIf_and]
  rw [show (200 : Int) = ((200 : Nat) : Int) from rfl, dec_cast]; rfl
theorem s_may (n : Nat) (R : Q) (ok : Bool) (v : Unit) (b : Bool) : F_acts_strip_may.f n (R, (ok, v)) b = some ((R, (ok && b, v)), ()) := by
  rw [F_acts_strip_may.e0]; cases ok <;> rfl
theorem s_key {n : Nat} (hn2 : n ≤ 536870912) (k : Int) (w : ByteArray) (b : ByteArray) (y : ByteArray) (i : Int) (bo : List Int) (tg : List D_api_Tag) (l : D_api_Lock) (q : Bool) (d : D_api_Default) (r : List D_api_Rule) (g : List D_api_Grant) (nu : Int) (ns : List Int) (af : ByteArray) (pr : ByteArray) (ma : ByteArray) (fr : D_api_Spot) (mx : Int) (u : Unit) (ok : Bool) (v : Unit) (h : y.size < n) : F_acts_strip_key.f n ((k, w, b, y, i, bo, tg, l, q, d, r, g, nu, ns, af, pr, ma, fr, mx, u), (ok, v)) = some (((k, w, b, (⟨#[]⟩ : ByteArray), i, bo, tg, l, q, d, r, g, nu, ns, af, pr, ma, fr, mx, u), (ok && keyB y, v)), ()) := by
  rw [F_acts_strip_key.e0]
  try dsimp only
  rw [key24 h hn2, bnd_some, s_may, bnd_some]
theorem s_id {n : Nat} (hn2 : n ≤ 536870912) (k : Int) (w : ByteArray) (b : ByteArray) (y : ByteArray) (i : Int) (bo : List Int) (tg : List D_api_Tag) (l : D_api_Lock) (q : Bool) (d : D_api_Default) (r : List D_api_Rule) (g : List D_api_Grant) (nu : Int) (ns : List Int) (af : ByteArray) (pr : ByteArray) (ma : ByteArray) (fr : D_api_Spot) (mx : Int) (u : Unit) (ok : Bool) (v : Unit) (le : Int) : F_acts_strip_id.f n ((k, w, b, y, i, bo, tg, l, q, d, r, g, nu, ns, af, pr, ma, fr, mx, u), (ok, v)) le = some (((k, w, b, y, 0, bo, tg, l, q, d, r, g, nu, ns, af, pr, ma, fr, mx, u), (ok && decide (i ≥ le), v)), ()) := by
  rw [F_acts_strip_id.e0]
  try dsimp only
  rw [s_may, bnd_some, hide_eq]
theorem s_body {n : Nat} (hn2 : n ≤ 536870912) (k : Int) (w : ByteArray) (b : ByteArray) (y : ByteArray) (i : Int) (bo : List Int) (tg : List D_api_Tag) (l : D_api_Lock) (q : Bool) (d : D_api_Default) (r : List D_api_Rule) (g : List D_api_Grant) (nu : Int) (ns : List Int) (af : ByteArray) (pr : ByteArray) (ma : ByteArray) (fr : D_api_Spot) (mx : Int) (u : Unit) (ok : Bool) (v : Unit) : F_acts_strip_body.f n ((k, w, b, y, i, bo, tg, l, q, d, r, g, nu, ns, af, pr, ma, fr, mx, u), (ok, v)) = some (((k, w, b, y, i, [], tg, l, q, d, r, g, nu, ns, af, pr, ma, fr, mx, u), (ok && decide (((bo.length : Nat) : Int) ≤ 1024), v)), ()) := by
  rw [F_acts_strip_body.e0]
  try dsimp only
  rw [s_may, bnd_some, hide_eq]
theorem s_tags {n : Nat} (hn2 : n ≤ 536870912) (k : Int) (w : ByteArray) (b : ByteArray) (y : ByteArray) (i : Int) (bo : List Int) (tg : List D_api_Tag) (l : D_api_Lock) (q : Bool) (d : D_api_Default) (r : List D_api_Rule) (g : List D_api_Grant) (nu : Int) (ns : List Int) (af : ByteArray) (pr : ByteArray) (ma : ByteArray) (fr : D_api_Spot) (mx : Int) (u : Unit) (ok : Bool) (v : Unit) (h : TsB n tg) : F_acts_strip_tags.f n ((k, w, b, y, i, bo, tg, l, q, d, r, g, nu, ns, af, pr, ma, fr, mx, u), (ok, v)) = some (((k, w, b, y, i, bo, [], l, q, d, r, g, nu, ns, af, pr, ma, fr, mx, u), (ok && tagsB tg, v)), ()) := by
  rw [F_acts_strip_tags.e0]
  try dsimp only
  rw [tags35 hn2 h, bnd_some, s_may, bnd_some]
theorem s_lock {n : Nat} (hn2 : n ≤ 536870912) (k : Int) (w : ByteArray) (b : ByteArray) (y : ByteArray) (i : Int) (bo : List Int) (tg : List D_api_Tag) (l : D_api_Lock) (q : Bool) (d : D_api_Default) (r : List D_api_Rule) (g : List D_api_Grant) (nu : Int) (ns : List Int) (af : ByteArray) (pr : ByteArray) (ma : ByteArray) (fr : D_api_Spot) (mx : Int) (u : Unit) (ok : Bool) (v : Unit) (c : Bool) : F_acts_strip_lock.f n ((k, w, b, y, i, bo, tg, l, q, d, r, g, nu, ns, af, pr, ma, fr, mx, u), (ok, v)) c = some (((k, w, b, y, i, bo, tg, lockZ, q, d, r, g, nu, ns, af, pr, ma, fr, mx, u), (ok && (lockB l && c), v)), ()) := by
  rw [F_acts_strip_lock.e0]
  try dsimp only
  rw [lock34, bnd_some, s_may, s_may, bnd_some, bnd_some]; cases lockB l <;> rfl
theorem s_from {n : Nat} (hn2 : n ≤ 536870912) (k : Int) (w : ByteArray) (b : ByteArray) (y : ByteArray) (i : Int) (bo : List Int) (tg : List D_api_Tag) (l : D_api_Lock) (q : Bool) (d : D_api_Default) (r : List D_api_Rule) (g : List D_api_Grant) (nu : Int) (ns : List Int) (af : ByteArray) (pr : ByteArray) (ma : ByteArray) (fr : D_api_Spot) (mx : Int) (u : Unit) (ok : Bool) (v : Unit) (c : Bool) : F_acts_strip_from.f n ((k, w, b, y, i, bo, tg, l, q, d, r, g, nu, ns, af, pr, ma, fr, mx, u), (ok, v)) c = some (((k, w, b, y, i, bo, tg, l, q, d, r, g, nu, ns, af, pr, ma, spotZ, mx, u), (ok && c, v)), ()) := by
  rw [F_acts_strip_from.e0]
  try dsimp only
  rw [s_may, bnd_some]
theorem s_page {n : Nat} (hn2 : n ≤ 536870912) (k : Int) (w : ByteArray) (b : ByteArray) (y : ByteArray) (i : Int) (bo : List Int) (tg : List D_api_Tag) (l : D_api_Lock) (q : Bool) (d : D_api_Default) (r : List D_api_Rule) (g : List D_api_Grant) (nu : Int) (ns : List Int) (af : ByteArray) (pr : ByteArray) (ma : ByteArray) (fr : D_api_Spot) (mx : Int) (u : Unit) (ok : Bool) (v : Unit) (h : pr.size < n) : F_acts_strip_page.f n ((k, w, b, y, i, bo, tg, l, q, d, r, g, nu, ns, af, pr, ma, fr, mx, u), (ok, v)) = some (((k, w, b, y, i, bo, tg, l, q, d, r, g, nu, ns, af, (⟨#[]⟩ : ByteArray), ma, fr, 0, u), (ok && (nameB pr && (decide (mx ≥ 1) && decide (mx ≤ 100))), v)), ()) := by
  rw [F_acts_strip_page.e0]
  try dsimp only
  rw [acts_name hn2 h, bnd_some]; simp only [s_may, bnd_some, F_acts_strip_page.e1, hide_eq]; cases nameB pr <;> cases decide (mx ≥ 1) <;> rfl
theorem s_bypass (n : Nat) (k : Int) (w : ByteArray) (b : ByteArray) (y : ByteArray) (i : Int) (bo : List Int) (tg : List D_api_Tag) (l : D_api_Lock) (q : Bool) (d : D_api_Default) (r : List D_api_Rule) (g : List D_api_Grant) (nu : Int) (ns : List Int) (af : ByteArray) (pr : ByteArray) (ma : ByteArray) (fr : D_api_Spot) (mx : Int) (u : Unit) (ok : Bool) (v : Unit) : F_acts_strip_bypass.f n ((k, w, b, y, i, bo, tg, l, q, d, r, g, nu, ns, af, pr, ma, fr, mx, u), (ok, v)) = some (((k, w, b, y, i, bo, tg, l, false, d, r, g, nu, ns, af, pr, ma, fr, mx, u), (ok, v)), ()) := by
  rw [F_acts_strip_bypass.e0]
theorem s_bare (n : Nat) (k : Int) (w : ByteArray) (b : ByteArray) (y : ByteArray) (i : Int) (bo : List Int) (tg : List D_api_Tag) (l : D_api_Lock) (q : Bool) (d : D_api_Default) (r : List D_api_Rule) (g : List D_api_Grant) (nu : Int) (ns : List Int) (af : ByteArray) (pr : ByteArray) (ma : ByteArray) (fr : D_api_Spot) (mx : Int) (u : Unit) : F_acts_bare.f n (k, w, b, y, i, bo, tg, l, q, d, r, g, nu, ns, af, pr, ma, fr, mx, u) = some (eqS y ⟨#[]⟩ && ((i == 0) && ((((bo.length : Nat) : Int) == 0) && ((((tg.length : Nat) : Int) == 0) && (eqD T_api_Lock l lockZ && ((!q) && (eqD T_api_Default d (0, (0, ())) && ((((r.length : Nat) : Int) == 0) && ((((g.length : Nat) : Int) == 0) && ((nu == 0) && ((((ns.length : Nat) : Int) == 0) && (eqS af ⟨#[]⟩ && (eqS pr ⟨#[]⟩ && (eqS ma ⟨#[]⟩ && (eqD T_api_Spot fr spotZ && ((mx == 0)))))))))))))))), ()) := by
  rw [F_acts_bare.e0]
  simp only [hide_eq, bIf_and]
theorem own_7 {n : Nat} (h3 : 300 ≤ n) (hn2 : n ≤ 536870912) (w : ByteArray) (b : ByteArray) (y : ByteArray) (i : Int) (bo : List Int) (tg : List D_api_Tag) (l : D_api_Lock) (q : Bool) (d : D_api_Default) (r : List D_api_Rule) (g : List D_api_Grant) (nu : Int) (ns : List Int) (af : ByteArray) (pr : ByteArray) (ma : ByteArray) (fr : D_api_Spot) (mx : Int) (u : Unit) (he : QB n (7, w, b, y, i, bo, tg, l, q, d, r, g, nu, ns, af, pr, ma, fr, mx, u)) : F_acts_strip_own.f n ((7, w, b, y, i, bo, tg, l, q, d, r, g, nu, ns, af, pr, ma, fr, mx, u), (true, ())) = some (((7, w, b, (⟨#[]⟩ : ByteArray), 0, bo, tg, l, q, d, r, g, nu, ns, af, pr, ma, fr, mx, u), (true && keyB y && decide (i ≥ 0), ())), ()) := by
  rw [F_acts_strip_own.e0]
  simp only [F_acts_strip_own.e1, F_acts_strip_own.e2, F_acts_strip_own.e3, F_acts_strip_own.e4, hide_n, Int.reduceBEq, bIf_t, bIf_f, bnd_s, s_may, mode_Good, entry_Rules hn2 he.r, entry_Grants hn2 he.g, s_key hn2 (h := he.y), s_id hn2, s_body hn2, s_tags hn2 (h := he.tg), s_lock hn2, s_from hn2, s_page hn2 (h := he.pr), s_bypass, acts_name hn2 he.ma, acts_name hn2 he.af, acts_name hn2 he.fk, label_Bucket h3, key24 he.fk hn2]
end Go.Proofs.YtcpkhpboemfglaaGreatDoor

namespace Go.Proofs.YtcpkhpboemfglaaGreatDoor
open Go Go.Va Go.Proofs
abbrev Row : Type := D_api_Row
abbrev RP : Type := D_api_Reply
def noneB (v : Ver) : Bool := sameV v verZ
theorem wire_none {n : Nat} (hn2 : n ≤ 536870912) {v : Ver} (h : (tags v).length < n) : F_wire_none.f n v = some (noneB v, ()) := by
  rw [F_wire_none.e0, sameV40 hn2 h, bnd_some]; rfl
theorem ref26_none {n : Nat} (hn2 : n ≤ 536870912) {v : Ver} (h : (tags v).length < n) : F_ref26_none.f n v = some (noneB v, ()) := by
  rw [F_ref26_none.e0, sameV17 hn2 h, bnd_some]; rfl
def sameRw (a b : Row) : Bool := eqS a.1 b.1 && ((a.2.1 == b.2.1) && ((a.2.2.2.1 == b.2.2.2.1) && sameV a.2.2.1 b.2.2.1))
def RwB (n : Nat) (x : Row) : Prop := x.1.size < n ∧ VB n x.2.2.1
theorem wire_sameRow {n : Nat} (hn2 : n ≤ 536870912) {a b : Row} (h : RwB n a) : F_wire_sameRow.f n a b = some (sameRw a b, ()) := by
  rw [F_wire_sameRow.e0, sameV40 hn2 h.2.tags.1]
  simp only [hide_n, bnd_s, bIf_and]; rfl
theorem eqRows {n : Nat} (hn : n ≤ 536870912) {a b : List Row} (hlen : a.length < n) (ha : ∀ x ∈ a, RwB n x) : F_slices_EqualFunc_Row.f n a b = some (allB sameRw a b, ()) := by
  rw [F_slices_EqualFunc_Row.e0, hide_eq, ne_len]
  by_cases h : a.length = b.length
  · have := zip_loop (Va.dflt T_api_Row) sameRw (fun m k => F_slices_EqualFunc_Row.J1 n m (b, a, ((a.length : Nat) : Int), k, ())) h
      (fun m k hk => by
        try dsimp only
        rw [F_slices_EqualFunc_Row.e1, hide_eq, decide_eq_true (by omega), bIf_true, gIf_pos ⟨by omega, by omega⟩, gIf_pos ⟨by omega, by omega⟩, Int.toNat_natCast, wire_sameRow hn (ha _ (getD_memA hk)), cast_up k (by omega), bnd_some]
        cases sameRw _ _ <;> rfl)
      (fun m => by
        try dsimp only
        rw [F_slices_EqualFunc_Row.e1, hide_eq, decide_eq_false (by omega), bIf_false, F_slices_EqualFunc_Row.e2]) n 0 (by omega) (by omega)
    try dsimp only at this
    rw [show ((0 : Nat) : Int) = 0 from rfl] at this
    rw [decide_eq_true h, Bool.not_true, bIf_false, this]; rfl
  · rw [decide_eq_false h, Bool.not_false, bIf_true, allB_len a b h]
theorem eqStrs {n : Nat} (hn : n ≤ 536870912) {a b : List ByteArray} (hlen : a.length < n) : F_slices_Equal_string.f n a b = some (allB eqS a b, ()) := by
  rw [F_slices_Equal_string.e0, hide_eq, ne_len]
  by_cases h : a.length = b.length
  · have := zip_loop (⟨#[]⟩ : ByteArray) eqS (fun m k => F_slices_Equal_string.J1 n m (a, b, ((a.length : Nat) : Int), k, ())) h
      (fun m k hk => by
        try dsimp only
        rw [F_slices_Equal_string.e1, hide_eq, decide_eq_true (by omega), bIf_true, gIf_pos ⟨by omega, by omega⟩, gIf_pos ⟨by omega, by omega⟩, Int.toNat_natCast, cast_up k (by omega), hide_eq]
        cases eqS _ _ <;> rfl)
      (fun m => by
        try dsimp only
        rw [F_slices_Equal_string.e1, hide_eq, decide_eq_false (by omega), bIf_false, F_slices_Equal_string.e2]) n 0 (by omega) (by omega)
    try dsimp only at this
    rw [show ((0 : Nat) : Int) = 0 from rfl] at this
    rw [decide_eq_true h, Bool.not_true, bIf_false, this]; rfl
  · rw [decide_eq_false h, Bool.not_false, bIf_true, allB_len a b h]
def sameN (x y : Int) : Bool := x == y
theorem eqInts {n : Nat} (hn : n ≤ 536870912) {a b : List Int} (hlen : a.length < n) : F_slices_Equal_int.f n a b = some (allB sameN a b, ()) := by
  rw [F_slices_Equal_int.e0, hide_eq, ne_len]
  by_cases h : a.length = b.length
  · have := zip_loop (0 : Int) sameN (fun m k => F_slices_Equal_int.J1 n m (a, b, ((a.length : Nat) : Int), k, ())) h
      (fun m k hk => by
        try dsimp only
        rw [F_slices_Equal_int.e1, hide_eq, decide_eq_true (by omega), bIf_true, gIf_pos ⟨by omega, by omega⟩, gIf_pos ⟨by omega, by omega⟩, Int.toNat_natCast, cast_up k (by omega), hide_eq, bne]
        unfold sameN
        generalize ((_ : Int) == _) = z; cases z <;> rfl)
      (fun m => by
        try dsimp only
        rw [F_slices_Equal_int.e1, hide_eq, decide_eq_false (by omega), bIf_false, F_slices_Equal_int.e2]) n 0 (by omega) (by omega)
    try dsimp only at this
    rw [show ((0 : Nat) : Int) = 0 from rfl] at this
    rw [decide_eq_true h, Bool.not_true, bIf_false, this]; rfl
  · rw [decide_eq_false h, Bool.not_false, bIf_true, allB_len a b h]
theorem ref23_Same {n : Nat} (hn : n ≤ 536870912) {a b : List Row} (hlen : a.length < n) (ha : ∀ x ∈ a, RwB n x) : F_ref23_Same.f n a b = some (allB sameRw a b, ()) := by
  rw [F_ref23_Same.e0, hide_eq, ne_len]
  by_cases h : a.length = b.length
  · have := zip_loop (Va.dflt T_api_Row) sameRw (fun m k => F_ref23_Same.J1 n m (a, b, k, ())) h
      (fun m k hk => by
        have hr := ha _ (getD_memA (d := Va.dflt T_api_Row) hk)
        have g1 : (0 ≤ (k : Int) ∧ (k : Int) < ((a.length : Nat) : Int)) := ⟨by omega, by omega⟩
        have g2 : (0 ≤ (k : Int) ∧ (k : Int) < ((b.length : Nat) : Int)) := ⟨by omega, by omega⟩
        try dsimp only
        rw [F_ref23_Same.e1, hide_eq, decide_eq_true (by omega), bIf_true]
        simp only [gIf_pos g1, gIf_pos g2, Int.toNat_natCast, F_ref23_Same.e2, cast_up k (by omega), hide_eq]
        generalize a.getD k (Va.dflt T_api_Row) = x at hr
        generalize b.getD k (Va.dflt T_api_Row) = y
        rw [sameV17 hn hr.2.tags.1, bnd_some]
        unfold sameRw
        cases eqS x.1 y.1 <;> cases (x.2.1 == y.2.1) <;> cases (x.2.2.2.1 == y.2.2.2.1) <;> cases sameV x.2.2.1 y.2.2.1 <;> rfl)
      (fun m => by
        try dsimp only
        rw [F_ref23_Same.e1, hide_eq, decide_eq_false (by omega), bIf_false, F_ref23_Same.e3]) n 0 (by omega) (by omega)
    try dsimp only at this
    rw [show ((0 : Nat) : Int) = 0 from rfl] at this
    rw [decide_eq_true h, Bool.not_true, bIf_false, this]; rfl
  · rw [decide_eq_false h, Bool.not_false, bIf_true, allB_len a b h]
structure RB (n : Nat) (r : RP) : Prop where
  body : r.2.2.1.length < n
  ver : VB n r.2.2.2.1
  rows : r.2.2.2.2.1.length < n
  row : ∀ x ∈ r.2.2.2.2.1, RwB n x
  nums : r.2.2.2.2.2.2.1.length < n
  names : r.2.2.2.2.2.2.2.1.length < n
def alikeB (a b : RP) : Bool := (a.1 == b.1) && ((a.2.1 == b.2.1) && ((a.2.2.2.2.2.1 == b.2.2.2.2.2.1) && (eqS (bytesOf a.2.2.1) (bytesOf b.2.2.1) && (sameV a.2.2.2.1 b.2.2.2.1 && (allB sameRw a.2.2.2.2.1 b.2.2.2.2.1 && (allB sameN a.2.2.2.2.2.2.1 b.2.2.2.2.2.2.1 && allB eqS a.2.2.2.2.2.2.2.1 b.2.2.2.2.2.2.2.1))))))
theorem wire_Alike {n : Nat} (hn2 : n ≤ 536870912) {a b : RP} (ha : RB n a) : F_wire_Alike.f n a b = some (alikeB a b, ()) := by
  rw [F_wire_Alike.e0, F_bytes_Equal.e0, sameV40 hn2 ha.ver.tags.1, eqRows hn2 ha.rows ha.row, eqInts hn2 ha.nums, eqStrs hn2 ha.names]
  simp only [hide_n, bnd_s, bIf_and]
  rfl
theorem ref24_Alike {n : Nat} (hn2 : n ≤ 536870912) {a b : RP} (ha : RB n a) : F_ref24_Alike.f n a b = some (alikeB a b, ()) := by
  have hln := ha.nums
  have hls := ha.names
  have h2 : a.2.2.2.2.2.2.2.1.length = b.2.2.2.2.2.2.2.1.length → F_ref24_Alike.J3 n (a, b, ()) = some (allB eqS a.2.2.2.2.2.2.2.1 b.2.2.2.2.2.2.2.1, ()) := fun h => by
    rw [F_ref24_Alike.e3]
    have := zip_loop (⟨#[]⟩ : ByteArray) eqS (fun m k => F_ref24_Alike.J4 n m (k, a, b, ())) h
      (fun m k hk => by
        try dsimp only
        rw [F_ref24_Alike.e4, hide_eq, decide_eq_true (by omega), bIf_true, gIf_pos ⟨by omega, by omega⟩, gIf_pos ⟨by omega, by omega⟩, Int.toNat_natCast, cast_up k (by omega), hide_eq]
        cases eqS _ _ <;> rfl)
      (fun m => by
        try dsimp only
        rw [F_ref24_Alike.e4, hide_eq, decide_eq_false (by omega), bIf_false, F_ref24_Alike.e5]) n 0 (by omega) (by omega)
    try dsimp only at this
    rw [show ((0 : Nat) : Int) = 0 from rfl, List.drop_zero, List.drop_zero] at this
    exact this
  have h1 : a.2.2.2.2.2.2.1.length = b.2.2.2.2.2.2.1.length → a.2.2.2.2.2.2.2.1.length = b.2.2.2.2.2.2.2.1.length → F_ref24_Alike.J1 n (a, b, ()) = some (allB sameN a.2.2.2.2.2.2.1 b.2.2.2.2.2.2.1 && allB eqS a.2.2.2.2.2.2.2.1 b.2.2.2.2.2.2.2.1, ()) := fun h h' => by
    rw [F_ref24_Alike.e1]
    have hz : ∀ (m k : Nat), k ≤ a.2.2.2.2.2.2.1.length → a.2.2.2.2.2.2.1.length - k < m → F_ref24_Alike.J2 n m ((k : Int), a, b, ()) = some (allB sameN (a.2.2.2.2.2.2.1.drop k) (b.2.2.2.2.2.2.1.drop k) && allB eqS a.2.2.2.2.2.2.2.1 b.2.2.2.2.2.2.2.1, ()) := by
      intro m
      induction m with
      | zero => intro k _ h; omega
      | succ m ih =>
        intro k hk hm
        rw [F_ref24_Alike.e2, hide_eq]
        by_cases hlt : k < a.2.2.2.2.2.2.1.length
        · rw [decide_eq_true (by omega), bIf_true, gIf_pos ⟨by omega, by omega⟩, gIf_pos ⟨by omega, by omega⟩, Int.toNat_natCast, cast_up k (by omega), hide_eq, bne, ih (k + 1) (by omega) (by omega), allB_step 0 hlt (by omega)]
          change bIf (!sameN _ _) _ _ = _
          generalize sameN _ _ = z; cases z <;> rfl
        · rw [decide_eq_false (by omega), bIf_false, h2 h', allB_end (by omega) (by omega)]; rfl
    have := hz n 0 (by omega) (by omega)
    rw [show ((0 : Nat) : Int) = 0 from rfl, List.drop_zero, List.drop_zero] at this
    exact this
  rw [F_ref24_Alike.e0, sameV17 hn2 ha.ver.tags.1, ref23_Same hn2 ha.rows ha.row]
  simp only [hide_n, bnd_s, ne_len]
  unfold alikeB
  by_cases h : a.2.2.2.2.2.2.1.length = b.2.2.2.2.2.2.1.length
  · by_cases h' : a.2.2.2.2.2.2.2.1.length = b.2.2.2.2.2.2.2.1.length
    · rw [h1 h h', decide_eq_true h, decide_eq_true h']
      simp only [Bool.not_true, bIf_f, bIf_nand, bne, Bool.not_not]
    · rw [decide_eq_false h', allB_len _ _ h']
      simp only [Bool.not_false, bIf_t, bIf_same, bIf_nand, bne, Bool.not_not, Bool.and_false]
  · rw [decide_eq_false h, allB_len _ _ h]
    simp only [Bool.not_false, bIf_t, bIf_same, bIf_nand, bne, Bool.not_not, Bool.and_false, Bool.false_and]
end Go.Proofs.YtcpkhpboemfglaaGreatDoor

namespace Go.Proofs.YtcpkhpboemfglaaGreatDoor
open Go Go.Va Go.Proofs
def rowB (x : Row) : Bool := decide (x.1.size ≤ 200) && (if x.2.1 = true then !x.2.2.2.1 && noneB x.2.2.1 else verB x.2.2.1)
def notNeg (x : Int) : Bool := decide (0 ≤ x)
def nameLen (s : ByteArray) : Bool := decide (s.size ≤ 63)
abbrev errRP (e : Int) : RP := (e, (0, ([], (verZ, ([], (false, ([], ([], ()))))))))
def fineRP (r : RP) : Bool := decide (r.2.2.1.length ≤ 16384) && ((noneB r.2.2.2.1 || verB r.2.2.2.1) && (decide (r.2.2.2.2.1.length ≤ 100) && (decide (r.2.2.2.2.2.2.1.length ≤ 8) && (decide (r.2.2.2.2.2.2.2.1.length ≤ 16) && (r.2.2.2.2.1.all rowB && (r.2.2.2.2.2.2.1.all notNeg && r.2.2.2.2.2.2.2.1.all nameLen))))))
def goodRP (r : RP) : Bool := decide (0 ≤ r.1) && (decide (r.1 ≤ 18) && if r.1 = 0 then fineRP r else alikeB r (errRP r.1))
theorem wire_goodRow {n : Nat} (hn2 : n ≤ 536870912) {x : Row} (h : RwB n x) : F_wire_goodRow.f n x = some (rowB x, ()) := by
  rw [F_wire_goodRow.e0, wire_none hn2 h.2.tags.1, ver18 hn2 h.2]
  simp only [hide_n, bnd_s]
  have a1 : decide ((x.1.size : Int) > 200) = !decide (x.1.size ≤ 200) := dec_not (by omega)
  rw [a1]
  unfold rowB
  cases decide (x.1.size ≤ 200) <;> cases x.2.1 <;> cases x.2.2.2.1 <;> cases noneB x.2.2.1 <;> cases verB x.2.2.1 <;> rfl
theorem has_rows {n : Nat} (hn2 : n ≤ 536870912) {l : List Row} (hlen : l.length < n) (hl : ∀ x ∈ l, RwB n x) : F_slices_ContainsFunc_Row.f n l = some (!l.all rowB, ()) := by
  obtain ⟨i, h1, h2⟩ := idx_loop (l := l) (Va.dflt T_api_Row) (fun r => !rowB r) (fun m k => F_slices_IndexFunc_Row.J1 n m (l, ((l.length : Nat) : Int), k, ()))
    (fun m k hk => by
      try dsimp only
      rw [F_slices_IndexFunc_Row.e1, hide_eq, decide_eq_true (by omega), bIf_true, gIf_pos ⟨by omega, by omega⟩, Int.toNat_natCast, F_wire_good_1.e0, wire_goodRow hn2 (hl _ (getD_memA hk)), cast_up k (by omega)]; rfl)
    (fun m => by
      try dsimp only
      rw [F_slices_IndexFunc_Row.e1, hide_eq, decide_eq_false (by omega), bIf_false, F_slices_IndexFunc_Row.e2]) n 0 (by omega) (by omega)
  rw [F_slices_ContainsFunc_Row.e0, F_slices_IndexFunc_Row.e0]
  try dsimp only at h1
  rw [show ((0 : Nat) : Int) = 0 from rfl] at h1
  rw [h1]
  simp only [hide_eq, bnd_some]
  rw [h2, List.drop_zero, ← any_not, Bool.not_not]
theorem has_ints {n : Nat} (hn2 : n ≤ 536870912) {l : List Int} (hlen : l.length < n) : F_slices_ContainsFunc_int.f n l = some (!l.all notNeg, ()) := by
  obtain ⟨i, h1, h2⟩ := idx_loop (l := l) 0 (fun r => !notNeg r) (fun m k => F_slices_IndexFunc_int.J1 n m (l, ((l.length : Nat) : Int), k, ()))
    (fun m k hk => by
      try dsimp only
      have a1 : ∀ x : Int, decide (x < 0) = !notNeg x := fun x => dec_not (by omega)
      rw [F_slices_IndexFunc_int.e1, hide_eq, decide_eq_true (by omega), bIf_true, gIf_pos ⟨by omega, by omega⟩, Int.toNat_natCast, F_wire_good_2.e0, hide_eq, a1, cast_up k (by omega)]; rfl)
    (fun m => by
      try dsimp only
      rw [F_slices_IndexFunc_int.e1, hide_eq, decide_eq_false (by omega), bIf_false, F_slices_IndexFunc_int.e2]) n 0 (by omega) (by omega)
  rw [F_slices_ContainsFunc_int.e0, F_slices_IndexFunc_int.e0]
  try dsimp only at h1
  rw [show ((0 : Nat) : Int) = 0 from rfl] at h1
  rw [h1]
  simp only [hide_eq, bnd_some]
  rw [h2, List.drop_zero, ← any_not, Bool.not_not]
theorem has_strs {n : Nat} (hn2 : n ≤ 536870912) {l : List ByteArray} (hlen : l.length < n) : F_slices_ContainsFunc_string.f n l = some (!l.all nameLen, ()) := by
  obtain ⟨i, h1, h2⟩ := idx_loop (l := l) (⟨#[]⟩ : ByteArray) (fun r => !nameLen r) (fun m k => F_slices_IndexFunc_string.J1 n m (l, ((l.length : Nat) : Int), k, ()))
    (fun m k hk => by
      try dsimp only
      have a1 : ∀ x : ByteArray, decide ((x.size : Int) > 63) = !nameLen x := fun x => dec_not (by omega)
      rw [F_slices_IndexFunc_string.e1, hide_eq, decide_eq_true (by omega), bIf_true, gIf_pos ⟨by omega, by omega⟩, Int.toNat_natCast, F_wire_good_3.e0, hide_eq, a1, cast_up k (by omega)]; rfl)
    (fun m => by
      try dsimp only
      rw [F_slices_IndexFunc_string.e1, hide_eq, decide_eq_false (by omega), bIf_false, F_slices_IndexFunc_string.e2]) n 0 (by omega) (by omega)
  rw [F_slices_ContainsFunc_string.e0, F_slices_IndexFunc_string.e0]
  try dsimp only at h1
  rw [show ((0 : Nat) : Int) = 0 from rfl] at h1
  rw [h1]
  simp only [hide_eq, bnd_some]
  rw [h2, List.drop_zero, ← any_not, Bool.not_not]
theorem good_head (r : RP) (X Y : Option (Bool × Unit)) (hX : r.1 ≠ 0 → X = some (alikeB r (errRP r.1), ())) (hY : r.1 = 0 → Y = some (fineRP r, ())) :
    bIf (decide (r.1 < 0)) (some (false, ())) (bIf (decide (r.1 > 18)) (some (false, ())) (bIf (r.1 != 0) X Y)) = some (goodRP r, ()) := by
  have a1 : decide (r.1 < 0) = !decide (0 ≤ r.1) := dec_not (by omega)
  have a2 : decide (r.1 > 18) = !decide (r.1 ≤ 18) := dec_not (by omega)
  rw [a1, a2]
  unfold goodRP
  by_cases h : r.1 = 0
  · rw [hY h, if_pos h, show (r.1 != 0) = false by rw [h]; rfl]
    simp only [bIf_f, bIf_nand, Bool.not_not]
  · rw [hX h, if_neg h, show (r.1 != 0) = true by rw [bne, beq_eq_false_iff_ne.2 h]; rfl]
    simp only [bIf_t, bIf_nand, Bool.not_not]
theorem wire_good {n : Nat} (hn2 : n ≤ 536870912) {r : RP} (ha : RB n r) : F_wire_good.f n r = some (goodRP r, ()) := by
  rw [F_wire_good.e0]
  simp only [hide_n, F_wire_good.e1]
  refine good_head r _ _ (fun h => ?_) (fun h => ?_)
  · change (bnd (F_wire_Alike.f n r (errRP r.1)) _) = _
    rw [wire_Alike hn2 ha, bnd_some]
  · rw [wire_none hn2 ha.ver.tags.1, ver18 hn2 ha.ver]
    simp only [F_wire_good.e2, F_wire_good.e3, hide_n, bnd_s, has_rows hn2 ha.rows ha.row, has_ints hn2 ha.nums, has_strs hn2 ha.names]
    have a1 : decide (((r.2.2.1.length : Nat) : Int) > 16384) = !decide (r.2.2.1.length ≤ 16384) := dec_not (by omega)
    have a2 : decide (((r.2.2.2.2.1.length : Nat) : Int) > 100) = !decide (r.2.2.2.2.1.length ≤ 100) := dec_not (by omega)
    have a3 : decide (((r.2.2.2.2.2.2.1.length : Nat) : Int) > 8) = !decide (r.2.2.2.2.2.2.1.length ≤ 8) := dec_not (by omega)
    have a4 : decide (((r.2.2.2.2.2.2.2.1.length : Nat) : Int) > 16) = !decide (r.2.2.2.2.2.2.2.1.length ≤ 16) := dec_not (by omega)
    rw [a1, a2, a3, a4]
    unfold fineRP
    simp only [Bool.not_not, bIf_and, bIf_nand]
    cases noneB r.2.2.2.1 <;> cases verB r.2.2.2.1 <;> simp only [Bool.not_true, Bool.not_false, bIf_t, bIf_f, bIf_nand, bIf_same, Bool.not_not, Bool.or_self, Bool.true_or, Bool.or_true, Bool.false_and, Bool.true_and, Bool.and_false, Bool.or_false, Bool.false_or]
theorem ref26_good {n : Nat} (hn : 300 ≤ n) (hn2 : n ≤ 536870912) {r : RP} (ha : RB n r) : F_ref26_good.f n r = some (goodRP r, ()) := by
  have hl1 := ha.rows
  have hl2 := ha.nums
  have hl3 := ha.names
  have h8 : F_ref26_good.J7 n (r, ()) = some (r.2.2.2.2.2.2.2.1.all nameLen, ()) := by
    have := all_loop (l := r.2.2.2.2.2.2.2.1) (⟨#[]⟩ : ByteArray) nameLen (fun m k => F_ref26_good.J8 n m (k, r, ())) (some (true, ())) (some (false, ()))
      (fun m k hk => by
        try dsimp only
        have a1 : ∀ x : ByteArray, decide ((x.size : Int) > 63) = !nameLen x := fun x => dec_not (by omega)
        rw [F_ref26_good.e8, hide_eq, decide_eq_true (by omega), bIf_true, gIf_pos ⟨by omega, by omega⟩, Int.toNat_natCast, hide_eq, a1, cast_up k (by omega)]
        generalize nameLen _ = z; cases z <;> rfl)
      (fun m => by
        try dsimp only
        rw [F_ref26_good.e8, hide_eq, decide_eq_false (by omega), bIf_false, F_ref26_good.e9]) n 0 (by omega) (by omega)
    try dsimp only at this
    rw [show ((0 : Nat) : Int) = 0 from rfl, List.drop_zero, bIf_bool] at this
    rw [F_ref26_good.e7, this]
  have h6 : F_ref26_good.J5 n (r, ()) = some (r.2.2.2.2.2.2.1.all notNeg && r.2.2.2.2.2.2.2.1.all nameLen, ()) := by
    have := all_loop (l := r.2.2.2.2.2.2.1) 0 notNeg (fun m k => F_ref26_good.J6 n m (k, r, ())) (F_ref26_good.J7 n (r, ())) (some (false, ()))
      (fun m k hk => by
        try dsimp only
        have a1 : ∀ x : Int, decide (x < 0) = !notNeg x := fun x => dec_not (by omega)
        rw [F_ref26_good.e6, hide_eq, decide_eq_true (by omega), bIf_true, gIf_pos ⟨by omega, by omega⟩, Int.toNat_natCast, hide_eq, a1, cast_up k (by omega)]
        generalize notNeg _ = z; cases z <;> rfl)
      (fun m => by
        try dsimp only
        rw [F_ref26_good.e6, hide_eq, decide_eq_false (by omega), bIf_false]) n 0 (by omega) (by omega)
    try dsimp only at this
    rw [show ((0 : Nat) : Int) = 0 from rfl, List.drop_zero, h8, bIf_and] at this
    rw [F_ref26_good.e5, this]
  have h3 : F_ref26_good.J2 n (r, ()) = some (r.2.2.2.2.1.all rowB && (r.2.2.2.2.2.2.1.all notNeg && r.2.2.2.2.2.2.2.1.all nameLen), ()) := by
    have := all_loop (l := r.2.2.2.2.1) (Va.dflt T_api_Row) rowB (fun m k => F_ref26_good.J3 n m (k, r, ())) (F_ref26_good.J5 n (r, ())) (some (false, ()))
      (fun m k hk => by
        have hr := ha.row _ (getD_memA (d := Va.dflt T_api_Row) hk)
        try dsimp only
        rw [F_ref26_good.e3, hide_eq, decide_eq_true (by omega), bIf_true, gIf_pos ⟨by omega, by omega⟩, Int.toNat_natCast]
        generalize hx : r.2.2.2.2.1.getD k (Va.dflt T_api_Row) = x at hr
        rw [ref26_none hn2 hr.2.tags.1, ver19 hn2 (by omega) hr.2]
        simp only [hide_n, bnd_s, F_ref26_good.e4, cast_up k (by omega)]
        have a1 : decide ((x.1.size : Int) > 200) = !decide (x.1.size ≤ 200) := dec_not (by omega)
        rw [a1]
        unfold rowB
        cases decide (x.1.size ≤ 200) <;> cases x.2.1 <;> cases x.2.2.2.1 <;> cases noneB x.2.2.1 <;> cases verB x.2.2.1 <;> rfl)
      (fun m => by
        try dsimp only
        rw [F_ref26_good.e3, hide_eq, decide_eq_false (by omega), bIf_false]) n 0 (by omega) (by omega)
    try dsimp only at this
    rw [show ((0 : Nat) : Int) = 0 from rfl, List.drop_zero, h6, bIf_and] at this
    rw [F_ref26_good.e2, this]
  rw [F_ref26_good.e0]
  simp only [hide_n, F_ref26_good.e1]
  refine good_head r _ _ (fun h => ?_) (fun h => ?_)
  · change (bnd (F_ref24_Alike.f n r (errRP r.1)) _) = _
    rw [ref24_Alike hn2 ha, bnd_some]
  · rw [ref26_none hn2 ha.ver.tags.1, ver19 hn2 (by omega) ha.ver]
    simp only [hide_n, bnd_s, h3]
    have a1 : decide (((r.2.2.1.length : Nat) : Int) > 16384) = !decide (r.2.2.1.length ≤ 16384) := dec_not (by omega)
    have a2 : decide (((r.2.2.2.2.1.length : Nat) : Int) > 100) = !decide (r.2.2.2.2.1.length ≤ 100) := dec_not (by omega)
    have a3 : decide (((r.2.2.2.2.2.2.1.length : Nat) : Int) > 8) = !decide (r.2.2.2.2.2.2.1.length ≤ 8) := dec_not (by omega)
    have a4 : decide (((r.2.2.2.2.2.2.2.1.length : Nat) : Int) > 16) = !decide (r.2.2.2.2.2.2.2.1.length ≤ 16) := dec_not (by omega)
    rw [a1, a2, a3, a4]
    unfold fineRP
    simp only [Bool.not_not, bIf_and, bIf_nand]
    cases noneB r.2.2.2.1 <;> cases verB r.2.2.2.1 <;> simp only [Bool.not_true, Bool.not_false, bIf_t, bIf_f, bIf_nand, bIf_same, Bool.not_not, Bool.or_self, Bool.true_or, Bool.or_true, Bool.false_and, Bool.true_and, Bool.and_false, Bool.or_false, Bool.false_or]
end Go.Proofs.YtcpkhpboemfglaaGreatDoor

namespace Go.Proofs.YtcpkhpboemfglaaGreatDoor
open Go Go.Va Go.Proofs
def eRow (x : Row) : List Int := eT x.1 ++ (eF x.2.1 ++ if x.2.1 = true then [] else eVer x.2.2.1 ++ eF x.2.2.2.1)
def eRows (l : List Row) : List Int := eW ((l.length : Nat) : Int) ++ l.flatMap eRow
def eInts (l : List Int) : List Int := eW ((l.length : Nat) : Int) ++ l.flatMap eW
def eStrs (l : List ByteArray) : List Int := eW ((l.length : Nat) : Int) ++ l.flatMap eT
def eOpt (v : Ver) : List Int := eF (!noneB v) ++ if noneB v = true then [] else eVer v
def encF (r : RP) : List Int := eN r.2.1 ++ (eT (bytesOf r.2.2.1) ++ (eOpt r.2.2.2.1 ++ (eRows r.2.2.2.2.1 ++ (eF r.2.2.2.2.2.1 ++ (eInts r.2.2.2.2.2.2.1 ++ eStrs r.2.2.2.2.2.2.2.1)))))
def encRP (r : RP) : List Int := eW r.1 ++ if r.1 = 0 then encF r else []
def tellS (r : RP) : List Int × Int := if goodRP r = true then (encRP r, 0) else ([], 2)
structure VI (n : Nat) (v : Ver) : Prop where
  b : VB n v
  id : U64 v.1
  md : I64 (made v)
  bl : U64 (blob v)
  lk : I64 (lock v).2.1
  dy : BY (dig v)
structure RI (n : Nat) (r : RP) : Prop where
  b : RB n r
  id : U64 r.2.1
  ver : VI n r.2.2.2.1
  row : ∀ x ∈ r.2.2.2.2.1, x.1.size < n ∧ VI n x.2.2.1
  nums : ∀ x ∈ r.2.2.2.2.2.2.1, I64 x
  body : BY r.2.2.1
theorem flat_le {α : Type} {f : α → List Int} {c k : Nat} {l : List α} (h : ∀ x ∈ l, (f x).length ≤ c) (hk : l.length ≤ k) : (l.flatMap f).length ≤ k * c := Nat.le_trans (flat_len h) (Nat.mul_le_mul_right c hk)
theorem none_id {v : Ver} (h : (noneB v || verB v) = true) : (v.1 != 0) = !noneB v := by
  have h1 : noneB v = true → v.1 = 0 := fun h => by
    unfold noneB sameV at h
    simp only [Bool.and_eq_true, beq_iff_eq] at h
    exact h.2.1
  have h2 : verB v = true → v.1 ≠ 0 := fun h => by
    unfold verB at h
    rw [Bool.and_eq_true, decide_eq_true_iff] at h
    omega
  cases hn : noneB v
  · rw [hn, Bool.false_or] at h
    rw [bne, beq_eq_false_iff_ne.2 (h2 h)]
  · rw [h1 hn]; rfl
structure Fine (r : RP) : Prop where
  body : r.2.2.1.length ≤ 16384
  ver : (noneB r.2.2.2.1 || verB r.2.2.2.1) = true
  rows : r.2.2.2.2.1.length ≤ 100
  nums : r.2.2.2.2.2.2.1.length ≤ 8
  names : r.2.2.2.2.2.2.2.1.length ≤ 16
  row : ∀ x ∈ r.2.2.2.2.1, rowB x = true
  num : ∀ x ∈ r.2.2.2.2.2.2.1, 0 ≤ x
  name : ∀ x ∈ r.2.2.2.2.2.2.2.1, x.size ≤ 63
theorem fine_of {r : RP} (h : fineRP r = true) : Fine r := by
  unfold fineRP at h
  simp only [Bool.and_eq_true, decide_eq_true_iff, List.all_eq_true] at h
  obtain ⟨h1, h2, h3, h4, h5, h6, h7, h8⟩ := h
  exact ⟨h1, h2, h3, h4, h5, h6, fun x hx => of_decide_eq_true (h7 x hx), fun x hx => of_decide_eq_true (h8 x hx)⟩
theorem good_fine {r : RP} (h : goodRP r = true) (h0 : r.1 = 0) : Fine r := by
  unfold goodRP at h
  rw [if_pos h0] at h
  simp only [Bool.and_eq_true] at h
  exact fine_of h.2.2
theorem eOpt_len {n : Nat} {v : Ver} (h : (noneB v || verB v) = true) (hi : VI n v) : (eOpt v).length ≤ 1401 := by
  unfold eOpt
  rw [List.length_append, eF_len]
  cases hz : noneB v
  · rw [hz, Bool.false_or] at h
    have := eVer_len h hi.b.dig
    simp only [Bool.false_eq_true, if_false]; omega
  · simp only [if_true, List.length_nil]; omega
theorem eRow_len {n : Nat} {x : Row} (h : rowB x = true) (hi : VI n x.2.2.1) : (eRow x).length ≤ 1700 := by
  unfold rowB at h
  unfold eRow
  have h3 := eT_len x.1
  rw [List.length_append, List.length_append, eF_len]
  cases hz : x.2.1
  · simp only [hz, Bool.and_eq_true, decide_eq_true_iff, Bool.false_eq_true, if_false] at h
    have := eVer_len h.2 hi.b.dig
    simp only [Bool.false_eq_true, if_false, List.length_append, eF_len]; omega
  · simp only [hz, Bool.and_eq_true, decide_eq_true_iff] at h
    simp only [if_true, List.length_nil]; omega
theorem encF_len {n : Nat} {r : RP} (h : Fine r) (hi : RI n r) : (encF r).length ≤ 200000 := by
  unfold encF eRows eInts eStrs
  simp only [List.length_append, eF_len]
  have h1 := eN_len r.2.1
  have h2 := eT_len (bytesOf r.2.2.1)
  rw [bytesOf_size] at h2
  have h3 := eOpt_len h.ver hi.ver
  have h4 := flat_le (f := eRow) (c := 1700) (fun x hx => eRow_len (h.row x hx) (hi.row x hx).2) h.rows
  have h5 := flat_le (f := eW) (c := 10) (fun x (hx : x ∈ r.2.2.2.2.2.2.1) => eW_len x) h.nums
  have h6 := flat_le (f := eT) (c := 73) (fun x hx => Nat.le_trans (eT_len x) (by have := h.name x hx; omega)) h.names
  have h7 := eW_len ((r.2.2.2.2.1.length : Nat) : Int)
  have h8 := eW_len ((r.2.2.2.2.2.2.1.length : Nat) : Int)
  have h9 := eW_len ((r.2.2.2.2.2.2.2.1.length : Nat) : Int)
  have h0 := h.body
  omega
theorem wRows {n : Nat} (hn : 300 ≤ n) (w : List Int) (u : Unit) {l : List Row} (hlen : l.length < n) (hl : ∀ x ∈ l, x.1.size < n ∧ VI n x.2.2.1) (hn2 : n ≤ 536870912) (h : w.length + (eRows l).length ≤ 70368744177664) : F_wire_writer_rows.f n (w, u) l = some ((w ++ eRows l, ()), ()) := by
  rw [F_wire_writer_rows.e0]
  unfold eRows at h ⊢
  simp only [List.length_append] at h
  dsimp only
  rw [wW hn w () (by omega), bnd_some]
  dsimp only
  have := app_loop (l := l) (Va.dflt T_api_Row) eRow 70368744177664 (fun m k L => F_wire_writer_rows.J1 n m (l, ((l.length : Nat) : Int), k, (((), ()), ()), (L, ()), ())) (fun L => some ((L, ()), ()))
    (fun m k L hk hL => by
      have hr := (hl _ (getD_memA (d := Va.dflt T_api_Row) hk)).2
      try dsimp only
      rw [F_wire_writer_rows.e1, hide_eq, decide_eq_true (by omega), bIf_true, gIf_pos ⟨by omega, by omega⟩, Int.toNat_natCast, cast_up k (by omega)]
      generalize hx : l.getD k (Va.dflt T_api_Row) = x at hr hL
      unfold eRow at hL ⊢
      try dsimp only
      simp only [List.length_append] at hL
      rw [wText hn _ () (by omega), bnd_some]
      try dsimp only
      rw [wFlag _ () (by rw [List.length_append]; omega), bnd_some]
      try dsimp only
      cases hz : x.2.1
      · rw [hz] at hL
        simp only [Bool.false_eq_true, if_false, List.length_append] at hL ⊢
        rw [Bool.not_false, bIf_true, wVer hn _ () hr.id hr.md hr.bl hr.lk hr.b.tags.1 hn2 (by simp only [List.length_append]; omega), bnd_some]
        try dsimp only
        rw [wFlag _ () (by simp only [List.length_append]; omega), bnd_some]
        simp only [List.append_assoc]
      · rw [Bool.not_true, bIf_false]
        simp only [if_true, List.append_nil, List.append_assoc])
    (fun m L hL => by
      try dsimp only
      rw [F_wire_writer_rows.e1, hide_eq, decide_eq_false (by omega), bIf_false]) n 0 (w ++ eW ((l.length : Nat) : Int)) (by omega) (by omega) (by rw [List.length_append, List.drop_zero]; omega)
  try dsimp only at this
  rw [show ((0 : Nat) : Int) = 0 from rfl] at this
  rw [this, List.drop_zero, List.append_assoc]
theorem wTail {n : Nat} (hn : 300 ≤ n) (hn2 : n ≤ 536870912) (w : List Int) {r : RP} (hi : RI n r) (h : w.length + (eRows r.2.2.2.2.1 ++ (eF r.2.2.2.2.2.1 ++ (eInts r.2.2.2.2.2.2.1 ++ eStrs r.2.2.2.2.2.2.2.1))).length ≤ 70368744177664) :
    F_wire_Tell.J1 n (r, (((), ()), ()), (w, ()), ()) = some (w ++ (eRows r.2.2.2.2.1 ++ (eF r.2.2.2.2.2.1 ++ (eInts r.2.2.2.2.2.2.1 ++ eStrs r.2.2.2.2.2.2.2.1))), 0, ()) := by
  have hl1 := hi.b.nums
  have hl2 := hi.b.names
  simp only [List.length_append] at h
  rw [F_wire_Tell.e1]
  try dsimp only
  rw [wRows hn w () hi.b.rows hi.row hn2 (by omega), bnd_some]
  try dsimp only
  rw [wFlag _ () (by rw [List.length_append]; omega), bnd_some]
  try dsimp only
  unfold eInts eStrs at h ⊢
  simp only [List.length_append] at h
  rw [wW hn _ () (by simp only [List.length_append]; omega), bnd_some]
  try dsimp only
  have h3 : ∀ L : List Int, L.length + ((eW ((r.2.2.2.2.2.2.2.1.length : Nat) : Int)).length + (r.2.2.2.2.2.2.2.1.flatMap eT).length) ≤ 70368744177664 → F_wire_Tell.J3 n (r, (((), ()), ()), (L, ()), ()) = some (L ++ (eW ((r.2.2.2.2.2.2.2.1.length : Nat) : Int) ++ r.2.2.2.2.2.2.2.1.flatMap eT), 0, ()) := by
    intro L hL
    rw [F_wire_Tell.e3]
    try dsimp only
    rw [wW hn _ () (by omega), bnd_some]
    try dsimp only
    have := app_loop (l := r.2.2.2.2.2.2.2.1) (⟨#[]⟩ : ByteArray) eT 70368744177664 (fun m k L => F_wire_Tell.J4 n m (r.2.2.2.2.2.2.2.1, ((r.2.2.2.2.2.2.2.1.length : Nat) : Int), k, (((), ()), ()), (L, ()), ())) (fun L => some (L, 0, ()))
      (fun m k L hk hL => by
        try dsimp only
        rw [F_wire_Tell.e4, hide_eq, decide_eq_true (by omega), bIf_true, gIf_pos ⟨by omega, by omega⟩, Int.toNat_natCast, cast_up k (by omega)]
        try dsimp only
        rw [wText hn _ () (by omega), bnd_some])
      (fun m L hL => by
        try dsimp only
        rw [F_wire_Tell.e4, hide_eq, decide_eq_false (by omega), bIf_false, F_wire_Tell.e5]
        try dsimp only
        rw [wOut () hL, bnd_some]) n 0 (L ++ eW ((r.2.2.2.2.2.2.2.1.length : Nat) : Int)) (by omega) (by omega) (by rw [List.length_append, List.drop_zero]; omega)
    try dsimp only at this
    rw [show ((0 : Nat) : Int) = 0 from rfl] at this
    rw [this, List.drop_zero, List.append_assoc]
  have := app_loop (l := r.2.2.2.2.2.2.1) 0 eW (70368744177664 - ((eW ((r.2.2.2.2.2.2.2.1.length : Nat) : Int)).length + (r.2.2.2.2.2.2.2.1.flatMap eT).length)) (fun m k L => F_wire_Tell.J2 n m (r.2.2.2.2.2.2.1, ((r.2.2.2.2.2.2.1.length : Nat) : Int), k, r, (((), ()), ()), (L, ()), ())) (fun L => some (L ++ (eW ((r.2.2.2.2.2.2.2.1.length : Nat) : Int) ++ r.2.2.2.2.2.2.2.1.flatMap eT), 0, ()))
    (fun m k L hk hL => by
      try dsimp only
      rw [F_wire_Tell.e2, hide_eq, decide_eq_true (by omega), bIf_true, gIf_pos ⟨by omega, by omega⟩, Int.toNat_natCast, cast_up k (by omega)]
      try dsimp only
      rw [wW hn _ () (by omega), bnd_some])
    (fun m L hL => by
      try dsimp only
      rw [F_wire_Tell.e2, hide_eq, decide_eq_false (by omega), bIf_false]
      try dsimp only
      rw [h3 L (by omega)]) n 0 (w ++ eRows r.2.2.2.2.1 ++ eF r.2.2.2.2.2.1 ++ eW ((r.2.2.2.2.2.2.1.length : Nat) : Int)) (by omega) (by omega) (by rw [List.drop_zero]; simp only [List.length_append]; omega)
  try dsimp only at this
  rw [show ((0 : Nat) : Int) = 0 from rfl] at this
  rw [this, List.drop_zero]
  simp only [List.append_assoc]
theorem wire_Tell {n : Nat} (hn : 300 ≤ n) (hn2 : n ≤ 536870912) {r : RP} (hi : RI n r) : F_wire_Tell.f n r = some ((tellS r).1, (tellS r).2, ()) := by
  rw [F_wire_Tell.e0, wire_good hn2 hi.b, bnd_some]
  unfold tellS
  cases hg : goodRP r
  · rfl
  · rw [Bool.not_true, bIf_false, if_pos rfl, F_entry_NewWriter.e0, F_pack_New.e0, bnd_some, bnd_some]
    try dsimp only
    have hw := eW_len r.1
    rw [wW hn [] () (by rw [List.length_nil]; omega), bnd_some, hide_eq]
    try dsimp only
    unfold encRP
    by_cases h0 : r.1 = 0
    · have hf := good_fine hg h0
      have hl := encF_len hf hi
      rw [if_pos h0, show (r.1 != 0) = false by rw [h0]; rfl, bIf_false, hide_eq, none_id hf.ver]
      unfold encF at hl ⊢
      generalize hT : eRows r.2.2.2.2.1 ++ (eF r.2.2.2.2.2.1 ++ (eInts r.2.2.2.2.2.2.1 ++ eStrs r.2.2.2.2.2.2.2.1)) = T at hl ⊢
      simp only [List.length_append] at hl
      rw [wNum hn _ () hi.id (by simp only [List.length_append, List.length_nil]; omega), bnd_some]
      try dsimp only
      rw [wText hn _ () (by simp only [List.length_append, List.length_nil]; omega), bnd_some]
      try dsimp only
      unfold eOpt at hl ⊢
      simp only [List.length_append] at hl
      rw [wFlag _ () (by simp only [List.length_append, List.length_nil]; omega), bnd_some]
      try dsimp only
      cases hz : noneB r.2.2.2.1
      · rw [hz] at hl
        simp only [Bool.false_eq_true, if_false, Bool.not_false] at hl ⊢
        rw [bIf_true, wVer hn _ () hi.ver.id hi.ver.md hi.ver.bl hi.ver.lk hi.ver.b.tags.1 hn2 (by simp only [List.length_append, List.length_nil]; omega), bnd_some]
        try dsimp only
        rw [wTail hn hn2 _ hi (by rw [hT]; simp only [List.length_append, List.length_nil]; omega), hT]
        simp only [List.nil_append, List.append_assoc]
      · rw [hz] at hl
        simp only [if_true, Bool.not_true] at hl ⊢
        rw [bIf_false, wTail hn hn2 _ hi (by rw [hT]; simp only [List.length_append, List.length_nil]; omega), hT]
        simp only [List.nil_append, List.append_nil, List.append_assoc]
    · rw [if_neg h0, show (r.1 != 0) = true by rw [bne, beq_eq_false_iff_ne.2 h0]; rfl, bIf_true, wOut () (by rw [List.nil_append]; omega), bnd_some, List.nil_append, List.append_nil]
end Go.Proofs.YtcpkhpboemfglaaGreatDoor

namespace Go.Proofs.YtcpkhpboemfglaaGreatDoor
open Go Go.Va Go.Proofs
theorem tNum {n : Nat} (hn : 300 ≤ n) (x : Int) : F_ref26_num.f n x = some (bytesOf (eW x), ()) := by
  rw [F_ref26_num.e0, pNum hn (wrap_U64 _), bnd_some]; rfl
theorem pl {a b : List Int} (h : a.length + b.length ≤ 4611686018427387904) {α : Type} (x : Option α) : gIf ((bytesOf a).size + (bytesOf b).size ≤ 4611686018427387904) x = x := by
  rw [bytesOf_size, bytesOf_size, gIf_pos h]
theorem rt6 {n : Nat} (hn : 300 ≤ n) (hn2 : n ≤ 536870912) (L : List Int) {r : RP} (hi : RI n r) (h : L.length + (eStrs r.2.2.2.2.2.2.2.1).length ≤ 70368744177664) : F_ref26_Tell.J6 n (bytesOf L, r, ()) = some (bytesOf (L ++ eStrs r.2.2.2.2.2.2.2.1), 0, ()) := by
  have hl := hi.b.names
  unfold eStrs at h ⊢
  rw [List.length_append] at h
  rw [F_ref26_Tell.e6, tNum hn, bnd_some]
  try dsimp only
  rw [pl (by omega), ← bytesOf_append]
  have := app_loop (l := r.2.2.2.2.2.2.2.1) (⟨#[]⟩ : ByteArray) eT 70368744177664 (fun m k L => F_ref26_Tell.J7 n m (bytesOf L, k, r, ())) (fun L => some (bytesOf L, 0, ()))
    (fun m k L hk hL => by
      try dsimp only
      rw [F_ref26_Tell.e7, hide_eq, decide_eq_true (by omega), bIf_true, gIf_pos ⟨by omega, by omega⟩, Int.toNat_natCast, cast_up k (by omega), pText hn (by omega), bnd_some]
      try dsimp only
      rw [pl (by omega), ← bytesOf_append])
    (fun m L hL => by
      try dsimp only
      rw [F_ref26_Tell.e7, hide_eq, decide_eq_false (by omega), bIf_false, F_ref26_Tell.e8]) n 0 (L ++ eW ((r.2.2.2.2.2.2.2.1.length : Nat) : Int)) (by omega) (by omega) (by rw [List.length_append, List.drop_zero]; omega)
  try dsimp only at this
  rw [show ((0 : Nat) : Int) = 0 from rfl] at this
  rw [this, List.drop_zero, List.append_assoc]
theorem rt4 {n : Nat} (hn : 300 ≤ n) (hn2 : n ≤ 536870912) (L : List Int) {r : RP} (hi : RI n r) (h : L.length + (eF r.2.2.2.2.2.1 ++ (eInts r.2.2.2.2.2.2.1 ++ eStrs r.2.2.2.2.2.2.2.1)).length ≤ 70368744177664) : F_ref26_Tell.J4 n (bytesOf L, r, ()) = some (bytesOf (L ++ (eF r.2.2.2.2.2.1 ++ (eInts r.2.2.2.2.2.2.1 ++ eStrs r.2.2.2.2.2.2.2.1))), 0, ()) := by
  have hl := hi.b.nums
  simp only [List.length_append] at h
  unfold eInts at h ⊢
  rw [List.length_append] at h
  rw [F_ref26_Tell.e4, pFlag, bnd_some, tNum hn, bnd_some]
  try dsimp only
  rw [pl (by omega), ← bytesOf_append, pl (by rw [List.length_append]; omega), ← bytesOf_append]
  have := app_loop (l := r.2.2.2.2.2.2.1) 0 eW (70368744177664 - (eStrs r.2.2.2.2.2.2.2.1).length) (fun m k L => F_ref26_Tell.J5 n m (bytesOf L, k, r, ())) (fun L => some (bytesOf (L ++ eStrs r.2.2.2.2.2.2.2.1), 0, ()))
    (fun m k L hk hL => by
      try dsimp only
      rw [F_ref26_Tell.e5, hide_eq, decide_eq_true (by omega), bIf_true, gIf_pos ⟨by omega, by omega⟩, Int.toNat_natCast, cast_up k (by omega), tNum hn, bnd_some]
      try dsimp only
      rw [pl (by omega), ← bytesOf_append])
    (fun m L hL => by
      try dsimp only
      rw [F_ref26_Tell.e5, hide_eq, decide_eq_false (by omega), bIf_false, rt6 hn hn2 L hi (by omega)]) n 0 (L ++ (eF r.2.2.2.2.2.1 ++ eW ((r.2.2.2.2.2.2.1.length : Nat) : Int))) (by omega) (by omega) (by rw [List.drop_zero]; simp only [List.length_append]; omega)
  try dsimp only at this
  rw [show ((0 : Nat) : Int) = 0 from rfl] at this
  rw [this, List.drop_zero]
  simp only [List.append_assoc]
theorem rt1 {n : Nat} (hn : 300 ≤ n) (hn2 : n ≤ 536870912) (L : List Int) {r : RP} (hi : RI n r) (h : L.length + (eRows r.2.2.2.2.1 ++ (eF r.2.2.2.2.2.1 ++ (eInts r.2.2.2.2.2.2.1 ++ eStrs r.2.2.2.2.2.2.2.1))).length ≤ 70368744177664) : F_ref26_Tell.J1 n (bytesOf L, r, ()) = some (bytesOf (L ++ (eRows r.2.2.2.2.1 ++ (eF r.2.2.2.2.2.1 ++ (eInts r.2.2.2.2.2.2.1 ++ eStrs r.2.2.2.2.2.2.2.1)))), 0, ()) := by
  have hl := hi.b.rows
  generalize hT : eF r.2.2.2.2.2.1 ++ (eInts r.2.2.2.2.2.2.1 ++ eStrs r.2.2.2.2.2.2.2.1) = T at h ⊢
  simp only [List.length_append] at h
  unfold eRows at h ⊢
  rw [List.length_append] at h
  rw [F_ref26_Tell.e1, tNum hn, bnd_some]
  try dsimp only
  rw [pl (by omega), ← bytesOf_append]
  have := app_loop (l := r.2.2.2.2.1) (Va.dflt T_api_Row) eRow (70368744177664 - T.length) (fun m k L => F_ref26_Tell.J2 n m (bytesOf L, k, r, ())) (fun L => some (bytesOf (L ++ T), 0, ()))
    (fun m k L hk hL => by
      have hr := (hi.row _ (getD_memA (d := Va.dflt T_api_Row) hk)).2
      try dsimp only
      rw [F_ref26_Tell.e2, hide_eq, decide_eq_true (by omega), bIf_true, gIf_pos ⟨by omega, by omega⟩, Int.toNat_natCast]
      simp only [F_ref26_Tell.e3, cast_up k (show k < 4611686018427387904 by omega)]
      generalize hx : r.2.2.2.2.1.getD k (Va.dflt T_api_Row) = x at hr hL
      unfold eRow at hL ⊢
      try dsimp only
      simp only [List.length_append] at hL
      rw [pText hn (by omega), bnd_some, pFlag, bnd_some]
      try dsimp only
      rw [pl (by omega), ← bytesOf_append, pl (by rw [List.length_append]; omega), ← bytesOf_append]
      cases hz : x.2.1
      · rw [hz] at hL
        simp only [Bool.false_eq_true, if_false, List.length_append] at hL ⊢
        rw [Bool.not_false, bIf_true, pVer hn hr.id hr.md hr.bl hr.b.dig hr.lk hr.b.tags hn2 (by omega), bnd_some, pFlag, bnd_some]
        try dsimp only
        rw [pl (by omega), ← bytesOf_append, pl (by simp only [List.length_append]; omega), ← bytesOf_append]
        simp only [List.append_assoc]
      · rw [Bool.not_true, bIf_false]
        simp only [if_true, List.append_nil, List.append_assoc])
    (fun m L hL => by
      try dsimp only
      rw [F_ref26_Tell.e2, hide_eq, decide_eq_false (by omega), bIf_false, rt4 hn hn2 L hi (by rw [hT]; omega), hT]) n 0 (L ++ eW ((r.2.2.2.2.1.length : Nat) : Int)) (by omega) (by omega) (by rw [List.length_append, List.drop_zero]; omega)
  try dsimp only at this
  rw [show ((0 : Nat) : Int) = 0 from rfl] at this
  rw [this, List.drop_zero]
  simp only [List.append_assoc]
theorem ref26_Tell {n : Nat} (hn : 300 ≤ n) (hn2 : n ≤ 536870912) {r : RP} (hi : RI n r) : F_ref26_Tell.f n r = some (bytesOf (tellS r).1, (tellS r).2, ()) := by
  rw [F_ref26_Tell.e0, ref26_good hn hn2 hi.b, bnd_some]
  unfold tellS
  cases hg : goodRP r
  · rfl
  · rw [Bool.not_true, bIf_false, if_pos rfl, tNum hn, bnd_some, hide_eq]
    try dsimp only
    have hw := eW_len r.1
    unfold encRP
    by_cases h0 : r.1 = 0
    · have hf := good_fine hg h0
      have hl := encF_len hf hi
      rw [if_pos h0, show (r.1 != 0) = false by rw [h0]; rfl, bIf_false]
      unfold encF at hl ⊢
      generalize hT : eRows r.2.2.2.2.1 ++ (eF r.2.2.2.2.2.1 ++ (eInts r.2.2.2.2.2.2.1 ++ eStrs r.2.2.2.2.2.2.2.1)) = T at hl ⊢
      simp only [List.length_append] at hl
      rw [pNum hn hi.id, bnd_some, pText hn (by omega), bnd_some]
      try dsimp only
      rw [pl (by omega), ref26_none hn2 hi.b.ver.tags.1, bnd_some]
      try dsimp only
      unfold eOpt at hl ⊢
      simp only [List.length_append] at hl
      rw [pFlag, bnd_some]
      try dsimp only
      rw [← bytesOf_append, pl (by simp only [List.length_append]; omega), ← bytesOf_append, pl (by simp only [List.length_append]; omega), ← bytesOf_append, bnd_some]
      try dsimp only
      cases hz : noneB r.2.2.2.1
      · rw [hz] at hl
        simp only [Bool.false_eq_true, if_false, Bool.not_false] at hl ⊢
        rw [bIf_true, pVer hn hi.ver.id hi.ver.md hi.ver.bl hi.ver.b.dig hi.ver.lk hi.ver.b.tags hn2 (by omega), bnd_some]
        try dsimp only
        rw [pl (by simp only [List.length_append]; omega), ← bytesOf_append, rt1 hn hn2 _ hi (by rw [hT]; simp only [List.length_append]; omega), hT]
        simp only [List.append_assoc]
      · rw [hz] at hl
        simp only [if_true, Bool.not_true] at hl ⊢
        rw [bIf_false, rt1 hn hn2 _ hi (by rw [hT]; simp only [List.length_append]; omega), hT]
        simp only [List.append_nil, List.append_assoc]
    · rw [if_neg h0, show (r.1 != 0) = true by rw [bne, beq_eq_false_iff_ne.2 h0]; rfl, bIf_true, List.append_nil]
end Go.Proofs.YtcpkhpboemfglaaGreatDoor

namespace Go.Proofs.YtcpkhpboemfglaaGreatDoor
open Go Go.Va Go.Proofs
def hasQ (k : Int) : ByteArray := if k = 1 ∨ k = 3 then ⟨#[100]⟩ else if k = 7 ∨ k = 8 then ⟨#[107, 105]⟩ else if k = 4 then ⟨#[114]⟩ else if k = 5 then ⟨#[103]⟩ else if k = 6 then ⟨#[107, 66, 116, 108]⟩ else if k = 9 then ⟨#[107]⟩ else if k = 10 then ⟨#[107, 105, 121]⟩ else if k = 11 then ⟨#[107, 105, 108, 121]⟩ else if k = 12 then ⟨#[107, 105, 108]⟩ else if k = 13 then ⟨#[107, 105, 116]⟩ else if k = 14 then ⟨#[112, 109, 97, 120]⟩ else if k = 15 then ⟨#[112, 102, 120]⟩ else if k = 16 then ⟨#[107, 116]⟩ else if k = 17 then ⟨#[105, 110, 66]⟩ else if k = 18 then ⟨#[105, 78]⟩ else if k = 19 then ⟨#[105]⟩ else if k = 20 then ⟨#[107, 102]⟩ else ⟨#[46]⟩
def leastK (k : Int) : Int := if k = 10 ∨ k = 17 ∨ k = 18 ∨ k = 19 then 1 else 0
def lockK (k : Int) (l : D_api_Lock) : Bool := if k = 11 then !l.2.2.1 else if k = 12 then l.1 == 0 else true
def fromK (k : Int) (f : D_api_Spot) : Bool := if k = 15 then eqS f.1 ⟨#[]⟩ && nameB f.2.1 else bucketB f.1 && (keyB f.2.1 && decide (f.2.2.1 ≥ 1))
def goodQ (e : Q) : Bool :=
  (decide (1 ≤ e.1) && decide (e.1 ≤ 22)) && (!decide (((e.2.1.size : Nat) : Int) > 64) && (cleanB e.2.1 && ((if 21 ≤ e.1 then eqS e.2.2.1 ⟨#[]⟩ else bucketB e.2.2.1) && (fld (hasQ e.1) 107 (keyB e.2.2.2.1) (eqS e.2.2.2.1 ⟨#[]⟩) && (fld (hasQ e.1) 105 (decide (e.2.2.2.2.1 ≥ leastK e.1)) ((e.2.2.2.2.1 == 0)) && (fld (hasQ e.1) 66 (decide (((e.2.2.2.2.2.1.length : Nat) : Int) ≤ 1024)) ((((e.2.2.2.2.2.1.length : Nat) : Int) == 0)) && (fld (hasQ e.1) 116 (tagsB e.2.2.2.2.2.2.1) ((((e.2.2.2.2.2.2.1.length : Nat) : Int) == 0)) && (fld (hasQ e.1) 108 ((lockB e.2.2.2.2.2.2.2.1 && lockK e.1 e.2.2.2.2.2.2.2.1)) (eqD T_api_Lock e.2.2.2.2.2.2.2.1 lockZ) && (fld (hasQ e.1) 121 (true) ((!e.2.2.2.2.2.2.2.2.1)) && (fld (hasQ e.1) 100 (modeB e.2.2.2.2.2.2.2.2.2.1) (eqD T_api_Default e.2.2.2.2.2.2.2.2.2.1 (0, (0, ()))) && (fld (hasQ e.1) 114 (rulesB e.2.2.2.2.2.2.2.2.2.2.1) ((((e.2.2.2.2.2.2.2.2.2.2.1.length : Nat) : Int) == 0)) && (fld (hasQ e.1) 103 (grantsB e.2.2.2.2.2.2.2.2.2.2.2.1) ((((e.2.2.2.2.2.2.2.2.2.2.2.1.length : Nat) : Int) == 0)) && (fld (hasQ e.1) 110 ((decide (e.2.2.2.2.2.2.2.2.2.2.2.2.1 ≥ 1) && decide (e.2.2.2.2.2.2.2.2.2.2.2.2.1 ≤ 10000))) ((e.2.2.2.2.2.2.2.2.2.2.2.2.1 == 0)) && (fld (hasQ e.1) 78 (decide (((e.2.2.2.2.2.2.2.2.2.2.2.2.2.1.length : Nat) : Int) ≤ 16)) ((((e.2.2.2.2.2.2.2.2.2.2.2.2.2.1.length : Nat) : Int) == 0)) && (fld (hasQ e.1) 97 (nameB e.2.2.2.2.2.2.2.2.2.2.2.2.2.2.1) (eqS e.2.2.2.2.2.2.2.2.2.2.2.2.2.2.1 ⟨#[]⟩) && (fld (hasQ e.1) 112 (nameB e.2.2.2.2.2.2.2.2.2.2.2.2.2.2.2.1) (eqS e.2.2.2.2.2.2.2.2.2.2.2.2.2.2.2.1 ⟨#[]⟩) && (fld (hasQ e.1) 109 (nameB e.2.2.2.2.2.2.2.2.2.2.2.2.2.2.2.2.1) (eqS e.2.2.2.2.2.2.2.2.2.2.2.2.2.2.2.2.1 ⟨#[]⟩) && (fld (hasQ e.1) 102 (fromK e.1 e.2.2.2.2.2.2.2.2.2.2.2.2.2.2.2.2.2.1) (eqD T_api_Spot e.2.2.2.2.2.2.2.2.2.2.2.2.2.2.2.2.2.1 spotZ) && (fld (hasQ e.1) 120 ((decide (e.2.2.2.2.2.2.2.2.2.2.2.2.2.2.2.2.2.2.1 ≥ 1) && decide (e.2.2.2.2.2.2.2.2.2.2.2.2.2.2.2.2.2.2.1 ≤ 100))) ((e.2.2.2.2.2.2.2.2.2.2.2.2.2.2.2.2.2.2.1 == 0)))))))))))))))))))))
theorem spotRefl (p : D_api_Spot) : eqD T_api_Spot p p = true := by
  change ((p.1 == p.1) && ((p.2.1 == p.2.1) && (decide (p.2.2.1 = p.2.2.1) && true))) = true
  simp [ba_beq]
theorem good_7 {n : Nat} (h3 : 300 ≤ n) (hn2 : n ≤ 536870912) (w : ByteArray) (b : ByteArray) (y : ByteArray) (i : Int) (bo : List Int) (tg : List D_api_Tag) (l : D_api_Lock) (q : Bool) (d : D_api_Default) (r : List D_api_Rule) (g : List D_api_Grant) (nu : Int) (ns : List Int) (af : ByteArray) (pr : ByteArray) (ma : ByteArray) (fr : D_api_Spot) (mx : Int) (u : Unit) (he : QB n (7, w, b, y, i, bo, tg, l, q, d, r, g, nu, ns, af, pr, ma, fr, mx, u)) : F_acts_Good.f n (7, w, b, y, i, bo, tg, l, q, d, r, g, nu, ns, af, pr, ma, fr, mx, u) = some (goodQ (7, w, b, y, i, bo, tg, l, q, d, r, g, nu, ns, af, pr, ma, fr, mx, u), ()) := by
  have hw : w.size < n := he.w
  rw [F_acts_Good.e0]
  simp only [F_acts_Good.e1, own_7 h3 hn2 w b y i bo tg l q d r g nu ns af pr ma fr mx u he, s_bare, clean42 (by omega) hw, F_acts_anywhere.e0, label_Bucket h3, hide_n, bnd_s, Int.reduceBEq, bIf_t, bIf_f, bIf_and]
  have hbn := bucket_nil b
  unfold goodQ
  simp only [fld, show inB (hasQ 7) 107 = true by decide +kernel, show inB (hasQ 7) 105 = true by decide +kernel, show inB (hasQ 7) 66 = false by decide +kernel, show inB (hasQ 7) 116 = false by decide +kernel, show inB (hasQ 7) 108 = false by decide +kernel, show inB (hasQ 7) 121 = false by decide +kernel, show inB (hasQ 7) 100 = false by decide +kernel, show inB (hasQ 7) 114 = false by decide +kernel, show inB (hasQ 7) 103 = false by decide +kernel, show inB (hasQ 7) 110 = false by decide +kernel, show inB (hasQ 7) 78 = false by decide +kernel, show inB (hasQ 7) 97 = false by decide +kernel, show inB (hasQ 7) 112 = false by decide +kernel, show inB (hasQ 7) 109 = false by decide +kernel, show inB (hasQ 7) 102 = false by decide +kernel, show inB (hasQ 7) 120 = false by decide +kernel, show leastK 7 = 0 from rfl, show ∀ l, lockK 7 l = true from fun _ => rfl, show ∀ f, fromK 7 f = (bucketB f.1 && (keyB f.2.1 && decide (f.2.2.1 ≥ 1))) from fun _ => rfl, if_true, if_false, Bool.false_eq_true, eqS_self, lockRefl, defRefl, spotRefl, beq_self_eq_true, Bool.true_and, Bool.and_true, Bool.not_false, List.length_nil, c00, show decide ((1 : Int) ≤ 7) = true from rfl, show decide ((7 : Int) ≤ 22) = true from rfl, show ((21 : Int) ≤ 7) = False from eq_false (by decide)]
  revert hbn
  try generalize eqS y ⟨#[]⟩ = x0
  try generalize (i == 0) = x1
  try generalize (((bo.length : Nat) : Int) == 0) = x2
  try generalize (((tg.length : Nat) : Int) == 0) = x3
  try generalize eqD T_api_Lock l _ = x4
  try generalize eqD T_api_Default d _ = x5
  try generalize (((r.length : Nat) : Int) == 0) = x6
  try generalize (((g.length : Nat) : Int) == 0) = x7
  try generalize (nu == 0) = x8
  try generalize (((ns.length : Nat) : Int) == 0) = x9
  try generalize eqS af ⟨#[]⟩ = x10
  try generalize eqS pr ⟨#[]⟩ = x11
  try generalize eqS ma ⟨#[]⟩ = x12
  try generalize eqD T_api_Spot fr _ = x13
  try generalize (mx == 0) = x14
  try generalize keyB y = x15
  try generalize decide (i ≥ 0) = x16
  try generalize decide (i ≥ 1) = x17
  try generalize decide (((bo.length : Nat) : Int) ≤ 1024) = x18
  try generalize tagsB tg = x19
  try generalize lockB l = x20
  try generalize l.2.2.1 = x21
  try generalize (l.1 == 0) = x22
  try generalize modeB d = x23
  try generalize rulesB r = x24
  try generalize grantsB g = x25
  try generalize decide (nu ≥ 1) = x26
  try generalize decide (nu ≤ 10000) = x27
  try generalize decide (((ns.length : Nat) : Int) ≤ 16) = x28
  try generalize nameB af = x29
  try generalize nameB pr = x30
  try generalize nameB ma = x31
  try generalize decide (mx ≥ 1) = x32
  try generalize decide (mx ≤ 100) = x33
  try generalize eqS fr.1 ⟨#[]⟩ = x34
  try generalize nameB fr.2.1 = x35
  try generalize bucketB fr.1 = x36
  try generalize keyB fr.2.1 = x37
  try generalize decide (fr.2.2.1 ≥ 1) = x38
  try generalize decide (((w.size : Nat) : Int) > 64) = x39
  try generalize cleanB w = x40
  generalize eqS b ⟨#[]⟩ = q1
  generalize bucketB b = q2
  clear he hw
  intro hbn
  cases q1 <;> cases q2 <;> first | exact absurd (hbn rfl) (by decide) | (simp only [Bool.not_false, Bool.not_true, bIf_t, bIf_f, bIf_nand, Bool.true_and, Bool.false_and, Bool.and_false, beq_true, beq_false, Bool.not_not, bIf_same, Bool.and_true]; first | done | simp only [Bool.and_comm, Bool.and_left_comm, Bool.and_assoc])
end Go.Proofs.YtcpkhpboemfglaaGreatDoor

namespace Go.Proofs.YtcpkhpboemfglaaGreatDoor
open Go Go.Va Go.Proofs
end Go.Proofs.YtcpkhpboemfglaaGreatDoor

namespace Go.Proofs.YtcpkhpboemfglaaGreatDoor
open Go Go.Va Go.Proofs
end Go.Proofs.YtcpkhpboemfglaaGreatDoor

