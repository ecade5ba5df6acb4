/-
  The plain laws.
-/
import Derived.Test.YtcpkhpboemfglaaGreatDoorF0
import Derived.Test.YtcpkhpboemfglaaGreatDoorVaPlain
import Derived.Lib.MapLaws
import Derived.Test.YtcpkhpboemfglaaGreatDoorF1
set_option linter.unusedVariables false
set_option linter.unusedSimpArgs false
namespace Go.Proofs.YtcpkhpboemfglaaGreatDoor
open Go Go.Va Go.Proofs

def ok32 (b : UInt8) : Bool := decide (32 ≤ b.toNat) && decide (b.toNat ≠ 127)
/-- A clean text. -/
def cleanB (s : ByteArray) : Bool := s.data.toList.all ok32 && Lib.validD s.data.toList

theorem bnd_some {α β : Type} (a : α) (f : α → Option β) : bnd (some a) f = f a := rfl

theorem all_drop (l : List UInt8) (k : Nat) (h : k < l.length) : (l.drop k).all ok32 = (ok32 (l.getD k 0) && (l.drop (k + 1)).all ok32) := by
  rw [List.drop_eq_getElem_cons h, List.all_cons, List.getD_eq_getElem?_getD, List.getElem?_eq_getElem h]
  rfl
theorem ok32_hi {b : UInt8} (h : 128 ≤ b.toNat) : ok32 b = true := by
  unfold ok32; rw [decide_eq_true (by omega), decide_eq_true (by omega)]; rfl
theorem getD_dropA (l : List UInt8) (k i : Nat) : (l.drop k).getD i 0 = l.getD (k + i) 0 := by
  rw [List.getD_eq_getElem?_getD, List.getD_eq_getElem?_getD, List.getElem?_drop]
theorem bt_nat (s : ByteArray) (k : Nat) : bt s (k : Int) = ((s.data.toList.getD k 0).toNat : Int) := rfl

theorem clean42_J (n : Nat) (s : ByteArray) (hs : s.size ≤ 1073741824) : ∀ (m k : Nat), k ≤ s.size → s.size - k < m →
    F_label_Clean.J1 n m (s, ofBytes s, (((ofBytes s).length : Nat) : Int), (k : Int), ()) = some ((s.data.toList.drop k).all ok32 && Lib.validD s.data.toList, ())
  | 0, k, _, h => by omega
  | m + 1, k, hk, h => by
    have hsz := size_eq s
    have hl := size_of s
    rw [F_label_Clean.e1]
    simp only [hide_eq, bIf_eq, gIf_eq, Nat.zero_add]
    by_cases hlt : k < s.size
    · rw [if_pos (decide_eq_true (by omega)), if_pos ⟨by omega, by omega⟩, all_drop _ _ (by omega), wrap_i64 (by omega)]
      have hb : (ofBytes s).getD (k : Int).toNat 0 = ((s.data.toList.getD k 0).toNat : Int) := by rw [← bt_getD]; rfl
      rw [hb]
      have ih := clean42_J n s hs m (k + 1) (by omega) (by omega)
      rw [show (((k + 1 : Nat) : Int)) = (k : Int) + 1 by omega] at ih
      rw [ih]
      generalize s.data.toList.getD k 0 = b
      unfold ok32
      by_cases h1 : b.toNat < 32
      · rw [if_pos (decide_eq_true (by omega)), decide_eq_false (by omega)]; rfl
      · rw [if_neg (by simp; omega), decide_eq_true (by omega)]
        by_cases h2 : b.toNat = 127
        · rw [if_pos (by rw [beq_iff_eq]; omega), decide_eq_false (by omega)]; rfl
        · rw [if_neg (by rw [beq_iff_eq]; omega), decide_eq_true (by omega)]; simp
    · rw [if_neg (by simp; omega)]
      have hkk : k = s.size := by omega
      subst hkk
      rw [hsz, List.drop_length]
      rw [F_label_Clean.e2]
      unfold F_unicode_utf8_ValidString.f
      rw [if_pos (by omega), bnd_some]
      rfl

theorem clean42 {n : Nat} {s : ByteArray} (hs : s.size ≤ 1073741824) (hn : s.size < n) : F_label_Clean.f n s = some (cleanB s, ()) := by
  rw [F_label_Clean.e0]
  change F_label_Clean.J1 n n (s, ofBytes s, (((ofBytes s).length : Nat) : Int), ((0 : Nat) : Int), ()) = _
  rw [clean42_J n s hs n 0 (by omega) (by omega)]
  rfl

/-- One more byte of a sign. -/
theorem step7 (n m : Nat) (r1 : Nat) (s : ByteArray) (hs : s.size ≤ 1073741824) (k : Nat) (hk : k ≤ s.size) (w : Nat) (hw : w ≤ 4) (r : Nat) (hr : r < 1048576) (least : Int) (i : Nat) (hi : i < w) :
    F_ref06_Clean.J7 n r1 (m + 1) (s, (k : Int), (w : Int), (r : Int), least, (i : Int), ()) =
      if k + i < s.size then
        if (s.data.toList.getD (k + i) 0).toNat / 64 = 2 then F_ref06_Clean.J7 n r1 m (s, (k : Int), (w : Int), ((r * 64 + (s.data.toList.getD (k + i) 0).toNat % 64 : Nat) : Int), least, ((i + 1 : Nat) : Int), ())
        else some (false, ())
      else some (false, ()) := by
  rw [F_ref06_Clean.e7]
  simp only [hide_eq, bIf_eq, gIf_eq]
  rw [if_pos (decide_eq_true (by omega)), wrap_i64 (x := (k : Int) + (i : Int)) (by omega)]
  rw [show ((k : Int) + (i : Int)) = ((k + i : Nat) : Int) by omega, bt_nat]
  have hb := (s.data.toList.getD (k + i) 0).toNat_lt
  generalize hB : (s.data.toList.getD (k + i) 0).toNat = b at hb ⊢
  by_cases h1 : k + i < s.size
  · rw [if_neg (by simp; omega), if_pos ⟨by omega, by omega⟩, if_pos h1]
    by_cases h2 : b / 64 = 2
    · rw [if_neg (by simp; omega), if_pos ⟨by omega, by omega⟩, if_neg (by simp; omega), if_pos h2, F_ref06_Clean.e8]
      simp only [gIf_eq]
      rw [wrap_i64 (x := (k : Int) + (i : Int)) (by omega), show ((k : Int) + (i : Int)) = ((k + i : Nat) : Int) by omega, bt_nat, hB, if_pos ⟨by omega, by omega⟩, F_ref06_Clean.e9]
      rw [wrap_i64 (x := (i : Int) + 1) (by omega), wrap_i64 (x := (r : Int) * 64) (by omega), wrap_i64 (x := (b : Int)) (by omega), wrap_i64 (x := (r : Int) * 64 + (b : Int)) (by omega), wrap_i64 (by omega)]
      rw [show ((r : Int) * 64 + (b : Int) - 128) = ((r * 64 + b % 64 : Nat) : Int) by omega]
      rfl
    · rw [if_neg h2]
      by_cases h3 : b < 128
      · rw [if_pos (decide_eq_true (by omega))]
      · rw [if_neg (by simp; omega), if_pos ⟨by omega, by omega⟩, if_pos (decide_eq_true (by omega))]
  · rw [if_pos (decide_eq_true (by omega)), if_neg h1]

/-- Behind the last one. -/
theorem end7 (n m : Nat) (r1 : Nat) (s : ByteArray) (hs : s.size ≤ 1073741824) (k : Nat) (hk : k ≤ s.size) (w : Nat) (hw : w ≤ 4) (r : Nat) (least : Nat) :
    F_ref06_Clean.J7 n r1 (m + 1) (s, (k : Int), (w : Int), (r : Int), (least : Int), (w : Int), ()) =
      if least ≤ r ∧ r ≤ 1114111 ∧ ¬ (55296 ≤ r ∧ r ≤ 57343) then F_ref06_Clean.J1 n r1 (s, ((k + w : Nat) : Int), ()) else some (false, ()) := by
  rw [F_ref06_Clean.e7]
  simp only [hide_eq, bIf_eq, gIf_eq]
  rw [if_neg (by simp), F_ref06_Clean.e10]
  simp only [hide_eq, bIf_eq, gIf_eq]
  have e : F_ref06_Clean.J11 n r1 (s, (k : Int), (w : Int), ()) = F_ref06_Clean.J1 n r1 (s, ((k + w : Nat) : Int), ()) := by
    rw [F_ref06_Clean.e11]
    rw [wrap_i64 (by omega)]; congr 2
  rw [e]
  by_cases h1 : r < least
  · rw [if_pos (decide_eq_true (by omega)), if_neg (by omega)]
  · rw [if_neg (by simp; omega)]
    by_cases h2 : 1114111 < r
    · rw [if_pos (decide_eq_true (by omega)), if_neg (by omega)]
    · rw [if_neg (by simp; omega)]
      by_cases h3 : 55296 ≤ r
      · rw [if_pos (decide_eq_true (by omega))]
        by_cases h4 : r ≤ 57343
        · rw [if_pos (decide_eq_true (by omega)), if_neg (by omega)]
        · rw [if_neg (by simp; omega), if_pos (by omega)]
      · rw [if_neg (by simp; omega), if_pos (by omega)]

/-- One sign. -/
theorem sign44 (q : Nat) (r1 : Nat) (s : ByteArray) (hs : s.size ≤ 1073741824) (k : Nat) (hk : k < s.size) (b : Nat) (w : Nat) (hw : 1 ≤ w ∧ w ≤ 4) (r : Nat) (hr : r < 128) (least : Nat) :
    F_ref06_Clean.J5 (q + 5) r1 (s, (k : Int), (b : Int), (w : Int), (r : Int), (least : Int), ()) = if 32 ≤ b ∧ b ≠ 127 then F_ref06_Clean.J7 (q + 5) r1 (q + 4 + 1) (s, (k : Int), (w : Int), (r : Int), (least : Int), ((1 : Nat) : Int), ()) else some (false, ()) := by
  rw [F_ref06_Clean.e5]
  simp only [hide_eq, bIf_eq, gIf_eq]
  by_cases h1 : b < 32
  · rw [if_pos (decide_eq_true (by omega)), if_neg (by omega)]
  · rw [if_neg (by simp; omega)]
    by_cases h2 : b = 127
    · rw [if_pos (by rw [beq_iff_eq]; omega), if_neg (by omega)]
    · rw [if_neg (by rw [beq_iff_eq]; omega), if_pos (by omega)]
      rw [F_ref06_Clean.e6]; rfl
/-- Which sign it is. -/
theorem round44 (n m : Nat) (s : ByteArray) (hs : s.size ≤ 1073741824) (k : Nat) (hk : k < s.size) (b : Nat) (hb : (s.data.toList.getD k 0).toNat = b) :
    F_ref06_Clean.J1 n (m + 1) (s, (k : Int), ()) =
      if b < 128 then F_ref06_Clean.J5 n m (s, (k : Int), (b : Int), ((1 : Nat) : Int), (b : Int), ((0 : Nat) : Int), ())
      else if 192 ≤ b ∧ b < 224 then F_ref06_Clean.J5 n m (s, (k : Int), (b : Int), ((2 : Nat) : Int), ((b - 192 : Nat) : Int), ((128 : Nat) : Int), ())
      else if 224 ≤ b ∧ b < 240 then F_ref06_Clean.J5 n m (s, (k : Int), (b : Int), ((3 : Nat) : Int), ((b - 224 : Nat) : Int), ((2048 : Nat) : Int), ())
      else if 240 ≤ b ∧ b < 248 then F_ref06_Clean.J5 n m (s, (k : Int), (b : Int), ((4 : Nat) : Int), ((b - 240 : Nat) : Int), ((65536 : Nat) : Int), ())
      else some (false, ()) := by
  have hb2 := (s.data.toList.getD k 0).toNat_lt
  rw [F_ref06_Clean.e1]
  simp only [hide_eq, bIf_eq, gIf_eq]
  rw [bt_nat, hb, wrap_i64 (by omega), if_pos (decide_eq_true (by omega)), if_pos ⟨by omega, by omega⟩]
  by_cases h1 : b < 128
  · rw [if_pos (decide_eq_true (by omega)), if_pos h1]; rfl
  · rw [if_neg (by simp; omega), if_neg h1]
    have hS2 : ∀ t : Bool, F_ref06_Clean.J2 n m (s, (k : Int), (b : Int), t, ()) = if t = true then F_ref06_Clean.J5 n m (s, (k : Int), (b : Int), 2, (IntKind.i64.wrap ((b : Int) - 192)), 128, ()) else if decide ((b : Int) ≥ 224) = true then F_ref06_Clean.J3 n m (s, (k : Int), (b : Int), decide ((b : Int) < 240), ()) else F_ref06_Clean.J3 n m (s, (k : Int), (b : Int), false, ()) := by
      intro t; rw [F_ref06_Clean.e2]; simp only [hide_eq, bIf_eq, gIf_eq]
    have hS3 : ∀ t : Bool, F_ref06_Clean.J3 n m (s, (k : Int), (b : Int), t, ()) = if t = true then F_ref06_Clean.J5 n m (s, (k : Int), (b : Int), 3, (IntKind.i64.wrap ((b : Int) - 224)), 2048, ()) else if decide ((b : Int) ≥ 240) = true then F_ref06_Clean.J4 n m (s, (k : Int), (b : Int), decide ((b : Int) < 248), ()) else F_ref06_Clean.J4 n m (s, (k : Int), (b : Int), false, ()) := by
      intro t; rw [F_ref06_Clean.e3]; simp only [hide_eq, bIf_eq, gIf_eq]
    have hS4 : ∀ t : Bool, F_ref06_Clean.J4 n m (s, (k : Int), (b : Int), t, ()) = if t = true then F_ref06_Clean.J5 n m (s, (k : Int), (b : Int), 4, (IntKind.i64.wrap ((b : Int) - 240)), 65536, ()) else some (false, ()) := by
      intro t; rw [F_ref06_Clean.e4]; simp only [hide_eq, bIf_eq, gIf_eq]
    simp only [hS2, hS3, hS4]
    by_cases h2 : 192 ≤ b ∧ b < 224
    · rw [if_pos (decide_eq_true (by omega)), if_pos (decide_eq_true (by omega)), if_pos h2, wrap_i64 (by omega), show ((b : Int) - 192) = ((b - 192 : Nat) : Int) by omega]; rfl
    · rw [if_neg h2]
      by_cases h3 : 224 ≤ b ∧ b < 240
      · rw [if_pos (decide_eq_true (by omega)), if_neg (by simp; omega), if_pos (decide_eq_true (by omega)), if_pos (decide_eq_true (by omega)), if_pos h3, wrap_i64 (x := (b : Int) - 224) (by omega), show ((b : Int) - 224) = ((b - 224 : Nat) : Int) by omega]; rfl
      · rw [if_neg h3]
        by_cases h4 : 240 ≤ b ∧ b < 248
        · rw [if_pos (decide_eq_true (by omega)), if_neg (by simp; omega), if_pos (decide_eq_true (by omega)), if_neg (by simp; omega), if_pos (decide_eq_true (by omega)), if_pos (decide_eq_true (by omega)), if_pos h4, wrap_i64 (x := (b : Int) - 240) (by omega), show ((b : Int) - 240) = ((b - 240 : Nat) : Int) by omega]; rfl
        · rw [if_neg h4]
          split <;> (simp only [decide_eq_true_eq, Bool.false_eq_true, if_false, ge_iff_le]; repeat' split) <;> first | rfl | (exfalso; simp_all; omega) | (exfalso; omega)

theorem clean44_J (q : Nat) (s : ByteArray) (hs : s.size ≤ 1073741824) : ∀ (m k : Nat), k ≤ s.size → s.size - k < m →
    F_ref06_Clean.J1 (q + 5) m (s, (k : Int), ()) = some ((s.data.toList.drop k).all ok32 && Lib.validD (s.data.toList.drop k), ())
  | 0, k, _, h => by omega
  | m + 1, k, hk, h => by
    have hsz := size_eq s
    by_cases hlt : k < s.size
    · obtain ⟨b, hb⟩ : ∃ b, (s.data.toList.getD k 0).toNat = b := ⟨_, rfl⟩
      have hb0 := (s.data.toList.getD k 0).toNat_lt
      have hb1 := (s.data.toList.getD (k + 1) 0).toNat_lt
      have hb2 := (s.data.toList.getD (k + 2) 0).toNat_lt
      have hb3 := (s.data.toList.getD (k + 3) 0).toNat_lt
      have ih1 := fun h' => clean44_J q s hs m (k + 1) h' (by omega)
      have ih2 := fun h' => clean44_J q s hs m (k + 2) h' (by omega)
      have ih3 := fun h' => clean44_J q s hs m (k + 3) h' (by omega)
      have ih4 := fun h' => clean44_J q s hs m (k + 4) h' (by omega)
      rw [round44 (q + 5) m s hs k hlt b hb]
      have hne : s.data.toList.drop k ≠ [] := by
        intro e; have := congrArg List.length e; rw [List.length_drop] at this; simp at this; omega
      rw [Lib.validD_step _ hne, Lib.decodeL_N, List.length_drop, ← hsz]
      simp only [getD_dropA, List.drop_drop, Nat.add_zero]
      have a1 := fun h' => all_drop s.data.toList (k + 1) h'
      have a2 := fun h' => all_drop s.data.toList (k + 2) h'
      have a3 := fun h' => all_drop s.data.toList (k + 3) h'
      rw [all_drop s.data.toList k (by omega)]
      have o0 : 128 ≤ b → ok32 (s.data.toList.getD k 0) = true := fun h' => ok32_hi (by omega)
      have o1 : 128 ≤ (s.data.toList.getD (k + 1) 0).toNat → ok32 (s.data.toList.getD (k + 1) 0) = true := fun h' => ok32_hi h'
      have o2 : 128 ≤ (s.data.toList.getD (k + 2) 0).toNat → ok32 (s.data.toList.getD (k + 2) 0) = true := fun h' => ok32_hi h'
      have o3 : 128 ≤ (s.data.toList.getD (k + 3) 0).toNat → ok32 (s.data.toList.getD (k + 3) 0) = true := fun h' => ok32_hi h'
      have s1 := fun (w : Nat) hw r hr least hi => step7 (q + 5) (q + 4) m s hs k hk w hw r hr least 1 hi
      have s2 := fun (w : Nat) hw r hr least hi => step7 (q + 5) (q + 3) m s hs k hk w hw r hr least 2 hi
      have s3 := fun (w : Nat) hw r hr least hi => step7 (q + 5) (q + 2) m s hs k hk w hw r hr least 3 hi
      rw [hb] at hb0 ⊢
      generalize (s.data.toList.getD (k + 1) 0).toNat = b1 at hb1 o1 s1 ⊢
      generalize (s.data.toList.getD (k + 2) 0).toNat = b2 at hb2 o2 s2 ⊢
      generalize (s.data.toList.getD (k + 3) 0).toNat = b3 at hb3 o3 s3 ⊢
      obtain ⟨D, hD⟩ : ∃ D, Lib.decodeN (s.size - k) b b1 b2 b3 = D := ⟨_, rfl⟩
      rw [hD]
      unfold Lib.decodeN at hD
      have hbad : D = (65533, 1) → ∀ x y : Bool, (some (x && y && (if D.1 = 65533 ∧ D.2 = 1 then false else Lib.validD (s.data.toList.drop (k + D.2))), ()) : Option F_ref06_Clean.R) = some (false, ()) := by
        rintro rfl x y; rw [if_pos ⟨rfl, rfl⟩, Bool.and_false]
      have hgood : ∀ r w, D = (r, w) → w ≠ 1 ∨ r ≠ 65533 → (if D.1 = 65533 ∧ D.2 = 1 then false else Lib.validD (s.data.toList.drop (k + D.2))) = Lib.validD (s.data.toList.drop (k + w)) := by
        rintro r w rfl h'; rw [if_neg (by simp only; omega)]
      by_cases h1 : b < 128
      · rw [if_pos h1] at hD
        rw [if_pos h1, sign44 q m s hs k hlt b 1 (by omega) b h1 0, end7 (q + 5) (q + 4) m s hs k hk 1 (by omega) b 0]
        rw [hgood b 1 hD.symm (by omega), if_pos (by omega : 0 ≤ b ∧ b ≤ 1114111 ∧ ¬ (55296 ≤ b ∧ b ≤ 57343)), ih1 (by omega)]
        unfold ok32
        rw [hb]
        by_cases hc : 32 ≤ b ∧ b ≠ 127
        · rw [if_pos hc, decide_eq_true hc.1, decide_eq_true hc.2]; rfl
        · rw [if_neg hc]
          have : (decide (32 ≤ b) && decide (b ≠ 127)) = false := by simp; omega
          rw [this]; rfl
      · rw [if_neg h1] at hD ⊢
        rw [o0 (by omega)]
        by_cases h2 : 192 ≤ b ∧ b < 224
        · rw [if_pos h2, sign44 q m s hs k hlt b 2 (by omega) (b - 192) (by omega) 128, if_pos (by omega), s1 2 (by omega) (b - 192) (by omega) _ (by omega), end7 (q + 5) (q + 3) m s hs k hk 2 (by omega)]
          by_cases c : k + 1 < s.size ∧ b1 / 64 = 2
          · rw [if_pos ⟨by omega, by omega, c.2⟩] at hD
            rw [if_pos c.1, if_pos c.2]
            have er : (b - 192) * 64 + b1 % 64 = b % 32 * 64 + b1 % 64 := by omega
            rw [er]
            have hrr : b % 32 * 64 + b1 % 64 < 2048 := by omega
            generalize b % 32 * 64 + b1 % 64 = rr at hD hrr ⊢
            by_cases c3 : rr ≥ 128
            · rw [if_pos c3] at hD
              rw [if_pos (by omega : 128 ≤ rr ∧ rr ≤ 1114111 ∧ ¬ (55296 ≤ rr ∧ rr ≤ 57343)), hgood _ _ hD.symm (by omega), ih2 (by omega), a1 (by omega), o1 (by omega)]; rfl
            · rw [if_neg c3] at hD
              rw [if_neg (by omega : ¬ (128 ≤ rr ∧ rr ≤ 1114111 ∧ ¬ (55296 ≤ rr ∧ rr ≤ 57343))), hbad hD.symm]
          · rw [if_neg (by omega), if_neg (by omega), if_neg (by omega)] at hD
            rw [hbad hD.symm]
            by_cases c3 : k + 1 < s.size
            · rw [if_pos c3, if_neg (by omega)]
            · rw [if_neg c3]
        · rw [if_neg h2]
          rw [if_neg (by omega)] at hD
          by_cases h3 : 224 ≤ b ∧ b < 240
          · rw [if_pos h3, sign44 q m s hs k hlt b 3 (by omega) (b - 224) (by omega) 2048, if_pos (by omega), s1 3 (by omega) (b - 224) (by omega) _ (by omega)]
            by_cases c1 : k + 1 < s.size ∧ b1 / 64 = 2
            · rw [if_pos c1.1, if_pos c1.2, s2 3 (by omega) _ (by omega) _ (by omega), end7 (q + 5) (q + 2) m s hs k hk 3 (by omega)]
              by_cases c2 : k + 2 < s.size ∧ b2 / 64 = 2
              · rw [if_pos ⟨by omega, ⟨by omega, c1.2⟩, by omega, c2.2⟩] at hD
                rw [if_pos c2.1, if_pos c2.2]
                have er : ((b - 224) * 64 + b1 % 64) * 64 + b2 % 64 = b % 16 * 4096 + b1 % 64 * 64 + b2 % 64 := by omega
                rw [er]
                generalize b % 16 * 4096 + b1 % 64 * 64 + b2 % 64 = rr at hD ⊢
                by_cases c3 : rr ≥ 2048 ∧ (rr < 55296 ∨ 57344 ≤ rr ∧ rr ≤ 1114111)
                · rw [if_pos c3] at hD
                  rw [if_pos (by omega : 2048 ≤ rr ∧ rr ≤ 1114111 ∧ ¬ (55296 ≤ rr ∧ rr ≤ 57343)), hgood _ _ hD.symm (by omega), ih3 (by omega), a1 (by omega), o1 (by omega), a2 (by omega), o2 (by omega)]; rfl
                · rw [if_neg c3] at hD
                  rw [if_neg (by omega : ¬ (2048 ≤ rr ∧ rr ≤ 1114111 ∧ ¬ (55296 ≤ rr ∧ rr ≤ 57343))), hbad hD.symm]
              · rw [if_neg (by omega), if_neg (by omega)] at hD
                rw [hbad hD.symm]
                by_cases c3 : k + 2 < s.size
                · rw [if_pos c3, if_neg (by omega)]
                · rw [if_neg c3]
            · rw [if_neg (by omega), if_neg (by omega)] at hD
              rw [hbad hD.symm]
              by_cases c3 : k + 1 < s.size
              · rw [if_pos c3, if_neg (by omega)]
              · rw [if_neg c3]
          · rw [if_neg h3]
            rw [if_neg (by omega)] at hD
            by_cases h4 : 240 ≤ b ∧ b < 248
            · rw [if_pos h4, sign44 q m s hs k hlt b 4 (by omega) (b - 240) (by omega) 65536, if_pos (by omega), s1 4 (by omega) (b - 240) (by omega) _ (by omega)]
              by_cases c1 : k + 1 < s.size ∧ b1 / 64 = 2
              · rw [if_pos c1.1, if_pos c1.2, s2 4 (by omega) _ (by omega) _ (by omega)]
                by_cases c2 : k + 2 < s.size ∧ b2 / 64 = 2
                · rw [if_pos c2.1, if_pos c2.2, s3 4 (by omega) _ (by omega) _ (by omega), end7 (q + 5) (q + 1) m s hs k hk 4 (by omega)]
                  by_cases c5 : k + 3 < s.size ∧ b3 / 64 = 2
                  · rw [if_pos ⟨by omega, ⟨by omega, c1.2⟩, ⟨by omega, c2.2⟩, by omega, c5.2⟩] at hD
                    rw [if_pos c5.1, if_pos c5.2]
                    have er : (((b - 240) * 64 + b1 % 64) * 64 + b2 % 64) * 64 + b3 % 64 = b % 8 * 262144 + b1 % 64 * 4096 + b2 % 64 * 64 + b3 % 64 := by omega
                    rw [er]
                    generalize b % 8 * 262144 + b1 % 64 * 4096 + b2 % 64 * 64 + b3 % 64 = rr at hD ⊢
                    by_cases c3 : rr ≥ 65536 ∧ (rr < 55296 ∨ 57344 ≤ rr ∧ rr ≤ 1114111)
                    · rw [if_pos c3] at hD
                      rw [if_pos (by omega : 65536 ≤ rr ∧ rr ≤ 1114111 ∧ ¬ (55296 ≤ rr ∧ rr ≤ 57343)), hgood _ _ hD.symm (by omega), ih4 (by omega), a1 (by omega), o1 (by omega), a2 (by omega), o2 (by omega), a3 (by omega), o3 (by omega)]; rfl
                    · rw [if_neg c3] at hD
                      rw [if_neg (by omega : ¬ (65536 ≤ rr ∧ rr ≤ 1114111 ∧ ¬ (55296 ≤ rr ∧ rr ≤ 57343))), hbad hD.symm]
                  · rw [if_neg (by omega)] at hD
                    rw [hbad hD.symm]
                    by_cases c3 : k + 3 < s.size
                    · rw [if_pos c3, if_neg (by omega)]
                    · rw [if_neg c3]
                · rw [if_neg (by omega)] at hD
                  rw [hbad hD.symm]
                  by_cases c3 : k + 2 < s.size
                  · rw [if_pos c3, if_neg (by omega)]
                  · rw [if_neg c3]
              · rw [if_neg (by omega)] at hD
                rw [hbad hD.symm]
                by_cases c3 : k + 1 < s.size
                · rw [if_pos c3, if_neg (by omega)]
                · rw [if_neg c3]
            · rw [if_neg (by omega)] at hD
              rw [if_neg h4, hbad hD.symm]
    · have hkk : k = s.size := by omega
      subst hkk
      rw [F_ref06_Clean.e1]
      simp only [hide_eq, bIf_eq, gIf_eq]
      rw [if_neg (by simp), hsz, List.drop_length]
      rw [F_ref06_Clean.e12]; rfl

theorem clean44 {n : Nat} {s : ByteArray} (hs : s.size ≤ 1073741824) (hn : s.size < n) (h5 : 5 ≤ n) : F_ref06_Clean.f n s = some (cleanB s, ()) := by
  obtain ⟨q, rfl⟩ : ∃ q, n = q + 5 := ⟨n - 5, by omega⟩
  rw [F_ref06_Clean.e0]
  change F_ref06_Clean.J1 (q + 5) (q + 5) (s, ((0 : Nat) : Int), ()) = _
  rw [clean44_J q s hs (q + 5) 0 (by omega) (by omega)]
  rfl
end Go.Proofs.YtcpkhpboemfglaaGreatDoor

namespace Go.Proofs.YtcpkhpboemfglaaGreatDoor
open Go Go.Va Go.Proofs

theorem ba_beq (a b : ByteArray) : (a == b) = decide (a = b) := by
  change (a.data == b.data) = _
  by_cases h : a = b
  · subst h; simp
  · rw [decide_eq_false h]
    exact beq_false_of_ne (fun e => h (by cases a; cases b; exact congrArg _ e))
theorem eqS_eq (a b : ByteArray) : eqS a b = (a == b) := by
  unfold eqS
  rw [Lib.toList_data, Lib.toList_data, ba_beq]
  by_cases h : a = b
  · subst h; simp
  · rw [decide_eq_false h]
    exact beq_false_of_ne (fun e => h (by cases a; cases b; simp at e; rw [e]))

/-- The moment in the bounds that is nearest. -/
def clampI (t : Int) : Int := if t < -62135596800 then -62135596800 else if t > 253402300799 then 253402300799 else t
theorem clamp33 (n : Nat) (t : Int) : F_when_Clamp.f n t = some (clampI t, ()) := by
  rw [F_when_Clamp.e0]
  unfold clampI maxI minI
  congr 2
  repeat' split
  all_goals omega
theorem clamp36 (n : Nat) (t : Int) : F_ref05_Clamp.f n t = some (clampI t, ()) := by
  rw [F_ref05_Clamp.e0]
  unfold clampI
  simp only [hide_eq, bIf_eq, decide_eq_true_eq]
  repeat' split
  all_goals first | rfl | omega

/-- May it be a lock? -/
def lockB (l : D_api_Lock) : Bool :=
  if l.1 = 0 then l.2.1 == 0 else if l.1 = 1 ∨ l.1 = 2 then l.2.1 == clampI l.2.1 else false
theorem lock34 (n : Nat) (l : D_api_Lock) : F_mode_Sound.f n l = some (lockB l, ()) := by
  rw [F_mode_Sound.e0]
  unfold lockB
  simp only [hide_eq, bIf_eq, F_mode_Sound.e1, clamp33, bnd_some, beq_iff_eq]
  by_cases h0 : l.1 = 0
  · rw [if_pos h0, if_pos h0]
  · rw [if_neg h0, if_neg h0]
    by_cases h1 : l.1 = 1
    · rw [if_pos h1, if_pos (c := l.1 = 1 ∨ l.1 = 2) (.inl h1)]; rfl
    · rw [if_neg h1]
      by_cases h2 : l.1 = 2
      · rw [if_pos h2, if_pos (c := l.1 = 1 ∨ l.1 = 2) (.inr h2)]
      · rw [if_neg h2, if_neg (c := l.1 = 1 ∨ l.1 = 2) (not_or.2 ⟨h1, h2⟩)]
theorem lock37 (n : Nat) (l : D_api_Lock) : F_ref12_Sound.f n l = some (lockB l, ()) := by
  rw [F_ref12_Sound.e0]
  unfold lockB
  simp only [hide_eq, bIf_eq, clamp36, bnd_some, beq_iff_eq]
  by_cases h0 : l.1 = 0
  · rw [if_pos h0, if_pos h0]
  · rw [if_neg h0, if_neg h0]
    by_cases h1 : l.1 = 1
    · rw [if_pos h1, if_pos (c := l.1 = 1 ∨ l.1 = 2) (.inl h1), BEq.comm]
    · rw [if_neg h1]
      by_cases h2 : l.1 = 2
      · rw [if_pos h2, if_pos (c := l.1 = 1 ∨ l.1 = 2) (.inr h2), BEq.comm]
      · rw [if_neg h2, if_neg (c := l.1 = 1 ∨ l.1 = 2) (not_or.2 ⟨h1, h2⟩)]

theorem size0 (s : ByteArray) : eqS s ⟨#[]⟩ = decide (s.size = 0) := by
  rw [eqS_eq, ba_beq]
  by_cases h : s = ⟨#[]⟩
  · subst h; rfl
  · rw [decide_eq_false h, decide_eq_false]
    intro h2
    apply h
    cases s with | mk d =>
    have : d = #[] := Array.eq_empty_of_size_eq_zero h2
    rw [this]

/-- May it be a tag? -/
def tagB (t : D_api_Tag) : Bool := decide (1 ≤ t.1.size) && (decide (t.1.size ≤ 64) && (decide (t.2.1.size ≤ 64) && (cleanB t.1 && cleanB t.2.1)))
/-- The room that the rounds have. -/
def TB (n : Nat) (t : D_api_Tag) : Prop := t.1.size < n ∧ t.2.1.size < n
theorem tag47 {n : Nat} {t : D_api_Tag} (h : TB n t) (hn : n ≤ 536870912) : F_tags_good.f n t = some (tagB t, ()) := by
  rw [F_tags_good.e0]
  unfold tagB
  rw [clean42 (by have := h.1; omega) h.1, clean42 (by have := h.2; omega) h.2, size0]
  simp only [hide_eq, bIf_eq, bnd_some]
  have e1 : decide ((t.1.size : Int) ≤ 64) = decide (t.1.size ≤ 64) := decide_eq_decide.2 (by omega)
  have e2 : decide ((t.2.1.size : Int) ≤ 64) = decide (t.2.1.size ≤ 64) := decide_eq_decide.2 (by omega)
  have e0 : (!decide (t.1.size = 0)) = decide (1 ≤ t.1.size) := by
    by_cases h0 : t.1.size = 0
    · rw [decide_eq_true h0, decide_eq_false (by omega)]; rfl
    · rw [decide_eq_false h0, decide_eq_true (by omega)]; rfl
  rw [e0, e1, e2]
  cases decide (1 ≤ t.1.size) <;> cases decide (t.1.size ≤ 64) <;> cases decide (t.2.1.size ≤ 64) <;> cases cleanB t.1 <;> simp

/-- A list, one by one, each beside the one ahead of it. -/
def chk {α : Type} (p : α → Bool) (q : α → α → Bool) : Option α → List α → Bool
  | _, [] => true
  | none, x :: l => p x && chk p q (some x) l
  | some y, x :: l => p x && (q y x && chk p q (some x) l)
/-- What stands ahead of a place. -/
def prev {α : Type} (l : List α) (k : Nat) : Option α := if k = 0 then none else l[k - 1]?
theorem chk_zero {α : Type} {p : α → Bool} {q : α → α → Bool} {l : List α} {d : α} (h : 0 < l.length) : chk p q (prev l 0) (l.drop 0) = (p (l.getD 0 d) && chk p q (prev l 1) (l.drop 1)) := by
  cases l with
  | nil => simp at h
  | cons x r => rfl
theorem chk_succ {α : Type} {p : α → Bool} {q : α → α → Bool} {l : List α} {d : α} {k : Nat} (h0 : 0 < k) (h : k < l.length) : chk p q (prev l k) (l.drop k) = (p (l.getD k d) && (q (l.getD (k - 1) d) (l.getD k d) && chk p q (prev l (k + 1)) (l.drop (k + 1)))) := by
  rw [List.drop_eq_getElem_cons h]
  unfold prev
  rw [if_neg (by omega), if_neg (by omega), List.getElem?_eq_getElem (by omega), Nat.add_sub_cancel, List.getElem?_eq_getElem h]
  rw [List.getD_eq_getElem?_getD, List.getD_eq_getElem?_getD, List.getElem?_eq_getElem h, List.getElem?_eq_getElem (by omega)]
  rfl
theorem chk_end {α : Type} {p : α → Bool} {q : α → α → Bool} {l : List α} {k : Nat} (h : l.length ≤ k) (o : Option α) : chk p q o (l.drop k) = true := by
  rw [List.drop_eq_nil_of_le h]; cases o <;> rfl
theorem getD_memA {α : Type} {l : List α} {k : Nat} {d : α} (h : k < l.length) : l.getD k d ∈ l := by
  rw [List.getD_eq_getElem?_getD, List.getElem?_eq_getElem h]; exact List.getElem_mem h

/-- May they be tags? -/
def tagsB (l : List (D_api_Tag)) : Bool := decide (l.length ≤ 8) && chk tagB (fun a b => ltS a.1 b.1) none l
/-- The room for tags. -/
def TsB (n : Nat) (l : List (D_api_Tag)) : Prop := l.length < n ∧ ∀ t ∈ l, TB n t

theorem tags35_J (n : Nat) (hn : n ≤ 536870912) (l : List (D_api_Tag)) (hl : TsB n l) : ∀ (m k : Nat), k ≤ l.length → l.length - k < m →
    F_tags_Sound.J1 n m (l, l, ((l.length : Nat) : Int), (k : Int), ()) = some (chk tagB (fun a b => ltS a.1 b.1) (prev l k) (l.drop k), ())
  | 0, k, _, h => by omega
  | m + 1, k, hk, h => by
    have hl1 := hl.1
    rw [F_tags_Sound.e1]
    simp only [hide_eq, bIf_eq, gIf_eq]
    by_cases hlt : k < l.length
    · have ih := tags35_J n hn l hl m (k + 1) (by omega) (by omega)
      rw [if_pos (decide_eq_true (by omega)), if_pos ⟨by omega, by omega⟩, Int.toNat_natCast, tag47 (hl.2 _ (getD_memA hlt)) hn, bnd_some, wrap_i64 (x := (k : Int) + 1) (by omega), show ((k : Int) + 1) = ((k + 1 : Nat) : Int) by omega, ih]
      by_cases h0 : k = 0
      · subst h0
        rw [chk_zero (d := Va.dflt T_api_Tag) (by omega), if_neg (c := decide (((0 : Nat) : Int) > 0) = true) (by simp)]
        cases tagB (l.getD 0 (Va.dflt T_api_Tag)) <;> simp
      · rw [chk_succ (d := Va.dflt T_api_Tag) (by omega) hlt, if_pos (c := decide ((k : Int) > 0) = true) (decide_eq_true (by omega)), wrap_i64 (by omega), if_pos (show 0 ≤ (k : Int) - 1 ∧ (k : Int) - 1 < ((l.length : Nat) : Int) from ⟨by omega, by omega⟩), show ((k : Int) - 1).toNat = k - 1 by omega]
        cases tagB (l.getD k (Va.dflt T_api_Tag)) <;> cases ltS (l.getD (k - 1) (Va.dflt T_api_Tag)).1 (l.getD k (Va.dflt T_api_Tag)).1 <;> simp
    · rw [if_neg (by simp; omega), chk_end (by omega)]
      rw [F_tags_Sound.e2]
theorem tags35 {n : Nat} (hn : n ≤ 536870912) {l : List (D_api_Tag)} (hl : TsB n l) : F_tags_Sound.f n l = some (tagsB l, ()) := by
  have h := tags35_J n hn l hl n 0 (by omega) (by have := hl.1; omega)
  rw [F_tags_Sound.e0]
  unfold tagsB
  simp only [hide_eq, bIf_eq]
  by_cases h8 : l.length ≤ 8
  · rw [if_neg (by simp; omega), decide_eq_true h8]
    exact h
  · rw [if_pos (decide_eq_true (by omega)), decide_eq_false h8]; rfl

theorem less_tri : ∀ x y : List UInt8, Op.bytesLess x y = !(Op.bytesLess y x || y == x)
  | [], [] => rfl
  | [], _ :: _ => rfl
  | _ :: _, [] => rfl
  | a :: x, b :: y => by
    have ih := less_tri x y
    simp only [Op.bytesLess, List.cons_beq_cons, ih]
    by_cases h : a = b
    · subst h
      simp
    · have h1 : (a == b) = false := beq_false_of_ne h
      have h2 : (b == a) = false := beq_false_of_ne (fun e => h e.symm)
      rw [h1, h2]
      simp only [Bool.false_and, Bool.or_false]
      have h3 : ¬ a.toNat = b.toNat := fun e => h (UInt8.toNat_inj.1 e)
      have h4 : decide (a < b) = decide (a.toNat < b.toNat) := decide_eq_decide.2 UInt8.lt_iff_toNat_lt
      have h5 : decide (b < a) = decide (b.toNat < a.toNat) := decide_eq_decide.2 UInt8.lt_iff_toNat_lt
      rw [h4, h5]
      by_cases h6 : a.toNat < b.toNat
      · rw [decide_eq_true h6, decide_eq_false (by omega)]; rfl
      · rw [decide_eq_false h6, decide_eq_true (by omega)]; rfl
theorem ltS_tri (a b : ByteArray) : ltS a b = !(ltS b a || eqS b a) := less_tri _ _

theorem tags38_J (n : Nat) (hn : n ≤ 536870912) (h5 : 5 ≤ n) (l : List (D_api_Tag)) (hl : TsB n l) : ∀ (m k : Nat), k ≤ l.length → l.length - k < m →
    F_ref08_Sound.J1 n m (l, (k : Int), ()) = some (chk tagB (fun a b => ltS a.1 b.1) (prev l k) (l.drop k), ())
  | 0, k, _, h => by omega
  | m + 1, k, hk, h => by
    have hl1 := hl.1
    rw [F_ref08_Sound.e1]
    simp only [hide_eq, bIf_eq, gIf_eq]
    by_cases hlt : k < l.length
    · have ih := tags38_J n hn h5 l hl m (k + 1) (by omega) (by omega)
      have hg : (0 ≤ (k : Int) ∧ (k : Int) < ((l.length : Nat) : Int)) := ⟨by omega, by omega⟩
      obtain ⟨hb1, hb2⟩ := hl.2 _ (getD_memA (d := Va.dflt T_api_Tag) hlt)
      rw [if_pos (decide_eq_true (by omega))]
      simp only [if_pos hg, Int.toNat_natCast]
      rw [clean44 (by omega) hb1 h5, clean44 (by omega) hb2 h5, bnd_some, bnd_some, F_ref08_Sound.e2]
      simp only [hide_eq, bIf_eq, gIf_eq, F_ref08_Sound.e3, if_pos hg, Int.toNat_natCast]
      rw [wrap_i64 (x := (k : Int) + 1) (by omega), show ((k : Int) + 1) = ((k + 1 : Nat) : Int) by omega, ih]
      have hx : chk tagB (fun a b => ltS a.1 b.1) (prev l k) (l.drop k) = (tagB (l.getD k (Va.dflt T_api_Tag)) && ((if k = 0 then true else ltS (l.getD (k - 1) (Va.dflt T_api_Tag)).1 (l.getD k (Va.dflt T_api_Tag)).1) && chk tagB (fun a b => ltS a.1 b.1) (prev l (k + 1)) (l.drop (k + 1)))) := by
        by_cases h0 : k = 0
        · subst h0
          rw [chk_zero (d := Va.dflt T_api_Tag) (by omega), if_pos rfl, Bool.true_and]
        · rw [chk_succ (d := Va.dflt T_api_Tag) (by omega) hlt, if_neg h0]
      rw [hx]
      have g1 : decide (((l.getD k (Va.dflt T_api_Tag)).1.size : Int) < 1) = !decide (1 ≤ (l.getD k (Va.dflt T_api_Tag)).1.size) := by
        by_cases h0 : 1 ≤ (l.getD k (Va.dflt T_api_Tag)).1.size
        · rw [decide_eq_true h0, decide_eq_false (by omega)]; rfl
        · rw [decide_eq_false h0, decide_eq_true (by omega)]; rfl
      have g2 : decide (((l.getD k (Va.dflt T_api_Tag)).1.size : Int) > 64) = !decide ((l.getD k (Va.dflt T_api_Tag)).1.size ≤ 64) := by
        by_cases h0 : (l.getD k (Va.dflt T_api_Tag)).1.size ≤ 64
        · rw [decide_eq_true h0, decide_eq_false (by omega)]; rfl
        · rw [decide_eq_false h0, decide_eq_true (by omega)]; rfl
      have g3 : decide (((l.getD k (Va.dflt T_api_Tag)).2.1.size : Int) > 64) = !decide ((l.getD k (Va.dflt T_api_Tag)).2.1.size ≤ 64) := by
        by_cases h0 : (l.getD k (Va.dflt T_api_Tag)).2.1.size ≤ 64
        · rw [decide_eq_true h0, decide_eq_false (by omega)]; rfl
        · rw [decide_eq_false h0, decide_eq_true (by omega)]; rfl
      simp only [g1, g2, g3]
      have hy : (if decide ((k : Int) > 0) = true then if 0 ≤ IntKind.i64.wrap ((k : Int) - 1) ∧ IntKind.i64.wrap ((k : Int) - 1) < ((l.length : Nat) : Int) then if (ltS (l.getD k (Va.dflt T_api_Tag)).1 (l.getD (IntKind.i64.wrap ((k : Int) - 1)).toNat (Va.dflt T_api_Tag)).1 || eqS (l.getD k (Va.dflt T_api_Tag)).1 (l.getD (IntKind.i64.wrap ((k : Int) - 1)).toNat (Va.dflt T_api_Tag)).1) = true then some (false, ()) else some (chk tagB (fun a b => ltS a.1 b.1) (prev l (k + 1)) (l.drop (k + 1)), ()) else none else (some (chk tagB (fun a b => ltS a.1 b.1) (prev l (k + 1)) (l.drop (k + 1)), ()) : Option F_ref08_Sound.R)) =
          some ((if k = 0 then true else ltS (l.getD (k - 1) (Va.dflt T_api_Tag)).1 (l.getD k (Va.dflt T_api_Tag)).1) && chk tagB (fun a b => ltS a.1 b.1) (prev l (k + 1)) (l.drop (k + 1)), ()) := by
        by_cases h0 : k = 0
        · rw [if_neg (by simp; omega), if_pos h0]; rfl
        · rw [if_pos (decide_eq_true (by omega)), if_neg h0, wrap_i64 (by omega), if_pos (show 0 ≤ (k : Int) - 1 ∧ (k : Int) - 1 < ((l.length : Nat) : Int) from ⟨by omega, by omega⟩), show ((k : Int) - 1).toNat = k - 1 by omega, ltS_tri (l.getD (k - 1) (Va.dflt T_api_Tag)).1 (l.getD k (Va.dflt T_api_Tag)).1]
          cases (ltS (l.getD k (Va.dflt T_api_Tag)).1 (l.getD (k - 1) (Va.dflt T_api_Tag)).1 || eqS (l.getD k (Va.dflt T_api_Tag)).1 (l.getD (k - 1) (Va.dflt T_api_Tag)).1) <;> simp
      simp only [hy]
      unfold tagB
      cases decide (1 ≤ (l.getD k (Va.dflt T_api_Tag)).1.size) <;> cases decide ((l.getD k (Va.dflt T_api_Tag)).1.size ≤ 64) <;> cases decide ((l.getD k (Va.dflt T_api_Tag)).2.1.size ≤ 64) <;> cases cleanB (l.getD k (Va.dflt T_api_Tag)).1 <;> cases cleanB (l.getD k (Va.dflt T_api_Tag)).2.1 <;> simp
    · rw [if_neg (by simp; omega), chk_end (by omega)]
      rw [F_ref08_Sound.e4]
theorem tags38 {n : Nat} (hn : n ≤ 536870912) (h5 : 5 ≤ n) {l : List (D_api_Tag)} (hl : TsB n l) : F_ref08_Sound.f n l = some (tagsB l, ()) := by
  have h := tags38_J n hn h5 l hl n 0 (by omega) (by have := hl.1; omega)
  rw [F_ref08_Sound.e0]
  unfold tagsB
  simp only [hide_eq, bIf_eq]
  by_cases h8 : l.length ≤ 8
  · rw [if_neg (by simp; omega), decide_eq_true h8]
    exact h
  · rw [if_pos (decide_eq_true (by omega)), decide_eq_false h8]; rfl

/-- Two lists, one by one. -/
def allB {α : Type} (q : α → α → Bool) : List α → List α → Bool
  | [], [] => true
  | x :: a, y :: b => q x y && allB q a b
  | _, _ => false
theorem allB_len {α : Type} {q : α → α → Bool} : ∀ (a b : List α), a.length ≠ b.length → allB q a b = false
  | [], [], h => absurd rfl h
  | [], _ :: _, _ => rfl
  | _ :: _, [], _ => rfl
  | x :: a, y :: b, h => by
    unfold allB
    rw [allB_len a b (by simp at h; omega), Bool.and_false]
theorem allB_step {α : Type} {q : α → α → Bool} {a b : List α} {k : Nat} (d : α) (ha : k < a.length) (hb : k < b.length) : allB q (a.drop k) (b.drop k) = (q (a.getD k d) (b.getD k d) && allB q (a.drop (k + 1)) (b.drop (k + 1))) := by
  rw [List.drop_eq_getElem_cons ha, List.drop_eq_getElem_cons hb]
  rw [List.getD_eq_getElem?_getD, List.getD_eq_getElem?_getD, List.getElem?_eq_getElem ha, List.getElem?_eq_getElem hb]
  rfl
theorem allB_end {α : Type} {q : α → α → Bool} {a b : List α} {k : Nat} (ha : a.length ≤ k) (hb : b.length ≤ k) : allB q (a.drop k) (b.drop k) = true := by
  rw [List.drop_eq_nil_of_le ha, List.drop_eq_nil_of_le hb]; rfl
theorem allB_refl {α : Type} {q : α → α → Bool} : ∀ (a : List α), (∀ x ∈ a, q x x = true) → allB q a a = true
  | [], _ => rfl
  | x :: a, h => by
    unfold allB
    rw [h x List.mem_cons_self, allB_refl a (fun y hy => h y (List.mem_cons_of_mem _ hy))]; rfl

/-- Are two tags one? -/
def sameT (a b : D_api_Tag) : Bool := eqS a.1 b.1 && eqS a.2.1 b.2.1
theorem sameT_eq (a b : D_api_Tag) : eqD T_api_Tag a b = sameT a b := by
  change ((a.1 == b.1) && ((a.2.1 == b.2.1) && true)) = _
  unfold sameT
  rw [eqS_eq, eqS_eq, Bool.and_true]
theorem sameT_refl (a : D_api_Tag) : sameT a a = true := by unfold sameT; rw [eqS_self, eqS_self]; rfl

theorem same52_J (n : Nat) (hn : n ≤ 536870912) (a b : List (D_api_Tag)) (hab : a.length = b.length) (hl : a.length < n) : ∀ (m k : Nat), k ≤ a.length → a.length - k < m →
    F_slices_Equal_Tag.J1 n m (a, b, ((a.length : Nat) : Int), (k : Int), ()) = some (allB sameT (a.drop k) (b.drop k), ())
  | 0, k, _, h => by omega
  | m + 1, k, hk, h => by
    rw [F_slices_Equal_Tag.e1]
    simp only [hide_eq, bIf_eq, gIf_eq]
    by_cases hlt : k < a.length
    · have ih := same52_J n hn a b hab hl m (k + 1) (by omega) (by omega)
      rw [if_pos (decide_eq_true (by omega)), if_pos ⟨by omega, by omega⟩, if_pos ⟨by omega, by omega⟩, Int.toNat_natCast, wrap_i64 (x := (k : Int) + 1) (by omega), show ((k : Int) + 1) = ((k + 1 : Nat) : Int) by omega, ih, sameT_eq, allB_step (Va.dflt T_api_Tag) hlt (by omega)]
      cases sameT (a.getD k (Va.dflt T_api_Tag)) (b.getD k (Va.dflt T_api_Tag)) <;> simp
    · rw [if_neg (by simp; omega), allB_end (by omega) (by omega)]
      rw [F_slices_Equal_Tag.e2]
theorem same52 {n : Nat} (hn : n ≤ 536870912) {a b : List (D_api_Tag)} (ha : a.length < n) : F_slices_Equal_Tag.f n a b = some (allB sameT a b, ()) := by
  rw [F_slices_Equal_Tag.e0]
  simp only [hide_eq, bIf_eq]
  by_cases h : a.length = b.length
  · rw [if_neg (by simp [h])]
    exact same52_J n hn a b h ha n 0 (by omega) (by omega)
  · rw [if_pos (by simp; omega), allB_len a b h]
theorem same48 {n : Nat} (hn : n ≤ 536870912) {a b : List (D_api_Tag)} (ha : a.length < n) : F_tags_Same.f n a b = some (allB sameT a b, ()) := by
  rw [F_tags_Same.e0]
  rw [same52 hn ha, bnd_some]

theorem same32_J (n : Nat) (hn : n ≤ 536870912) (a b : List (D_api_Tag)) (hab : a.length = b.length) (hl : a.length < n) : ∀ (m k : Nat), k ≤ a.length → a.length - k < m →
    F_ref08_Same.J1 n m (a, b, (k : Int), ()) = some (allB sameT (a.drop k) (b.drop k), ())
  | 0, k, _, h => by omega
  | m + 1, k, hk, h => by
    rw [F_ref08_Same.e1]
    simp only [hide_eq, bIf_eq, gIf_eq, F_ref08_Same.e2]
    by_cases hlt : k < a.length
    · have ih := same32_J n hn a b hab hl m (k + 1) (by omega) (by omega)
      have hg : (0 ≤ (k : Int) ∧ (k : Int) < ((a.length : Nat) : Int)) := ⟨by omega, by omega⟩
      have hg2 : (0 ≤ (k : Int) ∧ (k : Int) < ((b.length : Nat) : Int)) := ⟨by omega, by omega⟩
      rw [if_pos (decide_eq_true (by omega))]
      simp only [if_pos hg, if_pos hg2, Int.toNat_natCast]
      rw [wrap_i64 (x := (k : Int) + 1) (by omega), show ((k : Int) + 1) = ((k + 1 : Nat) : Int) by omega, ih, allB_step (Va.dflt T_api_Tag) hlt (by omega)]
      have hx : sameT (a.getD k (Va.dflt T_api_Tag)) (b.getD k (Va.dflt T_api_Tag)) = (eqS (a.getD k (Va.dflt T_api_Tag)).1 (b.getD k (Va.dflt T_api_Tag)).1 && eqS (a.getD k (Va.dflt T_api_Tag)).2.1 (b.getD k (Va.dflt T_api_Tag)).2.1) := rfl
      rw [hx]
      rcases Bool.eq_false_or_eq_true (eqS (a.getD k (Va.dflt T_api_Tag)).1 (b.getD k (Va.dflt T_api_Tag)).1) with h1 | h1 <;> rcases Bool.eq_false_or_eq_true (eqS (a.getD k (Va.dflt T_api_Tag)).2.1 (b.getD k (Va.dflt T_api_Tag)).2.1) with h2 | h2 <;> simp only [h1, h2] <;> rfl
    · rw [if_neg (by simp; omega), allB_end (by omega) (by omega)]
      rw [F_ref08_Same.e3]
theorem same32 {n : Nat} (hn : n ≤ 536870912) {a b : List (D_api_Tag)} (ha : a.length < n) : F_ref08_Same.f n a b = some (allB sameT a b, ()) := by
  rw [F_ref08_Same.e0]
  simp only [hide_eq, bIf_eq]
  by_cases h : a.length = b.length
  · rw [if_neg (by simp [h])]
    exact same32_J n hn a b h ha n 0 (by omega) (by omega)
  · rw [if_pos (by simp; omega), allB_len a b h]

/-- May it be a key? -/
def keyB (s : ByteArray) : Bool := decide (1 ≤ s.size) && (decide (s.size ≤ 200) && cleanB s)
theorem key24 {n : Nat} {s : ByteArray} (hs : s.size < n) (hn : n ≤ 536870912) : F_label_Key.f n s = some (keyB s, ()) := by
  rw [F_label_Key.e0]
  unfold keyB
  rw [clean42 (by omega) hs, size0]
  simp only [hide_eq, bIf_eq, bnd_some]
  have e1 : decide ((s.size : Int) ≤ 200) = decide (s.size ≤ 200) := decide_eq_decide.2 (by omega)
  have e0 : (!decide (s.size = 0)) = decide (1 ≤ s.size) := by
    by_cases h0 : s.size = 0
    · rw [decide_eq_true h0, decide_eq_false (by omega)]; rfl
    · rw [decide_eq_false h0, decide_eq_true (by omega)]; rfl
  rw [e0, e1]
  cases decide (1 ≤ s.size) <;> cases decide (s.size ≤ 200) <;> simp
theorem key30 {n : Nat} {s : ByteArray} (hs : s.size < n) (hn : n ≤ 536870912) (h5 : 5 ≤ n) : F_ref06_Key.f n s = some (keyB s, ()) := by
  rw [F_ref06_Key.e0]
  unfold keyB
  rw [clean44 (by omega) hs h5]
  simp only [hide_eq, bIf_eq, bnd_some]
  have e1 : decide ((s.size : Int) ≤ 200) = decide (s.size ≤ 200) := decide_eq_decide.2 (by omega)
  have e0 : decide ((s.size : Int) ≥ 1) = decide (1 ≤ s.size) := decide_eq_decide.2 (by omega)
  rw [e0, e1]
  cases decide (1 ≤ s.size) <;> cases decide (s.size ≤ 200) <;> simp
end Go.Proofs.YtcpkhpboemfglaaGreatDoor

namespace Go.Proofs.YtcpkhpboemfglaaGreatDoor
open Go Go.Va Go.Proofs

abbrev Ver : Type := D_api_Version
def mark (v : Ver) : Bool := v.2.1
def vsize (v : Ver) : Int := v.2.2.1
def blob (v : Ver) : Int := v.2.2.2.1
def dig (v : Ver) : List Int := v.2.2.2.2.1
def made (v : Ver) : Int := v.2.2.2.2.2.1
def lock (v : Ver) : D_api_Lock := v.2.2.2.2.2.2.1
def tags (v : Ver) : List (D_api_Tag) := v.2.2.2.2.2.2.2.1

theorem z_pos (z : Int) : decide (z > 0) = decide (1 ≤ z) := decide_eq_decide.2 (by omega)
theorem z_ge (z : Int) : decide (z ≥ 1) = decide (1 ≤ z) := rfl
theorem z_eq (z : Int) (h : 0 ≤ z) : (z == 0) = !decide (1 ≤ z) := by
  by_cases h1 : z = 0
  · subst h1; rfl
  · rw [decide_eq_true (by omega), beq_false_of_ne h1]; rfl
theorem z_lt (z : Int) : decide (z < 1) = !decide (1 ≤ z) := by
  by_cases h : 1 ≤ z
  · rw [decide_eq_true h, decide_eq_false (by omega)]; rfl
  · rw [decide_eq_false h, decide_eq_true (by omega)]; rfl
theorem z_gt (x y : Int) : decide (x > y) = !decide (x ≤ y) := by
  rw [← decide_not]; exact decide_eq_decide.2 (by omega)
theorem z_ge2 (x y : Int) : decide (x ≥ y) = !decide (x < y) := by
  rw [← decide_not]; exact decide_eq_decide.2 (by omega)

/-- May it be a version? -/
def verB (v : Ver) : Bool :=
  decide (1 ≤ v.1) && (decide (made v = clampI (made v)) &&
    if mark v = true then (vsize v == 0) && ((blob v == 0) && ((dig v).all (· == 0) && (((lock v).1 == 0 && ((lock v).2.1 == 0 && !(lock v).2.2.1)) && decide ((tags v).length = 0))))
    else decide (0 ≤ vsize v) && (decide (vsize v ≤ 16384) && (decide (1 ≤ blob v) && (lockB (lock v) && tagsB (tags v)))))
/-- What every version that comes in is, and the room for it. -/
structure VB (n : Nat) (v : Ver) : Prop where
  id : 0 ≤ v.1
  blob : 0 ≤ blob v
  dig : (dig v).length = 32
  tags : TsB n (tags v)

theorem zeroD : ∀ (k : Nat) (d : List Int), d.length = k → eqD (.arr k (.int .u8)) d (List.replicate k 0) = d.all (· == 0)
  | 0, [], _ => rfl
  | k + 1, x :: d, h => by
    have ih := zeroD k d (by simpa using h)
    change (decide (x = 0) && eqD (.arr k (.int .u8)) d (List.replicate k 0)) = ((x == 0) && d.all (· == 0))
    rw [ih]; rfl

theorem ver18 {n : Nat} (hn : n ≤ 536870912) {v : Ver} (hv : VB n v) : F_object_Good.f n v = some (verB v, ()) := by
  rw [F_object_Good.e0]
  simp only [hide_eq, bIf_eq, clamp33, bnd_some]
  rw [F_object_Good.e1]
  have ht := tags35 hn hv.tags
  unfold tags at ht
  rw [lock34, ht]
  simp only [hide_eq, bIf_eq, bnd_some]
  have hz : eqD (.arr 32 (.int .u8)) v.2.2.2.2.1 ([] ++ List.replicate (32 - ([] : List Int).length) 0) = (dig v).all (· == 0) := zeroD 32 _ hv.dig
  rw [hz]
  have hl : eqD T_api_Lock v.2.2.2.2.2.2.1 (0, (0, (false, ()))) = ((lock v).1 == 0 && ((lock v).2.1 == 0 && !(lock v).2.2.1)) := by
    change (decide ((lock v).1 = 0) && (decide ((lock v).2.1 = 0) && (((lock v).2.2.1 == false) && true))) = _
    cases (lock v).2.2.1 <;> rfl
  rw [hl]
  have h0 := hv.id
  have hb := hv.blob
  have e2 : (((v.2.2.2.2.2.2.2.1.length : Nat) : Int) == 0) = decide ((tags v).length = 0) := by
    change (((tags v).length : Int) == 0) = _
    cases (tags v).length <;> rfl
  rw [e2]
  have e3 : decide (v.2.2.2.1 > 0) = decide (1 ≤ blob v) := z_pos (blob v)
  have e4 : (v.1 == 0) = !decide (1 ≤ v.1) := z_eq v.1 h0
  have e5 : (v.2.2.2.2.2.1 != clampI v.2.2.2.2.2.1) = !decide (made v = clampI (made v)) := rfl
  simp only [e3, e4, e5]
  unfold verB
  change (if (!decide (1 ≤ v.1)) = true then _ else if (!decide (made v = clampI (made v))) = true then _ else if mark v = true then _ else _) = _
  cases decide (1 ≤ v.1)
  · rfl
  · cases decide (made v = clampI (made v))
    · rfl
    · cases hm : mark v
      · change (if decide (0 ≤ vsize v) = true then if decide (vsize v ≤ 16384) = true then _ else _ else _) = _
        change (if decide (0 ≤ vsize v) = true then if decide (vsize v ≤ 16384) = true then if decide (1 ≤ blob v) = true then if lockB (lock v) = true then some (tagsB (tags v), ()) else some (false, ()) else some (false, ()) else some (false, ()) else (some (false, ()) : Option F_object_Good.R)) = _
        cases decide (0 ≤ vsize v) <;> cases decide (vsize v ≤ 16384) <;> cases decide (1 ≤ blob v) <;> cases lockB (lock v) <;> rfl
      · change (if (vsize v == 0) = true then if (blob v == 0) = true then if (dig v).all (· == 0) = true then if ((lock v).1 == 0 && ((lock v).2.1 == 0 && !(lock v).2.2.1)) = true then some (decide ((tags v).length = 0), ()) else some (false, ()) else some (false, ()) else some (false, ()) else (some (false, ()) : Option F_object_Good.R)) = _
        cases (vsize v == 0) <;> cases (blob v == 0) <;> cases (dig v).all (· == 0) <;> cases ((lock v).1 == 0 && ((lock v).2.1 == 0 && !(lock v).2.2.1)) <;> rfl

/-- The document's rest for a marker. -/
def rest19 (v : Ver) : Bool := (vsize v == 0) && ((blob v == 0) && (((lock v).1 == 0 && ((lock v).2.1 == 0 && !(lock v).2.2.1)) && decide ((tags v).length = 0)))
theorem rest19_eq (n : Nat) (v : Ver) : F_ref13_Good.J3 n (v, ()) = some (rest19 v, ()) := by
  rw [F_ref13_Good.e3]
  unfold rest19
  simp only [hide_eq, bIf_eq]
  have e2 : (((v.2.2.2.2.2.2.2.1.length : Nat) : Int) == 0) = decide ((tags v).length = 0) := by
    change (((tags v).length : Int) == 0) = _
    cases (tags v).length <;> rfl
  rw [e2]
  change (if (vsize v == 0) = true then if (blob v == 0) = true then if ((lock v).1 == 0) = true then if ((lock v).2.1 == 0) = true then if (!(lock v).2.2.1) = true then some (decide ((tags v).length = 0), ()) else some (false, ()) else some (false, ()) else some (false, ()) else some (false, ()) else (some (false, ()) : Option F_ref13_Good.R)) = _
  cases (vsize v == 0) <;> cases (blob v == 0) <;> cases ((lock v).1 == 0) <;> cases ((lock v).2.1 == 0) <;> cases (lock v).2.2.1 <;> rfl
theorem dig19_J (n : Nat) (v : Ver) (hd : (dig v).length = 32) : ∀ (m k : Nat), k ≤ 32 → 32 - k < m →
    F_ref13_Good.J2 n m ((k : Int), v, ()) = some (((dig v).drop k).all (· == 0) && rest19 v, ())
  | 0, k, _, h => by omega
  | m + 1, k, hk, h => by
    rw [F_ref13_Good.e2]
    simp only [hide_eq, bIf_eq, gIf_eq]
    by_cases hlt : k < 32
    · have ih := dig19_J n v hd m (k + 1) (by omega) (by omega)
      rw [if_pos (decide_eq_true (by omega)), if_pos ⟨by omega, by omega⟩, Int.toNat_natCast, wrap_i64 (x := (k : Int) + 1) (by omega), show ((k : Int) + 1) = ((k + 1 : Nat) : Int) by omega, ih]
      have hk' : k < (dig v).length := by rw [hd]; exact hlt
      rw [List.drop_eq_getElem_cons hk', List.all_cons]
      have e4 : List.getD v.2.2.2.2.1 k 0 = (dig v)[k]'hk' := by
        change (dig v).getD k 0 = _
        rw [List.getD_eq_getElem?_getD, List.getElem?_eq_getElem hk']; rfl
      rw [e4]
      cases hx : ((dig v)[k]'hk' == 0)
      · rw [if_pos (by simp [bne, hx])]; rfl
      · rw [if_neg (by simp [bne, hx])]; rfl
    · rw [if_neg (by simp; omega), rest19_eq, List.drop_eq_nil_of_le (by omega)]
      rfl
theorem ver19 {n : Nat} (hn : n ≤ 536870912) (h5 : 40 ≤ n) {v : Ver} (hv : VB n v) : F_ref13_Good.f n v = some (verB v, ()) := by
  rw [F_ref13_Good.e0]
  have hd := dig19_J n v hv.dig n 0 (by omega) (by omega)
  simp only [hide_eq, bIf_eq, clamp36, bnd_some]
  rw [F_ref13_Good.e1]
  have ht := tags38 hn (by omega) hv.tags
  unfold tags at ht
  rw [lock37, ht]
  simp only [hide_eq, bIf_eq, bnd_some]
  have hd' : F_ref13_Good.J2 n n (0, v, ()) = some ((dig v).all (· == 0) && rest19 v, ()) := hd
  rw [hd']
  have e4 : decide (v.1 < 1) = !decide (1 ≤ v.1) := z_lt v.1
  have e5 : (clampI v.2.2.2.2.2.1 != v.2.2.2.2.2.1) = !decide (made v = clampI (made v)) := by
    unfold bne; rw [BEq.comm]; rfl
  simp only [e4, e5]
  unfold verB
  change (if (!decide (1 ≤ v.1)) = true then _ else if (!decide (made v = clampI (made v))) = true then _ else if (!mark v) = true then _ else _) = _
  cases decide (1 ≤ v.1)
  · rfl
  · cases decide (made v = clampI (made v))
    · rfl
    · cases hm : mark v
      · change (if decide (0 ≤ vsize v) = true then if decide (vsize v ≤ 16384) = true then if decide (1 ≤ blob v) = true then if lockB (lock v) = true then some (tagsB (tags v), ()) else some (false, ()) else some (false, ()) else some (false, ()) else (some (false, ()) : Option F_ref13_Good.R)) = _
        cases decide (0 ≤ vsize v) <;> cases decide (vsize v ≤ 16384) <;> cases decide (1 ≤ blob v) <;> cases lockB (lock v) <;> rfl
      · change some ((dig v).all (· == 0) && rest19 v, ()) = _
        unfold rest19
        cases (vsize v == 0) <;> cases (blob v == 0) <;> cases (dig v).all (· == 0) <;> cases ((lock v).1 == 0 && ((lock v).2.1 == 0 && !(lock v).2.2.1)) <;> rfl

/-- Are two versions one? -/
def sameV (a b : Ver) : Bool := allB sameT (tags a) (tags b) && ((a.1 == b.1) && ((mark a == mark b) && ((vsize a == vsize b) && ((blob a == blob b) && (eqD (.arr 32 (.int .u8)) (dig a) (dig b) && ((made a == made b) && eqD T_api_Lock (lock a) (lock b)))))))
theorem sameV40 {n : Nat} (hn : n ≤ 536870912) {a b : Ver} (ha : (tags a).length < n) : F_object_SameVersion.f n a b = some (sameV a b, ()) := by
  rw [F_object_SameVersion.e0]
  have h := same48 (b := tags b) hn ha
  unfold tags at h
  rw [h, bnd_some]
  simp only [hide_eq, bIf_eq]
  unfold sameV
  change (if allB sameT (tags a) (tags b) = true then if (a.1 == b.1) = true then if (mark a == mark b) = true then if (vsize a == vsize b) = true then if (blob a == blob b) = true then if eqD (.arr 32 (.int .u8)) (dig a) (dig b) = true then if (made a == made b) = true then some (eqD T_api_Lock (lock a) (lock b), ()) else some (false, ()) else some (false, ()) else some (false, ()) else some (false, ()) else some (false, ()) else some (false, ()) else (some (false, ()) : Option F_object_SameVersion.R)) = _
  cases allB sameT (tags a) (tags b) <;> cases (a.1 == b.1) <;> cases (mark a == mark b) <;> cases (vsize a == vsize b) <;> cases (blob a == blob b) <;> cases eqD (.arr 32 (.int .u8)) (dig a) (dig b) <;> cases (made a == made b) <;> rfl
theorem sameV17 {n : Nat} (hn : n ≤ 536870912) {a b : Ver} (ha : (tags a).length < n) : F_ref13_SameVersion.f n a b = some (sameV a b, ()) := by
  rw [F_ref13_SameVersion.e0]
  have h := same32 (b := tags b) hn ha
  unfold tags at h
  rw [F_ref13_SameVersion.e1]
  rw [h, bnd_some]
  simp only [hide_eq, bIf_eq]
  unfold sameV
  change (if (!(a.1 == b.1)) = true then some (false, ()) else if (!(mark a == mark b)) = true then some (false, ()) else if (!(vsize a == vsize b)) = true then some (false, ()) else if (!(blob a == blob b)) = true then some (false, ()) else if (!(made a == made b)) = true then some (false, ()) else if (!(eqD T_api_Lock (lock a) (lock b))) = true then some (false, ()) else if eqD (.arr 32 (.int .u8)) (dig a) (dig b) = true then some (allB sameT (tags a) (tags b), ()) else (some (false, ()) : Option F_ref13_SameVersion.R)) = _
  cases allB sameT (tags a) (tags b) <;> cases (a.1 == b.1) <;> cases (mark a == mark b) <;> cases (vsize a == vsize b) <;> cases (blob a == blob b) <;> cases eqD (.arr 32 (.int .u8)) (dig a) (dig b) <;> cases (made a == made b) <;> cases eqD T_api_Lock (lock a) (lock b) <;> rfl
theorem digRefl : ∀ (d : List Int), eqD (.arr 32 (.int .u8)) d d = true
  | [] => rfl
  | x :: d => by
    have := digRefl d
    change (decide (x = x) && eqD (.arr 32 (.int .u8)) d d) = true
    rw [this, decide_eq_true rfl]; rfl
theorem lockRefl (l : D_api_Lock) : eqD T_api_Lock l l = true := by
  change (decide (l.1 = l.1) && (decide (l.2.1 = l.2.1) && ((l.2.2.1 == l.2.2.1) && true))) = true
  rw [decide_eq_true rfl, decide_eq_true rfl, beq_self_eq_true]; rfl
theorem sameV_refl (a : Ver) : sameV a a = true := by
  unfold sameV
  rw [allB_refl _ (fun x _ => sameT_refl x), digRefl, lockRefl]
  simp

end Go.Proofs.YtcpkhpboemfglaaGreatDoor

namespace Go.Proofs.YtcpkhpboemfglaaGreatDoor
open Go Go.Va Go.Proofs

theorem bIf_true {α : Type} (x y : α) : bIf true x y = x := rfl
theorem bIf_false {α : Type} (x y : α) : bIf false x y = y := rfl
theorem bIf_and (a b : Bool) : bIf a (some (b, ())) (some (false, ())) = some (a && b, ()) := by cases a <;> rfl
theorem bIf_nand (a b : Bool) : bIf a (some (false, ())) (some (b, ())) = some (!a && b, ()) := by cases a <;> rfl
theorem bIf_or (a b : Bool) : bIf a (some (true, ())) (some (b, ())) = some (a || b, ()) := by cases a <;> rfl
theorem bIf_same {α : Type} (a : Bool) (x : α) : bIf a x x = x := by cases a <;> rfl
theorem bIf_bool (a : Bool) : bIf a (some (true, ())) (some (false, ())) = some (a, ()) := by cases a <;> rfl

theorem all_loop {α R : Type} {l : List α} (d : α) (p : α → Bool) (J : Nat → Int → Option R) (yes no : Option R)
    (hs : ∀ m (k : Nat), k < l.length → J (m + 1) (k : Int) = bIf (p (l.getD k d)) (J m ((k + 1 : Nat) : Int)) no) (he : ∀ m, J (m + 1) ((l.length : Nat) : Int) = yes) :
    ∀ (m k : Nat), k ≤ l.length → l.length - k < m → J m (k : Int) = bIf ((l.drop k).all p) yes no
  | 0, k, _, h => by omega
  | m + 1, k, hk, h => by
    by_cases hlt : k < l.length
    · rw [hs m k hlt, all_loop d p J yes no hs he m (k + 1) (by omega) (by omega), List.drop_eq_getElem_cons hlt, List.all_cons, List.getD_eq_getElem?_getD, List.getElem?_eq_getElem hlt]
      simp only [Option.getD_some]
      cases p l[k] <;> rfl
    · have : k = l.length := by omega
      subst this
      rw [he, List.drop_length]; rfl

theorem idx_loop {α : Type} {l : List α} (d : α) (p : α → Bool) (J : Nat → Int → Option (Int × Unit))
    (hs : ∀ m (k : Nat), k < l.length → J (m + 1) (k : Int) = bIf (p (l.getD k d)) (some ((k : Int), ())) (J m ((k + 1 : Nat) : Int))) (he : ∀ m, J (m + 1) ((l.length : Nat) : Int) = some (-1, ())) :
    ∀ (m k : Nat), k ≤ l.length → l.length - k < m → ∃ i, J m (k : Int) = some (i, ()) ∧ decide (i ≥ 0) = (l.drop k).any p
  | 0, k, _, h => by omega
  | m + 1, k, hk, h => by
    by_cases hlt : k < l.length
    · obtain ⟨i, h1, h2⟩ := idx_loop d p J hs he m (k + 1) (by omega) (by omega)
      rw [hs m k hlt, List.drop_eq_getElem_cons hlt, List.any_cons, List.getD_eq_getElem?_getD, List.getElem?_eq_getElem hlt]
      simp only [Option.getD_some]
      cases p l[k]
      · exact ⟨i, h1, by rw [h2]; rfl⟩
      · exact ⟨_, rfl, by simp⟩
    · have : k = l.length := by omega
      subst this
      rw [he, List.drop_length]
      exact ⟨_, rfl, rfl⟩

theorem cast_up (k : Nat) (h : k < 4611686018427387904) : IntKind.i64.wrap ((k : Int) + 1) = ((k + 1 : Nat) : Int) := by rw [wrap_i64 (by omega)]; omega
theorem dec_not {p q : Prop} [Decidable p] [Decidable q] (h : p ↔ ¬ q) : decide p = !decide q := by rw [← decide_not]; exact decide_eq_decide.2 h
theorem dec_le (x y : Int) : decide (x ≥ y) = decide (y ≤ x) := rfl

/-- May it be a default? -/
def modeB (d : D_api_Default) : Bool := if d.1 = 0 then d.2.1 == 0 else (d.1 == 1 || d.1 == 2) && (decide (d.2.1 ≥ 1) && decide (d.2.1 ≤ 36500))
theorem mode_Good (n : Nat) (d : D_api_Default) : F_mode_Good.f n d = some (modeB d, ()) := by
  rw [F_mode_Good.e0]
  simp only [F_mode_Good.e1, hide_eq, bIf_and]
  unfold modeB
  by_cases h0 : d.1 = 0
  · simp [h0, bIf_true]
  · rw [beq_false_of_ne h0, bIf_false, if_neg h0]
    cases (d.1 == 1) <;> rfl
theorem ref12_Good (n : Nat) (d : D_api_Default) : F_ref12_Good.f n d = some (modeB d, ()) := by
  rw [F_ref12_Good.e0]
  simp only [hide_eq, bIf_and]
  unfold modeB
  by_cases h0 : d.1 = 0
  · simp [h0, bIf_true]
  · rw [beq_false_of_ne h0, bIf_false, if_neg h0]
    cases (d.1 == 1) <;> rfl

/-- A pattern's letters: none is quoted that isn't there. -/
def globL : List UInt8 → Bool
  | [] => true
  | c :: r => if c = 92 then match r with
    | [] => false
    | _ :: r' => globL r'
    else globL r
def globB (p : ByteArray) : Bool := decide (p.size ≤ 200) && globL p.data.toList
theorem globL_cons {c : UInt8} {r : List UInt8} (h : c ≠ 92) : globL (c :: r) = globL r := by rw [globL.eq_def]; simp only [if_neg h]
theorem globL_q (b : UInt8) (r : List UInt8) : globL (92 :: b :: r) = globL r := by rw [globL.eq_def]; simp
theorem globL_end : globL [92] = false := by rw [globL.eq_def]; simp
theorem drop_getD (l : List UInt8) {k : Nat} (h : k < l.length) : l.drop k = l.getD k 0 :: l.drop (k + 1) := by
  rw [List.drop_eq_getElem_cons h, List.getD_eq_getElem?_getD, List.getElem?_eq_getElem h]; rfl
theorem u8_eq {b : UInt8} {c : Nat} (hc : c < 256) : ((b.toNat : Int) == (c : Int)) = decide (b = UInt8.ofNat c) := by
  have := b.toNat_lt
  by_cases h : b = UInt8.ofNat c
  · subst h; rw [decide_eq_true rfl]; simp [UInt8.toNat_ofNat']; omega
  · rw [decide_eq_false h]
    refine beq_false_of_ne (fun e => h ?_)
    apply UInt8.toNat_inj.1
    simp [UInt8.toNat_ofNat']
    omega

theorem glob_J (n : Nat) (p : ByteArray) (hp : p.size ≤ 200) : ∀ (m k : Nat) (out : List D_glob_piece), k ≤ p.size → p.size - k < m → out.length ≤ k →
    ∃ o, F_glob_pieces.J1 n m (p, out, (k : Int), ()) = some (o, globL (p.data.toList.drop k), ())
  | 0, k, out, _, h, _ => by omega
  | m + 1, k, out, hk, h, ho => by
    have hsz := size_eq p
    rw [F_glob_pieces.e1]
    simp only [hide_eq]
    by_cases hlt : k < p.size
    · have hd := drop_getD p.data.toList (k := k) (by omega)
      rw [decide_eq_true (by omega), bIf_true, gIf_pos ⟨by omega, by omega⟩, bt_nat, hd]
      have hg : ∀ o : List D_glob_piece, o.length ≤ k + 1 → (o.length + 1) * 16 ≤ 70368744177664 := fun o h' => by omega
      have e1 : (((p.data.toList.getD k 0).toNat : Int) == 42) = decide (p.data.toList.getD k 0 = 42) := u8_eq (c := 42) (by decide)
      have e2 : (((p.data.toList.getD k 0).toNat : Int) == 63) = decide (p.data.toList.getD k 0 = 63) := u8_eq (c := 63) (by decide)
      have e3 : (((p.data.toList.getD k 0).toNat : Int) == 92) = decide (p.data.toList.getD k 0 = 92) := u8_eq (c := 92) (by decide)
      rw [e1, e2, e3]
      generalize p.data.toList.getD k 0 = c
      have st : ∀ o : List D_glob_piece, o.length ≤ k + 1 → ∃ o', F_glob_pieces.J3 n m (p, o, (k : Int), ()) = some (o', globL (p.data.toList.drop (k + 1)), ()) := fun o h' => by
        rw [F_glob_pieces.e3, cast_up k (by omega)]
        exact glob_J n p hp m (k + 1) o (by omega) (by omega) h'
      by_cases h1 : c = 42
      · rw [decide_eq_true h1, bIf_true, gIf_pos (hg out (by omega)), globL_cons (by rw [h1]; decide)]
        exact st _ (by simp; omega)
      · rw [decide_eq_false h1, bIf_false]
        by_cases h2 : c = 63
        · rw [decide_eq_true h2, bIf_true, gIf_pos (hg out (by omega)), globL_cons (by rw [h2]; decide)]
          exact st _ (by simp; omega)
        · rw [decide_eq_false h2, bIf_false]
          by_cases h3 : c = 92
          · rw [decide_eq_true h3, bIf_true, cast_up k (by omega), h3]
            by_cases h4 : k + 1 = p.size
            · rw [beq_iff_eq.2 (by omega), bIf_true, List.drop_eq_nil_of_le (by omega), globL_end]
              exact ⟨_, rfl⟩
            · rw [beq_false_of_ne (by omega), bIf_false, F_glob_pieces.e2, gIf_pos ⟨by omega, by omega⟩, gIf_pos (hg out (by omega)), F_glob_pieces.e3, cast_up (k + 1) (by omega), drop_getD p.data.toList (k := k + 1) (by omega), globL_q]
              exact glob_J n p hp m (k + 1 + 1) _ (by omega) (by omega) (by simp; omega)
          · rw [decide_eq_false h3, bIf_false, F_glob_pieces.e2, gIf_pos ⟨by omega, by omega⟩, gIf_pos (hg out (by omega)), globL_cons h3]
            exact st _ (by simp; omega)
    · have hkk : k = p.size := by omega
      subst hkk
      rw [decide_eq_false (by omega), bIf_false, F_glob_pieces.e4, hsz, List.drop_length]
      exact ⟨_, rfl⟩
theorem glob_Sound {n : Nat} {p : ByteArray} (hp : p.size < n) : F_glob_Sound.f n p = some (globB p, ()) := by
  rw [F_glob_Sound.e0, F_glob_pieces.e0]
  simp only [hide_eq]
  unfold globB
  by_cases h : p.size ≤ 200
  · rw [decide_eq_false (by omega), bIf_false, decide_eq_true h]
    obtain ⟨o, ho⟩ := glob_J n p h n 0 [] (by omega) (by omega) (by simp)
    rw [show ((0 : Nat) : Int) = 0 from rfl] at ho
    rw [ho]; rfl
  · rw [decide_eq_true (by omega), decide_eq_false h]; rfl
theorem glob7_J (n : Nat) (p : ByteArray) (hp : p.size ≤ 200) : ∀ (m k : Nat) (out : List D_glob_piece), k ≤ p.size → p.size - k < m → out.length ≤ k →
    ∃ o, F_ref07_pieces.J1 n m (p, out, (k : Int), ()) = some (o, globL (p.data.toList.drop k), ())
  | 0, k, out, _, h, _ => by omega
  | m + 1, k, out, hk, h, ho => by
    have hsz := size_eq p
    rw [F_ref07_pieces.e1]
    simp only [hide_eq]
    by_cases hlt : k < p.size
    · have hd := drop_getD p.data.toList (k := k) (by omega)
      rw [decide_eq_true (by omega), bIf_true, gIf_pos ⟨by omega, by omega⟩, bt_nat, hd]
      have hg : ∀ o : List D_glob_piece, o.length ≤ k + 1 → (o.length + 1) * 16 ≤ 70368744177664 := fun o h' => by omega
      have e1 : (((p.data.toList.getD k 0).toNat : Int) == 42) = decide (p.data.toList.getD k 0 = 42) := u8_eq (c := 42) (by decide)
      have e2 : (((p.data.toList.getD k 0).toNat : Int) == 63) = decide (p.data.toList.getD k 0 = 63) := u8_eq (c := 63) (by decide)
      have e3 : (((p.data.toList.getD k 0).toNat : Int) == 92) = decide (p.data.toList.getD k 0 = 92) := u8_eq (c := 92) (by decide)
      rw [e1, e2, e3]
      generalize p.data.toList.getD k 0 = c
      have st : ∀ o : List D_glob_piece, o.length ≤ k + 1 → ∃ o', F_ref07_pieces.J2 n m (p, o, (k : Int), ()) = some (o', globL (p.data.toList.drop (k + 1)), ()) := fun o h' => by
        rw [F_ref07_pieces.e2, cast_up k (by omega)]
        exact glob7_J n p hp m (k + 1) o (by omega) (by omega) h'
      by_cases h1 : c = 42
      · rw [decide_eq_true h1, bIf_true, gIf_pos (hg out (by omega)), globL_cons (by rw [h1]; decide)]
        exact st _ (by simp; omega)
      · rw [decide_eq_false h1, bIf_false]
        by_cases h2 : c = 63
        · rw [decide_eq_true h2, bIf_true, gIf_pos (hg out (by omega)), globL_cons (by rw [h2]; decide)]
          exact st _ (by simp; omega)
        · rw [decide_eq_false h2, bIf_false]
          by_cases h3 : c = 92
          · rw [decide_eq_true h3, bIf_true, cast_up k (by omega), wrap_i64 (x := (p.size : Int) - 1) (by omega), h3]
            by_cases h4 : k + 1 = p.size
            · rw [beq_iff_eq.2 (by omega), bIf_true, List.drop_eq_nil_of_le (by omega), globL_end]
              exact ⟨_, rfl⟩
            · rw [beq_false_of_ne (by omega), bIf_false, gIf_pos ⟨by omega, by omega⟩, gIf_pos (hg out (by omega)), F_ref07_pieces.e2, cast_up (k + 1) (by omega), drop_getD p.data.toList (k := k + 1) (by omega), globL_q]
              exact glob7_J n p hp m (k + 1 + 1) _ (by omega) (by omega) (by simp; omega)
          · rw [decide_eq_false h3, bIf_false, gIf_pos ⟨by omega, by omega⟩, gIf_pos (hg out (by omega)), globL_cons h3]
            exact st _ (by simp; omega)
    · have hkk : k = p.size := by omega
      subst hkk
      rw [decide_eq_false (by omega), bIf_false, F_ref07_pieces.e3, hsz, List.drop_length]
      exact ⟨_, rfl⟩
theorem ref07_Sound {n : Nat} {p : ByteArray} (hp : p.size < n) : F_ref07_Sound.f n p = some (globB p, ()) := by
  rw [F_ref07_Sound.e0, F_ref07_pieces.e0]
  simp only [hide_eq]
  unfold globB
  by_cases h : p.size ≤ 200
  · rw [decide_eq_false (by omega), bIf_false, decide_eq_true h]
    obtain ⟨o, ho⟩ := glob7_J n p h n 0 [] (by omega) (by omega) (by simp)
    rw [show ((0 : Nat) : Int) = 0 from rfl] at ho
    rw [ho]; rfl
  · rw [decide_eq_true (by omega), decide_eq_false h]; rfl

/-- May it be a part? -/
def partB (p : D_api_Part) : Bool := decide (p.1 ≥ 1) && (decide (p.1 ≤ 10000) && (decide (p.2.1 ≥ 0) && (decide (p.2.1 ≤ 1024) && decide (p.2.2.1 ≥ 1))))
theorem entry_Part (n : Nat) (p : D_api_Part) : F_entry_Part.f n p = some (partB p, ()) := by
  rw [F_entry_Part.e0]; simp only [hide_eq, bIf_and]; rfl
theorem ref14_Part (n : Nat) (p : D_api_Part) : F_ref14_Part.f n p = some (partB p, ()) := by
  rw [F_ref14_Part.e0]; simp only [hide_eq, bIf_and]; rfl

/-- May it be a rule? -/
def ruleB (r : D_api_Rule) : Bool := decide (r.1.size ≤ 200) && (cleanB r.1 && (tagsB r.2.1 && (decide (r.2.2.1 ≥ 0) && (decide (r.2.2.1 ≤ 36500) && (decide (r.2.2.2.1 ≥ 0) && decide (r.2.2.2.1 ≤ 36500))))))
structure RuB (n : Nat) (r : D_api_Rule) : Prop where
  pre : r.1.size < n
  tags : TsB n r.2.1
theorem dec_cast (a b : Nat) : decide ((a : Int) ≤ (b : Int)) = decide (a ≤ b) := decide_eq_decide.2 (by omega)
theorem entry_Rule {n : Nat} (hn : n ≤ 536870912) {r : D_api_Rule} (hr : RuB n r) : F_entry_Rule.f n r = some (ruleB r, ()) := by
  have h1 := hr.pre
  rw [F_entry_Rule.e0, clean42 (by omega) h1, tags35 hn hr.tags]
  simp only [hide_eq, bnd_some, bIf_and]
  rw [show (200 : Int) = ((200 : Nat) : Int) from rfl, dec_cast]; rfl
def rulesB (l : List D_api_Rule) : Bool := decide (l.length ≤ 8) && l.all ruleB
structure RusB (n : Nat) (l : List D_api_Rule) : Prop where
  len : l.length < n
  all : ∀ r ∈ l, RuB n r
theorem any_not {α : Type} (p : α → Bool) : ∀ l : List α, (!l.any fun x => !p x) = l.all p
  | [] => rfl
  | x :: l => by
    have := any_not p l
    simp only [List.any_cons, List.all_cons, Bool.not_or, Bool.not_not, this]
theorem entry_Rules {n : Nat} (hn : n ≤ 536870912) {l : List D_api_Rule} (hl : RusB n l) : F_entry_Rules.f n l = some (rulesB l, ()) := by
  have hlen := hl.len
  obtain ⟨i, h1, h2⟩ := idx_loop (l := l) (Va.dflt T_api_Rule) (fun r => !ruleB r) (fun m k => F_slices_IndexFunc_Rule.J1 n m (l, ((l.length : Nat) : Int), k, ()))
    (fun m k hk => by
      try dsimp only
      rw [F_slices_IndexFunc_Rule.e1, hide_eq, decide_eq_true (by omega), bIf_true, gIf_pos ⟨by omega, by omega⟩, Int.toNat_natCast, F_entry_Rules_1.e0, entry_Rule hn (hl.all _ (getD_memA hk)), cast_up k (by omega)]; rfl)
    (fun m => by
      try dsimp only
      rw [F_slices_IndexFunc_Rule.e1, hide_eq, decide_eq_false (by omega), bIf_false, F_slices_IndexFunc_Rule.e2]) n 0 (by omega) (by omega)
  rw [F_entry_Rules.e0, F_slices_ContainsFunc_Rule.e0, F_slices_IndexFunc_Rule.e0]
  try dsimp only at h1
  rw [show ((0 : Nat) : Int) = 0 from rfl] at h1
  rw [h1]
  simp only [hide_eq, bnd_some, bIf_and]
  rw [h2, List.drop_zero, any_not, show (8 : Int) = ((8 : Nat) : Int) from rfl, dec_cast]; rfl
theorem ref14_Rules {n : Nat} (hn : n ≤ 536870912) (h5 : 5 ≤ n) {l : List D_api_Rule} (hl : RusB n l) : F_ref14_Rules.f n l = some (rulesB l, ()) := by
  have hlen := hl.len
  have h1 := all_loop (l := l) (Va.dflt T_api_Rule) ruleB (fun m k => F_ref14_Rules.J1 n m (l, k, ())) (some (true, ())) (some (false, ()))
    (fun m k hk => by
      have hr := hl.all _ (getD_memA (d := Va.dflt T_api_Rule) hk)
      have hp := hr.pre
      try dsimp only
      rw [F_ref14_Rules.e1, hide_eq, decide_eq_true (by omega), bIf_true, gIf_pos ⟨by omega, by omega⟩, Int.toNat_natCast]
      generalize hx : l.getD k (Va.dflt T_api_Rule) = r at hr hp
      rw [clean44 (by omega) hp h5, tags38 hn h5 hr.tags]
      simp only [hide_eq, bnd_some]
      rw [F_ref14_Rules.e2, cast_up k (by omega)]
      unfold ruleB
      have a1 : decide ((r.1.size : Int) > 200) = !decide (r.1.size ≤ 200) := dec_not (by omega)
      have a2 : decide (r.2.2.1 < 0) = !decide (r.2.2.1 ≥ 0) := dec_not (by omega)
      have a3 : decide (r.2.2.1 > 36500) = !decide (r.2.2.1 ≤ 36500) := dec_not (by omega)
      have a4 : decide (r.2.2.2.1 < 0) = !decide (r.2.2.2.1 ≥ 0) := dec_not (by omega)
      have a5 : decide (r.2.2.2.1 > 36500) = !decide (r.2.2.2.1 ≤ 36500) := dec_not (by omega)
      rw [a1, a2, a3, a4, a5]
      cases decide (r.1.size ≤ 200) <;> cases cleanB r.1 <;> cases tagsB r.2.1 <;> cases decide (r.2.2.1 ≥ 0) <;> cases decide (r.2.2.1 ≤ 36500) <;> cases decide (r.2.2.2.1 ≥ 0) <;> cases decide (r.2.2.2.1 ≤ 36500) <;> rfl)
    (fun m => by
      try dsimp only
      rw [F_ref14_Rules.e1, hide_eq, decide_eq_false (by omega), bIf_false, F_ref14_Rules.e3]) n 0 (by omega) (by omega)
  rw [F_ref14_Rules.e0, hide_eq]
  unfold rulesB
  by_cases h8 : l.length ≤ 8
  · rw [decide_eq_false (by omega), bIf_false, decide_eq_true h8]
    try dsimp only at h1
    rw [show ((0 : Nat) : Int) = 0 from rfl] at h1
    rw [h1, List.drop_zero, bIf_bool]; rfl
  · rw [decide_eq_true (by omega), decide_eq_false h8]; rfl

/-- May it be a grant? -/
def grantB (g : D_api_Grant) : Bool := globB g.2.1 && (globB g.2.2.1 && globB g.2.2.2.1)
structure GrB (n : Nat) (g : D_api_Grant) : Prop where
  a : g.2.1.size < n
  b : g.2.2.1.size < n
  c : g.2.2.2.1.size < n
def grantsB (l : List D_api_Grant) : Bool := decide (l.length ≤ 8) && l.all grantB
structure GrsB (n : Nat) (l : List D_api_Grant) : Prop where
  len : l.length < n
  all : ∀ r ∈ l, GrB n r
theorem entry_Grants {n : Nat} (hn : n ≤ 536870912) {l : List D_api_Grant} (hl : GrsB n l) : F_entry_Grants.f n l = some (grantsB l, ()) := by
  have hlen := hl.len
  obtain ⟨i, h1, h2⟩ := idx_loop (l := l) (Va.dflt T_api_Grant) (fun r => !grantB r) (fun m k => F_slices_IndexFunc_Grant.J1 n m (l, ((l.length : Nat) : Int), k, ()))
    (fun m k hk => by
      have hr := hl.all _ (getD_memA (d := Va.dflt T_api_Grant) hk)
      try dsimp only
      rw [F_slices_IndexFunc_Grant.e1, hide_eq, decide_eq_true (by omega), bIf_true, gIf_pos ⟨by omega, by omega⟩, Int.toNat_natCast, F_entry_Grants_1.e0]
      generalize hx : l.getD k (Va.dflt T_api_Grant) = r at hr
      rw [glob_Sound hr.a, glob_Sound hr.b, glob_Sound hr.c, cast_up k (by omega)]
      simp only [bnd_some]
      unfold grantB
      cases globB r.2.1 <;> cases globB r.2.2.1 <;> cases globB r.2.2.2.1 <;> rfl)
    (fun m => by
      try dsimp only
      rw [F_slices_IndexFunc_Grant.e1, hide_eq, decide_eq_false (by omega), bIf_false, F_slices_IndexFunc_Grant.e2]) n 0 (by omega) (by omega)
  rw [F_entry_Grants.e0, F_slices_ContainsFunc_Grant.e0, F_slices_IndexFunc_Grant.e0]
  try dsimp only at h1
  rw [show ((0 : Nat) : Int) = 0 from rfl] at h1
  rw [h1]
  simp only [hide_eq, bnd_some, bIf_and]
  rw [h2, List.drop_zero, any_not, show (8 : Int) = ((8 : Nat) : Int) from rfl, dec_cast]; rfl
theorem ref14_Grants {n : Nat} (hn : n ≤ 536870912) {l : List D_api_Grant} (hl : GrsB n l) : F_ref14_Grants.f n l = some (grantsB l, ()) := by
  have hlen := hl.len
  have h1 := all_loop (l := l) (Va.dflt T_api_Grant) grantB (fun m k => F_ref14_Grants.J1 n m (l, k, ())) (some (true, ())) (some (false, ()))
    (fun m k hk => by
      have hr := hl.all _ (getD_memA (d := Va.dflt T_api_Grant) hk)
      have hg : (0 ≤ (k : Int) ∧ (k : Int) < ((l.length : Nat) : Int)) := ⟨by omega, by omega⟩
      try dsimp only
      rw [F_ref14_Grants.e1, hide_eq, decide_eq_true (by omega), bIf_true]
      simp only [gIf_pos hg, Int.toNat_natCast]
      generalize hx : l.getD k (Va.dflt T_api_Grant) = r at hr
      rw [ref07_Sound hr.a, ref07_Sound hr.b, ref07_Sound hr.c, F_ref14_Grants.e2, cast_up k (by omega)]
      simp only [bnd_some]
      unfold grantB
      cases globB r.2.1 <;> cases globB r.2.2.1 <;> cases globB r.2.2.2.1 <;> rfl)
    (fun m => by
      try dsimp only
      rw [F_ref14_Grants.e1, hide_eq, decide_eq_false (by omega), bIf_false, F_ref14_Grants.e3]) n 0 (by omega) (by omega)
  rw [F_ref14_Grants.e0, hide_eq]
  unfold grantsB
  by_cases h8 : l.length ≤ 8
  · rw [decide_eq_false (by omega), bIf_false, decide_eq_true h8]
    try dsimp only at h1
    rw [show ((0 : Nat) : Int) = 0 from rfl] at h1
    rw [h1, List.drop_zero, bIf_bool]; rfl
  · rw [decide_eq_true (by omega), decide_eq_false h8]; rfl
end Go.Proofs.YtcpkhpboemfglaaGreatDoor

namespace Go.Proofs.YtcpkhpboemfglaaGreatDoor
open Go Go.Va Go.Proofs

def lowB (b : UInt8) : Bool := (decide (97 ≤ b.toNat) && decide (b.toNat ≤ 122)) || (decide (48 ≤ b.toNat) && decide (b.toNat ≤ 57))
def digB (b : UInt8) : Bool := decide (48 ≤ b.toNat) && decide (b.toNat ≤ 57)
def lowT : List UInt8 := [97, 98, 99, 100, 101, 102, 103, 104, 105, 106, 107, 108, 109, 110, 111, 112, 113, 114, 115, 116, 117, 118, 119, 120, 121, 122, 48, 49, 50, 51, 52, 53, 54, 55, 56, 57]
def digT : List UInt8 := [48, 49, 50, 51, 52, 53, 54, 55, 56, 57]
theorem low_all : ∀ n, n < 256 → (decide (Lib.indexByte lowT (UInt8.ofNat n) ≥ 0) = lowB (UInt8.ofNat n) ∧ digT.contains (UInt8.ofNat n) = digB (UInt8.ofNat n)) := by decide +kernel
theorem ofNat_toNat (b : UInt8) : UInt8.ofNat b.toNat = b := by simp
theorem low_idx (b : UInt8) : decide (Lib.indexByte lowT b ≥ 0) = lowB b := by
  have := (low_all b.toNat b.toNat_lt).1; rwa [ofNat_toNat] at this
theorem dig_has (b : UInt8) : digT.contains b = digB b := by
  have := (low_all b.toNat b.toNat_lt).2; rwa [ofNat_toNat] at this

theorem ref_low (n : Nat) (b : UInt8) : F_ref06_low.f n (b.toNat : Int) = some (lowB b, ()) := by
  rw [F_ref06_low.e0]
  simp only [hide_eq]
  unfold lowB
  have e1 : decide ((b.toNat : Int) ≥ 97) = decide (97 ≤ b.toNat) := decide_eq_decide.2 (by omega)
  have e2 : decide ((b.toNat : Int) ≤ 122) = decide (b.toNat ≤ 122) := decide_eq_decide.2 (by omega)
  have e3 : decide ((b.toNat : Int) ≥ 48) = decide (48 ≤ b.toNat) := decide_eq_decide.2 (by omega)
  have e4 : decide ((b.toNat : Int) ≤ 57) = decide (b.toNat ≤ 57) := decide_eq_decide.2 (by omega)
  rw [e1, e2, e3, e4]
  cases decide (97 ≤ b.toNat) <;> cases decide (b.toNat ≤ 122) <;> cases decide (48 ≤ b.toNat) <;> cases decide (b.toNat ≤ 57) <;> rfl
theorem among_low (n : Nat) (b : UInt8) : F_label_among.f n ⟨#[97, 98, 99, 100, 101, 102, 103, 104, 105, 106, 107, 108, 109, 110, 111, 112, 113, 114, 115, 116, 117, 118, 119, 120, 121, 122, 48, 49, 50, 51, 52, 53, 54, 55, 56, 57]⟩ (b.toNat : Int) = some (lowB b, ()) := by
  rw [F_label_among.e0]
  unfold F_strings_IndexByte.f
  rw [bnd_some, hide_eq]
  have e : ((b.toNat : Int)).toNat.toUInt8 = b := by
    rw [Int.toNat_natCast]
    exact ofNat_toNat b
  rw [e]
  exact congrArg (fun x => some (x, ())) (low_idx b)

/-- A list cut at each sign of one kind. -/
def spl (c : UInt8) : List UInt8 → List (List UInt8)
  | [] => [[]]
  | b :: r => if b = c then [] :: spl c r else match spl c r with
    | [] => [[b]]
    | p :: ps => (b :: p) :: ps
theorem spl_ne (c : UInt8) : ∀ l, spl c l ≠ []
  | [] => by simp [spl]
  | b :: r => by
    unfold spl
    split
    · simp
    · split <;> simp
theorem index_cons (b c : UInt8) (l : List UInt8) : Lib.index (b :: l) [c] = if b = c then 0 else if Lib.index l [c] = -1 then -1 else Lib.index l [c] + 1 := by
  rw [Lib.index]
  by_cases h : b = c
  · subst h; simp [List.isPrefixOf]
  · rw [if_neg h]
    have hp : ([c] : List UInt8).isPrefixOf (b :: l) = false := by simp [List.isPrefixOf, Ne.symm h]
    rw [hp]
    simp
theorem splitK_spl (c : UInt8) : ∀ l : List UInt8, Lib.splitK [c] 0 (Lib.count l [c]) l = spl c l
  | [] => by rw [Lib.count_one]; rfl
  | b :: l => by
    have ih := splitK_spl c l
    by_cases h : b = c
    · subst h
      rw [Lib.count_cons_eq, Nat.add_comm, Lib.splitK, index_cons, if_pos rfl, if_neg (by decide)]
      unfold spl
      rw [if_pos rfl]
      change List.take 0 (b :: l) :: Lib.splitK [b] 0 (Lib.count l [b]) (List.drop 1 (b :: l)) = _
      rw [List.take_zero, List.drop_one, List.tail_cons, ih]
    · rw [Lib.count_cons_ne b c l h]
      unfold spl
      rw [if_neg h, ← ih]
      cases hk : Lib.count l [c] with
      | zero => rfl
      | succ k =>
        rw [Lib.splitK, Lib.splitK, index_cons, if_neg h]
        by_cases hm : Lib.index l [c] = -1
        · rw [if_pos hm, if_pos (by decide), if_pos (by rw [hm]; decide)]
        · have hge := Lib.index_ge l [c]
          obtain ⟨j, hj⟩ : ∃ j : Nat, Lib.index l [c] = j := ⟨(Lib.index l [c]).toNat, by omega⟩
          rw [if_neg hm, hj, if_neg (by rw [beq_iff_eq]; omega), if_neg (by rw [beq_iff_eq]; omega), show ((j : Int) + 1).toNat = j + 1 by omega, show ((j : Int)).toNat = j by omega]
          rfl

def okP (p : List UInt8) : Bool := decide (1 ≤ p.length) && (decide (p.length ≤ 3) && p.all digB)
/-- Four numbers with points between. -/
def addrL (l : List UInt8) : Bool := decide ((spl 46 l).length = 4) && (spl 46 l).all okP

theorem dropWhile_nil {α : Type} (p : α → Bool) : ∀ l : List α, (l.dropWhile p = []) ↔ l.all p = true
  | [] => by simp
  | x :: l => by
    rw [List.dropWhile_cons, List.all_cons]
    cases h : p x
    · simp
    · simp [dropWhile_nil p l]
theorem trimS_nil (l : List UInt8) : (Lib.trimS l digT = []) ↔ l.all digB = true := by
  have hd : (digT.contains ·) = digB := funext dig_has
  unfold Lib.trimS Lib.trimLeftS Lib.trimRightS
  rw [hd, dropWhile_nil, List.all_reverse]
  constructor
  · intro h
    have : l.reverse.dropWhile digB = [] := by
      cases hc : l.reverse.dropWhile digB with
      | nil => rfl
      | cons x r =>
        have h1 := List.head?_dropWhile_not digB l.reverse
        rw [hc] at h1 h
        simp only [List.all_cons, Bool.and_eq_true] at h
        simp [h.1] at h1
    rw [dropWhile_nil, List.all_reverse] at this
    exact this
  · intro h
    have : l.reverse.dropWhile digB = [] := by rw [dropWhile_nil, List.all_reverse]; exact h
    rw [this]; rfl

theorem all_map {α β : Type} (f : α → β) (p : β → Bool) : ∀ l : List α, (l.map f).all p = l.all fun x => p (f x)
  | [] => rfl
  | x :: l => by simp only [List.map_cons, List.all_cons, all_map f p l]

theorem label_address {n : Nat} (hn : 300 ≤ n) {s : ByteArray} (hs : s.size ≤ 63) : F_label_address.f n s = some (addrL s.data.toList, ()) := by
  rw [F_label_address.e0]
  unfold F_strings_Split.f
  rw [if_pos ⟨by omega, by decide⟩, bnd_some]
  have hmap := Lib.splitB_data ⟨#[46]⟩ 0 (Lib.countB s ⟨#[46]⟩) s
  have hlen := Lib.splitB_all ⟨#[46]⟩ (by decide) 0 _ s rfl
  have hcl := Lib.countB_le ⟨#[46]⟩ (by decide) s.size s (Nat.le_refl _)
  have hspl : (Lib.splitB ⟨#[46]⟩ 0 (Lib.countB s ⟨#[46]⟩) s).map (·.data.toList) = spl 46 s.data.toList := hmap.trans (splitK_spl 46 s.data.toList)
  simp only [hide_eq]
  generalize Lib.splitB ⟨#[46]⟩ 0 (Lib.countB s ⟨#[46]⟩) s = t at hspl hlen
  unfold addrL
  rw [← hspl, List.length_map, all_map]
  have h1 := all_loop (l := t) (⟨#[]⟩ : ByteArray) (fun x => okP x.data.toList) (fun m k => F_label_address.J1 n m (t, ((t.length : Nat) : Int), k, ())) (some (true, ())) (some (false, ()))
    (fun m k hk => by
      try dsimp only
      rw [F_label_address.e1, hide_eq, decide_eq_true (by omega), bIf_true, gIf_pos ⟨by omega, by omega⟩, Int.toNat_natCast, Nat.zero_add, cast_up k (by omega)]
      generalize t.getD k ⟨#[]⟩ = x
      simp only [hide_eq]
      rw [size0]
      unfold okP
      have hx := size_eq x
      have e1 : decide (x.size = 0) = !decide (1 ≤ x.data.toList.length) := dec_not (by omega)
      have e2 : decide ((x.size : Int) > 3) = !decide (x.data.toList.length ≤ 3) := dec_not (by omega)
      rw [e1, e2]
      by_cases h3 : x.data.toList.length ≤ 3
      · unfold F_strings_Trim.f
        rw [if_pos ⟨by omega, by decide, by decide⟩, bnd_some, decide_eq_true h3]
        have e3 : eqS (⟨(Lib.trimS x.data.toList digT).toArray⟩ : ByteArray) ⟨#[]⟩ = x.data.toList.all digB := by
          rw [size0]
          have hz : ((⟨(Lib.trimS x.data.toList digT).toArray⟩ : ByteArray).size = 0) ↔ x.data.toList.all digB = true := by
            rw [← trimS_nil]
            simp [ByteArray.size]
          by_cases h : x.data.toList.all digB = true
          · rw [h, decide_eq_true (hz.2 h)]
          · rw [decide_eq_false (fun h' => h (hz.1 h'))]; simpa using h
        rw [show (#[48, 49, 50, 51, 52, 53, 54, 55, 56, 57] : Array UInt8).toList = digT from rfl, e3]
        cases decide (1 ≤ x.data.toList.length) <;> cases x.data.toList.all digB <;> rfl
      · rw [decide_eq_false h3]
        cases decide (1 ≤ x.data.toList.length) <;> rfl)
    (fun m => by
      try dsimp only
      rw [F_label_address.e1, hide_eq, decide_eq_false (by omega), bIf_false, F_label_address.e2]) n 0 (by omega) (by omega)
  try dsimp only at h1
  rw [show ((0 : Nat) : Int) = 0 from rfl] at h1
  by_cases h4 : t.length = 4
  · rw [show (((t.length : Nat) : Int) != 4) = false by rw [h4]; rfl, bIf_false, h1, decide_eq_true h4, List.drop_zero, bIf_bool]; rfl
  · rw [show (((t.length : Nat) : Int) != 4) = true by rw [bne_iff_ne]; omega, bIf_true, decide_eq_false h4]; rfl

/-- The same, in one go. -/
def fourL : Nat → Nat → List UInt8 → Bool
  | p, d, [] => decide (p = 3) && decide (0 < d)
  | p, d, b :: r => if b = 46 then decide (0 < d) && fourL (p + 1) 0 r else digB b && (decide (d + 1 ≤ 3) && fourL p (d + 1) r)
theorem fourL_spl : ∀ (l : List UInt8) (p d : Nat), d ≤ 3 → fourL p d l = match spl 46 l with
    | [] => false
    | x :: ps => (decide (0 < d + x.length) && (decide (d + x.length ≤ 3) && x.all digB)) && (decide (p + ps.length = 3) && ps.all okP)
  | [], p, d, hd => by
    unfold fourL spl
    simp only [List.length_nil, Nat.add_zero, List.all_nil, decide_eq_true hd, Bool.and_true, Bool.true_and]
    cases decide (p = 3) <;> cases decide (0 < d) <;> rfl
  | b :: r, p, d, hd => by
    unfold fourL spl
    by_cases h : b = 46
    · rw [if_pos h, if_pos h, fourL_spl r (p + 1) 0 (by omega)]
      cases hs : spl 46 r with
      | nil => exact absurd hs (spl_ne 46 r)
      | cons x ps =>
        simp only [List.length_nil, Nat.add_zero, List.all_nil, decide_eq_true hd, Bool.and_true, List.length_cons, List.all_cons, Nat.zero_add]
        have e1 : decide (p + 1 + ps.length = 3) = decide (p + (ps.length + 1) = 3) := decide_eq_decide.2 (by omega)
        have e2 : decide (0 < x.length) = decide (1 ≤ x.length) := rfl
        rw [e1, e2]
        unfold okP
        cases decide (0 < d) <;> cases decide (1 ≤ x.length) <;> cases decide (x.length ≤ 3) <;> cases x.all digB <;> cases decide (p + (ps.length + 1) = 3) <;> cases ps.all okP <;> rfl
    · rw [if_neg h, if_neg h]
      by_cases h3 : d + 1 ≤ 3
      · rw [fourL_spl r p (d + 1) h3]
        cases hs : spl 46 r with
        | nil => exact absurd hs (spl_ne 46 r)
        | cons x ps =>
          simp only [List.length_cons, List.all_cons]
          rw [decide_eq_true h3, show d + 1 + x.length = d + (x.length + 1) by omega]
          cases digB b <;> cases decide (0 < d + (x.length + 1)) <;> cases decide (d + (x.length + 1) ≤ 3) <;> cases x.all digB <;> rfl
      · rw [decide_eq_false h3]
        cases hs : spl 46 r with
        | nil => exact absurd hs (spl_ne 46 r)
        | cons x ps =>
          simp only [List.length_cons]
          rw [decide_eq_false (show ¬ (d + (x.length + 1) ≤ 3) by omega)]
          simp
theorem fourL_addr (l : List UInt8) : fourL 0 0 l = addrL l := by
  rw [fourL_spl l 0 0 (by omega)]
  unfold addrL
  cases hs : spl 46 l with
  | nil => exact absurd hs (spl_ne 46 l)
  | cons x ps =>
    simp only [List.length_cons, List.all_cons, Nat.zero_add]
    have e1 : decide (ps.length = 3) = decide (ps.length + 1 = 4) := decide_eq_decide.2 (by omega)
    rw [e1]
    unfold okP
    have e2 : decide (0 < x.length) = decide (1 ≤ x.length) := rfl
    rw [e2]
    cases decide (1 ≤ x.length) <;> cases decide (x.length ≤ 3) <;> cases x.all digB <;> cases decide (ps.length + 1 = 4) <;> simp

theorem ref_four_J (n : Nat) (s : ByteArray) (hs : s.size ≤ 63) : ∀ (m k p d : Nat), k ≤ s.size → s.size - k < m → p ≤ k → d ≤ 3 →
    F_ref06_four.J1 n m (s, (p : Int), (d : Int), (k : Int), ()) = some (fourL p d (s.data.toList.drop k), ())
  | 0, k, p, d, _, h, _, _ => by omega
  | m + 1, k, p, d, hk, h, hp, hd => by
    have hsz := size_eq s
    rw [F_ref06_four.e1]
    simp only [hide_eq]
    by_cases hlt : k < s.size
    · rw [decide_eq_true (by omega), bIf_true, gIf_pos ⟨by omega, by omega⟩, bt_nat, drop_getD s.data.toList (k := k) (by omega)]
      have e1 : (((s.data.toList.getD k 0).toNat : Int) == 46) = decide (s.data.toList.getD k 0 = 46) := u8_eq (c := 46) (by decide)
      rw [e1]
      generalize s.data.toList.getD k 0 = b
      unfold fourL
      have ih := fun p' d' h1 h2 => ref_four_J n s hs m (k + 1) p' d' (by omega) (by omega) h1 h2
      by_cases hb : b = 46
      · rw [decide_eq_true hb, bIf_true, if_pos hb]
        by_cases h0 : 0 < d
        · rw [beq_false_of_ne (by omega), bIf_false, decide_eq_true h0, Bool.true_and, F_ref06_four.e2, cast_up k (by omega), cast_up p (by omega)]
          exact ih (p + 1) 0 (by omega) (by omega)
        · rw [beq_iff_eq.2 (by omega), bIf_true, decide_eq_false h0]; rfl
      · rw [decide_eq_false hb, bIf_false, if_neg hb, gIf_pos ⟨by omega, by omega⟩, gIf_pos ⟨by omega, by omega⟩, cast_up d (by omega)]
        unfold digB
        have e2 : decide ((b.toNat : Int) < 48) = !decide (48 ≤ b.toNat) := dec_not (by omega)
        have e3 : decide ((b.toNat : Int) > 57) = !decide (b.toNat ≤ 57) := dec_not (by omega)
        have e4 : decide (((d + 1 : Nat) : Int) > 3) = !decide (d + 1 ≤ 3) := dec_not (by omega)
        rw [e2, e3, e4, F_ref06_four.e2, cast_up k (by omega)]
        by_cases h3 : d + 1 ≤ 3
        · rw [ih p (d + 1) (by omega) h3, decide_eq_true h3]
          cases decide (48 ≤ b.toNat) <;> cases decide (b.toNat ≤ 57) <;> rfl
        · rw [decide_eq_false h3]
          cases decide (48 ≤ b.toNat) <;> cases decide (b.toNat ≤ 57) <;> rfl
    · have hkk : k = s.size := by omega
      subst hkk
      rw [decide_eq_false (by omega), bIf_false, F_ref06_four.e3, hsz, List.drop_length]
      unfold fourL
      simp only [hide_eq, bIf_and]
      have e1 : ((p : Int) == 3) = decide (p = 3) := by
        by_cases h : p = 3
        · subst h; rfl
        · rw [decide_eq_false h]; exact beq_false_of_ne (by omega)
      have e2 : decide ((d : Int) > 0) = decide (0 < d) := decide_eq_decide.2 (by omega)
      rw [e1, e2]
theorem ref_four {n : Nat} (hn : 300 ≤ n) {s : ByteArray} (hs : s.size ≤ 63) : F_ref06_four.f n s = some (addrL s.data.toList, ()) := by
  rw [F_ref06_four.e0]
  have := ref_four_J n s hs n 0 0 0 (by omega) (by omega) (by omega) (by omega)
  rw [List.drop_zero, fourL_addr] at this
  exact this

/-- The signs, one by one, each with the one behind it. -/
def badN (c d : UInt8) : Bool := (decide (d = 46) || decide (d = 45)) && (decide (c = 46) || decide (d = 46))
def mid (c : UInt8) : Bool := decide (c = 45) || decide (c = 46)
def nxt (c : UInt8) : List UInt8 → Bool
  | [] => false
  | d :: _ => !badN c d
def lab : Bool → List UInt8 → Bool
  | _, [] => true
  | first, c :: r => (lowB c || (mid c && (!first && nxt c r))) && lab false r
/-- The signs, one by one, each with the one ahead. -/
def pairOk (p c : UInt8) : Bool := lowB c || (lowB p || (decide (c = 45) && decide (p = 45)))
def rfl' : Option UInt8 → List UInt8 → Bool
  | _, [] => true
  | o, c :: r => (lowB c || mid c) && ((match o with | none => true | some p => pairOk p c) && rfl' (some c) r)
def lastLow : List UInt8 → Bool
  | [] => true
  | [c] => lowB c
  | _ :: d :: r => lastLow (d :: r)
theorem lab_rfl : ∀ (r : List UInt8) (p : UInt8), (lowB p || mid p) = true → ((lowB p || nxt p r) && lab false r) = (lastLow (p :: r) && rfl' (some p) r)
  | [], p, hp => by
    simp only [lab, rfl', lastLow, nxt, Bool.or_false]
  | c :: r, p, hp => by
    have ih := lab_rfl r c
    unfold lab rfl' lastLow
    by_cases hc : (lowB c || mid c) = true
    · have ih := ih hc
      rw [hc, Bool.true_and]
      have e1 : (lowB c || (mid c && (!false && nxt c r))) = (lowB c || nxt c r) := by
        cases hl : lowB c
        · rw [hl] at hc; simp only [Bool.false_or] at hc; rw [hc]; simp
        · simp
      rw [e1, ih]
      have e2 : (lowB p || nxt p (c :: r)) = pairOk p c := by
        unfold pairOk nxt badN
        unfold mid at hp hc
        cases hl : lowB p
        · rw [hl] at hp
          cases hl2 : lowB c
          · rw [hl2] at hc
            by_cases a1 : c = 45
            · by_cases a2 : p = 45
              · subst a1 a2; rfl
              · have a3 : p = 46 := by simpa [a2] using hp
                subst a1 a3; rfl
            · have a3 : c = 46 := by simpa [a1] using hc
              subst a3; simp
          · have : c ≠ 46 ∧ c ≠ 45 := by constructor <;> (intro h; subst h; revert hl2; decide)
            simp [this.1, this.2]
        · simp
      rw [e2]
      change (pairOk p c && (lastLow (c :: r) && rfl' (some c) r)) = (lastLow (c :: r) && (pairOk p c && rfl' (some c) r))
      cases pairOk p c <;> cases lastLow (c :: r) <;> simp
    · have hl : lowB c = false := by cases h : lowB c <;> simp_all
      have hm : mid c = false := by cases h : mid c <;> simp_all
      rw [hl, hm]; simp
/-- May it be a bucket's name? -/
def bucketB (s : ByteArray) : Bool := decide (3 ≤ s.size) && (decide (s.size ≤ 63) && (!addrL s.data.toList && lab true s.data.toList))
theorem lab_first (c : UInt8) (r : List UInt8) (hr : r ≠ []) : lab true (c :: r) = (lowB c && (lastLow (c :: r) && rfl' none (c :: r))) := by
  conv => lhs; unfold lab
  conv => rhs; unfold rfl'
  cases hl : lowB c
  · simp
  · have := lab_rfl r c (by rw [hl]; rfl)
    rw [hl] at this
    simp only [Bool.true_or, Bool.true_and] at this ⊢
    rw [this]

theorem drop_head {l : List UInt8} {k : Nat} (h : k < l.length) : ∃ r, l.drop k = l.getD k 0 :: r ∧ r = l.drop (k + 1) := ⟨_, drop_getD l h, rfl⟩
theorem u8_ne {b : UInt8} {c : Nat} (hc : c < 256) : ((b.toNat : Int) != (c : Int)) = !decide (b = UInt8.ofNat c) := by rw [← u8_eq hc]; rfl

theorem bucket_J (n : Nat) (s : ByteArray) (hs : s.size ≤ 63) : ∀ (m k : Nat), k ≤ s.size → s.size - k < m →
    F_label_Bucket.J2 n m (s, (s.size : Int), (k : Int), ()) = some (lab (decide (k = 0)) (s.data.toList.drop k), ())
  | 0, k, _, h => by omega
  | m + 1, k, hk, h => by
    have hsz := size_eq s
    rw [F_label_Bucket.e2]
    simp only [hide_eq]
    by_cases hlt : k < s.size
    · have ih := bucket_J n s hs m (k + 1) (by omega) (by omega)
      rw [decide_eq_false (show ¬ (k + 1 = 0) by omega)] at ih
      have hg : (0 ≤ (k : Int) ∧ (k : Int) < (s.size : Int)) := ⟨by omega, by omega⟩
      simp only [gIf_pos hg]
      rw [decide_eq_true (by omega), bIf_true, bt_nat, among_low, bnd_some, cast_up k (by omega), ih, wrap_i64 (x := (s.size : Int) - 1) (by omega)]
      rw [drop_getD s.data.toList (k := k) (by omega)]
      have e1 : (((s.data.toList.getD k 0).toNat : Int) != 45) = !decide (s.data.toList.getD k 0 = 45) := u8_ne (c := 45) (by decide)
      have e2 : (((s.data.toList.getD k 0).toNat : Int) != 46) = !decide (s.data.toList.getD k 0 = 46) := u8_ne (c := 46) (by decide)
      rw [e1, e2]
      generalize hc : s.data.toList.getD k 0 = c
      conv => rhs; unfold lab
      have e3 : ((k : Int) == 0) = decide (k = 0) := by
        by_cases h0 : k = 0
        · subst h0; rfl
        · rw [decide_eq_false h0]; exact beq_false_of_ne (by omega)
      have e4 : ((k : Int) == (s.size : Int) - 1) = decide (k + 1 = s.size) := by
        by_cases h0 : k + 1 = s.size
        · rw [decide_eq_true h0]; exact beq_iff_eq.2 (by omega)
        · rw [decide_eq_false h0]; exact beq_false_of_ne (by omega)
      rw [e3, e4]
      cases hl : lowB c
      · simp only [bIf_false]
        unfold mid
        by_cases hend : k + 1 = s.size
        · rw [decide_eq_true hend, show s.data.toList.drop (k + 1) = [] from List.drop_eq_nil_of_le (by omega)]
          cases decide (c = 45) <;> cases decide (c = 46) <;> cases decide (k = 0) <;> rfl
        · rw [decide_eq_false hend]
          have hJ3 : F_label_Bucket.J3 n m (s, (k : Int), (s.size : Int), (k : Int), ()) = some (!badN c (s.data.toList.getD (k + 1) 0) && lab false (s.data.toList.drop (k + 1)), ()) := by
            rw [F_label_Bucket.e3, cast_up k (by omega), gIf_pos ⟨by omega, by omega⟩, bt_nat, bt_nat, hc, ih]
            simp only [hide_eq, gIf_pos hg]
            have f1 : (((s.data.toList.getD (k + 1) 0).toNat : Int) == 46) = decide (s.data.toList.getD (k + 1) 0 = 46) := u8_eq (c := 46) (by decide)
            have f2 : (((s.data.toList.getD (k + 1) 0).toNat : Int) == 45) = decide (s.data.toList.getD (k + 1) 0 = 45) := u8_eq (c := 45) (by decide)
            have f3 : ((c.toNat : Int) == 46) = decide (c = 46) := u8_eq (c := 46) (by decide)
            rw [f1, f2, f3]
            unfold badN
            cases decide (s.data.toList.getD (k + 1) 0 = 46) <;> cases decide (s.data.toList.getD (k + 1) 0 = 45) <;> cases decide (c = 46) <;> rfl
          rw [hJ3]
          have hm : nxt c (s.data.toList.drop (k + 1)) = !badN c (s.data.toList.getD (k + 1) 0) := by
            rw [drop_getD s.data.toList (k := k + 1) (by omega)]; rfl
          rw [hm]
          cases decide (c = 45) <;> cases decide (c = 46) <;> cases decide (k = 0) <;> simp [bIf_true, bIf_false]
      · simp only [bIf_true, Bool.true_or, Bool.true_and]
    · have hkk : k = s.size := by omega
      subst hkk
      rw [decide_eq_false (by omega), bIf_false, F_label_Bucket.e4, hsz, List.drop_length]
      rfl
theorem label_Bucket {n : Nat} (hn : 300 ≤ n) (s : ByteArray) : F_label_Bucket.f n s = some (bucketB s, ()) := by
  rw [F_label_Bucket.e0]
  simp only [hide_eq]
  unfold bucketB
  have e1 : decide ((s.size : Int) < 3) = !decide (3 ≤ s.size) := dec_not (by omega)
  have e2 : decide ((s.size : Int) > 63) = !decide (s.size ≤ 63) := dec_not (by omega)
  rw [e1, e2]
  by_cases h : s.size ≤ 63
  · rw [label_address hn h, bnd_some, decide_eq_true h, F_label_Bucket.e1]
    have := bucket_J n s h n 0 (by omega) (by omega)
    rw [show ((0 : Nat) : Int) = 0 from rfl, List.drop_zero] at this
    rw [this]
    cases decide (3 ≤ s.size) <;> cases addrL s.data.toList <;> simp [bIf_true, bIf_false]
  · rw [decide_eq_false h]
    cases decide (3 ≤ s.size) <;> rfl

/-- What stands ahead. -/
def prevU (l : List UInt8) (k : Nat) : Option UInt8 := if k = 0 then none else some (l.getD (k - 1) 0)
theorem ref_bucket_J (n : Nat) (s : ByteArray) (hs : s.size ≤ 63) : ∀ (m k : Nat), k ≤ s.size → s.size - k < m →
    F_ref06_Bucket.J2 n m (s, (k : Int), ()) = some (rfl' (prevU s.data.toList k) (s.data.toList.drop k), ())
  | 0, k, _, h => by omega
  | m + 1, k, hk, h => by
    have hsz := size_eq s
    rw [F_ref06_Bucket.e2]
    simp only [hide_eq]
    by_cases hlt : k < s.size
    · have ih := ref_bucket_J n s hs m (k + 1) (by omega) (by omega)
      have hg : (0 ≤ (k : Int) ∧ (k : Int) < (s.size : Int)) := ⟨by omega, by omega⟩
      simp only [gIf_pos hg]
      rw [decide_eq_true (by omega), bIf_true, bt_nat, ref_low, bnd_some]
      rw [drop_getD s.data.toList (k := k) (by omega)]
      have e1 : (((s.data.toList.getD k 0).toNat : Int) != 45) = !decide (s.data.toList.getD k 0 = 45) := u8_ne (c := 45) (by decide)
      have e2 : (((s.data.toList.getD k 0).toNat : Int) != 46) = !decide (s.data.toList.getD k 0 = 46) := u8_ne (c := 46) (by decide)
      have e5 : (((s.data.toList.getD k 0).toNat : Int) == 45) = decide (s.data.toList.getD k 0 = 45) := u8_eq (c := 45) (by decide)
      rw [e1, e2]
      have hp : prevU s.data.toList (k + 1) = some (s.data.toList.getD k 0) := by unfold prevU; rw [if_neg (by omega), Nat.add_sub_cancel]
      rw [hp] at ih
      have hJ4 : F_ref06_Bucket.J4 n m (s, (k : Int), ()) = some (rfl' (some (s.data.toList.getD k 0)) (s.data.toList.drop (k + 1)), ()) := by
        rw [F_ref06_Bucket.e4, cast_up k (by omega), ih]
      have hJ3 : F_ref06_Bucket.J3 n m (s, (k : Int), ()) = some ((match prevU s.data.toList k with | none => true | some p => pairOk p (s.data.toList.getD k 0)) && rfl' (some (s.data.toList.getD k 0)) (s.data.toList.drop (k + 1)), ()) := by
        rw [F_ref06_Bucket.e3]
        simp only [hide_eq, gIf_pos hg]
        by_cases h0 : k = 0
        · subst h0
          rw [decide_eq_false (by omega), bIf_false, hJ4]; rfl
        · have hw : IntKind.i64.wrap ((k : Int) - 1) = ((k - 1 : Nat) : Int) := by rw [wrap_i64 (by omega)]; omega
          have hg2 : (0 ≤ ((k - 1 : Nat) : Int) ∧ ((k - 1 : Nat) : Int) < (s.size : Int)) := ⟨by omega, by omega⟩
          rw [hw, decide_eq_true (by omega), bIf_true]
          simp only [gIf_pos hg2]
          rw [bt_nat, bt_nat, ref_low, ref_low, bnd_some, bnd_some, e5, hJ4]
          have e6 : (((s.data.toList.getD (k - 1) 0).toNat : Int) == 45) = decide (s.data.toList.getD (k - 1) 0 = 45) := u8_eq (c := 45) (by decide)
          rw [e6]
          unfold prevU
          rw [if_neg h0]
          change _ = some (pairOk (s.data.toList.getD (k - 1) 0) (s.data.toList.getD k 0) && rfl' (some (s.data.toList.getD k 0)) (s.data.toList.drop (k + 1)), ())
          unfold pairOk
          generalize s.data.toList.getD k 0 = c
          generalize s.data.toList.getD (k - 1) 0 = p
          cases lowB c <;> cases lowB p <;> cases decide (c = 45) <;> cases decide (p = 45) <;> rfl
      rw [hJ3]
      conv => rhs; unfold rfl'
      unfold mid
      generalize s.data.toList.getD k 0 = c
      cases lowB c <;> cases decide (c = 45) <;> cases decide (c = 46) <;> simp [bIf_true, bIf_false]
    · have hkk : k = s.size := by omega
      subst hkk
      rw [decide_eq_false (by omega), bIf_false, F_ref06_Bucket.e5, hsz, List.drop_length]
      cases prevU s.data.toList s.data.toList.length <;> rfl
theorem lastLow_getD : ∀ (l : List UInt8), l ≠ [] → lastLow l = lowB (l.getD (l.length - 1) 0)
  | [], h => absurd rfl h
  | [c], _ => rfl
  | c :: d :: r, _ => by
    unfold lastLow
    rw [lastLow_getD (d :: r) (by simp)]
    simp
theorem ref06_Bucket {n : Nat} (hn : 300 ≤ n) (s : ByteArray) : F_ref06_Bucket.f n s = some (bucketB s, ()) := by
  rw [F_ref06_Bucket.e0]
  simp only [hide_eq]
  unfold bucketB
  have e1 : decide ((s.size : Int) < 3) = !decide (3 ≤ s.size) := dec_not (by omega)
  have e2 : decide ((s.size : Int) > 63) = !decide (s.size ≤ 63) := dec_not (by omega)
  rw [e1, e2]
  by_cases h3 : 3 ≤ s.size
  · by_cases h : s.size ≤ 63
    · have hsz := size_eq s
      have hw : IntKind.i64.wrap ((s.size : Int) - 1) = ((s.size - 1 : Nat) : Int) := by rw [wrap_i64 (by omega)]; omega
      have hg0 : (0 ≤ (0 : Int) ∧ (0 : Int) < (s.size : Int)) := ⟨by omega, by omega⟩
      have hg1 : (0 ≤ ((s.size - 1 : Nat) : Int) ∧ ((s.size - 1 : Nat) : Int) < (s.size : Int)) := ⟨by omega, by omega⟩
      simp only [hw, gIf_pos hg0, gIf_pos hg1]
      rw [decide_eq_true h3, decide_eq_true h, show bt s 0 = bt s ((0 : Nat) : Int) from rfl, bt_nat, bt_nat, ref_low, ref_low, bnd_some, bnd_some, ref_four hn h, bnd_some, F_ref06_Bucket.e1]
      have := ref_bucket_J n s h n 0 (by omega) (by omega)
      rw [show ((0 : Nat) : Int) = 0 from rfl, List.drop_zero] at this
      rw [this]
      cases hl : s.data.toList with
      | nil => exact absurd (congrArg List.length hl) (by rw [← hsz]; simp only [List.length_nil]; omega)
      | cons c r =>
        have hr : r ≠ [] := by
          intro hr; subst hr; rw [hl] at hsz; simp at hsz; omega
        rw [lab_first c r hr, lastLow_getD (c :: r) (by simp)]
        have ea : (c :: r).getD 0 0 = c := rfl
        have eb : (c :: r).length = s.size := by rw [hsz, hl]
        rw [ea, eb]
        have ep : prevU (c :: r) 0 = none := rfl
        rw [ep]
        cases lowB c <;> cases lowB ((c :: r).getD (s.size - 1) 0) <;> cases addrL (c :: r) <;> simp [bIf_true, bIf_false]
    · rw [decide_eq_false h]
      cases decide (3 ≤ s.size) <;> rfl
  · rw [decide_eq_false h3]; rfl
end Go.Proofs.YtcpkhpboemfglaaGreatDoor

namespace Go.Proofs.YtcpkhpboemfglaaGreatDoor
open Go Go.Va Go.Proofs

theorem zip_loop {α : Type} {a b : List α} (d : α) (q : α → α → Bool) (J : Nat → Int → Option (Bool × Unit)) (hab : a.length = b.length)
    (hs : ∀ m (k : Nat), k < a.length → J (m + 1) (k : Int) = bIf (q (a.getD k d) (b.getD k d)) (J m ((k + 1 : Nat) : Int)) (some (false, ())))
    (he : ∀ m, J (m + 1) ((a.length : Nat) : Int) = some (true, ())) :
    ∀ (m k : Nat), k ≤ a.length → a.length - k < m → J m (k : Int) = some (allB q (a.drop k) (b.drop k), ())
  | 0, k, _, h => by omega
  | m + 1, k, hk, h => by
    by_cases hlt : k < a.length
    · rw [hs m k hlt, zip_loop d q J hab hs he m (k + 1) (by omega) (by omega), allB_step d hlt (by omega)]
      cases q (a.getD k d) (b.getD k d) <;> rfl
    · have : k = a.length := by omega
      subst this
      rw [he, allB_end (by omega) (by omega)]
theorem ne_len {α β : Type} (a : List α) (b : List β) : (((a.length : Nat) : Int) != ((b.length : Nat) : Int)) = !decide (a.length = b.length) := by
  rw [bne, show ((((a.length : Nat) : Int) == ((b.length : Nat) : Int))) = decide (((a.length : Nat) : Int) = ((b.length : Nat) : Int)) from rfl]
  congr 1; exact decide_eq_decide.2 (by omega)

/-- Are two rules one? -/
def sameR (a b : D_api_Rule) : Bool := eqS a.1 b.1 && ((a.2.2.1 == b.2.2.1) && ((a.2.2.2.1 == b.2.2.2.1) && ((a.2.2.2.2.1 == b.2.2.2.2.1) && allB sameT a.2.1 b.2.1)))
theorem entry_sameRule {n : Nat} (hn : n ≤ 536870912) {a b : D_api_Rule} (ha : RuB n a) : F_entry_sameRule.f n a b = some (sameR a b, ()) := by
  rw [F_entry_sameRule.e0, same48 hn ha.tags.1]
  simp only [hide_eq, bnd_some, bIf_and]; rfl
theorem entry_SameRules {n : Nat} (hn : n ≤ 536870912) {a b : List D_api_Rule} (ha : RusB n a) : F_entry_SameRules.f n a b = some (allB sameR a b, ()) := by
  have hlen := ha.len
  rw [F_entry_SameRules.e0, F_slices_EqualFunc_Rule.e0, hide_eq, ne_len]
  by_cases h : a.length = b.length
  · have := zip_loop (Va.dflt T_api_Rule) sameR (fun m k => F_slices_EqualFunc_Rule.J1 n m (b, a, ((a.length : Nat) : Int), k, ())) h
      (fun m k hk => by
        try dsimp only
        rw [F_slices_EqualFunc_Rule.e1, hide_eq, decide_eq_true (by omega), bIf_true, gIf_pos ⟨by omega, by omega⟩, gIf_pos ⟨by omega, by omega⟩, Int.toNat_natCast, entry_sameRule hn (ha.all _ (getD_memA hk)), cast_up k (by omega), bnd_some]
        cases sameR _ _ <;> rfl)
      (fun m => by
        try dsimp only
        rw [F_slices_EqualFunc_Rule.e1, hide_eq, decide_eq_false (by omega), bIf_false, F_slices_EqualFunc_Rule.e2]) n 0 (by omega) (by omega)
    try dsimp only at this
    rw [show ((0 : Nat) : Int) = 0 from rfl] at this
    rw [decide_eq_true h, Bool.not_true, bIf_false, this, bnd_some]; rfl
  · rw [decide_eq_false h, Bool.not_false, bIf_true, bnd_some, allB_len a b h]
theorem ref14_SameRules {n : Nat} (hn : n ≤ 536870912) {a b : List D_api_Rule} (ha : RusB n a) : F_ref14_SameRules.f n a b = some (allB sameR a b, ()) := by
  have hlen := ha.len
  rw [F_ref14_SameRules.e0, hide_eq, ne_len]
  by_cases h : a.length = b.length
  · have := zip_loop (Va.dflt T_api_Rule) sameR (fun m k => F_ref14_SameRules.J1 n m (a, b, k, ())) h
      (fun m k hk => by
        have hr := ha.all _ (getD_memA (d := Va.dflt T_api_Rule) hk)
        have g1 : (0 ≤ (k : Int) ∧ (k : Int) < ((a.length : Nat) : Int)) := ⟨by omega, by omega⟩
        have g2 : (0 ≤ (k : Int) ∧ (k : Int) < ((b.length : Nat) : Int)) := ⟨by omega, by omega⟩
        try dsimp only
        rw [F_ref14_SameRules.e1, hide_eq, decide_eq_true (by omega), bIf_true]
        simp only [gIf_pos g1, gIf_pos g2, Int.toNat_natCast, F_ref14_SameRules.e2, cast_up k (by omega), hide_eq]
        generalize a.getD k (Va.dflt T_api_Rule) = x at hr
        generalize b.getD k (Va.dflt T_api_Rule) = y
        rw [same32 hn hr.tags.1, bnd_some, bne, bne]
        unfold sameR
        cases eqS x.1 y.1 <;> cases (x.2.2.1 == y.2.2.1) <;> cases (x.2.2.2.1 == y.2.2.2.1) <;> cases (x.2.2.2.2.1 == y.2.2.2.2.1) <;> cases allB sameT x.2.1 y.2.1 <;> rfl)
      (fun m => by
        try dsimp only
        rw [F_ref14_SameRules.e1, hide_eq, decide_eq_false (by omega), bIf_false, F_ref14_SameRules.e3]) n 0 (by omega) (by omega)
    try dsimp only at this
    rw [show ((0 : Nat) : Int) = 0 from rfl] at this
    rw [decide_eq_true h, Bool.not_true, bIf_false, this]; rfl
  · rw [decide_eq_false h, Bool.not_false, bIf_true, allB_len a b h]
def sameG (a b : D_api_Grant) : Bool := eqD T_api_Grant a b
theorem slices_Equal_Grant {n : Nat} (hn : n ≤ 536870912) {a b : List D_api_Grant} (ha : GrsB n a) : F_slices_Equal_Grant.f n a b = some (allB sameG a b, ()) := by
  have hlen := ha.len
  rw [F_slices_Equal_Grant.e0, hide_eq, ne_len]
  by_cases h : a.length = b.length
  · have := zip_loop (Va.dflt T_api_Grant) sameG (fun m k => F_slices_Equal_Grant.J1 n m (a, b, ((a.length : Nat) : Int), k, ())) h
      (fun m k hk => by
        try dsimp only
        rw [F_slices_Equal_Grant.e1, hide_eq, decide_eq_true (by omega), bIf_true, gIf_pos ⟨by omega, by omega⟩, gIf_pos ⟨by omega, by omega⟩, Int.toNat_natCast, cast_up k (by omega), hide_eq]
        unfold sameG
        cases eqD T_api_Grant _ _ <;> rfl)
      (fun m => by
        try dsimp only
        rw [F_slices_Equal_Grant.e1, hide_eq, decide_eq_false (by omega), bIf_false, F_slices_Equal_Grant.e2]) n 0 (by omega) (by omega)
    try dsimp only at this
    rw [show ((0 : Nat) : Int) = 0 from rfl] at this
    rw [decide_eq_true h, Bool.not_true, bIf_false, this]; rfl
  · rw [decide_eq_false h, Bool.not_false, bIf_true, allB_len a b h]
theorem ref14_SameGrants {n : Nat} (hn : n ≤ 536870912) {a b : List D_api_Grant} (ha : GrsB n a) : F_ref14_SameGrants.f n a b = some (allB sameG a b, ()) := by
  have hlen := ha.len
  rw [F_ref14_SameGrants.e0, hide_eq, ne_len]
  by_cases h : a.length = b.length
  · have := zip_loop (Va.dflt T_api_Grant) sameG (fun m k => F_ref14_SameGrants.J1 n m (a, b, k, ())) h
      (fun m k hk => by
        try dsimp only
        rw [F_ref14_SameGrants.e1, hide_eq, decide_eq_true (by omega), bIf_true, gIf_pos ⟨by omega, by omega⟩, gIf_pos ⟨by omega, by omega⟩, Int.toNat_natCast, cast_up k (by omega), hide_eq]
        unfold sameG
        cases eqD T_api_Grant _ _ <;> rfl)
      (fun m => by
        try dsimp only
        rw [F_ref14_SameGrants.e1, hide_eq, decide_eq_false (by omega), bIf_false, F_ref14_SameGrants.e2]) n 0 (by omega) (by omega)
    try dsimp only at this
    rw [show ((0 : Nat) : Int) = 0 from rfl] at this
    rw [decide_eq_true h, Bool.not_true, bIf_false, this]; rfl
  · rw [decide_eq_false h, Bool.not_false, bIf_true, allB_len a b h]

abbrev E : Type := D_api_Entry
/-- The room for a change, and what every change that comes in is. -/
structure EB (n : Nat) (e : E) : Prop where
  buck : e.2.2.1.size < n
  key : e.2.2.2.1.size < n
  id : 0 ≤ e.2.2.2.2.1
  ver : VB n e.2.2.2.2.2.1
  tags : TsB n e.2.2.2.2.2.2.2.1
  rules : RusB n e.2.2.2.2.2.2.2.2.2.1
  grants : GrsB n e.2.2.2.2.2.2.2.2.2.2.1
/-- Are two changes one? -/
def sameE (a b : E) : Bool := (a.1 == b.1) && ((a.2.1 == b.2.1) && (eqS a.2.2.1 b.2.2.1 && (eqS a.2.2.2.1 b.2.2.2.1 && ((a.2.2.2.2.1 == b.2.2.2.2.1) && (eqD T_api_Lock a.2.2.2.2.2.2.1 b.2.2.2.2.2.2.1 && (eqD T_api_Default a.2.2.2.2.2.2.2.2.1 b.2.2.2.2.2.2.2.2.1 && (eqD T_api_Part a.2.2.2.2.2.2.2.2.2.2.2.1 b.2.2.2.2.2.2.2.2.2.2.2.1 && (sameV a.2.2.2.2.2.1 b.2.2.2.2.2.1 && (allB sameT a.2.2.2.2.2.2.2.1 b.2.2.2.2.2.2.2.1 && (allB sameR a.2.2.2.2.2.2.2.2.2.1 b.2.2.2.2.2.2.2.2.2.1 && allB sameG a.2.2.2.2.2.2.2.2.2.2.1 b.2.2.2.2.2.2.2.2.2.2.1))))))))))
theorem entry_Same {n : Nat} (hn : n ≤ 536870912) {a b : E} (ha : EB n a) : F_entry_Same.f n a b = some (sameE a b, ()) := by
  rw [F_entry_Same.e0, F_entry_Same.e1, sameV40 hn ha.ver.tags.1, same48 hn ha.tags.1, entry_SameRules hn ha.rules, slices_Equal_Grant hn ha.grants]
  simp only [hide_eq, bnd_some, bIf_and, bIf_nand, bne, Bool.not_not]; rfl
theorem ref14_Same {n : Nat} (hn : n ≤ 536870912) {a b : E} (ha : EB n a) : F_ref14_Same.f n a b = some (sameE a b, ()) := by
  rw [F_ref14_Same.e0, F_ref14_Same.e1, sameV17 hn ha.ver.tags.1, same32 hn ha.tags.1, ref14_SameRules hn ha.rules, ref14_SameGrants hn ha.grants]
  simp only [hide_eq, bnd_some, bIf_and, bIf_nand, bne, Bool.not_not]; rfl
structure EsB (n : Nat) (l : List E) : Prop where
  len : l.length < n
  all : ∀ e ∈ l, EB n e
theorem ref14_All {n : Nat} (hn : n ≤ 536870912) {a b : List E} (ha : EsB n a) : F_ref14_All.f n a b = some (allB sameE a b, ()) := by
  have hlen := ha.len
  rw [F_ref14_All.e0, hide_eq, ne_len]
  by_cases h : a.length = b.length
  · have := zip_loop (Va.dflt T_api_Entry) sameE (fun m k => F_ref14_All.J1 n m (a, b, k, ())) h
      (fun m k hk => by
        try dsimp only
        rw [F_ref14_All.e1, hide_eq, decide_eq_true (by omega), bIf_true, gIf_pos ⟨by omega, by omega⟩, gIf_pos ⟨by omega, by omega⟩, Int.toNat_natCast, ref14_Same hn (ha.all _ (getD_memA hk)), cast_up k (by omega), bnd_some]
        cases sameE _ _ <;> rfl)
      (fun m => by
        try dsimp only
        rw [F_ref14_All.e1, hide_eq, decide_eq_false (by omega), bIf_false, F_ref14_All.e2]) n 0 (by omega) (by omega)
    try dsimp only at this
    rw [show ((0 : Nat) : Int) = 0 from rfl] at this
    rw [decide_eq_true h, Bool.not_true, bIf_false, this]; rfl
  · rw [decide_eq_false h, Bool.not_false, bIf_true, allB_len a b h]

/-- Which fields a kind has, as the document writes it. -/
def hasB (k : Int) : ByteArray :=
  if k = 1 ∨ k = 2 ∨ k = 3 then ⟨#[46]⟩ else if k = 4 then ⟨#[100]⟩ else if k = 5 then ⟨#[114]⟩ else if k = 6 then ⟨#[103]⟩ else if k = 7 then ⟨#[107, 118]⟩
  else if k = 8 then ⟨#[107, 105]⟩ else if k = 9 then ⟨#[107, 105, 108]⟩ else if k = 10 ∨ k = 11 then ⟨#[107, 105, 116]⟩ else if k = 12 then ⟨#[105, 112]⟩ else if k = 13 then ⟨#[105]⟩ else ⟨#[]⟩
theorem ref14_has (n : Nat) (k : Int) : F_ref14_has.f n k = some (hasB k, ()) := by
  rw [F_ref14_has.e0]
  simp only [F_ref14_has.e1, F_ref14_has.e2, hide_eq, bIf_eq, beq_iff_eq, if_true]
  unfold hasB
  by_cases h : k = 1 ∨ k = 2 ∨ k = 3
  · rcases h with h | h | h <;> subst h <;> rfl
  · rw [if_neg h]
    have h1 : k ≠ 1 := by omega
    have h2 : k ≠ 2 := by omega
    have h3 : k ≠ 3 := by omega
    simp only [if_neg h1, if_neg h2, if_neg h3]
    by_cases h4 : k = 4
    · rw [if_pos h4, if_pos h4]
    rw [if_neg h4, if_neg h4]
    by_cases h4 : k = 5
    · rw [if_pos h4, if_pos h4]
    rw [if_neg h4, if_neg h4]
    by_cases h4 : k = 6
    · rw [if_pos h4, if_pos h4]
    rw [if_neg h4, if_neg h4]
    by_cases h4 : k = 7
    · rw [if_pos h4, if_pos h4]
    rw [if_neg h4, if_neg h4]
    by_cases h4 : k = 8
    · rw [if_pos h4, if_pos h4]
    rw [if_neg h4, if_neg h4]
    by_cases h4 : k = 9
    · rw [if_pos h4, if_pos h4]
    rw [if_neg h4, if_neg h4]
    by_cases h4 : k = 10 ∨ k = 11
    · rw [if_pos h4]
      rcases h4 with h4 | h4 <;> subst h4 <;> rfl
    have h5 : k ≠ 10 := by omega
    have h6 : k ≠ 11 := by omega
    rw [if_neg h4, if_neg h5, if_neg h6]
    by_cases h4 : k = 12
    · rw [if_pos h4, if_pos h4]
    rw [if_neg h4, if_neg h4]
    by_cases h4 : k = 13
    · rw [if_pos h4, if_pos h4]
    rw [if_neg h4, if_neg h4]
/-- Is a sign in a text? -/
def inB (s : ByteArray) (c : Nat) : Bool := s.data.toList.any fun b => decide (b = UInt8.ofNat c)
theorem ref14_in {n : Nat} {s : ByteArray} (hs : s.size < 4) (hn : 300 ≤ n) (c : Nat) (hc : c < 256) : F_ref14_in.f n s (c : Int) = some (inB s c, ()) := by
  have hl : s.data.toList.length = s.size := rfl
  have := all_loop (l := s.data.toList) 0 (fun b => !decide (b = UInt8.ofNat c)) (fun m k => F_ref14_in.J1 n m (s, (c : Int), k, ())) (some (false, ())) (some (true, ()))
    (fun m k hk => by
      try dsimp only
      rw [F_ref14_in.e1, hide_eq, decide_eq_true (by omega), bIf_true, gIf_pos ⟨by omega, by omega⟩, bt_nat, hide_eq, u8_eq hc, cast_up k (by omega)]
      cases decide (_ = UInt8.ofNat c) <;> rfl)
    (fun m => by
      try dsimp only
      rw [F_ref14_in.e1, hide_eq, decide_eq_false (by omega), bIf_false, F_ref14_in.e2]) n 0 (by omega) (by omega)
  rw [F_ref14_in.e0]
  try dsimp only at this
  rw [show ((0 : Nat) : Int) = 0 from rfl] at this
  rw [this, List.drop_zero]
  unfold inB
  rw [← List.not_any_eq_all_not]
  cases List.any _ _ <;> rfl
/-- A field of a change: it is there and good, or it isn't and is nothing. -/
def fld (h : ByteArray) (c : Nat) (good zero : Bool) : Bool := if inB h c then good else zero
abbrev verZ : Ver := (0, (false, (0, (0, ((List.replicate 32 0), (0, ((0, (0, (false, ()))), ([], ()))))))))
/-- May it be a change? -/
def soundE (e : E) : Bool :=
  !eqS (hasB e.1) ⟨#[]⟩ && ((clampI e.2.1 == e.2.1) && ((if e.1 = 1 then eqS e.2.2.1 ⟨#[]⟩ else bucketB e.2.2.1) && (fld (hasB e.1) 107 (keyB e.2.2.2.1) (eqS e.2.2.2.1 ⟨#[]⟩) &&
    (fld (hasB e.1) 105 (decide (e.2.2.2.2.1 ≥ 1)) (e.2.2.2.2.1 == 0) && (fld (hasB e.1) 118 (verB e.2.2.2.2.2.1 && (e.2.2.2.2.2.1.2.2.2.2.2.1 == e.2.1)) (sameV e.2.2.2.2.2.1 verZ) &&
    (fld (hasB e.1) 108 (lockB e.2.2.2.2.2.2.1) (eqD T_api_Lock e.2.2.2.2.2.2.1 (0, (0, (false, ())))) && (fld (hasB e.1) 116 (tagsB e.2.2.2.2.2.2.2.1) (((e.2.2.2.2.2.2.2.1.length : Nat) : Int) == 0) &&
    (fld (hasB e.1) 100 (modeB e.2.2.2.2.2.2.2.2.1) (eqD T_api_Default e.2.2.2.2.2.2.2.2.1 (0, (0, ()))) && (fld (hasB e.1) 114 (rulesB e.2.2.2.2.2.2.2.2.2.1) (((e.2.2.2.2.2.2.2.2.2.1.length : Nat) : Int) == 0) &&
    (fld (hasB e.1) 103 (grantsB e.2.2.2.2.2.2.2.2.2.2.1) (((e.2.2.2.2.2.2.2.2.2.2.1.length : Nat) : Int) == 0) && fld (hasB e.1) 112 (partB e.2.2.2.2.2.2.2.2.2.2.2.1) (eqD T_api_Part e.2.2.2.2.2.2.2.2.2.2.2.1 (0, (0, (0, ((List.replicate 32 0), ())))))))))))))))
theorem hasB_size (k : Int) : (hasB k).size < 4 := by
  unfold hasB
  repeat' split
  all_goals decide
theorem ref14_Sound {n : Nat} (hn : n ≤ 536870912) (h3 : 300 ≤ n) {e : E} (he : EB n e) : F_ref14_Sound.f n e = some (soundE e, ()) := by
  have hi : ∀ c : Nat, c < 256 → F_ref14_in.f n (hasB e.1) (c : Int) = some (inB (hasB e.1) c, ()) := fun c hc => ref14_in (hasB_size _) h3 c hc
  have i1 := hi 107 (by decide)
  have i2 := hi 105 (by decide)
  have i3 := hi 118 (by decide)
  have i4 := hi 108 (by decide)
  have i5 := hi 116 (by decide)
  have i6 := hi 100 (by decide)
  have i7 := hi 114 (by decide)
  have i8 := hi 103 (by decide)
  have i9 := hi 112 (by decide)
  have e10 : ∀ a, F_ref14_Sound.J10 n (hasB e.1, a, e, ()) = some (a && fld (hasB e.1) 112 (partB e.2.2.2.2.2.2.2.2.2.2.2.1) (eqD T_api_Part e.2.2.2.2.2.2.2.2.2.2.2.1 (0, (0, (0, ((List.replicate 32 0), ()))))), ()) := by
    intro a
    rw [F_ref14_Sound.e10, show (112 : Int) = ((112 : Nat) : Int) from rfl, i9, ref14_Part]
    simp only [hide_eq, bnd_some]
    unfold fld
    cases a <;> cases inB (hasB e.1) 112 <;> cases partB e.2.2.2.2.2.2.2.2.2.2.2.1 <;> rfl
  have e9 : ∀ a, F_ref14_Sound.J9 n (hasB e.1, a, e, ()) = F_ref14_Sound.J10 n (hasB e.1, a && fld (hasB e.1) 103 (grantsB e.2.2.2.2.2.2.2.2.2.2.1) (((e.2.2.2.2.2.2.2.2.2.2.1.length : Nat) : Int) == 0), e, ()) := by
    intro a
    rw [F_ref14_Sound.e9, show (103 : Int) = ((103 : Nat) : Int) from rfl, i8, ref14_Grants hn he.grants]
    simp only [hide_eq, bnd_some]
    unfold fld
    cases a <;> cases inB (hasB e.1) 103 <;> cases grantsB e.2.2.2.2.2.2.2.2.2.2.1 <;> rfl
  have e8 : ∀ a, F_ref14_Sound.J8 n (hasB e.1, a, e, ()) = F_ref14_Sound.J9 n (hasB e.1, a && fld (hasB e.1) 114 (rulesB e.2.2.2.2.2.2.2.2.2.1) (((e.2.2.2.2.2.2.2.2.2.1.length : Nat) : Int) == 0), e, ()) := by
    intro a
    rw [F_ref14_Sound.e8, show (114 : Int) = ((114 : Nat) : Int) from rfl, i7, ref14_Rules hn (by omega) he.rules]
    simp only [hide_eq, bnd_some]
    unfold fld
    cases a <;> cases inB (hasB e.1) 114 <;> cases rulesB e.2.2.2.2.2.2.2.2.2.1 <;> rfl
  have e7 : ∀ a, F_ref14_Sound.J7 n (hasB e.1, a, e, ()) = F_ref14_Sound.J8 n (hasB e.1, a && fld (hasB e.1) 100 (modeB e.2.2.2.2.2.2.2.2.1) (eqD T_api_Default e.2.2.2.2.2.2.2.2.1 (0, (0, ()))), e, ()) := by
    intro a
    rw [F_ref14_Sound.e7, show (100 : Int) = ((100 : Nat) : Int) from rfl, i6, ref12_Good]
    simp only [hide_eq, bnd_some]
    unfold fld
    cases a <;> cases inB (hasB e.1) 100 <;> cases modeB e.2.2.2.2.2.2.2.2.1 <;> rfl
  have e6 : ∀ a, F_ref14_Sound.J6 n (hasB e.1, a, e, ()) = F_ref14_Sound.J7 n (hasB e.1, a && fld (hasB e.1) 116 (tagsB e.2.2.2.2.2.2.2.1) (((e.2.2.2.2.2.2.2.1.length : Nat) : Int) == 0), e, ()) := by
    intro a
    rw [F_ref14_Sound.e6, show (116 : Int) = ((116 : Nat) : Int) from rfl, i5, tags38 hn (by omega) he.tags]
    simp only [hide_eq, bnd_some]
    unfold fld
    cases a <;> cases inB (hasB e.1) 116 <;> cases tagsB e.2.2.2.2.2.2.2.1 <;> rfl
  have e5 : ∀ a, F_ref14_Sound.J5 n (hasB e.1, a, e, ()) = F_ref14_Sound.J6 n (hasB e.1, a && fld (hasB e.1) 108 (lockB e.2.2.2.2.2.2.1) (eqD T_api_Lock e.2.2.2.2.2.2.1 (0, (0, (false, ())))), e, ()) := by
    intro a
    rw [F_ref14_Sound.e5, show (108 : Int) = ((108 : Nat) : Int) from rfl, i4, lock37]
    simp only [hide_eq, bnd_some]
    unfold fld
    cases a <;> cases inB (hasB e.1) 108 <;> cases lockB e.2.2.2.2.2.2.1 <;> rfl
  have e4 : ∀ a, F_ref14_Sound.J4 n (hasB e.1, a, e, verZ, ()) = F_ref14_Sound.J5 n (hasB e.1, a && fld (hasB e.1) 118 (verB e.2.2.2.2.2.1 && (e.2.2.2.2.2.1.2.2.2.2.2.1 == e.2.1)) (sameV e.2.2.2.2.2.1 verZ), e, ()) := by
    intro a
    rw [F_ref14_Sound.e4, show (118 : Int) = ((118 : Nat) : Int) from rfl, i3, ver19 hn (by omega) he.ver, sameV17 hn he.ver.tags.1]
    simp only [hide_eq, bnd_some]
    unfold fld
    cases a <;> cases inB (hasB e.1) 118 <;> cases verB e.2.2.2.2.2.1 <;> cases (e.2.2.2.2.2.1.2.2.2.2.2.1 == e.2.1) <;> rfl
  have e3 : ∀ a, F_ref14_Sound.J3 n (hasB e.1, a, e, verZ, ()) = F_ref14_Sound.J4 n (hasB e.1, a && fld (hasB e.1) 105 (decide (e.2.2.2.2.1 ≥ 1)) (e.2.2.2.2.1 == 0), e, verZ, ()) := by
    intro a
    rw [F_ref14_Sound.e3, show (105 : Int) = ((105 : Nat) : Int) from rfl, i2]
    simp only [hide_eq, bnd_some]
    unfold fld
    cases a <;> cases inB (hasB e.1) 105 <;> cases decide (e.2.2.2.2.1 ≥ 1) <;> rfl
  have e2 : F_ref14_Sound.J2 n (hasB e.1, e, ()) = F_ref14_Sound.J3 n (hasB e.1, fld (hasB e.1) 107 (keyB e.2.2.2.1) (eqS e.2.2.2.1 ⟨#[]⟩), e, verZ, ()) := by
    rw [F_ref14_Sound.e2, show (107 : Int) = ((107 : Nat) : Int) from rfl, i1, key30 he.key hn (by omega)]
    simp only [hide_eq, bnd_some]
    unfold fld
    cases inB (hasB e.1) 107 <;> cases keyB e.2.2.2.1 <;> rfl
  have e1 : F_ref14_Sound.J1 n (hasB e.1, e, ()) = bIf (if e.1 = 1 then eqS e.2.2.1 ⟨#[]⟩ else bucketB e.2.2.1) (F_ref14_Sound.J2 n (hasB e.1, e, ())) (some (false, ())) := by
    rw [F_ref14_Sound.e1, ref06_Bucket h3, show (e.1 == 1) = decide (e.1 = 1) from rfl, show (e.1 != 1) = !decide (e.1 = 1) from rfl]
    simp only [hide_eq, bnd_some]
    by_cases hk : e.1 = 1
    · rw [decide_eq_true hk, if_pos hk]
      cases eqS e.2.2.1 ⟨#[]⟩ <;> rfl
    · rw [decide_eq_false hk, if_neg hk]
      cases bucketB e.2.2.1 <;> rfl
  rw [F_ref14_Sound.e0, ref14_has, bnd_some, clamp36, e1, e2, e3, e4, e5, e6, e7, e8, e9, e10]
  simp only [hide_eq, bnd_some, bne]
  unfold soundE
  generalize fld (hasB e.1) 107 _ _ = b1
  generalize fld (hasB e.1) 105 _ _ = b2
  generalize fld (hasB e.1) 118 _ _ = b3
  generalize fld (hasB e.1) 108 _ _ = b4
  generalize fld (hasB e.1) 116 _ _ = b5
  generalize fld (hasB e.1) 100 _ _ = b6
  generalize fld (hasB e.1) 114 _ _ = b7
  generalize fld (hasB e.1) 103 _ _ = b8
  generalize fld (hasB e.1) 112 _ _ = b9
  simp only [bIf_and, bIf_nand, Bool.not_not, Bool.and_assoc]
end Go.Proofs.YtcpkhpboemfglaaGreatDoor

namespace Go.Proofs.YtcpkhpboemfglaaGreatDoor
open Go Go.Va Go.Proofs
abbrev lockZ : D_api_Lock := (0, (0, (false, ())))
abbrev partZ : D_api_Part := (0, (0, (0, ((List.replicate 32 0), ()))))
theorem allB_nil {α : Type} (q : α → α → Bool) (a : List α) : allB q a [] = (((a.length : Nat) : Int) == 0) := by
  cases a with
  | nil => rfl
  | cons x a => rfl
theorem partRefl (p : D_api_Part) : eqD T_api_Part p p = true := by
  change (decide (p.1 = p.1) && (decide (p.2.1 = p.2.1) && (decide (p.2.2.1 = p.2.2.1) && (eqD (.arr 32 (.int .u8)) p.2.2.2.1 p.2.2.2.1 && true)))) = true
  rw [digRefl, decide_eq_true rfl, decide_eq_true rfl, decide_eq_true rfl]; rfl
theorem defRefl (p : D_api_Default) : eqD T_api_Default p p = true := by
  change (decide (p.1 = p.1) && (decide (p.2.1 = p.2.1) && true)) = true
  rw [decide_eq_true rfl, decide_eq_true rfl]; rfl
theorem c00 : (((0 : Nat) : Int) == (0 : Int)) = true := rfl
theorem strip_1 {n : Nat} (hn : n ≤ 536870912) {e : E} (ok : Bool) (he : EB n e) : F_entry_strip_1.f n e ok = some ((e.1, (e.2.1, (e.2.2.1, ((⟨#[]⟩ : ByteArray), (0, e.2.2.2.2.2))))), keyB e.2.2.2.1 && decide (e.2.2.2.2.1 > 0), ()) := by
  rw [F_entry_strip_1.e0, key24 he.key hn, bnd_some]
  simp only [F_entry_strip_1.e1, hide_eq]
  cases keyB e.2.2.2.1 <;> rfl
theorem VBz {n : Nat} (hn : 0 < n) : VB n verZ := ⟨by decide, by decide, rfl, ⟨hn, by intro t ht; exact nomatch ht⟩⟩
theorem bIf_pair {α : Type} (a b : Bool) (x : α) : bIf a (some (x, b, ())) (some (x, false, ())) = some (x, a && b, ()) := by cases a <;> rfl
theorem bucket_nil (b : ByteArray) (h : eqS b ⟨#[]⟩ = true) : bucketB b = false := by
  rw [size0, decide_eq_true_iff] at h
  unfold bucketB
  rw [decide_eq_false (by omega)]; rfl
theorem strip_k1 {n : Nat} (hn : n ≤ 536870912) (t : Int) (b y : ByteArray) (i : Int) (v : Ver) (l : D_api_Lock) (tg : List D_api_Tag) (d : D_api_Default) (r : List D_api_Rule) (g : List D_api_Grant) (p : D_api_Part) (u : Unit) (he : EB n (1, t, b, y, i, v, l, tg, d, r, g, p, u)) :
    F_entry_strip.f n (1, t, b, y, i, v, l, tg, d, r, g, p, u) = some ((1, t, b, y, i, v, l, tg, d, r, g, p, u), true, ()) := by
  rw [F_entry_strip.e0]
  simp only [F_entry_strip.e1, F_entry_strip.e2, F_entry_strip.e3, F_entry_strip.e4, F_entry_strip.e5, F_entry_strip.e6, hide_eq, Int.reduceBEq, bIf_true, bIf_false, bnd_some, strip_1 hn _ he, mode_Good, lock34, entry_Part, entry_Rules hn he.rules, entry_Grants hn he.grants, ver18 hn he.ver, tags35 hn he.tags, key24 he.key hn, bIf_pair]
set_option maxHeartbeats 4000000 in
theorem sound_k1 {n : Nat} (hn : n ≤ 536870912) (h0 : 300 ≤ n) (t : Int) (b y : ByteArray) (i : Int) (v : Ver) (l : D_api_Lock) (tg : List D_api_Tag) (d : D_api_Default) (r : List D_api_Rule) (g : List D_api_Grant) (p : D_api_Part) (u : Unit) (he : EB n (1, t, b, y, i, v, l, tg, d, r, g, p, u)) :
    F_entry_Sound.f n (1, t, b, y, i, v, l, tg, d, r, g, p, u) = some (soundE (1, t, b, y, i, v, l, tg, d, r, g, p, u), ()) := by
  have h0 : 0 < n := by omega
  have hs := entry_Same (b := (1, t, b, (⟨#[]⟩ : ByteArray), 0, verZ, lockZ, [], (0, (0, ())), [], [], partZ, ())) hn (show EB n (1, t, b, y, i, v, l, tg, d, r, g, p, u) from ⟨he.buck, he.key, he.id, he.ver, he.tags, he.rules, he.grants⟩)
  rw [F_entry_Sound.e0, clamp33, label_Bucket (by omega)]
  simp only [F_entry_Sound.e1, strip_k1 hn t b y i v l tg d r g p u he, bnd_some, hide_eq, bIf_and]
  rw [hs]
  simp only [bnd_some, bIf_and]
  unfold soundE sameE
  simp only [fld, show eqS (hasB 1) ⟨#[]⟩ = false by decide +kernel, show inB (hasB 1) 107 = false by decide +kernel, show inB (hasB 1) 105 = false by decide +kernel, show inB (hasB 1) 118 = false by decide +kernel, show inB (hasB 1) 108 = false by decide +kernel, show inB (hasB 1) 116 = false by decide +kernel, show inB (hasB 1) 100 = false by decide +kernel, show inB (hasB 1) 114 = false by decide +kernel, show inB (hasB 1) 103 = false by decide +kernel, show inB (hasB 1) 112 = false by decide +kernel, if_true, if_false, Bool.false_eq_true, allB_nil, eqS_self, sameV_refl, lockRefl, partRefl, defRefl, beq_self_eq_true, Bool.true_and, Bool.and_true, Int.reduceBEq, Bool.not_false, List.length_nil, c00, Int.reduceEq, z_pos, z_ge, bne]
  have hbn := bucket_nil b
  rw [show (t == clampI t) = (clampI t == t) from Bool.beq_comm]
  revert hbn
  generalize (clampI t == t) = q0
  generalize eqS b ⟨#[]⟩ = q1
  generalize bucketB b = q2
  try generalize eqS y ⟨#[]⟩ = x0
  try generalize keyB y = x1
  try generalize (i == 0) = x2
  try generalize decide (1 ≤ i) = x3
  try generalize eqD T_api_Lock l _ = x4
  try generalize lockB l = x5
  try generalize eqD T_api_Default d _ = x6
  try generalize modeB d = x7
  try generalize eqD T_api_Part p _ = x8
  try generalize partB p = x9
  try generalize sameV v _ = x10
  try generalize verB v = x11
  try generalize (v.2.2.2.2.2.1 == t) = x12
  try generalize (((tg.length : Nat) : Int) == 0) = x13
  try generalize tagsB tg = x14
  try generalize (((r.length : Nat) : Int) == 0) = x15
  try generalize rulesB r = x16
  try generalize (((g.length : Nat) : Int) == 0) = x17
  try generalize grantsB g = x18
  intro hbn
  clear hs he
  cases q1 <;> cases q2 <;> first | exact absurd (hbn rfl) (by decide) | (simp only [Bool.not_false, Bool.not_true, bIf_true, bIf_false, bIf_nand, Bool.true_and, Bool.false_and, Bool.and_false, beq_true, beq_false, Bool.not_not, bIf_same, Bool.and_true]; first | done | simp only [Bool.and_comm, Bool.and_left_comm, Bool.and_assoc])
theorem strip_k2 {n : Nat} (hn : n ≤ 536870912) (t : Int) (b y : ByteArray) (i : Int) (v : Ver) (l : D_api_Lock) (tg : List D_api_Tag) (d : D_api_Default) (r : List D_api_Rule) (g : List D_api_Grant) (p : D_api_Part) (u : Unit) (he : EB n (2, t, b, y, i, v, l, tg, d, r, g, p, u)) :
    F_entry_strip.f n (2, t, b, y, i, v, l, tg, d, r, g, p, u) = some ((2, t, b, y, i, v, l, tg, d, r, g, p, u), true, ()) := by
  rw [F_entry_strip.e0]
  simp only [F_entry_strip.e1, F_entry_strip.e2, F_entry_strip.e3, F_entry_strip.e4, F_entry_strip.e5, F_entry_strip.e6, hide_eq, Int.reduceBEq, bIf_true, bIf_false, bnd_some, strip_1 hn _ he, mode_Good, lock34, entry_Part, entry_Rules hn he.rules, entry_Grants hn he.grants, ver18 hn he.ver, tags35 hn he.tags, key24 he.key hn, bIf_pair]
set_option maxHeartbeats 4000000 in
theorem sound_k2 {n : Nat} (hn : n ≤ 536870912) (h0 : 300 ≤ n) (t : Int) (b y : ByteArray) (i : Int) (v : Ver) (l : D_api_Lock) (tg : List D_api_Tag) (d : D_api_Default) (r : List D_api_Rule) (g : List D_api_Grant) (p : D_api_Part) (u : Unit) (he : EB n (2, t, b, y, i, v, l, tg, d, r, g, p, u)) :
    F_entry_Sound.f n (2, t, b, y, i, v, l, tg, d, r, g, p, u) = some (soundE (2, t, b, y, i, v, l, tg, d, r, g, p, u), ()) := by
  have h0 : 0 < n := by omega
  have hs := entry_Same (b := (2, t, b, (⟨#[]⟩ : ByteArray), 0, verZ, lockZ, [], (0, (0, ())), [], [], partZ, ())) hn (show EB n (2, t, b, y, i, v, l, tg, d, r, g, p, u) from ⟨he.buck, he.key, he.id, he.ver, he.tags, he.rules, he.grants⟩)
  rw [F_entry_Sound.e0, clamp33, label_Bucket (by omega)]
  simp only [F_entry_Sound.e1, strip_k2 hn t b y i v l tg d r g p u he, bnd_some, hide_eq, bIf_and]
  rw [hs]
  simp only [bnd_some, bIf_and]
  unfold soundE sameE
  simp only [fld, show eqS (hasB 2) ⟨#[]⟩ = false by decide +kernel, show inB (hasB 2) 107 = false by decide +kernel, show inB (hasB 2) 105 = false by decide +kernel, show inB (hasB 2) 118 = false by decide +kernel, show inB (hasB 2) 108 = false by decide +kernel, show inB (hasB 2) 116 = false by decide +kernel, show inB (hasB 2) 100 = false by decide +kernel, show inB (hasB 2) 114 = false by decide +kernel, show inB (hasB 2) 103 = false by decide +kernel, show inB (hasB 2) 112 = false by decide +kernel, if_true, if_false, Bool.false_eq_true, allB_nil, eqS_self, sameV_refl, lockRefl, partRefl, defRefl, beq_self_eq_true, Bool.true_and, Bool.and_true, Int.reduceBEq, Bool.not_false, List.length_nil, c00, Int.reduceEq, z_pos, z_ge, bne]
  have hbn := bucket_nil b
  rw [show (t == clampI t) = (clampI t == t) from Bool.beq_comm]
  revert hbn
  generalize (clampI t == t) = q0
  generalize eqS b ⟨#[]⟩ = q1
  generalize bucketB b = q2
  try generalize eqS y ⟨#[]⟩ = x0
  try generalize keyB y = x1
  try generalize (i == 0) = x2
  try generalize decide (1 ≤ i) = x3
  try generalize eqD T_api_Lock l _ = x4
  try generalize lockB l = x5
  try generalize eqD T_api_Default d _ = x6
  try generalize modeB d = x7
  try generalize eqD T_api_Part p _ = x8
  try generalize partB p = x9
  try generalize sameV v _ = x10
  try generalize verB v = x11
  try generalize (v.2.2.2.2.2.1 == t) = x12
  try generalize (((tg.length : Nat) : Int) == 0) = x13
  try generalize tagsB tg = x14
  try generalize (((r.length : Nat) : Int) == 0) = x15
  try generalize rulesB r = x16
  try generalize (((g.length : Nat) : Int) == 0) = x17
  try generalize grantsB g = x18
  intro hbn
  clear hs he
  cases q1 <;> cases q2 <;> first | exact absurd (hbn rfl) (by decide) | (simp only [Bool.not_false, Bool.not_true, bIf_true, bIf_false, bIf_nand, Bool.true_and, Bool.false_and, Bool.and_false, beq_true, beq_false, Bool.not_not, bIf_same, Bool.and_true]; first | done | simp only [Bool.and_comm, Bool.and_left_comm, Bool.and_assoc])
theorem strip_k3 {n : Nat} (hn : n ≤ 536870912) (t : Int) (b y : ByteArray) (i : Int) (v : Ver) (l : D_api_Lock) (tg : List D_api_Tag) (d : D_api_Default) (r : List D_api_Rule) (g : List D_api_Grant) (p : D_api_Part) (u : Unit) (he : EB n (3, t, b, y, i, v, l, tg, d, r, g, p, u)) :
    F_entry_strip.f n (3, t, b, y, i, v, l, tg, d, r, g, p, u) = some ((3, t, b, y, i, v, l, tg, d, r, g, p, u), true, ()) := by
  rw [F_entry_strip.e0]
  simp only [F_entry_strip.e1, F_entry_strip.e2, F_entry_strip.e3, F_entry_strip.e4, F_entry_strip.e5, F_entry_strip.e6, hide_eq, Int.reduceBEq, bIf_true, bIf_false, bnd_some, strip_1 hn _ he, mode_Good, lock34, entry_Part, entry_Rules hn he.rules, entry_Grants hn he.grants, ver18 hn he.ver, tags35 hn he.tags, key24 he.key hn, bIf_pair]
set_option maxHeartbeats 4000000 in
theorem sound_k3 {n : Nat} (hn : n ≤ 536870912) (h0 : 300 ≤ n) (t : Int) (b y : ByteArray) (i : Int) (v : Ver) (l : D_api_Lock) (tg : List D_api_Tag) (d : D_api_Default) (r : List D_api_Rule) (g : List D_api_Grant) (p : D_api_Part) (u : Unit) (he : EB n (3, t, b, y, i, v, l, tg, d, r, g, p, u)) :
    F_entry_Sound.f n (3, t, b, y, i, v, l, tg, d, r, g, p, u) = some (soundE (3, t, b, y, i, v, l, tg, d, r, g, p, u), ()) := by
  have h0 : 0 < n := by omega
  have hs := entry_Same (b := (3, t, b, (⟨#[]⟩ : ByteArray), 0, verZ, lockZ, [], (0, (0, ())), [], [], partZ, ())) hn (show EB n (3, t, b, y, i, v, l, tg, d, r, g, p, u) from ⟨he.buck, he.key, he.id, he.ver, he.tags, he.rules, he.grants⟩)
  rw [F_entry_Sound.e0, clamp33, label_Bucket (by omega)]
  simp only [F_entry_Sound.e1, strip_k3 hn t b y i v l tg d r g p u he, bnd_some, hide_eq, bIf_and]
  rw [hs]
  simp only [bnd_some, bIf_and]
  unfold soundE sameE
  simp only [fld, show eqS (hasB 3) ⟨#[]⟩ = false by decide +kernel, show inB (hasB 3) 107 = false by decide +kernel, show inB (hasB 3) 105 = false by decide +kernel, show inB (hasB 3) 118 = false by decide +kernel, show inB (hasB 3) 108 = false by decide +kernel, show inB (hasB 3) 116 = false by decide +kernel, show inB (hasB 3) 100 = false by decide +kernel, show inB (hasB 3) 114 = false by decide +kernel, show inB (hasB 3) 103 = false by decide +kernel, show inB (hasB 3) 112 = false by decide +kernel, if_true, if_false, Bool.false_eq_true, allB_nil, eqS_self, sameV_refl, lockRefl, partRefl, defRefl, beq_self_eq_true, Bool.true_and, Bool.and_true, Int.reduceBEq, Bool.not_false, List.length_nil, c00, Int.reduceEq, z_pos, z_ge, bne]
  have hbn := bucket_nil b
  rw [show (t == clampI t) = (clampI t == t) from Bool.beq_comm]
  revert hbn
  generalize (clampI t == t) = q0
  generalize eqS b ⟨#[]⟩ = q1
  generalize bucketB b = q2
  try generalize eqS y ⟨#[]⟩ = x0
  try generalize keyB y = x1
  try generalize (i == 0) = x2
  try generalize decide (1 ≤ i) = x3
  try generalize eqD T_api_Lock l _ = x4
  try generalize lockB l = x5
  try generalize eqD T_api_Default d _ = x6
  try generalize modeB d = x7
  try generalize eqD T_api_Part p _ = x8
  try generalize partB p = x9
  try generalize sameV v _ = x10
  try generalize verB v = x11
  try generalize (v.2.2.2.2.2.1 == t) = x12
  try generalize (((tg.length : Nat) : Int) == 0) = x13
  try generalize tagsB tg = x14
  try generalize (((r.length : Nat) : Int) == 0) = x15
  try generalize rulesB r = x16
  try generalize (((g.length : Nat) : Int) == 0) = x17
  try generalize grantsB g = x18
  intro hbn
  clear hs he
  cases q1 <;> cases q2 <;> first | exact absurd (hbn rfl) (by decide) | (simp only [Bool.not_false, Bool.not_true, bIf_true, bIf_false, bIf_nand, Bool.true_and, Bool.false_and, Bool.and_false, beq_true, beq_false, Bool.not_not, bIf_same, Bool.and_true]; first | done | simp only [Bool.and_comm, Bool.and_left_comm, Bool.and_assoc])
theorem strip_k4 {n : Nat} (hn : n ≤ 536870912) (t : Int) (b y : ByteArray) (i : Int) (v : Ver) (l : D_api_Lock) (tg : List D_api_Tag) (d : D_api_Default) (r : List D_api_Rule) (g : List D_api_Grant) (p : D_api_Part) (u : Unit) (he : EB n (4, t, b, y, i, v, l, tg, d, r, g, p, u)) :
    F_entry_strip.f n (4, t, b, y, i, v, l, tg, d, r, g, p, u) = some ((4, t, b, y, i, v, l, tg, (0, (0, ())), r, g, p, u), modeB d, ()) := by
  rw [F_entry_strip.e0]
  simp only [F_entry_strip.e1, F_entry_strip.e2, F_entry_strip.e3, F_entry_strip.e4, F_entry_strip.e5, F_entry_strip.e6, hide_eq, Int.reduceBEq, bIf_true, bIf_false, bnd_some, strip_1 hn _ he, mode_Good, lock34, entry_Part, entry_Rules hn he.rules, entry_Grants hn he.grants, ver18 hn he.ver, tags35 hn he.tags, key24 he.key hn, bIf_pair]
set_option maxHeartbeats 4000000 in
theorem sound_k4 {n : Nat} (hn : n ≤ 536870912) (h0 : 300 ≤ n) (t : Int) (b y : ByteArray) (i : Int) (v : Ver) (l : D_api_Lock) (tg : List D_api_Tag) (d : D_api_Default) (r : List D_api_Rule) (g : List D_api_Grant) (p : D_api_Part) (u : Unit) (he : EB n (4, t, b, y, i, v, l, tg, d, r, g, p, u)) :
    F_entry_Sound.f n (4, t, b, y, i, v, l, tg, d, r, g, p, u) = some (soundE (4, t, b, y, i, v, l, tg, d, r, g, p, u), ()) := by
  have h0 : 0 < n := by omega
  have hs := entry_Same (b := (4, t, b, (⟨#[]⟩ : ByteArray), 0, verZ, lockZ, [], (0, (0, ())), [], [], partZ, ())) hn (show EB n (4, t, b, y, i, v, l, tg, (0, (0, ())), r, g, p, u) from ⟨he.buck, he.key, he.id, he.ver, he.tags, he.rules, he.grants⟩)
  rw [F_entry_Sound.e0, clamp33, label_Bucket (by omega)]
  simp only [F_entry_Sound.e1, strip_k4 hn t b y i v l tg d r g p u he, bnd_some, hide_eq, bIf_and]
  rw [hs]
  simp only [bnd_some, bIf_and]
  unfold soundE sameE
  simp only [fld, show eqS (hasB 4) ⟨#[]⟩ = false by decide +kernel, show inB (hasB 4) 107 = false by decide +kernel, show inB (hasB 4) 105 = false by decide +kernel, show inB (hasB 4) 118 = false by decide +kernel, show inB (hasB 4) 108 = false by decide +kernel, show inB (hasB 4) 116 = false by decide +kernel, show inB (hasB 4) 100 = true by decide +kernel, show inB (hasB 4) 114 = false by decide +kernel, show inB (hasB 4) 103 = false by decide +kernel, show inB (hasB 4) 112 = false by decide +kernel, if_true, if_false, Bool.false_eq_true, allB_nil, eqS_self, sameV_refl, lockRefl, partRefl, defRefl, beq_self_eq_true, Bool.true_and, Bool.and_true, Int.reduceBEq, Bool.not_false, List.length_nil, c00, Int.reduceEq, z_pos, z_ge, bne]
  have hbn := bucket_nil b
  rw [show (t == clampI t) = (clampI t == t) from Bool.beq_comm]
  revert hbn
  generalize (clampI t == t) = q0
  generalize eqS b ⟨#[]⟩ = q1
  generalize bucketB b = q2
  try generalize eqS y ⟨#[]⟩ = x0
  try generalize keyB y = x1
  try generalize (i == 0) = x2
  try generalize decide (1 ≤ i) = x3
  try generalize eqD T_api_Lock l _ = x4
  try generalize lockB l = x5
  try generalize eqD T_api_Default d _ = x6
  try generalize modeB d = x7
  try generalize eqD T_api_Part p _ = x8
  try generalize partB p = x9
  try generalize sameV v _ = x10
  try generalize verB v = x11
  try generalize (v.2.2.2.2.2.1 == t) = x12
  try generalize (((tg.length : Nat) : Int) == 0) = x13
  try generalize tagsB tg = x14
  try generalize (((r.length : Nat) : Int) == 0) = x15
  try generalize rulesB r = x16
  try generalize (((g.length : Nat) : Int) == 0) = x17
  try generalize grantsB g = x18
  intro hbn
  clear hs he
  cases q1 <;> cases q2 <;> first | exact absurd (hbn rfl) (by decide) | (simp only [Bool.not_false, Bool.not_true, bIf_true, bIf_false, bIf_nand, Bool.true_and, Bool.false_and, Bool.and_false, beq_true, beq_false, Bool.not_not, bIf_same, Bool.and_true]; first | done | simp only [Bool.and_comm, Bool.and_left_comm, Bool.and_assoc])
theorem strip_k5 {n : Nat} (hn : n ≤ 536870912) (t : Int) (b y : ByteArray) (i : Int) (v : Ver) (l : D_api_Lock) (tg : List D_api_Tag) (d : D_api_Default) (r : List D_api_Rule) (g : List D_api_Grant) (p : D_api_Part) (u : Unit) (he : EB n (5, t, b, y, i, v, l, tg, d, r, g, p, u)) :
    F_entry_strip.f n (5, t, b, y, i, v, l, tg, d, r, g, p, u) = some ((5, t, b, y, i, v, l, tg, d, [], g, p, u), rulesB r, ()) := by
  rw [F_entry_strip.e0]
  simp only [F_entry_strip.e1, F_entry_strip.e2, F_entry_strip.e3, F_entry_strip.e4, F_entry_strip.e5, F_entry_strip.e6, hide_eq, Int.reduceBEq, bIf_true, bIf_false, bnd_some, strip_1 hn _ he, mode_Good, lock34, entry_Part, entry_Rules hn he.rules, entry_Grants hn he.grants, ver18 hn he.ver, tags35 hn he.tags, key24 he.key hn, bIf_pair]
set_option maxHeartbeats 4000000 in
theorem sound_k5 {n : Nat} (hn : n ≤ 536870912) (h0 : 300 ≤ n) (t : Int) (b y : ByteArray) (i : Int) (v : Ver) (l : D_api_Lock) (tg : List D_api_Tag) (d : D_api_Default) (r : List D_api_Rule) (g : List D_api_Grant) (p : D_api_Part) (u : Unit) (he : EB n (5, t, b, y, i, v, l, tg, d, r, g, p, u)) :
    F_entry_Sound.f n (5, t, b, y, i, v, l, tg, d, r, g, p, u) = some (soundE (5, t, b, y, i, v, l, tg, d, r, g, p, u), ()) := by
  have h0 : 0 < n := by omega
  have hs := entry_Same (b := (5, t, b, (⟨#[]⟩ : ByteArray), 0, verZ, lockZ, [], (0, (0, ())), [], [], partZ, ())) hn (show EB n (5, t, b, y, i, v, l, tg, d, [], g, p, u) from ⟨he.buck, he.key, he.id, he.ver, he.tags, ⟨h0, by intro t ht; exact nomatch ht⟩, he.grants⟩)
  rw [F_entry_Sound.e0, clamp33, label_Bucket (by omega)]
  simp only [F_entry_Sound.e1, strip_k5 hn t b y i v l tg d r g p u he, bnd_some, hide_eq, bIf_and]
  rw [hs]
  simp only [bnd_some, bIf_and]
  unfold soundE sameE
  simp only [fld, show eqS (hasB 5) ⟨#[]⟩ = false by decide +kernel, show inB (hasB 5) 107 = false by decide +kernel, show inB (hasB 5) 105 = false by decide +kernel, show inB (hasB 5) 118 = false by decide +kernel, show inB (hasB 5) 108 = false by decide +kernel, show inB (hasB 5) 116 = false by decide +kernel, show inB (hasB 5) 100 = false by decide +kernel, show inB (hasB 5) 114 = true by decide +kernel, show inB (hasB 5) 103 = false by decide +kernel, show inB (hasB 5) 112 = false by decide +kernel, if_true, if_false, Bool.false_eq_true, allB_nil, eqS_self, sameV_refl, lockRefl, partRefl, defRefl, beq_self_eq_true, Bool.true_and, Bool.and_true, Int.reduceBEq, Bool.not_false, List.length_nil, c00, Int.reduceEq, z_pos, z_ge, bne]
  have hbn := bucket_nil b
  rw [show (t == clampI t) = (clampI t == t) from Bool.beq_comm]
  revert hbn
  generalize (clampI t == t) = q0
  generalize eqS b ⟨#[]⟩ = q1
  generalize bucketB b = q2
  try generalize eqS y ⟨#[]⟩ = x0
  try generalize keyB y = x1
  try generalize (i == 0) = x2
  try generalize decide (1 ≤ i) = x3
  try generalize eqD T_api_Lock l _ = x4
  try generalize lockB l = x5
  try generalize eqD T_api_Default d _ = x6
  try generalize modeB d = x7
  try generalize eqD T_api_Part p _ = x8
  try generalize partB p = x9
  try generalize sameV v _ = x10
  try generalize verB v = x11
  try generalize (v.2.2.2.2.2.1 == t) = x12
  try generalize (((tg.length : Nat) : Int) == 0) = x13
  try generalize tagsB tg = x14
  try generalize (((r.length : Nat) : Int) == 0) = x15
  try generalize rulesB r = x16
  try generalize (((g.length : Nat) : Int) == 0) = x17
  try generalize grantsB g = x18
  intro hbn
  clear hs he
  cases q1 <;> cases q2 <;> first | exact absurd (hbn rfl) (by decide) | (simp only [Bool.not_false, Bool.not_true, bIf_true, bIf_false, bIf_nand, Bool.true_and, Bool.false_and, Bool.and_false, beq_true, beq_false, Bool.not_not, bIf_same, Bool.and_true]; first | done | simp only [Bool.and_comm, Bool.and_left_comm, Bool.and_assoc])
theorem strip_k6 {n : Nat} (hn : n ≤ 536870912) (t : Int) (b y : ByteArray) (i : Int) (v : Ver) (l : D_api_Lock) (tg : List D_api_Tag) (d : D_api_Default) (r : List D_api_Rule) (g : List D_api_Grant) (p : D_api_Part) (u : Unit) (he : EB n (6, t, b, y, i, v, l, tg, d, r, g, p, u)) :
    F_entry_strip.f n (6, t, b, y, i, v, l, tg, d, r, g, p, u) = some ((6, t, b, y, i, v, l, tg, d, r, [], p, u), grantsB g, ()) := by
  rw [F_entry_strip.e0]
  simp only [F_entry_strip.e1, F_entry_strip.e2, F_entry_strip.e3, F_entry_strip.e4, F_entry_strip.e5, F_entry_strip.e6, hide_eq, Int.reduceBEq, bIf_true, bIf_false, bnd_some, strip_1 hn _ he, mode_Good, lock34, entry_Part, entry_Rules hn he.rules, entry_Grants hn he.grants, ver18 hn he.ver, tags35 hn he.tags, key24 he.key hn, bIf_pair]
set_option maxHeartbeats 4000000 in
theorem sound_k6 {n : Nat} (hn : n ≤ 536870912) (h0 : 300 ≤ n) (t : Int) (b y : ByteArray) (i : Int) (v : Ver) (l : D_api_Lock) (tg : List D_api_Tag) (d : D_api_Default) (r : List D_api_Rule) (g : List D_api_Grant) (p : D_api_Part) (u : Unit) (he : EB n (6, t, b, y, i, v, l, tg, d, r, g, p, u)) :
    F_entry_Sound.f n (6, t, b, y, i, v, l, tg, d, r, g, p, u) = some (soundE (6, t, b, y, i, v, l, tg, d, r, g, p, u), ()) := by
  have h0 : 0 < n := by omega
  have hs := entry_Same (b := (6, t, b, (⟨#[]⟩ : ByteArray), 0, verZ, lockZ, [], (0, (0, ())), [], [], partZ, ())) hn (show EB n (6, t, b, y, i, v, l, tg, d, r, [], p, u) from ⟨he.buck, he.key, he.id, he.ver, he.tags, he.rules, ⟨h0, by intro t ht; exact nomatch ht⟩⟩)
  rw [F_entry_Sound.e0, clamp33, label_Bucket (by omega)]
  simp only [F_entry_Sound.e1, strip_k6 hn t b y i v l tg d r g p u he, bnd_some, hide_eq, bIf_and]
  rw [hs]
  simp only [bnd_some, bIf_and]
  unfold soundE sameE
  simp only [fld, show eqS (hasB 6) ⟨#[]⟩ = false by decide +kernel, show inB (hasB 6) 107 = false by decide +kernel, show inB (hasB 6) 105 = false by decide +kernel, show inB (hasB 6) 118 = false by decide +kernel, show inB (hasB 6) 108 = false by decide +kernel, show inB (hasB 6) 116 = false by decide +kernel, show inB (hasB 6) 100 = false by decide +kernel, show inB (hasB 6) 114 = false by decide +kernel, show inB (hasB 6) 103 = true by decide +kernel, show inB (hasB 6) 112 = false by decide +kernel, if_true, if_false, Bool.false_eq_true, allB_nil, eqS_self, sameV_refl, lockRefl, partRefl, defRefl, beq_self_eq_true, Bool.true_and, Bool.and_true, Int.reduceBEq, Bool.not_false, List.length_nil, c00, Int.reduceEq, z_pos, z_ge, bne]
  have hbn := bucket_nil b
  rw [show (t == clampI t) = (clampI t == t) from Bool.beq_comm]
  revert hbn
  generalize (clampI t == t) = q0
  generalize eqS b ⟨#[]⟩ = q1
  generalize bucketB b = q2
  try generalize eqS y ⟨#[]⟩ = x0
  try generalize keyB y = x1
  try generalize (i == 0) = x2
  try generalize decide (1 ≤ i) = x3
  try generalize eqD T_api_Lock l _ = x4
  try generalize lockB l = x5
  try generalize eqD T_api_Default d _ = x6
  try generalize modeB d = x7
  try generalize eqD T_api_Part p _ = x8
  try generalize partB p = x9
  try generalize sameV v _ = x10
  try generalize verB v = x11
  try generalize (v.2.2.2.2.2.1 == t) = x12
  try generalize (((tg.length : Nat) : Int) == 0) = x13
  try generalize tagsB tg = x14
  try generalize (((r.length : Nat) : Int) == 0) = x15
  try generalize rulesB r = x16
  try generalize (((g.length : Nat) : Int) == 0) = x17
  try generalize grantsB g = x18
  intro hbn
  clear hs he
  cases q1 <;> cases q2 <;> first | exact absurd (hbn rfl) (by decide) | (simp only [Bool.not_false, Bool.not_true, bIf_true, bIf_false, bIf_nand, Bool.true_and, Bool.false_and, Bool.and_false, beq_true, beq_false, Bool.not_not, bIf_same, Bool.and_true]; first | done | simp only [Bool.and_comm, Bool.and_left_comm, Bool.and_assoc])
theorem strip_k7 {n : Nat} (hn : n ≤ 536870912) (t : Int) (b y : ByteArray) (i : Int) (v : Ver) (l : D_api_Lock) (tg : List D_api_Tag) (d : D_api_Default) (r : List D_api_Rule) (g : List D_api_Grant) (p : D_api_Part) (u : Unit) (he : EB n (7, t, b, y, i, v, l, tg, d, r, g, p, u)) :
    F_entry_strip.f n (7, t, b, y, i, v, l, tg, d, r, g, p, u) = some ((7, t, b, (⟨#[]⟩ : ByteArray), i, verZ, l, tg, d, r, g, p, u), (keyB y && (verB v && (v.2.2.2.2.2.1 == t))), ()) := by
  rw [F_entry_strip.e0]
  simp only [F_entry_strip.e1, F_entry_strip.e2, F_entry_strip.e3, F_entry_strip.e4, F_entry_strip.e5, F_entry_strip.e6, hide_eq, Int.reduceBEq, bIf_true, bIf_false, bnd_some, strip_1 hn _ he, mode_Good, lock34, entry_Part, entry_Rules hn he.rules, entry_Grants hn he.grants, ver18 hn he.ver, tags35 hn he.tags, key24 he.key hn, bIf_pair]
set_option maxHeartbeats 4000000 in
theorem sound_k7 {n : Nat} (hn : n ≤ 536870912) (h0 : 300 ≤ n) (t : Int) (b y : ByteArray) (i : Int) (v : Ver) (l : D_api_Lock) (tg : List D_api_Tag) (d : D_api_Default) (r : List D_api_Rule) (g : List D_api_Grant) (p : D_api_Part) (u : Unit) (he : EB n (7, t, b, y, i, v, l, tg, d, r, g, p, u)) :
    F_entry_Sound.f n (7, t, b, y, i, v, l, tg, d, r, g, p, u) = some (soundE (7, t, b, y, i, v, l, tg, d, r, g, p, u), ()) := by
  have h0 : 0 < n := by omega
  have hs := entry_Same (b := (7, t, b, (⟨#[]⟩ : ByteArray), 0, verZ, lockZ, [], (0, (0, ())), [], [], partZ, ())) hn (show EB n (7, t, b, (⟨#[]⟩ : ByteArray), i, verZ, l, tg, d, r, g, p, u) from ⟨he.buck, h0, he.id, VBz h0, he.tags, he.rules, he.grants⟩)
  rw [F_entry_Sound.e0, clamp33, label_Bucket (by omega)]
  simp only [F_entry_Sound.e1, strip_k7 hn t b y i v l tg d r g p u he, bnd_some, hide_eq, bIf_and]
  rw [hs]
  simp only [bnd_some, bIf_and]
  unfold soundE sameE
  simp only [fld, show eqS (hasB 7) ⟨#[]⟩ = false by decide +kernel, show inB (hasB 7) 107 = true by decide +kernel, show inB (hasB 7) 105 = false by decide +kernel, show inB (hasB 7) 118 = true by decide +kernel, show inB (hasB 7) 108 = false by decide +kernel, show inB (hasB 7) 116 = false by decide +kernel, show inB (hasB 7) 100 = false by decide +kernel, show inB (hasB 7) 114 = false by decide +kernel, show inB (hasB 7) 103 = false by decide +kernel, show inB (hasB 7) 112 = false by decide +kernel, if_true, if_false, Bool.false_eq_true, allB_nil, eqS_self, sameV_refl, lockRefl, partRefl, defRefl, beq_self_eq_true, Bool.true_and, Bool.and_true, Int.reduceBEq, Bool.not_false, List.length_nil, c00, Int.reduceEq, z_pos, z_ge, bne]
  have hbn := bucket_nil b
  rw [show (t == clampI t) = (clampI t == t) from Bool.beq_comm]
  revert hbn
  generalize (clampI t == t) = q0
  generalize eqS b ⟨#[]⟩ = q1
  generalize bucketB b = q2
  try generalize eqS y ⟨#[]⟩ = x0
  try generalize keyB y = x1
  try generalize (i == 0) = x2
  try generalize decide (1 ≤ i) = x3
  try generalize eqD T_api_Lock l _ = x4
  try generalize lockB l = x5
  try generalize eqD T_api_Default d _ = x6
  try generalize modeB d = x7
  try generalize eqD T_api_Part p _ = x8
  try generalize partB p = x9
  try generalize sameV v _ = x10
  try generalize verB v = x11
  try generalize (v.2.2.2.2.2.1 == t) = x12
  try generalize (((tg.length : Nat) : Int) == 0) = x13
  try generalize tagsB tg = x14
  try generalize (((r.length : Nat) : Int) == 0) = x15
  try generalize rulesB r = x16
  try generalize (((g.length : Nat) : Int) == 0) = x17
  try generalize grantsB g = x18
  intro hbn
  clear hs he
  cases q1 <;> cases q2 <;> first | exact absurd (hbn rfl) (by decide) | (simp only [Bool.not_false, Bool.not_true, bIf_true, bIf_false, bIf_nand, Bool.true_and, Bool.false_and, Bool.and_false, beq_true, beq_false, Bool.not_not, bIf_same, Bool.and_true]; first | done | simp only [Bool.and_comm, Bool.and_left_comm, Bool.and_assoc])
theorem strip_k8 {n : Nat} (hn : n ≤ 536870912) (t : Int) (b y : ByteArray) (i : Int) (v : Ver) (l : D_api_Lock) (tg : List D_api_Tag) (d : D_api_Default) (r : List D_api_Rule) (g : List D_api_Grant) (p : D_api_Part) (u : Unit) (he : EB n (8, t, b, y, i, v, l, tg, d, r, g, p, u)) :
    F_entry_strip.f n (8, t, b, y, i, v, l, tg, d, r, g, p, u) = some ((8, t, b, (⟨#[]⟩ : ByteArray), 0, v, l, tg, d, r, g, p, u), (keyB y && decide (i > 0)), ()) := by
  rw [F_entry_strip.e0]
  simp only [F_entry_strip.e1, F_entry_strip.e2, F_entry_strip.e3, F_entry_strip.e4, F_entry_strip.e5, F_entry_strip.e6, hide_eq, Int.reduceBEq, bIf_true, bIf_false, bnd_some, strip_1 hn _ he, mode_Good, lock34, entry_Part, entry_Rules hn he.rules, entry_Grants hn he.grants, ver18 hn he.ver, tags35 hn he.tags, key24 he.key hn, bIf_pair]
set_option maxHeartbeats 4000000 in
theorem sound_k8 {n : Nat} (hn : n ≤ 536870912) (h0 : 300 ≤ n) (t : Int) (b y : ByteArray) (i : Int) (v : Ver) (l : D_api_Lock) (tg : List D_api_Tag) (d : D_api_Default) (r : List D_api_Rule) (g : List D_api_Grant) (p : D_api_Part) (u : Unit) (he : EB n (8, t, b, y, i, v, l, tg, d, r, g, p, u)) :
    F_entry_Sound.f n (8, t, b, y, i, v, l, tg, d, r, g, p, u) = some (soundE (8, t, b, y, i, v, l, tg, d, r, g, p, u), ()) := by
  have h0 : 0 < n := by omega
  have hs := entry_Same (b := (8, t, b, (⟨#[]⟩ : ByteArray), 0, verZ, lockZ, [], (0, (0, ())), [], [], partZ, ())) hn (show EB n (8, t, b, (⟨#[]⟩ : ByteArray), 0, v, l, tg, d, r, g, p, u) from ⟨he.buck, h0, Int.le_refl 0, he.ver, he.tags, he.rules, he.grants⟩)
  rw [F_entry_Sound.e0, clamp33, label_Bucket (by omega)]
  simp only [F_entry_Sound.e1, strip_k8 hn t b y i v l tg d r g p u he, bnd_some, hide_eq, bIf_and]
  rw [hs]
  simp only [bnd_some, bIf_and]
  unfold soundE sameE
  simp only [fld, show eqS (hasB 8) ⟨#[]⟩ = false by decide +kernel, show inB (hasB 8) 107 = true by decide +kernel, show inB (hasB 8) 105 = true by decide +kernel, show inB (hasB 8) 118 = false by decide +kernel, show inB (hasB 8) 108 = false by decide +kernel, show inB (hasB 8) 116 = false by decide +kernel, show inB (hasB 8) 100 = false by decide +kernel, show inB (hasB 8) 114 = false by decide +kernel, show inB (hasB 8) 103 = false by decide +kernel, show inB (hasB 8) 112 = false by decide +kernel, if_true, if_false, Bool.false_eq_true, allB_nil, eqS_self, sameV_refl, lockRefl, partRefl, defRefl, beq_self_eq_true, Bool.true_and, Bool.and_true, Int.reduceBEq, Bool.not_false, List.length_nil, c00, Int.reduceEq, z_pos, z_ge, bne]
  have hbn := bucket_nil b
  rw [show (t == clampI t) = (clampI t == t) from Bool.beq_comm]
  revert hbn
  generalize (clampI t == t) = q0
  generalize eqS b ⟨#[]⟩ = q1
  generalize bucketB b = q2
  try generalize eqS y ⟨#[]⟩ = x0
  try generalize keyB y = x1
  try generalize (i == 0) = x2
  try generalize decide (1 ≤ i) = x3
  try generalize eqD T_api_Lock l _ = x4
  try generalize lockB l = x5
  try generalize eqD T_api_Default d _ = x6
  try generalize modeB d = x7
  try generalize eqD T_api_Part p _ = x8
  try generalize partB p = x9
  try generalize sameV v _ = x10
  try generalize verB v = x11
  try generalize (v.2.2.2.2.2.1 == t) = x12
  try generalize (((tg.length : Nat) : Int) == 0) = x13
  try generalize tagsB tg = x14
  try generalize (((r.length : Nat) : Int) == 0) = x15
  try generalize rulesB r = x16
  try generalize (((g.length : Nat) : Int) == 0) = x17
  try generalize grantsB g = x18
  intro hbn
  clear hs he
  cases q1 <;> cases q2 <;> first | exact absurd (hbn rfl) (by decide) | (simp only [Bool.not_false, Bool.not_true, bIf_true, bIf_false, bIf_nand, Bool.true_and, Bool.false_and, Bool.and_false, beq_true, beq_false, Bool.not_not, bIf_same, Bool.and_true]; first | done | simp only [Bool.and_comm, Bool.and_left_comm, Bool.and_assoc])
theorem strip_k9 {n : Nat} (hn : n ≤ 536870912) (t : Int) (b y : ByteArray) (i : Int) (v : Ver) (l : D_api_Lock) (tg : List D_api_Tag) (d : D_api_Default) (r : List D_api_Rule) (g : List D_api_Grant) (p : D_api_Part) (u : Unit) (he : EB n (9, t, b, y, i, v, l, tg, d, r, g, p, u)) :
    F_entry_strip.f n (9, t, b, y, i, v, l, tg, d, r, g, p, u) = some ((9, t, b, (⟨#[]⟩ : ByteArray), 0, v, lockZ, tg, d, r, g, p, u), (keyB y && decide (i > 0) && lockB l), ()) := by
  rw [F_entry_strip.e0]
  simp only [F_entry_strip.e1, F_entry_strip.e2, F_entry_strip.e3, F_entry_strip.e4, F_entry_strip.e5, F_entry_strip.e6, hide_eq, Int.reduceBEq, bIf_true, bIf_false, bnd_some, strip_1 hn _ he, mode_Good, lock34, entry_Part, entry_Rules hn he.rules, entry_Grants hn he.grants, ver18 hn he.ver, tags35 hn he.tags, key24 he.key hn, bIf_pair]
set_option maxHeartbeats 4000000 in
theorem sound_k9 {n : Nat} (hn : n ≤ 536870912) (h0 : 300 ≤ n) (t : Int) (b y : ByteArray) (i : Int) (v : Ver) (l : D_api_Lock) (tg : List D_api_Tag) (d : D_api_Default) (r : List D_api_Rule) (g : List D_api_Grant) (p : D_api_Part) (u : Unit) (he : EB n (9, t, b, y, i, v, l, tg, d, r, g, p, u)) :
    F_entry_Sound.f n (9, t, b, y, i, v, l, tg, d, r, g, p, u) = some (soundE (9, t, b, y, i, v, l, tg, d, r, g, p, u), ()) := by
  have h0 : 0 < n := by omega
  have hs := entry_Same (b := (9, t, b, (⟨#[]⟩ : ByteArray), 0, verZ, lockZ, [], (0, (0, ())), [], [], partZ, ())) hn (show EB n (9, t, b, (⟨#[]⟩ : ByteArray), 0, v, lockZ, tg, d, r, g, p, u) from ⟨he.buck, h0, Int.le_refl 0, he.ver, he.tags, he.rules, he.grants⟩)
  rw [F_entry_Sound.e0, clamp33, label_Bucket (by omega)]
  simp only [F_entry_Sound.e1, strip_k9 hn t b y i v l tg d r g p u he, bnd_some, hide_eq, bIf_and]
  rw [hs]
  simp only [bnd_some, bIf_and]
  unfold soundE sameE
  simp only [fld, show eqS (hasB 9) ⟨#[]⟩ = false by decide +kernel, show inB (hasB 9) 107 = true by decide +kernel, show inB (hasB 9) 105 = true by decide +kernel, show inB (hasB 9) 118 = false by decide +kernel, show inB (hasB 9) 108 = true by decide +kernel, show inB (hasB 9) 116 = false by decide +kernel, show inB (hasB 9) 100 = false by decide +kernel, show inB (hasB 9) 114 = false by decide +kernel, show inB (hasB 9) 103 = false by decide +kernel, show inB (hasB 9) 112 = false by decide +kernel, if_true, if_false, Bool.false_eq_true, allB_nil, eqS_self, sameV_refl, lockRefl, partRefl, defRefl, beq_self_eq_true, Bool.true_and, Bool.and_true, Int.reduceBEq, Bool.not_false, List.length_nil, c00, Int.reduceEq, z_pos, z_ge, bne]
  have hbn := bucket_nil b
  rw [show (t == clampI t) = (clampI t == t) from Bool.beq_comm]
  revert hbn
  generalize (clampI t == t) = q0
  generalize eqS b ⟨#[]⟩ = q1
  generalize bucketB b = q2
  try generalize eqS y ⟨#[]⟩ = x0
  try generalize keyB y = x1
  try generalize (i == 0) = x2
  try generalize decide (1 ≤ i) = x3
  try generalize eqD T_api_Lock l _ = x4
  try generalize lockB l = x5
  try generalize eqD T_api_Default d _ = x6
  try generalize modeB d = x7
  try generalize eqD T_api_Part p _ = x8
  try generalize partB p = x9
  try generalize sameV v _ = x10
  try generalize verB v = x11
  try generalize (v.2.2.2.2.2.1 == t) = x12
  try generalize (((tg.length : Nat) : Int) == 0) = x13
  try generalize tagsB tg = x14
  try generalize (((r.length : Nat) : Int) == 0) = x15
  try generalize rulesB r = x16
  try generalize (((g.length : Nat) : Int) == 0) = x17
  try generalize grantsB g = x18
  intro hbn
  clear hs he
  cases q1 <;> cases q2 <;> first | exact absurd (hbn rfl) (by decide) | (simp only [Bool.not_false, Bool.not_true, bIf_true, bIf_false, bIf_nand, Bool.true_and, Bool.false_and, Bool.and_false, beq_true, beq_false, Bool.not_not, bIf_same, Bool.and_true]; first | done | simp only [Bool.and_comm, Bool.and_left_comm, Bool.and_assoc])
theorem strip_k10 {n : Nat} (hn : n ≤ 536870912) (t : Int) (b y : ByteArray) (i : Int) (v : Ver) (l : D_api_Lock) (tg : List D_api_Tag) (d : D_api_Default) (r : List D_api_Rule) (g : List D_api_Grant) (p : D_api_Part) (u : Unit) (he : EB n (10, t, b, y, i, v, l, tg, d, r, g, p, u)) :
    F_entry_strip.f n (10, t, b, y, i, v, l, tg, d, r, g, p, u) = some ((10, t, b, (⟨#[]⟩ : ByteArray), 0, v, l, [], d, r, g, p, u), (keyB y && decide (i > 0) && tagsB tg), ()) := by
  rw [F_entry_strip.e0]
  simp only [F_entry_strip.e1, F_entry_strip.e2, F_entry_strip.e3, F_entry_strip.e4, F_entry_strip.e5, F_entry_strip.e6, hide_eq, Int.reduceBEq, bIf_true, bIf_false, bnd_some, strip_1 hn _ he, mode_Good, lock34, entry_Part, entry_Rules hn he.rules, entry_Grants hn he.grants, ver18 hn he.ver, tags35 hn he.tags, key24 he.key hn, bIf_pair]
set_option maxHeartbeats 4000000 in
theorem sound_k10 {n : Nat} (hn : n ≤ 536870912) (h0 : 300 ≤ n) (t : Int) (b y : ByteArray) (i : Int) (v : Ver) (l : D_api_Lock) (tg : List D_api_Tag) (d : D_api_Default) (r : List D_api_Rule) (g : List D_api_Grant) (p : D_api_Part) (u : Unit) (he : EB n (10, t, b, y, i, v, l, tg, d, r, g, p, u)) :
    F_entry_Sound.f n (10, t, b, y, i, v, l, tg, d, r, g, p, u) = some (soundE (10, t, b, y, i, v, l, tg, d, r, g, p, u), ()) := by
  have h0 : 0 < n := by omega
  have hs := entry_Same (b := (10, t, b, (⟨#[]⟩ : ByteArray), 0, verZ, lockZ, [], (0, (0, ())), [], [], partZ, ())) hn (show EB n (10, t, b, (⟨#[]⟩ : ByteArray), 0, v, l, [], d, r, g, p, u) from ⟨he.buck, h0, Int.le_refl 0, he.ver, ⟨h0, by intro t ht; exact nomatch ht⟩, he.rules, he.grants⟩)
  rw [F_entry_Sound.e0, clamp33, label_Bucket (by omega)]
  simp only [F_entry_Sound.e1, strip_k10 hn t b y i v l tg d r g p u he, bnd_some, hide_eq, bIf_and]
  rw [hs]
  simp only [bnd_some, bIf_and]
  unfold soundE sameE
  simp only [fld, show eqS (hasB 10) ⟨#[]⟩ = false by decide +kernel, show inB (hasB 10) 107 = true by decide +kernel, show inB (hasB 10) 105 = true by decide +kernel, show inB (hasB 10) 118 = false by decide +kernel, show inB (hasB 10) 108 = false by decide +kernel, show inB (hasB 10) 116 = true by decide +kernel, show inB (hasB 10) 100 = false by decide +kernel, show inB (hasB 10) 114 = false by decide +kernel, show inB (hasB 10) 103 = false by decide +kernel, show inB (hasB 10) 112 = false by decide +kernel, if_true, if_false, Bool.false_eq_true, allB_nil, eqS_self, sameV_refl, lockRefl, partRefl, defRefl, beq_self_eq_true, Bool.true_and, Bool.and_true, Int.reduceBEq, Bool.not_false, List.length_nil, c00, Int.reduceEq, z_pos, z_ge, bne]
  have hbn := bucket_nil b
  rw [show (t == clampI t) = (clampI t == t) from Bool.beq_comm]
  revert hbn
  generalize (clampI t == t) = q0
  generalize eqS b ⟨#[]⟩ = q1
  generalize bucketB b = q2
  try generalize eqS y ⟨#[]⟩ = x0
  try generalize keyB y = x1
  try generalize (i == 0) = x2
  try generalize decide (1 ≤ i) = x3
  try generalize eqD T_api_Lock l _ = x4
  try generalize lockB l = x5
  try generalize eqD T_api_Default d _ = x6
  try generalize modeB d = x7
  try generalize eqD T_api_Part p _ = x8
  try generalize partB p = x9
  try generalize sameV v _ = x10
  try generalize verB v = x11
  try generalize (v.2.2.2.2.2.1 == t) = x12
  try generalize (((tg.length : Nat) : Int) == 0) = x13
  try generalize tagsB tg = x14
  try generalize (((r.length : Nat) : Int) == 0) = x15
  try generalize rulesB r = x16
  try generalize (((g.length : Nat) : Int) == 0) = x17
  try generalize grantsB g = x18
  intro hbn
  clear hs he
  cases q1 <;> cases q2 <;> first | exact absurd (hbn rfl) (by decide) | (simp only [Bool.not_false, Bool.not_true, bIf_true, bIf_false, bIf_nand, Bool.true_and, Bool.false_and, Bool.and_false, beq_true, beq_false, Bool.not_not, bIf_same, Bool.and_true]; first | done | simp only [Bool.and_comm, Bool.and_left_comm, Bool.and_assoc])
theorem strip_k11 {n : Nat} (hn : n ≤ 536870912) (t : Int) (b y : ByteArray) (i : Int) (v : Ver) (l : D_api_Lock) (tg : List D_api_Tag) (d : D_api_Default) (r : List D_api_Rule) (g : List D_api_Grant) (p : D_api_Part) (u : Unit) (he : EB n (11, t, b, y, i, v, l, tg, d, r, g, p, u)) :
    F_entry_strip.f n (11, t, b, y, i, v, l, tg, d, r, g, p, u) = some ((11, t, b, (⟨#[]⟩ : ByteArray), 0, v, l, [], d, r, g, p, u), (keyB y && decide (i > 0) && tagsB tg), ()) := by
  rw [F_entry_strip.e0]
  simp only [F_entry_strip.e1, F_entry_strip.e2, F_entry_strip.e3, F_entry_strip.e4, F_entry_strip.e5, F_entry_strip.e6, hide_eq, Int.reduceBEq, bIf_true, bIf_false, bnd_some, strip_1 hn _ he, mode_Good, lock34, entry_Part, entry_Rules hn he.rules, entry_Grants hn he.grants, ver18 hn he.ver, tags35 hn he.tags, key24 he.key hn, bIf_pair]
set_option maxHeartbeats 4000000 in
theorem sound_k11 {n : Nat} (hn : n ≤ 536870912) (h0 : 300 ≤ n) (t : Int) (b y : ByteArray) (i : Int) (v : Ver) (l : D_api_Lock) (tg : List D_api_Tag) (d : D_api_Default) (r : List D_api_Rule) (g : List D_api_Grant) (p : D_api_Part) (u : Unit) (he : EB n (11, t, b, y, i, v, l, tg, d, r, g, p, u)) :
    F_entry_Sound.f n (11, t, b, y, i, v, l, tg, d, r, g, p, u) = some (soundE (11, t, b, y, i, v, l, tg, d, r, g, p, u), ()) := by
  have h0 : 0 < n := by omega
  have hs := entry_Same (b := (11, t, b, (⟨#[]⟩ : ByteArray), 0, verZ, lockZ, [], (0, (0, ())), [], [], partZ, ())) hn (show EB n (11, t, b, (⟨#[]⟩ : ByteArray), 0, v, l, [], d, r, g, p, u) from ⟨he.buck, h0, Int.le_refl 0, he.ver, ⟨h0, by intro t ht; exact nomatch ht⟩, he.rules, he.grants⟩)
  rw [F_entry_Sound.e0, clamp33, label_Bucket (by omega)]
  simp only [F_entry_Sound.e1, strip_k11 hn t b y i v l tg d r g p u he, bnd_some, hide_eq, bIf_and]
  rw [hs]
  simp only [bnd_some, bIf_and]
  unfold soundE sameE
  simp only [fld, show eqS (hasB 11) ⟨#[]⟩ = false by decide +kernel, show inB (hasB 11) 107 = true by decide +kernel, show inB (hasB 11) 105 = true by decide +kernel, show inB (hasB 11) 118 = false by decide +kernel, show inB (hasB 11) 108 = false by decide +kernel, show inB (hasB 11) 116 = true by decide +kernel, show inB (hasB 11) 100 = false by decide +kernel, show inB (hasB 11) 114 = false by decide +kernel, show inB (hasB 11) 103 = false by decide +kernel, show inB (hasB 11) 112 = false by decide +kernel, if_true, if_false, Bool.false_eq_true, allB_nil, eqS_self, sameV_refl, lockRefl, partRefl, defRefl, beq_self_eq_true, Bool.true_and, Bool.and_true, Int.reduceBEq, Bool.not_false, List.length_nil, c00, Int.reduceEq, z_pos, z_ge, bne]
  have hbn := bucket_nil b
  rw [show (t == clampI t) = (clampI t == t) from Bool.beq_comm]
  revert hbn
  generalize (clampI t == t) = q0
  generalize eqS b ⟨#[]⟩ = q1
  generalize bucketB b = q2
  try generalize eqS y ⟨#[]⟩ = x0
  try generalize keyB y = x1
  try generalize (i == 0) = x2
  try generalize decide (1 ≤ i) = x3
  try generalize eqD T_api_Lock l _ = x4
  try generalize lockB l = x5
  try generalize eqD T_api_Default d _ = x6
  try generalize modeB d = x7
  try generalize eqD T_api_Part p _ = x8
  try generalize partB p = x9
  try generalize sameV v _ = x10
  try generalize verB v = x11
  try generalize (v.2.2.2.2.2.1 == t) = x12
  try generalize (((tg.length : Nat) : Int) == 0) = x13
  try generalize tagsB tg = x14
  try generalize (((r.length : Nat) : Int) == 0) = x15
  try generalize rulesB r = x16
  try generalize (((g.length : Nat) : Int) == 0) = x17
  try generalize grantsB g = x18
  intro hbn
  clear hs he
  cases q1 <;> cases q2 <;> first | exact absurd (hbn rfl) (by decide) | (simp only [Bool.not_false, Bool.not_true, bIf_true, bIf_false, bIf_nand, Bool.true_and, Bool.false_and, Bool.and_false, beq_true, beq_false, Bool.not_not, bIf_same, Bool.and_true]; first | done | simp only [Bool.and_comm, Bool.and_left_comm, Bool.and_assoc])
theorem strip_k12 {n : Nat} (hn : n ≤ 536870912) (t : Int) (b y : ByteArray) (i : Int) (v : Ver) (l : D_api_Lock) (tg : List D_api_Tag) (d : D_api_Default) (r : List D_api_Rule) (g : List D_api_Grant) (p : D_api_Part) (u : Unit) (he : EB n (12, t, b, y, i, v, l, tg, d, r, g, p, u)) :
    F_entry_strip.f n (12, t, b, y, i, v, l, tg, d, r, g, p, u) = some ((12, t, b, y, 0, v, l, tg, d, r, g, partZ, u), (decide (i > 0) && partB p), ()) := by
  rw [F_entry_strip.e0]
  simp only [F_entry_strip.e1, F_entry_strip.e2, F_entry_strip.e3, F_entry_strip.e4, F_entry_strip.e5, F_entry_strip.e6, hide_eq, Int.reduceBEq, bIf_true, bIf_false, bnd_some, strip_1 hn _ he, mode_Good, lock34, entry_Part, entry_Rules hn he.rules, entry_Grants hn he.grants, ver18 hn he.ver, tags35 hn he.tags, key24 he.key hn, bIf_pair]
set_option maxHeartbeats 4000000 in
theorem sound_k12 {n : Nat} (hn : n ≤ 536870912) (h0 : 300 ≤ n) (t : Int) (b y : ByteArray) (i : Int) (v : Ver) (l : D_api_Lock) (tg : List D_api_Tag) (d : D_api_Default) (r : List D_api_Rule) (g : List D_api_Grant) (p : D_api_Part) (u : Unit) (he : EB n (12, t, b, y, i, v, l, tg, d, r, g, p, u)) :
    F_entry_Sound.f n (12, t, b, y, i, v, l, tg, d, r, g, p, u) = some (soundE (12, t, b, y, i, v, l, tg, d, r, g, p, u), ()) := by
  have h0 : 0 < n := by omega
  have hs := entry_Same (b := (12, t, b, (⟨#[]⟩ : ByteArray), 0, verZ, lockZ, [], (0, (0, ())), [], [], partZ, ())) hn (show EB n (12, t, b, y, 0, v, l, tg, d, r, g, partZ, u) from ⟨he.buck, he.key, Int.le_refl 0, he.ver, he.tags, he.rules, he.grants⟩)
  rw [F_entry_Sound.e0, clamp33, label_Bucket (by omega)]
  simp only [F_entry_Sound.e1, strip_k12 hn t b y i v l tg d r g p u he, bnd_some, hide_eq, bIf_and]
  rw [hs]
  simp only [bnd_some, bIf_and]
  unfold soundE sameE
  simp only [fld, show eqS (hasB 12) ⟨#[]⟩ = false by decide +kernel, show inB (hasB 12) 107 = false by decide +kernel, show inB (hasB 12) 105 = true by decide +kernel, show inB (hasB 12) 118 = false by decide +kernel, show inB (hasB 12) 108 = false by decide +kernel, show inB (hasB 12) 116 = false by decide +kernel, show inB (hasB 12) 100 = false by decide +kernel, show inB (hasB 12) 114 = false by decide +kernel, show inB (hasB 12) 103 = false by decide +kernel, show inB (hasB 12) 112 = true by decide +kernel, if_true, if_false, Bool.false_eq_true, allB_nil, eqS_self, sameV_refl, lockRefl, partRefl, defRefl, beq_self_eq_true, Bool.true_and, Bool.and_true, Int.reduceBEq, Bool.not_false, List.length_nil, c00, Int.reduceEq, z_pos, z_ge, bne]
  have hbn := bucket_nil b
  rw [show (t == clampI t) = (clampI t == t) from Bool.beq_comm]
  revert hbn
  generalize (clampI t == t) = q0
  generalize eqS b ⟨#[]⟩ = q1
  generalize bucketB b = q2
  try generalize eqS y ⟨#[]⟩ = x0
  try generalize keyB y = x1
  try generalize (i == 0) = x2
  try generalize decide (1 ≤ i) = x3
  try generalize eqD T_api_Lock l _ = x4
  try generalize lockB l = x5
  try generalize eqD T_api_Default d _ = x6
  try generalize modeB d = x7
  try generalize eqD T_api_Part p _ = x8
  try generalize partB p = x9
  try generalize sameV v _ = x10
  try generalize verB v = x11
  try generalize (v.2.2.2.2.2.1 == t) = x12
  try generalize (((tg.length : Nat) : Int) == 0) = x13
  try generalize tagsB tg = x14
  try generalize (((r.length : Nat) : Int) == 0) = x15
  try generalize rulesB r = x16
  try generalize (((g.length : Nat) : Int) == 0) = x17
  try generalize grantsB g = x18
  intro hbn
  clear hs he
  cases q1 <;> cases q2 <;> first | exact absurd (hbn rfl) (by decide) | (simp only [Bool.not_false, Bool.not_true, bIf_true, bIf_false, bIf_nand, Bool.true_and, Bool.false_and, Bool.and_false, beq_true, beq_false, Bool.not_not, bIf_same, Bool.and_true]; first | done | simp only [Bool.and_comm, Bool.and_left_comm, Bool.and_assoc])
theorem strip_k13 {n : Nat} (hn : n ≤ 536870912) (t : Int) (b y : ByteArray) (i : Int) (v : Ver) (l : D_api_Lock) (tg : List D_api_Tag) (d : D_api_Default) (r : List D_api_Rule) (g : List D_api_Grant) (p : D_api_Part) (u : Unit) (he : EB n (13, t, b, y, i, v, l, tg, d, r, g, p, u)) :
    F_entry_strip.f n (13, t, b, y, i, v, l, tg, d, r, g, p, u) = some ((13, t, b, y, 0, v, l, tg, d, r, g, p, u), decide (i > 0), ()) := by
  rw [F_entry_strip.e0]
  simp only [F_entry_strip.e1, F_entry_strip.e2, F_entry_strip.e3, F_entry_strip.e4, F_entry_strip.e5, F_entry_strip.e6, hide_eq, Int.reduceBEq, bIf_true, bIf_false, bnd_some, strip_1 hn _ he, mode_Good, lock34, entry_Part, entry_Rules hn he.rules, entry_Grants hn he.grants, ver18 hn he.ver, tags35 hn he.tags, key24 he.key hn, bIf_pair]
set_option maxHeartbeats 4000000 in
theorem sound_k13 {n : Nat} (hn : n ≤ 536870912) (h0 : 300 ≤ n) (t : Int) (b y : ByteArray) (i : Int) (v : Ver) (l : D_api_Lock) (tg : List D_api_Tag) (d : D_api_Default) (r : List D_api_Rule) (g : List D_api_Grant) (p : D_api_Part) (u : Unit) (he : EB n (13, t, b, y, i, v, l, tg, d, r, g, p, u)) :
    F_entry_Sound.f n (13, t, b, y, i, v, l, tg, d, r, g, p, u) = some (soundE (13, t, b, y, i, v, l, tg, d, r, g, p, u), ()) := by
  have h0 : 0 < n := by omega
  have hs := entry_Same (b := (13, t, b, (⟨#[]⟩ : ByteArray), 0, verZ, lockZ, [], (0, (0, ())), [], [], partZ, ())) hn (show EB n (13, t, b, y, 0, v, l, tg, d, r, g, p, u) from ⟨he.buck, he.key, Int.le_refl 0, he.ver, he.tags, he.rules, he.grants⟩)
  rw [F_entry_Sound.e0, clamp33, label_Bucket (by omega)]
  simp only [F_entry_Sound.e1, strip_k13 hn t b y i v l tg d r g p u he, bnd_some, hide_eq, bIf_and]
  rw [hs]
  simp only [bnd_some, bIf_and]
  unfold soundE sameE
  simp only [fld, show eqS (hasB 13) ⟨#[]⟩ = false by decide +kernel, show inB (hasB 13) 107 = false by decide +kernel, show inB (hasB 13) 105 = true by decide +kernel, show inB (hasB 13) 118 = false by decide +kernel, show inB (hasB 13) 108 = false by decide +kernel, show inB (hasB 13) 116 = false by decide +kernel, show inB (hasB 13) 100 = false by decide +kernel, show inB (hasB 13) 114 = false by decide +kernel, show inB (hasB 13) 103 = false by decide +kernel, show inB (hasB 13) 112 = false by decide +kernel, if_true, if_false, Bool.false_eq_true, allB_nil, eqS_self, sameV_refl, lockRefl, partRefl, defRefl, beq_self_eq_true, Bool.true_and, Bool.and_true, Int.reduceBEq, Bool.not_false, List.length_nil, c00, Int.reduceEq, z_pos, z_ge, bne]
  have hbn := bucket_nil b
  rw [show (t == clampI t) = (clampI t == t) from Bool.beq_comm]
  revert hbn
  generalize (clampI t == t) = q0
  generalize eqS b ⟨#[]⟩ = q1
  generalize bucketB b = q2
  try generalize eqS y ⟨#[]⟩ = x0
  try generalize keyB y = x1
  try generalize (i == 0) = x2
  try generalize decide (1 ≤ i) = x3
  try generalize eqD T_api_Lock l _ = x4
  try generalize lockB l = x5
  try generalize eqD T_api_Default d _ = x6
  try generalize modeB d = x7
  try generalize eqD T_api_Part p _ = x8
  try generalize partB p = x9
  try generalize sameV v _ = x10
  try generalize verB v = x11
  try generalize (v.2.2.2.2.2.1 == t) = x12
  try generalize (((tg.length : Nat) : Int) == 0) = x13
  try generalize tagsB tg = x14
  try generalize (((r.length : Nat) : Int) == 0) = x15
  try generalize rulesB r = x16
  try generalize (((g.length : Nat) : Int) == 0) = x17
  try generalize grantsB g = x18
  intro hbn
  clear hs he
  cases q1 <;> cases q2 <;> first | exact absurd (hbn rfl) (by decide) | (simp only [Bool.not_false, Bool.not_true, bIf_true, bIf_false, bIf_nand, Bool.true_and, Bool.false_and, Bool.and_false, beq_true, beq_false, Bool.not_not, bIf_same, Bool.and_true]; first | done | simp only [Bool.and_comm, Bool.and_left_comm, Bool.and_assoc])
theorem entry_Sound {n : Nat} (hn : n ≤ 536870912) (h0 : 300 ≤ n) {e : E} (he : EB n e) : F_entry_Sound.f n e = some (soundE e, ()) := by
  by_cases hk : 1 ≤ e.1 ∧ e.1 ≤ 13
  · obtain ⟨k, t, b, y, i, v, l, tg, d, r, g, p, u⟩ := e
    have : k = 1 ∨ k = 2 ∨ k = 3 ∨ k = 4 ∨ k = 5 ∨ k = 6 ∨ k = 7 ∨ k = 8 ∨ k = 9 ∨ k = 10 ∨ k = 11 ∨ k = 12 ∨ k = 13 := by
      obtain ⟨h1, h2⟩ := hk
      dsimp only at h1 h2
      omega
    rcases this with h | h | h | h | h | h | h | h | h | h | h | h | h <;> subst h
    · exact sound_k1 hn h0 t b y i v l tg d r g p u he
    · exact sound_k2 hn h0 t b y i v l tg d r g p u he
    · exact sound_k3 hn h0 t b y i v l tg d r g p u he
    · exact sound_k4 hn h0 t b y i v l tg d r g p u he
    · exact sound_k5 hn h0 t b y i v l tg d r g p u he
    · exact sound_k6 hn h0 t b y i v l tg d r g p u he
    · exact sound_k7 hn h0 t b y i v l tg d r g p u he
    · exact sound_k8 hn h0 t b y i v l tg d r g p u he
    · exact sound_k9 hn h0 t b y i v l tg d r g p u he
    · exact sound_k10 hn h0 t b y i v l tg d r g p u he
    · exact sound_k11 hn h0 t b y i v l tg d r g p u he
    · exact sound_k12 hn h0 t b y i v l tg d r g p u he
    · exact sound_k13 hn h0 t b y i v l tg d r g p u he
  · have hh : hasB e.1 = ⟨#[]⟩ := by
      unfold hasB
      rw [if_neg (by omega), if_neg (by omega), if_neg (by omega), if_neg (by omega), if_neg (by omega), if_neg (by omega), if_neg (by omega), if_neg (by omega), if_neg (by omega), if_neg (by omega)]
    have hz : soundE e = false := by
      unfold soundE
      rw [hh, eqS_self]; rfl
    have h1 : (e.1 == 1) = false := by rw [beq_eq_false_iff_ne]; omega
    have h2 : (e.1 == 2) = false := by rw [beq_eq_false_iff_ne]; omega
    have h3 : (e.1 == 3) = false := by rw [beq_eq_false_iff_ne]; omega
    have h4 : (e.1 == 4) = false := by rw [beq_eq_false_iff_ne]; omega
    have h5 : (e.1 == 5) = false := by rw [beq_eq_false_iff_ne]; omega
    have h6 : (e.1 == 6) = false := by rw [beq_eq_false_iff_ne]; omega
    have h7 : (e.1 == 7) = false := by rw [beq_eq_false_iff_ne]; omega
    have h8 : (e.1 == 8) = false := by rw [beq_eq_false_iff_ne]; omega
    have h9 : (e.1 == 9) = false := by rw [beq_eq_false_iff_ne]; omega
    have h10 : (e.1 == 10) = false := by rw [beq_eq_false_iff_ne]; omega
    have h11 : (e.1 == 11) = false := by rw [beq_eq_false_iff_ne]; omega
    have h12 : (e.1 == 12) = false := by rw [beq_eq_false_iff_ne]; omega
    have h13 : (e.1 == 13) = false := by rw [beq_eq_false_iff_ne]; omega
    have hst : F_entry_strip.f n e = some (e, false, ()) := by
      rw [F_entry_strip.e0]
      simp only [F_entry_strip.e1, F_entry_strip.e2, F_entry_strip.e3, F_entry_strip.e4, F_entry_strip.e5, F_entry_strip.e6, hide_eq, h1, h2, h3, h4, h5, h6, h7, h8, h9, h10, h11, h12, h13, bIf_true, bIf_false, bnd_some]
    rw [F_entry_Sound.e0, clamp33, label_Bucket (by omega)]
    simp only [F_entry_Sound.e1, hst, bnd_some, bIf_false, bIf_same]
    rw [hz]
end Go.Proofs.YtcpkhpboemfglaaGreatDoor

namespace Go.Proofs.YtcpkhpboemfglaaGreatDoor
open Go Go.Va Go.Proofs

/-- A number in at most so many bytes. -/
def packF : Nat → Nat → List Int
  | 0, _ => []
  | k + 1, x => if x < 128 then [(x : Int)] else ((x % 128 + 128 : Nat) : Int) :: packF k (x / 128)
def eN (x : Int) : List Int := packF 10 x.toNat
theorem packF_big {k x : Nat} (h : ¬ x < 128) : packF (k + 1) x = ((x % 128 + 128 : Nat) : Int) :: packF k (x / 128) := by rw [packF, if_neg h]
theorem packF_small {k x : Nat} (h : x < 128) : packF (k + 1) x = [(x : Int)] := by rw [packF, if_pos h]
theorem packF_len : ∀ (k x : Nat), (packF k x).length ≤ k
  | 0, _ => Nat.le_refl 0
  | k + 1, x => by
    unfold packF
    split
    · simp
    · have := packF_len k (x / 128); simp; omega
theorem packF_pos {k : Nat} (x : Nat) (h : 0 < k) : 1 ≤ (packF k x).length := by
  cases k with
  | zero => omega
  | succ k => unfold packF; split <;> simp
theorem packF_byte : ∀ (k x : Nat), ∀ y ∈ packF k x, 0 ≤ y ∧ y ≤ 255
  | 0, _ => by intro y h; exact nomatch h
  | k + 1, x => by
    intro y h
    unfold packF at h
    split at h
    · rw [List.mem_singleton] at h; omega
    · rcases List.mem_cons.1 h with h | h
      · omega
      · exact packF_byte k _ y h
theorem eN_len (x : Int) : (eN x).length ≤ 10 := packF_len 10 _
theorem eN_byte (x : Int) : ∀ y ∈ eN x, 0 ≤ y ∧ y ≤ 255 := packF_byte 10 _
def U64 (x : Int) : Prop := 0 ≤ x ∧ x < 18446744073709551616
def I64 (x : Int) : Prop := -9223372036854775808 ≤ x ∧ x < 9223372036854775808

theorem shr7 (k : IntKind) (hk : 7 ≤ k.bits) (x : Nat) : shrI k (x : Int) 7 = ((x / 128 : Nat) : Int) := by
  unfold shrI
  rw [show ((7 : Int).toNat) = 7 from rfl, Nat.min_eq_left hk, Int.fdiv_eq_ediv_of_nonneg _ (by decide), show ((2 : Int) ^ 7) = 128 from rfl]; omega
theorem or128 : ∀ v : Nat, v < 256 → bitI .or .u8 (v : Int) 128 = ((v % 128 + 128 : Nat) : Int) := by decide +kernel
theorem u8_low (x : Nat) : IntKind.u8.wrap (x : Int) = ((x % 256 : Nat) : Int) := by rw [wrap_u8_mod]; omega

theorem bits_Pack_J (n : Nat) : ∀ (k m x : Nat) (out : List Int), x < 128 ^ (k + 1) → k + 1 ≤ m → out.length + k + 1 ≤ 70368744177664 →
    F_bits_Pack.J1 n m ((x : Int), out, ()) = some (out ++ packF (k + 1) x, ())
  | k, 0, x, out, hx, hm, ho => by omega
  | k, m + 1, x, out, hx, hm, ho => by
    rw [F_bits_Pack.e1, hide_eq]
    by_cases h : x < 128
    · rw [decide_eq_false (by omega), bIf_false, F_bits_Pack.e2, gIf_pos (by omega), u8_low, Nat.mod_eq_of_lt (by omega), packF, if_pos h]
    · rw [decide_eq_true (by omega), bIf_true, gIf_pos (by omega), gNo_neg (by decide), u8_low, or128 _ (by omega), shr7 _ (by decide)]
      cases k with
      | zero => rw [Nat.zero_add, Nat.pow_one] at hx; omega
      | succ k =>
        rw [bits_Pack_J n k m (x / 128) _ (by rw [Nat.div_lt_iff_lt_mul (by decide), ← Nat.pow_succ]; exact hx) (by omega) (by simp; omega), List.append_assoc]
        rw [packF_big h, show x % 256 % 128 = x % 128 by omega]; rfl
theorem u64_pow {x : Nat} (h : x < 18446744073709551616) : x < 128 ^ (9 + 1) := Nat.lt_trans h (by decide)
theorem bits_Pack {n : Nat} (hn : 300 ≤ n) {x : Int} (hx : U64 x) : F_bits_Pack.f n x = some (eN x, ()) := by
  obtain ⟨h0, h1⟩ := hx
  rw [F_bits_Pack.e0]
  have := bits_Pack_J n 9 n x.toNat [] (u64_pow (by omega)) (by omega) (by simp)
  rw [Int.toNat_of_nonneg h0] at this
  rw [this, List.nil_append]; rfl

theorem set_last (pre : List Int) (a b : Int) (l : Nat) (h : l = pre.length) : List.set (pre ++ [a]) l b = pre ++ [b] := by
  subst h; rw [List.set_append_right _ _ (Nat.le_refl _)]; simp
theorem getD_last (pre : List Int) (a : Int) (l : Nat) (h : l = pre.length) : List.getD (pre ++ [a]) l 0 = a := by
  subst h; simp
theorem ref01_Pack_J (n : Nat) : ∀ (k m x : Nat) (pre : List Int), x < 128 ^ (k + 1) → x < 18446744073709551616 → k + 1 ≤ m → pre.length + k + 2 ≤ 70368744177664 →
    F_ref01_Pack.J1 n m ((x : Int), pre ++ [((x % 128 : Nat) : Int)], ()) = some (pre ++ packF (k + 1) x, ())
  | k, 0, x, pre, hx, h64, hm, ho => by omega
  | k, m + 1, x, pre, hx, h64, hm, ho => by
    rw [F_ref01_Pack.e1, hide_eq]
    by_cases h : x < 128
    · rw [decide_eq_false (by omega), bIf_false, F_ref01_Pack.e2, Nat.mod_eq_of_lt h, packF, if_pos h]
    · have hl : IntKind.i64.wrap ((((pre ++ [((x % 128 : Nat) : Int)]).length : Nat) : Int) - 1) = ((pre.length : Nat) : Int) := by
        rw [List.length_append, List.length_singleton, wrap_i64 (by omega)]; omega
      rw [decide_eq_true (by omega), bIf_true, hl]
      have hg : (0 ≤ ((pre.length : Nat) : Int) ∧ ((pre.length : Nat) : Int) < (((pre ++ [((x % 128 : Nat) : Int)]).length : Nat) : Int)) := by
        rw [List.length_append, List.length_singleton]; omega
      rw [gIf_pos hg, gIf_pos hg, gNo_neg (by decide), gNo_neg (by decide), Int.toNat_natCast, Nat.zero_add, set_last _ _ _ _ rfl, getD_last _ _ _ rfl, gIf_pos (by simp; omega)]
      have hd : Int.tdiv (x : Int) 128 = ((x / 128 : Nat) : Int) := rfl
      rw [hd, wrap_u64 (by omega)]
      have hd2 : Int.tmod ((x / 128 : Nat) : Int) 128 = ((x / 128 % 128 : Nat) : Int) := rfl
      rw [hd2, u8_low, Nat.mod_eq_of_lt (show x / 128 % 128 < 256 by omega), show (((x % 128 : Nat) : Int) + 128) = ((x % 128 + 128 : Nat) : Int) by omega, u8_low, Nat.mod_eq_of_lt (show x % 128 + 128 < 256 by omega)]
      cases k with
      | zero => rw [Nat.zero_add, Nat.pow_one] at hx; omega
      | succ k =>
        rw [ref01_Pack_J n k m (x / 128) _ (by rw [Nat.div_lt_iff_lt_mul (by decide), ← Nat.pow_succ]; exact hx) (by omega) (by omega) (by simp; omega), List.append_assoc]
        rw [packF_big h]; rfl
theorem ref01_Pack {n : Nat} (hn : 300 ≤ n) {x : Int} (hx : U64 x) : F_ref01_Pack.f n x = some (eN x, ()) := by
  obtain ⟨h0, h1⟩ := hx
  rw [F_ref01_Pack.e0, gNo_neg (by decide)]
  have := ref01_Pack_J n 9 n x.toNat [] (u64_pow (by omega)) (by omega) (by omega) (by simp)
  rw [Int.toNat_of_nonneg h0, List.nil_append] at this
  have hd : Int.tmod x 128 = ((x.toNat % 128 : Nat) : Int) := by
    obtain ⟨y, rfl⟩ := Int.eq_ofNat_of_zero_le h0; rfl
  rw [hd, u8_low, Nat.mod_eq_of_lt (by omega), this, List.nil_append]; rfl
theorem ref10_Num {n : Nat} (hn : 300 ≤ n) {x : Int} (hx : U64 x) : F_ref10_Num.f n x = some (bytesOf (eN x), ()) := by
  rw [F_ref10_Num.e0, ref01_Pack hn hx, bnd_some]

/-- A number with a sign as one without. -/
def zigI (t : Int) : Int := if 0 ≤ t then 2 * t else -2 * t - 1
def zagI (u : Int) : Int := if u % 2 = 0 then u / 2 else -(u / 2) - 1
theorem zig_U64 {t : Int} (h : I64 t) : U64 (zigI t) := by unfold zigI U64; obtain ⟨h1, h2⟩ := h; split <;> omega
theorem zag_zig (t : Int) : zagI (zigI t) = t := by unfold zigI zagI; split <;> split <;> omega
theorem xor_ones64 (x : BitVec 64) : (x ^^^ (BitVec.ofInt 64 (-1))).toNat = 2 ^ 64 - 1 - x.toNat := by
  rw [show (BitVec.ofInt 64 (-1)) = BitVec.allOnes 64 by decide, BitVec.xor_allOnes, BitVec.toNat_not]
theorem xor_zero64 (x : BitVec 64) : (x ^^^ (BitVec.ofInt 64 0)).toNat = x.toNat := by
  rw [show (BitVec.ofInt 64 0) = 0#64 by decide, BitVec.xor_zero]
theorem ofInt_nat64 {x : Int} (h : U64 x) : (BitVec.ofInt 64 x).toNat = x.toNat := by
  obtain ⟨h1, h2⟩ := h
  rw [BitVec.toNat_ofInt]; omega
theorem shr63 {t : Int} (h : I64 t) : shrI .i64 t 63 = if 0 ≤ t then 0 else -1 := by
  obtain ⟨h1, h2⟩ := h
  unfold shrI
  rw [show (min (63 : Int).toNat IntKind.i64.bits) = 63 from rfl, Int.fdiv_eq_ediv_of_nonneg _ (by decide), show ((2 : Int) ^ 63) = 9223372036854775808 from rfl]
  split <;> omega
theorem bits_Zig (n : Nat) {t : Int} (h : I64 t) : F_bits_Zig.f n t = some (zigI t, ()) := by
  rw [F_bits_Zig.e0, gNo_neg (by decide), gNo_neg (by decide), shr63 h]
  obtain ⟨h1, h2⟩ := h
  have hs : shlI .u64 (IntKind.u64.wrap t) 1 = (2 * t) % 18446744073709551616 := by
    unfold shlI
    rw [show (min (1 : Int).toNat IntKind.u64.bits) = 1 from rfl, wrap_u64_mod, wrap_u64_mod]; omega
  have hu : U64 ((2 * t) % 18446744073709551616) := by unfold U64; omega
  rw [hs]
  unfold bitI
  dsimp only
  rw [show IntKind.u64.bits = 64 from rfl]
  by_cases h0 : 0 ≤ t
  · rw [if_pos h0, show IntKind.u64.wrap 0 = 0 from rfl, xor_zero64, ofInt_nat64 hu, wrap_u64 (by omega)]
    unfold zigI
    rw [if_pos h0]; congr 2; omega
  · rw [if_neg h0, show BitVec.ofInt 64 (IntKind.u64.wrap (-1)) = BitVec.ofInt 64 (-1) by decide, xor_ones64, ofInt_nat64 hu, wrap_u64 (by omega)]
    unfold zigI
    rw [if_neg h0]; congr 2; omega
theorem ref01_Zig (n : Nat) {t : Int} (h : I64 t) : F_ref01_Zig.f n t = some (zigI t, ()) := by
  obtain ⟨h1, h2⟩ := h
  rw [F_ref01_Zig.e0, hide_eq]
  unfold zigI
  by_cases h0 : 0 ≤ t
  · rw [decide_eq_true (by omega), bIf_true, if_pos h0, wrap_u64 (x := t) (by omega), wrap_u64 (by omega)]
  · rw [decide_eq_false (by omega), bIf_false, if_neg h0, wrap_i64 (x := t + 1) (by omega), wrap_i64 (by omega), wrap_u64 (x := 0 - (t + 1)) (by omega), wrap_u64 (x := 2 * _) (by omega), wrap_u64 (by omega)]
    congr 2; omega
end Go.Proofs.YtcpkhpboemfglaaGreatDoor

namespace Go.Proofs.YtcpkhpboemfglaaGreatDoor
open Go Go.Va Go.Proofs

theorem andNot128 : ∀ v : Nat, v < 256 → bitI .andNot .u8 (v : Int) 128 = ((v % 128 : Nat) : Int) := by decide +kernel
theorem shr7_u8 (x : Nat) : shrI .u8 (x : Int) 7 = ((x / 128 : Nat) : Int) := shr7 _ (by decide) x
theorem orsh {i v c : Nat} (hi : i ≤ 9) (hv : v < 128 ^ i) (hs : v + c * 128 ^ i < 18446744073709551616) :
    bitI .or .u64 (v : Int) (shlI .u64 (c : Int) ((7 * i : Nat) : Int)) = ((v + c * 128 ^ i : Nat) : Int) := by
  have h7 : (128 : Nat) ^ i = 2 ^ (7 * i) := by rw [Nat.pow_mul]
  have e1 : shlI .u64 (c : Int) ((7 * i : Nat) : Int) = ((c * 128 ^ i : Nat) : Int) := by
    unfold shlI
    rw [Int.toNat_natCast, Nat.min_eq_left (show 7 * i ≤ IntKind.u64.bits by change 7 * i ≤ 64; omega), show ((c : Int) * 2 ^ (7 * i)) = ((c * 128 ^ i : Nat) : Int) by rw [h7]; push_cast; rfl, wrap_u64 (by omega)]
  rw [e1]
  unfold bitI
  dsimp only
  rw [show IntKind.u64.bits = 64 from rfl, BitVec.toNat_or, ofInt_nat64 ⟨by omega, by omega⟩, ofInt_nat64 ⟨by omega, by omega⟩, Int.toNat_natCast, Int.toNat_natCast]
  have e2 : v ||| c * 128 ^ i = v + c * 128 ^ i := by
    rw [h7] at hv ⊢
    rw [Nat.or_comm, Nat.mul_comm, ← Nat.two_pow_add_eq_or_of_lt hv, Nat.add_comm]
  rw [e2, wrap_u64 (by omega)]
theorem wrap_U64 (x : Int) : U64 (IntKind.u64.wrap x) := by rw [wrap_u64_mod]; unfold U64; omega
theorem bitI_U64 (op : BinOp) (x y : Int) : U64 (bitI op .u64 x y) := by
  unfold bitI; dsimp only; split <;> exact wrap_U64 _

/-- Bytes, and not too many. -/
structure BB (n : Nat) (b : List Int) : Prop where
  len : b.length < n
  byte : ∀ x ∈ b, 0 ≤ x ∧ x ≤ 255
theorem BB_nil {n : Nat} (h : 0 < n) : BB n [] := ⟨h, by intro x h; exact nomatch h⟩
theorem BB_drop {n : Nat} {b : List Int} (h : BB n b) (k : Nat) : BB n (b.drop k) := ⟨by have := h.len; rw [List.length_drop]; omega, fun x hx => h.byte x (List.mem_of_mem_drop hx)⟩
theorem BB_take {n : Nat} {b : List Int} (h : BB n b) (k : Nat) : BB n (b.take k) := ⟨by have := h.len; rw [List.length_take]; omega, fun x hx => h.byte x (List.mem_of_mem_take hx)⟩

theorem bits_Unpack_J3 {n : Nat} (hn : n ≤ 536870912) (h3 : 300 ≤ n) {b : List Int} (hb : BB n b) (m : Nat) (v x : Int) (k : Nat) (hk : k < b.length)
    (ih : ∀ v, U64 v → ∃ (w u e : Int), F_bits_Unpack.J1 n m (b, v, b, ((b.length : Nat) : Int), ((k + 1 : Nat) : Int), ()) = some (w, u, e, ()) ∧ U64 w ∧ 0 ≤ u ∧ u ≤ b.length ∧ 0 ≤ e ∧ e ≤ 3) :
    ∃ (w u e : Int), F_bits_Unpack.J3 n m (b, v, (k : Int), x, b, ((b.length : Nat) : Int), (k : Int), ()) = some (w, u, e, ()) ∧ U64 w ∧ 0 ≤ u ∧ u ≤ b.length ∧ 0 ≤ e ∧ e ≤ 3 := by
  have hl := hb.len
  have hw := bitI_U64 .or v (shlI .u64 (IntKind.u64.wrap (bitI .andNot .u8 x 128)) (IntKind.u64.wrap ((7 : Int) * (IntKind.u64.wrap (k : Int)))))
  rw [F_bits_Unpack.e3, gNo_neg (by have := (wrap_U64 ((7 : Int) * (IntKind.u64.wrap (k : Int)))).1; omega), gNo_neg (by decide), cast_up k (by omega), bits_Pack h3 hw, bnd_some]
  generalize bitI .or .u64 v _ = w at hw
  rw [hide_eq]
  cases (shrI .u8 x 7 != 0)
  · rw [bIf_false, gIf_pos ⟨by omega, by omega⟩, gIf_pos ⟨by omega, by omega⟩, F_bytes_Equal.e0, bnd_some]
    cases hide (eqS _ _)
    · exact ⟨0, 0, 2, rfl, by unfold U64; omega, by omega, by omega, by omega, by omega⟩
    · exact ⟨w, ((k + 1 : Nat) : Int), 0, rfl, hw, by omega, by omega, by omega, by omega⟩
  · rw [bIf_true]
    exact ih w hw
theorem bits_Unpack_J {n : Nat} (hn : n ≤ 536870912) (h3 : 300 ≤ n) {b : List Int} (hb : BB n b) : ∀ (m k : Nat) (v : Int), U64 v → k ≤ b.length → b.length - k < m →
    ∃ (w u e : Int), F_bits_Unpack.J1 n m (b, v, b, ((b.length : Nat) : Int), (k : Int), ()) = some (w, u, e, ()) ∧ U64 w ∧ 0 ≤ u ∧ u ≤ b.length ∧ 0 ≤ e ∧ e ≤ 3
  | 0, k, v, _, _, h => by omega
  | m + 1, k, v, hv, hk, h => by
    have hl := hb.len
    rw [F_bits_Unpack.e1, hide_eq]
    by_cases hlt : k < b.length
    · rw [decide_eq_true (by omega), bIf_true, gIf_pos ⟨by omega, by omega⟩]
      have h3' := fun x => bits_Unpack_J3 hn h3 hb m v x k hlt (fun v hv => bits_Unpack_J hn h3 hb m (k + 1) v hv (by omega) (by omega))
      simp only [F_bits_Unpack.e2, hide_eq]
      cases ((k : Int) == 9)
      · exact h3' _
      · cases decide ((List.getD b (k : Int).toNat 0) > (1 : Int))
        · exact h3' _
        · exact ⟨0, 0, 2, rfl, by unfold U64; omega, by omega, by omega, by omega, by omega⟩
    · rw [decide_eq_false (by omega), bIf_false, F_bits_Unpack.e4]
      exact ⟨0, 0, 3, rfl, by unfold U64; omega, by omega, by omega, by omega, by omega⟩
theorem bits_Unpack_any {n : Nat} (hn : n ≤ 536870912) (h3 : 300 ≤ n) {b : List Int} (hb : BB n b) :
    ∃ (w u e : Int), F_bits_Unpack.f n b = some (w, u, e, ()) ∧ U64 w ∧ 0 ≤ u ∧ u ≤ b.length ∧ 0 ≤ e ∧ e ≤ 3 := by
  have hl := hb.len
  rw [F_bits_Unpack.e0]
  exact bits_Unpack_J hn h3 hb n 0 0 (by unfold U64; omega) (by omega) (by omega)

theorem bits_Unpack_enc {n : Nat} (hn : n ≤ 536870912) (h3 : 300 ≤ n) {b rest : List Int} (hb : BB n b) {x : Nat} (hx : x < 18446744073709551616) :
    ∀ (k m i y v : Nat) (pre : List Int), pre.length = i → i + k = 9 → k < m → b = pre ++ (packF (k + 1) y ++ rest) → pre ++ packF (k + 1) y = eN (x : Int) → x = v + y * 128 ^ i → v < 128 ^ i → y < 128 ^ (k + 1) →
    F_bits_Unpack.J1 n m (b, (v : Int), b, ((b.length : Nat) : Int), (i : Int), ()) = some ((x : Int), (((eN (x : Int)).length : Nat) : Int), 0, ())
  | k, 0, i, y, v, pre, hp, hi, hm, hbe, hen, hxe, hv, hy => by omega
  | k, m + 1, i, y, v, pre, hp, hi, hm, hbe, hen, hxe, hv, hy => by
    have hl := hb.len
    have hlen : i < b.length := by
      have := packF_pos (k := k + 1) y (by omega)
      rw [hbe]; simp; omega
    have hor : ∀ c : Nat, v + c * 128 ^ i < 18446744073709551616 → bitI .or .u64 (v : Int) (shlI .u64 (c : Int) (IntKind.u64.wrap ((7 : Int) * (IntKind.u64.wrap (i : Int))))) = ((v + c * 128 ^ i : Nat) : Int) := by
      intro c hc
      rw [wrap_u64 (x := (i : Int)) (by omega), wrap_u64 (by omega), show ((7 : Int) * (i : Int)) = ((7 * i : Nat) : Int) by omega]
      exact orsh (by omega) hv hc
    rw [F_bits_Unpack.e1, hide_eq, decide_eq_true (by omega), bIf_true, gIf_pos ⟨by omega, by omega⟩, Int.toNat_natCast]
    simp only [F_bits_Unpack.e2, hide_eq]
    by_cases h : y < 128
    · have hc : b.getD i 0 = (y : Int) := by
        rw [hbe, packF_small h]
        subst hp; simp
      have h9 : ((i : Int) == 9) = true → decide ((y : Int) > 1) = false := by
        intro h9
        have : i = 9 := by have := beq_iff_eq.1 h9; omega
        subst this
        apply decide_eq_false
        rw [show (128 : Nat) ^ 9 = 9223372036854775808 from rfl] at hxe
        omega
      have hg : bIf ((i : Int) == 9) (bIf (decide (b.getD i 0 > 1)) (some (0, 0, 2, ())) (F_bits_Unpack.J3 n m (b, (v : Int), (i : Int), b.getD i 0, b, ((b.length : Nat) : Int), (i : Int), ()))) (bIf false (some (0, 0, 2, ())) (F_bits_Unpack.J3 n m (b, (v : Int), (i : Int), b.getD i 0, b, ((b.length : Nat) : Int), (i : Int), ()))) = F_bits_Unpack.J3 n m (b, (v : Int), (i : Int), b.getD i 0, b, ((b.length : Nat) : Int), (i : Int), ()) := by
        rw [hc]
        cases hq : ((i : Int) == 9)
        · rfl
        · rw [h9 hq]; rfl
      rw [hg, hc, F_bits_Unpack.e3, gNo_neg (by have := (wrap_U64 ((7 : Int) * (IntKind.u64.wrap (i : Int)))).1; omega), gNo_neg (by decide), hide_eq, shr7_u8, Nat.div_eq_of_lt h, andNot128 y (by omega), Nat.mod_eq_of_lt h, wrap_u64 (x := (y : Int)) (by omega), hor y (by omega), ← hxe, cast_up i (by omega), bits_Pack h3 ⟨by omega, by omega⟩, bnd_some,
        gIf_pos ⟨by omega, by omega⟩, gIf_pos ⟨by omega, by omega⟩, F_bytes_Equal.e0, bnd_some, Int.toNat_natCast, List.drop_zero]
      rw [packF_small h] at hen hbe
      have ht : b.take (i + 1) = eN (x : Int) := by
        rw [← hen, hbe]
        subst hp
        rw [← List.append_assoc, List.take_append_of_le_length (by simp), List.take_of_length_le (by simp)]
      rw [ht, eqS_self, ← hen, List.length_append, hp, hide_eq, show (((0 : Nat) : Int) != 0) = false from rfl, bIf_false]; rfl
    · cases k with
      | zero => rw [Nat.zero_add, Nat.pow_one] at hy; omega
      | succ k =>
        have hc : b.getD i 0 = ((y % 128 + 128 : Nat) : Int) := by
          rw [hbe, packF_big h]
          subst hp; simp
        have h9 : ((i : Int) == 9) = false := by rw [beq_eq_false_iff_ne]; omega
        have hdm : y % 128 + 128 * (y / 128) = y := Nat.mod_add_div y 128
        have e1 : y % 128 * 128 ^ i + y / 128 * 128 ^ (i + 1) = y * 128 ^ i := by
          rw [Nat.pow_succ, show y / 128 * (128 ^ i * 128) = (128 * (y / 128)) * 128 ^ i by rw [Nat.mul_comm (128 ^ i) 128, ← Nat.mul_assoc, Nat.mul_comm (y / 128) 128], ← Nat.add_mul, hdm]
        have e2 : v + y % 128 * 128 ^ i < 128 ^ (i + 1) := by
          have h1 : y % 128 ≤ 127 := by omega
          have h2 := Nat.mul_le_mul_right (128 ^ i) h1
          rw [Nat.pow_succ]; omega
        rw [h9, bIf_false, bIf_false, hc, F_bits_Unpack.e3, gNo_neg (by have := (wrap_U64 ((7 : Int) * (IntKind.u64.wrap (i : Int)))).1; omega), gNo_neg (by decide), hide_eq, shr7_u8, show (y % 128 + 128) / 128 = 1 by omega, andNot128 _ (by omega), show (y % 128 + 128) % 128 = y % 128 by omega, wrap_u64 (x := ((y % 128 : Nat) : Int)) (by omega), hor _ (by omega), cast_up i (by omega)]
        rw [packF_big h] at hen hbe
        exact bits_Unpack_enc (rest := rest) hn h3 hb hx k m (i + 1) (y / 128) (v + y % 128 * 128 ^ i) (pre ++ [((y % 128 + 128 : Nat) : Int)]) (by simp; omega) (by omega) (by omega) (by rw [hbe]; simp) (by rw [← hen]; simp) (by omega) e2
          (by rw [Nat.div_lt_iff_lt_mul (by decide), ← Nat.pow_succ]; exact hy)
theorem bits_Unpack_eN {n : Nat} (hn : n ≤ 536870912) (h3 : 300 ≤ n) {rest : List Int} {x : Int} (hx : U64 x) (hb : BB n (eN x ++ rest)) :
    F_bits_Unpack.f n (eN x ++ rest) = some (x, (((eN x).length : Nat) : Int), 0, ()) := by
  obtain ⟨h0, h1⟩ := hx
  obtain ⟨y, rfl⟩ := Int.eq_ofNat_of_zero_le h0
  rw [F_bits_Unpack.e0]
  exact bits_Unpack_enc (rest := rest) hn h3 hb (x := y) (by omega) 9 n 0 y 0 [] rfl rfl (by omega) rfl rfl (by simp) (by simp) (u64_pow (by omega))

theorem xor_ones64i (x : BitVec 64) : (x ^^^ (BitVec.ofInt 64 (-1))).toNat = 2 ^ 64 - 1 - x.toNat := xor_ones64 x
theorem bits_Zag (n : Nat) {u : Int} (h : U64 u) : F_bits_Zag.f n u = some (zagI u, ()) := by
  have hu := h
  obtain ⟨h0, h1⟩ := h
  obtain ⟨y, rfl⟩ := Int.eq_ofNat_of_zero_le h0
  have ha : bitI .and .u64 (y : Int) 1 = ((y % 2 : Nat) : Int) := by
    unfold bitI
    dsimp only
    rw [show IntKind.u64.bits = 64 from rfl, BitVec.toNat_and, ofInt_nat64 hu, show (BitVec.ofInt 64 1).toNat = 1 from rfl, Int.toNat_natCast, Nat.and_one_is_mod, wrap_u64 (by omega)]
  have hs : shrI .u64 (y : Int) 1 = ((y / 2 : Nat) : Int) := by
    unfold shrI
    rw [show (min (1 : Int).toNat IntKind.u64.bits) = 1 from rfl, Int.fdiv_eq_ediv_of_nonneg _ (by decide), show ((2 : Int) ^ 1) = 2 from rfl]; omega
  rw [F_bits_Zag.e0, gNo_neg (by decide), ha, hs, wrap_i64 (x := ((y / 2 : Nat) : Int)) (by omega), wrap_i64 (x := ((y % 2 : Nat) : Int)) (by omega), wrap_i64 (x := 0 - ((y % 2 : Nat) : Int)) (by omega)]
  unfold bitI
  dsimp only
  rw [show IntKind.i64.bits = 64 from rfl]
  unfold zagI
  rcases Nat.mod_two_eq_zero_or_one y with hm | hm
  · rw [hm, show (0 - ((0 : Nat) : Int)) = 0 from rfl, xor_zero64, ofInt_nat64 ⟨by omega, by omega⟩, if_pos (by omega), Int.toNat_natCast, wrap_i64 (by omega)]; rfl
  · rw [hm, show (0 - ((1 : Nat) : Int)) = -1 from rfl, xor_ones64, ofInt_nat64 ⟨by omega, by omega⟩, if_neg (by omega), Int.toNat_natCast]
    congr 2
    simp [IntKind.wrap, IntKind.bits, IntKind.signed]; omega
theorem zag_I64 {u : Int} (h : U64 u) : I64 (zagI u) := by unfold zagI I64; obtain ⟨h1, h2⟩ := h; split <;> omega
end Go.Proofs.YtcpkhpboemfglaaGreatDoor

namespace Go.Proofs.YtcpkhpboemfglaaGreatDoor
open Go Go.Va Go.Proofs

def eW (x : Int) : List Int := eN (IntKind.u64.wrap x)
def eI (t : Int) : List Int := eN (zigI t)
def eF (b : Bool) : List Int := [if b then 1 else 0]
def eT (s : ByteArray) : List Int := eW (s.size : Int) ++ ofBytes s
def eTag (t : D_api_Tag) : List Int := eT t.1 ++ eT t.2.1
def eTags (l : List D_api_Tag) : List Int := eW ((l.length : Nat) : Int) ++ l.flatMap eTag
def eLock (l : D_api_Lock) : List Int := eW l.1 ++ (eI l.2.1 ++ eF l.2.2.1)
def eVer (v : Ver) : List Int := eN v.1 ++ (eF (mark v) ++ (eI (made v) ++ if mark v then [] else eW (vsize v) ++ (eN (blob v) ++ (dig v ++ (eLock (lock v) ++ eTags (tags v))))))
def eDef (d : D_api_Default) : List Int := eW d.1 ++ eW d.2.1
def eRule (r : D_api_Rule) : List Int := eT r.1 ++ (eTags r.2.1 ++ (eW r.2.2.1 ++ (eW r.2.2.2.1 ++ eF r.2.2.2.2.1)))
def eRules (l : List D_api_Rule) : List Int := eW ((l.length : Nat) : Int) ++ l.flatMap eRule
def eGrant (g : D_api_Grant) : List Int := eF g.1 ++ (eT g.2.1 ++ (eT g.2.2.1 ++ eT g.2.2.2.1))
def eGrants (l : List D_api_Grant) : List Int := eW ((l.length : Nat) : Int) ++ l.flatMap eGrant
def ePart (p : D_api_Part) : List Int := eW p.1 ++ (eW p.2.1 ++ (eN p.2.2.1 ++ p.2.2.2.1))
def fldE (e : E) (c : UInt8) : List Int :=
  if c = 107 then eT e.2.2.2.1 else if c = 105 then eN e.2.2.2.2.1 else if c = 118 then eVer e.2.2.2.2.2.1 else if c = 108 then eLock e.2.2.2.2.2.2.1 else if c = 116 then eTags e.2.2.2.2.2.2.2.1
  else if c = 100 then eDef e.2.2.2.2.2.2.2.2.1 else if c = 114 then eRules e.2.2.2.2.2.2.2.2.2.1 else if c = 103 then eGrants e.2.2.2.2.2.2.2.2.2.2.1 else if c = 112 then ePart e.2.2.2.2.2.2.2.2.2.2.2.1 else []
def eE (e : E) : List Int := eW e.1 ++ (eI e.2.1 ++ ((if e.1 = 1 then [] else eT e.2.2.1) ++ (hasB e.1).data.toList.flatMap (fldE e)))
/-- What every change that comes in is: numbers within their kinds, digests as long as they are. -/
structure ER (e : E) : Prop where
  time : I64 e.2.1
  id : U64 e.2.2.2.2.1
  vid : U64 e.2.2.2.2.2.1.1
  vmade : I64 (made e.2.2.2.2.2.1)
  vblob : U64 (blob e.2.2.2.2.2.1)
  vdig : (dig e.2.2.2.2.2.1).length = 32
  vlock : I64 (lock e.2.2.2.2.2.1).2.1
  lock : I64 e.2.2.2.2.2.2.1.2.1
  pblob : U64 e.2.2.2.2.2.2.2.2.2.2.2.1.2.2.1
  pdig : e.2.2.2.2.2.2.2.2.2.2.2.1.2.2.2.1.length = 32

/-- A loop that writes list elements one by one. -/
theorem app_loop {α R : Type} {l : List α} (d : α) (g : α → List Int) (C : Nat) (J : Nat → Int → List Int → Option R) (fin : List Int → Option R)
    (hs : ∀ m (k : Nat) L, k < l.length → L.length + (g (l.getD k d)).length ≤ C → J (m + 1) (k : Int) L = J m ((k + 1 : Nat) : Int) (L ++ g (l.getD k d)))
    (he : ∀ m L, L.length ≤ C → J (m + 1) ((l.length : Nat) : Int) L = fin L) :
    ∀ (m k : Nat) (L : List Int), k ≤ l.length → l.length - k < m → L.length + ((l.drop k).flatMap g).length ≤ C → J m (k : Int) L = fin (L ++ (l.drop k).flatMap g)
  | 0, k, L, _, h, _ => by omega
  | m + 1, k, L, hk, h, hC => by
    by_cases hlt : k < l.length
    · have hd : l.drop k = l.getD k d :: l.drop (k + 1) := by
        rw [List.drop_eq_getElem_cons hlt, List.getD_eq_getElem?_getD, List.getElem?_eq_getElem hlt]; rfl
      rw [hd, List.flatMap_cons] at hC ⊢
      rw [List.length_append] at hC
      rw [hs m k L hlt (by omega), app_loop d g C J fin hs he m (k + 1) _ (by omega) (by omega) (by rw [List.length_append]; omega), List.append_assoc]
    · have : k = l.length := by omega
      subst this
      rw [List.drop_length, List.flatMap_nil, List.append_nil]
      rw [List.drop_length, List.flatMap_nil, List.length_nil] at hC
      exact he m L (by omega)


theorem wput {n : Nat} (w : List Int) (u : Unit) (b : List Int) (h : w.length + b.length ≤ 70368744177664) : F_pack_Writer_put.f n (w, u) b = some ((w ++ b, ()), ()) := by
  rw [F_pack_Writer_put.e0, hide_eq, bIf_true, gIf_pos (by dsimp only; omega)]
theorem wNum {n : Nat} (hn : 300 ≤ n) (w : List Int) (u : Unit) {x : Int} (hx : U64 x) (h : w.length + (eN x).length ≤ 70368744177664) : F_pack_Writer_Num.f n (w, u) x = some ((w ++ eN x, ()), ()) := by
  rw [F_pack_Writer_Num.e0, bits_Pack hn hx]
  simp (disch := first | assumption | exact wrap_U64 _ | omega | (simp only [List.length_append, List.length_cons, List.length_nil] at *; omega)) only [bnd_some, wput]
theorem wW {n : Nat} (hn : 300 ≤ n) (w : List Int) (u : Unit) {x : Int} (h : w.length + (eW x).length ≤ 70368744177664) : F_pack_Writer_Num.f n (w, u) (IntKind.u64.wrap x) = some ((w ++ eW x, ()), ()) := wNum hn w u (wrap_U64 _) h
theorem wInt {n : Nat} (hn : 300 ≤ n) (w : List Int) (u : Unit) {x : Int} (hx : I64 x) (h : w.length + (eI x).length ≤ 70368744177664) : F_pack_Writer_Int.f n (w, u) x = some ((w ++ eI x, ()), ()) := by
  rw [F_pack_Writer_Int.e0, bits_Zig n hx, bnd_some]
  dsimp only
  rw [wNum hn w () (zig_U64 hx) h, bnd_some]; rfl
theorem wFlag {n : Nat} (w : List Int) (u : Unit) {b : Bool} (h : w.length + (eF b).length ≤ 70368744177664) : F_pack_Writer_Flag.f n (w, u) b = some ((w ++ eF b, ()), ()) := by
  rw [F_pack_Writer_Flag.e0]
  unfold eF at h
  rw [List.length_singleton] at h
  cases b
  · simp (disch := first | assumption | exact wrap_U64 _ | omega | (simp only [List.length_append, List.length_cons, List.length_nil] at *; omega)) only [bIf_false, wput, bnd_some]; rfl
  · simp (disch := first | assumption | exact wrap_U64 _ | omega | (simp only [List.length_append, List.length_cons, List.length_nil] at *; omega)) only [bIf_true, wput, bnd_some]; rfl
theorem wText {n : Nat} (hn : 300 ≤ n) (w : List Int) (u : Unit) {s : ByteArray} (h : w.length + (eT s).length ≤ 70368744177664) : F_pack_Writer_Text.f n (w, u) s = some ((w ++ eT s, ()), ()) := by
  rw [F_pack_Writer_Text.e0]
  unfold eT at h ⊢
  rw [List.length_append] at h
  dsimp only
  rw [wW hn w () (by omega), bnd_some]
  dsimp only
  rw [wput _ _ _ (by rw [List.length_append]; omega), bnd_some, List.append_assoc]
theorem wDig {n : Nat} (w : List Int) (u : Unit) {d : List Int} (h : w.length + d.length ≤ 70368744177664) : F_pack_Writer_Digest.f n (w, u) d = some ((w ++ d, ()), ()) := by
  rw [F_pack_Writer_Digest.e0]
  simp (disch := first | assumption | exact wrap_U64 _ | omega | (simp only [List.length_append, List.length_cons, List.length_nil] at *; omega)) only [bnd_some, wput]
theorem wLock {n : Nat} (hn : 300 ≤ n) (w : List Int) (u : Unit) {l : D_api_Lock} (hl : I64 l.2.1) (h : w.length + (eLock l).length ≤ 70368744177664) : F_entry_Writer_Lock.f n (w, u) l = some ((w ++ eLock l, ()), ()) := by
  rw [F_entry_Writer_Lock.e0]
  unfold eLock at h ⊢
  simp only [List.length_append] at h
  dsimp only
  rw [wW hn w () (by omega), bnd_some]
  dsimp only
  rw [wInt hn _ () hl (by rw [List.length_append]; omega), bnd_some]
  dsimp only
  rw [wFlag _ () (by first | omega | (simp only [List.length_append]; omega)), bnd_some]
  simp only [List.append_assoc]
theorem wTags {n : Nat} (hn : 300 ≤ n) (w : List Int) (u : Unit) {l : List D_api_Tag} (hl : l.length < n) (hn2 : n ≤ 536870912) (h : w.length + (eTags l).length ≤ 70368744177664) : F_entry_Writer_Tags.f n (w, u) l = some ((w ++ eTags l, ()), ()) := by
  rw [F_entry_Writer_Tags.e0]
  unfold eTags at h ⊢
  simp only [List.length_append] at h
  dsimp only
  rw [wW hn w () (by omega), bnd_some]
  dsimp only
  have := app_loop (l := l) (Va.dflt T_api_Tag) eTag 70368744177664 (fun m k L => F_entry_Writer_Tags.J1 n m (l, ((l.length : Nat) : Int), k, ((), ()), (L, ()), ())) (fun L => some ((L, ()), ()))
    (fun m k L hk hL => by
      unfold eTag at hL ⊢
      simp only [List.length_append] at hL
      try dsimp only
      rw [F_entry_Writer_Tags.e1, hide_eq, decide_eq_true (by omega), bIf_true, gIf_pos ⟨by omega, by omega⟩, Int.toNat_natCast, cast_up k (by omega)]
      try dsimp only
      rw [wText hn _ () (by omega), bnd_some]
      try dsimp only
      rw [wText hn _ () (by rw [List.length_append]; omega), bnd_some]
      simp only [List.append_assoc])
    (fun m L hL => by
      try dsimp only
      rw [F_entry_Writer_Tags.e1, hide_eq, decide_eq_false (by omega), bIf_false]) n 0 (w ++ eW ((l.length : Nat) : Int)) (by omega) (by omega) (by rw [List.length_append, List.drop_zero]; omega)
  try dsimp only at this
  rw [show ((0 : Nat) : Int) = 0 from rfl] at this
  rw [this, List.drop_zero, List.append_assoc]
theorem wDef {n : Nat} (hn : 300 ≤ n) (w : List Int) (u : Unit) {d : D_api_Default} (h : w.length + (eDef d).length ≤ 70368744177664) : F_entry_Writer_Default.f n (w, u) d = some ((w ++ eDef d, ()), ()) := by
  rw [F_entry_Writer_Default.e0]
  unfold eDef at h ⊢
  simp only [List.length_append] at h
  try dsimp only
  rw [wW hn _ () (by first | omega | (simp only [List.length_append]; omega)), bnd_some]
  try dsimp only
  rw [wW hn _ () (by first | omega | (simp only [List.length_append]; omega)), bnd_some]
  try dsimp only
  simp only [List.append_assoc]
theorem wPart {n : Nat} (hn : 300 ≤ n) (w : List Int) (u : Unit) {p : D_api_Part} (hp : U64 p.2.2.1) (h : w.length + (ePart p).length ≤ 70368744177664) : F_entry_Writer_Part.f n (w, u) p = some ((w ++ ePart p, ()), ()) := by
  rw [F_entry_Writer_Part.e0]
  unfold ePart at h ⊢
  simp only [List.length_append] at h
  try dsimp only
  rw [wW hn _ () (by first | omega | (simp only [List.length_append]; omega)), bnd_some]
  try dsimp only
  rw [wW hn _ () (by first | omega | (simp only [List.length_append]; omega)), bnd_some]
  try dsimp only
  rw [wNum hn _ () hp (by first | omega | (simp only [List.length_append]; omega)), bnd_some]
  try dsimp only
  rw [wDig _ () (by first | omega | (simp only [List.length_append]; omega)), bnd_some]
  try dsimp only
  simp only [List.append_assoc]
theorem wRules {n : Nat} (hn : 300 ≤ n) (w : List Int) (u : Unit) {l : List D_api_Rule} (hl : RusB n l) (hn2 : n ≤ 536870912) (h : w.length + (eRules l).length ≤ 70368744177664) : F_entry_Writer_Rules.f n (w, u) l = some ((w ++ eRules l, ()), ()) := by
  have hlen := hl.len
  rw [F_entry_Writer_Rules.e0]
  unfold eRules at h ⊢
  simp only [List.length_append] at h
  dsimp only
  rw [wW hn w () (by omega), bnd_some]
  dsimp only
  have := app_loop (l := l) (Va.dflt T_api_Rule) eRule 70368744177664 (fun m k L => F_entry_Writer_Rules.J1 n m (l, ((l.length : Nat) : Int), k, ((), ()), (L, ()), ())) (fun L => some ((L, ()), ()))
    (fun m k L hk hL => by
      have hr := hl.all _ (getD_memA (d := Va.dflt T_api_Rule) hk)
      unfold eRule at hL ⊢
      simp only [List.length_append] at hL
      try dsimp only
      rw [F_entry_Writer_Rules.e1, hide_eq, decide_eq_true (by omega), bIf_true, gIf_pos ⟨by omega, by omega⟩, Int.toNat_natCast, cast_up k (by omega)]
      try dsimp only
      rw [wText hn _ () (by first | omega | (simp only [List.length_append]; omega)), bnd_some]
      try dsimp only
      rw [wTags hn _ () hr.tags.1 hn2 (by first | omega | (simp only [List.length_append]; omega)), bnd_some]
      try dsimp only
      rw [wW hn _ () (by first | omega | (simp only [List.length_append]; omega)), bnd_some]
      try dsimp only
      rw [wW hn _ () (by first | omega | (simp only [List.length_append]; omega)), bnd_some]
      try dsimp only
      rw [wFlag _ () (by first | omega | (simp only [List.length_append]; omega)), bnd_some]
      try dsimp only
      simp only [List.append_assoc])
    (fun m L hL => by
      try dsimp only
      rw [F_entry_Writer_Rules.e1, hide_eq, decide_eq_false (by omega), bIf_false]) n 0 (w ++ eW ((l.length : Nat) : Int)) (by omega) (by omega) (by rw [List.length_append, List.drop_zero]; omega)
  try dsimp only at this
  rw [show ((0 : Nat) : Int) = 0 from rfl] at this
  rw [this, List.drop_zero, List.append_assoc]
theorem wGrants {n : Nat} (hn : 300 ≤ n) (w : List Int) (u : Unit) {l : List D_api_Grant} (hl : GrsB n l) (hn2 : n ≤ 536870912) (h : w.length + (eGrants l).length ≤ 70368744177664) : F_entry_Writer_Grants.f n (w, u) l = some ((w ++ eGrants l, ()), ()) := by
  have hlen := hl.len
  rw [F_entry_Writer_Grants.e0]
  unfold eGrants at h ⊢
  simp only [List.length_append] at h
  dsimp only
  rw [wW hn w () (by omega), bnd_some]
  dsimp only
  have := app_loop (l := l) (Va.dflt T_api_Grant) eGrant 70368744177664 (fun m k L => F_entry_Writer_Grants.J1 n m (l, ((l.length : Nat) : Int), k, ((), ()), (L, ()), ())) (fun L => some ((L, ()), ()))
    (fun m k L hk hL => by
      have hr := hl.all _ (getD_memA (d := Va.dflt T_api_Grant) hk)
      unfold eGrant at hL ⊢
      simp only [List.length_append] at hL
      try dsimp only
      rw [F_entry_Writer_Grants.e1, hide_eq, decide_eq_true (by omega), bIf_true, gIf_pos ⟨by omega, by omega⟩, Int.toNat_natCast, cast_up k (by omega)]
      try dsimp only
      rw [wFlag _ () (by first | omega | (simp only [List.length_append]; omega)), bnd_some]
      try dsimp only
      rw [wText hn _ () (by first | omega | (simp only [List.length_append]; omega)), bnd_some]
      try dsimp only
      rw [wText hn _ () (by first | omega | (simp only [List.length_append]; omega)), bnd_some]
      try dsimp only
      rw [wText hn _ () (by first | omega | (simp only [List.length_append]; omega)), bnd_some]
      try dsimp only
      simp only [List.append_assoc])
    (fun m L hL => by
      try dsimp only
      rw [F_entry_Writer_Grants.e1, hide_eq, decide_eq_false (by omega), bIf_false]) n 0 (w ++ eW ((l.length : Nat) : Int)) (by omega) (by omega) (by rw [List.length_append, List.drop_zero]; omega)
  try dsimp only at this
  rw [show ((0 : Nat) : Int) = 0 from rfl] at this
  rw [this, List.drop_zero, List.append_assoc]
theorem wVer {n : Nat} (hn : 300 ≤ n) (w : List Int) (u : Unit) {v : Ver} (h1 : U64 v.1) (h2 : I64 (made v)) (h3 : U64 (blob v)) (h4 : I64 (lock v).2.1) (ht : (tags v).length < n) (hn2 : n ≤ 536870912) (h : w.length + (eVer v).length ≤ 70368744177664) : F_entry_Writer_Version.f n (w, u) v = some ((w ++ eVer v, ()), ()) := by
  rw [F_entry_Writer_Version.e0]
  unfold eVer at h ⊢
  simp only [List.length_append] at h
  try dsimp only
  rw [wNum hn _ () h1 (by omega), bnd_some]
  try dsimp only
  rw [show v.2.1 = mark v from rfl, wFlag _ () (by first | omega | (simp only [List.length_append]; omega)), bnd_some]
  try dsimp only
  rw [show v.2.2.2.2.2.1 = made v from rfl, wInt hn _ () h2 (by first | omega | (simp only [List.length_append]; omega)), bnd_some]
  try dsimp only
  cases hm : mark v
  · rw [hm] at h
    simp only [Bool.false_eq_true, if_false, List.length_append] at h ⊢
    rw [bIf_false, show v.2.2.1 = vsize v from rfl, wW hn _ () (by first | omega | (simp only [List.length_append]; omega)), bnd_some]
    try dsimp only
    rw [show v.2.2.2.1 = blob v from rfl, wNum hn _ () h3 (by first | omega | (simp only [List.length_append]; omega)), bnd_some]
    try dsimp only
    rw [show v.2.2.2.2.1 = dig v from rfl, wDig _ () (by first | omega | (simp only [List.length_append]; omega)), bnd_some]
    try dsimp only
    rw [show v.2.2.2.2.2.2.1 = lock v from rfl, wLock hn _ () h4 (by first | omega | (simp only [List.length_append]; omega)), bnd_some]
    try dsimp only
    rw [show v.2.2.2.2.2.2.2.1 = tags v from rfl, wTags hn _ () ht hn2 (by first | omega | (simp only [List.length_append]; omega)), bnd_some]
    simp only [List.append_assoc]
  · rw [bIf_true]
    simp only [if_true, List.append_nil, List.append_assoc]
/-- What is behind the head of a change, kind by kind. -/
def eK (e : E) : List Int := (hasB e.1).data.toList.flatMap (fldE e)
theorem fld_k (e : E) : fldE e 107 = eT e.2.2.2.1 := rfl
theorem fld_i (e : E) : fldE e 105 = eN e.2.2.2.2.1 := rfl
theorem fld_v (e : E) : fldE e 118 = eVer e.2.2.2.2.2.1 := rfl
theorem fld_l (e : E) : fldE e 108 = eLock e.2.2.2.2.2.2.1 := rfl
theorem fld_t (e : E) : fldE e 116 = eTags e.2.2.2.2.2.2.2.1 := rfl
theorem fld_d (e : E) : fldE e 100 = eDef e.2.2.2.2.2.2.2.2.1 := rfl
theorem fld_r (e : E) : fldE e 114 = eRules e.2.2.2.2.2.2.2.2.2.1 := rfl
theorem fld_g (e : E) : fldE e 103 = eGrants e.2.2.2.2.2.2.2.2.2.2.1 := rfl
theorem fld_p (e : E) : fldE e 112 = ePart e.2.2.2.2.2.2.2.2.2.2.2.1 := rfl
theorem fld_dot (e : E) : fldE e 46 = [] := rfl
theorem eK_1 (e : E) (h : e.1 = 1) : eK e = [] := by
  unfold eK
  rw [h, show (hasB 1).data.toList = [46] from rfl]
  simp only [List.flatMap_cons, List.flatMap_nil, List.append_nil, fld_dot]
theorem eK_2 (e : E) (h : e.1 = 2) : eK e = [] := by
  unfold eK
  rw [h, show (hasB 2).data.toList = [46] from rfl]
  simp only [List.flatMap_cons, List.flatMap_nil, List.append_nil, fld_dot]
theorem eK_3 (e : E) (h : e.1 = 3) : eK e = [] := by
  unfold eK
  rw [h, show (hasB 3).data.toList = [46] from rfl]
  simp only [List.flatMap_cons, List.flatMap_nil, List.append_nil, fld_dot]
theorem eK_4 (e : E) (h : e.1 = 4) : eK e = eDef e.2.2.2.2.2.2.2.2.1 := by
  unfold eK
  rw [h, show (hasB 4).data.toList = [100] from rfl]
  simp only [List.flatMap_cons, List.flatMap_nil, List.append_nil, fld_d]
theorem eK_5 (e : E) (h : e.1 = 5) : eK e = eRules e.2.2.2.2.2.2.2.2.2.1 := by
  unfold eK
  rw [h, show (hasB 5).data.toList = [114] from rfl]
  simp only [List.flatMap_cons, List.flatMap_nil, List.append_nil, fld_r]
theorem eK_6 (e : E) (h : e.1 = 6) : eK e = eGrants e.2.2.2.2.2.2.2.2.2.2.1 := by
  unfold eK
  rw [h, show (hasB 6).data.toList = [103] from rfl]
  simp only [List.flatMap_cons, List.flatMap_nil, List.append_nil, fld_g]
theorem eK_7 (e : E) (h : e.1 = 7) : eK e = eT e.2.2.2.1 ++ (eVer e.2.2.2.2.2.1) := by
  unfold eK
  rw [h, show (hasB 7).data.toList = [107, 118] from rfl]
  simp only [List.flatMap_cons, List.flatMap_nil, List.append_nil, fld_k, fld_v]
theorem eK_8 (e : E) (h : e.1 = 8) : eK e = eT e.2.2.2.1 ++ (eN e.2.2.2.2.1) := by
  unfold eK
  rw [h, show (hasB 8).data.toList = [107, 105] from rfl]
  simp only [List.flatMap_cons, List.flatMap_nil, List.append_nil, fld_k, fld_i]
theorem eK_9 (e : E) (h : e.1 = 9) : eK e = eT e.2.2.2.1 ++ (eN e.2.2.2.2.1 ++ (eLock e.2.2.2.2.2.2.1)) := by
  unfold eK
  rw [h, show (hasB 9).data.toList = [107, 105, 108] from rfl]
  simp only [List.flatMap_cons, List.flatMap_nil, List.append_nil, fld_k, fld_i, fld_l]
theorem eK_10 (e : E) (h : e.1 = 10) : eK e = eT e.2.2.2.1 ++ (eN e.2.2.2.2.1 ++ (eTags e.2.2.2.2.2.2.2.1)) := by
  unfold eK
  rw [h, show (hasB 10).data.toList = [107, 105, 116] from rfl]
  simp only [List.flatMap_cons, List.flatMap_nil, List.append_nil, fld_k, fld_i, fld_t]
theorem eK_11 (e : E) (h : e.1 = 11) : eK e = eT e.2.2.2.1 ++ (eN e.2.2.2.2.1 ++ (eTags e.2.2.2.2.2.2.2.1)) := by
  unfold eK
  rw [h, show (hasB 11).data.toList = [107, 105, 116] from rfl]
  simp only [List.flatMap_cons, List.flatMap_nil, List.append_nil, fld_k, fld_i, fld_t]
theorem eK_12 (e : E) (h : e.1 = 12) : eK e = eN e.2.2.2.2.1 ++ (ePart e.2.2.2.2.2.2.2.2.2.2.2.1) := by
  unfold eK
  rw [h, show (hasB 12).data.toList = [105, 112] from rfl]
  simp only [List.flatMap_cons, List.flatMap_nil, List.append_nil, fld_i, fld_p]
theorem eK_13 (e : E) (h : e.1 = 13) : eK e = eN e.2.2.2.2.1 := by
  unfold eK
  rw [h, show (hasB 13).data.toList = [105] from rfl]
  simp only [List.flatMap_cons, List.flatMap_nil, List.append_nil, fld_i]
theorem eK_other (e : E) (h : ¬ (1 ≤ e.1 ∧ e.1 ≤ 13)) : eK e = [] := by
  have hh : hasB e.1 = ⟨#[]⟩ := by
    unfold hasB
    rw [if_neg (by omega), if_neg (by omega), if_neg (by omega), if_neg (by omega), if_neg (by omega), if_neg (by omega), if_neg (by omega), if_neg (by omega), if_neg (by omega), if_neg (by omega)]
  unfold eK
  rw [hh]; rfl
theorem wK_1 {n : Nat} (hn : 300 ≤ n) (hn2 : n ≤ 536870912) (w : List Int) (v : D_entry_Reader) {e : E} (he : EB n e) (hr : ER e) (hk : w.length + (eK e).length ≤ 70368744177664) (h : e.1 = 1) :
    F_entry_Writer_entry.J1 n (v, e, (w, ()), ()) = some ((w ++ eK e, ()), ()) := by
  have c4 : (e.1 == 4) = false := by rw [h]; rfl
  have c5 : (e.1 == 5) = false := by rw [h]; rfl
  have c6 : (e.1 == 6) = false := by rw [h]; rfl
  have c7 : (e.1 == 7) = false := by rw [h]; rfl
  have c8 : (e.1 == 8) = false := by rw [h]; rfl
  have c9 : (e.1 == 9) = false := by rw [h]; rfl
  have c10 : (e.1 == 10) = false := by rw [h]; rfl
  have c11 : (e.1 == 11) = false := by rw [h]; rfl
  have c12 : (e.1 == 12) = false := by rw [h]; rfl
  have c13 : (e.1 == 13) = false := by rw [h]; rfl
  rw [eK_1 e h] at hk ⊢
  try simp only [List.length_append] at hk
  simp only [F_entry_Writer_entry.e1, F_entry_Writer_entry.e2, hide_eq, c4, c5, c6, c7, c8, c9, c10, c11, c12, c13, bIf_true, bIf_false]
  rw [List.append_nil]
theorem wK_2 {n : Nat} (hn : 300 ≤ n) (hn2 : n ≤ 536870912) (w : List Int) (v : D_entry_Reader) {e : E} (he : EB n e) (hr : ER e) (hk : w.length + (eK e).length ≤ 70368744177664) (h : e.1 = 2) :
    F_entry_Writer_entry.J1 n (v, e, (w, ()), ()) = some ((w ++ eK e, ()), ()) := by
  have c4 : (e.1 == 4) = false := by rw [h]; rfl
  have c5 : (e.1 == 5) = false := by rw [h]; rfl
  have c6 : (e.1 == 6) = false := by rw [h]; rfl
  have c7 : (e.1 == 7) = false := by rw [h]; rfl
  have c8 : (e.1 == 8) = false := by rw [h]; rfl
  have c9 : (e.1 == 9) = false := by rw [h]; rfl
  have c10 : (e.1 == 10) = false := by rw [h]; rfl
  have c11 : (e.1 == 11) = false := by rw [h]; rfl
  have c12 : (e.1 == 12) = false := by rw [h]; rfl
  have c13 : (e.1 == 13) = false := by rw [h]; rfl
  rw [eK_2 e h] at hk ⊢
  try simp only [List.length_append] at hk
  simp only [F_entry_Writer_entry.e1, F_entry_Writer_entry.e2, hide_eq, c4, c5, c6, c7, c8, c9, c10, c11, c12, c13, bIf_true, bIf_false]
  rw [List.append_nil]
theorem wK_3 {n : Nat} (hn : 300 ≤ n) (hn2 : n ≤ 536870912) (w : List Int) (v : D_entry_Reader) {e : E} (he : EB n e) (hr : ER e) (hk : w.length + (eK e).length ≤ 70368744177664) (h : e.1 = 3) :
    F_entry_Writer_entry.J1 n (v, e, (w, ()), ()) = some ((w ++ eK e, ()), ()) := by
  have c4 : (e.1 == 4) = false := by rw [h]; rfl
  have c5 : (e.1 == 5) = false := by rw [h]; rfl
  have c6 : (e.1 == 6) = false := by rw [h]; rfl
  have c7 : (e.1 == 7) = false := by rw [h]; rfl
  have c8 : (e.1 == 8) = false := by rw [h]; rfl
  have c9 : (e.1 == 9) = false := by rw [h]; rfl
  have c10 : (e.1 == 10) = false := by rw [h]; rfl
  have c11 : (e.1 == 11) = false := by rw [h]; rfl
  have c12 : (e.1 == 12) = false := by rw [h]; rfl
  have c13 : (e.1 == 13) = false := by rw [h]; rfl
  rw [eK_3 e h] at hk ⊢
  try simp only [List.length_append] at hk
  simp only [F_entry_Writer_entry.e1, F_entry_Writer_entry.e2, hide_eq, c4, c5, c6, c7, c8, c9, c10, c11, c12, c13, bIf_true, bIf_false]
  rw [List.append_nil]
theorem wK_4 {n : Nat} (hn : 300 ≤ n) (hn2 : n ≤ 536870912) (w : List Int) (v : D_entry_Reader) {e : E} (he : EB n e) (hr : ER e) (hk : w.length + (eK e).length ≤ 70368744177664) (h : e.1 = 4) :
    F_entry_Writer_entry.J1 n (v, e, (w, ()), ()) = some ((w ++ eK e, ()), ()) := by
  have c4 : (e.1 == 4) = true := by rw [h]; rfl
  have c5 : (e.1 == 5) = false := by rw [h]; rfl
  have c6 : (e.1 == 6) = false := by rw [h]; rfl
  have c7 : (e.1 == 7) = false := by rw [h]; rfl
  have c8 : (e.1 == 8) = false := by rw [h]; rfl
  have c9 : (e.1 == 9) = false := by rw [h]; rfl
  have c10 : (e.1 == 10) = false := by rw [h]; rfl
  have c11 : (e.1 == 11) = false := by rw [h]; rfl
  have c12 : (e.1 == 12) = false := by rw [h]; rfl
  have c13 : (e.1 == 13) = false := by rw [h]; rfl
  rw [eK_4 e h] at hk ⊢
  try simp only [List.length_append] at hk
  simp only [F_entry_Writer_entry.e1, F_entry_Writer_entry.e2, hide_eq, c4, c5, c6, c7, c8, c9, c10, c11, c12, c13, bIf_true, bIf_false]
  rw [wDef hn _ () (by first | omega | (simp only [List.length_append]; omega)), bnd_some]
  try dsimp only
  try simp only [List.append_assoc]
theorem wK_5 {n : Nat} (hn : 300 ≤ n) (hn2 : n ≤ 536870912) (w : List Int) (v : D_entry_Reader) {e : E} (he : EB n e) (hr : ER e) (hk : w.length + (eK e).length ≤ 70368744177664) (h : e.1 = 5) :
    F_entry_Writer_entry.J1 n (v, e, (w, ()), ()) = some ((w ++ eK e, ()), ()) := by
  have c4 : (e.1 == 4) = false := by rw [h]; rfl
  have c5 : (e.1 == 5) = true := by rw [h]; rfl
  have c6 : (e.1 == 6) = false := by rw [h]; rfl
  have c7 : (e.1 == 7) = false := by rw [h]; rfl
  have c8 : (e.1 == 8) = false := by rw [h]; rfl
  have c9 : (e.1 == 9) = false := by rw [h]; rfl
  have c10 : (e.1 == 10) = false := by rw [h]; rfl
  have c11 : (e.1 == 11) = false := by rw [h]; rfl
  have c12 : (e.1 == 12) = false := by rw [h]; rfl
  have c13 : (e.1 == 13) = false := by rw [h]; rfl
  rw [eK_5 e h] at hk ⊢
  try simp only [List.length_append] at hk
  simp only [F_entry_Writer_entry.e1, F_entry_Writer_entry.e2, hide_eq, c4, c5, c6, c7, c8, c9, c10, c11, c12, c13, bIf_true, bIf_false]
  rw [wRules hn _ () he.rules hn2 (by first | omega | (simp only [List.length_append]; omega)), bnd_some]
  try dsimp only
  try simp only [List.append_assoc]
theorem wK_6 {n : Nat} (hn : 300 ≤ n) (hn2 : n ≤ 536870912) (w : List Int) (v : D_entry_Reader) {e : E} (he : EB n e) (hr : ER e) (hk : w.length + (eK e).length ≤ 70368744177664) (h : e.1 = 6) :
    F_entry_Writer_entry.J1 n (v, e, (w, ()), ()) = some ((w ++ eK e, ()), ()) := by
  have c4 : (e.1 == 4) = false := by rw [h]; rfl
  have c5 : (e.1 == 5) = false := by rw [h]; rfl
  have c6 : (e.1 == 6) = true := by rw [h]; rfl
  have c7 : (e.1 == 7) = false := by rw [h]; rfl
  have c8 : (e.1 == 8) = false := by rw [h]; rfl
  have c9 : (e.1 == 9) = false := by rw [h]; rfl
  have c10 : (e.1 == 10) = false := by rw [h]; rfl
  have c11 : (e.1 == 11) = false := by rw [h]; rfl
  have c12 : (e.1 == 12) = false := by rw [h]; rfl
  have c13 : (e.1 == 13) = false := by rw [h]; rfl
  rw [eK_6 e h] at hk ⊢
  try simp only [List.length_append] at hk
  simp only [F_entry_Writer_entry.e1, F_entry_Writer_entry.e2, hide_eq, c4, c5, c6, c7, c8, c9, c10, c11, c12, c13, bIf_true, bIf_false]
  rw [wGrants hn _ () he.grants hn2 (by first | omega | (simp only [List.length_append]; omega)), bnd_some]
  try dsimp only
  try simp only [List.append_assoc]
theorem wK_7 {n : Nat} (hn : 300 ≤ n) (hn2 : n ≤ 536870912) (w : List Int) (v : D_entry_Reader) {e : E} (he : EB n e) (hr : ER e) (hk : w.length + (eK e).length ≤ 70368744177664) (h : e.1 = 7) :
    F_entry_Writer_entry.J1 n (v, e, (w, ()), ()) = some ((w ++ eK e, ()), ()) := by
  have c4 : (e.1 == 4) = false := by rw [h]; rfl
  have c5 : (e.1 == 5) = false := by rw [h]; rfl
  have c6 : (e.1 == 6) = false := by rw [h]; rfl
  have c7 : (e.1 == 7) = true := by rw [h]; rfl
  have c8 : (e.1 == 8) = false := by rw [h]; rfl
  have c9 : (e.1 == 9) = false := by rw [h]; rfl
  have c10 : (e.1 == 10) = false := by rw [h]; rfl
  have c11 : (e.1 == 11) = false := by rw [h]; rfl
  have c12 : (e.1 == 12) = false := by rw [h]; rfl
  have c13 : (e.1 == 13) = false := by rw [h]; rfl
  rw [eK_7 e h] at hk ⊢
  try simp only [List.length_append] at hk
  simp only [F_entry_Writer_entry.e1, F_entry_Writer_entry.e2, hide_eq, c4, c5, c6, c7, c8, c9, c10, c11, c12, c13, bIf_true, bIf_false]
  rw [wText hn _ () (by first | omega | (simp only [List.length_append]; omega)), bnd_some]
  try dsimp only
  rw [wVer hn _ () hr.vid hr.vmade hr.vblob hr.vlock he.ver.tags.1 hn2 (by first | omega | (simp only [List.length_append]; omega)), bnd_some]
  try dsimp only
  try simp only [List.append_assoc]
theorem wK_8 {n : Nat} (hn : 300 ≤ n) (hn2 : n ≤ 536870912) (w : List Int) (v : D_entry_Reader) {e : E} (he : EB n e) (hr : ER e) (hk : w.length + (eK e).length ≤ 70368744177664) (h : e.1 = 8) :
    F_entry_Writer_entry.J1 n (v, e, (w, ()), ()) = some ((w ++ eK e, ()), ()) := by
  have c4 : (e.1 == 4) = false := by rw [h]; rfl
  have c5 : (e.1 == 5) = false := by rw [h]; rfl
  have c6 : (e.1 == 6) = false := by rw [h]; rfl
  have c7 : (e.1 == 7) = false := by rw [h]; rfl
  have c8 : (e.1 == 8) = true := by rw [h]; rfl
  have c9 : (e.1 == 9) = false := by rw [h]; rfl
  have c10 : (e.1 == 10) = false := by rw [h]; rfl
  have c11 : (e.1 == 11) = false := by rw [h]; rfl
  have c12 : (e.1 == 12) = false := by rw [h]; rfl
  have c13 : (e.1 == 13) = false := by rw [h]; rfl
  rw [eK_8 e h] at hk ⊢
  try simp only [List.length_append] at hk
  simp only [F_entry_Writer_entry.e1, F_entry_Writer_entry.e2, hide_eq, c4, c5, c6, c7, c8, c9, c10, c11, c12, c13, bIf_true, bIf_false]
  rw [wText hn _ () (by first | omega | (simp only [List.length_append]; omega)), bnd_some]
  try dsimp only
  rw [wNum hn _ () hr.id (by first | omega | (simp only [List.length_append]; omega)), bnd_some]
  try dsimp only
  try simp only [List.append_assoc]
theorem wK_9 {n : Nat} (hn : 300 ≤ n) (hn2 : n ≤ 536870912) (w : List Int) (v : D_entry_Reader) {e : E} (he : EB n e) (hr : ER e) (hk : w.length + (eK e).length ≤ 70368744177664) (h : e.1 = 9) :
    F_entry_Writer_entry.J1 n (v, e, (w, ()), ()) = some ((w ++ eK e, ()), ()) := by
  have c4 : (e.1 == 4) = false := by rw [h]; rfl
  have c5 : (e.1 == 5) = false := by rw [h]; rfl
  have c6 : (e.1 == 6) = false := by rw [h]; rfl
  have c7 : (e.1 == 7) = false := by rw [h]; rfl
  have c8 : (e.1 == 8) = false := by rw [h]; rfl
  have c9 : (e.1 == 9) = true := by rw [h]; rfl
  have c10 : (e.1 == 10) = false := by rw [h]; rfl
  have c11 : (e.1 == 11) = false := by rw [h]; rfl
  have c12 : (e.1 == 12) = false := by rw [h]; rfl
  have c13 : (e.1 == 13) = false := by rw [h]; rfl
  rw [eK_9 e h] at hk ⊢
  try simp only [List.length_append] at hk
  simp only [F_entry_Writer_entry.e1, F_entry_Writer_entry.e2, hide_eq, c4, c5, c6, c7, c8, c9, c10, c11, c12, c13, bIf_true, bIf_false]
  rw [wText hn _ () (by first | omega | (simp only [List.length_append]; omega)), bnd_some]
  try dsimp only
  rw [wNum hn _ () hr.id (by first | omega | (simp only [List.length_append]; omega)), bnd_some]
  try dsimp only
  rw [wLock hn _ () hr.lock (by first | omega | (simp only [List.length_append]; omega)), bnd_some]
  try dsimp only
  try simp only [List.append_assoc]
theorem wK_10 {n : Nat} (hn : 300 ≤ n) (hn2 : n ≤ 536870912) (w : List Int) (v : D_entry_Reader) {e : E} (he : EB n e) (hr : ER e) (hk : w.length + (eK e).length ≤ 70368744177664) (h : e.1 = 10) :
    F_entry_Writer_entry.J1 n (v, e, (w, ()), ()) = some ((w ++ eK e, ()), ()) := by
  have c4 : (e.1 == 4) = false := by rw [h]; rfl
  have c5 : (e.1 == 5) = false := by rw [h]; rfl
  have c6 : (e.1 == 6) = false := by rw [h]; rfl
  have c7 : (e.1 == 7) = false := by rw [h]; rfl
  have c8 : (e.1 == 8) = false := by rw [h]; rfl
  have c9 : (e.1 == 9) = false := by rw [h]; rfl
  have c10 : (e.1 == 10) = true := by rw [h]; rfl
  have c11 : (e.1 == 11) = false := by rw [h]; rfl
  have c12 : (e.1 == 12) = false := by rw [h]; rfl
  have c13 : (e.1 == 13) = false := by rw [h]; rfl
  rw [eK_10 e h] at hk ⊢
  try simp only [List.length_append] at hk
  simp only [F_entry_Writer_entry.e1, F_entry_Writer_entry.e2, hide_eq, c4, c5, c6, c7, c8, c9, c10, c11, c12, c13, bIf_true, bIf_false]
  rw [wText hn _ () (by first | omega | (simp only [List.length_append]; omega)), bnd_some]
  try dsimp only
  rw [wNum hn _ () hr.id (by first | omega | (simp only [List.length_append]; omega)), bnd_some]
  try dsimp only
  rw [wTags hn _ () he.tags.1 hn2 (by first | omega | (simp only [List.length_append]; omega)), bnd_some]
  try dsimp only
  try simp only [List.append_assoc]
theorem wK_11 {n : Nat} (hn : 300 ≤ n) (hn2 : n ≤ 536870912) (w : List Int) (v : D_entry_Reader) {e : E} (he : EB n e) (hr : ER e) (hk : w.length + (eK e).length ≤ 70368744177664) (h : e.1 = 11) :
    F_entry_Writer_entry.J1 n (v, e, (w, ()), ()) = some ((w ++ eK e, ()), ()) := by
  have c4 : (e.1 == 4) = false := by rw [h]; rfl
  have c5 : (e.1 == 5) = false := by rw [h]; rfl
  have c6 : (e.1 == 6) = false := by rw [h]; rfl
  have c7 : (e.1 == 7) = false := by rw [h]; rfl
  have c8 : (e.1 == 8) = false := by rw [h]; rfl
  have c9 : (e.1 == 9) = false := by rw [h]; rfl
  have c10 : (e.1 == 10) = false := by rw [h]; rfl
  have c11 : (e.1 == 11) = true := by rw [h]; rfl
  have c12 : (e.1 == 12) = false := by rw [h]; rfl
  have c13 : (e.1 == 13) = false := by rw [h]; rfl
  rw [eK_11 e h] at hk ⊢
  try simp only [List.length_append] at hk
  simp only [F_entry_Writer_entry.e1, F_entry_Writer_entry.e2, hide_eq, c4, c5, c6, c7, c8, c9, c10, c11, c12, c13, bIf_true, bIf_false]
  rw [wText hn _ () (by first | omega | (simp only [List.length_append]; omega)), bnd_some]
  try dsimp only
  rw [wNum hn _ () hr.id (by first | omega | (simp only [List.length_append]; omega)), bnd_some]
  try dsimp only
  rw [wTags hn _ () he.tags.1 hn2 (by first | omega | (simp only [List.length_append]; omega)), bnd_some]
  try dsimp only
  try simp only [List.append_assoc]
theorem wK_12 {n : Nat} (hn : 300 ≤ n) (hn2 : n ≤ 536870912) (w : List Int) (v : D_entry_Reader) {e : E} (he : EB n e) (hr : ER e) (hk : w.length + (eK e).length ≤ 70368744177664) (h : e.1 = 12) :
    F_entry_Writer_entry.J1 n (v, e, (w, ()), ()) = some ((w ++ eK e, ()), ()) := by
  have c4 : (e.1 == 4) = false := by rw [h]; rfl
  have c5 : (e.1 == 5) = false := by rw [h]; rfl
  have c6 : (e.1 == 6) = false := by rw [h]; rfl
  have c7 : (e.1 == 7) = false := by rw [h]; rfl
  have c8 : (e.1 == 8) = false := by rw [h]; rfl
  have c9 : (e.1 == 9) = false := by rw [h]; rfl
  have c10 : (e.1 == 10) = false := by rw [h]; rfl
  have c11 : (e.1 == 11) = false := by rw [h]; rfl
  have c12 : (e.1 == 12) = true := by rw [h]; rfl
  have c13 : (e.1 == 13) = false := by rw [h]; rfl
  rw [eK_12 e h] at hk ⊢
  try simp only [List.length_append] at hk
  simp only [F_entry_Writer_entry.e1, F_entry_Writer_entry.e2, hide_eq, c4, c5, c6, c7, c8, c9, c10, c11, c12, c13, bIf_true, bIf_false]
  rw [wNum hn _ () hr.id (by first | omega | (simp only [List.length_append]; omega)), bnd_some]
  try dsimp only
  rw [wPart hn _ () hr.pblob (by first | omega | (simp only [List.length_append]; omega)), bnd_some]
  try dsimp only
  try simp only [List.append_assoc]
theorem wK_13 {n : Nat} (hn : 300 ≤ n) (hn2 : n ≤ 536870912) (w : List Int) (v : D_entry_Reader) {e : E} (he : EB n e) (hr : ER e) (hk : w.length + (eK e).length ≤ 70368744177664) (h : e.1 = 13) :
    F_entry_Writer_entry.J1 n (v, e, (w, ()), ()) = some ((w ++ eK e, ()), ()) := by
  have c4 : (e.1 == 4) = false := by rw [h]; rfl
  have c5 : (e.1 == 5) = false := by rw [h]; rfl
  have c6 : (e.1 == 6) = false := by rw [h]; rfl
  have c7 : (e.1 == 7) = false := by rw [h]; rfl
  have c8 : (e.1 == 8) = false := by rw [h]; rfl
  have c9 : (e.1 == 9) = false := by rw [h]; rfl
  have c10 : (e.1 == 10) = false := by rw [h]; rfl
  have c11 : (e.1 == 11) = false := by rw [h]; rfl
  have c12 : (e.1 == 12) = false := by rw [h]; rfl
  have c13 : (e.1 == 13) = true := by rw [h]; rfl
  rw [eK_13 e h] at hk ⊢
  try simp only [List.length_append] at hk
  simp only [F_entry_Writer_entry.e1, F_entry_Writer_entry.e2, hide_eq, c4, c5, c6, c7, c8, c9, c10, c11, c12, c13, bIf_true, bIf_false]
  rw [wNum hn _ () hr.id (by first | omega | (simp only [List.length_append]; omega)), bnd_some]
  try dsimp only
  try simp only [List.append_assoc]
theorem wK {n : Nat} (hn : 300 ≤ n) (hn2 : n ≤ 536870912) (w : List Int) (v : D_entry_Reader) {e : E} (he : EB n e) (hr : ER e) (hk : w.length + (eK e).length ≤ 70368744177664) :
    F_entry_Writer_entry.J1 n (v, e, (w, ()), ()) = some ((w ++ eK e, ()), ()) := by
  by_cases hk' : 1 ≤ e.1 ∧ e.1 ≤ 13
  · have : e.1 = 1 ∨ e.1 = 2 ∨ e.1 = 3 ∨ e.1 = 4 ∨ e.1 = 5 ∨ e.1 = 6 ∨ e.1 = 7 ∨ e.1 = 8 ∨ e.1 = 9 ∨ e.1 = 10 ∨ e.1 = 11 ∨ e.1 = 12 ∨ e.1 = 13 := by omega
    rcases this with h | h | h | h | h | h | h | h | h | h | h | h | h
    · exact wK_1 hn hn2 w v he hr hk h
    · exact wK_2 hn hn2 w v he hr hk h
    · exact wK_3 hn hn2 w v he hr hk h
    · exact wK_4 hn hn2 w v he hr hk h
    · exact wK_5 hn hn2 w v he hr hk h
    · exact wK_6 hn hn2 w v he hr hk h
    · exact wK_7 hn hn2 w v he hr hk h
    · exact wK_8 hn hn2 w v he hr hk h
    · exact wK_9 hn hn2 w v he hr hk h
    · exact wK_10 hn hn2 w v he hr hk h
    · exact wK_11 hn hn2 w v he hr hk h
    · exact wK_12 hn hn2 w v he hr hk h
    · exact wK_13 hn hn2 w v he hr hk h
  · rw [eK_other e hk', List.append_nil]
    have c4 : (e.1 == 4) = false := by rw [beq_eq_false_iff_ne]; omega
    have c5 : (e.1 == 5) = false := by rw [beq_eq_false_iff_ne]; omega
    have c6 : (e.1 == 6) = false := by rw [beq_eq_false_iff_ne]; omega
    have c7 : (e.1 == 7) = false := by rw [beq_eq_false_iff_ne]; omega
    have c8 : (e.1 == 8) = false := by rw [beq_eq_false_iff_ne]; omega
    have c9 : (e.1 == 9) = false := by rw [beq_eq_false_iff_ne]; omega
    have c10 : (e.1 == 10) = false := by rw [beq_eq_false_iff_ne]; omega
    have c11 : (e.1 == 11) = false := by rw [beq_eq_false_iff_ne]; omega
    have c12 : (e.1 == 12) = false := by rw [beq_eq_false_iff_ne]; omega
    have c13 : (e.1 == 13) = false := by rw [beq_eq_false_iff_ne]; omega
    simp only [F_entry_Writer_entry.e1, F_entry_Writer_entry.e2, hide_eq, c4, c5, c6, c7, c8, c9, c10, c11, c12, c13, bIf_true, bIf_false]
theorem eE_eq (e : E) : eE e = eW e.1 ++ (eI e.2.1 ++ ((if e.1 = 1 then [] else eT e.2.2.1) ++ eK e)) := rfl
theorem wE {n : Nat} (hn : 300 ≤ n) (hn2 : n ≤ 536870912) (w : List Int) (u : Unit) {e : E} (he : EB n e) (hr : ER e) (h : w.length + (eE e).length ≤ 70368744177664) :
    F_entry_Writer_entry.f n (w, u) e = some ((w ++ eE e, ()), ()) := by
  rw [F_entry_Writer_entry.e0]
  rw [eE_eq] at h ⊢
  simp only [List.length_append] at h
  try dsimp only
  rw [wW hn _ () (by omega), bnd_some]
  try dsimp only
  rw [wInt hn _ () hr.time (by first | omega | (simp only [List.length_append]; omega)), bnd_some]
  try dsimp only
  by_cases h1 : e.1 = 1
  · rw [hide_eq, show (e.1 != 1) = false by rw [h1]; rfl, bIf_false, wK hn hn2 _ _ he hr (by first | omega | (simp only [List.length_append]; omega)), if_pos h1]
    simp only [List.append_assoc, List.nil_append]
  · rw [if_neg h1] at h ⊢
    rw [hide_eq, show (e.1 != 1) = true by rw [bne, beq_eq_false_iff_ne.2 h1]; rfl, bIf_true, wText hn _ () (by first | omega | (simp only [List.length_append]; omega)), bnd_some]
    try dsimp only
    rw [wK hn hn2 _ _ he hr (by first | omega | (simp only [List.length_append]; omega))]
    simp only [List.append_assoc]
end Go.Proofs.YtcpkhpboemfglaaGreatDoor

