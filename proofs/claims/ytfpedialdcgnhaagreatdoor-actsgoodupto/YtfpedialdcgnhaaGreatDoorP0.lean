/-
  The plain laws.
-/
import Derived.Test.YtfpedialdcgnhaaGreatDoorF0
import Derived.Test.YtfpedialdcgnhaaGreatDoorVaPlain
import Derived.Lib.MapLaws
set_option linter.unusedVariables false
set_option linter.unusedSimpArgs false
namespace Go.Proofs.YtfpedialdcgnhaaGreatDoor
open Go Go.Va Go.Proofs
def ok32 (b : UInt8) : Bool := decide (32 ≤ b.toNat) && decide (b.toNat ≠ 127)
def cleanB (s : ByteArray) : Bool := s.data.toList.all ok32 && Lib.validD s.data.toList
theorem bnd_some {α β : Type} (a : α) (f : α → Option β) : bnd (some a) f = f a := rfl
theorem all_drop (l : List UInt8) (k : Nat) (h : k < l.length) : (l.drop k).all ok32 = (ok32 (l.getD k 0) && (l.drop (k + 1)).all ok32) := by
  rw [List.drop_eq_getElem_cons h, List.all_cons, List.getD_eq_getElem?_getD, List.getElem?_eq_getElem h]
  rfl
theorem ok32_hi {b : UInt8} (h : 128 ≤ b.toNat) : ok32 b = true := by
  unfold ok32; rw [decide_eq_true (by omega), decide_eq_true (by omega)]; rfl
theorem getD_dropA (l : List UInt8) (k i : Nat) : (l.drop k).getD i 0 = l.getD (k + i) 0 := by
  rw [List.getD_eq_getElem?_getD, List.getD_eq_getElem?_getD, List.getElem?_drop]
theorem bt_nat (s : ByteArray) (k : Nat) : bt s (k : Int) = ((s.data.toList.getD k 0).toNat : Int) := rfl
theorem clean42_J (n : Nat) (s : ByteArray) (hs : s.size ≤ 1073741824) : ∀ (m k : Nat), k ≤ s.size → s.size - k < m →
    F_label_Clean.J1 n m (s, ofBytes s, (((ofBytes s).length : Nat) : Int), (k : Int), ()) = some ((s.data.toList.drop k).all ok32 && Lib.validD s.data.toList, ())
  | 0, k, _, h => by omega
  | m + 1, k, hk, h => by
    have hsz := size_eq s
    have hl := size_of s
    rw [F_label_Clean.e1]
    simp only [hide_eq, bIf_eq, gIf_eq, Nat.zero_add]
    by_cases hlt : k < s.size
    · rw [if_pos (decide_eq_true (by omega)), if_pos ⟨by omega, by omega⟩, all_drop _ _ (by omega), wrap_i64 (by omega)]
      have hb : (ofBytes s).getD (k : Int).toNat 0 = ((s.data.toList.getD k 0).toNat : Int) := by rw [← bt_getD]; rfl
      rw [hb]
      have ih := clean42_J n s hs m (k + 1) (by omega) (by omega)
      rw [show (((k + 1 : Nat) : Int)) = (k : Int) + 1 by omega] at ih
      rw [ih]
      generalize s.data.toList.getD k 0 = b
      unfold ok32
      by_cases h1 : b.toNat < 32
      · rw [if_pos (decide_eq_true (by omega)), decide_eq_false (by omega)]; rfl
      · rw [if_neg (by simp; omega), decide_eq_true (by omega)]
        by_cases h2 : b.toNat = 127
        · rw [if_pos (by rw [beq_iff_eq]; omega), decide_eq_false (by omega)]; rfl
        · rw [if_neg (by rw [beq_iff_eq]; omega), decide_eq_true (by omega)]; simp
    · rw [if_neg (by simp; omega)]
      have hkk : k = s.size := by omega
      subst hkk
      rw [hsz, List.drop_length]
      rw [F_label_Clean.e2]
      unfold F_unicode_utf8_ValidString.f
      rw [if_pos (by omega), bnd_some]
      rfl
theorem clean42 {n : Nat} {s : ByteArray} (hs : s.size ≤ 1073741824) (hn : s.size < n) : F_label_Clean.f n s = some (cleanB s, ()) := by
  rw [F_label_Clean.e0]
  change F_label_Clean.J1 n n (s, ofBytes s, (((ofBytes s).length : Nat) : Int), ((0 : Nat) : Int), ()) = _
  rw [clean42_J n s hs n 0 (by omega) (by omega)]
  rfl
theorem step7 (n m : Nat) (r1 : Nat) (s : ByteArray) (hs : s.size ≤ 1073741824) (k : Nat) (hk : k ≤ s.size) (w : Nat) (hw : w ≤ 4) (r : Nat) (hr : r < 1048576) (least : Int) (i : Nat) (hi : i < w) :
    F_ref06_Clean.J7 n r1 (m + 1) (s, (k : Int), (w : Int), (r : Int), least, (i : Int), ()) =
      if k + i < s.size then
        if (s.data.toList.getD (k + i) 0).toNat / 64 = 2 then F_ref06_Clean.J7 n r1 m (s, (k : Int), (w : Int), ((r * 64 + (s.data.toList.getD (k + i) 0).toNat % 64 : Nat) : Int), least, ((i + 1 : Nat) : Int), ())
        else some (false, ())
      else some (false, ()) := by
  rw [F_ref06_Clean.e7]
  simp only [hide_eq, bIf_eq, gIf_eq]
  rw [if_pos (decide_eq_true (by omega)), wrap_i64 (x := (k : Int) + (i : Int)) (by omega)]
  rw [show ((k : Int) + (i : Int)) = ((k + i : Nat) : Int) by omega, bt_nat]
  have hb := (s.data.toList.getD (k + i) 0).toNat_lt
  generalize hB : (s.data.toList.getD (k + i) 0).toNat = b at hb ⊢
  by_cases h1 : k + i < s.size
  · rw [if_neg (by simp; omega), if_pos ⟨by omega, by omega⟩, if_pos h1]
    by_cases h2 : b / 64 = 2
    · rw [if_neg (by simp; omega), if_pos ⟨by omega, by omega⟩, if_neg (by simp; omega), if_pos h2, F_ref06_Clean.e8]
      simp only [gIf_eq]
      rw [wrap_i64 (x := (k : Int) + (i : Int)) (by omega), show ((k : Int) + (i : Int)) = ((k + i : Nat) : Int) by omega, bt_nat, hB, if_pos ⟨by omega, by omega⟩, F_ref06_Clean.e9]
      rw [wrap_i64 (x := (i : Int) + 1) (by omega), wrap_i64 (x := (r : Int) * 64) (by omega), wrap_i64 (x := (b : Int)) (by omega), wrap_i64 (x := (r : Int) * 64 + (b : Int)) (by omega), wrap_i64 (by omega)]
      rw [show ((r : Int) * 64 + (b : Int) - 128) = ((r * 64 + b % 64 : Nat) : Int) by omega]
      rfl
    · rw [if_neg h2]
      by_cases h3 : b < 128
      · rw [if_pos (decide_eq_true (by omega))]
      · rw [if_neg (by simp; omega), if_pos ⟨by omega, by omega⟩, if_pos (decide_eq_true (by omega))]
  · rw [if_pos (decide_eq_true (by omega)), if_neg h1]
theorem end7 (n m : Nat) (r1 : Nat) (s : ByteArray) (hs : s.size ≤ 1073741824) (k : Nat) (hk : k ≤ s.size) (w : Nat) (hw : w ≤ 4) (r : Nat) (least : Nat) :
    F_ref06_Clean.J7 n r1 (m + 1) (s, (k : Int), (w : Int), (r : Int), (least : Int), (w : Int), ()) =
      if least ≤ r ∧ r ≤ 1114111 ∧ ¬ (55296 ≤ r ∧ r ≤ 57343) then F_ref06_Clean.J1 n r1 (s, ((k + w : Nat) : Int), ()) else some (false, ()) := by
  rw [F_ref06_Clean.e7]
  simp only [hide_eq, bIf_eq, gIf_eq]
  rw [if_neg (by simp), F_ref06_Clean.e10]
  simp only [hide_eq, bIf_eq, gIf_eq]
  have e : F_ref06_Clean.J11 n r1 (s, (k : Int), (w : Int), ()) = F_ref06_Clean.J1 n r1 (s, ((k + w : Nat) : Int), ()) := by
    rw [F_ref06_Clean.e11]
    rw [wrap_i64 (by omega)]; congr 2
  rw [e]
  by_cases h1 : r < least
  · rw [if_pos (decide_eq_true (by omega)), if_neg (by omega)]
  · rw [if_neg (by simp; omega)]
    by_cases h2 : 1114111 < r
    · rw [if_pos (decide_eq_true (by omega)), if_neg (by omega)]
    · rw [if_neg (by simp; omega)]
      by_cases h3 : 55296 ≤ r
      · rw [if_pos (decide_eq_true (by omega))]
        by_cases h4 : r ≤ 57343
        · rw [if_pos (decide_eq_true (by omega)), if_neg (by omega)]
        · rw [if_neg (by simp; omega), if_pos (by omega)]
      · rw [if_neg (by simp; omega), if_pos (by omega)]
theorem sign44 (q : Nat) (r1 : Nat) (s : ByteArray) (hs : s.size ≤ 1073741824) (k : Nat) (hk : k < s.size) (b : Nat) (w : Nat) (hw : 1 ≤ w ∧ w ≤ 4) (r : Nat) (hr : r < 128) (least : Nat) :
    F_ref06_Clean.J5 (q + 5) r1 (s, (k : Int), (b : Int), (w : Int), (r : Int), (least : Int), ()) = if 32 ≤ b ∧ b ≠ 127 then F_ref06_Clean.J7 (q + 5) r1 (q + 4 + 1) (s, (k : Int), (w : Int), (r : Int), (least : Int), ((1 : Nat) : Int), ()) else some (false, ()) := by
  rw [F_ref06_Clean.e5]
  simp only [hide_eq, bIf_eq, gIf_eq]
  by_cases h1 : b < 32
  · rw [if_pos (decide_eq_true (by omega)), if_neg (by omega)]
  · rw [if_neg (by simp; omega)]
    by_cases h2 : b = 127
    · rw [if_pos (by rw [beq_iff_eq]; omega), if_neg (by omega)]
    · rw [if_neg (by rw [beq_iff_eq]; omega), if_pos (by omega)]
      rw [F_ref06_Clean.e6]; rfl
theorem round44 (n m : Nat) (s : ByteArray) (hs : s.size ≤ 1073741824) (k : Nat) (hk : k < s.size) (b : Nat) (hb : (s.data.toList.getD k 0).toNat = b) :
    F_ref06_Clean.J1 n (m + 1) (s, (k : Int), ()) =
      if b < 128 then F_ref06_Clean.J5 n m (s, (k : Int), (b : Int), ((1 : Nat) : Int), (b : Int), ((0 : Nat) : Int), ())
      else if 192 ≤ b ∧ b < 224 then F_ref06_Clean.J5 n m (s, (k : Int), (b : Int), ((2 : Nat) : Int), ((b - 192 : Nat) : Int), ((128 : Nat) : Int), ())
      else if 224 ≤ b ∧ b < 240 then F_ref06_Clean.J5 n m (s, (k : Int), (b : Int), ((3 : Nat) : Int), ((b - 224 : Nat) : Int), ((2048 : Nat) : Int), ())
      else if 240 ≤ b ∧ b < 248 then F_ref06_Clean.J5 n m (s, (k : Int), (b : Int), ((4 : Nat) : Int), ((b - 240 : Nat) : Int), ((65536 : Nat) : Int), ())
      else some (false, ()) := by
  have hb2 := (s.data.toList.getD k 0).toNat_lt
  rw [F_ref06_Clean.e1]
  simp only [hide_eq, bIf_eq, gIf_eq]
  rw [bt_nat, hb, wrap_i64 (by omega), if_pos (decide_eq_true (by omega)), if_pos ⟨by omega, by omega⟩]
  by_cases h1 : b < 128
  · rw [if_pos (decide_eq_true (by omega)), if_pos h1]; rfl
  · rw [if_neg (by simp; omega), if_neg h1]
    have hS2 : ∀ t : Bool, F_ref06_Clean.J2 n m (s, (k : Int), (b : Int), t, ()) = if t = true then F_ref06_Clean.J5 n m (s, (k : Int), (b : Int), 2, (IntKind.i64.wrap ((b : Int) - 192)), 128, ()) else if decide ((b : Int) ≥ 224) = true then F_ref06_Clean.J3 n m (s, (k : Int), (b : Int), decide ((b : Int) < 240), ()) else F_ref06_Clean.J3 n m (s, (k : Int), (b : Int), false, ()) := by
      intro t; rw [F_ref06_Clean.e2]; simp only [hide_eq, bIf_eq, gIf_eq]
    have hS3 : ∀ t : Bool, F_ref06_Clean.J3 n m (s, (k : Int), (b : Int), t, ()) = if t = true then F_ref06_Clean.J5 n m (s, (k : Int), (b : Int), 3, (IntKind.i64.wrap ((b : Int) - 224)), 2048, ()) else if decide ((b : Int) ≥ 240) = true then F_ref06_Clean.J4 n m (s, (k : Int), (b : Int), decide ((b : Int) < 248), ()) else F_ref06_Clean.J4 n m (s, (k : Int), (b : Int), false, ()) := by
      intro t; rw [F_ref06_Clean.e3]; simp only [hide_eq, bIf_eq, gIf_eq]
    have hS4 : ∀ t : Bool, F_ref06_Clean.J4 n m (s, (k : Int), (b : Int), t, ()) = if t = true then F_ref06_Clean.J5 n m (s, (k : Int), (b : Int), 4, (IntKind.i64.wrap ((b : Int) - 240)), 65536, ()) else some (false, ()) := by
      intro t; rw [F_ref06_Clean.e4]; simp only [hide_eq, bIf_eq, gIf_eq]
    simp only [hS2, hS3, hS4]
    by_cases h2 : 192 ≤ b ∧ b < 224
    · rw [if_pos (decide_eq_true (by omega)), if_pos (decide_eq_true (by omega)), if_pos h2, wrap_i64 (by omega), show ((b : Int) - 192) = ((b - 192 : Nat) : Int) by omega]; rfl
    · rw [if_neg h2]
      by_cases h3 : 224 ≤ b ∧ b < 240
      · rw [if_pos (decide_eq_true (by omega)), if_neg (by simp; omega), if_pos (decide_eq_true (by omega)), if_pos (decide_eq_true (by omega)), if_pos h3, wrap_i64 (x := (b : Int) - 224) (by omega), show ((b : Int) - 224) = ((b - 224 : Nat) : Int) by omega]; rfl
      · rw [if_neg h3]
        by_cases h4 : 240 ≤ b ∧ b < 248
        · rw [if_pos (decide_eq_true (by omega)), if_neg (by simp; omega), if_pos (decide_eq_true (by omega)), if_neg (by simp; omega), if_pos (decide_eq_true (by omega)), if_pos (decide_eq_true (by omega)), if_pos h4, wrap_i64 (x := (b : Int) - 240) (by omega), show ((b : Int) - 240) = ((b - 240 : Nat) : Int) by omega]; rfl
        · rw [if_neg h4]
          split <;> (simp only [decide_eq_true_eq, Bool.false_eq_true, if_false, ge_iff_le]; repeat' split) <;> first | rfl | (exfalso; simp_all; omega) | (exfalso; omega)
theorem clean44_J (q : Nat) (s : ByteArray) (hs : s.size ≤ 1073741824) : ∀ (m k : Nat), k ≤ s.size → s.size - k < m →
    F_ref06_Clean.J1 (q + 5) m (s, (k : Int), ()) = some ((s.data.toList.drop k).all ok32 && Lib.validD (s.data.toList.drop k), ())
  | 0, k, _, h => by omega
  | m + 1, k, hk, h => by
    have hsz := size_eq s
    by_cases hlt : k < s.size
    · obtain ⟨b, hb⟩ : ∃ b, (s.data.toList.getD k 0).toNat = b := ⟨_, rfl⟩
      have hb0 := (s.data.toList.getD k 0).toNat_lt
      have hb1 := (s.data.toList.getD (k + 1) 0).toNat_lt
      have hb2 := (s.data.toList.getD (k + 2) 0).toNat_lt
      have hb3 := (s.data.toList.getD (k + 3) 0).toNat_lt
      have ih1 := fun h' => clean44_J q s hs m (k + 1) h' (by omega)
      have ih2 := fun h' => clean44_J q s hs m (k + 2) h' (by omega)
      have ih3 := fun h' => clean44_J q s hs m (k + 3) h' (by omega)
      have ih4 := fun h' => clean44_J q s hs m (k + 4) h' (by omega)
      rw [round44 (q + 5) m s hs k hlt b hb]
      have hne : s.data.toList.drop k ≠ [] := by
        intro e; have := congrArg List.length e; rw [List.length_drop] at this; simp at this; omega
      rw [Lib.validD_step _ hne, Lib.decodeL_N, List.length_drop, ← hsz]
      simp only [getD_dropA, List.drop_drop, Nat.add_zero]
      have a1 := fun h' => all_drop s.data.toList (k + 1) h'
      have a2 := fun h' => all_drop s.data.toList (k + 2) h'
      have a3 := fun h' => all_drop s.data.toList (k + 3) h'
      rw [all_drop s.data.toList k (by omega)]
      have o0 : 128 ≤ b → ok32 (s.data.toList.getD k 0) = true := fun h' => ok32_hi (by omega)
      have o1 : 128 ≤ (s.data.toList.getD (k + 1) 0).toNat → ok32 (s.data.toList.getD (k + 1) 0) = true := fun h' => ok32_hi h'
      have o2 : 128 ≤ (s.data.toList.getD (k + 2) 0).toNat → ok32 (s.data.toList.getD (k + 2) 0) = true := fun h' => ok32_hi h'
      have o3 : 128 ≤ (s.data.toList.getD (k + 3) 0).toNat → ok32 (s.data.toList.getD (k + 3) 0) = true := fun h' => ok32_hi h'
      have s1 := fun (w : Nat) hw r hr least hi => step7 (q + 5) (q + 4) m s hs k hk w hw r hr least 1 hi
      have s2 := fun (w : Nat) hw r hr least hi => step7 (q + 5) (q + 3) m s hs k hk w hw r hr least 2 hi
      have s3 := fun (w : Nat) hw r hr least hi => step7 (q + 5) (q + 2) m s hs k hk w hw r hr least 3 hi
      rw [hb] at hb0 ⊢
      generalize (s.data.toList.getD (k + 1) 0).toNat = b1 at hb1 o1 s1 ⊢
      generalize (s.data.toList.getD (k + 2) 0).toNat = b2 at hb2 o2 s2 ⊢
      generalize (s.data.toList.getD (k + 3) 0).toNat = b3 at hb3 o3 s3 ⊢
      obtain ⟨D, hD⟩ : ∃ D, Lib.decodeN (s.size - k) b b1 b2 b3 = D := ⟨_, rfl⟩
      rw [hD]
      unfold Lib.decodeN at hD
      have hbad : D = (65533, 1) → ∀ x y : Bool, (some (x && y && (if D.1 = 65533 ∧ D.2 = 1 then false else Lib.validD (s.data.toList.drop (k + D.2))), ()) : Option F_ref06_Clean.R) = some (false, ()) := by
        rintro rfl x y; rw [if_pos ⟨rfl, rfl⟩, Bool.and_false]
      have hgood : ∀ r w, D = (r, w) → w ≠ 1 ∨ r ≠ 65533 → (if D.1 = 65533 ∧ D.2 = 1 then false else Lib.validD (s.data.toList.drop (k + D.2))) = Lib.validD (s.data.toList.drop (k + w)) := by
        rintro r w rfl h'; rw [if_neg (by simp only; omega)]
      by_cases h1 : b < 128
      · rw [if_pos h1] at hD
        rw [if_pos h1, sign44 q m s hs k hlt b 1 (by omega) b h1 0, end7 (q + 5) (q + 4) m s hs k hk 1 (by omega) b 0]
        rw [hgood b 1 hD.symm (by omega), if_pos (by omega : 0 ≤ b ∧ b ≤ 1114111 ∧ ¬ (55296 ≤ b ∧ b ≤ 57343)), ih1 (by omega)]
        unfold ok32
        rw [hb]
        by_cases hc : 32 ≤ b ∧ b ≠ 127
        · rw [if_pos hc, decide_eq_true hc.1, decide_eq_true hc.2]; rfl
        · rw [if_neg hc]
          have : (decide (32 ≤ b) && decide (b ≠ 127)) = false := by simp; omega
          rw [this]; rfl
      · rw [if_neg h1] at hD ⊢
        rw [o0 (by omega)]
        by_cases h2 : 192 ≤ b ∧ b < 224
        · rw [if_pos h2, sign44 q m s hs k hlt b 2 (by omega) (b - 192) (by omega) 128, if_pos (by omega), s1 2 (by omega) (b - 192) (by omega) _ (by omega), end7 (q + 5) (q + 3) m s hs k hk 2 (by omega)]
          by_cases c : k + 1 < s.size ∧ b1 / 64 = 2
          · rw [if_pos ⟨by omega, by omega, c.2⟩] at hD
            rw [if_pos c.1, if_pos c.2]
            have er : (b - 192) * 64 + b1 % 64 = b % 32 * 64 + b1 % 64 := by omega
            rw [er]
            have hrr : b % 32 * 64 + b1 % 64 < 2048 := by omega
            generalize b % 32 * 64 + b1 % 64 = rr at hD hrr ⊢
            by_cases c3 : rr ≥ 128
            · rw [if_pos c3] at hD
              rw [if_pos (by omega : 128 ≤ rr ∧ rr ≤ 1114111 ∧ ¬ (55296 ≤ rr ∧ rr ≤ 57343)), hgood _ _ hD.symm (by omega), ih2 (by omega), a1 (by omega), o1 (by omega)]; rfl
            · rw [if_neg c3] at hD
              rw [if_neg (by omega : ¬ (128 ≤ rr ∧ rr ≤ 1114111 ∧ ¬ (55296 ≤ rr ∧ rr ≤ 57343))), hbad hD.symm]
          · rw [if_neg (by omega), if_neg (by omega), if_neg (by omega)] at hD
            rw [hbad hD.symm]
            by_cases c3 : k + 1 < s.size
            · rw [if_pos c3, if_neg (by omega)]
            · rw [if_neg c3]
        · rw [if_neg h2]
          rw [if_neg (by omega)] at hD
          by_cases h3 : 224 ≤ b ∧ b < 240
          · rw [if_pos h3, sign44 q m s hs k hlt b 3 (by omega) (b - 224) (by omega) 2048, if_pos (by omega), s1 3 (by omega) (b - 224) (by omega) _ (by omega)]
            by_cases c1 : k + 1 < s.size ∧ b1 / 64 = 2
            · rw [if_pos c1.1, if_pos c1.2, s2 3 (by omega) _ (by omega) _ (by omega), end7 (q + 5) (q + 2) m s hs k hk 3 (by omega)]
              by_cases c2 : k + 2 < s.size ∧ b2 / 64 = 2
              · rw [if_pos ⟨by omega, ⟨by omega, c1.2⟩, by omega, c2.2⟩] at hD
                rw [if_pos c2.1, if_pos c2.2]
                have er : ((b - 224) * 64 + b1 % 64) * 64 + b2 % 64 = b % 16 * 4096 + b1 % 64 * 64 + b2 % 64 := by omega
                rw [er]
                generalize b % 16 * 4096 + b1 % 64 * 64 + b2 % 64 = rr at hD ⊢
                by_cases c3 : rr ≥ 2048 ∧ (rr < 55296 ∨ 57344 ≤ rr ∧ rr ≤ 1114111)
                · rw [if_pos c3] at hD
                  rw [if_pos (by omega : 2048 ≤ rr ∧ rr ≤ 1114111 ∧ ¬ (55296 ≤ rr ∧ rr ≤ 57343)), hgood _ _ hD.symm (by omega), ih3 (by omega), a1 (by omega), o1 (by omega), a2 (by omega), o2 (by omega)]; rfl
                · rw [if_neg c3] at hD
                  rw [if_neg (by omega : ¬ (2048 ≤ rr ∧ rr ≤ 1114111 ∧ ¬ (55296 ≤ rr ∧ rr ≤ 57343))), hbad hD.symm]
              · rw [if_neg (by omega), if_neg (by omega)] at hD
                rw [hbad hD.symm]
                by_cases c3 : k + 2 < s.size
                · rw [if_pos c3, if_neg (by omega)]
                · rw [if_neg c3]
            · rw [if_neg (by omega), if_neg (by omega)] at hD
              rw [hbad hD.symm]
              by_cases c3 : k + 1 < s.size
              · rw [if_pos c3, if_neg (by omega)]
              · rw [if_neg c3]
          · rw [if_neg h3]
            rw [if_neg (by omega)] at hD
            by_cases h4 : 240 ≤ b ∧ b < 248
            · rw [if_pos h4, sign44 q m s hs k hlt b 4 (by omega) (b - 240) (by omega) 65536, if_pos (by omega), s1 4 (by omega) (b - 240) (by omega) _ (by omega)]
              by_cases c1 : k + 1 < s.size ∧ b1 / 64 = 2
              · rw [if_pos c1.1, if_pos c1.2, s2 4 (by omega) _ (by omega) _ (by omega)]
                by_cases c2 : k + 2 < s.size ∧ b2 / 64 = 2
                · rw [if_pos c2.1, if_pos c2.2, s3 4 (by omega) _ (by omega) _ (by omega), end7 (q + 5) (q + 1) m s hs k hk 4 (by omega)]
                  by_cases c5 : k + 3 < s.size ∧ b3 / 64 = 2
                  · rw [if_pos ⟨by omega, ⟨by omega, c1.2⟩, ⟨by omega, c2.2⟩, by omega, c5.2⟩] at hD
                    rw [if_pos c5.1, if_pos c5.2]
                    have er : (((b - 240) * 64 + b1 % 64) * 64 + b2 % 64) * 64 + b3 % 64 = b % 8 * 262144 + b1 % 64 * 4096 + b2 % 64 * 64 + b3 % 64 := by omega
                    rw [er]
                    generalize b % 8 * 262144 + b1 % 64 * 4096 + b2 % 64 * 64 + b3 % 64 = rr at hD ⊢
                    by_cases c3 : rr ≥ 65536 ∧ (rr < 55296 ∨ 57344 ≤ rr ∧ rr ≤ 1114111)
                    · rw [if_pos c3] at hD
                      rw [if_pos (by omega : 65536 ≤ rr ∧ rr ≤ 1114111 ∧ ¬ (55296 ≤ rr ∧ rr ≤ 57343)), hgood _ _ hD.symm (by omega), ih4 (by omega), a1 (by omega), o1 (by omega), a2 (by omega), o2 (by omega), a3 (by omega), o3 (by omega)]; rfl
                    · rw [if_neg c3] at hD
                      rw [if_neg (by omega : ¬ (65536 ≤ rr ∧ rr ≤ 1114111 ∧ ¬ (55296 ≤ rr ∧ rr ≤ 57343))), hbad hD.symm]
                  · rw [if_neg (by omega)] at hD
                    rw [hbad hD.symm]
                    by_cases c3 : k + 3 < s.size
                    · rw [if_pos c3, if_neg (by omega)]
                    · rw [if_neg c3]
                · rw [if_neg (by omega)] at hD
                  rw [hbad hD.symm]
                  by_cases c3 : k + 2 < s.size
                  · rw [if_pos c3, if_neg (by omega)]
                  · rw [if_neg c3]
              · rw [if_neg (by omega)] at hD
                rw [hbad hD.symm]
                by_cases c3 : k + 1 < s.size
                · rw [if_pos c3, if_neg (by omega)]
                · rw [if_neg c3]
            · rw [if_neg (by omega)] at hD
              rw [if_neg h4, hbad hD.symm]
    · have hkk : k = s.size := by omega
      subst hkk
      rw [F_ref06_Clean.e1]
      simp only [hide_eq, bIf_eq, gIf_eq]
      rw [if_neg (by simp), hsz, List.drop_length]
      rw [F_ref06_Clean.e12]; rfl
theorem clean44 {n : Nat} {s : ByteArray} (hs : s.size ≤ 1073741824) (hn : s.size < n) (h5 : 5 ≤ n) : F_ref06_Clean.f n s = some (cleanB s, ()) := by
  obtain ⟨q, rfl⟩ : ∃ q, n = q + 5 := ⟨n - 5, by omega⟩
  rw [F_ref06_Clean.e0]
  change F_ref06_Clean.J1 (q + 5) (q + 5) (s, ((0 : Nat) : Int), ()) = _
  rw [clean44_J q s hs (q + 5) 0 (by omega) (by omega)]
  rfl
end Go.Proofs.YtfpedialdcgnhaaGreatDoor
namespace Go.Proofs.YtfpedialdcgnhaaGreatDoor
open Go Go.Va Go.Proofs
theorem ba_beq (a b : ByteArray) : (a == b) = decide (a = b) := by
  change (a.data == b.data) = _
  by_cases h : a = b
  · subst h; simp
  · rw [decide_eq_false h]
    exact beq_false_of_ne (fun e => h (by cases a; cases b; exact congrArg _ e))
theorem eqS_eq (a b : ByteArray) : eqS a b = (a == b) := by
  unfold eqS
  rw [Lib.toList_data, Lib.toList_data, ba_beq]
  by_cases h : a = b
  · subst h; simp
  · rw [decide_eq_false h]
    exact beq_false_of_ne (fun e => h (by cases a; cases b; simp at e; rw [e]))
def clampI (t : Int) : Int := if t < -62135596800 then -62135596800 else if t > 253402300799 then 253402300799 else t
theorem clamp33 (n : Nat) (t : Int) : F_when_Clamp.f n t = some (clampI t, ()) := by
  rw [F_when_Clamp.e0]
  unfold clampI maxI minI
  congr 2
  repeat' split
  all_goals omega
theorem clamp36 (n : Nat) (t : Int) : F_ref05_Clamp.f n t = some (clampI t, ()) := by
  rw [F_ref05_Clamp.e0]
  unfold clampI
  simp only [hide_eq, bIf_eq, decide_eq_true_eq]
  repeat' split
  all_goals first | rfl | omega
def lockB (l : D_api_Lock) : Bool :=
  if l.1 = 0 then l.2.1 == 0 else if l.1 = 1 ∨ l.1 = 2 then l.2.1 == clampI l.2.1 else false
theorem lock34 (n : Nat) (l : D_api_Lock) : F_mode_Sound.f n l = some (lockB l, ()) := by
  rw [F_mode_Sound.e0]
  unfold lockB
  simp only [hide_eq, bIf_eq, F_mode_Sound.e1, clamp33, bnd_some, beq_iff_eq]
  by_cases h0 : l.1 = 0
  · rw [if_pos h0, if_pos h0]
  · rw [if_neg h0, if_neg h0]
    by_cases h1 : l.1 = 1
    · rw [if_pos h1, if_pos (c := l.1 = 1 ∨ l.1 = 2) (.inl h1)]; rfl
    · rw [if_neg h1]
      by_cases h2 : l.1 = 2
      · rw [if_pos h2, if_pos (c := l.1 = 1 ∨ l.1 = 2) (.inr h2)]
      · rw [if_neg h2, if_neg (c := l.1 = 1 ∨ l.1 = 2) (not_or.2 ⟨h1, h2⟩)]
theorem lock37 (n : Nat) (l : D_api_Lock) : F_ref12_Sound.f n l = some (lockB l, ()) := by
  rw [F_ref12_Sound.e0]
  unfold lockB
  simp only [hide_eq, bIf_eq, clamp36, bnd_some, beq_iff_eq]
  by_cases h0 : l.1 = 0
  · rw [if_pos h0, if_pos h0]
  · rw [if_neg h0, if_neg h0]
    by_cases h1 : l.1 = 1
    · rw [if_pos h1, if_pos (c := l.1 = 1 ∨ l.1 = 2) (.inl h1), BEq.comm]
    · rw [if_neg h1]
      by_cases h2 : l.1 = 2
      · rw [if_pos h2, if_pos (c := l.1 = 1 ∨ l.1 = 2) (.inr h2), BEq.comm]
      · rw [if_neg h2, if_neg (c := l.1 = 1 ∨ l.1 = 2) (not_or.2 ⟨h1, h2⟩)]
theorem size0 (s : ByteArray) : eqS s ⟨#[]⟩ = decide (s.size = 0) := by
  rw [eqS_eq, ba_beq]
  by_cases h : s = ⟨#[]⟩
  · subst h; rfl
  · rw [decide_eq_false h, decide_eq_false]
    intro h2
    apply h
    cases s with | mk d =>
    have : d = #[] := Array.eq_empty_of_size_eq_zero h2
    rw [this]
def tagB (t : D_api_Tag) : Bool := decide (1 ≤ t.1.size) && (decide (t.1.size ≤ 64) && (decide (t.2.1.size ≤ 64) && (cleanB t.1 && cleanB t.2.1)))
def TB (n : Nat) (t : D_api_Tag) : Prop := t.1.size < n ∧ t.2.1.size < n
theorem tag47 {n : Nat} {t : D_api_Tag} (h : TB n t) (hn : n ≤ 536870912) : F_tags_good.f n t = some (tagB t, ()) := by
  rw [F_tags_good.e0]
  unfold tagB
  rw [clean42 (by have := h.1; omega) h.1, clean42 (by have := h.2; omega) h.2, size0]
  simp only [hide_eq, bIf_eq, bnd_some]
  have e1 : decide ((t.1.size : Int) ≤ 64) = decide (t.1.size ≤ 64) := decide_eq_decide.2 (by omega)
  have e2 : decide ((t.2.1.size : Int) ≤ 64) = decide (t.2.1.size ≤ 64) := decide_eq_decide.2 (by omega)
  have e0 : (!decide (t.1.size = 0)) = decide (1 ≤ t.1.size) := by
    by_cases h0 : t.1.size = 0
    · rw [decide_eq_true h0, decide_eq_false (by omega)]; rfl
    · rw [decide_eq_false h0, decide_eq_true (by omega)]; rfl
  rw [e0, e1, e2]
  cases decide (1 ≤ t.1.size) <;> cases decide (t.1.size ≤ 64) <;> cases decide (t.2.1.size ≤ 64) <;> cases cleanB t.1 <;> simp
def chk {α : Type} (p : α → Bool) (q : α → α → Bool) : Option α → List α → Bool
  | _, [] => true
  | none, x :: l => p x && chk p q (some x) l
  | some y, x :: l => p x && (q y x && chk p q (some x) l)
def prev {α : Type} (l : List α) (k : Nat) : Option α := if k = 0 then none else l[k - 1]?
theorem chk_zero {α : Type} {p : α → Bool} {q : α → α → Bool} {l : List α} {d : α} (h : 0 < l.length) : chk p q (prev l 0) (l.drop 0) = (p (l.getD 0 d) && chk p q (prev l 1) (l.drop 1)) := by
  cases l with
  | nil => simp at h
  | cons x r => rfl
theorem chk_succ {α : Type} {p : α → Bool} {q : α → α → Bool} {l : List α} {d : α} {k : Nat} (h0 : 0 < k) (h : k < l.length) : chk p q (prev l k) (l.drop k) = (p (l.getD k d) && (q (l.getD (k - 1) d) (l.getD k d) && chk p q (prev l (k + 1)) (l.drop (k + 1)))) := by
  rw [List.drop_eq_getElem_cons h]
  unfold prev
  rw [if_neg (by omega), if_neg (by omega), List.getElem?_eq_getElem (by omega), Nat.add_sub_cancel, List.getElem?_eq_getElem h]
  rw [List.getD_eq_getElem?_getD, List.getD_eq_getElem?_getD, List.getElem?_eq_getElem h, List.getElem?_eq_getElem (by omega)]
  rfl
theorem chk_end {α : Type} {p : α → Bool} {q : α → α → Bool} {l : List α} {k : Nat} (h : l.length ≤ k) (o : Option α) : chk p q o (l.drop k) = true := by
  rw [List.drop_eq_nil_of_le h]; cases o <;> rfl
theorem getD_memA {α : Type} {l : List α} {k : Nat} {d : α} (h : k < l.length) : l.getD k d ∈ l := by
  rw [List.getD_eq_getElem?_getD, List.getElem?_eq_getElem h]; exact List.getElem_mem h
def tagsB (l : List (D_api_Tag)) : Bool := decide (l.length ≤ 8) && chk tagB (fun a b => ltS a.1 b.1) none l
def TsB (n : Nat) (l : List (D_api_Tag)) : Prop := l.length < n ∧ ∀ t ∈ l, TB n t
theorem tags35_J (n : Nat) (hn : n ≤ 536870912) (l : List (D_api_Tag)) (hl : TsB n l) : ∀ (m k : Nat), k ≤ l.length → l.length - k < m →
    F_tags_Sound.J1 n m (l, l, ((l.length : Nat) : Int), (k : Int), ()) = some (chk tagB (fun a b => ltS a.1 b.1) (prev l k) (l.drop k), ())
  | 0, k, _, h => by omega
  | m + 1, k, hk, h => by
    have hl1 := hl.1
    rw [F_tags_Sound.e1]
    simp only [hide_eq, bIf_eq, gIf_eq]
    by_cases hlt : k < l.length
    · have ih := tags35_J n hn l hl m (k + 1) (by omega) (by omega)
      rw [if_pos (decide_eq_true (by omega)), if_pos ⟨by omega, by omega⟩, Int.toNat_natCast, tag47 (hl.2 _ (getD_memA hlt)) hn, bnd_some, wrap_i64 (x := (k : Int) + 1) (by omega), show ((k : Int) + 1) = ((k + 1 : Nat) : Int) by omega, ih]
      by_cases h0 : k = 0
      · subst h0
        rw [chk_zero (d := Va.dflt T_api_Tag) (by omega), if_neg (c := decide (((0 : Nat) : Int) > 0) = true) (by simp)]
        cases tagB (l.getD 0 (Va.dflt T_api_Tag)) <;> simp
      · rw [chk_succ (d := Va.dflt T_api_Tag) (by omega) hlt, if_pos (c := decide ((k : Int) > 0) = true) (decide_eq_true (by omega)), wrap_i64 (by omega), if_pos (show 0 ≤ (k : Int) - 1 ∧ (k : Int) - 1 < ((l.length : Nat) : Int) from ⟨by omega, by omega⟩), show ((k : Int) - 1).toNat = k - 1 by omega]
        cases tagB (l.getD k (Va.dflt T_api_Tag)) <;> cases ltS (l.getD (k - 1) (Va.dflt T_api_Tag)).1 (l.getD k (Va.dflt T_api_Tag)).1 <;> simp
    · rw [if_neg (by simp; omega), chk_end (by omega)]
      rw [F_tags_Sound.e2]
theorem tags35 {n : Nat} (hn : n ≤ 536870912) {l : List (D_api_Tag)} (hl : TsB n l) : F_tags_Sound.f n l = some (tagsB l, ()) := by
  have h := tags35_J n hn l hl n 0 (by omega) (by have := hl.1; omega)
  rw [F_tags_Sound.e0]
  unfold tagsB
  simp only [hide_eq, bIf_eq]
  by_cases h8 : l.length ≤ 8
  · rw [if_neg (by simp; omega), decide_eq_true h8]
    exact h
  · rw [if_pos (decide_eq_true (by omega)), decide_eq_false h8]; rfl
theorem less_tri : ∀ x y : List UInt8, Op.bytesLess x y = !(Op.bytesLess y x || y == x)
  | [], [] => rfl
  | [], _ :: _ => rfl
  | _ :: _, [] => rfl
  | a :: x, b :: y => by
    have ih := less_tri x y
    simp only [Op.bytesLess, List.cons_beq_cons, ih]
    by_cases h : a = b
    · subst h
      simp
    · have h1 : (a == b) = false := beq_false_of_ne h
      have h2 : (b == a) = false := beq_false_of_ne (fun e => h e.symm)
      rw [h1, h2]
      simp only [Bool.false_and, Bool.or_false]
      have h3 : ¬ a.toNat = b.toNat := fun e => h (UInt8.toNat_inj.1 e)
      have h4 : decide (a < b) = decide (a.toNat < b.toNat) := decide_eq_decide.2 UInt8.lt_iff_toNat_lt
      have h5 : decide (b < a) = decide (b.toNat < a.toNat) := decide_eq_decide.2 UInt8.lt_iff_toNat_lt
      rw [h4, h5]
      by_cases h6 : a.toNat < b.toNat
      · rw [decide_eq_true h6, decide_eq_false (by omega)]; rfl
      · rw [decide_eq_false h6, decide_eq_true (by omega)]; rfl
theorem ltS_tri (a b : ByteArray) : ltS a b = !(ltS b a || eqS b a) := less_tri _ _
theorem tags38_J (n : Nat) (hn : n ≤ 536870912) (h5 : 5 ≤ n) (l : List (D_api_Tag)) (hl : TsB n l) : ∀ (m k : Nat), k ≤ l.length → l.length - k < m →
    F_ref08_Sound.J1 n m (l, (k : Int), ()) = some (chk tagB (fun a b => ltS a.1 b.1) (prev l k) (l.drop k), ())
  | 0, k, _, h => by omega
  | m + 1, k, hk, h => by
    have hl1 := hl.1
    rw [F_ref08_Sound.e1]
    simp only [hide_eq, bIf_eq, gIf_eq]
    by_cases hlt : k < l.length
    · have ih := tags38_J n hn h5 l hl m (k + 1) (by omega) (by omega)
      have hg : (0 ≤ (k : Int) ∧ (k : Int) < ((l.length : Nat) : Int)) := ⟨by omega, by omega⟩
      obtain ⟨hb1, hb2⟩ := hl.2 _ (getD_memA (d := Va.dflt T_api_Tag) hlt)
      rw [if_pos (decide_eq_true (by omega))]
      simp only [if_pos hg, Int.toNat_natCast]
      rw [clean44 (by omega) hb1 h5, clean44 (by omega) hb2 h5, bnd_some, bnd_some, F_ref08_Sound.e2]
      simp only [hide_eq, bIf_eq, gIf_eq, F_ref08_Sound.e3, if_pos hg, Int.toNat_natCast]
      rw [wrap_i64 (x := (k : Int) + 1) (by omega), show ((k : Int) + 1) = ((k + 1 : Nat) : Int) by omega, ih]
      have hx : chk tagB (fun a b => ltS a.1 b.1) (prev l k) (l.drop k) = (tagB (l.getD k (Va.dflt T_api_Tag)) && ((if k = 0 then true else ltS (l.getD (k - 1) (Va.dflt T_api_Tag)).1 (l.getD k (Va.dflt T_api_Tag)).1) && chk tagB (fun a b => ltS a.1 b.1) (prev l (k + 1)) (l.drop (k + 1)))) := by
        by_cases h0 : k = 0
        · subst h0
          rw [chk_zero (d := Va.dflt T_api_Tag) (by omega), if_pos rfl, Bool.true_and]
        · rw [chk_succ (d := Va.dflt T_api_Tag) (by omega) hlt, if_neg h0]
      rw [hx]
      have g1 : decide (((l.getD k (Va.dflt T_api_Tag)).1.size : Int) < 1) = !decide (1 ≤ (l.getD k (Va.dflt T_api_Tag)).1.size) := by
        by_cases h0 : 1 ≤ (l.getD k (Va.dflt T_api_Tag)).1.size
        · rw [decide_eq_true h0, decide_eq_false (by omega)]; rfl
        · rw [decide_eq_false h0, decide_eq_true (by omega)]; rfl
      have g2 : decide (((l.getD k (Va.dflt T_api_Tag)).1.size : Int) > 64) = !decide ((l.getD k (Va.dflt T_api_Tag)).1.size ≤ 64) := by
        by_cases h0 : (l.getD k (Va.dflt T_api_Tag)).1.size ≤ 64
        · rw [decide_eq_true h0, decide_eq_false (by omega)]; rfl
        · rw [decide_eq_false h0, decide_eq_true (by omega)]; rfl
      have g3 : decide (((l.getD k (Va.dflt T_api_Tag)).2.1.size : Int) > 64) = !decide ((l.getD k (Va.dflt T_api_Tag)).2.1.size ≤ 64) := by
        by_cases h0 : (l.getD k (Va.dflt T_api_Tag)).2.1.size ≤ 64
        · rw [decide_eq_true h0, decide_eq_false (by omega)]; rfl
        · rw [decide_eq_false h0, decide_eq_true (by omega)]; rfl
      simp only [g1, g2, g3]
      have hy : (if decide ((k : Int) > 0) = true then if 0 ≤ IntKind.i64.wrap ((k : Int) - 1) ∧ IntKind.i64.wrap ((k : Int) - 1) < ((l.length : Nat) : Int) then if (ltS (l.getD k (Va.dflt T_api_Tag)).1 (l.getD (IntKind.i64.wrap ((k : Int) - 1)).toNat (Va.dflt T_api_Tag)).1 || eqS (l.getD k (Va.dflt T_api_Tag)).1 (l.getD (IntKind.i64.wrap ((k : Int) - 1)).toNat (Va.dflt T_api_Tag)).1) = true then some (false, ()) else some (chk tagB (fun a b => ltS a.1 b.1) (prev l (k + 1)) (l.drop (k + 1)), ()) else none else (some (chk tagB (fun a b => ltS a.1 b.1) (prev l (k + 1)) (l.drop (k + 1)), ()) : Option F_ref08_Sound.R)) =
          some ((if k = 0 then true else ltS (l.getD (k - 1) (Va.dflt T_api_Tag)).1 (l.getD k (Va.dflt T_api_Tag)).1) && chk tagB (fun a b => ltS a.1 b.1) (prev l (k + 1)) (l.drop (k + 1)), ()) := by
        by_cases h0 : k = 0
        · rw [if_neg (by simp; omega), if_pos h0]; rfl
        · rw [if_pos (decide_eq_true (by omega)), if_neg h0, wrap_i64 (by omega), if_pos (show 0 ≤ (k : Int) - 1 ∧ (k : Int) - 1 < ((l.length : Nat) : Int) from ⟨by omega, by omega⟩), show ((k : Int) - 1).toNat = k - 1 by omega, ltS_tri (l.getD (k - 1) (Va.dflt T_api_Tag)).1 (l.getD k (Va.dflt T_api_Tag)).1]
          cases (ltS (l.getD k (Va.dflt T_api_Tag)).1 (l.getD (k - 1) (Va.dflt T_api_Tag)).1 || eqS (l.getD k (Va.dflt T_api_Tag)).1 (l.getD (k - 1) (Va.dflt T_api_Tag)).1) <;> simp
      simp only [hy]
      unfold tagB
      cases decide (1 ≤ (l.getD k (Va.dflt T_api_Tag)).1.size) <;> cases decide ((l.getD k (Va.dflt T_api_Tag)).1.size ≤ 64) <;> cases decide ((l.getD k (Va.dflt T_api_Tag)).2.1.size ≤ 64) <;> cases cleanB (l.getD k (Va.dflt T_api_Tag)).1 <;> cases cleanB (l.getD k (Va.dflt T_api_Tag)).2.1 <;> simp
    · rw [if_neg (by simp; omega), chk_end (by omega)]
      rw [F_ref08_Sound.e4]
theorem tags38 {n : Nat} (hn : n ≤ 536870912) (h5 : 5 ≤ n) {l : List (D_api_Tag)} (hl : TsB n l) : F_ref08_Sound.f n l = some (tagsB l, ()) := by
  have h := tags38_J n hn h5 l hl n 0 (by omega) (by have := hl.1; omega)
  rw [F_ref08_Sound.e0]
  unfold tagsB
  simp only [hide_eq, bIf_eq]
  by_cases h8 : l.length ≤ 8
  · rw [if_neg (by simp; omega), decide_eq_true h8]
    exact h
  · rw [if_pos (decide_eq_true (by omega)), decide_eq_false h8]; rfl
def allB {α : Type} (q : α → α → Bool) : List α → List α → Bool
  | [], [] => true
  | x :: a, y :: b => q x y && allB q a b
  | _, _ => false
def sameT (a b : D_api_Tag) : Bool := eqS a.1 b.1 && eqS a.2.1 b.2.1
def keyB (s : ByteArray) : Bool := decide (1 ≤ s.size) && (decide (s.size ≤ 200) && cleanB s)
theorem key24 {n : Nat} {s : ByteArray} (hs : s.size < n) (hn : n ≤ 536870912) : F_label_Key.f n s = some (keyB s, ()) := by
  rw [F_label_Key.e0]
  unfold keyB
  rw [clean42 (by omega) hs, size0]
  simp only [hide_eq, bIf_eq, bnd_some]
  have e1 : decide ((s.size : Int) ≤ 200) = decide (s.size ≤ 200) := decide_eq_decide.2 (by omega)
  have e0 : (!decide (s.size = 0)) = decide (1 ≤ s.size) := by
    by_cases h0 : s.size = 0
    · rw [decide_eq_true h0, decide_eq_false (by omega)]; rfl
    · rw [decide_eq_false h0, decide_eq_true (by omega)]; rfl
  rw [e0, e1]
  cases decide (1 ≤ s.size) <;> cases decide (s.size ≤ 200) <;> simp
theorem key30 {n : Nat} {s : ByteArray} (hs : s.size < n) (hn : n ≤ 536870912) (h5 : 5 ≤ n) : F_ref06_Key.f n s = some (keyB s, ()) := by
  rw [F_ref06_Key.e0]
  unfold keyB
  rw [clean44 (by omega) hs h5]
  simp only [hide_eq, bIf_eq, bnd_some]
  have e1 : decide ((s.size : Int) ≤ 200) = decide (s.size ≤ 200) := decide_eq_decide.2 (by omega)
  have e0 : decide ((s.size : Int) ≥ 1) = decide (1 ≤ s.size) := decide_eq_decide.2 (by omega)
  rw [e0, e1]
  cases decide (1 ≤ s.size) <;> cases decide (s.size ≤ 200) <;> simp
end Go.Proofs.YtfpedialdcgnhaaGreatDoor
namespace Go.Proofs.YtfpedialdcgnhaaGreatDoor
open Go Go.Va Go.Proofs
abbrev Ver : Type := D_api_Version
def mark (v : Ver) : Bool := v.2.1
def vsize (v : Ver) : Int := v.2.2.1
def blob (v : Ver) : Int := v.2.2.2.1
def dig (v : Ver) : List Int := v.2.2.2.2.1
def made (v : Ver) : Int := v.2.2.2.2.2.1
def lock (v : Ver) : D_api_Lock := v.2.2.2.2.2.2.1
def tags (v : Ver) : List (D_api_Tag) := v.2.2.2.2.2.2.2.1
def verB (v : Ver) : Bool :=
  decide (1 ≤ v.1) && (decide (made v = clampI (made v)) &&
    if mark v = true then (vsize v == 0) && ((blob v == 0) && ((dig v).all (· == 0) && (((lock v).1 == 0 && ((lock v).2.1 == 0 && !(lock v).2.2.1)) && decide ((tags v).length = 0))))
    else decide (0 ≤ vsize v) && (decide (vsize v ≤ 16384) && (decide (1 ≤ blob v) && (lockB (lock v) && tagsB (tags v)))))
structure VB (n : Nat) (v : Ver) : Prop where
  id : 0 ≤ v.1
  blob : 0 ≤ blob v
  dig : (dig v).length = 32
  tags : TsB n (tags v)
def sameV (a b : Ver) : Bool := allB sameT (tags a) (tags b) && ((a.1 == b.1) && ((mark a == mark b) && ((vsize a == vsize b) && ((blob a == blob b) && (eqD (.arr 32 (.int .u8)) (dig a) (dig b) && ((made a == made b) && eqD T_api_Lock (lock a) (lock b)))))))
theorem lockRefl (l : D_api_Lock) : eqD T_api_Lock l l = true := by
  change (decide (l.1 = l.1) && (decide (l.2.1 = l.2.1) && ((l.2.2.1 == l.2.2.1) && true))) = true
  rw [decide_eq_true rfl, decide_eq_true rfl, beq_self_eq_true]; rfl
end Go.Proofs.YtfpedialdcgnhaaGreatDoor
namespace Go.Proofs.YtfpedialdcgnhaaGreatDoor
open Go Go.Va Go.Proofs
theorem bIf_true {α : Type} (x y : α) : bIf true x y = x := rfl
theorem bIf_false {α : Type} (x y : α) : bIf false x y = y := rfl
theorem bIf_and (a b : Bool) : bIf a (some (b, ())) (some (false, ())) = some (a && b, ()) := by cases a <;> rfl
theorem bIf_nand (a b : Bool) : bIf a (some (false, ())) (some (b, ())) = some (!a && b, ()) := by cases a <;> rfl
theorem bIf_same {α : Type} (a : Bool) (x : α) : bIf a x x = x := by cases a <;> rfl
theorem bIf_bool (a : Bool) : bIf a (some (true, ())) (some (false, ())) = some (a, ()) := by cases a <;> rfl
theorem all_loop {α R : Type} {l : List α} (d : α) (p : α → Bool) (J : Nat → Int → Option R) (yes no : Option R)
    (hs : ∀ m (k : Nat), k < l.length → J (m + 1) (k : Int) = bIf (p (l.getD k d)) (J m ((k + 1 : Nat) : Int)) no) (he : ∀ m, J (m + 1) ((l.length : Nat) : Int) = yes) :
    ∀ (m k : Nat), k ≤ l.length → l.length - k < m → J m (k : Int) = bIf ((l.drop k).all p) yes no
  | 0, k, _, h => by omega
  | m + 1, k, hk, h => by
    by_cases hlt : k < l.length
    · rw [hs m k hlt, all_loop d p J yes no hs he m (k + 1) (by omega) (by omega), List.drop_eq_getElem_cons hlt, List.all_cons, List.getD_eq_getElem?_getD, List.getElem?_eq_getElem hlt]
      simp only [Option.getD_some]
      cases p l[k] <;> rfl
    · have : k = l.length := by omega
      subst this
      rw [he, List.drop_length]; rfl
theorem idx_loop {α : Type} {l : List α} (d : α) (p : α → Bool) (J : Nat → Int → Option (Int × Unit))
    (hs : ∀ m (k : Nat), k < l.length → J (m + 1) (k : Int) = bIf (p (l.getD k d)) (some ((k : Int), ())) (J m ((k + 1 : Nat) : Int))) (he : ∀ m, J (m + 1) ((l.length : Nat) : Int) = some (-1, ())) :
    ∀ (m k : Nat), k ≤ l.length → l.length - k < m → ∃ i, J m (k : Int) = some (i, ()) ∧ decide (i ≥ 0) = (l.drop k).any p
  | 0, k, _, h => by omega
  | m + 1, k, hk, h => by
    by_cases hlt : k < l.length
    · obtain ⟨i, h1, h2⟩ := idx_loop d p J hs he m (k + 1) (by omega) (by omega)
      rw [hs m k hlt, List.drop_eq_getElem_cons hlt, List.any_cons, List.getD_eq_getElem?_getD, List.getElem?_eq_getElem hlt]
      simp only [Option.getD_some]
      cases p l[k]
      · exact ⟨i, h1, by rw [h2]; rfl⟩
      · exact ⟨_, rfl, by simp⟩
    · have : k = l.length := by omega
      subst this
      rw [he, List.drop_length]
      exact ⟨_, rfl, rfl⟩
theorem cast_up (k : Nat) (h : k < 4611686018427387904) : IntKind.i64.wrap ((k : Int) + 1) = ((k + 1 : Nat) : Int) := by rw [wrap_i64 (by omega)]; omega
theorem dec_not {p q : Prop} [Decidable p] [Decidable q] (h : p ↔ ¬ q) : decide p = !decide q := by rw [← decide_not]; exact decide_eq_decide.2 h
def modeB (d : D_api_Default) : Bool := if d.1 = 0 then d.2.1 == 0 else (d.1 == 1 || d.1 == 2) && (decide (d.2.1 ≥ 1) && decide (d.2.1 ≤ 36500))
theorem mode_Good (n : Nat) (d : D_api_Default) : F_mode_Good.f n d = some (modeB d, ()) := by
  rw [F_mode_Good.e0]
  simp only [F_mode_Good.e1, hide_eq, bIf_and]
  unfold modeB
  by_cases h0 : d.1 = 0
  · simp [h0, bIf_true]
  · rw [beq_false_of_ne h0, bIf_false, if_neg h0]
    cases (d.1 == 1) <;> rfl
theorem ref12_Good (n : Nat) (d : D_api_Default) : F_ref12_Good.f n d = some (modeB d, ()) := by
  rw [F_ref12_Good.e0]
  simp only [hide_eq, bIf_and]
  unfold modeB
  by_cases h0 : d.1 = 0
  · simp [h0, bIf_true]
  · rw [beq_false_of_ne h0, bIf_false, if_neg h0]
    cases (d.1 == 1) <;> rfl
def globL : List UInt8 → Bool
  | [] => true
  | c :: r => if c = 92 then match r with
    | [] => false
    | _ :: r' => globL r'
    else globL r
def globB (p : ByteArray) : Bool := decide (p.size ≤ 200) && globL p.data.toList
theorem globL_cons {c : UInt8} {r : List UInt8} (h : c ≠ 92) : globL (c :: r) = globL r := by rw [globL.eq_def]; simp only [if_neg h]
theorem globL_q (b : UInt8) (r : List UInt8) : globL (92 :: b :: r) = globL r := by rw [globL.eq_def]; simp
theorem globL_end : globL [92] = false := by rw [globL.eq_def]; simp
theorem drop_getD (l : List UInt8) {k : Nat} (h : k < l.length) : l.drop k = l.getD k 0 :: l.drop (k + 1) := by
  rw [List.drop_eq_getElem_cons h, List.getD_eq_getElem?_getD, List.getElem?_eq_getElem h]; rfl
theorem u8_eq {b : UInt8} {c : Nat} (hc : c < 256) : ((b.toNat : Int) == (c : Int)) = decide (b = UInt8.ofNat c) := by
  have := b.toNat_lt
  by_cases h : b = UInt8.ofNat c
  · subst h; rw [decide_eq_true rfl]; simp [UInt8.toNat_ofNat']; omega
  · rw [decide_eq_false h]
    refine beq_false_of_ne (fun e => h ?_)
    apply UInt8.toNat_inj.1
    simp [UInt8.toNat_ofNat']
    omega
theorem glob_J (n : Nat) (p : ByteArray) (hp : p.size ≤ 200) : ∀ (m k : Nat) (out : List D_glob_piece), k ≤ p.size → p.size - k < m → out.length ≤ k →
    ∃ o, F_glob_pieces.J1 n m (p, out, (k : Int), ()) = some (o, globL (p.data.toList.drop k), ())
  | 0, k, out, _, h, _ => by omega
  | m + 1, k, out, hk, h, ho => by
    have hsz := size_eq p
    rw [F_glob_pieces.e1]
    simp only [hide_eq]
    by_cases hlt : k < p.size
    · have hd := drop_getD p.data.toList (k := k) (by omega)
      rw [decide_eq_true (by omega), bIf_true, gIf_pos ⟨by omega, by omega⟩, bt_nat, hd]
      have hg : ∀ o : List D_glob_piece, o.length ≤ k + 1 → (o.length + 1) * 16 ≤ 70368744177664 := fun o h' => by omega
      have e1 : (((p.data.toList.getD k 0).toNat : Int) == 42) = decide (p.data.toList.getD k 0 = 42) := u8_eq (c := 42) (by decide)
      have e2 : (((p.data.toList.getD k 0).toNat : Int) == 63) = decide (p.data.toList.getD k 0 = 63) := u8_eq (c := 63) (by decide)
      have e3 : (((p.data.toList.getD k 0).toNat : Int) == 92) = decide (p.data.toList.getD k 0 = 92) := u8_eq (c := 92) (by decide)
      rw [e1, e2, e3]
      generalize p.data.toList.getD k 0 = c
      have st : ∀ o : List D_glob_piece, o.length ≤ k + 1 → ∃ o', F_glob_pieces.J3 n m (p, o, (k : Int), ()) = some (o', globL (p.data.toList.drop (k + 1)), ()) := fun o h' => by
        rw [F_glob_pieces.e3, cast_up k (by omega)]
        exact glob_J n p hp m (k + 1) o (by omega) (by omega) h'
      by_cases h1 : c = 42
      · rw [decide_eq_true h1, bIf_true, gIf_pos (hg out (by omega)), globL_cons (by rw [h1]; decide)]
        exact st _ (by simp; omega)
      · rw [decide_eq_false h1, bIf_false]
        by_cases h2 : c = 63
        · rw [decide_eq_true h2, bIf_true, gIf_pos (hg out (by omega)), globL_cons (by rw [h2]; decide)]
          exact st _ (by simp; omega)
        · rw [decide_eq_false h2, bIf_false]
          by_cases h3 : c = 92
          · rw [decide_eq_true h3, bIf_true, cast_up k (by omega), h3]
            by_cases h4 : k + 1 = p.size
            · rw [beq_iff_eq.2 (by omega), bIf_true, List.drop_eq_nil_of_le (by omega), globL_end]
              exact ⟨_, rfl⟩
            · rw [beq_false_of_ne (by omega), bIf_false, F_glob_pieces.e2, gIf_pos ⟨by omega, by omega⟩, gIf_pos (hg out (by omega)), F_glob_pieces.e3, cast_up (k + 1) (by omega), drop_getD p.data.toList (k := k + 1) (by omega), globL_q]
              exact glob_J n p hp m (k + 1 + 1) _ (by omega) (by omega) (by simp; omega)
          · rw [decide_eq_false h3, bIf_false, F_glob_pieces.e2, gIf_pos ⟨by omega, by omega⟩, gIf_pos (hg out (by omega)), globL_cons h3]
            exact st _ (by simp; omega)
    · have hkk : k = p.size := by omega
      subst hkk
      rw [decide_eq_false (by omega), bIf_false, F_glob_pieces.e4, hsz, List.drop_length]
      exact ⟨_, rfl⟩
theorem glob_Sound {n : Nat} {p : ByteArray} (hp : p.size < n) : F_glob_Sound.f n p = some (globB p, ()) := by
  rw [F_glob_Sound.e0, F_glob_pieces.e0]
  simp only [hide_eq]
  unfold globB
  by_cases h : p.size ≤ 200
  · rw [decide_eq_false (by omega), bIf_false, decide_eq_true h]
    obtain ⟨o, ho⟩ := glob_J n p h n 0 [] (by omega) (by omega) (by simp)
    rw [show ((0 : Nat) : Int) = 0 from rfl] at ho
    rw [ho]; rfl
  · rw [decide_eq_true (by omega), decide_eq_false h]; rfl
theorem glob7_J (n : Nat) (p : ByteArray) (hp : p.size ≤ 200) : ∀ (m k : Nat) (out : List D_glob_piece), k ≤ p.size → p.size - k < m → out.length ≤ k →
    ∃ o, F_ref07_pieces.J1 n m (p, out, (k : Int), ()) = some (o, globL (p.data.toList.drop k), ())
  | 0, k, out, _, h, _ => by omega
  | m + 1, k, out, hk, h, ho => by
    have hsz := size_eq p
    rw [F_ref07_pieces.e1]
    simp only [hide_eq]
    by_cases hlt : k < p.size
    · have hd := drop_getD p.data.toList (k := k) (by omega)
      rw [decide_eq_true (by omega), bIf_true, gIf_pos ⟨by omega, by omega⟩, bt_nat, hd]
      have hg : ∀ o : List D_glob_piece, o.length ≤ k + 1 → (o.length + 1) * 16 ≤ 70368744177664 := fun o h' => by omega
      have e1 : (((p.data.toList.getD k 0).toNat : Int) == 42) = decide (p.data.toList.getD k 0 = 42) := u8_eq (c := 42) (by decide)
      have e2 : (((p.data.toList.getD k 0).toNat : Int) == 63) = decide (p.data.toList.getD k 0 = 63) := u8_eq (c := 63) (by decide)
      have e3 : (((p.data.toList.getD k 0).toNat : Int) == 92) = decide (p.data.toList.getD k 0 = 92) := u8_eq (c := 92) (by decide)
      rw [e1, e2, e3]
      generalize p.data.toList.getD k 0 = c
      have st : ∀ o : List D_glob_piece, o.length ≤ k + 1 → ∃ o', F_ref07_pieces.J2 n m (p, o, (k : Int), ()) = some (o', globL (p.data.toList.drop (k + 1)), ()) := fun o h' => by
        rw [F_ref07_pieces.e2, cast_up k (by omega)]
        exact glob7_J n p hp m (k + 1) o (by omega) (by omega) h'
      by_cases h1 : c = 42
      · rw [decide_eq_true h1, bIf_true, gIf_pos (hg out (by omega)), globL_cons (by rw [h1]; decide)]
        exact st _ (by simp; omega)
      · rw [decide_eq_false h1, bIf_false]
        by_cases h2 : c = 63
        · rw [decide_eq_true h2, bIf_true, gIf_pos (hg out (by omega)), globL_cons (by rw [h2]; decide)]
          exact st _ (by simp; omega)
        · rw [decide_eq_false h2, bIf_false]
          by_cases h3 : c = 92
          · rw [decide_eq_true h3, bIf_true, cast_up k (by omega), wrap_i64 (x := (p.size : Int) - 1) (by omega), h3]
            by_cases h4 : k + 1 = p.size
            · rw [beq_iff_eq.2 (by omega), bIf_true, List.drop_eq_nil_of_le (by omega), globL_end]
              exact ⟨_, rfl⟩
            · rw [beq_false_of_ne (by omega), bIf_false, gIf_pos ⟨by omega, by omega⟩, gIf_pos (hg out (by omega)), F_ref07_pieces.e2, cast_up (k + 1) (by omega), drop_getD p.data.toList (k := k + 1) (by omega), globL_q]
              exact glob7_J n p hp m (k + 1 + 1) _ (by omega) (by omega) (by simp; omega)
          · rw [decide_eq_false h3, bIf_false, gIf_pos ⟨by omega, by omega⟩, gIf_pos (hg out (by omega)), globL_cons h3]
            exact st _ (by simp; omega)
    · have hkk : k = p.size := by omega
      subst hkk
      rw [decide_eq_false (by omega), bIf_false, F_ref07_pieces.e3, hsz, List.drop_length]
      exact ⟨_, rfl⟩
theorem ref07_Sound {n : Nat} {p : ByteArray} (hp : p.size < n) : F_ref07_Sound.f n p = some (globB p, ()) := by
  rw [F_ref07_Sound.e0, F_ref07_pieces.e0]
  simp only [hide_eq]
  unfold globB
  by_cases h : p.size ≤ 200
  · rw [decide_eq_false (by omega), bIf_false, decide_eq_true h]
    obtain ⟨o, ho⟩ := glob7_J n p h n 0 [] (by omega) (by omega) (by simp)
    rw [show ((0 : Nat) : Int) = 0 from rfl] at ho
    rw [ho]; rfl
  · rw [decide_eq_true (by omega), decide_eq_false h]; rfl
def partB (p : D_api_Part) : Bool := decide (p.1 ≥ 1) && (decide (p.1 ≤ 10000) && (decide (p.2.1 ≥ 0) && (decide (p.2.1 ≤ 1024) && decide (p.2.2.1 ≥ 1))))
def ruleB (r : D_api_Rule) : Bool := decide (r.1.size ≤ 200) && (cleanB r.1 && (tagsB r.2.1 && (decide (r.2.2.1 ≥ 0) && (decide (r.2.2.1 ≤ 36500) && (decide (r.2.2.2.1 ≥ 0) && decide (r.2.2.2.1 ≤ 36500))))))
structure RuB (n : Nat) (r : D_api_Rule) : Prop where
  pre : r.1.size < n
  tags : TsB n r.2.1
theorem dec_cast (a b : Nat) : decide ((a : Int) ≤ (b : Int)) = decide (a ≤ b) := decide_eq_decide.2 (by omega)
theorem entry_Rule {n : Nat} (hn : n ≤ 536870912) {r : D_api_Rule} (hr : RuB n r) : F_entry_Rule.f n r = some (ruleB r, ()) := by
  have h1 := hr.pre
  rw [F_entry_Rule.e0, clean42 (by omega) h1, tags35 hn hr.tags]
  simp only [hide_eq, bnd_some, bIf_and]
  rw [show (200 : Int) = ((200 : Nat) : Int) from rfl, dec_cast]; rfl
def rulesB (l : List D_api_Rule) : Bool := decide (l.length ≤ 8) && l.all ruleB
structure RusB (n : Nat) (l : List D_api_Rule) : Prop where
  len : l.length < n
  all : ∀ r ∈ l, RuB n r
theorem any_not {α : Type} (p : α → Bool) : ∀ l : List α, (!l.any fun x => !p x) = l.all p
  | [] => rfl
  | x :: l => by
    have := any_not p l
    simp only [List.any_cons, List.all_cons, Bool.not_or, Bool.not_not, this]
theorem entry_Rules {n : Nat} (hn : n ≤ 536870912) {l : List D_api_Rule} (hl : RusB n l) : F_entry_Rules.f n l = some (rulesB l, ()) := by
  have hlen := hl.len
  obtain ⟨i, h1, h2⟩ := idx_loop (l := l) (Va.dflt T_api_Rule) (fun r => !ruleB r) (fun m k => F_slices_IndexFunc_Rule.J1 n m (l, ((l.length : Nat) : Int), k, ()))
    (fun m k hk => by
      try dsimp only
      rw [F_slices_IndexFunc_Rule.e1, hide_eq, decide_eq_true (by omega), bIf_true, gIf_pos ⟨by omega, by omega⟩, Int.toNat_natCast, F_entry_Rules_1.e0, entry_Rule hn (hl.all _ (getD_memA hk)), cast_up k (by omega)]; rfl)
    (fun m => by
      try dsimp only
      rw [F_slices_IndexFunc_Rule.e1, hide_eq, decide_eq_false (by omega), bIf_false, F_slices_IndexFunc_Rule.e2]) n 0 (by omega) (by omega)
  rw [F_entry_Rules.e0, F_slices_ContainsFunc_Rule.e0, F_slices_IndexFunc_Rule.e0]
  try dsimp only at h1
  rw [show ((0 : Nat) : Int) = 0 from rfl] at h1
  rw [h1]
  simp only [hide_eq, bnd_some, bIf_and]
  rw [h2, List.drop_zero, any_not, show (8 : Int) = ((8 : Nat) : Int) from rfl, dec_cast]; rfl
theorem ref14_Rules {n : Nat} (hn : n ≤ 536870912) (h5 : 5 ≤ n) {l : List D_api_Rule} (hl : RusB n l) : F_ref14_Rules.f n l = some (rulesB l, ()) := by
  have hlen := hl.len
  have h1 := all_loop (l := l) (Va.dflt T_api_Rule) ruleB (fun m k => F_ref14_Rules.J1 n m (l, k, ())) (some (true, ())) (some (false, ()))
    (fun m k hk => by
      have hr := hl.all _ (getD_memA (d := Va.dflt T_api_Rule) hk)
      have hp := hr.pre
      try dsimp only
      rw [F_ref14_Rules.e1, hide_eq, decide_eq_true (by omega), bIf_true, gIf_pos ⟨by omega, by omega⟩, Int.toNat_natCast]
      generalize hx : l.getD k (Va.dflt T_api_Rule) = r at hr hp
      rw [clean44 (by omega) hp h5, tags38 hn h5 hr.tags]
      simp only [hide_eq, bnd_some]
      rw [F_ref14_Rules.e2, cast_up k (by omega)]
      unfold ruleB
      have a1 : decide ((r.1.size : Int) > 200) = !decide (r.1.size ≤ 200) := dec_not (by omega)
      have a2 : decide (r.2.2.1 < 0) = !decide (r.2.2.1 ≥ 0) := dec_not (by omega)
      have a3 : decide (r.2.2.1 > 36500) = !decide (r.2.2.1 ≤ 36500) := dec_not (by omega)
      have a4 : decide (r.2.2.2.1 < 0) = !decide (r.2.2.2.1 ≥ 0) := dec_not (by omega)
      have a5 : decide (r.2.2.2.1 > 36500) = !decide (r.2.2.2.1 ≤ 36500) := dec_not (by omega)
      rw [a1, a2, a3, a4, a5]
      cases decide (r.1.size ≤ 200) <;> cases cleanB r.1 <;> cases tagsB r.2.1 <;> cases decide (r.2.2.1 ≥ 0) <;> cases decide (r.2.2.1 ≤ 36500) <;> cases decide (r.2.2.2.1 ≥ 0) <;> cases decide (r.2.2.2.1 ≤ 36500) <;> rfl)
    (fun m => by
      try dsimp only
      rw [F_ref14_Rules.e1, hide_eq, decide_eq_false (by omega), bIf_false, F_ref14_Rules.e3]) n 0 (by omega) (by omega)
  rw [F_ref14_Rules.e0, hide_eq]
  unfold rulesB
  by_cases h8 : l.length ≤ 8
  · rw [decide_eq_false (by omega), bIf_false, decide_eq_true h8]
    try dsimp only at h1
    rw [show ((0 : Nat) : Int) = 0 from rfl] at h1
    rw [h1, List.drop_zero, bIf_bool]; rfl
  · rw [decide_eq_true (by omega), decide_eq_false h8]; rfl
def grantB (g : D_api_Grant) : Bool := globB g.2.1 && (globB g.2.2.1 && globB g.2.2.2.1)
structure GrB (n : Nat) (g : D_api_Grant) : Prop where
  a : g.2.1.size < n
  b : g.2.2.1.size < n
  c : g.2.2.2.1.size < n
def grantsB (l : List D_api_Grant) : Bool := decide (l.length ≤ 8) && l.all grantB
structure GrsB (n : Nat) (l : List D_api_Grant) : Prop where
  len : l.length < n
  all : ∀ r ∈ l, GrB n r
theorem entry_Grants {n : Nat} (hn : n ≤ 536870912) {l : List D_api_Grant} (hl : GrsB n l) : F_entry_Grants.f n l = some (grantsB l, ()) := by
  have hlen := hl.len
  obtain ⟨i, h1, h2⟩ := idx_loop (l := l) (Va.dflt T_api_Grant) (fun r => !grantB r) (fun m k => F_slices_IndexFunc_Grant.J1 n m (l, ((l.length : Nat) : Int), k, ()))
    (fun m k hk => by
      have hr := hl.all _ (getD_memA (d := Va.dflt T_api_Grant) hk)
      try dsimp only
      rw [F_slices_IndexFunc_Grant.e1, hide_eq, decide_eq_true (by omega), bIf_true, gIf_pos ⟨by omega, by omega⟩, Int.toNat_natCast, F_entry_Grants_1.e0]
      generalize hx : l.getD k (Va.dflt T_api_Grant) = r at hr
      rw [glob_Sound hr.a, glob_Sound hr.b, glob_Sound hr.c, cast_up k (by omega)]
      simp only [bnd_some]
      unfold grantB
      cases globB r.2.1 <;> cases globB r.2.2.1 <;> cases globB r.2.2.2.1 <;> rfl)
    (fun m => by
      try dsimp only
      rw [F_slices_IndexFunc_Grant.e1, hide_eq, decide_eq_false (by omega), bIf_false, F_slices_IndexFunc_Grant.e2]) n 0 (by omega) (by omega)
  rw [F_entry_Grants.e0, F_slices_ContainsFunc_Grant.e0, F_slices_IndexFunc_Grant.e0]
  try dsimp only at h1
  rw [show ((0 : Nat) : Int) = 0 from rfl] at h1
  rw [h1]
  simp only [hide_eq, bnd_some, bIf_and]
  rw [h2, List.drop_zero, any_not, show (8 : Int) = ((8 : Nat) : Int) from rfl, dec_cast]; rfl
theorem ref14_Grants {n : Nat} (hn : n ≤ 536870912) {l : List D_api_Grant} (hl : GrsB n l) : F_ref14_Grants.f n l = some (grantsB l, ()) := by
  have hlen := hl.len
  have h1 := all_loop (l := l) (Va.dflt T_api_Grant) grantB (fun m k => F_ref14_Grants.J1 n m (l, k, ())) (some (true, ())) (some (false, ()))
    (fun m k hk => by
      have hr := hl.all _ (getD_memA (d := Va.dflt T_api_Grant) hk)
      have hg : (0 ≤ (k : Int) ∧ (k : Int) < ((l.length : Nat) : Int)) := ⟨by omega, by omega⟩
      try dsimp only
      rw [F_ref14_Grants.e1, hide_eq, decide_eq_true (by omega), bIf_true]
      simp only [gIf_pos hg, Int.toNat_natCast]
      generalize hx : l.getD k (Va.dflt T_api_Grant) = r at hr
      rw [ref07_Sound hr.a, ref07_Sound hr.b, ref07_Sound hr.c, F_ref14_Grants.e2, cast_up k (by omega)]
      simp only [bnd_some]
      unfold grantB
      cases globB r.2.1 <;> cases globB r.2.2.1 <;> cases globB r.2.2.2.1 <;> rfl)
    (fun m => by
      try dsimp only
      rw [F_ref14_Grants.e1, hide_eq, decide_eq_false (by omega), bIf_false, F_ref14_Grants.e3]) n 0 (by omega) (by omega)
  rw [F_ref14_Grants.e0, hide_eq]
  unfold grantsB
  by_cases h8 : l.length ≤ 8
  · rw [decide_eq_false (by omega), bIf_false, decide_eq_true h8]
    try dsimp only at h1
    rw [show ((0 : Nat) : Int) = 0 from rfl] at h1
    rw [h1, List.drop_zero, bIf_bool]; rfl
  · rw [decide_eq_true (by omega), decide_eq_false h8]; rfl
end Go.Proofs.YtfpedialdcgnhaaGreatDoor
namespace Go.Proofs.YtfpedialdcgnhaaGreatDoor
open Go Go.Va Go.Proofs
def lowB (b : UInt8) : Bool := (decide (97 ≤ b.toNat) && decide (b.toNat ≤ 122)) || (decide (48 ≤ b.toNat) && decide (b.toNat ≤ 57))
def digB (b : UInt8) : Bool := decide (48 ≤ b.toNat) && decide (b.toNat ≤ 57)
def lowT : List UInt8 := [97, 98, 99, 100, 101, 102, 103, 104, 105, 106, 107, 108, 109, 110, 111, 112, 113, 114, 115, 116, 117, 118, 119, 120, 121, 122, 48, 49, 50, 51, 52, 53, 54, 55, 56, 57]
def digT : List UInt8 := [48, 49, 50, 51, 52, 53, 54, 55, 56, 57]
theorem low_all : ∀ n, n < 256 → (decide (Lib.indexByte lowT (UInt8.ofNat n) ≥ 0) = lowB (UInt8.ofNat n) ∧ digT.contains (UInt8.ofNat n) = digB (UInt8.ofNat n)) := by decide +kernel
theorem ofNat_toNat (b : UInt8) : UInt8.ofNat b.toNat = b := by simp
theorem low_idx (b : UInt8) : decide (Lib.indexByte lowT b ≥ 0) = lowB b := by
  have := (low_all b.toNat b.toNat_lt).1; rwa [ofNat_toNat] at this
theorem dig_has (b : UInt8) : digT.contains b = digB b := by
  have := (low_all b.toNat b.toNat_lt).2; rwa [ofNat_toNat] at this
theorem ref_low (n : Nat) (b : UInt8) : F_ref06_low.f n (b.toNat : Int) = some (lowB b, ()) := by
  rw [F_ref06_low.e0]
  simp only [hide_eq]
  unfold lowB
  have e1 : decide ((b.toNat : Int) ≥ 97) = decide (97 ≤ b.toNat) := decide_eq_decide.2 (by omega)
  have e2 : decide ((b.toNat : Int) ≤ 122) = decide (b.toNat ≤ 122) := decide_eq_decide.2 (by omega)
  have e3 : decide ((b.toNat : Int) ≥ 48) = decide (48 ≤ b.toNat) := decide_eq_decide.2 (by omega)
  have e4 : decide ((b.toNat : Int) ≤ 57) = decide (b.toNat ≤ 57) := decide_eq_decide.2 (by omega)
  rw [e1, e2, e3, e4]
  cases decide (97 ≤ b.toNat) <;> cases decide (b.toNat ≤ 122) <;> cases decide (48 ≤ b.toNat) <;> cases decide (b.toNat ≤ 57) <;> rfl
theorem among_low (n : Nat) (b : UInt8) : F_label_among.f n ⟨#[97, 98, 99, 100, 101, 102, 103, 104, 105, 106, 107, 108, 109, 110, 111, 112, 113, 114, 115, 116, 117, 118, 119, 120, 121, 122, 48, 49, 50, 51, 52, 53, 54, 55, 56, 57]⟩ (b.toNat : Int) = some (lowB b, ()) := by
  rw [F_label_among.e0]
  unfold F_strings_IndexByte.f
  rw [bnd_some, hide_eq]
  have e : ((b.toNat : Int)).toNat.toUInt8 = b := by
    rw [Int.toNat_natCast]
    exact ofNat_toNat b
  rw [e]
  exact congrArg (fun x => some (x, ())) (low_idx b)
def spl (c : UInt8) : List UInt8 → List (List UInt8)
  | [] => [[]]
  | b :: r => if b = c then [] :: spl c r else match spl c r with
    | [] => [[b]]
    | p :: ps => (b :: p) :: ps
theorem spl_ne (c : UInt8) : ∀ l, spl c l ≠ []
  | [] => by simp [spl]
  | b :: r => by
    unfold spl
    split
    · simp
    · split <;> simp
theorem index_cons (b c : UInt8) (l : List UInt8) : Lib.index (b :: l) [c] = if b = c then 0 else if Lib.index l [c] = -1 then -1 else Lib.index l [c] + 1 := by
  rw [Lib.index]
  by_cases h : b = c
  · subst h; simp [List.isPrefixOf]
  · rw [if_neg h]
    have hp : ([c] : List UInt8).isPrefixOf (b :: l) = false := by simp [List.isPrefixOf, Ne.symm h]
    rw [hp]
    simp
theorem splitK_spl (c : UInt8) : ∀ l : List UInt8, Lib.splitK [c] 0 (Lib.count l [c]) l = spl c l
  | [] => by rw [Lib.count_one]; rfl
  | b :: l => by
    have ih := splitK_spl c l
    by_cases h : b = c
    · subst h
      rw [Lib.count_cons_eq, Nat.add_comm, Lib.splitK, index_cons, if_pos rfl, if_neg (by decide)]
      unfold spl
      rw [if_pos rfl]
      change List.take 0 (b :: l) :: Lib.splitK [b] 0 (Lib.count l [b]) (List.drop 1 (b :: l)) = _
      rw [List.take_zero, List.drop_one, List.tail_cons, ih]
    · rw [Lib.count_cons_ne b c l h]
      unfold spl
      rw [if_neg h, ← ih]
      cases hk : Lib.count l [c] with
      | zero => rfl
      | succ k =>
        rw [Lib.splitK, Lib.splitK, index_cons, if_neg h]
        by_cases hm : Lib.index l [c] = -1
        · rw [if_pos hm, if_pos (by decide), if_pos (by rw [hm]; decide)]
        · have hge := Lib.index_ge l [c]
          obtain ⟨j, hj⟩ : ∃ j : Nat, Lib.index l [c] = j := ⟨(Lib.index l [c]).toNat, by omega⟩
          rw [if_neg hm, hj, if_neg (by rw [beq_iff_eq]; omega), if_neg (by rw [beq_iff_eq]; omega), show ((j : Int) + 1).toNat = j + 1 by omega, show ((j : Int)).toNat = j by omega]
          rfl
def okP (p : List UInt8) : Bool := decide (1 ≤ p.length) && (decide (p.length ≤ 3) && p.all digB)
def addrL (l : List UInt8) : Bool := decide ((spl 46 l).length = 4) && (spl 46 l).all okP
theorem dropWhile_nil {α : Type} (p : α → Bool) : ∀ l : List α, (l.dropWhile p = []) ↔ l.all p = true
  | [] => by simp
  | x :: l => by
    rw [List.dropWhile_cons, List.all_cons]
    cases h : p x
    · simp
    · simp [dropWhile_nil p l]
theorem trimS_nil (l : List UInt8) : (Lib.trimS l digT = []) ↔ l.all digB = true := by
  have hd : (digT.contains ·) = digB := funext dig_has
  unfold Lib.trimS Lib.trimLeftS Lib.trimRightS
  rw [hd, dropWhile_nil, List.all_reverse]
  constructor
  · intro h
    have : l.reverse.dropWhile digB = [] := by
      cases hc : l.reverse.dropWhile digB with
      | nil => rfl
      | cons x r =>
        have h1 := List.head?_dropWhile_not digB l.reverse
        rw [hc] at h1 h
        simp only [List.all_cons, Bool.and_eq_true] at h
        simp [h.1] at h1
    rw [dropWhile_nil, List.all_reverse] at this
    exact this
  · intro h
    have : l.reverse.dropWhile digB = [] := by rw [dropWhile_nil, List.all_reverse]; exact h
    rw [this]; rfl
theorem all_map {α β : Type} (f : α → β) (p : β → Bool) : ∀ l : List α, (l.map f).all p = l.all fun x => p (f x)
  | [] => rfl
  | x :: l => by simp only [List.map_cons, List.all_cons, all_map f p l]
theorem label_address {n : Nat} (hn : 300 ≤ n) {s : ByteArray} (hs : s.size ≤ 63) : F_label_address.f n s = some (addrL s.data.toList, ()) := by
  rw [F_label_address.e0]
  unfold F_strings_Split.f
  rw [if_pos ⟨by omega, by decide⟩, bnd_some]
  have hmap := Lib.splitB_data ⟨#[46]⟩ 0 (Lib.countB s ⟨#[46]⟩) s
  have hlen := Lib.splitB_all ⟨#[46]⟩ (by decide) 0 _ s rfl
  have hcl := Lib.countB_le ⟨#[46]⟩ (by decide) s.size s (Nat.le_refl _)
  have hspl : (Lib.splitB ⟨#[46]⟩ 0 (Lib.countB s ⟨#[46]⟩) s).map (·.data.toList) = spl 46 s.data.toList := hmap.trans (splitK_spl 46 s.data.toList)
  simp only [hide_eq]
  generalize Lib.splitB ⟨#[46]⟩ 0 (Lib.countB s ⟨#[46]⟩) s = t at hspl hlen
  unfold addrL
  rw [← hspl, List.length_map, all_map]
  have h1 := all_loop (l := t) (⟨#[]⟩ : ByteArray) (fun x => okP x.data.toList) (fun m k => F_label_address.J1 n m (t, ((t.length : Nat) : Int), k, ())) (some (true, ())) (some (false, ()))
    (fun m k hk => by
      try dsimp only
      rw [F_label_address.e1, hide_eq, decide_eq_true (by omega), bIf_true, gIf_pos ⟨by omega, by omega⟩, Int.toNat_natCast, Nat.zero_add, cast_up k (by omega)]
      generalize t.getD k ⟨#[]⟩ = x
      simp only [hide_eq]
      rw [size0]
      unfold okP
      have hx := size_eq x
      have e1 : decide (x.size = 0) = !decide (1 ≤ x.data.toList.length) := dec_not (by omega)
      have e2 : decide ((x.size : Int) > 3) = !decide (x.data.toList.length ≤ 3) := dec_not (by omega)
      rw [e1, e2]
      by_cases h3 : x.data.toList.length ≤ 3
      · unfold F_strings_Trim.f
        rw [if_pos ⟨by omega, by decide, by decide⟩, bnd_some, decide_eq_true h3]
        have e3 : eqS (⟨(Lib.trimS x.data.toList digT).toArray⟩ : ByteArray) ⟨#[]⟩ = x.data.toList.all digB := by
          rw [size0]
          have hz : ((⟨(Lib.trimS x.data.toList digT).toArray⟩ : ByteArray).size = 0) ↔ x.data.toList.all digB = true := by
            rw [← trimS_nil]
            simp [ByteArray.size]
          by_cases h : x.data.toList.all digB = true
          · rw [h, decide_eq_true (hz.2 h)]
          · rw [decide_eq_false (fun h' => h (hz.1 h'))]; simpa using h
        rw [show (#[48, 49, 50, 51, 52, 53, 54, 55, 56, 57] : Array UInt8).toList = digT from rfl, e3]
        cases decide (1 ≤ x.data.toList.length) <;> cases x.data.toList.all digB <;> rfl
      · rw [decide_eq_false h3]
        cases decide (1 ≤ x.data.toList.length) <;> rfl)
    (fun m => by
      try dsimp only
      rw [F_label_address.e1, hide_eq, decide_eq_false (by omega), bIf_false, F_label_address.e2]) n 0 (by omega) (by omega)
  try dsimp only at h1
  rw [show ((0 : Nat) : Int) = 0 from rfl] at h1
  by_cases h4 : t.length = 4
  · rw [show (((t.length : Nat) : Int) != 4) = false by rw [h4]; rfl, bIf_false, h1, decide_eq_true h4, List.drop_zero, bIf_bool]; rfl
  · rw [show (((t.length : Nat) : Int) != 4) = true by rw [bne_iff_ne]; omega, bIf_true, decide_eq_false h4]; rfl
def fourL : Nat → Nat → List UInt8 → Bool
  | p, d, [] => decide (p = 3) && decide (0 < d)
  | p, d, b :: r => if b = 46 then decide (0 < d) && fourL (p + 1) 0 r else digB b && (decide (d + 1 ≤ 3) && fourL p (d + 1) r)
theorem fourL_spl : ∀ (l : List UInt8) (p d : Nat), d ≤ 3 → fourL p d l = match spl 46 l with
    | [] => false
    | x :: ps => (decide (0 < d + x.length) && (decide (d + x.length ≤ 3) && x.all digB)) && (decide (p + ps.length = 3) && ps.all okP)
  | [], p, d, hd => by
    unfold fourL spl
    simp only [List.length_nil, Nat.add_zero, List.all_nil, decide_eq_true hd, Bool.and_true, Bool.true_and]
    cases decide (p = 3) <;> cases decide (0 < d) <;> rfl
  | b :: r, p, d, hd => by
    unfold fourL spl
    by_cases h : b = 46
    · rw [if_pos h, if_pos h, fourL_spl r (p + 1) 0 (by omega)]
      cases hs : spl 46 r with
      | nil => exact absurd hs (spl_ne 46 r)
      | cons x ps =>
        simp only [List.length_nil, Nat.add_zero, List.all_nil, decide_eq_true hd, Bool.and_true, List.length_cons, List.all_cons, Nat.zero_add]
        have e1 : decide (p + 1 + ps.length = 3) = decide (p + (ps.length + 1) = 3) := decide_eq_decide.2 (by omega)
        have e2 : decide (0 < x.length) = decide (1 ≤ x.length) := rfl
        rw [e1, e2]
        unfold okP
        cases decide (0 < d) <;> cases decide (1 ≤ x.length) <;> cases decide (x.length ≤ 3) <;> cases x.all digB <;> cases decide (p + (ps.length + 1) = 3) <;> cases ps.all okP <;> rfl
    · rw [if_neg h, if_neg h]
      by_cases h3 : d + 1 ≤ 3
      · rw [fourL_spl r p (d + 1) h3]
        cases hs : spl 46 r with
        | nil => exact absurd hs (spl_ne 46 r)
        | cons x ps =>
          simp only [List.length_cons, List.all_cons]
          rw [decide_eq_true h3, show d + 1 + x.length = d + (x.length + 1) by omega]
          cases digB b <;> cases decide (0 < d + (x.length + 1)) <;> cases decide (d + (x.length + 1) ≤ 3) <;> cases x.all digB <;> rfl
      · rw [decide_eq_false h3]
        cases hs : spl 46 r with
        | nil => exact absurd hs (spl_ne 46 r)
        | cons x ps =>
          simp only [List.length_cons]
          rw [decide_eq_false (show ¬ (d + (x.length + 1) ≤ 3) by omega)]
          simp
theorem fourL_addr (l : List UInt8) : fourL 0 0 l = addrL l := by
  rw [fourL_spl l 0 0 (by omega)]
  unfold addrL
  cases hs : spl 46 l with
  | nil => exact absurd hs (spl_ne 46 l)
  | cons x ps =>
    simp only [List.length_cons, List.all_cons, Nat.zero_add]
    have e1 : decide (ps.length = 3) = decide (ps.length + 1 = 4) := decide_eq_decide.2 (by omega)
    rw [e1]
    unfold okP
    have e2 : decide (0 < x.length) = decide (1 ≤ x.length) := rfl
    rw [e2]
    cases decide (1 ≤ x.length) <;> cases decide (x.length ≤ 3) <;> cases x.all digB <;> cases decide (ps.length + 1 = 4) <;> simp
theorem ref_four_J (n : Nat) (s : ByteArray) (hs : s.size ≤ 63) : ∀ (m k p d : Nat), k ≤ s.size → s.size - k < m → p ≤ k → d ≤ 3 →
    F_ref06_four.J1 n m (s, (p : Int), (d : Int), (k : Int), ()) = some (fourL p d (s.data.toList.drop k), ())
  | 0, k, p, d, _, h, _, _ => by omega
  | m + 1, k, p, d, hk, h, hp, hd => by
    have hsz := size_eq s
    rw [F_ref06_four.e1]
    simp only [hide_eq]
    by_cases hlt : k < s.size
    · rw [decide_eq_true (by omega), bIf_true, gIf_pos ⟨by omega, by omega⟩, bt_nat, drop_getD s.data.toList (k := k) (by omega)]
      have e1 : (((s.data.toList.getD k 0).toNat : Int) == 46) = decide (s.data.toList.getD k 0 = 46) := u8_eq (c := 46) (by decide)
      rw [e1]
      generalize s.data.toList.getD k 0 = b
      unfold fourL
      have ih := fun p' d' h1 h2 => ref_four_J n s hs m (k + 1) p' d' (by omega) (by omega) h1 h2
      by_cases hb : b = 46
      · rw [decide_eq_true hb, bIf_true, if_pos hb]
        by_cases h0 : 0 < d
        · rw [beq_false_of_ne (by omega), bIf_false, decide_eq_true h0, Bool.true_and, F_ref06_four.e2, cast_up k (by omega), cast_up p (by omega)]
          exact ih (p + 1) 0 (by omega) (by omega)
        · rw [beq_iff_eq.2 (by omega), bIf_true, decide_eq_false h0]; rfl
      · rw [decide_eq_false hb, bIf_false, if_neg hb, gIf_pos ⟨by omega, by omega⟩, gIf_pos ⟨by omega, by omega⟩, cast_up d (by omega)]
        unfold digB
        have e2 : decide ((b.toNat : Int) < 48) = !decide (48 ≤ b.toNat) := dec_not (by omega)
        have e3 : decide ((b.toNat : Int) > 57) = !decide (b.toNat ≤ 57) := dec_not (by omega)
        have e4 : decide (((d + 1 : Nat) : Int) > 3) = !decide (d + 1 ≤ 3) := dec_not (by omega)
        rw [e2, e3, e4, F_ref06_four.e2, cast_up k (by omega)]
        by_cases h3 : d + 1 ≤ 3
        · rw [ih p (d + 1) (by omega) h3, decide_eq_true h3]
          cases decide (48 ≤ b.toNat) <;> cases decide (b.toNat ≤ 57) <;> rfl
        · rw [decide_eq_false h3]
          cases decide (48 ≤ b.toNat) <;> cases decide (b.toNat ≤ 57) <;> rfl
    · have hkk : k = s.size := by omega
      subst hkk
      rw [decide_eq_false (by omega), bIf_false, F_ref06_four.e3, hsz, List.drop_length]
      unfold fourL
      simp only [hide_eq, bIf_and]
      have e1 : ((p : Int) == 3) = decide (p = 3) := by
        by_cases h : p = 3
        · subst h; rfl
        · rw [decide_eq_false h]; exact beq_false_of_ne (by omega)
      have e2 : decide ((d : Int) > 0) = decide (0 < d) := decide_eq_decide.2 (by omega)
      rw [e1, e2]
theorem ref_four {n : Nat} (hn : 300 ≤ n) {s : ByteArray} (hs : s.size ≤ 63) : F_ref06_four.f n s = some (addrL s.data.toList, ()) := by
  rw [F_ref06_four.e0]
  have := ref_four_J n s hs n 0 0 0 (by omega) (by omega) (by omega) (by omega)
  rw [List.drop_zero, fourL_addr] at this
  exact this
def badN (c d : UInt8) : Bool := (decide (d = 46) || decide (d = 45)) && (decide (c = 46) || decide (d = 46))
def mid (c : UInt8) : Bool := decide (c = 45) || decide (c = 46)
def nxt (c : UInt8) : List UInt8 → Bool
  | [] => false
  | d :: _ => !badN c d
def lab : Bool → List UInt8 → Bool
  | _, [] => true
  | first, c :: r => (lowB c || (mid c && (!first && nxt c r))) && lab false r
def pairOk (p c : UInt8) : Bool := lowB c || (lowB p || (decide (c = 45) && decide (p = 45)))
def rfl' : Option UInt8 → List UInt8 → Bool
  | _, [] => true
  | o, c :: r => (lowB c || mid c) && ((match o with | none => true | some p => pairOk p c) && rfl' (some c) r)
def lastLow : List UInt8 → Bool
  | [] => true
  | [c] => lowB c
  | _ :: d :: r => lastLow (d :: r)
theorem lab_rfl : ∀ (r : List UInt8) (p : UInt8), (lowB p || mid p) = true → ((lowB p || nxt p r) && lab false r) = (lastLow (p :: r) && rfl' (some p) r)
  | [], p, hp => by
    simp only [lab, rfl', lastLow, nxt, Bool.or_false]
  | c :: r, p, hp => by
    have ih := lab_rfl r c
    unfold lab rfl' lastLow
    by_cases hc : (lowB c || mid c) = true
    · have ih := ih hc
      rw [hc, Bool.true_and]
      have e1 : (lowB c || (mid c && (!false && nxt c r))) = (lowB c || nxt c r) := by
        cases hl : lowB c
        · rw [hl] at hc; simp only [Bool.false_or] at hc; rw [hc]; simp
        · simp
      rw [e1, ih]
      have e2 : (lowB p || nxt p (c :: r)) = pairOk p c := by
        unfold pairOk nxt badN
        unfold mid at hp hc
        cases hl : lowB p
        · rw [hl] at hp
          cases hl2 : lowB c
          · rw [hl2] at hc
            by_cases a1 : c = 45
            · by_cases a2 : p = 45
              · subst a1 a2; rfl
              · have a3 : p = 46 := by simpa [a2] using hp
                subst a1 a3; rfl
            · have a3 : c = 46 := by simpa [a1] using hc
              subst a3; simp
          · have : c ≠ 46 ∧ c ≠ 45 := by constructor <;> (intro h; subst h; revert hl2; decide)
            simp [this.1, this.2]
        · simp
      rw [e2]
      change (pairOk p c && (lastLow (c :: r) && rfl' (some c) r)) = (lastLow (c :: r) && (pairOk p c && rfl' (some c) r))
      cases pairOk p c <;> cases lastLow (c :: r) <;> simp
    · have hl : lowB c = false := by cases h : lowB c <;> simp_all
      have hm : mid c = false := by cases h : mid c <;> simp_all
      rw [hl, hm]; simp
def bucketB (s : ByteArray) : Bool := decide (3 ≤ s.size) && (decide (s.size ≤ 63) && (!addrL s.data.toList && lab true s.data.toList))
theorem lab_first (c : UInt8) (r : List UInt8) (hr : r ≠ []) : lab true (c :: r) = (lowB c && (lastLow (c :: r) && rfl' none (c :: r))) := by
  conv => lhs; unfold lab
  conv => rhs; unfold rfl'
  cases hl : lowB c
  · simp
  · have := lab_rfl r c (by rw [hl]; rfl)
    rw [hl] at this
    simp only [Bool.true_or, Bool.true_and] at this ⊢
    rw [this]
theorem u8_ne {b : UInt8} {c : Nat} (hc : c < 256) : ((b.toNat : Int) != (c : Int)) = !decide (b = UInt8.ofNat c) := by rw [← u8_eq hc]; rfl
theorem bucket_J (n : Nat) (s : ByteArray) (hs : s.size ≤ 63) : ∀ (m k : Nat), k ≤ s.size → s.size - k < m →
    F_label_Bucket.J2 n m (s, (s.size : Int), (k : Int), ()) = some (lab (decide (k = 0)) (s.data.toList.drop k), ())
  | 0, k, _, h => by omega
  | m + 1, k, hk, h => by
    have hsz := size_eq s
    rw [F_label_Bucket.e2]
    simp only [hide_eq]
    by_cases hlt : k < s.size
    · have ih := bucket_J n s hs m (k + 1) (by omega) (by omega)
      rw [decide_eq_false (show ¬ (k + 1 = 0) by omega)] at ih
      have hg : (0 ≤ (k : Int) ∧ (k : Int) < (s.size : Int)) := ⟨by omega, by omega⟩
      simp only [gIf_pos hg]
      rw [decide_eq_true (by omega), bIf_true, bt_nat, among_low, bnd_some, cast_up k (by omega), ih, wrap_i64 (x := (s.size : Int) - 1) (by omega)]
      rw [drop_getD s.data.toList (k := k) (by omega)]
      have e1 : (((s.data.toList.getD k 0).toNat : Int) != 45) = !decide (s.data.toList.getD k 0 = 45) := u8_ne (c := 45) (by decide)
      have e2 : (((s.data.toList.getD k 0).toNat : Int) != 46) = !decide (s.data.toList.getD k 0 = 46) := u8_ne (c := 46) (by decide)
      rw [e1, e2]
      generalize hc : s.data.toList.getD k 0 = c
      conv => rhs; unfold lab
      have e3 : ((k : Int) == 0) = decide (k = 0) := by
        by_cases h0 : k = 0
        · subst h0; rfl
        · rw [decide_eq_false h0]; exact beq_false_of_ne (by omega)
      have e4 : ((k : Int) == (s.size : Int) - 1) = decide (k + 1 = s.size) := by
        by_cases h0 : k + 1 = s.size
        · rw [decide_eq_true h0]; exact beq_iff_eq.2 (by omega)
        · rw [decide_eq_false h0]; exact beq_false_of_ne (by omega)
      rw [e3, e4]
      cases hl : lowB c
      · simp only [bIf_false]
        unfold mid
        by_cases hend : k + 1 = s.size
        · rw [decide_eq_true hend, show s.data.toList.drop (k + 1) = [] from List.drop_eq_nil_of_le (by omega)]
          cases decide (c = 45) <;> cases decide (c = 46) <;> cases decide (k = 0) <;> rfl
        · rw [decide_eq_false hend]
          have hJ3 : F_label_Bucket.J3 n m (s, (k : Int), (s.size : Int), (k : Int), ()) = some (!badN c (s.data.toList.getD (k + 1) 0) && lab false (s.data.toList.drop (k + 1)), ()) := by
            rw [F_label_Bucket.e3, cast_up k (by omega), gIf_pos ⟨by omega, by omega⟩, bt_nat, bt_nat, hc, ih]
            simp only [hide_eq, gIf_pos hg]
            have f1 : (((s.data.toList.getD (k + 1) 0).toNat : Int) == 46) = decide (s.data.toList.getD (k + 1) 0 = 46) := u8_eq (c := 46) (by decide)
            have f2 : (((s.data.toList.getD (k + 1) 0).toNat : Int) == 45) = decide (s.data.toList.getD (k + 1) 0 = 45) := u8_eq (c := 45) (by decide)
            have f3 : ((c.toNat : Int) == 46) = decide (c = 46) := u8_eq (c := 46) (by decide)
            rw [f1, f2, f3]
            unfold badN
            cases decide (s.data.toList.getD (k + 1) 0 = 46) <;> cases decide (s.data.toList.getD (k + 1) 0 = 45) <;> cases decide (c = 46) <;> rfl
          rw [hJ3]
          have hm : nxt c (s.data.toList.drop (k + 1)) = !badN c (s.data.toList.getD (k + 1) 0) := by
            rw [drop_getD s.data.toList (k := k + 1) (by omega)]; rfl
          rw [hm]
          cases decide (c = 45) <;> cases decide (c = 46) <;> cases decide (k = 0) <;> simp [bIf_true, bIf_false]
      · simp only [bIf_true, Bool.true_or, Bool.true_and]
    · have hkk : k = s.size := by omega
      subst hkk
      rw [decide_eq_false (by omega), bIf_false, F_label_Bucket.e4, hsz, List.drop_length]
      rfl
theorem label_Bucket {n : Nat} (hn : 300 ≤ n) (s : ByteArray) : F_label_Bucket.f n s = some (bucketB s, ()) := by
  rw [F_label_Bucket.e0]
  simp only [hide_eq]
  unfold bucketB
  have e1 : decide ((s.size : Int) < 3) = !decide (3 ≤ s.size) := dec_not (by omega)
  have e2 : decide ((s.size : Int) > 63) = !decide (s.size ≤ 63) := dec_not (by omega)
  rw [e1, e2]
  by_cases h : s.size ≤ 63
  · rw [label_address hn h, bnd_some, decide_eq_true h, F_label_Bucket.e1]
    have := bucket_J n s h n 0 (by omega) (by omega)
    rw [show ((0 : Nat) : Int) = 0 from rfl, List.drop_zero] at this
    rw [this]
    cases decide (3 ≤ s.size) <;> cases addrL s.data.toList <;> simp [bIf_true, bIf_false]
  · rw [decide_eq_false h]
    cases decide (3 ≤ s.size) <;> rfl
def prevU (l : List UInt8) (k : Nat) : Option UInt8 := if k = 0 then none else some (l.getD (k - 1) 0)
theorem ref_bucket_J (n : Nat) (s : ByteArray) (hs : s.size ≤ 63) : ∀ (m k : Nat), k ≤ s.size → s.size - k < m →
    F_ref06_Bucket.J2 n m (s, (k : Int), ()) = some (rfl' (prevU s.data.toList k) (s.data.toList.drop k), ())
  | 0, k, _, h => by omega
  | m + 1, k, hk, h => by
    have hsz := size_eq s
    rw [F_ref06_Bucket.e2]
    simp only [hide_eq]
    by_cases hlt : k < s.size
    · have ih := ref_bucket_J n s hs m (k + 1) (by omega) (by omega)
      have hg : (0 ≤ (k : Int) ∧ (k : Int) < (s.size : Int)) := ⟨by omega, by omega⟩
      simp only [gIf_pos hg]
      rw [decide_eq_true (by omega), bIf_true, bt_nat, ref_low, bnd_some]
      rw [drop_getD s.data.toList (k := k) (by omega)]
      have e1 : (((s.data.toList.getD k 0).toNat : Int) != 45) = !decide (s.data.toList.getD k 0 = 45) := u8_ne (c := 45) (by decide)
      have e2 : (((s.data.toList.getD k 0).toNat : Int) != 46) = !decide (s.data.toList.getD k 0 = 46) := u8_ne (c := 46) (by decide)
      have e5 : (((s.data.toList.getD k 0).toNat : Int) == 45) = decide (s.data.toList.getD k 0 = 45) := u8_eq (c := 45) (by decide)
      rw [e1, e2]
      have hp : prevU s.data.toList (k + 1) = some (s.data.toList.getD k 0) := by unfold prevU; rw [if_neg (by omega), Nat.add_sub_cancel]
      rw [hp] at ih
      have hJ4 : F_ref06_Bucket.J4 n m (s, (k : Int), ()) = some (rfl' (some (s.data.toList.getD k 0)) (s.data.toList.drop (k + 1)), ()) := by
        rw [F_ref06_Bucket.e4, cast_up k (by omega), ih]
      have hJ3 : F_ref06_Bucket.J3 n m (s, (k : Int), ()) = some ((match prevU s.data.toList k with | none => true | some p => pairOk p (s.data.toList.getD k 0)) && rfl' (some (s.data.toList.getD k 0)) (s.data.toList.drop (k + 1)), ()) := by
        rw [F_ref06_Bucket.e3]
        simp only [hide_eq, gIf_pos hg]
        by_cases h0 : k = 0
        · subst h0
          rw [decide_eq_false (by omega), bIf_false, hJ4]; rfl
        · have hw : IntKind.i64.wrap ((k : Int) - 1) = ((k - 1 : Nat) : Int) := by rw [wrap_i64 (by omega)]; omega
          have hg2 : (0 ≤ ((k - 1 : Nat) : Int) ∧ ((k - 1 : Nat) : Int) < (s.size : Int)) := ⟨by omega, by omega⟩
          rw [hw, decide_eq_true (by omega), bIf_true]
          simp only [gIf_pos hg2]
          rw [bt_nat, bt_nat, ref_low, ref_low, bnd_some, bnd_some, e5, hJ4]
          have e6 : (((s.data.toList.getD (k - 1) 0).toNat : Int) == 45) = decide (s.data.toList.getD (k - 1) 0 = 45) := u8_eq (c := 45) (by decide)
          rw [e6]
          unfold prevU
          rw [if_neg h0]
          change _ = some (pairOk (s.data.toList.getD (k - 1) 0) (s.data.toList.getD k 0) && rfl' (some (s.data.toList.getD k 0)) (s.data.toList.drop (k + 1)), ())
          unfold pairOk
          generalize s.data.toList.getD k 0 = c
          generalize s.data.toList.getD (k - 1) 0 = p
          cases lowB c <;> cases lowB p <;> cases decide (c = 45) <;> cases decide (p = 45) <;> rfl
      rw [hJ3]
      conv => rhs; unfold rfl'
      unfold mid
      generalize s.data.toList.getD k 0 = c
      cases lowB c <;> cases decide (c = 45) <;> cases decide (c = 46) <;> simp [bIf_true, bIf_false]
    · have hkk : k = s.size := by omega
      subst hkk
      rw [decide_eq_false (by omega), bIf_false, F_ref06_Bucket.e5, hsz, List.drop_length]
      cases prevU s.data.toList s.data.toList.length <;> rfl
theorem lastLow_getD : ∀ (l : List UInt8), l ≠ [] → lastLow l = lowB (l.getD (l.length - 1) 0)
  | [], h => absurd rfl h
  | [c], _ => rfl
  | c :: d :: r, _ => by
    unfold lastLow
    rw [lastLow_getD (d :: r) (by simp)]
    simp
theorem ref06_Bucket {n : Nat} (hn : 300 ≤ n) (s : ByteArray) : F_ref06_Bucket.f n s = some (bucketB s, ()) := by
  rw [F_ref06_Bucket.e0]
  simp only [hide_eq]
  unfold bucketB
  have e1 : decide ((s.size : Int) < 3) = !decide (3 ≤ s.size) := dec_not (by omega)
  have e2 : decide ((s.size : Int) > 63) = !decide (s.size ≤ 63) := dec_not (by omega)
  rw [e1, e2]
  by_cases h3 : 3 ≤ s.size
  · by_cases h : s.size ≤ 63
    · have hsz := size_eq s
      have hw : IntKind.i64.wrap ((s.size : Int) - 1) = ((s.size - 1 : Nat) : Int) := by rw [wrap_i64 (by omega)]; omega
      have hg0 : (0 ≤ (0 : Int) ∧ (0 : Int) < (s.size : Int)) := ⟨by omega, by omega⟩
      have hg1 : (0 ≤ ((s.size - 1 : Nat) : Int) ∧ ((s.size - 1 : Nat) : Int) < (s.size : Int)) := ⟨by omega, by omega⟩
      simp only [hw, gIf_pos hg0, gIf_pos hg1]
      rw [decide_eq_true h3, decide_eq_true h, show bt s 0 = bt s ((0 : Nat) : Int) from rfl, bt_nat, bt_nat, ref_low, ref_low, bnd_some, bnd_some, ref_four hn h, bnd_some, F_ref06_Bucket.e1]
      have := ref_bucket_J n s h n 0 (by omega) (by omega)
      rw [show ((0 : Nat) : Int) = 0 from rfl, List.drop_zero] at this
      rw [this]
      cases hl : s.data.toList with
      | nil => exact absurd (congrArg List.length hl) (by rw [← hsz]; simp only [List.length_nil]; omega)
      | cons c r =>
        have hr : r ≠ [] := by
          intro hr; subst hr; rw [hl] at hsz; simp at hsz; omega
        rw [lab_first c r hr, lastLow_getD (c :: r) (by simp)]
        have ea : (c :: r).getD 0 0 = c := rfl
        have eb : (c :: r).length = s.size := by rw [hsz, hl]
        rw [ea, eb]
        have ep : prevU (c :: r) 0 = none := rfl
        rw [ep]
        cases lowB c <;> cases lowB ((c :: r).getD (s.size - 1) 0) <;> cases addrL (c :: r) <;> simp [bIf_true, bIf_false]
    · rw [decide_eq_false h]
      cases decide (3 ≤ s.size) <;> rfl
  · rw [decide_eq_false h3]; rfl
end Go.Proofs.YtfpedialdcgnhaaGreatDoor
namespace Go.Proofs.YtfpedialdcgnhaaGreatDoor
open Go Go.Va Go.Proofs
abbrev E : Type := D_api_Entry
structure EB (n : Nat) (e : E) : Prop where
  buck : e.2.2.1.size < n
  key : e.2.2.2.1.size < n
  id : 0 ≤ e.2.2.2.2.1
  ver : VB n e.2.2.2.2.2.1
  tags : TsB n e.2.2.2.2.2.2.2.1
  rules : RusB n e.2.2.2.2.2.2.2.2.2.1
  grants : GrsB n e.2.2.2.2.2.2.2.2.2.2.1
structure EsB (n : Nat) (l : List E) : Prop where
  len : l.length < n
  all : ∀ e ∈ l, EB n e
def hasB (k : Int) : ByteArray :=
  if k = 1 ∨ k = 2 ∨ k = 3 then ⟨#[46]⟩ else if k = 4 then ⟨#[100]⟩ else if k = 5 then ⟨#[114]⟩ else if k = 6 then ⟨#[103]⟩ else if k = 7 then ⟨#[107, 118]⟩
  else if k = 8 then ⟨#[107, 105]⟩ else if k = 9 then ⟨#[107, 105, 108]⟩ else if k = 10 ∨ k = 11 then ⟨#[107, 105, 116]⟩ else if k = 12 then ⟨#[105, 112]⟩ else if k = 13 then ⟨#[105]⟩ else ⟨#[]⟩
def inB (s : ByteArray) (c : Nat) : Bool := s.data.toList.any fun b => decide (b = UInt8.ofNat c)
def fld (h : ByteArray) (c : Nat) (good zero : Bool) : Bool := if inB h c then good else zero
abbrev verZ : Ver := (0, (false, (0, (0, ((List.replicate 32 0), (0, ((0, (0, (false, ()))), ([], ()))))))))
end Go.Proofs.YtfpedialdcgnhaaGreatDoor
namespace Go.Proofs.YtfpedialdcgnhaaGreatDoor
open Go Go.Va Go.Proofs
abbrev lockZ : D_api_Lock := (0, (0, (false, ())))
abbrev partZ : D_api_Part := (0, (0, (0, ((List.replicate 32 0), ()))))
theorem defRefl (p : D_api_Default) : eqD T_api_Default p p = true := by
  change (decide (p.1 = p.1) && (decide (p.2.1 = p.2.1) && true)) = true
  rw [decide_eq_true rfl, decide_eq_true rfl]; rfl
theorem c00 : (((0 : Nat) : Int) == (0 : Int)) = true := rfl
theorem bucket_nil (b : ByteArray) (h : eqS b ⟨#[]⟩ = true) : bucketB b = false := by
  rw [size0, decide_eq_true_iff] at h
  unfold bucketB
  rw [decide_eq_false (by omega)]; rfl
end Go.Proofs.YtfpedialdcgnhaaGreatDoor
namespace Go.Proofs.YtfpedialdcgnhaaGreatDoor
open Go Go.Va Go.Proofs
def packF : Nat → Nat → List Int
  | 0, _ => []
  | k + 1, x => if x < 128 then [(x : Int)] else ((x % 128 + 128 : Nat) : Int) :: packF k (x / 128)
def eN (x : Int) : List Int := packF 10 x.toNat
def U64 (x : Int) : Prop := 0 ≤ x ∧ x < 18446744073709551616
def I64 (x : Int) : Prop := -9223372036854775808 ≤ x ∧ x < 9223372036854775808
def zigI (t : Int) : Int := if 0 ≤ t then 2 * t else -2 * t - 1
end Go.Proofs.YtfpedialdcgnhaaGreatDoor
namespace Go.Proofs.YtfpedialdcgnhaaGreatDoor
open Go Go.Va Go.Proofs
structure BB (n : Nat) (b : List Int) : Prop where
  len : b.length < n
  byte : ∀ x ∈ b, 0 ≤ x ∧ x ≤ 255
end Go.Proofs.YtfpedialdcgnhaaGreatDoor
namespace Go.Proofs.YtfpedialdcgnhaaGreatDoor
open Go Go.Va Go.Proofs
def eW (x : Int) : List Int := eN (IntKind.u64.wrap x)
def eI (t : Int) : List Int := eN (zigI t)
def eF (b : Bool) : List Int := [if b then 1 else 0]
def eT (s : ByteArray) : List Int := eW (s.size : Int) ++ ofBytes s
def eTag (t : D_api_Tag) : List Int := eT t.1 ++ eT t.2.1
def eTags (l : List D_api_Tag) : List Int := eW ((l.length : Nat) : Int) ++ l.flatMap eTag
def eLock (l : D_api_Lock) : List Int := eW l.1 ++ (eI l.2.1 ++ eF l.2.2.1)
def eVer (v : Ver) : List Int := eN v.1 ++ (eF (mark v) ++ (eI (made v) ++ if mark v then [] else eW (vsize v) ++ (eN (blob v) ++ (dig v ++ (eLock (lock v) ++ eTags (tags v))))))
def eDef (d : D_api_Default) : List Int := eW d.1 ++ eW d.2.1
def eRule (r : D_api_Rule) : List Int := eT r.1 ++ (eTags r.2.1 ++ (eW r.2.2.1 ++ (eW r.2.2.2.1 ++ eF r.2.2.2.2.1)))
def eRules (l : List D_api_Rule) : List Int := eW ((l.length : Nat) : Int) ++ l.flatMap eRule
def eGrant (g : D_api_Grant) : List Int := eF g.1 ++ (eT g.2.1 ++ (eT g.2.2.1 ++ eT g.2.2.2.1))
def eGrants (l : List D_api_Grant) : List Int := eW ((l.length : Nat) : Int) ++ l.flatMap eGrant
def ePart (p : D_api_Part) : List Int := eW p.1 ++ (eW p.2.1 ++ (eN p.2.2.1 ++ p.2.2.2.1))
def fldE (e : E) (c : UInt8) : List Int :=
  if c = 107 then eT e.2.2.2.1 else if c = 105 then eN e.2.2.2.2.1 else if c = 118 then eVer e.2.2.2.2.2.1 else if c = 108 then eLock e.2.2.2.2.2.2.1 else if c = 116 then eTags e.2.2.2.2.2.2.2.1
  else if c = 100 then eDef e.2.2.2.2.2.2.2.2.1 else if c = 114 then eRules e.2.2.2.2.2.2.2.2.2.1 else if c = 103 then eGrants e.2.2.2.2.2.2.2.2.2.2.1 else if c = 112 then ePart e.2.2.2.2.2.2.2.2.2.2.2.1 else []
def eE (e : E) : List Int := eW e.1 ++ (eI e.2.1 ++ ((if e.1 = 1 then [] else eT e.2.2.1) ++ (hasB e.1).data.toList.flatMap (fldE e)))
structure ER (e : E) : Prop where
  time : I64 e.2.1
  id : U64 e.2.2.2.2.1
  vid : U64 e.2.2.2.2.2.1.1
  vmade : I64 (made e.2.2.2.2.2.1)
  vblob : U64 (blob e.2.2.2.2.2.1)
  vdig : (dig e.2.2.2.2.2.1).length = 32
  vlock : I64 (lock e.2.2.2.2.2.1).2.1
  lock : I64 e.2.2.2.2.2.2.1.2.1
  pblob : U64 e.2.2.2.2.2.2.2.2.2.2.2.1.2.2.1
  pdig : e.2.2.2.2.2.2.2.2.2.2.2.1.2.2.2.1.length = 32
end Go.Proofs.YtfpedialdcgnhaaGreatDoor
namespace Go.Proofs.YtfpedialdcgnhaaGreatDoor
open Go Go.Va Go.Proofs
end Go.Proofs.YtfpedialdcgnhaaGreatDoor
namespace Go.Proofs.YtfpedialdcgnhaaGreatDoor
open Go Go.Va Go.Proofs
structure Snd (e : E) : Prop where
  kind : 1 ≤ e.1 ∧ e.1 ≤ 13
  time : clampI e.2.1 = e.2.1
  buck : (if e.1 = 1 then eqS e.2.2.1 ⟨#[]⟩ else bucketB e.2.2.1) = true
  key : fld (hasB e.1) 107 (keyB e.2.2.2.1) (eqS e.2.2.2.1 ⟨#[]⟩) = true
  id : fld (hasB e.1) 105 (decide (e.2.2.2.2.1 ≥ 1)) (e.2.2.2.2.1 == 0) = true
  ver : fld (hasB e.1) 118 (verB e.2.2.2.2.2.1 && (e.2.2.2.2.2.1.2.2.2.2.2.1 == e.2.1)) (sameV e.2.2.2.2.2.1 verZ) = true
  lock : fld (hasB e.1) 108 (lockB e.2.2.2.2.2.2.1) (eqD T_api_Lock e.2.2.2.2.2.2.1 (0, (0, (false, ())))) = true
  tags : fld (hasB e.1) 116 (tagsB e.2.2.2.2.2.2.2.1) (((e.2.2.2.2.2.2.2.1.length : Nat) : Int) == 0) = true
  dflt : fld (hasB e.1) 100 (modeB e.2.2.2.2.2.2.2.2.1) (eqD T_api_Default e.2.2.2.2.2.2.2.2.1 (0, (0, ()))) = true
  rules : fld (hasB e.1) 114 (rulesB e.2.2.2.2.2.2.2.2.2.1) (((e.2.2.2.2.2.2.2.2.2.1.length : Nat) : Int) == 0) = true
  grants : fld (hasB e.1) 103 (grantsB e.2.2.2.2.2.2.2.2.2.2.1) (((e.2.2.2.2.2.2.2.2.2.2.1.length : Nat) : Int) == 0) = true
  part : fld (hasB e.1) 112 (partB e.2.2.2.2.2.2.2.2.2.2.2.1) (eqD T_api_Part e.2.2.2.2.2.2.2.2.2.2.2.1 partZ) = true
structure EsR (n : Nat) (l : List E) : Prop where
  b : EsB n l
  r : ∀ e ∈ l, ER e
end Go.Proofs.YtfpedialdcgnhaaGreatDoor
namespace Go.Proofs.YtfpedialdcgnhaaGreatDoor
open Go Go.Va Go.Proofs
theorem eqS_eq' {a b : ByteArray} (h : eqS a b = true) : a = b := by rw [eqS_eq, ba_beq] at h; exact of_decide_eq_true h
theorem lockEq {a b : D_api_Lock} (h : eqD T_api_Lock a b = true) : a = b := by
  have h : (decide (a.1 = b.1) && (decide (a.2.1 = b.2.1) && ((a.2.2.1 == b.2.2.1) && true))) = true := h
  simp only [Bool.and_eq_true, decide_eq_true_iff, beq_iff_eq, and_true] at h
  obtain ⟨h1, h2, h3⟩ := h
  obtain ⟨a1, a2, a3, a4⟩ := a
  obtain ⟨b1, b2, b3, b4⟩ := b
  dsimp only at h1 h2 h3
  rw [h1, h2, h3]
theorem defEq {a b : D_api_Default} (h : eqD T_api_Default a b = true) : a = b := by
  have h : (decide (a.1 = b.1) && (decide (a.2.1 = b.2.1) && true)) = true := h
  simp only [Bool.and_eq_true, decide_eq_true_iff, and_true] at h
  obtain ⟨h1, h2⟩ := h
  obtain ⟨a1, a2, a4⟩ := a
  obtain ⟨b1, b2, b4⟩ := b
  dsimp only at h1 h2
  rw [h1, h2]
theorem len0 {α : Type} {l : List α} (h : (((l.length : Nat) : Int) == 0) = true) : l = [] := by
  rw [beq_iff_eq] at h; exact List.eq_nil_of_length_eq_zero (by omega)
end Go.Proofs.YtfpedialdcgnhaaGreatDoor
namespace Go.Proofs.YtfpedialdcgnhaaGreatDoor
open Go Go.Va Go.Proofs
abbrev Q : Type := D_api_Request
abbrev spotZ : D_api_Spot := ((⟨#[]⟩ : ByteArray), ((⟨#[]⟩ : ByteArray), (0, ())))
def nameB (s : ByteArray) : Bool := decide (s.size ≤ 200) && cleanB s
structure QB (n : Nat) (e : Q) : Prop where
  w : e.2.1.size < n
  b : e.2.2.1.size < n
  y : e.2.2.2.1.size < n
  i : 0 ≤ e.2.2.2.2.1
  bo : e.2.2.2.2.2.1.length < n
  tg : TsB n e.2.2.2.2.2.2.1
  r : RusB n e.2.2.2.2.2.2.2.2.2.2.1
  g : GrsB n e.2.2.2.2.2.2.2.2.2.2.2.1
  ns : e.2.2.2.2.2.2.2.2.2.2.2.2.2.1.length < n
  af : e.2.2.2.2.2.2.2.2.2.2.2.2.2.2.1.size < n
  pr : e.2.2.2.2.2.2.2.2.2.2.2.2.2.2.2.1.size < n
  ma : e.2.2.2.2.2.2.2.2.2.2.2.2.2.2.2.2.1.size < n
  fb : e.2.2.2.2.2.2.2.2.2.2.2.2.2.2.2.2.2.1.1.size < n
  fk : e.2.2.2.2.2.2.2.2.2.2.2.2.2.2.2.2.2.1.2.1.size < n
  fi : 0 ≤ e.2.2.2.2.2.2.2.2.2.2.2.2.2.2.2.2.2.1.2.2.1
theorem hide_n (x : Bool) : hide x = x := by cases x <;> rw [hide_eq]
theorem bIf_t {α : Type} (x y : α) : bIf true x y = x := by rw [bIf_eq, if_pos rfl]
theorem bIf_f {α : Type} (x y : α) : bIf false x y = y := by rw [bIf_eq, if_neg (by decide)]
theorem bnd_s {α β : Type} (a : α) (f : α → Option β) : bnd (some a) f = f a := by rw [bnd_some]
theorem acts_name {n : Nat} (hn2 : n ≤ 536870912) {s : ByteArray} (h : s.size < n) : F_acts_name.f n s = some (nameB s, ()) := by
  rw [F_acts_name.e0, clean42 (by omega) h]
  simp only [hide_eq, bnd_some, bIf_and]
  rw [show (200 : Int) = ((200 : Nat) : Int) from rfl, dec_cast]; rfl
theorem s_may (n : Nat) (R : Q) (ok : Bool) (v : Unit) (b : Bool) : F_acts_strip_may.f n (R, (ok, v)) b = some ((R, (ok && b, v)), ()) := by
  rw [F_acts_strip_may.e0]; cases ok <;> rfl
theorem s_key {n : Nat} (hn2 : n ≤ 536870912) (k : Int) (w : ByteArray) (b : ByteArray) (y : ByteArray) (i : Int) (bo : List Int) (tg : List D_api_Tag) (l : D_api_Lock) (q : Bool) (d : D_api_Default) (r : List D_api_Rule) (g : List D_api_Grant) (nu : Int) (ns : List Int) (af : ByteArray) (pr : ByteArray) (ma : ByteArray) (fr : D_api_Spot) (mx : Int) (u : Unit) (ok : Bool) (v : Unit) (h : y.size < n) : F_acts_strip_key.f n ((k, w, b, y, i, bo, tg, l, q, d, r, g, nu, ns, af, pr, ma, fr, mx, u), (ok, v)) = some (((k, w, b, (⟨#[]⟩ : ByteArray), i, bo, tg, l, q, d, r, g, nu, ns, af, pr, ma, fr, mx, u), (ok && keyB y, v)), ()) := by
  rw [F_acts_strip_key.e0]
  try dsimp only
  rw [key24 h hn2, bnd_some, s_may, bnd_some]
theorem s_id {n : Nat} (hn2 : n ≤ 536870912) (k : Int) (w : ByteArray) (b : ByteArray) (y : ByteArray) (i : Int) (bo : List Int) (tg : List D_api_Tag) (l : D_api_Lock) (q : Bool) (d : D_api_Default) (r : List D_api_Rule) (g : List D_api_Grant) (nu : Int) (ns : List Int) (af : ByteArray) (pr : ByteArray) (ma : ByteArray) (fr : D_api_Spot) (mx : Int) (u : Unit) (ok : Bool) (v : Unit) (le : Int) : F_acts_strip_id.f n ((k, w, b, y, i, bo, tg, l, q, d, r, g, nu, ns, af, pr, ma, fr, mx, u), (ok, v)) le = some (((k, w, b, y, 0, bo, tg, l, q, d, r, g, nu, ns, af, pr, ma, fr, mx, u), (ok && decide (i ≥ le), v)), ()) := by
  rw [F_acts_strip_id.e0]
  try dsimp only
  rw [s_may, bnd_some, hide_eq]
theorem s_body {n : Nat} (hn2 : n ≤ 536870912) (k : Int) (w : ByteArray) (b : ByteArray) (y : ByteArray) (i : Int) (bo : List Int) (tg : List D_api_Tag) (l : D_api_Lock) (q : Bool) (d : D_api_Default) (r : List D_api_Rule) (g : List D_api_Grant) (nu : Int) (ns : List Int) (af : ByteArray) (pr : ByteArray) (ma : ByteArray) (fr : D_api_Spot) (mx : Int) (u : Unit) (ok : Bool) (v : Unit) : F_acts_strip_body.f n ((k, w, b, y, i, bo, tg, l, q, d, r, g, nu, ns, af, pr, ma, fr, mx, u), (ok, v)) = some (((k, w, b, y, i, [], tg, l, q, d, r, g, nu, ns, af, pr, ma, fr, mx, u), (ok && decide (((bo.length : Nat) : Int) ≤ 1024), v)), ()) := by
  rw [F_acts_strip_body.e0]
  try dsimp only
  rw [s_may, bnd_some, hide_eq]
theorem s_tags {n : Nat} (hn2 : n ≤ 536870912) (k : Int) (w : ByteArray) (b : ByteArray) (y : ByteArray) (i : Int) (bo : List Int) (tg : List D_api_Tag) (l : D_api_Lock) (q : Bool) (d : D_api_Default) (r : List D_api_Rule) (g : List D_api_Grant) (nu : Int) (ns : List Int) (af : ByteArray) (pr : ByteArray) (ma : ByteArray) (fr : D_api_Spot) (mx : Int) (u : Unit) (ok : Bool) (v : Unit) (h : TsB n tg) : F_acts_strip_tags.f n ((k, w, b, y, i, bo, tg, l, q, d, r, g, nu, ns, af, pr, ma, fr, mx, u), (ok, v)) = some (((k, w, b, y, i, bo, [], l, q, d, r, g, nu, ns, af, pr, ma, fr, mx, u), (ok && tagsB tg, v)), ()) := by
  rw [F_acts_strip_tags.e0]
  try dsimp only
  rw [tags35 hn2 h, bnd_some, s_may, bnd_some]
theorem s_lock {n : Nat} (hn2 : n ≤ 536870912) (k : Int) (w : ByteArray) (b : ByteArray) (y : ByteArray) (i : Int) (bo : List Int) (tg : List D_api_Tag) (l : D_api_Lock) (q : Bool) (d : D_api_Default) (r : List D_api_Rule) (g : List D_api_Grant) (nu : Int) (ns : List Int) (af : ByteArray) (pr : ByteArray) (ma : ByteArray) (fr : D_api_Spot) (mx : Int) (u : Unit) (ok : Bool) (v : Unit) (c : Bool) : F_acts_strip_lock.f n ((k, w, b, y, i, bo, tg, l, q, d, r, g, nu, ns, af, pr, ma, fr, mx, u), (ok, v)) c = some (((k, w, b, y, i, bo, tg, lockZ, q, d, r, g, nu, ns, af, pr, ma, fr, mx, u), (ok && (lockB l && c), v)), ()) := by
  rw [F_acts_strip_lock.e0]
  try dsimp only
  rw [lock34, bnd_some, s_may, s_may, bnd_some, bnd_some]; cases lockB l <;> rfl
theorem s_from {n : Nat} (hn2 : n ≤ 536870912) (k : Int) (w : ByteArray) (b : ByteArray) (y : ByteArray) (i : Int) (bo : List Int) (tg : List D_api_Tag) (l : D_api_Lock) (q : Bool) (d : D_api_Default) (r : List D_api_Rule) (g : List D_api_Grant) (nu : Int) (ns : List Int) (af : ByteArray) (pr : ByteArray) (ma : ByteArray) (fr : D_api_Spot) (mx : Int) (u : Unit) (ok : Bool) (v : Unit) (c : Bool) : F_acts_strip_from.f n ((k, w, b, y, i, bo, tg, l, q, d, r, g, nu, ns, af, pr, ma, fr, mx, u), (ok, v)) c = some (((k, w, b, y, i, bo, tg, l, q, d, r, g, nu, ns, af, pr, ma, spotZ, mx, u), (ok && c, v)), ()) := by
  rw [F_acts_strip_from.e0]
  try dsimp only
  rw [s_may, bnd_some]
theorem s_page {n : Nat} (hn2 : n ≤ 536870912) (k : Int) (w : ByteArray) (b : ByteArray) (y : ByteArray) (i : Int) (bo : List Int) (tg : List D_api_Tag) (l : D_api_Lock) (q : Bool) (d : D_api_Default) (r : List D_api_Rule) (g : List D_api_Grant) (nu : Int) (ns : List Int) (af : ByteArray) (pr : ByteArray) (ma : ByteArray) (fr : D_api_Spot) (mx : Int) (u : Unit) (ok : Bool) (v : Unit) (h : pr.size < n) : F_acts_strip_page.f n ((k, w, b, y, i, bo, tg, l, q, d, r, g, nu, ns, af, pr, ma, fr, mx, u), (ok, v)) = some (((k, w, b, y, i, bo, tg, l, q, d, r, g, nu, ns, af, (⟨#[]⟩ : ByteArray), ma, fr, 0, u), (ok && (nameB pr && (decide (mx ≥ 1) && decide (mx ≤ 100))), v)), ()) := by
  rw [F_acts_strip_page.e0]
  try dsimp only
  rw [acts_name hn2 h, bnd_some]; simp only [s_may, bnd_some, F_acts_strip_page.e1, hide_eq]; cases nameB pr <;> cases decide (mx ≥ 1) <;> rfl
theorem s_bypass (n : Nat) (k : Int) (w : ByteArray) (b : ByteArray) (y : ByteArray) (i : Int) (bo : List Int) (tg : List D_api_Tag) (l : D_api_Lock) (q : Bool) (d : D_api_Default) (r : List D_api_Rule) (g : List D_api_Grant) (nu : Int) (ns : List Int) (af : ByteArray) (pr : ByteArray) (ma : ByteArray) (fr : D_api_Spot) (mx : Int) (u : Unit) (ok : Bool) (v : Unit) : F_acts_strip_bypass.f n ((k, w, b, y, i, bo, tg, l, q, d, r, g, nu, ns, af, pr, ma, fr, mx, u), (ok, v)) = some (((k, w, b, y, i, bo, tg, l, false, d, r, g, nu, ns, af, pr, ma, fr, mx, u), (ok, v)), ()) := by
  rw [F_acts_strip_bypass.e0]
theorem s_bare (n : Nat) (k : Int) (w : ByteArray) (b : ByteArray) (y : ByteArray) (i : Int) (bo : List Int) (tg : List D_api_Tag) (l : D_api_Lock) (q : Bool) (d : D_api_Default) (r : List D_api_Rule) (g : List D_api_Grant) (nu : Int) (ns : List Int) (af : ByteArray) (pr : ByteArray) (ma : ByteArray) (fr : D_api_Spot) (mx : Int) (u : Unit) : F_acts_bare.f n (k, w, b, y, i, bo, tg, l, q, d, r, g, nu, ns, af, pr, ma, fr, mx, u) = some (eqS y ⟨#[]⟩ && ((i == 0) && ((((bo.length : Nat) : Int) == 0) && ((((tg.length : Nat) : Int) == 0) && (eqD T_api_Lock l lockZ && ((!q) && (eqD T_api_Default d (0, (0, ())) && ((((r.length : Nat) : Int) == 0) && ((((g.length : Nat) : Int) == 0) && ((nu == 0) && ((((ns.length : Nat) : Int) == 0) && (eqS af ⟨#[]⟩ && (eqS pr ⟨#[]⟩ && (eqS ma ⟨#[]⟩ && (eqD T_api_Spot fr spotZ && ((mx == 0)))))))))))))))), ()) := by
  rw [F_acts_bare.e0]
  simp only [hide_eq, bIf_and]
theorem own_1 {n : Nat} (h3 : 300 ≤ n) (hn2 : n ≤ 536870912) (w : ByteArray) (b : ByteArray) (y : ByteArray) (i : Int) (bo : List Int) (tg : List D_api_Tag) (l : D_api_Lock) (q : Bool) (d : D_api_Default) (r : List D_api_Rule) (g : List D_api_Grant) (nu : Int) (ns : List Int) (af : ByteArray) (pr : ByteArray) (ma : ByteArray) (fr : D_api_Spot) (mx : Int) (u : Unit) (he : QB n (1, w, b, y, i, bo, tg, l, q, d, r, g, nu, ns, af, pr, ma, fr, mx, u)) : F_acts_strip_own.f n ((1, w, b, y, i, bo, tg, l, q, d, r, g, nu, ns, af, pr, ma, fr, mx, u), (true, ())) = some (((1, w, b, y, i, bo, tg, l, q, (0, (0, ())), r, g, nu, ns, af, pr, ma, fr, mx, u), (true && modeB d, ())), ()) := by
  rw [F_acts_strip_own.e0]
  simp only [F_acts_strip_own.e1, F_acts_strip_own.e2, F_acts_strip_own.e3, F_acts_strip_own.e4, hide_n, Int.reduceBEq, bIf_t, bIf_f, bnd_s, s_may, mode_Good, entry_Rules hn2 he.r, entry_Grants hn2 he.g, s_key hn2 (h := he.y), s_id hn2, s_body hn2, s_tags hn2 (h := he.tg), s_lock hn2, s_from hn2, s_page hn2 (h := he.pr), s_bypass, acts_name hn2 he.ma, acts_name hn2 he.af, acts_name hn2 he.fk, label_Bucket h3, key24 he.fk hn2]
theorem own_2 {n : Nat} (h3 : 300 ≤ n) (hn2 : n ≤ 536870912) (w : ByteArray) (b : ByteArray) (y : ByteArray) (i : Int) (bo : List Int) (tg : List D_api_Tag) (l : D_api_Lock) (q : Bool) (d : D_api_Default) (r : List D_api_Rule) (g : List D_api_Grant) (nu : Int) (ns : List Int) (af : ByteArray) (pr : ByteArray) (ma : ByteArray) (fr : D_api_Spot) (mx : Int) (u : Unit) (he : QB n (2, w, b, y, i, bo, tg, l, q, d, r, g, nu, ns, af, pr, ma, fr, mx, u)) : F_acts_strip_own.f n ((2, w, b, y, i, bo, tg, l, q, d, r, g, nu, ns, af, pr, ma, fr, mx, u), (true, ())) = some (((2, w, b, y, i, bo, tg, l, q, d, r, g, nu, ns, af, pr, ma, fr, mx, u), (true, ())), ()) := by
  rw [F_acts_strip_own.e0]
  simp only [F_acts_strip_own.e1, F_acts_strip_own.e2, F_acts_strip_own.e3, F_acts_strip_own.e4, hide_n, Int.reduceBEq, bIf_t, bIf_f, bnd_s, s_may, mode_Good, entry_Rules hn2 he.r, entry_Grants hn2 he.g, s_key hn2 (h := he.y), s_id hn2, s_body hn2, s_tags hn2 (h := he.tg), s_lock hn2, s_from hn2, s_page hn2 (h := he.pr), s_bypass, acts_name hn2 he.ma, acts_name hn2 he.af, acts_name hn2 he.fk, label_Bucket h3, key24 he.fk hn2]
theorem own_3 {n : Nat} (h3 : 300 ≤ n) (hn2 : n ≤ 536870912) (w : ByteArray) (b : ByteArray) (y : ByteArray) (i : Int) (bo : List Int) (tg : List D_api_Tag) (l : D_api_Lock) (q : Bool) (d : D_api_Default) (r : List D_api_Rule) (g : List D_api_Grant) (nu : Int) (ns : List Int) (af : ByteArray) (pr : ByteArray) (ma : ByteArray) (fr : D_api_Spot) (mx : Int) (u : Unit) (he : QB n (3, w, b, y, i, bo, tg, l, q, d, r, g, nu, ns, af, pr, ma, fr, mx, u)) : F_acts_strip_own.f n ((3, w, b, y, i, bo, tg, l, q, d, r, g, nu, ns, af, pr, ma, fr, mx, u), (true, ())) = some (((3, w, b, y, i, bo, tg, l, q, (0, (0, ())), r, g, nu, ns, af, pr, ma, fr, mx, u), (true && modeB d, ())), ()) := by
  rw [F_acts_strip_own.e0]
  simp only [F_acts_strip_own.e1, F_acts_strip_own.e2, F_acts_strip_own.e3, F_acts_strip_own.e4, hide_n, Int.reduceBEq, bIf_t, bIf_f, bnd_s, s_may, mode_Good, entry_Rules hn2 he.r, entry_Grants hn2 he.g, s_key hn2 (h := he.y), s_id hn2, s_body hn2, s_tags hn2 (h := he.tg), s_lock hn2, s_from hn2, s_page hn2 (h := he.pr), s_bypass, acts_name hn2 he.ma, acts_name hn2 he.af, acts_name hn2 he.fk, label_Bucket h3, key24 he.fk hn2]
theorem own_4 {n : Nat} (h3 : 300 ≤ n) (hn2 : n ≤ 536870912) (w : ByteArray) (b : ByteArray) (y : ByteArray) (i : Int) (bo : List Int) (tg : List D_api_Tag) (l : D_api_Lock) (q : Bool) (d : D_api_Default) (r : List D_api_Rule) (g : List D_api_Grant) (nu : Int) (ns : List Int) (af : ByteArray) (pr : ByteArray) (ma : ByteArray) (fr : D_api_Spot) (mx : Int) (u : Unit) (he : QB n (4, w, b, y, i, bo, tg, l, q, d, r, g, nu, ns, af, pr, ma, fr, mx, u)) : F_acts_strip_own.f n ((4, w, b, y, i, bo, tg, l, q, d, r, g, nu, ns, af, pr, ma, fr, mx, u), (true, ())) = some (((4, w, b, y, i, bo, tg, l, q, d, [], g, nu, ns, af, pr, ma, fr, mx, u), (true && rulesB r, ())), ()) := by
  rw [F_acts_strip_own.e0]
  simp only [F_acts_strip_own.e1, F_acts_strip_own.e2, F_acts_strip_own.e3, F_acts_strip_own.e4, hide_n, Int.reduceBEq, bIf_t, bIf_f, bnd_s, s_may, mode_Good, entry_Rules hn2 he.r, entry_Grants hn2 he.g, s_key hn2 (h := he.y), s_id hn2, s_body hn2, s_tags hn2 (h := he.tg), s_lock hn2, s_from hn2, s_page hn2 (h := he.pr), s_bypass, acts_name hn2 he.ma, acts_name hn2 he.af, acts_name hn2 he.fk, label_Bucket h3, key24 he.fk hn2]
theorem own_5 {n : Nat} (h3 : 300 ≤ n) (hn2 : n ≤ 536870912) (w : ByteArray) (b : ByteArray) (y : ByteArray) (i : Int) (bo : List Int) (tg : List D_api_Tag) (l : D_api_Lock) (q : Bool) (d : D_api_Default) (r : List D_api_Rule) (g : List D_api_Grant) (nu : Int) (ns : List Int) (af : ByteArray) (pr : ByteArray) (ma : ByteArray) (fr : D_api_Spot) (mx : Int) (u : Unit) (he : QB n (5, w, b, y, i, bo, tg, l, q, d, r, g, nu, ns, af, pr, ma, fr, mx, u)) : F_acts_strip_own.f n ((5, w, b, y, i, bo, tg, l, q, d, r, g, nu, ns, af, pr, ma, fr, mx, u), (true, ())) = some (((5, w, b, y, i, bo, tg, l, q, d, r, [], nu, ns, af, pr, ma, fr, mx, u), (true && grantsB g, ())), ()) := by
  rw [F_acts_strip_own.e0]
  simp only [F_acts_strip_own.e1, F_acts_strip_own.e2, F_acts_strip_own.e3, F_acts_strip_own.e4, hide_n, Int.reduceBEq, bIf_t, bIf_f, bnd_s, s_may, mode_Good, entry_Rules hn2 he.r, entry_Grants hn2 he.g, s_key hn2 (h := he.y), s_id hn2, s_body hn2, s_tags hn2 (h := he.tg), s_lock hn2, s_from hn2, s_page hn2 (h := he.pr), s_bypass, acts_name hn2 he.ma, acts_name hn2 he.af, acts_name hn2 he.fk, label_Bucket h3, key24 he.fk hn2]
theorem own_6 {n : Nat} (h3 : 300 ≤ n) (hn2 : n ≤ 536870912) (w : ByteArray) (b : ByteArray) (y : ByteArray) (i : Int) (bo : List Int) (tg : List D_api_Tag) (l : D_api_Lock) (q : Bool) (d : D_api_Default) (r : List D_api_Rule) (g : List D_api_Grant) (nu : Int) (ns : List Int) (af : ByteArray) (pr : ByteArray) (ma : ByteArray) (fr : D_api_Spot) (mx : Int) (u : Unit) (he : QB n (6, w, b, y, i, bo, tg, l, q, d, r, g, nu, ns, af, pr, ma, fr, mx, u)) : F_acts_strip_own.f n ((6, w, b, y, i, bo, tg, l, q, d, r, g, nu, ns, af, pr, ma, fr, mx, u), (true, ())) = some (((6, w, b, (⟨#[]⟩ : ByteArray), i, [], [], lockZ, q, d, r, g, nu, ns, af, pr, ma, fr, mx, u), (true && keyB y && decide (((bo.length : Nat) : Int) ≤ 1024) && tagsB tg && (lockB l && true), ())), ()) := by
  rw [F_acts_strip_own.e0]
  simp only [F_acts_strip_own.e1, F_acts_strip_own.e2, F_acts_strip_own.e3, F_acts_strip_own.e4, hide_n, Int.reduceBEq, bIf_t, bIf_f, bnd_s, s_may, mode_Good, entry_Rules hn2 he.r, entry_Grants hn2 he.g, s_key hn2 (h := he.y), s_id hn2, s_body hn2, s_tags hn2 (h := he.tg), s_lock hn2, s_from hn2, s_page hn2 (h := he.pr), s_bypass, acts_name hn2 he.ma, acts_name hn2 he.af, acts_name hn2 he.fk, label_Bucket h3, key24 he.fk hn2]
theorem own_7 {n : Nat} (h3 : 300 ≤ n) (hn2 : n ≤ 536870912) (w : ByteArray) (b : ByteArray) (y : ByteArray) (i : Int) (bo : List Int) (tg : List D_api_Tag) (l : D_api_Lock) (q : Bool) (d : D_api_Default) (r : List D_api_Rule) (g : List D_api_Grant) (nu : Int) (ns : List Int) (af : ByteArray) (pr : ByteArray) (ma : ByteArray) (fr : D_api_Spot) (mx : Int) (u : Unit) (he : QB n (7, w, b, y, i, bo, tg, l, q, d, r, g, nu, ns, af, pr, ma, fr, mx, u)) : F_acts_strip_own.f n ((7, w, b, y, i, bo, tg, l, q, d, r, g, nu, ns, af, pr, ma, fr, mx, u), (true, ())) = some (((7, w, b, (⟨#[]⟩ : ByteArray), 0, bo, tg, l, q, d, r, g, nu, ns, af, pr, ma, fr, mx, u), (true && keyB y && decide (i ≥ 0), ())), ()) := by
  rw [F_acts_strip_own.e0]
  simp only [F_acts_strip_own.e1, F_acts_strip_own.e2, F_acts_strip_own.e3, F_acts_strip_own.e4, hide_n, Int.reduceBEq, bIf_t, bIf_f, bnd_s, s_may, mode_Good, entry_Rules hn2 he.r, entry_Grants hn2 he.g, s_key hn2 (h := he.y), s_id hn2, s_body hn2, s_tags hn2 (h := he.tg), s_lock hn2, s_from hn2, s_page hn2 (h := he.pr), s_bypass, acts_name hn2 he.ma, acts_name hn2 he.af, acts_name hn2 he.fk, label_Bucket h3, key24 he.fk hn2]
theorem own_8 {n : Nat} (h3 : 300 ≤ n) (hn2 : n ≤ 536870912) (w : ByteArray) (b : ByteArray) (y : ByteArray) (i : Int) (bo : List Int) (tg : List D_api_Tag) (l : D_api_Lock) (q : Bool) (d : D_api_Default) (r : List D_api_Rule) (g : List D_api_Grant) (nu : Int) (ns : List Int) (af : ByteArray) (pr : ByteArray) (ma : ByteArray) (fr : D_api_Spot) (mx : Int) (u : Unit) (he : QB n (8, w, b, y, i, bo, tg, l, q, d, r, g, nu, ns, af, pr, ma, fr, mx, u)) : F_acts_strip_own.f n ((8, w, b, y, i, bo, tg, l, q, d, r, g, nu, ns, af, pr, ma, fr, mx, u), (true, ())) = some (((8, w, b, (⟨#[]⟩ : ByteArray), 0, bo, tg, l, q, d, r, g, nu, ns, af, pr, ma, fr, mx, u), (true && keyB y && decide (i ≥ 0), ())), ()) := by
  rw [F_acts_strip_own.e0]
  simp only [F_acts_strip_own.e1, F_acts_strip_own.e2, F_acts_strip_own.e3, F_acts_strip_own.e4, hide_n, Int.reduceBEq, bIf_t, bIf_f, bnd_s, s_may, mode_Good, entry_Rules hn2 he.r, entry_Grants hn2 he.g, s_key hn2 (h := he.y), s_id hn2, s_body hn2, s_tags hn2 (h := he.tg), s_lock hn2, s_from hn2, s_page hn2 (h := he.pr), s_bypass, acts_name hn2 he.ma, acts_name hn2 he.af, acts_name hn2 he.fk, label_Bucket h3, key24 he.fk hn2]
theorem own_9 {n : Nat} (h3 : 300 ≤ n) (hn2 : n ≤ 536870912) (w : ByteArray) (b : ByteArray) (y : ByteArray) (i : Int) (bo : List Int) (tg : List D_api_Tag) (l : D_api_Lock) (q : Bool) (d : D_api_Default) (r : List D_api_Rule) (g : List D_api_Grant) (nu : Int) (ns : List Int) (af : ByteArray) (pr : ByteArray) (ma : ByteArray) (fr : D_api_Spot) (mx : Int) (u : Unit) (he : QB n (9, w, b, y, i, bo, tg, l, q, d, r, g, nu, ns, af, pr, ma, fr, mx, u)) : F_acts_strip_own.f n ((9, w, b, y, i, bo, tg, l, q, d, r, g, nu, ns, af, pr, ma, fr, mx, u), (true, ())) = some (((9, w, b, (⟨#[]⟩ : ByteArray), i, bo, tg, l, q, d, r, g, nu, ns, af, pr, ma, fr, mx, u), (true && keyB y, ())), ()) := by
  rw [F_acts_strip_own.e0]
  simp only [F_acts_strip_own.e1, F_acts_strip_own.e2, F_acts_strip_own.e3, F_acts_strip_own.e4, hide_n, Int.reduceBEq, bIf_t, bIf_f, bnd_s, s_may, mode_Good, entry_Rules hn2 he.r, entry_Grants hn2 he.g, s_key hn2 (h := he.y), s_id hn2, s_body hn2, s_tags hn2 (h := he.tg), s_lock hn2, s_from hn2, s_page hn2 (h := he.pr), s_bypass, acts_name hn2 he.ma, acts_name hn2 he.af, acts_name hn2 he.fk, label_Bucket h3, key24 he.fk hn2]
theorem own_10 {n : Nat} (h3 : 300 ≤ n) (hn2 : n ≤ 536870912) (w : ByteArray) (b : ByteArray) (y : ByteArray) (i : Int) (bo : List Int) (tg : List D_api_Tag) (l : D_api_Lock) (q : Bool) (d : D_api_Default) (r : List D_api_Rule) (g : List D_api_Grant) (nu : Int) (ns : List Int) (af : ByteArray) (pr : ByteArray) (ma : ByteArray) (fr : D_api_Spot) (mx : Int) (u : Unit) (he : QB n (10, w, b, y, i, bo, tg, l, q, d, r, g, nu, ns, af, pr, ma, fr, mx, u)) : F_acts_strip_own.f n ((10, w, b, y, i, bo, tg, l, q, d, r, g, nu, ns, af, pr, ma, fr, mx, u), (true, ())) = some (((10, w, b, (⟨#[]⟩ : ByteArray), 0, bo, tg, l, false, d, r, g, nu, ns, af, pr, ma, fr, mx, u), (true && keyB y && decide (i ≥ 1), ())), ()) := by
  rw [F_acts_strip_own.e0]
  simp only [F_acts_strip_own.e1, F_acts_strip_own.e2, F_acts_strip_own.e3, F_acts_strip_own.e4, hide_n, Int.reduceBEq, bIf_t, bIf_f, bnd_s, s_may, mode_Good, entry_Rules hn2 he.r, entry_Grants hn2 he.g, s_key hn2 (h := he.y), s_id hn2, s_body hn2, s_tags hn2 (h := he.tg), s_lock hn2, s_from hn2, s_page hn2 (h := he.pr), s_bypass, acts_name hn2 he.ma, acts_name hn2 he.af, acts_name hn2 he.fk, label_Bucket h3, key24 he.fk hn2]
theorem own_11 {n : Nat} (h3 : 300 ≤ n) (hn2 : n ≤ 536870912) (w : ByteArray) (b : ByteArray) (y : ByteArray) (i : Int) (bo : List Int) (tg : List D_api_Tag) (l : D_api_Lock) (q : Bool) (d : D_api_Default) (r : List D_api_Rule) (g : List D_api_Grant) (nu : Int) (ns : List Int) (af : ByteArray) (pr : ByteArray) (ma : ByteArray) (fr : D_api_Spot) (mx : Int) (u : Unit) (he : QB n (11, w, b, y, i, bo, tg, l, q, d, r, g, nu, ns, af, pr, ma, fr, mx, u)) : F_acts_strip_own.f n ((11, w, b, y, i, bo, tg, l, q, d, r, g, nu, ns, af, pr, ma, fr, mx, u), (true, ())) = some (((11, w, b, (⟨#[]⟩ : ByteArray), 0, bo, tg, lockZ, false, d, r, g, nu, ns, af, pr, ma, fr, mx, u), (true && keyB y && decide (i ≥ 0) && (lockB l && !l.2.2.1), ())), ()) := by
  rw [F_acts_strip_own.e0]
  simp only [F_acts_strip_own.e1, F_acts_strip_own.e2, F_acts_strip_own.e3, F_acts_strip_own.e4, hide_n, Int.reduceBEq, bIf_t, bIf_f, bnd_s, s_may, mode_Good, entry_Rules hn2 he.r, entry_Grants hn2 he.g, s_key hn2 (h := he.y), s_id hn2, s_body hn2, s_tags hn2 (h := he.tg), s_lock hn2, s_from hn2, s_page hn2 (h := he.pr), s_bypass, acts_name hn2 he.ma, acts_name hn2 he.af, acts_name hn2 he.fk, label_Bucket h3, key24 he.fk hn2]
theorem own_12 {n : Nat} (h3 : 300 ≤ n) (hn2 : n ≤ 536870912) (w : ByteArray) (b : ByteArray) (y : ByteArray) (i : Int) (bo : List Int) (tg : List D_api_Tag) (l : D_api_Lock) (q : Bool) (d : D_api_Default) (r : List D_api_Rule) (g : List D_api_Grant) (nu : Int) (ns : List Int) (af : ByteArray) (pr : ByteArray) (ma : ByteArray) (fr : D_api_Spot) (mx : Int) (u : Unit) (he : QB n (12, w, b, y, i, bo, tg, l, q, d, r, g, nu, ns, af, pr, ma, fr, mx, u)) : F_acts_strip_own.f n ((12, w, b, y, i, bo, tg, l, q, d, r, g, nu, ns, af, pr, ma, fr, mx, u), (true, ())) = some (((12, w, b, (⟨#[]⟩ : ByteArray), 0, bo, tg, lockZ, q, d, r, g, nu, ns, af, pr, ma, fr, mx, u), (true && keyB y && decide (i ≥ 0) && (lockB l && (l.1 == 0)), ())), ()) := by
  rw [F_acts_strip_own.e0]
  simp only [F_acts_strip_own.e1, F_acts_strip_own.e2, F_acts_strip_own.e3, F_acts_strip_own.e4, hide_n, Int.reduceBEq, bIf_t, bIf_f, bnd_s, s_may, mode_Good, entry_Rules hn2 he.r, entry_Grants hn2 he.g, s_key hn2 (h := he.y), s_id hn2, s_body hn2, s_tags hn2 (h := he.tg), s_lock hn2, s_from hn2, s_page hn2 (h := he.pr), s_bypass, acts_name hn2 he.ma, acts_name hn2 he.af, acts_name hn2 he.fk, label_Bucket h3, key24 he.fk hn2]
theorem own_13 {n : Nat} (h3 : 300 ≤ n) (hn2 : n ≤ 536870912) (w : ByteArray) (b : ByteArray) (y : ByteArray) (i : Int) (bo : List Int) (tg : List D_api_Tag) (l : D_api_Lock) (q : Bool) (d : D_api_Default) (r : List D_api_Rule) (g : List D_api_Grant) (nu : Int) (ns : List Int) (af : ByteArray) (pr : ByteArray) (ma : ByteArray) (fr : D_api_Spot) (mx : Int) (u : Unit) (he : QB n (13, w, b, y, i, bo, tg, l, q, d, r, g, nu, ns, af, pr, ma, fr, mx, u)) : F_acts_strip_own.f n ((13, w, b, y, i, bo, tg, l, q, d, r, g, nu, ns, af, pr, ma, fr, mx, u), (true, ())) = some (((13, w, b, (⟨#[]⟩ : ByteArray), 0, bo, [], l, q, d, r, g, nu, ns, af, pr, ma, fr, mx, u), (true && keyB y && decide (i ≥ 0) && tagsB tg, ())), ()) := by
  rw [F_acts_strip_own.e0]
  simp only [F_acts_strip_own.e1, F_acts_strip_own.e2, F_acts_strip_own.e3, F_acts_strip_own.e4, hide_n, Int.reduceBEq, bIf_t, bIf_f, bnd_s, s_may, mode_Good, entry_Rules hn2 he.r, entry_Grants hn2 he.g, s_key hn2 (h := he.y), s_id hn2, s_body hn2, s_tags hn2 (h := he.tg), s_lock hn2, s_from hn2, s_page hn2 (h := he.pr), s_bypass, acts_name hn2 he.ma, acts_name hn2 he.af, acts_name hn2 he.fk, label_Bucket h3, key24 he.fk hn2]
theorem own_14 {n : Nat} (h3 : 300 ≤ n) (hn2 : n ≤ 536870912) (w : ByteArray) (b : ByteArray) (y : ByteArray) (i : Int) (bo : List Int) (tg : List D_api_Tag) (l : D_api_Lock) (q : Bool) (d : D_api_Default) (r : List D_api_Rule) (g : List D_api_Grant) (nu : Int) (ns : List Int) (af : ByteArray) (pr : ByteArray) (ma : ByteArray) (fr : D_api_Spot) (mx : Int) (u : Unit) (he : QB n (14, w, b, y, i, bo, tg, l, q, d, r, g, nu, ns, af, pr, ma, fr, mx, u)) : F_acts_strip_own.f n ((14, w, b, y, i, bo, tg, l, q, d, r, g, nu, ns, af, pr, ma, fr, mx, u), (true, ())) = some (((14, w, b, y, i, bo, tg, l, q, d, r, g, nu, ns, (⟨#[]⟩ : ByteArray), (⟨#[]⟩ : ByteArray), (⟨#[]⟩ : ByteArray), fr, 0, u), (true && (nameB pr && (decide (mx ≥ 1) && decide (mx ≤ 100))) && (nameB ma && nameB af), ())), ()) := by
  rw [F_acts_strip_own.e0]
  simp only [F_acts_strip_own.e1, F_acts_strip_own.e2, F_acts_strip_own.e3, F_acts_strip_own.e4, hide_n, Int.reduceBEq, bIf_t, bIf_f, bnd_s, s_may, mode_Good, entry_Rules hn2 he.r, entry_Grants hn2 he.g, s_key hn2 (h := he.y), s_id hn2, s_body hn2, s_tags hn2 (h := he.tg), s_lock hn2, s_from hn2, s_page hn2 (h := he.pr), s_bypass, acts_name hn2 he.ma, acts_name hn2 he.af, acts_name hn2 he.fk, label_Bucket h3, key24 he.fk hn2]
  try (cases nameB ma <;> simp only [Bool.and_false, Bool.false_and, bIf_t, bIf_f, Bool.true_and])
theorem own_15 {n : Nat} (h3 : 300 ≤ n) (hn2 : n ≤ 536870912) (w : ByteArray) (b : ByteArray) (y : ByteArray) (i : Int) (bo : List Int) (tg : List D_api_Tag) (l : D_api_Lock) (q : Bool) (d : D_api_Default) (r : List D_api_Rule) (g : List D_api_Grant) (nu : Int) (ns : List Int) (af : ByteArray) (pr : ByteArray) (ma : ByteArray) (fr : D_api_Spot) (mx : Int) (u : Unit) (he : QB n (15, w, b, y, i, bo, tg, l, q, d, r, g, nu, ns, af, pr, ma, fr, mx, u)) : F_acts_strip_own.f n ((15, w, b, y, i, bo, tg, l, q, d, r, g, nu, ns, af, pr, ma, fr, mx, u), (true, ())) = some (((15, w, b, y, i, bo, tg, l, q, d, r, g, nu, ns, af, (⟨#[]⟩ : ByteArray), ma, spotZ, 0, u), (true && (nameB pr && (decide (mx ≥ 1) && decide (mx ≤ 100))) && (eqS fr.1 ⟨#[]⟩ && nameB fr.2.1), ())), ()) := by
  rw [F_acts_strip_own.e0]
  simp only [F_acts_strip_own.e1, F_acts_strip_own.e2, F_acts_strip_own.e3, F_acts_strip_own.e4, hide_n, Int.reduceBEq, bIf_t, bIf_f, bnd_s, s_may, mode_Good, entry_Rules hn2 he.r, entry_Grants hn2 he.g, s_key hn2 (h := he.y), s_id hn2, s_body hn2, s_tags hn2 (h := he.tg), s_lock hn2, s_from hn2, s_page hn2 (h := he.pr), s_bypass, acts_name hn2 he.ma, acts_name hn2 he.af, acts_name hn2 he.fk, label_Bucket h3, key24 he.fk hn2]
  try (cases eqS fr.1 ⟨#[]⟩ <;> simp only [Bool.and_false, Bool.false_and, bIf_t, bIf_f, Bool.true_and])
theorem own_16 {n : Nat} (h3 : 300 ≤ n) (hn2 : n ≤ 536870912) (w : ByteArray) (b : ByteArray) (y : ByteArray) (i : Int) (bo : List Int) (tg : List D_api_Tag) (l : D_api_Lock) (q : Bool) (d : D_api_Default) (r : List D_api_Rule) (g : List D_api_Grant) (nu : Int) (ns : List Int) (af : ByteArray) (pr : ByteArray) (ma : ByteArray) (fr : D_api_Spot) (mx : Int) (u : Unit) (he : QB n (16, w, b, y, i, bo, tg, l, q, d, r, g, nu, ns, af, pr, ma, fr, mx, u)) : F_acts_strip_own.f n ((16, w, b, y, i, bo, tg, l, q, d, r, g, nu, ns, af, pr, ma, fr, mx, u), (true, ())) = some (((16, w, b, (⟨#[]⟩ : ByteArray), i, bo, [], l, q, d, r, g, nu, ns, af, pr, ma, fr, mx, u), (true && keyB y && tagsB tg, ())), ()) := by
  rw [F_acts_strip_own.e0]
  simp only [F_acts_strip_own.e1, F_acts_strip_own.e2, F_acts_strip_own.e3, F_acts_strip_own.e4, hide_n, Int.reduceBEq, bIf_t, bIf_f, bnd_s, s_may, mode_Good, entry_Rules hn2 he.r, entry_Grants hn2 he.g, s_key hn2 (h := he.y), s_id hn2, s_body hn2, s_tags hn2 (h := he.tg), s_lock hn2, s_from hn2, s_page hn2 (h := he.pr), s_bypass, acts_name hn2 he.ma, acts_name hn2 he.af, acts_name hn2 he.fk, label_Bucket h3, key24 he.fk hn2]
theorem own_17 {n : Nat} (h3 : 300 ≤ n) (hn2 : n ≤ 536870912) (w : ByteArray) (b : ByteArray) (y : ByteArray) (i : Int) (bo : List Int) (tg : List D_api_Tag) (l : D_api_Lock) (q : Bool) (d : D_api_Default) (r : List D_api_Rule) (g : List D_api_Grant) (nu : Int) (ns : List Int) (af : ByteArray) (pr : ByteArray) (ma : ByteArray) (fr : D_api_Spot) (mx : Int) (u : Unit) (he : QB n (17, w, b, y, i, bo, tg, l, q, d, r, g, nu, ns, af, pr, ma, fr, mx, u)) : F_acts_strip_own.f n ((17, w, b, y, i, bo, tg, l, q, d, r, g, nu, ns, af, pr, ma, fr, mx, u), (true, ())) = some (((17, w, b, y, 0, [], tg, l, q, d, r, g, 0, ns, af, pr, ma, fr, mx, u), (true && decide (i ≥ 1) && decide (((bo.length : Nat) : Int) ≤ 1024) && (decide (nu ≥ 1) && decide (nu ≤ 10000)), ())), ()) := by
  rw [F_acts_strip_own.e0]
  simp only [F_acts_strip_own.e1, F_acts_strip_own.e2, F_acts_strip_own.e3, F_acts_strip_own.e4, hide_n, Int.reduceBEq, bIf_t, bIf_f, bnd_s, s_may, mode_Good, entry_Rules hn2 he.r, entry_Grants hn2 he.g, s_key hn2 (h := he.y), s_id hn2, s_body hn2, s_tags hn2 (h := he.tg), s_lock hn2, s_from hn2, s_page hn2 (h := he.pr), s_bypass, acts_name hn2 he.ma, acts_name hn2 he.af, acts_name hn2 he.fk, label_Bucket h3, key24 he.fk hn2]
  try (cases decide (nu ≥ 1) <;> simp only [Bool.and_false, Bool.false_and, bIf_t, bIf_f, Bool.true_and])
theorem own_18 {n : Nat} (h3 : 300 ≤ n) (hn2 : n ≤ 536870912) (w : ByteArray) (b : ByteArray) (y : ByteArray) (i : Int) (bo : List Int) (tg : List D_api_Tag) (l : D_api_Lock) (q : Bool) (d : D_api_Default) (r : List D_api_Rule) (g : List D_api_Grant) (nu : Int) (ns : List Int) (af : ByteArray) (pr : ByteArray) (ma : ByteArray) (fr : D_api_Spot) (mx : Int) (u : Unit) (he : QB n (18, w, b, y, i, bo, tg, l, q, d, r, g, nu, ns, af, pr, ma, fr, mx, u)) : F_acts_strip_own.f n ((18, w, b, y, i, bo, tg, l, q, d, r, g, nu, ns, af, pr, ma, fr, mx, u), (true, ())) = some (((18, w, b, y, 0, bo, tg, l, q, d, r, g, nu, [], af, pr, ma, fr, mx, u), (true && decide (i ≥ 1) && decide (((ns.length : Nat) : Int) ≤ 16), ())), ()) := by
  rw [F_acts_strip_own.e0]
  simp only [F_acts_strip_own.e1, F_acts_strip_own.e2, F_acts_strip_own.e3, F_acts_strip_own.e4, hide_n, Int.reduceBEq, bIf_t, bIf_f, bnd_s, s_may, mode_Good, entry_Rules hn2 he.r, entry_Grants hn2 he.g, s_key hn2 (h := he.y), s_id hn2, s_body hn2, s_tags hn2 (h := he.tg), s_lock hn2, s_from hn2, s_page hn2 (h := he.pr), s_bypass, acts_name hn2 he.ma, acts_name hn2 he.af, acts_name hn2 he.fk, label_Bucket h3, key24 he.fk hn2]
theorem own_19 {n : Nat} (h3 : 300 ≤ n) (hn2 : n ≤ 536870912) (w : ByteArray) (b : ByteArray) (y : ByteArray) (i : Int) (bo : List Int) (tg : List D_api_Tag) (l : D_api_Lock) (q : Bool) (d : D_api_Default) (r : List D_api_Rule) (g : List D_api_Grant) (nu : Int) (ns : List Int) (af : ByteArray) (pr : ByteArray) (ma : ByteArray) (fr : D_api_Spot) (mx : Int) (u : Unit) (he : QB n (19, w, b, y, i, bo, tg, l, q, d, r, g, nu, ns, af, pr, ma, fr, mx, u)) : F_acts_strip_own.f n ((19, w, b, y, i, bo, tg, l, q, d, r, g, nu, ns, af, pr, ma, fr, mx, u), (true, ())) = some (((19, w, b, y, 0, bo, tg, l, q, d, r, g, nu, ns, af, pr, ma, fr, mx, u), (true && decide (i ≥ 1), ())), ()) := by
  rw [F_acts_strip_own.e0]
  simp only [F_acts_strip_own.e1, F_acts_strip_own.e2, F_acts_strip_own.e3, F_acts_strip_own.e4, hide_n, Int.reduceBEq, bIf_t, bIf_f, bnd_s, s_may, mode_Good, entry_Rules hn2 he.r, entry_Grants hn2 he.g, s_key hn2 (h := he.y), s_id hn2, s_body hn2, s_tags hn2 (h := he.tg), s_lock hn2, s_from hn2, s_page hn2 (h := he.pr), s_bypass, acts_name hn2 he.ma, acts_name hn2 he.af, acts_name hn2 he.fk, label_Bucket h3, key24 he.fk hn2]
theorem own_21 {n : Nat} (h3 : 300 ≤ n) (hn2 : n ≤ 536870912) (w : ByteArray) (b : ByteArray) (y : ByteArray) (i : Int) (bo : List Int) (tg : List D_api_Tag) (l : D_api_Lock) (q : Bool) (d : D_api_Default) (r : List D_api_Rule) (g : List D_api_Grant) (nu : Int) (ns : List Int) (af : ByteArray) (pr : ByteArray) (ma : ByteArray) (fr : D_api_Spot) (mx : Int) (u : Unit) (he : QB n (21, w, b, y, i, bo, tg, l, q, d, r, g, nu, ns, af, pr, ma, fr, mx, u)) : F_acts_strip_own.f n ((21, w, b, y, i, bo, tg, l, q, d, r, g, nu, ns, af, pr, ma, fr, mx, u), (true, ())) = some (((21, w, b, y, i, bo, tg, l, q, d, r, g, nu, ns, af, pr, ma, fr, mx, u), (true, ())), ()) := by
  rw [F_acts_strip_own.e0]
  simp only [F_acts_strip_own.e1, F_acts_strip_own.e2, F_acts_strip_own.e3, F_acts_strip_own.e4, hide_n, Int.reduceBEq, bIf_t, bIf_f, bnd_s, s_may, mode_Good, entry_Rules hn2 he.r, entry_Grants hn2 he.g, s_key hn2 (h := he.y), s_id hn2, s_body hn2, s_tags hn2 (h := he.tg), s_lock hn2, s_from hn2, s_page hn2 (h := he.pr), s_bypass, acts_name hn2 he.ma, acts_name hn2 he.af, acts_name hn2 he.fk, label_Bucket h3, key24 he.fk hn2]
theorem own_22 {n : Nat} (h3 : 300 ≤ n) (hn2 : n ≤ 536870912) (w : ByteArray) (b : ByteArray) (y : ByteArray) (i : Int) (bo : List Int) (tg : List D_api_Tag) (l : D_api_Lock) (q : Bool) (d : D_api_Default) (r : List D_api_Rule) (g : List D_api_Grant) (nu : Int) (ns : List Int) (af : ByteArray) (pr : ByteArray) (ma : ByteArray) (fr : D_api_Spot) (mx : Int) (u : Unit) (he : QB n (22, w, b, y, i, bo, tg, l, q, d, r, g, nu, ns, af, pr, ma, fr, mx, u)) : F_acts_strip_own.f n ((22, w, b, y, i, bo, tg, l, q, d, r, g, nu, ns, af, pr, ma, fr, mx, u), (true, ())) = some (((22, w, b, y, i, bo, tg, l, q, d, r, g, nu, ns, af, pr, ma, fr, mx, u), (true, ())), ()) := by
  rw [F_acts_strip_own.e0]
  simp only [F_acts_strip_own.e1, F_acts_strip_own.e2, F_acts_strip_own.e3, F_acts_strip_own.e4, hide_n, Int.reduceBEq, bIf_t, bIf_f, bnd_s, s_may, mode_Good, entry_Rules hn2 he.r, entry_Grants hn2 he.g, s_key hn2 (h := he.y), s_id hn2, s_body hn2, s_tags hn2 (h := he.tg), s_lock hn2, s_from hn2, s_page hn2 (h := he.pr), s_bypass, acts_name hn2 he.ma, acts_name hn2 he.af, acts_name hn2 he.fk, label_Bucket h3, key24 he.fk hn2]
theorem own_20 {n : Nat} (h3 : 300 ≤ n) (hn2 : n ≤ 536870912) (w : ByteArray) (b : ByteArray) (y : ByteArray) (i : Int) (bo : List Int) (tg : List D_api_Tag) (l : D_api_Lock) (q : Bool) (d : D_api_Default) (r : List D_api_Rule) (g : List D_api_Grant) (nu : Int) (ns : List Int) (af : ByteArray) (pr : ByteArray) (ma : ByteArray) (fr : D_api_Spot) (mx : Int) (u : Unit) (he : QB n (20, w, b, y, i, bo, tg, l, q, d, r, g, nu, ns, af, pr, ma, fr, mx, u)) : F_acts_strip_own.f n ((20, w, b, y, i, bo, tg, l, q, d, r, g, nu, ns, af, pr, ma, fr, mx, u), (true, ())) = some (((20, w, b, (⟨#[]⟩ : ByteArray), i, bo, tg, l, q, d, r, g, nu, ns, af, pr, ma, spotZ, mx, u), (true && keyB y && (bucketB fr.1 && (keyB fr.2.1 && decide (fr.2.2.1 ≥ 1))), ())), ()) := by
  rw [F_acts_strip_own.e0]
  simp only [F_acts_strip_own.e1, F_acts_strip_own.e2, F_acts_strip_own.e3, F_acts_strip_own.e4, hide_n, Int.reduceBEq, bIf_t, bIf_f, bnd_s, s_may, s_key hn2 (h := he.y), s_from hn2, label_Bucket h3, key24 he.fk hn2]
  cases bucketB fr.1 <;> cases keyB fr.2.1 <;> simp only [bIf_t, bIf_f, Bool.true_and, Bool.false_and, Bool.and_false]
end Go.Proofs.YtfpedialdcgnhaaGreatDoor
namespace Go.Proofs.YtfpedialdcgnhaaGreatDoor
open Go Go.Va Go.Proofs
def hasQ (k : Int) : ByteArray := if k = 1 ∨ k = 3 then ⟨#[100]⟩ else if k = 7 ∨ k = 8 then ⟨#[107, 105]⟩ else if k = 4 then ⟨#[114]⟩ else if k = 5 then ⟨#[103]⟩ else if k = 6 then ⟨#[107, 66, 116, 108]⟩ else if k = 9 then ⟨#[107]⟩ else if k = 10 then ⟨#[107, 105, 121]⟩ else if k = 11 then ⟨#[107, 105, 108, 121]⟩ else if k = 12 then ⟨#[107, 105, 108]⟩ else if k = 13 then ⟨#[107, 105, 116]⟩ else if k = 14 then ⟨#[112, 109, 97, 120]⟩ else if k = 15 then ⟨#[112, 102, 120]⟩ else if k = 16 then ⟨#[107, 116]⟩ else if k = 17 then ⟨#[105, 110, 66]⟩ else if k = 18 then ⟨#[105, 78]⟩ else if k = 19 then ⟨#[105]⟩ else if k = 20 then ⟨#[107, 102]⟩ else ⟨#[46]⟩
def leastK (k : Int) : Int := if k = 10 ∨ k = 17 ∨ k = 18 ∨ k = 19 then 1 else 0
def lockK (k : Int) (l : D_api_Lock) : Bool := if k = 11 then !l.2.2.1 else if k = 12 then l.1 == 0 else true
def fromK (k : Int) (f : D_api_Spot) : Bool := if k = 15 then eqS f.1 ⟨#[]⟩ && nameB f.2.1 else bucketB f.1 && (keyB f.2.1 && decide (f.2.2.1 ≥ 1))
def goodQ (e : Q) : Bool :=
  (decide (1 ≤ e.1) && decide (e.1 ≤ 22)) && (!decide (((e.2.1.size : Nat) : Int) > 64) && (cleanB e.2.1 && ((if 21 ≤ e.1 then eqS e.2.2.1 ⟨#[]⟩ else bucketB e.2.2.1) && (fld (hasQ e.1) 107 (keyB e.2.2.2.1) (eqS e.2.2.2.1 ⟨#[]⟩) && (fld (hasQ e.1) 105 (decide (e.2.2.2.2.1 ≥ leastK e.1)) ((e.2.2.2.2.1 == 0)) && (fld (hasQ e.1) 66 (decide (((e.2.2.2.2.2.1.length : Nat) : Int) ≤ 1024)) ((((e.2.2.2.2.2.1.length : Nat) : Int) == 0)) && (fld (hasQ e.1) 116 (tagsB e.2.2.2.2.2.2.1) ((((e.2.2.2.2.2.2.1.length : Nat) : Int) == 0)) && (fld (hasQ e.1) 108 ((lockB e.2.2.2.2.2.2.2.1 && lockK e.1 e.2.2.2.2.2.2.2.1)) (eqD T_api_Lock e.2.2.2.2.2.2.2.1 lockZ) && (fld (hasQ e.1) 121 (true) ((!e.2.2.2.2.2.2.2.2.1)) && (fld (hasQ e.1) 100 (modeB e.2.2.2.2.2.2.2.2.2.1) (eqD T_api_Default e.2.2.2.2.2.2.2.2.2.1 (0, (0, ()))) && (fld (hasQ e.1) 114 (rulesB e.2.2.2.2.2.2.2.2.2.2.1) ((((e.2.2.2.2.2.2.2.2.2.2.1.length : Nat) : Int) == 0)) && (fld (hasQ e.1) 103 (grantsB e.2.2.2.2.2.2.2.2.2.2.2.1) ((((e.2.2.2.2.2.2.2.2.2.2.2.1.length : Nat) : Int) == 0)) && (fld (hasQ e.1) 110 ((decide (e.2.2.2.2.2.2.2.2.2.2.2.2.1 ≥ 1) && decide (e.2.2.2.2.2.2.2.2.2.2.2.2.1 ≤ 10000))) ((e.2.2.2.2.2.2.2.2.2.2.2.2.1 == 0)) && (fld (hasQ e.1) 78 (decide (((e.2.2.2.2.2.2.2.2.2.2.2.2.2.1.length : Nat) : Int) ≤ 16)) ((((e.2.2.2.2.2.2.2.2.2.2.2.2.2.1.length : Nat) : Int) == 0)) && (fld (hasQ e.1) 97 (nameB e.2.2.2.2.2.2.2.2.2.2.2.2.2.2.1) (eqS e.2.2.2.2.2.2.2.2.2.2.2.2.2.2.1 ⟨#[]⟩) && (fld (hasQ e.1) 112 (nameB e.2.2.2.2.2.2.2.2.2.2.2.2.2.2.2.1) (eqS e.2.2.2.2.2.2.2.2.2.2.2.2.2.2.2.1 ⟨#[]⟩) && (fld (hasQ e.1) 109 (nameB e.2.2.2.2.2.2.2.2.2.2.2.2.2.2.2.2.1) (eqS e.2.2.2.2.2.2.2.2.2.2.2.2.2.2.2.2.1 ⟨#[]⟩) && (fld (hasQ e.1) 102 (fromK e.1 e.2.2.2.2.2.2.2.2.2.2.2.2.2.2.2.2.2.1) (eqD T_api_Spot e.2.2.2.2.2.2.2.2.2.2.2.2.2.2.2.2.2.1 spotZ) && (fld (hasQ e.1) 120 ((decide (e.2.2.2.2.2.2.2.2.2.2.2.2.2.2.2.2.2.2.1 ≥ 1) && decide (e.2.2.2.2.2.2.2.2.2.2.2.2.2.2.2.2.2.2.1 ≤ 100))) ((e.2.2.2.2.2.2.2.2.2.2.2.2.2.2.2.2.2.2.1 == 0)))))))))))))))))))))
theorem spotRefl (p : D_api_Spot) : eqD T_api_Spot p p = true := by
  change ((p.1 == p.1) && ((p.2.1 == p.2.1) && (decide (p.2.2.1 = p.2.2.1) && true))) = true
  simp [ba_beq]
theorem good_1 {n : Nat} (h3 : 300 ≤ n) (hn2 : n ≤ 536870912) (w : ByteArray) (b : ByteArray) (y : ByteArray) (i : Int) (bo : List Int) (tg : List D_api_Tag) (l : D_api_Lock) (q : Bool) (d : D_api_Default) (r : List D_api_Rule) (g : List D_api_Grant) (nu : Int) (ns : List Int) (af : ByteArray) (pr : ByteArray) (ma : ByteArray) (fr : D_api_Spot) (mx : Int) (u : Unit) (he : QB n (1, w, b, y, i, bo, tg, l, q, d, r, g, nu, ns, af, pr, ma, fr, mx, u)) : F_acts_Good.f n (1, w, b, y, i, bo, tg, l, q, d, r, g, nu, ns, af, pr, ma, fr, mx, u) = some (goodQ (1, w, b, y, i, bo, tg, l, q, d, r, g, nu, ns, af, pr, ma, fr, mx, u), ()) := by
  have hw : w.size < n := he.w
  rw [F_acts_Good.e0]
  simp only [F_acts_Good.e1, own_1 h3 hn2 w b y i bo tg l q d r g nu ns af pr ma fr mx u he, s_bare, clean42 (by omega) hw, F_acts_anywhere.e0, label_Bucket h3, hide_n, bnd_s, Int.reduceBEq, bIf_t, bIf_f, bIf_and]
  have hbn := bucket_nil b
  unfold goodQ
  simp only [fld, show inB (hasQ 1) 107 = false by decide +kernel, show inB (hasQ 1) 105 = false by decide +kernel, show inB (hasQ 1) 66 = false by decide +kernel, show inB (hasQ 1) 116 = false by decide +kernel, show inB (hasQ 1) 108 = false by decide +kernel, show inB (hasQ 1) 121 = false by decide +kernel, show inB (hasQ 1) 100 = true by decide +kernel, show inB (hasQ 1) 114 = false by decide +kernel, show inB (hasQ 1) 103 = false by decide +kernel, show inB (hasQ 1) 110 = false by decide +kernel, show inB (hasQ 1) 78 = false by decide +kernel, show inB (hasQ 1) 97 = false by decide +kernel, show inB (hasQ 1) 112 = false by decide +kernel, show inB (hasQ 1) 109 = false by decide +kernel, show inB (hasQ 1) 102 = false by decide +kernel, show inB (hasQ 1) 120 = false by decide +kernel, show leastK 1 = 0 from rfl, show ∀ l, lockK 1 l = true from fun _ => rfl, show ∀ f, fromK 1 f = (bucketB f.1 && (keyB f.2.1 && decide (f.2.2.1 ≥ 1))) from fun _ => rfl, if_true, if_false, Bool.false_eq_true, eqS_self, lockRefl, defRefl, spotRefl, beq_self_eq_true, Bool.true_and, Bool.and_true, Bool.not_false, List.length_nil, c00, show decide ((1 : Int) ≤ 1) = true from rfl, show decide ((1 : Int) ≤ 22) = true from rfl, show ((21 : Int) ≤ 1) = False from eq_false (by decide)]
  revert hbn
  try generalize eqS y ⟨#[]⟩ = x0
  try generalize (i == 0) = x1
  try generalize (((bo.length : Nat) : Int) == 0) = x2
  try generalize (((tg.length : Nat) : Int) == 0) = x3
  try generalize eqD T_api_Lock l _ = x4
  try generalize eqD T_api_Default d _ = x5
  try generalize (((r.length : Nat) : Int) == 0) = x6
  try generalize (((g.length : Nat) : Int) == 0) = x7
  try generalize (nu == 0) = x8
  try generalize (((ns.length : Nat) : Int) == 0) = x9
  try generalize eqS af ⟨#[]⟩ = x10
  try generalize eqS pr ⟨#[]⟩ = x11
  try generalize eqS ma ⟨#[]⟩ = x12
  try generalize eqD T_api_Spot fr _ = x13
  try generalize (mx == 0) = x14
  try generalize keyB y = x15
  try generalize decide (i ≥ 0) = x16
  try generalize decide (i ≥ 1) = x17
  try generalize decide (((bo.length : Nat) : Int) ≤ 1024) = x18
  try generalize tagsB tg = x19
  try generalize lockB l = x20
  try generalize l.2.2.1 = x21
  try generalize (l.1 == 0) = x22
  try generalize modeB d = x23
  try generalize rulesB r = x24
  try generalize grantsB g = x25
  try generalize decide (nu ≥ 1) = x26
  try generalize decide (nu ≤ 10000) = x27
  try generalize decide (((ns.length : Nat) : Int) ≤ 16) = x28
  try generalize nameB af = x29
  try generalize nameB pr = x30
  try generalize nameB ma = x31
  try generalize decide (mx ≥ 1) = x32
  try generalize decide (mx ≤ 100) = x33
  try generalize eqS fr.1 ⟨#[]⟩ = x34
  try generalize nameB fr.2.1 = x35
  try generalize bucketB fr.1 = x36
  try generalize keyB fr.2.1 = x37
  try generalize decide (fr.2.2.1 ≥ 1) = x38
  try generalize decide (((w.size : Nat) : Int) > 64) = x39
  try generalize cleanB w = x40
  generalize eqS b ⟨#[]⟩ = q1
  generalize bucketB b = q2
  clear he hw
  intro hbn
  cases q1 <;> cases q2 <;> first | exact absurd (hbn rfl) (by decide) | (simp only [Bool.not_false, Bool.not_true, bIf_t, bIf_f, bIf_nand, Bool.true_and, Bool.false_and, Bool.and_false, beq_true, beq_false, Bool.not_not, bIf_same, Bool.and_true]; first | done | simp only [Bool.and_comm, Bool.and_left_comm, Bool.and_assoc])
theorem good_2 {n : Nat} (h3 : 300 ≤ n) (hn2 : n ≤ 536870912) (w : ByteArray) (b : ByteArray) (y : ByteArray) (i : Int) (bo : List Int) (tg : List D_api_Tag) (l : D_api_Lock) (q : Bool) (d : D_api_Default) (r : List D_api_Rule) (g : List D_api_Grant) (nu : Int) (ns : List Int) (af : ByteArray) (pr : ByteArray) (ma : ByteArray) (fr : D_api_Spot) (mx : Int) (u : Unit) (he : QB n (2, w, b, y, i, bo, tg, l, q, d, r, g, nu, ns, af, pr, ma, fr, mx, u)) : F_acts_Good.f n (2, w, b, y, i, bo, tg, l, q, d, r, g, nu, ns, af, pr, ma, fr, mx, u) = some (goodQ (2, w, b, y, i, bo, tg, l, q, d, r, g, nu, ns, af, pr, ma, fr, mx, u), ()) := by
  have hw : w.size < n := he.w
  rw [F_acts_Good.e0]
  simp only [F_acts_Good.e1, own_2 h3 hn2 w b y i bo tg l q d r g nu ns af pr ma fr mx u he, s_bare, clean42 (by omega) hw, F_acts_anywhere.e0, label_Bucket h3, hide_n, bnd_s, Int.reduceBEq, bIf_t, bIf_f, bIf_and]
  have hbn := bucket_nil b
  unfold goodQ
  simp only [fld, show inB (hasQ 2) 107 = false by decide +kernel, show inB (hasQ 2) 105 = false by decide +kernel, show inB (hasQ 2) 66 = false by decide +kernel, show inB (hasQ 2) 116 = false by decide +kernel, show inB (hasQ 2) 108 = false by decide +kernel, show inB (hasQ 2) 121 = false by decide +kernel, show inB (hasQ 2) 100 = false by decide +kernel, show inB (hasQ 2) 114 = false by decide +kernel, show inB (hasQ 2) 103 = false by decide +kernel, show inB (hasQ 2) 110 = false by decide +kernel, show inB (hasQ 2) 78 = false by decide +kernel, show inB (hasQ 2) 97 = false by decide +kernel, show inB (hasQ 2) 112 = false by decide +kernel, show inB (hasQ 2) 109 = false by decide +kernel, show inB (hasQ 2) 102 = false by decide +kernel, show inB (hasQ 2) 120 = false by decide +kernel, show leastK 2 = 0 from rfl, show ∀ l, lockK 2 l = true from fun _ => rfl, show ∀ f, fromK 2 f = (bucketB f.1 && (keyB f.2.1 && decide (f.2.2.1 ≥ 1))) from fun _ => rfl, if_true, if_false, Bool.false_eq_true, eqS_self, lockRefl, defRefl, spotRefl, beq_self_eq_true, Bool.true_and, Bool.and_true, Bool.not_false, List.length_nil, c00, show decide ((1 : Int) ≤ 2) = true from rfl, show decide ((2 : Int) ≤ 22) = true from rfl, show ((21 : Int) ≤ 2) = False from eq_false (by decide)]
  revert hbn
  try generalize eqS y ⟨#[]⟩ = x0
  try generalize (i == 0) = x1
  try generalize (((bo.length : Nat) : Int) == 0) = x2
  try generalize (((tg.length : Nat) : Int) == 0) = x3
  try generalize eqD T_api_Lock l _ = x4
  try generalize eqD T_api_Default d _ = x5
  try generalize (((r.length : Nat) : Int) == 0) = x6
  try generalize (((g.length : Nat) : Int) == 0) = x7
  try generalize (nu == 0) = x8
  try generalize (((ns.length : Nat) : Int) == 0) = x9
  try generalize eqS af ⟨#[]⟩ = x10
  try generalize eqS pr ⟨#[]⟩ = x11
  try generalize eqS ma ⟨#[]⟩ = x12
  try generalize eqD T_api_Spot fr _ = x13
  try generalize (mx == 0) = x14
  try generalize keyB y = x15
  try generalize decide (i ≥ 0) = x16
  try generalize decide (i ≥ 1) = x17
  try generalize decide (((bo.length : Nat) : Int) ≤ 1024) = x18
  try generalize tagsB tg = x19
  try generalize lockB l = x20
  try generalize l.2.2.1 = x21
  try generalize (l.1 == 0) = x22
  try generalize modeB d = x23
  try generalize rulesB r = x24
  try generalize grantsB g = x25
  try generalize decide (nu ≥ 1) = x26
  try generalize decide (nu ≤ 10000) = x27
  try generalize decide (((ns.length : Nat) : Int) ≤ 16) = x28
  try generalize nameB af = x29
  try generalize nameB pr = x30
  try generalize nameB ma = x31
  try generalize decide (mx ≥ 1) = x32
  try generalize decide (mx ≤ 100) = x33
  try generalize eqS fr.1 ⟨#[]⟩ = x34
  try generalize nameB fr.2.1 = x35
  try generalize bucketB fr.1 = x36
  try generalize keyB fr.2.1 = x37
  try generalize decide (fr.2.2.1 ≥ 1) = x38
  try generalize decide (((w.size : Nat) : Int) > 64) = x39
  try generalize cleanB w = x40
  generalize eqS b ⟨#[]⟩ = q1
  generalize bucketB b = q2
  clear he hw
  intro hbn
  cases q1 <;> cases q2 <;> first | exact absurd (hbn rfl) (by decide) | (simp only [Bool.not_false, Bool.not_true, bIf_t, bIf_f, bIf_nand, Bool.true_and, Bool.false_and, Bool.and_false, beq_true, beq_false, Bool.not_not, bIf_same, Bool.and_true]; first | done | simp only [Bool.and_comm, Bool.and_left_comm, Bool.and_assoc])
theorem good_3 {n : Nat} (h3 : 300 ≤ n) (hn2 : n ≤ 536870912) (w : ByteArray) (b : ByteArray) (y : ByteArray) (i : Int) (bo : List Int) (tg : List D_api_Tag) (l : D_api_Lock) (q : Bool) (d : D_api_Default) (r : List D_api_Rule) (g : List D_api_Grant) (nu : Int) (ns : List Int) (af : ByteArray) (pr : ByteArray) (ma : ByteArray) (fr : D_api_Spot) (mx : Int) (u : Unit) (he : QB n (3, w, b, y, i, bo, tg, l, q, d, r, g, nu, ns, af, pr, ma, fr, mx, u)) : F_acts_Good.f n (3, w, b, y, i, bo, tg, l, q, d, r, g, nu, ns, af, pr, ma, fr, mx, u) = some (goodQ (3, w, b, y, i, bo, tg, l, q, d, r, g, nu, ns, af, pr, ma, fr, mx, u), ()) := by
  have hw : w.size < n := he.w
  rw [F_acts_Good.e0]
  simp only [F_acts_Good.e1, own_3 h3 hn2 w b y i bo tg l q d r g nu ns af pr ma fr mx u he, s_bare, clean42 (by omega) hw, F_acts_anywhere.e0, label_Bucket h3, hide_n, bnd_s, Int.reduceBEq, bIf_t, bIf_f, bIf_and]
  have hbn := bucket_nil b
  unfold goodQ
  simp only [fld, show inB (hasQ 3) 107 = false by decide +kernel, show inB (hasQ 3) 105 = false by decide +kernel, show inB (hasQ 3) 66 = false by decide +kernel, show inB (hasQ 3) 116 = false by decide +kernel, show inB (hasQ 3) 108 = false by decide +kernel, show inB (hasQ 3) 121 = false by decide +kernel, show inB (hasQ 3) 100 = true by decide +kernel, show inB (hasQ 3) 114 = false by decide +kernel, show inB (hasQ 3) 103 = false by decide +kernel, show inB (hasQ 3) 110 = false by decide +kernel, show inB (hasQ 3) 78 = false by decide +kernel, show inB (hasQ 3) 97 = false by decide +kernel, show inB (hasQ 3) 112 = false by decide +kernel, show inB (hasQ 3) 109 = false by decide +kernel, show inB (hasQ 3) 102 = false by decide +kernel, show inB (hasQ 3) 120 = false by decide +kernel, show leastK 3 = 0 from rfl, show ∀ l, lockK 3 l = true from fun _ => rfl, show ∀ f, fromK 3 f = (bucketB f.1 && (keyB f.2.1 && decide (f.2.2.1 ≥ 1))) from fun _ => rfl, if_true, if_false, Bool.false_eq_true, eqS_self, lockRefl, defRefl, spotRefl, beq_self_eq_true, Bool.true_and, Bool.and_true, Bool.not_false, List.length_nil, c00, show decide ((1 : Int) ≤ 3) = true from rfl, show decide ((3 : Int) ≤ 22) = true from rfl, show ((21 : Int) ≤ 3) = False from eq_false (by decide)]
  revert hbn
  try generalize eqS y ⟨#[]⟩ = x0
  try generalize (i == 0) = x1
  try generalize (((bo.length : Nat) : Int) == 0) = x2
  try generalize (((tg.length : Nat) : Int) == 0) = x3
  try generalize eqD T_api_Lock l _ = x4
  try generalize eqD T_api_Default d _ = x5
  try generalize (((r.length : Nat) : Int) == 0) = x6
  try generalize (((g.length : Nat) : Int) == 0) = x7
  try generalize (nu == 0) = x8
  try generalize (((ns.length : Nat) : Int) == 0) = x9
  try generalize eqS af ⟨#[]⟩ = x10
  try generalize eqS pr ⟨#[]⟩ = x11
  try generalize eqS ma ⟨#[]⟩ = x12
  try generalize eqD T_api_Spot fr _ = x13
  try generalize (mx == 0) = x14
  try generalize keyB y = x15
  try generalize decide (i ≥ 0) = x16
  try generalize decide (i ≥ 1) = x17
  try generalize decide (((bo.length : Nat) : Int) ≤ 1024) = x18
  try generalize tagsB tg = x19
  try generalize lockB l = x20
  try generalize l.2.2.1 = x21
  try generalize (l.1 == 0) = x22
  try generalize modeB d = x23
  try generalize rulesB r = x24
  try generalize grantsB g = x25
  try generalize decide (nu ≥ 1) = x26
  try generalize decide (nu ≤ 10000) = x27
  try generalize decide (((ns.length : Nat) : Int) ≤ 16) = x28
  try generalize nameB af = x29
  try generalize nameB pr = x30
  try generalize nameB ma = x31
  try generalize decide (mx ≥ 1) = x32
  try generalize decide (mx ≤ 100) = x33
  try generalize eqS fr.1 ⟨#[]⟩ = x34
  try generalize nameB fr.2.1 = x35
  try generalize bucketB fr.1 = x36
  try generalize keyB fr.2.1 = x37
  try generalize decide (fr.2.2.1 ≥ 1) = x38
  try generalize decide (((w.size : Nat) : Int) > 64) = x39
  try generalize cleanB w = x40
  generalize eqS b ⟨#[]⟩ = q1
  generalize bucketB b = q2
  clear he hw
  intro hbn
  cases q1 <;> cases q2 <;> first | exact absurd (hbn rfl) (by decide) | (simp only [Bool.not_false, Bool.not_true, bIf_t, bIf_f, bIf_nand, Bool.true_and, Bool.false_and, Bool.and_false, beq_true, beq_false, Bool.not_not, bIf_same, Bool.and_true]; first | done | simp only [Bool.and_comm, Bool.and_left_comm, Bool.and_assoc])
theorem good_4 {n : Nat} (h3 : 300 ≤ n) (hn2 : n ≤ 536870912) (w : ByteArray) (b : ByteArray) (y : ByteArray) (i : Int) (bo : List Int) (tg : List D_api_Tag) (l : D_api_Lock) (q : Bool) (d : D_api_Default) (r : List D_api_Rule) (g : List D_api_Grant) (nu : Int) (ns : List Int) (af : ByteArray) (pr : ByteArray) (ma : ByteArray) (fr : D_api_Spot) (mx : Int) (u : Unit) (he : QB n (4, w, b, y, i, bo, tg, l, q, d, r, g, nu, ns, af, pr, ma, fr, mx, u)) : F_acts_Good.f n (4, w, b, y, i, bo, tg, l, q, d, r, g, nu, ns, af, pr, ma, fr, mx, u) = some (goodQ (4, w, b, y, i, bo, tg, l, q, d, r, g, nu, ns, af, pr, ma, fr, mx, u), ()) := by
  have hw : w.size < n := he.w
  rw [F_acts_Good.e0]
  simp only [F_acts_Good.e1, own_4 h3 hn2 w b y i bo tg l q d r g nu ns af pr ma fr mx u he, s_bare, clean42 (by omega) hw, F_acts_anywhere.e0, label_Bucket h3, hide_n, bnd_s, Int.reduceBEq, bIf_t, bIf_f, bIf_and]
  have hbn := bucket_nil b
  unfold goodQ
  simp only [fld, show inB (hasQ 4) 107 = false by decide +kernel, show inB (hasQ 4) 105 = false by decide +kernel, show inB (hasQ 4) 66 = false by decide +kernel, show inB (hasQ 4) 116 = false by decide +kernel, show inB (hasQ 4) 108 = false by decide +kernel, show inB (hasQ 4) 121 = false by decide +kernel, show inB (hasQ 4) 100 = false by decide +kernel, show inB (hasQ 4) 114 = true by decide +kernel, show inB (hasQ 4) 103 = false by decide +kernel, show inB (hasQ 4) 110 = false by decide +kernel, show inB (hasQ 4) 78 = false by decide +kernel, show inB (hasQ 4) 97 = false by decide +kernel, show inB (hasQ 4) 112 = false by decide +kernel, show inB (hasQ 4) 109 = false by decide +kernel, show inB (hasQ 4) 102 = false by decide +kernel, show inB (hasQ 4) 120 = false by decide +kernel, show leastK 4 = 0 from rfl, show ∀ l, lockK 4 l = true from fun _ => rfl, show ∀ f, fromK 4 f = (bucketB f.1 && (keyB f.2.1 && decide (f.2.2.1 ≥ 1))) from fun _ => rfl, if_true, if_false, Bool.false_eq_true, eqS_self, lockRefl, defRefl, spotRefl, beq_self_eq_true, Bool.true_and, Bool.and_true, Bool.not_false, List.length_nil, c00, show decide ((1 : Int) ≤ 4) = true from rfl, show decide ((4 : Int) ≤ 22) = true from rfl, show ((21 : Int) ≤ 4) = False from eq_false (by decide)]
  revert hbn
  try generalize eqS y ⟨#[]⟩ = x0
  try generalize (i == 0) = x1
  try generalize (((bo.length : Nat) : Int) == 0) = x2
  try generalize (((tg.length : Nat) : Int) == 0) = x3
  try generalize eqD T_api_Lock l _ = x4
  try generalize eqD T_api_Default d _ = x5
  try generalize (((r.length : Nat) : Int) == 0) = x6
  try generalize (((g.length : Nat) : Int) == 0) = x7
  try generalize (nu == 0) = x8
  try generalize (((ns.length : Nat) : Int) == 0) = x9
  try generalize eqS af ⟨#[]⟩ = x10
  try generalize eqS pr ⟨#[]⟩ = x11
  try generalize eqS ma ⟨#[]⟩ = x12
  try generalize eqD T_api_Spot fr _ = x13
  try generalize (mx == 0) = x14
  try generalize keyB y = x15
  try generalize decide (i ≥ 0) = x16
  try generalize decide (i ≥ 1) = x17
  try generalize decide (((bo.length : Nat) : Int) ≤ 1024) = x18
  try generalize tagsB tg = x19
  try generalize lockB l = x20
  try generalize l.2.2.1 = x21
  try generalize (l.1 == 0) = x22
  try generalize modeB d = x23
  try generalize rulesB r = x24
  try generalize grantsB g = x25
  try generalize decide (nu ≥ 1) = x26
  try generalize decide (nu ≤ 10000) = x27
  try generalize decide (((ns.length : Nat) : Int) ≤ 16) = x28
  try generalize nameB af = x29
  try generalize nameB pr = x30
  try generalize nameB ma = x31
  try generalize decide (mx ≥ 1) = x32
  try generalize decide (mx ≤ 100) = x33
  try generalize eqS fr.1 ⟨#[]⟩ = x34
  try generalize nameB fr.2.1 = x35
  try generalize bucketB fr.1 = x36
  try generalize keyB fr.2.1 = x37
  try generalize decide (fr.2.2.1 ≥ 1) = x38
  try generalize decide (((w.size : Nat) : Int) > 64) = x39
  try generalize cleanB w = x40
  generalize eqS b ⟨#[]⟩ = q1
  generalize bucketB b = q2
  clear he hw
  intro hbn
  cases q1 <;> cases q2 <;> first | exact absurd (hbn rfl) (by decide) | (simp only [Bool.not_false, Bool.not_true, bIf_t, bIf_f, bIf_nand, Bool.true_and, Bool.false_and, Bool.and_false, beq_true, beq_false, Bool.not_not, bIf_same, Bool.and_true]; first | done | simp only [Bool.and_comm, Bool.and_left_comm, Bool.and_assoc])
theorem good_5 {n : Nat} (h3 : 300 ≤ n) (hn2 : n ≤ 536870912) (w : ByteArray) (b : ByteArray) (y : ByteArray) (i : Int) (bo : List Int) (tg : List D_api_Tag) (l : D_api_Lock) (q : Bool) (d : D_api_Default) (r : List D_api_Rule) (g : List D_api_Grant) (nu : Int) (ns : List Int) (af : ByteArray) (pr : ByteArray) (ma : ByteArray) (fr : D_api_Spot) (mx : Int) (u : Unit) (he : QB n (5, w, b, y, i, bo, tg, l, q, d, r, g, nu, ns, af, pr, ma, fr, mx, u)) : F_acts_Good.f n (5, w, b, y, i, bo, tg, l, q, d, r, g, nu, ns, af, pr, ma, fr, mx, u) = some (goodQ (5, w, b, y, i, bo, tg, l, q, d, r, g, nu, ns, af, pr, ma, fr, mx, u), ()) := by
  have hw : w.size < n := he.w
  rw [F_acts_Good.e0]
  simp only [F_acts_Good.e1, own_5 h3 hn2 w b y i bo tg l q d r g nu ns af pr ma fr mx u he, s_bare, clean42 (by omega) hw, F_acts_anywhere.e0, label_Bucket h3, hide_n, bnd_s, Int.reduceBEq, bIf_t, bIf_f, bIf_and]
  have hbn := bucket_nil b
  unfold goodQ
  simp only [fld, show inB (hasQ 5) 107 = false by decide +kernel, show inB (hasQ 5) 105 = false by decide +kernel, show inB (hasQ 5) 66 = false by decide +kernel, show inB (hasQ 5) 116 = false by decide +kernel, show inB (hasQ 5) 108 = false by decide +kernel, show inB (hasQ 5) 121 = false by decide +kernel, show inB (hasQ 5) 100 = false by decide +kernel, show inB (hasQ 5) 114 = false by decide +kernel, show inB (hasQ 5) 103 = true by decide +kernel, show inB (hasQ 5) 110 = false by decide +kernel, show inB (hasQ 5) 78 = false by decide +kernel, show inB (hasQ 5) 97 = false by decide +kernel, show inB (hasQ 5) 112 = false by decide +kernel, show inB (hasQ 5) 109 = false by decide +kernel, show inB (hasQ 5) 102 = false by decide +kernel, show inB (hasQ 5) 120 = false by decide +kernel, show leastK 5 = 0 from rfl, show ∀ l, lockK 5 l = true from fun _ => rfl, show ∀ f, fromK 5 f = (bucketB f.1 && (keyB f.2.1 && decide (f.2.2.1 ≥ 1))) from fun _ => rfl, if_true, if_false, Bool.false_eq_true, eqS_self, lockRefl, defRefl, spotRefl, beq_self_eq_true, Bool.true_and, Bool.and_true, Bool.not_false, List.length_nil, c00, show decide ((1 : Int) ≤ 5) = true from rfl, show decide ((5 : Int) ≤ 22) = true from rfl, show ((21 : Int) ≤ 5) = False from eq_false (by decide)]
  revert hbn
  try generalize eqS y ⟨#[]⟩ = x0
  try generalize (i == 0) = x1
  try generalize (((bo.length : Nat) : Int) == 0) = x2
  try generalize (((tg.length : Nat) : Int) == 0) = x3
  try generalize eqD T_api_Lock l _ = x4
  try generalize eqD T_api_Default d _ = x5
  try generalize (((r.length : Nat) : Int) == 0) = x6
  try generalize (((g.length : Nat) : Int) == 0) = x7
  try generalize (nu == 0) = x8
  try generalize (((ns.length : Nat) : Int) == 0) = x9
  try generalize eqS af ⟨#[]⟩ = x10
  try generalize eqS pr ⟨#[]⟩ = x11
  try generalize eqS ma ⟨#[]⟩ = x12
  try generalize eqD T_api_Spot fr _ = x13
  try generalize (mx == 0) = x14
  try generalize keyB y = x15
  try generalize decide (i ≥ 0) = x16
  try generalize decide (i ≥ 1) = x17
  try generalize decide (((bo.length : Nat) : Int) ≤ 1024) = x18
  try generalize tagsB tg = x19
  try generalize lockB l = x20
  try generalize l.2.2.1 = x21
  try generalize (l.1 == 0) = x22
  try generalize modeB d = x23
  try generalize rulesB r = x24
  try generalize grantsB g = x25
  try generalize decide (nu ≥ 1) = x26
  try generalize decide (nu ≤ 10000) = x27
  try generalize decide (((ns.length : Nat) : Int) ≤ 16) = x28
  try generalize nameB af = x29
  try generalize nameB pr = x30
  try generalize nameB ma = x31
  try generalize decide (mx ≥ 1) = x32
  try generalize decide (mx ≤ 100) = x33
  try generalize eqS fr.1 ⟨#[]⟩ = x34
  try generalize nameB fr.2.1 = x35
  try generalize bucketB fr.1 = x36
  try generalize keyB fr.2.1 = x37
  try generalize decide (fr.2.2.1 ≥ 1) = x38
  try generalize decide (((w.size : Nat) : Int) > 64) = x39
  try generalize cleanB w = x40
  generalize eqS b ⟨#[]⟩ = q1
  generalize bucketB b = q2
  clear he hw
  intro hbn
  cases q1 <;> cases q2 <;> first | exact absurd (hbn rfl) (by decide) | (simp only [Bool.not_false, Bool.not_true, bIf_t, bIf_f, bIf_nand, Bool.true_and, Bool.false_and, Bool.and_false, beq_true, beq_false, Bool.not_not, bIf_same, Bool.and_true]; first | done | simp only [Bool.and_comm, Bool.and_left_comm, Bool.and_assoc])
theorem good_6 {n : Nat} (h3 : 300 ≤ n) (hn2 : n ≤ 536870912) (w : ByteArray) (b : ByteArray) (y : ByteArray) (i : Int) (bo : List Int) (tg : List D_api_Tag) (l : D_api_Lock) (q : Bool) (d : D_api_Default) (r : List D_api_Rule) (g : List D_api_Grant) (nu : Int) (ns : List Int) (af : ByteArray) (pr : ByteArray) (ma : ByteArray) (fr : D_api_Spot) (mx : Int) (u : Unit) (he : QB n (6, w, b, y, i, bo, tg, l, q, d, r, g, nu, ns, af, pr, ma, fr, mx, u)) : F_acts_Good.f n (6, w, b, y, i, bo, tg, l, q, d, r, g, nu, ns, af, pr, ma, fr, mx, u) = some (goodQ (6, w, b, y, i, bo, tg, l, q, d, r, g, nu, ns, af, pr, ma, fr, mx, u), ()) := by
  have hw : w.size < n := he.w
  rw [F_acts_Good.e0]
  simp only [F_acts_Good.e1, own_6 h3 hn2 w b y i bo tg l q d r g nu ns af pr ma fr mx u he, s_bare, clean42 (by omega) hw, F_acts_anywhere.e0, label_Bucket h3, hide_n, bnd_s, Int.reduceBEq, bIf_t, bIf_f, bIf_and]
  have hbn := bucket_nil b
  unfold goodQ
  simp only [fld, show inB (hasQ 6) 107 = true by decide +kernel, show inB (hasQ 6) 105 = false by decide +kernel, show inB (hasQ 6) 66 = true by decide +kernel, show inB (hasQ 6) 116 = true by decide +kernel, show inB (hasQ 6) 108 = true by decide +kernel, show inB (hasQ 6) 121 = false by decide +kernel, show inB (hasQ 6) 100 = false by decide +kernel, show inB (hasQ 6) 114 = false by decide +kernel, show inB (hasQ 6) 103 = false by decide +kernel, show inB (hasQ 6) 110 = false by decide +kernel, show inB (hasQ 6) 78 = false by decide +kernel, show inB (hasQ 6) 97 = false by decide +kernel, show inB (hasQ 6) 112 = false by decide +kernel, show inB (hasQ 6) 109 = false by decide +kernel, show inB (hasQ 6) 102 = false by decide +kernel, show inB (hasQ 6) 120 = false by decide +kernel, show leastK 6 = 0 from rfl, show ∀ l, lockK 6 l = true from fun _ => rfl, show ∀ f, fromK 6 f = (bucketB f.1 && (keyB f.2.1 && decide (f.2.2.1 ≥ 1))) from fun _ => rfl, if_true, if_false, Bool.false_eq_true, eqS_self, lockRefl, defRefl, spotRefl, beq_self_eq_true, Bool.true_and, Bool.and_true, Bool.not_false, List.length_nil, c00, show decide ((1 : Int) ≤ 6) = true from rfl, show decide ((6 : Int) ≤ 22) = true from rfl, show ((21 : Int) ≤ 6) = False from eq_false (by decide)]
  revert hbn
  try generalize eqS y ⟨#[]⟩ = x0
  try generalize (i == 0) = x1
  try generalize (((bo.length : Nat) : Int) == 0) = x2
  try generalize (((tg.length : Nat) : Int) == 0) = x3
  try generalize eqD T_api_Lock l _ = x4
  try generalize eqD T_api_Default d _ = x5
  try generalize (((r.length : Nat) : Int) == 0) = x6
  try generalize (((g.length : Nat) : Int) == 0) = x7
  try generalize (nu == 0) = x8
  try generalize (((ns.length : Nat) : Int) == 0) = x9
  try generalize eqS af ⟨#[]⟩ = x10
  try generalize eqS pr ⟨#[]⟩ = x11
  try generalize eqS ma ⟨#[]⟩ = x12
  try generalize eqD T_api_Spot fr _ = x13
  try generalize (mx == 0) = x14
  try generalize keyB y = x15
  try generalize decide (i ≥ 0) = x16
  try generalize decide (i ≥ 1) = x17
  try generalize decide (((bo.length : Nat) : Int) ≤ 1024) = x18
  try generalize tagsB tg = x19
  try generalize lockB l = x20
  try generalize l.2.2.1 = x21
  try generalize (l.1 == 0) = x22
  try generalize modeB d = x23
  try generalize rulesB r = x24
  try generalize grantsB g = x25
  try generalize decide (nu ≥ 1) = x26
  try generalize decide (nu ≤ 10000) = x27
  try generalize decide (((ns.length : Nat) : Int) ≤ 16) = x28
  try generalize nameB af = x29
  try generalize nameB pr = x30
  try generalize nameB ma = x31
  try generalize decide (mx ≥ 1) = x32
  try generalize decide (mx ≤ 100) = x33
  try generalize eqS fr.1 ⟨#[]⟩ = x34
  try generalize nameB fr.2.1 = x35
  try generalize bucketB fr.1 = x36
  try generalize keyB fr.2.1 = x37
  try generalize decide (fr.2.2.1 ≥ 1) = x38
  try generalize decide (((w.size : Nat) : Int) > 64) = x39
  try generalize cleanB w = x40
  generalize eqS b ⟨#[]⟩ = q1
  generalize bucketB b = q2
  clear he hw
  intro hbn
  cases q1 <;> cases q2 <;> first | exact absurd (hbn rfl) (by decide) | (simp only [Bool.not_false, Bool.not_true, bIf_t, bIf_f, bIf_nand, Bool.true_and, Bool.false_and, Bool.and_false, beq_true, beq_false, Bool.not_not, bIf_same, Bool.and_true]; first | done | simp only [Bool.and_comm, Bool.and_left_comm, Bool.and_assoc])
theorem good_7 {n : Nat} (h3 : 300 ≤ n) (hn2 : n ≤ 536870912) (w : ByteArray) (b : ByteArray) (y : ByteArray) (i : Int) (bo : List Int) (tg : List D_api_Tag) (l : D_api_Lock) (q : Bool) (d : D_api_Default) (r : List D_api_Rule) (g : List D_api_Grant) (nu : Int) (ns : List Int) (af : ByteArray) (pr : ByteArray) (ma : ByteArray) (fr : D_api_Spot) (mx : Int) (u : Unit) (he : QB n (7, w, b, y, i, bo, tg, l, q, d, r, g, nu, ns, af, pr, ma, fr, mx, u)) : F_acts_Good.f n (7, w, b, y, i, bo, tg, l, q, d, r, g, nu, ns, af, pr, ma, fr, mx, u) = some (goodQ (7, w, b, y, i, bo, tg, l, q, d, r, g, nu, ns, af, pr, ma, fr, mx, u), ()) := by
  have hw : w.size < n := he.w
  rw [F_acts_Good.e0]
  simp only [F_acts_Good.e1, own_7 h3 hn2 w b y i bo tg l q d r g nu ns af pr ma fr mx u he, s_bare, clean42 (by omega) hw, F_acts_anywhere.e0, label_Bucket h3, hide_n, bnd_s, Int.reduceBEq, bIf_t, bIf_f, bIf_and]
  have hbn := bucket_nil b
  unfold goodQ
  simp only [fld, show inB (hasQ 7) 107 = true by decide +kernel, show inB (hasQ 7) 105 = true by decide +kernel, show inB (hasQ 7) 66 = false by decide +kernel, show inB (hasQ 7) 116 = false by decide +kernel, show inB (hasQ 7) 108 = false by decide +kernel, show inB (hasQ 7) 121 = false by decide +kernel, show inB (hasQ 7) 100 = false by decide +kernel, show inB (hasQ 7) 114 = false by decide +kernel, show inB (hasQ 7) 103 = false by decide +kernel, show inB (hasQ 7) 110 = false by decide +kernel, show inB (hasQ 7) 78 = false by decide +kernel, show inB (hasQ 7) 97 = false by decide +kernel, show inB (hasQ 7) 112 = false by decide +kernel, show inB (hasQ 7) 109 = false by decide +kernel, show inB (hasQ 7) 102 = false by decide +kernel, show inB (hasQ 7) 120 = false by decide +kernel, show leastK 7 = 0 from rfl, show ∀ l, lockK 7 l = true from fun _ => rfl, show ∀ f, fromK 7 f = (bucketB f.1 && (keyB f.2.1 && decide (f.2.2.1 ≥ 1))) from fun _ => rfl, if_true, if_false, Bool.false_eq_true, eqS_self, lockRefl, defRefl, spotRefl, beq_self_eq_true, Bool.true_and, Bool.and_true, Bool.not_false, List.length_nil, c00, show decide ((1 : Int) ≤ 7) = true from rfl, show decide ((7 : Int) ≤ 22) = true from rfl, show ((21 : Int) ≤ 7) = False from eq_false (by decide)]
  revert hbn
  try generalize eqS y ⟨#[]⟩ = x0
  try generalize (i == 0) = x1
  try generalize (((bo.length : Nat) : Int) == 0) = x2
  try generalize (((tg.length : Nat) : Int) == 0) = x3
  try generalize eqD T_api_Lock l _ = x4
  try generalize eqD T_api_Default d _ = x5
  try generalize (((r.length : Nat) : Int) == 0) = x6
  try generalize (((g.length : Nat) : Int) == 0) = x7
  try generalize (nu == 0) = x8
  try generalize (((ns.length : Nat) : Int) == 0) = x9
  try generalize eqS af ⟨#[]⟩ = x10
  try generalize eqS pr ⟨#[]⟩ = x11
  try generalize eqS ma ⟨#[]⟩ = x12
  try generalize eqD T_api_Spot fr _ = x13
  try generalize (mx == 0) = x14
  try generalize keyB y = x15
  try generalize decide (i ≥ 0) = x16
  try generalize decide (i ≥ 1) = x17
  try generalize decide (((bo.length : Nat) : Int) ≤ 1024) = x18
  try generalize tagsB tg = x19
  try generalize lockB l = x20
  try generalize l.2.2.1 = x21
  try generalize (l.1 == 0) = x22
  try generalize modeB d = x23
  try generalize rulesB r = x24
  try generalize grantsB g = x25
  try generalize decide (nu ≥ 1) = x26
  try generalize decide (nu ≤ 10000) = x27
  try generalize decide (((ns.length : Nat) : Int) ≤ 16) = x28
  try generalize nameB af = x29
  try generalize nameB pr = x30
  try generalize nameB ma = x31
  try generalize decide (mx ≥ 1) = x32
  try generalize decide (mx ≤ 100) = x33
  try generalize eqS fr.1 ⟨#[]⟩ = x34
  try generalize nameB fr.2.1 = x35
  try generalize bucketB fr.1 = x36
  try generalize keyB fr.2.1 = x37
  try generalize decide (fr.2.2.1 ≥ 1) = x38
  try generalize decide (((w.size : Nat) : Int) > 64) = x39
  try generalize cleanB w = x40
  generalize eqS b ⟨#[]⟩ = q1
  generalize bucketB b = q2
  clear he hw
  intro hbn
  cases q1 <;> cases q2 <;> first | exact absurd (hbn rfl) (by decide) | (simp only [Bool.not_false, Bool.not_true, bIf_t, bIf_f, bIf_nand, Bool.true_and, Bool.false_and, Bool.and_false, beq_true, beq_false, Bool.not_not, bIf_same, Bool.and_true]; first | done | simp only [Bool.and_comm, Bool.and_left_comm, Bool.and_assoc])
theorem good_8 {n : Nat} (h3 : 300 ≤ n) (hn2 : n ≤ 536870912) (w : ByteArray) (b : ByteArray) (y : ByteArray) (i : Int) (bo : List Int) (tg : List D_api_Tag) (l : D_api_Lock) (q : Bool) (d : D_api_Default) (r : List D_api_Rule) (g : List D_api_Grant) (nu : Int) (ns : List Int) (af : ByteArray) (pr : ByteArray) (ma : ByteArray) (fr : D_api_Spot) (mx : Int) (u : Unit) (he : QB n (8, w, b, y, i, bo, tg, l, q, d, r, g, nu, ns, af, pr, ma, fr, mx, u)) : F_acts_Good.f n (8, w, b, y, i, bo, tg, l, q, d, r, g, nu, ns, af, pr, ma, fr, mx, u) = some (goodQ (8, w, b, y, i, bo, tg, l, q, d, r, g, nu, ns, af, pr, ma, fr, mx, u), ()) := by
  have hw : w.size < n := he.w
  rw [F_acts_Good.e0]
  simp only [F_acts_Good.e1, own_8 h3 hn2 w b y i bo tg l q d r g nu ns af pr ma fr mx u he, s_bare, clean42 (by omega) hw, F_acts_anywhere.e0, label_Bucket h3, hide_n, bnd_s, Int.reduceBEq, bIf_t, bIf_f, bIf_and]
  have hbn := bucket_nil b
  unfold goodQ
  simp only [fld, show inB (hasQ 8) 107 = true by decide +kernel, show inB (hasQ 8) 105 = true by decide +kernel, show inB (hasQ 8) 66 = false by decide +kernel, show inB (hasQ 8) 116 = false by decide +kernel, show inB (hasQ 8) 108 = false by decide +kernel, show inB (hasQ 8) 121 = false by decide +kernel, show inB (hasQ 8) 100 = false by decide +kernel, show inB (hasQ 8) 114 = false by decide +kernel, show inB (hasQ 8) 103 = false by decide +kernel, show inB (hasQ 8) 110 = false by decide +kernel, show inB (hasQ 8) 78 = false by decide +kernel, show inB (hasQ 8) 97 = false by decide +kernel, show inB (hasQ 8) 112 = false by decide +kernel, show inB (hasQ 8) 109 = false by decide +kernel, show inB (hasQ 8) 102 = false by decide +kernel, show inB (hasQ 8) 120 = false by decide +kernel, show leastK 8 = 0 from rfl, show ∀ l, lockK 8 l = true from fun _ => rfl, show ∀ f, fromK 8 f = (bucketB f.1 && (keyB f.2.1 && decide (f.2.2.1 ≥ 1))) from fun _ => rfl, if_true, if_false, Bool.false_eq_true, eqS_self, lockRefl, defRefl, spotRefl, beq_self_eq_true, Bool.true_and, Bool.and_true, Bool.not_false, List.length_nil, c00, show decide ((1 : Int) ≤ 8) = true from rfl, show decide ((8 : Int) ≤ 22) = true from rfl, show ((21 : Int) ≤ 8) = False from eq_false (by decide)]
  revert hbn
  try generalize eqS y ⟨#[]⟩ = x0
  try generalize (i == 0) = x1
  try generalize (((bo.length : Nat) : Int) == 0) = x2
  try generalize (((tg.length : Nat) : Int) == 0) = x3
  try generalize eqD T_api_Lock l _ = x4
  try generalize eqD T_api_Default d _ = x5
  try generalize (((r.length : Nat) : Int) == 0) = x6
  try generalize (((g.length : Nat) : Int) == 0) = x7
  try generalize (nu == 0) = x8
  try generalize (((ns.length : Nat) : Int) == 0) = x9
  try generalize eqS af ⟨#[]⟩ = x10
  try generalize eqS pr ⟨#[]⟩ = x11
  try generalize eqS ma ⟨#[]⟩ = x12
  try generalize eqD T_api_Spot fr _ = x13
  try generalize (mx == 0) = x14
  try generalize keyB y = x15
  try generalize decide (i ≥ 0) = x16
  try generalize decide (i ≥ 1) = x17
  try generalize decide (((bo.length : Nat) : Int) ≤ 1024) = x18
  try generalize tagsB tg = x19
  try generalize lockB l = x20
  try generalize l.2.2.1 = x21
  try generalize (l.1 == 0) = x22
  try generalize modeB d = x23
  try generalize rulesB r = x24
  try generalize grantsB g = x25
  try generalize decide (nu ≥ 1) = x26
  try generalize decide (nu ≤ 10000) = x27
  try generalize decide (((ns.length : Nat) : Int) ≤ 16) = x28
  try generalize nameB af = x29
  try generalize nameB pr = x30
  try generalize nameB ma = x31
  try generalize decide (mx ≥ 1) = x32
  try generalize decide (mx ≤ 100) = x33
  try generalize eqS fr.1 ⟨#[]⟩ = x34
  try generalize nameB fr.2.1 = x35
  try generalize bucketB fr.1 = x36
  try generalize keyB fr.2.1 = x37
  try generalize decide (fr.2.2.1 ≥ 1) = x38
  try generalize decide (((w.size : Nat) : Int) > 64) = x39
  try generalize cleanB w = x40
  generalize eqS b ⟨#[]⟩ = q1
  generalize bucketB b = q2
  clear he hw
  intro hbn
  cases q1 <;> cases q2 <;> first | exact absurd (hbn rfl) (by decide) | (simp only [Bool.not_false, Bool.not_true, bIf_t, bIf_f, bIf_nand, Bool.true_and, Bool.false_and, Bool.and_false, beq_true, beq_false, Bool.not_not, bIf_same, Bool.and_true]; first | done | simp only [Bool.and_comm, Bool.and_left_comm, Bool.and_assoc])
theorem good_9 {n : Nat} (h3 : 300 ≤ n) (hn2 : n ≤ 536870912) (w : ByteArray) (b : ByteArray) (y : ByteArray) (i : Int) (bo : List Int) (tg : List D_api_Tag) (l : D_api_Lock) (q : Bool) (d : D_api_Default) (r : List D_api_Rule) (g : List D_api_Grant) (nu : Int) (ns : List Int) (af : ByteArray) (pr : ByteArray) (ma : ByteArray) (fr : D_api_Spot) (mx : Int) (u : Unit) (he : QB n (9, w, b, y, i, bo, tg, l, q, d, r, g, nu, ns, af, pr, ma, fr, mx, u)) : F_acts_Good.f n (9, w, b, y, i, bo, tg, l, q, d, r, g, nu, ns, af, pr, ma, fr, mx, u) = some (goodQ (9, w, b, y, i, bo, tg, l, q, d, r, g, nu, ns, af, pr, ma, fr, mx, u), ()) := by
  have hw : w.size < n := he.w
  rw [F_acts_Good.e0]
  simp only [F_acts_Good.e1, own_9 h3 hn2 w b y i bo tg l q d r g nu ns af pr ma fr mx u he, s_bare, clean42 (by omega) hw, F_acts_anywhere.e0, label_Bucket h3, hide_n, bnd_s, Int.reduceBEq, bIf_t, bIf_f, bIf_and]
  have hbn := bucket_nil b
  unfold goodQ
  simp only [fld, show inB (hasQ 9) 107 = true by decide +kernel, show inB (hasQ 9) 105 = false by decide +kernel, show inB (hasQ 9) 66 = false by decide +kernel, show inB (hasQ 9) 116 = false by decide +kernel, show inB (hasQ 9) 108 = false by decide +kernel, show inB (hasQ 9) 121 = false by decide +kernel, show inB (hasQ 9) 100 = false by decide +kernel, show inB (hasQ 9) 114 = false by decide +kernel, show inB (hasQ 9) 103 = false by decide +kernel, show inB (hasQ 9) 110 = false by decide +kernel, show inB (hasQ 9) 78 = false by decide +kernel, show inB (hasQ 9) 97 = false by decide +kernel, show inB (hasQ 9) 112 = false by decide +kernel, show inB (hasQ 9) 109 = false by decide +kernel, show inB (hasQ 9) 102 = false by decide +kernel, show inB (hasQ 9) 120 = false by decide +kernel, show leastK 9 = 0 from rfl, show ∀ l, lockK 9 l = true from fun _ => rfl, show ∀ f, fromK 9 f = (bucketB f.1 && (keyB f.2.1 && decide (f.2.2.1 ≥ 1))) from fun _ => rfl, if_true, if_false, Bool.false_eq_true, eqS_self, lockRefl, defRefl, spotRefl, beq_self_eq_true, Bool.true_and, Bool.and_true, Bool.not_false, List.length_nil, c00, show decide ((1 : Int) ≤ 9) = true from rfl, show decide ((9 : Int) ≤ 22) = true from rfl, show ((21 : Int) ≤ 9) = False from eq_false (by decide)]
  revert hbn
  try generalize eqS y ⟨#[]⟩ = x0
  try generalize (i == 0) = x1
  try generalize (((bo.length : Nat) : Int) == 0) = x2
  try generalize (((tg.length : Nat) : Int) == 0) = x3
  try generalize eqD T_api_Lock l _ = x4
  try generalize eqD T_api_Default d _ = x5
  try generalize (((r.length : Nat) : Int) == 0) = x6
  try generalize (((g.length : Nat) : Int) == 0) = x7
  try generalize (nu == 0) = x8
  try generalize (((ns.length : Nat) : Int) == 0) = x9
  try generalize eqS af ⟨#[]⟩ = x10
  try generalize eqS pr ⟨#[]⟩ = x11
  try generalize eqS ma ⟨#[]⟩ = x12
  try generalize eqD T_api_Spot fr _ = x13
  try generalize (mx == 0) = x14
  try generalize keyB y = x15
  try generalize decide (i ≥ 0) = x16
  try generalize decide (i ≥ 1) = x17
  try generalize decide (((bo.length : Nat) : Int) ≤ 1024) = x18
  try generalize tagsB tg = x19
  try generalize lockB l = x20
  try generalize l.2.2.1 = x21
  try generalize (l.1 == 0) = x22
  try generalize modeB d = x23
  try generalize rulesB r = x24
  try generalize grantsB g = x25
  try generalize decide (nu ≥ 1) = x26
  try generalize decide (nu ≤ 10000) = x27
  try generalize decide (((ns.length : Nat) : Int) ≤ 16) = x28
  try generalize nameB af = x29
  try generalize nameB pr = x30
  try generalize nameB ma = x31
  try generalize decide (mx ≥ 1) = x32
  try generalize decide (mx ≤ 100) = x33
  try generalize eqS fr.1 ⟨#[]⟩ = x34
  try generalize nameB fr.2.1 = x35
  try generalize bucketB fr.1 = x36
  try generalize keyB fr.2.1 = x37
  try generalize decide (fr.2.2.1 ≥ 1) = x38
  try generalize decide (((w.size : Nat) : Int) > 64) = x39
  try generalize cleanB w = x40
  generalize eqS b ⟨#[]⟩ = q1
  generalize bucketB b = q2
  clear he hw
  intro hbn
  cases q1 <;> cases q2 <;> first | exact absurd (hbn rfl) (by decide) | (simp only [Bool.not_false, Bool.not_true, bIf_t, bIf_f, bIf_nand, Bool.true_and, Bool.false_and, Bool.and_false, beq_true, beq_false, Bool.not_not, bIf_same, Bool.and_true]; first | done | simp only [Bool.and_comm, Bool.and_left_comm, Bool.and_assoc])
theorem good_10 {n : Nat} (h3 : 300 ≤ n) (hn2 : n ≤ 536870912) (w : ByteArray) (b : ByteArray) (y : ByteArray) (i : Int) (bo : List Int) (tg : List D_api_Tag) (l : D_api_Lock) (q : Bool) (d : D_api_Default) (r : List D_api_Rule) (g : List D_api_Grant) (nu : Int) (ns : List Int) (af : ByteArray) (pr : ByteArray) (ma : ByteArray) (fr : D_api_Spot) (mx : Int) (u : Unit) (he : QB n (10, w, b, y, i, bo, tg, l, q, d, r, g, nu, ns, af, pr, ma, fr, mx, u)) : F_acts_Good.f n (10, w, b, y, i, bo, tg, l, q, d, r, g, nu, ns, af, pr, ma, fr, mx, u) = some (goodQ (10, w, b, y, i, bo, tg, l, q, d, r, g, nu, ns, af, pr, ma, fr, mx, u), ()) := by
  have hw : w.size < n := he.w
  rw [F_acts_Good.e0]
  simp only [F_acts_Good.e1, own_10 h3 hn2 w b y i bo tg l q d r g nu ns af pr ma fr mx u he, s_bare, clean42 (by omega) hw, F_acts_anywhere.e0, label_Bucket h3, hide_n, bnd_s, Int.reduceBEq, bIf_t, bIf_f, bIf_and]
  have hbn := bucket_nil b
  unfold goodQ
  simp only [fld, show inB (hasQ 10) 107 = true by decide +kernel, show inB (hasQ 10) 105 = true by decide +kernel, show inB (hasQ 10) 66 = false by decide +kernel, show inB (hasQ 10) 116 = false by decide +kernel, show inB (hasQ 10) 108 = false by decide +kernel, show inB (hasQ 10) 121 = true by decide +kernel, show inB (hasQ 10) 100 = false by decide +kernel, show inB (hasQ 10) 114 = false by decide +kernel, show inB (hasQ 10) 103 = false by decide +kernel, show inB (hasQ 10) 110 = false by decide +kernel, show inB (hasQ 10) 78 = false by decide +kernel, show inB (hasQ 10) 97 = false by decide +kernel, show inB (hasQ 10) 112 = false by decide +kernel, show inB (hasQ 10) 109 = false by decide +kernel, show inB (hasQ 10) 102 = false by decide +kernel, show inB (hasQ 10) 120 = false by decide +kernel, show leastK 10 = 1 from rfl, show ∀ l, lockK 10 l = true from fun _ => rfl, show ∀ f, fromK 10 f = (bucketB f.1 && (keyB f.2.1 && decide (f.2.2.1 ≥ 1))) from fun _ => rfl, if_true, if_false, Bool.false_eq_true, eqS_self, lockRefl, defRefl, spotRefl, beq_self_eq_true, Bool.true_and, Bool.and_true, Bool.not_false, List.length_nil, c00, show decide ((1 : Int) ≤ 10) = true from rfl, show decide ((10 : Int) ≤ 22) = true from rfl, show ((21 : Int) ≤ 10) = False from eq_false (by decide)]
  revert hbn
  try generalize eqS y ⟨#[]⟩ = x0
  try generalize (i == 0) = x1
  try generalize (((bo.length : Nat) : Int) == 0) = x2
  try generalize (((tg.length : Nat) : Int) == 0) = x3
  try generalize eqD T_api_Lock l _ = x4
  try generalize eqD T_api_Default d _ = x5
  try generalize (((r.length : Nat) : Int) == 0) = x6
  try generalize (((g.length : Nat) : Int) == 0) = x7
  try generalize (nu == 0) = x8
  try generalize (((ns.length : Nat) : Int) == 0) = x9
  try generalize eqS af ⟨#[]⟩ = x10
  try generalize eqS pr ⟨#[]⟩ = x11
  try generalize eqS ma ⟨#[]⟩ = x12
  try generalize eqD T_api_Spot fr _ = x13
  try generalize (mx == 0) = x14
  try generalize keyB y = x15
  try generalize decide (i ≥ 0) = x16
  try generalize decide (i ≥ 1) = x17
  try generalize decide (((bo.length : Nat) : Int) ≤ 1024) = x18
  try generalize tagsB tg = x19
  try generalize lockB l = x20
  try generalize l.2.2.1 = x21
  try generalize (l.1 == 0) = x22
  try generalize modeB d = x23
  try generalize rulesB r = x24
  try generalize grantsB g = x25
  try generalize decide (nu ≥ 1) = x26
  try generalize decide (nu ≤ 10000) = x27
  try generalize decide (((ns.length : Nat) : Int) ≤ 16) = x28
  try generalize nameB af = x29
  try generalize nameB pr = x30
  try generalize nameB ma = x31
  try generalize decide (mx ≥ 1) = x32
  try generalize decide (mx ≤ 100) = x33
  try generalize eqS fr.1 ⟨#[]⟩ = x34
  try generalize nameB fr.2.1 = x35
  try generalize bucketB fr.1 = x36
  try generalize keyB fr.2.1 = x37
  try generalize decide (fr.2.2.1 ≥ 1) = x38
  try generalize decide (((w.size : Nat) : Int) > 64) = x39
  try generalize cleanB w = x40
  generalize eqS b ⟨#[]⟩ = q1
  generalize bucketB b = q2
  clear he hw
  intro hbn
  cases q1 <;> cases q2 <;> first | exact absurd (hbn rfl) (by decide) | (simp only [Bool.not_false, Bool.not_true, bIf_t, bIf_f, bIf_nand, Bool.true_and, Bool.false_and, Bool.and_false, beq_true, beq_false, Bool.not_not, bIf_same, Bool.and_true]; first | done | simp only [Bool.and_comm, Bool.and_left_comm, Bool.and_assoc])
theorem good_11 {n : Nat} (h3 : 300 ≤ n) (hn2 : n ≤ 536870912) (w : ByteArray) (b : ByteArray) (y : ByteArray) (i : Int) (bo : List Int) (tg : List D_api_Tag) (l : D_api_Lock) (q : Bool) (d : D_api_Default) (r : List D_api_Rule) (g : List D_api_Grant) (nu : Int) (ns : List Int) (af : ByteArray) (pr : ByteArray) (ma : ByteArray) (fr : D_api_Spot) (mx : Int) (u : Unit) (he : QB n (11, w, b, y, i, bo, tg, l, q, d, r, g, nu, ns, af, pr, ma, fr, mx, u)) : F_acts_Good.f n (11, w, b, y, i, bo, tg, l, q, d, r, g, nu, ns, af, pr, ma, fr, mx, u) = some (goodQ (11, w, b, y, i, bo, tg, l, q, d, r, g, nu, ns, af, pr, ma, fr, mx, u), ()) := by
  have hw : w.size < n := he.w
  rw [F_acts_Good.e0]
  simp only [F_acts_Good.e1, own_11 h3 hn2 w b y i bo tg l q d r g nu ns af pr ma fr mx u he, s_bare, clean42 (by omega) hw, F_acts_anywhere.e0, label_Bucket h3, hide_n, bnd_s, Int.reduceBEq, bIf_t, bIf_f, bIf_and]
  have hbn := bucket_nil b
  unfold goodQ
  simp only [fld, show inB (hasQ 11) 107 = true by decide +kernel, show inB (hasQ 11) 105 = true by decide +kernel, show inB (hasQ 11) 66 = false by decide +kernel, show inB (hasQ 11) 116 = false by decide +kernel, show inB (hasQ 11) 108 = true by decide +kernel, show inB (hasQ 11) 121 = true by decide +kernel, show inB (hasQ 11) 100 = false by decide +kernel, show inB (hasQ 11) 114 = false by decide +kernel, show inB (hasQ 11) 103 = false by decide +kernel, show inB (hasQ 11) 110 = false by decide +kernel, show inB (hasQ 11) 78 = false by decide +kernel, show inB (hasQ 11) 97 = false by decide +kernel, show inB (hasQ 11) 112 = false by decide +kernel, show inB (hasQ 11) 109 = false by decide +kernel, show inB (hasQ 11) 102 = false by decide +kernel, show inB (hasQ 11) 120 = false by decide +kernel, show leastK 11 = 0 from rfl, show ∀ l, lockK 11 l = !l.2.2.1 from fun _ => rfl, show ∀ f, fromK 11 f = (bucketB f.1 && (keyB f.2.1 && decide (f.2.2.1 ≥ 1))) from fun _ => rfl, if_true, if_false, Bool.false_eq_true, eqS_self, lockRefl, defRefl, spotRefl, beq_self_eq_true, Bool.true_and, Bool.and_true, Bool.not_false, List.length_nil, c00, show decide ((1 : Int) ≤ 11) = true from rfl, show decide ((11 : Int) ≤ 22) = true from rfl, show ((21 : Int) ≤ 11) = False from eq_false (by decide)]
  revert hbn
  try generalize eqS y ⟨#[]⟩ = x0
  try generalize (i == 0) = x1
  try generalize (((bo.length : Nat) : Int) == 0) = x2
  try generalize (((tg.length : Nat) : Int) == 0) = x3
  try generalize eqD T_api_Lock l _ = x4
  try generalize eqD T_api_Default d _ = x5
  try generalize (((r.length : Nat) : Int) == 0) = x6
  try generalize (((g.length : Nat) : Int) == 0) = x7
  try generalize (nu == 0) = x8
  try generalize (((ns.length : Nat) : Int) == 0) = x9
  try generalize eqS af ⟨#[]⟩ = x10
  try generalize eqS pr ⟨#[]⟩ = x11
  try generalize eqS ma ⟨#[]⟩ = x12
  try generalize eqD T_api_Spot fr _ = x13
  try generalize (mx == 0) = x14
  try generalize keyB y = x15
  try generalize decide (i ≥ 0) = x16
  try generalize decide (i ≥ 1) = x17
  try generalize decide (((bo.length : Nat) : Int) ≤ 1024) = x18
  try generalize tagsB tg = x19
  try generalize lockB l = x20
  try generalize l.2.2.1 = x21
  try generalize (l.1 == 0) = x22
  try generalize modeB d = x23
  try generalize rulesB r = x24
  try generalize grantsB g = x25
  try generalize decide (nu ≥ 1) = x26
  try generalize decide (nu ≤ 10000) = x27
  try generalize decide (((ns.length : Nat) : Int) ≤ 16) = x28
  try generalize nameB af = x29
  try generalize nameB pr = x30
  try generalize nameB ma = x31
  try generalize decide (mx ≥ 1) = x32
  try generalize decide (mx ≤ 100) = x33
  try generalize eqS fr.1 ⟨#[]⟩ = x34
  try generalize nameB fr.2.1 = x35
  try generalize bucketB fr.1 = x36
  try generalize keyB fr.2.1 = x37
  try generalize decide (fr.2.2.1 ≥ 1) = x38
  try generalize decide (((w.size : Nat) : Int) > 64) = x39
  try generalize cleanB w = x40
  generalize eqS b ⟨#[]⟩ = q1
  generalize bucketB b = q2
  clear he hw
  intro hbn
  cases q1 <;> cases q2 <;> first | exact absurd (hbn rfl) (by decide) | (simp only [Bool.not_false, Bool.not_true, bIf_t, bIf_f, bIf_nand, Bool.true_and, Bool.false_and, Bool.and_false, beq_true, beq_false, Bool.not_not, bIf_same, Bool.and_true]; first | done | simp only [Bool.and_comm, Bool.and_left_comm, Bool.and_assoc])
theorem good_12 {n : Nat} (h3 : 300 ≤ n) (hn2 : n ≤ 536870912) (w : ByteArray) (b : ByteArray) (y : ByteArray) (i : Int) (bo : List Int) (tg : List D_api_Tag) (l : D_api_Lock) (q : Bool) (d : D_api_Default) (r : List D_api_Rule) (g : List D_api_Grant) (nu : Int) (ns : List Int) (af : ByteArray) (pr : ByteArray) (ma : ByteArray) (fr : D_api_Spot) (mx : Int) (u : Unit) (he : QB n (12, w, b, y, i, bo, tg, l, q, d, r, g, nu, ns, af, pr, ma, fr, mx, u)) : F_acts_Good.f n (12, w, b, y, i, bo, tg, l, q, d, r, g, nu, ns, af, pr, ma, fr, mx, u) = some (goodQ (12, w, b, y, i, bo, tg, l, q, d, r, g, nu, ns, af, pr, ma, fr, mx, u), ()) := by
  have hw : w.size < n := he.w
  rw [F_acts_Good.e0]
  simp only [F_acts_Good.e1, own_12 h3 hn2 w b y i bo tg l q d r g nu ns af pr ma fr mx u he, s_bare, clean42 (by omega) hw, F_acts_anywhere.e0, label_Bucket h3, hide_n, bnd_s, Int.reduceBEq, bIf_t, bIf_f, bIf_and]
  have hbn := bucket_nil b
  unfold goodQ
  simp only [fld, show inB (hasQ 12) 107 = true by decide +kernel, show inB (hasQ 12) 105 = true by decide +kernel, show inB (hasQ 12) 66 = false by decide +kernel, show inB (hasQ 12) 116 = false by decide +kernel, show inB (hasQ 12) 108 = true by decide +kernel, show inB (hasQ 12) 121 = false by decide +kernel, show inB (hasQ 12) 100 = false by decide +kernel, show inB (hasQ 12) 114 = false by decide +kernel, show inB (hasQ 12) 103 = false by decide +kernel, show inB (hasQ 12) 110 = false by decide +kernel, show inB (hasQ 12) 78 = false by decide +kernel, show inB (hasQ 12) 97 = false by decide +kernel, show inB (hasQ 12) 112 = false by decide +kernel, show inB (hasQ 12) 109 = false by decide +kernel, show inB (hasQ 12) 102 = false by decide +kernel, show inB (hasQ 12) 120 = false by decide +kernel, show leastK 12 = 0 from rfl, show ∀ l, lockK 12 l = (l.1 == 0) from fun _ => rfl, show ∀ f, fromK 12 f = (bucketB f.1 && (keyB f.2.1 && decide (f.2.2.1 ≥ 1))) from fun _ => rfl, if_true, if_false, Bool.false_eq_true, eqS_self, lockRefl, defRefl, spotRefl, beq_self_eq_true, Bool.true_and, Bool.and_true, Bool.not_false, List.length_nil, c00, show decide ((1 : Int) ≤ 12) = true from rfl, show decide ((12 : Int) ≤ 22) = true from rfl, show ((21 : Int) ≤ 12) = False from eq_false (by decide)]
  revert hbn
  try generalize eqS y ⟨#[]⟩ = x0
  try generalize (i == 0) = x1
  try generalize (((bo.length : Nat) : Int) == 0) = x2
  try generalize (((tg.length : Nat) : Int) == 0) = x3
  try generalize eqD T_api_Lock l _ = x4
  try generalize eqD T_api_Default d _ = x5
  try generalize (((r.length : Nat) : Int) == 0) = x6
  try generalize (((g.length : Nat) : Int) == 0) = x7
  try generalize (nu == 0) = x8
  try generalize (((ns.length : Nat) : Int) == 0) = x9
  try generalize eqS af ⟨#[]⟩ = x10
  try generalize eqS pr ⟨#[]⟩ = x11
  try generalize eqS ma ⟨#[]⟩ = x12
  try generalize eqD T_api_Spot fr _ = x13
  try generalize (mx == 0) = x14
  try generalize keyB y = x15
  try generalize decide (i ≥ 0) = x16
  try generalize decide (i ≥ 1) = x17
  try generalize decide (((bo.length : Nat) : Int) ≤ 1024) = x18
  try generalize tagsB tg = x19
  try generalize lockB l = x20
  try generalize l.2.2.1 = x21
  try generalize (l.1 == 0) = x22
  try generalize modeB d = x23
  try generalize rulesB r = x24
  try generalize grantsB g = x25
  try generalize decide (nu ≥ 1) = x26
  try generalize decide (nu ≤ 10000) = x27
  try generalize decide (((ns.length : Nat) : Int) ≤ 16) = x28
  try generalize nameB af = x29
  try generalize nameB pr = x30
  try generalize nameB ma = x31
  try generalize decide (mx ≥ 1) = x32
  try generalize decide (mx ≤ 100) = x33
  try generalize eqS fr.1 ⟨#[]⟩ = x34
  try generalize nameB fr.2.1 = x35
  try generalize bucketB fr.1 = x36
  try generalize keyB fr.2.1 = x37
  try generalize decide (fr.2.2.1 ≥ 1) = x38
  try generalize decide (((w.size : Nat) : Int) > 64) = x39
  try generalize cleanB w = x40
  generalize eqS b ⟨#[]⟩ = q1
  generalize bucketB b = q2
  clear he hw
  intro hbn
  cases q1 <;> cases q2 <;> first | exact absurd (hbn rfl) (by decide) | (simp only [Bool.not_false, Bool.not_true, bIf_t, bIf_f, bIf_nand, Bool.true_and, Bool.false_and, Bool.and_false, beq_true, beq_false, Bool.not_not, bIf_same, Bool.and_true]; first | done | simp only [Bool.and_comm, Bool.and_left_comm, Bool.and_assoc])
theorem good_13 {n : Nat} (h3 : 300 ≤ n) (hn2 : n ≤ 536870912) (w : ByteArray) (b : ByteArray) (y : ByteArray) (i : Int) (bo : List Int) (tg : List D_api_Tag) (l : D_api_Lock) (q : Bool) (d : D_api_Default) (r : List D_api_Rule) (g : List D_api_Grant) (nu : Int) (ns : List Int) (af : ByteArray) (pr : ByteArray) (ma : ByteArray) (fr : D_api_Spot) (mx : Int) (u : Unit) (he : QB n (13, w, b, y, i, bo, tg, l, q, d, r, g, nu, ns, af, pr, ma, fr, mx, u)) : F_acts_Good.f n (13, w, b, y, i, bo, tg, l, q, d, r, g, nu, ns, af, pr, ma, fr, mx, u) = some (goodQ (13, w, b, y, i, bo, tg, l, q, d, r, g, nu, ns, af, pr, ma, fr, mx, u), ()) := by
  have hw : w.size < n := he.w
  rw [F_acts_Good.e0]
  simp only [F_acts_Good.e1, own_13 h3 hn2 w b y i bo tg l q d r g nu ns af pr ma fr mx u he, s_bare, clean42 (by omega) hw, F_acts_anywhere.e0, label_Bucket h3, hide_n, bnd_s, Int.reduceBEq, bIf_t, bIf_f, bIf_and]
  have hbn := bucket_nil b
  unfold goodQ
  simp only [fld, show inB (hasQ 13) 107 = true by decide +kernel, show inB (hasQ 13) 105 = true by decide +kernel, show inB (hasQ 13) 66 = false by decide +kernel, show inB (hasQ 13) 116 = true by decide +kernel, show inB (hasQ 13) 108 = false by decide +kernel, show inB (hasQ 13) 121 = false by decide +kernel, show inB (hasQ 13) 100 = false by decide +kernel, show inB (hasQ 13) 114 = false by decide +kernel, show inB (hasQ 13) 103 = false by decide +kernel, show inB (hasQ 13) 110 = false by decide +kernel, show inB (hasQ 13) 78 = false by decide +kernel, show inB (hasQ 13) 97 = false by decide +kernel, show inB (hasQ 13) 112 = false by decide +kernel, show inB (hasQ 13) 109 = false by decide +kernel, show inB (hasQ 13) 102 = false by decide +kernel, show inB (hasQ 13) 120 = false by decide +kernel, show leastK 13 = 0 from rfl, show ∀ l, lockK 13 l = true from fun _ => rfl, show ∀ f, fromK 13 f = (bucketB f.1 && (keyB f.2.1 && decide (f.2.2.1 ≥ 1))) from fun _ => rfl, if_true, if_false, Bool.false_eq_true, eqS_self, lockRefl, defRefl, spotRefl, beq_self_eq_true, Bool.true_and, Bool.and_true, Bool.not_false, List.length_nil, c00, show decide ((1 : Int) ≤ 13) = true from rfl, show decide ((13 : Int) ≤ 22) = true from rfl, show ((21 : Int) ≤ 13) = False from eq_false (by decide)]
  revert hbn
  try generalize eqS y ⟨#[]⟩ = x0
  try generalize (i == 0) = x1
  try generalize (((bo.length : Nat) : Int) == 0) = x2
  try generalize (((tg.length : Nat) : Int) == 0) = x3
  try generalize eqD T_api_Lock l _ = x4
  try generalize eqD T_api_Default d _ = x5
  try generalize (((r.length : Nat) : Int) == 0) = x6
  try generalize (((g.length : Nat) : Int) == 0) = x7
  try generalize (nu == 0) = x8
  try generalize (((ns.length : Nat) : Int) == 0) = x9
  try generalize eqS af ⟨#[]⟩ = x10
  try generalize eqS pr ⟨#[]⟩ = x11
  try generalize eqS ma ⟨#[]⟩ = x12
  try generalize eqD T_api_Spot fr _ = x13
  try generalize (mx == 0) = x14
  try generalize keyB y = x15
  try generalize decide (i ≥ 0) = x16
  try generalize decide (i ≥ 1) = x17
  try generalize decide (((bo.length : Nat) : Int) ≤ 1024) = x18
  try generalize tagsB tg = x19
  try generalize lockB l = x20
  try generalize l.2.2.1 = x21
  try generalize (l.1 == 0) = x22
  try generalize modeB d = x23
  try generalize rulesB r = x24
  try generalize grantsB g = x25
  try generalize decide (nu ≥ 1) = x26
  try generalize decide (nu ≤ 10000) = x27
  try generalize decide (((ns.length : Nat) : Int) ≤ 16) = x28
  try generalize nameB af = x29
  try generalize nameB pr = x30
  try generalize nameB ma = x31
  try generalize decide (mx ≥ 1) = x32
  try generalize decide (mx ≤ 100) = x33
  try generalize eqS fr.1 ⟨#[]⟩ = x34
  try generalize nameB fr.2.1 = x35
  try generalize bucketB fr.1 = x36
  try generalize keyB fr.2.1 = x37
  try generalize decide (fr.2.2.1 ≥ 1) = x38
  try generalize decide (((w.size : Nat) : Int) > 64) = x39
  try generalize cleanB w = x40
  generalize eqS b ⟨#[]⟩ = q1
  generalize bucketB b = q2
  clear he hw
  intro hbn
  cases q1 <;> cases q2 <;> first | exact absurd (hbn rfl) (by decide) | (simp only [Bool.not_false, Bool.not_true, bIf_t, bIf_f, bIf_nand, Bool.true_and, Bool.false_and, Bool.and_false, beq_true, beq_false, Bool.not_not, bIf_same, Bool.and_true]; first | done | simp only [Bool.and_comm, Bool.and_left_comm, Bool.and_assoc])
theorem good_14 {n : Nat} (h3 : 300 ≤ n) (hn2 : n ≤ 536870912) (w : ByteArray) (b : ByteArray) (y : ByteArray) (i : Int) (bo : List Int) (tg : List D_api_Tag) (l : D_api_Lock) (q : Bool) (d : D_api_Default) (r : List D_api_Rule) (g : List D_api_Grant) (nu : Int) (ns : List Int) (af : ByteArray) (pr : ByteArray) (ma : ByteArray) (fr : D_api_Spot) (mx : Int) (u : Unit) (he : QB n (14, w, b, y, i, bo, tg, l, q, d, r, g, nu, ns, af, pr, ma, fr, mx, u)) : F_acts_Good.f n (14, w, b, y, i, bo, tg, l, q, d, r, g, nu, ns, af, pr, ma, fr, mx, u) = some (goodQ (14, w, b, y, i, bo, tg, l, q, d, r, g, nu, ns, af, pr, ma, fr, mx, u), ()) := by
  have hw : w.size < n := he.w
  rw [F_acts_Good.e0]
  simp only [F_acts_Good.e1, own_14 h3 hn2 w b y i bo tg l q d r g nu ns af pr ma fr mx u he, s_bare, clean42 (by omega) hw, F_acts_anywhere.e0, label_Bucket h3, hide_n, bnd_s, Int.reduceBEq, bIf_t, bIf_f, bIf_and]
  have hbn := bucket_nil b
  unfold goodQ
  simp only [fld, show inB (hasQ 14) 107 = false by decide +kernel, show inB (hasQ 14) 105 = false by decide +kernel, show inB (hasQ 14) 66 = false by decide +kernel, show inB (hasQ 14) 116 = false by decide +kernel, show inB (hasQ 14) 108 = false by decide +kernel, show inB (hasQ 14) 121 = false by decide +kernel, show inB (hasQ 14) 100 = false by decide +kernel, show inB (hasQ 14) 114 = false by decide +kernel, show inB (hasQ 14) 103 = false by decide +kernel, show inB (hasQ 14) 110 = false by decide +kernel, show inB (hasQ 14) 78 = false by decide +kernel, show inB (hasQ 14) 97 = true by decide +kernel, show inB (hasQ 14) 112 = true by decide +kernel, show inB (hasQ 14) 109 = true by decide +kernel, show inB (hasQ 14) 102 = false by decide +kernel, show inB (hasQ 14) 120 = true by decide +kernel, show leastK 14 = 0 from rfl, show ∀ l, lockK 14 l = true from fun _ => rfl, show ∀ f, fromK 14 f = (bucketB f.1 && (keyB f.2.1 && decide (f.2.2.1 ≥ 1))) from fun _ => rfl, if_true, if_false, Bool.false_eq_true, eqS_self, lockRefl, defRefl, spotRefl, beq_self_eq_true, Bool.true_and, Bool.and_true, Bool.not_false, List.length_nil, c00, show decide ((1 : Int) ≤ 14) = true from rfl, show decide ((14 : Int) ≤ 22) = true from rfl, show ((21 : Int) ≤ 14) = False from eq_false (by decide)]
  revert hbn
  try generalize eqS y ⟨#[]⟩ = x0
  try generalize (i == 0) = x1
  try generalize (((bo.length : Nat) : Int) == 0) = x2
  try generalize (((tg.length : Nat) : Int) == 0) = x3
  try generalize eqD T_api_Lock l _ = x4
  try generalize eqD T_api_Default d _ = x5
  try generalize (((r.length : Nat) : Int) == 0) = x6
  try generalize (((g.length : Nat) : Int) == 0) = x7
  try generalize (nu == 0) = x8
  try generalize (((ns.length : Nat) : Int) == 0) = x9
  try generalize eqS af ⟨#[]⟩ = x10
  try generalize eqS pr ⟨#[]⟩ = x11
  try generalize eqS ma ⟨#[]⟩ = x12
  try generalize eqD T_api_Spot fr _ = x13
  try generalize (mx == 0) = x14
  try generalize keyB y = x15
  try generalize decide (i ≥ 0) = x16
  try generalize decide (i ≥ 1) = x17
  try generalize decide (((bo.length : Nat) : Int) ≤ 1024) = x18
  try generalize tagsB tg = x19
  try generalize lockB l = x20
  try generalize l.2.2.1 = x21
  try generalize (l.1 == 0) = x22
  try generalize modeB d = x23
  try generalize rulesB r = x24
  try generalize grantsB g = x25
  try generalize decide (nu ≥ 1) = x26
  try generalize decide (nu ≤ 10000) = x27
  try generalize decide (((ns.length : Nat) : Int) ≤ 16) = x28
  try generalize nameB af = x29
  try generalize nameB pr = x30
  try generalize nameB ma = x31
  try generalize decide (mx ≥ 1) = x32
  try generalize decide (mx ≤ 100) = x33
  try generalize eqS fr.1 ⟨#[]⟩ = x34
  try generalize nameB fr.2.1 = x35
  try generalize bucketB fr.1 = x36
  try generalize keyB fr.2.1 = x37
  try generalize decide (fr.2.2.1 ≥ 1) = x38
  try generalize decide (((w.size : Nat) : Int) > 64) = x39
  try generalize cleanB w = x40
  generalize eqS b ⟨#[]⟩ = q1
  generalize bucketB b = q2
  clear he hw
  intro hbn
  cases q1 <;> cases q2 <;> first | exact absurd (hbn rfl) (by decide) | (simp only [Bool.not_false, Bool.not_true, bIf_t, bIf_f, bIf_nand, Bool.true_and, Bool.false_and, Bool.and_false, beq_true, beq_false, Bool.not_not, bIf_same, Bool.and_true]; first | done | simp only [Bool.and_comm, Bool.and_left_comm, Bool.and_assoc])
theorem good_15 {n : Nat} (h3 : 300 ≤ n) (hn2 : n ≤ 536870912) (w : ByteArray) (b : ByteArray) (y : ByteArray) (i : Int) (bo : List Int) (tg : List D_api_Tag) (l : D_api_Lock) (q : Bool) (d : D_api_Default) (r : List D_api_Rule) (g : List D_api_Grant) (nu : Int) (ns : List Int) (af : ByteArray) (pr : ByteArray) (ma : ByteArray) (fr : D_api_Spot) (mx : Int) (u : Unit) (he : QB n (15, w, b, y, i, bo, tg, l, q, d, r, g, nu, ns, af, pr, ma, fr, mx, u)) : F_acts_Good.f n (15, w, b, y, i, bo, tg, l, q, d, r, g, nu, ns, af, pr, ma, fr, mx, u) = some (goodQ (15, w, b, y, i, bo, tg, l, q, d, r, g, nu, ns, af, pr, ma, fr, mx, u), ()) := by
  have hw : w.size < n := he.w
  rw [F_acts_Good.e0]
  simp only [F_acts_Good.e1, own_15 h3 hn2 w b y i bo tg l q d r g nu ns af pr ma fr mx u he, s_bare, clean42 (by omega) hw, F_acts_anywhere.e0, label_Bucket h3, hide_n, bnd_s, Int.reduceBEq, bIf_t, bIf_f, bIf_and]
  have hbn := bucket_nil b
  unfold goodQ
  simp only [fld, show inB (hasQ 15) 107 = false by decide +kernel, show inB (hasQ 15) 105 = false by decide +kernel, show inB (hasQ 15) 66 = false by decide +kernel, show inB (hasQ 15) 116 = false by decide +kernel, show inB (hasQ 15) 108 = false by decide +kernel, show inB (hasQ 15) 121 = false by decide +kernel, show inB (hasQ 15) 100 = false by decide +kernel, show inB (hasQ 15) 114 = false by decide +kernel, show inB (hasQ 15) 103 = false by decide +kernel, show inB (hasQ 15) 110 = false by decide +kernel, show inB (hasQ 15) 78 = false by decide +kernel, show inB (hasQ 15) 97 = false by decide +kernel, show inB (hasQ 15) 112 = true by decide +kernel, show inB (hasQ 15) 109 = false by decide +kernel, show inB (hasQ 15) 102 = true by decide +kernel, show inB (hasQ 15) 120 = true by decide +kernel, show leastK 15 = 0 from rfl, show ∀ l, lockK 15 l = true from fun _ => rfl, show ∀ f, fromK 15 f = (eqS f.1 ⟨#[]⟩ && nameB f.2.1) from fun _ => rfl, if_true, if_false, Bool.false_eq_true, eqS_self, lockRefl, defRefl, spotRefl, beq_self_eq_true, Bool.true_and, Bool.and_true, Bool.not_false, List.length_nil, c00, show decide ((1 : Int) ≤ 15) = true from rfl, show decide ((15 : Int) ≤ 22) = true from rfl, show ((21 : Int) ≤ 15) = False from eq_false (by decide)]
  revert hbn
  try generalize eqS y ⟨#[]⟩ = x0
  try generalize (i == 0) = x1
  try generalize (((bo.length : Nat) : Int) == 0) = x2
  try generalize (((tg.length : Nat) : Int) == 0) = x3
  try generalize eqD T_api_Lock l _ = x4
  try generalize eqD T_api_Default d _ = x5
  try generalize (((r.length : Nat) : Int) == 0) = x6
  try generalize (((g.length : Nat) : Int) == 0) = x7
  try generalize (nu == 0) = x8
  try generalize (((ns.length : Nat) : Int) == 0) = x9
  try generalize eqS af ⟨#[]⟩ = x10
  try generalize eqS pr ⟨#[]⟩ = x11
  try generalize eqS ma ⟨#[]⟩ = x12
  try generalize eqD T_api_Spot fr _ = x13
  try generalize (mx == 0) = x14
  try generalize keyB y = x15
  try generalize decide (i ≥ 0) = x16
  try generalize decide (i ≥ 1) = x17
  try generalize decide (((bo.length : Nat) : Int) ≤ 1024) = x18
  try generalize tagsB tg = x19
  try generalize lockB l = x20
  try generalize l.2.2.1 = x21
  try generalize (l.1 == 0) = x22
  try generalize modeB d = x23
  try generalize rulesB r = x24
  try generalize grantsB g = x25
  try generalize decide (nu ≥ 1) = x26
  try generalize decide (nu ≤ 10000) = x27
  try generalize decide (((ns.length : Nat) : Int) ≤ 16) = x28
  try generalize nameB af = x29
  try generalize nameB pr = x30
  try generalize nameB ma = x31
  try generalize decide (mx ≥ 1) = x32
  try generalize decide (mx ≤ 100) = x33
  try generalize eqS fr.1 ⟨#[]⟩ = x34
  try generalize nameB fr.2.1 = x35
  try generalize bucketB fr.1 = x36
  try generalize keyB fr.2.1 = x37
  try generalize decide (fr.2.2.1 ≥ 1) = x38
  try generalize decide (((w.size : Nat) : Int) > 64) = x39
  try generalize cleanB w = x40
  generalize eqS b ⟨#[]⟩ = q1
  generalize bucketB b = q2
  clear he hw
  intro hbn
  cases q1 <;> cases q2 <;> first | exact absurd (hbn rfl) (by decide) | (simp only [Bool.not_false, Bool.not_true, bIf_t, bIf_f, bIf_nand, Bool.true_and, Bool.false_and, Bool.and_false, beq_true, beq_false, Bool.not_not, bIf_same, Bool.and_true]; first | done | simp only [Bool.and_comm, Bool.and_left_comm, Bool.and_assoc])
theorem good_16 {n : Nat} (h3 : 300 ≤ n) (hn2 : n ≤ 536870912) (w : ByteArray) (b : ByteArray) (y : ByteArray) (i : Int) (bo : List Int) (tg : List D_api_Tag) (l : D_api_Lock) (q : Bool) (d : D_api_Default) (r : List D_api_Rule) (g : List D_api_Grant) (nu : Int) (ns : List Int) (af : ByteArray) (pr : ByteArray) (ma : ByteArray) (fr : D_api_Spot) (mx : Int) (u : Unit) (he : QB n (16, w, b, y, i, bo, tg, l, q, d, r, g, nu, ns, af, pr, ma, fr, mx, u)) : F_acts_Good.f n (16, w, b, y, i, bo, tg, l, q, d, r, g, nu, ns, af, pr, ma, fr, mx, u) = some (goodQ (16, w, b, y, i, bo, tg, l, q, d, r, g, nu, ns, af, pr, ma, fr, mx, u), ()) := by
  have hw : w.size < n := he.w
  rw [F_acts_Good.e0]
  simp only [F_acts_Good.e1, own_16 h3 hn2 w b y i bo tg l q d r g nu ns af pr ma fr mx u he, s_bare, clean42 (by omega) hw, F_acts_anywhere.e0, label_Bucket h3, hide_n, bnd_s, Int.reduceBEq, bIf_t, bIf_f, bIf_and]
  have hbn := bucket_nil b
  unfold goodQ
  simp only [fld, show inB (hasQ 16) 107 = true by decide +kernel, show inB (hasQ 16) 105 = false by decide +kernel, show inB (hasQ 16) 66 = false by decide +kernel, show inB (hasQ 16) 116 = true by decide +kernel, show inB (hasQ 16) 108 = false by decide +kernel, show inB (hasQ 16) 121 = false by decide +kernel, show inB (hasQ 16) 100 = false by decide +kernel, show inB (hasQ 16) 114 = false by decide +kernel, show inB (hasQ 16) 103 = false by decide +kernel, show inB (hasQ 16) 110 = false by decide +kernel, show inB (hasQ 16) 78 = false by decide +kernel, show inB (hasQ 16) 97 = false by decide +kernel, show inB (hasQ 16) 112 = false by decide +kernel, show inB (hasQ 16) 109 = false by decide +kernel, show inB (hasQ 16) 102 = false by decide +kernel, show inB (hasQ 16) 120 = false by decide +kernel, show leastK 16 = 0 from rfl, show ∀ l, lockK 16 l = true from fun _ => rfl, show ∀ f, fromK 16 f = (bucketB f.1 && (keyB f.2.1 && decide (f.2.2.1 ≥ 1))) from fun _ => rfl, if_true, if_false, Bool.false_eq_true, eqS_self, lockRefl, defRefl, spotRefl, beq_self_eq_true, Bool.true_and, Bool.and_true, Bool.not_false, List.length_nil, c00, show decide ((1 : Int) ≤ 16) = true from rfl, show decide ((16 : Int) ≤ 22) = true from rfl, show ((21 : Int) ≤ 16) = False from eq_false (by decide)]
  revert hbn
  try generalize eqS y ⟨#[]⟩ = x0
  try generalize (i == 0) = x1
  try generalize (((bo.length : Nat) : Int) == 0) = x2
  try generalize (((tg.length : Nat) : Int) == 0) = x3
  try generalize eqD T_api_Lock l _ = x4
  try generalize eqD T_api_Default d _ = x5
  try generalize (((r.length : Nat) : Int) == 0) = x6
  try generalize (((g.length : Nat) : Int) == 0) = x7
  try generalize (nu == 0) = x8
  try generalize (((ns.length : Nat) : Int) == 0) = x9
  try generalize eqS af ⟨#[]⟩ = x10
  try generalize eqS pr ⟨#[]⟩ = x11
  try generalize eqS ma ⟨#[]⟩ = x12
  try generalize eqD T_api_Spot fr _ = x13
  try generalize (mx == 0) = x14
  try generalize keyB y = x15
  try generalize decide (i ≥ 0) = x16
  try generalize decide (i ≥ 1) = x17
  try generalize decide (((bo.length : Nat) : Int) ≤ 1024) = x18
  try generalize tagsB tg = x19
  try generalize lockB l = x20
  try generalize l.2.2.1 = x21
  try generalize (l.1 == 0) = x22
  try generalize modeB d = x23
  try generalize rulesB r = x24
  try generalize grantsB g = x25
  try generalize decide (nu ≥ 1) = x26
  try generalize decide (nu ≤ 10000) = x27
  try generalize decide (((ns.length : Nat) : Int) ≤ 16) = x28
  try generalize nameB af = x29
  try generalize nameB pr = x30
  try generalize nameB ma = x31
  try generalize decide (mx ≥ 1) = x32
  try generalize decide (mx ≤ 100) = x33
  try generalize eqS fr.1 ⟨#[]⟩ = x34
  try generalize nameB fr.2.1 = x35
  try generalize bucketB fr.1 = x36
  try generalize keyB fr.2.1 = x37
  try generalize decide (fr.2.2.1 ≥ 1) = x38
  try generalize decide (((w.size : Nat) : Int) > 64) = x39
  try generalize cleanB w = x40
  generalize eqS b ⟨#[]⟩ = q1
  generalize bucketB b = q2
  clear he hw
  intro hbn
  cases q1 <;> cases q2 <;> first | exact absurd (hbn rfl) (by decide) | (simp only [Bool.not_false, Bool.not_true, bIf_t, bIf_f, bIf_nand, Bool.true_and, Bool.false_and, Bool.and_false, beq_true, beq_false, Bool.not_not, bIf_same, Bool.and_true]; first | done | simp only [Bool.and_comm, Bool.and_left_comm, Bool.and_assoc])
theorem good_17 {n : Nat} (h3 : 300 ≤ n) (hn2 : n ≤ 536870912) (w : ByteArray) (b : ByteArray) (y : ByteArray) (i : Int) (bo : List Int) (tg : List D_api_Tag) (l : D_api_Lock) (q : Bool) (d : D_api_Default) (r : List D_api_Rule) (g : List D_api_Grant) (nu : Int) (ns : List Int) (af : ByteArray) (pr : ByteArray) (ma : ByteArray) (fr : D_api_Spot) (mx : Int) (u : Unit) (he : QB n (17, w, b, y, i, bo, tg, l, q, d, r, g, nu, ns, af, pr, ma, fr, mx, u)) : F_acts_Good.f n (17, w, b, y, i, bo, tg, l, q, d, r, g, nu, ns, af, pr, ma, fr, mx, u) = some (goodQ (17, w, b, y, i, bo, tg, l, q, d, r, g, nu, ns, af, pr, ma, fr, mx, u), ()) := by
  have hw : w.size < n := he.w
  rw [F_acts_Good.e0]
  simp only [F_acts_Good.e1, own_17 h3 hn2 w b y i bo tg l q d r g nu ns af pr ma fr mx u he, s_bare, clean42 (by omega) hw, F_acts_anywhere.e0, label_Bucket h3, hide_n, bnd_s, Int.reduceBEq, bIf_t, bIf_f, bIf_and]
  have hbn := bucket_nil b
  unfold goodQ
  simp only [fld, show inB (hasQ 17) 107 = false by decide +kernel, show inB (hasQ 17) 105 = true by decide +kernel, show inB (hasQ 17) 66 = true by decide +kernel, show inB (hasQ 17) 116 = false by decide +kernel, show inB (hasQ 17) 108 = false by decide +kernel, show inB (hasQ 17) 121 = false by decide +kernel, show inB (hasQ 17) 100 = false by decide +kernel, show inB (hasQ 17) 114 = false by decide +kernel, show inB (hasQ 17) 103 = false by decide +kernel, show inB (hasQ 17) 110 = true by decide +kernel, show inB (hasQ 17) 78 = false by decide +kernel, show inB (hasQ 17) 97 = false by decide +kernel, show inB (hasQ 17) 112 = false by decide +kernel, show inB (hasQ 17) 109 = false by decide +kernel, show inB (hasQ 17) 102 = false by decide +kernel, show inB (hasQ 17) 120 = false by decide +kernel, show leastK 17 = 1 from rfl, show ∀ l, lockK 17 l = true from fun _ => rfl, show ∀ f, fromK 17 f = (bucketB f.1 && (keyB f.2.1 && decide (f.2.2.1 ≥ 1))) from fun _ => rfl, if_true, if_false, Bool.false_eq_true, eqS_self, lockRefl, defRefl, spotRefl, beq_self_eq_true, Bool.true_and, Bool.and_true, Bool.not_false, List.length_nil, c00, show decide ((1 : Int) ≤ 17) = true from rfl, show decide ((17 : Int) ≤ 22) = true from rfl, show ((21 : Int) ≤ 17) = False from eq_false (by decide)]
  revert hbn
  try generalize eqS y ⟨#[]⟩ = x0
  try generalize (i == 0) = x1
  try generalize (((bo.length : Nat) : Int) == 0) = x2
  try generalize (((tg.length : Nat) : Int) == 0) = x3
  try generalize eqD T_api_Lock l _ = x4
  try generalize eqD T_api_Default d _ = x5
  try generalize (((r.length : Nat) : Int) == 0) = x6
  try generalize (((g.length : Nat) : Int) == 0) = x7
  try generalize (nu == 0) = x8
  try generalize (((ns.length : Nat) : Int) == 0) = x9
  try generalize eqS af ⟨#[]⟩ = x10
  try generalize eqS pr ⟨#[]⟩ = x11
  try generalize eqS ma ⟨#[]⟩ = x12
  try generalize eqD T_api_Spot fr _ = x13
  try generalize (mx == 0) = x14
  try generalize keyB y = x15
  try generalize decide (i ≥ 0) = x16
  try generalize decide (i ≥ 1) = x17
  try generalize decide (((bo.length : Nat) : Int) ≤ 1024) = x18
  try generalize tagsB tg = x19
  try generalize lockB l = x20
  try generalize l.2.2.1 = x21
  try generalize (l.1 == 0) = x22
  try generalize modeB d = x23
  try generalize rulesB r = x24
  try generalize grantsB g = x25
  try generalize decide (nu ≥ 1) = x26
  try generalize decide (nu ≤ 10000) = x27
  try generalize decide (((ns.length : Nat) : Int) ≤ 16) = x28
  try generalize nameB af = x29
  try generalize nameB pr = x30
  try generalize nameB ma = x31
  try generalize decide (mx ≥ 1) = x32
  try generalize decide (mx ≤ 100) = x33
  try generalize eqS fr.1 ⟨#[]⟩ = x34
  try generalize nameB fr.2.1 = x35
  try generalize bucketB fr.1 = x36
  try generalize keyB fr.2.1 = x37
  try generalize decide (fr.2.2.1 ≥ 1) = x38
  try generalize decide (((w.size : Nat) : Int) > 64) = x39
  try generalize cleanB w = x40
  generalize eqS b ⟨#[]⟩ = q1
  generalize bucketB b = q2
  clear he hw
  intro hbn
  cases q1 <;> cases q2 <;> first | exact absurd (hbn rfl) (by decide) | (simp only [Bool.not_false, Bool.not_true, bIf_t, bIf_f, bIf_nand, Bool.true_and, Bool.false_and, Bool.and_false, beq_true, beq_false, Bool.not_not, bIf_same, Bool.and_true]; first | done | simp only [Bool.and_comm, Bool.and_left_comm, Bool.and_assoc])
theorem good_18 {n : Nat} (h3 : 300 ≤ n) (hn2 : n ≤ 536870912) (w : ByteArray) (b : ByteArray) (y : ByteArray) (i : Int) (bo : List Int) (tg : List D_api_Tag) (l : D_api_Lock) (q : Bool) (d : D_api_Default) (r : List D_api_Rule) (g : List D_api_Grant) (nu : Int) (ns : List Int) (af : ByteArray) (pr : ByteArray) (ma : ByteArray) (fr : D_api_Spot) (mx : Int) (u : Unit) (he : QB n (18, w, b, y, i, bo, tg, l, q, d, r, g, nu, ns, af, pr, ma, fr, mx, u)) : F_acts_Good.f n (18, w, b, y, i, bo, tg, l, q, d, r, g, nu, ns, af, pr, ma, fr, mx, u) = some (goodQ (18, w, b, y, i, bo, tg, l, q, d, r, g, nu, ns, af, pr, ma, fr, mx, u), ()) := by
  have hw : w.size < n := he.w
  rw [F_acts_Good.e0]
  simp only [F_acts_Good.e1, own_18 h3 hn2 w b y i bo tg l q d r g nu ns af pr ma fr mx u he, s_bare, clean42 (by omega) hw, F_acts_anywhere.e0, label_Bucket h3, hide_n, bnd_s, Int.reduceBEq, bIf_t, bIf_f, bIf_and]
  have hbn := bucket_nil b
  unfold goodQ
  simp only [fld, show inB (hasQ 18) 107 = false by decide +kernel, show inB (hasQ 18) 105 = true by decide +kernel, show inB (hasQ 18) 66 = false by decide +kernel, show inB (hasQ 18) 116 = false by decide +kernel, show inB (hasQ 18) 108 = false by decide +kernel, show inB (hasQ 18) 121 = false by decide +kernel, show inB (hasQ 18) 100 = false by decide +kernel, show inB (hasQ 18) 114 = false by decide +kernel, show inB (hasQ 18) 103 = false by decide +kernel, show inB (hasQ 18) 110 = false by decide +kernel, show inB (hasQ 18) 78 = true by decide +kernel, show inB (hasQ 18) 97 = false by decide +kernel, show inB (hasQ 18) 112 = false by decide +kernel, show inB (hasQ 18) 109 = false by decide +kernel, show inB (hasQ 18) 102 = false by decide +kernel, show inB (hasQ 18) 120 = false by decide +kernel, show leastK 18 = 1 from rfl, show ∀ l, lockK 18 l = true from fun _ => rfl, show ∀ f, fromK 18 f = (bucketB f.1 && (keyB f.2.1 && decide (f.2.2.1 ≥ 1))) from fun _ => rfl, if_true, if_false, Bool.false_eq_true, eqS_self, lockRefl, defRefl, spotRefl, beq_self_eq_true, Bool.true_and, Bool.and_true, Bool.not_false, List.length_nil, c00, show decide ((1 : Int) ≤ 18) = true from rfl, show decide ((18 : Int) ≤ 22) = true from rfl, show ((21 : Int) ≤ 18) = False from eq_false (by decide)]
  revert hbn
  try generalize eqS y ⟨#[]⟩ = x0
  try generalize (i == 0) = x1
  try generalize (((bo.length : Nat) : Int) == 0) = x2
  try generalize (((tg.length : Nat) : Int) == 0) = x3
  try generalize eqD T_api_Lock l _ = x4
  try generalize eqD T_api_Default d _ = x5
  try generalize (((r.length : Nat) : Int) == 0) = x6
  try generalize (((g.length : Nat) : Int) == 0) = x7
  try generalize (nu == 0) = x8
  try generalize (((ns.length : Nat) : Int) == 0) = x9
  try generalize eqS af ⟨#[]⟩ = x10
  try generalize eqS pr ⟨#[]⟩ = x11
  try generalize eqS ma ⟨#[]⟩ = x12
  try generalize eqD T_api_Spot fr _ = x13
  try generalize (mx == 0) = x14
  try generalize keyB y = x15
  try generalize decide (i ≥ 0) = x16
  try generalize decide (i ≥ 1) = x17
  try generalize decide (((bo.length : Nat) : Int) ≤ 1024) = x18
  try generalize tagsB tg = x19
  try generalize lockB l = x20
  try generalize l.2.2.1 = x21
  try generalize (l.1 == 0) = x22
  try generalize modeB d = x23
  try generalize rulesB r = x24
  try generalize grantsB g = x25
  try generalize decide (nu ≥ 1) = x26
  try generalize decide (nu ≤ 10000) = x27
  try generalize decide (((ns.length : Nat) : Int) ≤ 16) = x28
  try generalize nameB af = x29
  try generalize nameB pr = x30
  try generalize nameB ma = x31
  try generalize decide (mx ≥ 1) = x32
  try generalize decide (mx ≤ 100) = x33
  try generalize eqS fr.1 ⟨#[]⟩ = x34
  try generalize nameB fr.2.1 = x35
  try generalize bucketB fr.1 = x36
  try generalize keyB fr.2.1 = x37
  try generalize decide (fr.2.2.1 ≥ 1) = x38
  try generalize decide (((w.size : Nat) : Int) > 64) = x39
  try generalize cleanB w = x40
  generalize eqS b ⟨#[]⟩ = q1
  generalize bucketB b = q2
  clear he hw
  intro hbn
  cases q1 <;> cases q2 <;> first | exact absurd (hbn rfl) (by decide) | (simp only [Bool.not_false, Bool.not_true, bIf_t, bIf_f, bIf_nand, Bool.true_and, Bool.false_and, Bool.and_false, beq_true, beq_false, Bool.not_not, bIf_same, Bool.and_true]; first | done | simp only [Bool.and_comm, Bool.and_left_comm, Bool.and_assoc])
theorem good_19 {n : Nat} (h3 : 300 ≤ n) (hn2 : n ≤ 536870912) (w : ByteArray) (b : ByteArray) (y : ByteArray) (i : Int) (bo : List Int) (tg : List D_api_Tag) (l : D_api_Lock) (q : Bool) (d : D_api_Default) (r : List D_api_Rule) (g : List D_api_Grant) (nu : Int) (ns : List Int) (af : ByteArray) (pr : ByteArray) (ma : ByteArray) (fr : D_api_Spot) (mx : Int) (u : Unit) (he : QB n (19, w, b, y, i, bo, tg, l, q, d, r, g, nu, ns, af, pr, ma, fr, mx, u)) : F_acts_Good.f n (19, w, b, y, i, bo, tg, l, q, d, r, g, nu, ns, af, pr, ma, fr, mx, u) = some (goodQ (19, w, b, y, i, bo, tg, l, q, d, r, g, nu, ns, af, pr, ma, fr, mx, u), ()) := by
  have hw : w.size < n := he.w
  rw [F_acts_Good.e0]
  simp only [F_acts_Good.e1, own_19 h3 hn2 w b y i bo tg l q d r g nu ns af pr ma fr mx u he, s_bare, clean42 (by omega) hw, F_acts_anywhere.e0, label_Bucket h3, hide_n, bnd_s, Int.reduceBEq, bIf_t, bIf_f, bIf_and]
  have hbn := bucket_nil b
  unfold goodQ
  simp only [fld, show inB (hasQ 19) 107 = false by decide +kernel, show inB (hasQ 19) 105 = true by decide +kernel, show inB (hasQ 19) 66 = false by decide +kernel, show inB (hasQ 19) 116 = false by decide +kernel, show inB (hasQ 19) 108 = false by decide +kernel, show inB (hasQ 19) 121 = false by decide +kernel, show inB (hasQ 19) 100 = false by decide +kernel, show inB (hasQ 19) 114 = false by decide +kernel, show inB (hasQ 19) 103 = false by decide +kernel, show inB (hasQ 19) 110 = false by decide +kernel, show inB (hasQ 19) 78 = false by decide +kernel, show inB (hasQ 19) 97 = false by decide +kernel, show inB (hasQ 19) 112 = false by decide +kernel, show inB (hasQ 19) 109 = false by decide +kernel, show inB (hasQ 19) 102 = false by decide +kernel, show inB (hasQ 19) 120 = false by decide +kernel, show leastK 19 = 1 from rfl, show ∀ l, lockK 19 l = true from fun _ => rfl, show ∀ f, fromK 19 f = (bucketB f.1 && (keyB f.2.1 && decide (f.2.2.1 ≥ 1))) from fun _ => rfl, if_true, if_false, Bool.false_eq_true, eqS_self, lockRefl, defRefl, spotRefl, beq_self_eq_true, Bool.true_and, Bool.and_true, Bool.not_false, List.length_nil, c00, show decide ((1 : Int) ≤ 19) = true from rfl, show decide ((19 : Int) ≤ 22) = true from rfl, show ((21 : Int) ≤ 19) = False from eq_false (by decide)]
  revert hbn
  try generalize eqS y ⟨#[]⟩ = x0
  try generalize (i == 0) = x1
  try generalize (((bo.length : Nat) : Int) == 0) = x2
  try generalize (((tg.length : Nat) : Int) == 0) = x3
  try generalize eqD T_api_Lock l _ = x4
  try generalize eqD T_api_Default d _ = x5
  try generalize (((r.length : Nat) : Int) == 0) = x6
  try generalize (((g.length : Nat) : Int) == 0) = x7
  try generalize (nu == 0) = x8
  try generalize (((ns.length : Nat) : Int) == 0) = x9
  try generalize eqS af ⟨#[]⟩ = x10
  try generalize eqS pr ⟨#[]⟩ = x11
  try generalize eqS ma ⟨#[]⟩ = x12
  try generalize eqD T_api_Spot fr _ = x13
  try generalize (mx == 0) = x14
  try generalize keyB y = x15
  try generalize decide (i ≥ 0) = x16
  try generalize decide (i ≥ 1) = x17
  try generalize decide (((bo.length : Nat) : Int) ≤ 1024) = x18
  try generalize tagsB tg = x19
  try generalize lockB l = x20
  try generalize l.2.2.1 = x21
  try generalize (l.1 == 0) = x22
  try generalize modeB d = x23
  try generalize rulesB r = x24
  try generalize grantsB g = x25
  try generalize decide (nu ≥ 1) = x26
  try generalize decide (nu ≤ 10000) = x27
  try generalize decide (((ns.length : Nat) : Int) ≤ 16) = x28
  try generalize nameB af = x29
  try generalize nameB pr = x30
  try generalize nameB ma = x31
  try generalize decide (mx ≥ 1) = x32
  try generalize decide (mx ≤ 100) = x33
  try generalize eqS fr.1 ⟨#[]⟩ = x34
  try generalize nameB fr.2.1 = x35
  try generalize bucketB fr.1 = x36
  try generalize keyB fr.2.1 = x37
  try generalize decide (fr.2.2.1 ≥ 1) = x38
  try generalize decide (((w.size : Nat) : Int) > 64) = x39
  try generalize cleanB w = x40
  generalize eqS b ⟨#[]⟩ = q1
  generalize bucketB b = q2
  clear he hw
  intro hbn
  cases q1 <;> cases q2 <;> first | exact absurd (hbn rfl) (by decide) | (simp only [Bool.not_false, Bool.not_true, bIf_t, bIf_f, bIf_nand, Bool.true_and, Bool.false_and, Bool.and_false, beq_true, beq_false, Bool.not_not, bIf_same, Bool.and_true]; first | done | simp only [Bool.and_comm, Bool.and_left_comm, Bool.and_assoc])
theorem good_20 {n : Nat} (h3 : 300 ≤ n) (hn2 : n ≤ 536870912) (w : ByteArray) (b : ByteArray) (y : ByteArray) (i : Int) (bo : List Int) (tg : List D_api_Tag) (l : D_api_Lock) (q : Bool) (d : D_api_Default) (r : List D_api_Rule) (g : List D_api_Grant) (nu : Int) (ns : List Int) (af : ByteArray) (pr : ByteArray) (ma : ByteArray) (fr : D_api_Spot) (mx : Int) (u : Unit) (he : QB n (20, w, b, y, i, bo, tg, l, q, d, r, g, nu, ns, af, pr, ma, fr, mx, u)) : F_acts_Good.f n (20, w, b, y, i, bo, tg, l, q, d, r, g, nu, ns, af, pr, ma, fr, mx, u) = some (goodQ (20, w, b, y, i, bo, tg, l, q, d, r, g, nu, ns, af, pr, ma, fr, mx, u), ()) := by
  have hw : w.size < n := he.w
  rw [F_acts_Good.e0]
  simp only [F_acts_Good.e1, own_20 h3 hn2 w b y i bo tg l q d r g nu ns af pr ma fr mx u he, s_bare, clean42 (by omega) hw, F_acts_anywhere.e0, label_Bucket h3, hide_n, bnd_s, Int.reduceBEq, bIf_t, bIf_f, bIf_and]
  have hbn := bucket_nil b
  unfold goodQ
  simp only [fld, show inB (hasQ 20) 107 = true by decide +kernel, show inB (hasQ 20) 105 = false by decide +kernel, show inB (hasQ 20) 66 = false by decide +kernel, show inB (hasQ 20) 116 = false by decide +kernel, show inB (hasQ 20) 108 = false by decide +kernel, show inB (hasQ 20) 121 = false by decide +kernel, show inB (hasQ 20) 100 = false by decide +kernel, show inB (hasQ 20) 114 = false by decide +kernel, show inB (hasQ 20) 103 = false by decide +kernel, show inB (hasQ 20) 110 = false by decide +kernel, show inB (hasQ 20) 78 = false by decide +kernel, show inB (hasQ 20) 97 = false by decide +kernel, show inB (hasQ 20) 112 = false by decide +kernel, show inB (hasQ 20) 109 = false by decide +kernel, show inB (hasQ 20) 102 = true by decide +kernel, show inB (hasQ 20) 120 = false by decide +kernel, show leastK 20 = 0 from rfl, show ∀ l, lockK 20 l = true from fun _ => rfl, show ∀ f, fromK 20 f = (bucketB f.1 && (keyB f.2.1 && decide (f.2.2.1 ≥ 1))) from fun _ => rfl, if_true, if_false, Bool.false_eq_true, eqS_self, lockRefl, defRefl, spotRefl, beq_self_eq_true, Bool.true_and, Bool.and_true, Bool.not_false, List.length_nil, c00, show decide ((1 : Int) ≤ 20) = true from rfl, show decide ((20 : Int) ≤ 22) = true from rfl, show ((21 : Int) ≤ 20) = False from eq_false (by decide)]
  revert hbn
  try generalize eqS y ⟨#[]⟩ = x0
  try generalize (i == 0) = x1
  try generalize (((bo.length : Nat) : Int) == 0) = x2
  try generalize (((tg.length : Nat) : Int) == 0) = x3
  try generalize eqD T_api_Lock l _ = x4
  try generalize eqD T_api_Default d _ = x5
  try generalize (((r.length : Nat) : Int) == 0) = x6
  try generalize (((g.length : Nat) : Int) == 0) = x7
  try generalize (nu == 0) = x8
  try generalize (((ns.length : Nat) : Int) == 0) = x9
  try generalize eqS af ⟨#[]⟩ = x10
  try generalize eqS pr ⟨#[]⟩ = x11
  try generalize eqS ma ⟨#[]⟩ = x12
  try generalize eqD T_api_Spot fr _ = x13
  try generalize (mx == 0) = x14
  try generalize keyB y = x15
  try generalize decide (i ≥ 0) = x16
  try generalize decide (i ≥ 1) = x17
  try generalize decide (((bo.length : Nat) : Int) ≤ 1024) = x18
  try generalize tagsB tg = x19
  try generalize lockB l = x20
  try generalize l.2.2.1 = x21
  try generalize (l.1 == 0) = x22
  try generalize modeB d = x23
  try generalize rulesB r = x24
  try generalize grantsB g = x25
  try generalize decide (nu ≥ 1) = x26
  try generalize decide (nu ≤ 10000) = x27
  try generalize decide (((ns.length : Nat) : Int) ≤ 16) = x28
  try generalize nameB af = x29
  try generalize nameB pr = x30
  try generalize nameB ma = x31
  try generalize decide (mx ≥ 1) = x32
  try generalize decide (mx ≤ 100) = x33
  try generalize eqS fr.1 ⟨#[]⟩ = x34
  try generalize nameB fr.2.1 = x35
  try generalize bucketB fr.1 = x36
  try generalize keyB fr.2.1 = x37
  try generalize decide (fr.2.2.1 ≥ 1) = x38
  try generalize decide (((w.size : Nat) : Int) > 64) = x39
  try generalize cleanB w = x40
  generalize eqS b ⟨#[]⟩ = q1
  generalize bucketB b = q2
  clear he hw
  intro hbn
  cases q1 <;> cases q2 <;> first | exact absurd (hbn rfl) (by decide) | (simp only [Bool.not_false, Bool.not_true, bIf_t, bIf_f, bIf_nand, Bool.true_and, Bool.false_and, Bool.and_false, beq_true, beq_false, Bool.not_not, bIf_same, Bool.and_true]; first | done | simp only [Bool.and_comm, Bool.and_left_comm, Bool.and_assoc])
theorem good_21 {n : Nat} (h3 : 300 ≤ n) (hn2 : n ≤ 536870912) (w : ByteArray) (b : ByteArray) (y : ByteArray) (i : Int) (bo : List Int) (tg : List D_api_Tag) (l : D_api_Lock) (q : Bool) (d : D_api_Default) (r : List D_api_Rule) (g : List D_api_Grant) (nu : Int) (ns : List Int) (af : ByteArray) (pr : ByteArray) (ma : ByteArray) (fr : D_api_Spot) (mx : Int) (u : Unit) (he : QB n (21, w, b, y, i, bo, tg, l, q, d, r, g, nu, ns, af, pr, ma, fr, mx, u)) : F_acts_Good.f n (21, w, b, y, i, bo, tg, l, q, d, r, g, nu, ns, af, pr, ma, fr, mx, u) = some (goodQ (21, w, b, y, i, bo, tg, l, q, d, r, g, nu, ns, af, pr, ma, fr, mx, u), ()) := by
  have hw : w.size < n := he.w
  rw [F_acts_Good.e0]
  simp only [F_acts_Good.e1, own_21 h3 hn2 w b y i bo tg l q d r g nu ns af pr ma fr mx u he, s_bare, clean42 (by omega) hw, F_acts_anywhere.e0, label_Bucket h3, hide_n, bnd_s, Int.reduceBEq, bIf_t, bIf_f, bIf_and]
  have hbn := bucket_nil b
  unfold goodQ
  simp only [fld, show inB (hasQ 21) 107 = false by decide +kernel, show inB (hasQ 21) 105 = false by decide +kernel, show inB (hasQ 21) 66 = false by decide +kernel, show inB (hasQ 21) 116 = false by decide +kernel, show inB (hasQ 21) 108 = false by decide +kernel, show inB (hasQ 21) 121 = false by decide +kernel, show inB (hasQ 21) 100 = false by decide +kernel, show inB (hasQ 21) 114 = false by decide +kernel, show inB (hasQ 21) 103 = false by decide +kernel, show inB (hasQ 21) 110 = false by decide +kernel, show inB (hasQ 21) 78 = false by decide +kernel, show inB (hasQ 21) 97 = false by decide +kernel, show inB (hasQ 21) 112 = false by decide +kernel, show inB (hasQ 21) 109 = false by decide +kernel, show inB (hasQ 21) 102 = false by decide +kernel, show inB (hasQ 21) 120 = false by decide +kernel, show leastK 21 = 0 from rfl, show ∀ l, lockK 21 l = true from fun _ => rfl, show ∀ f, fromK 21 f = (bucketB f.1 && (keyB f.2.1 && decide (f.2.2.1 ≥ 1))) from fun _ => rfl, if_true, if_false, Bool.false_eq_true, eqS_self, lockRefl, defRefl, spotRefl, beq_self_eq_true, Bool.true_and, Bool.and_true, Bool.not_false, List.length_nil, c00, show decide ((1 : Int) ≤ 21) = true from rfl, show decide ((21 : Int) ≤ 22) = true from rfl, show ((21 : Int) ≤ 21) = True from eq_true (by decide)]
  revert hbn
  try generalize eqS y ⟨#[]⟩ = x0
  try generalize (i == 0) = x1
  try generalize (((bo.length : Nat) : Int) == 0) = x2
  try generalize (((tg.length : Nat) : Int) == 0) = x3
  try generalize eqD T_api_Lock l _ = x4
  try generalize eqD T_api_Default d _ = x5
  try generalize (((r.length : Nat) : Int) == 0) = x6
  try generalize (((g.length : Nat) : Int) == 0) = x7
  try generalize (nu == 0) = x8
  try generalize (((ns.length : Nat) : Int) == 0) = x9
  try generalize eqS af ⟨#[]⟩ = x10
  try generalize eqS pr ⟨#[]⟩ = x11
  try generalize eqS ma ⟨#[]⟩ = x12
  try generalize eqD T_api_Spot fr _ = x13
  try generalize (mx == 0) = x14
  try generalize keyB y = x15
  try generalize decide (i ≥ 0) = x16
  try generalize decide (i ≥ 1) = x17
  try generalize decide (((bo.length : Nat) : Int) ≤ 1024) = x18
  try generalize tagsB tg = x19
  try generalize lockB l = x20
  try generalize l.2.2.1 = x21
  try generalize (l.1 == 0) = x22
  try generalize modeB d = x23
  try generalize rulesB r = x24
  try generalize grantsB g = x25
  try generalize decide (nu ≥ 1) = x26
  try generalize decide (nu ≤ 10000) = x27
  try generalize decide (((ns.length : Nat) : Int) ≤ 16) = x28
  try generalize nameB af = x29
  try generalize nameB pr = x30
  try generalize nameB ma = x31
  try generalize decide (mx ≥ 1) = x32
  try generalize decide (mx ≤ 100) = x33
  try generalize eqS fr.1 ⟨#[]⟩ = x34
  try generalize nameB fr.2.1 = x35
  try generalize bucketB fr.1 = x36
  try generalize keyB fr.2.1 = x37
  try generalize decide (fr.2.2.1 ≥ 1) = x38
  try generalize decide (((w.size : Nat) : Int) > 64) = x39
  try generalize cleanB w = x40
  generalize eqS b ⟨#[]⟩ = q1
  generalize bucketB b = q2
  clear he hw
  intro hbn
  cases q1 <;> cases q2 <;> first | exact absurd (hbn rfl) (by decide) | (simp only [Bool.not_false, Bool.not_true, bIf_t, bIf_f, bIf_nand, Bool.true_and, Bool.false_and, Bool.and_false, beq_true, beq_false, Bool.not_not, bIf_same, Bool.and_true]; first | done | simp only [Bool.and_comm, Bool.and_left_comm, Bool.and_assoc])
theorem good_22 {n : Nat} (h3 : 300 ≤ n) (hn2 : n ≤ 536870912) (w : ByteArray) (b : ByteArray) (y : ByteArray) (i : Int) (bo : List Int) (tg : List D_api_Tag) (l : D_api_Lock) (q : Bool) (d : D_api_Default) (r : List D_api_Rule) (g : List D_api_Grant) (nu : Int) (ns : List Int) (af : ByteArray) (pr : ByteArray) (ma : ByteArray) (fr : D_api_Spot) (mx : Int) (u : Unit) (he : QB n (22, w, b, y, i, bo, tg, l, q, d, r, g, nu, ns, af, pr, ma, fr, mx, u)) : F_acts_Good.f n (22, w, b, y, i, bo, tg, l, q, d, r, g, nu, ns, af, pr, ma, fr, mx, u) = some (goodQ (22, w, b, y, i, bo, tg, l, q, d, r, g, nu, ns, af, pr, ma, fr, mx, u), ()) := by
  have hw : w.size < n := he.w
  rw [F_acts_Good.e0]
  simp only [F_acts_Good.e1, own_22 h3 hn2 w b y i bo tg l q d r g nu ns af pr ma fr mx u he, s_bare, clean42 (by omega) hw, F_acts_anywhere.e0, label_Bucket h3, hide_n, bnd_s, Int.reduceBEq, bIf_t, bIf_f, bIf_and]
  have hbn := bucket_nil b
  unfold goodQ
  simp only [fld, show inB (hasQ 22) 107 = false by decide +kernel, show inB (hasQ 22) 105 = false by decide +kernel, show inB (hasQ 22) 66 = false by decide +kernel, show inB (hasQ 22) 116 = false by decide +kernel, show inB (hasQ 22) 108 = false by decide +kernel, show inB (hasQ 22) 121 = false by decide +kernel, show inB (hasQ 22) 100 = false by decide +kernel, show inB (hasQ 22) 114 = false by decide +kernel, show inB (hasQ 22) 103 = false by decide +kernel, show inB (hasQ 22) 110 = false by decide +kernel, show inB (hasQ 22) 78 = false by decide +kernel, show inB (hasQ 22) 97 = false by decide +kernel, show inB (hasQ 22) 112 = false by decide +kernel, show inB (hasQ 22) 109 = false by decide +kernel, show inB (hasQ 22) 102 = false by decide +kernel, show inB (hasQ 22) 120 = false by decide +kernel, show leastK 22 = 0 from rfl, show ∀ l, lockK 22 l = true from fun _ => rfl, show ∀ f, fromK 22 f = (bucketB f.1 && (keyB f.2.1 && decide (f.2.2.1 ≥ 1))) from fun _ => rfl, if_true, if_false, Bool.false_eq_true, eqS_self, lockRefl, defRefl, spotRefl, beq_self_eq_true, Bool.true_and, Bool.and_true, Bool.not_false, List.length_nil, c00, show decide ((1 : Int) ≤ 22) = true from rfl, show decide ((22 : Int) ≤ 22) = true from rfl, show ((21 : Int) ≤ 22) = True from eq_true (by decide)]
  revert hbn
  try generalize eqS y ⟨#[]⟩ = x0
  try generalize (i == 0) = x1
  try generalize (((bo.length : Nat) : Int) == 0) = x2
  try generalize (((tg.length : Nat) : Int) == 0) = x3
  try generalize eqD T_api_Lock l _ = x4
  try generalize eqD T_api_Default d _ = x5
  try generalize (((r.length : Nat) : Int) == 0) = x6
  try generalize (((g.length : Nat) : Int) == 0) = x7
  try generalize (nu == 0) = x8
  try generalize (((ns.length : Nat) : Int) == 0) = x9
  try generalize eqS af ⟨#[]⟩ = x10
  try generalize eqS pr ⟨#[]⟩ = x11
  try generalize eqS ma ⟨#[]⟩ = x12
  try generalize eqD T_api_Spot fr _ = x13
  try generalize (mx == 0) = x14
  try generalize keyB y = x15
  try generalize decide (i ≥ 0) = x16
  try generalize decide (i ≥ 1) = x17
  try generalize decide (((bo.length : Nat) : Int) ≤ 1024) = x18
  try generalize tagsB tg = x19
  try generalize lockB l = x20
  try generalize l.2.2.1 = x21
  try generalize (l.1 == 0) = x22
  try generalize modeB d = x23
  try generalize rulesB r = x24
  try generalize grantsB g = x25
  try generalize decide (nu ≥ 1) = x26
  try generalize decide (nu ≤ 10000) = x27
  try generalize decide (((ns.length : Nat) : Int) ≤ 16) = x28
  try generalize nameB af = x29
  try generalize nameB pr = x30
  try generalize nameB ma = x31
  try generalize decide (mx ≥ 1) = x32
  try generalize decide (mx ≤ 100) = x33
  try generalize eqS fr.1 ⟨#[]⟩ = x34
  try generalize nameB fr.2.1 = x35
  try generalize bucketB fr.1 = x36
  try generalize keyB fr.2.1 = x37
  try generalize decide (fr.2.2.1 ≥ 1) = x38
  try generalize decide (((w.size : Nat) : Int) > 64) = x39
  try generalize cleanB w = x40
  generalize eqS b ⟨#[]⟩ = q1
  generalize bucketB b = q2
  clear he hw
  intro hbn
  cases q1 <;> cases q2 <;> first | exact absurd (hbn rfl) (by decide) | (simp only [Bool.not_false, Bool.not_true, bIf_t, bIf_f, bIf_nand, Bool.true_and, Bool.false_and, Bool.and_false, beq_true, beq_false, Bool.not_not, bIf_same, Bool.and_true]; first | done | simp only [Bool.and_comm, Bool.and_left_comm, Bool.and_assoc])
end Go.Proofs.YtfpedialdcgnhaaGreatDoor
