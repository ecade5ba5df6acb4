/-
  The plain laws.
-/
import Derived.Test.YtnlckhekcklcpaaDoorVaPlain
import Derived.Test.YtnlckhekcklcpaaDoorF0
import Derived.Lib.MapLaws
import Derived.Test.YtnlckhekcklcpaaDoorRows
import Derived.Test.YtnlckhekcklcpaaDoorCards
import Derived.Test.YtnlckhekcklcpaaDoorTie
import Derived.JoinedCond
import Derived.ChangeCalls
import Derived.Lib.LaidIn
import Derived.Lib.LaidU8T
import Derived.Deep.DeepHandedRow
import Derived.ProofKit
set_option linter.unusedVariables false
set_option linter.unusedSimpArgs false
namespace Go.Proofs.YtnlckhekcklcpaaDoor
open Go Go.Va Go.Proofs

def ok32 (b : UInt8) : Bool := decide (32 ≤ b.toNat) && decide (b.toNat ≠ 127)
/-- A clean text. -/
def cleanB (s : ByteArray) : Bool := s.data.toList.all ok32 && Lib.validD s.data.toList

theorem bnd_some {α β : Type} (a : α) (f : α → Option β) : bnd (some a) f = f a := rfl

theorem all_drop (l : List UInt8) (k : Nat) (h : k < l.length) : (l.drop k).all ok32 = (ok32 (l.getD k 0) && (l.drop (k + 1)).all ok32) := by
  rw [List.drop_eq_getElem_cons h, List.all_cons, List.getD_eq_getElem?_getD, List.getElem?_eq_getElem h]
  rfl
theorem ok32_hi {b : UInt8} (h : 128 ≤ b.toNat) : ok32 b = true := by
  unfold ok32; rw [decide_eq_true (by omega), decide_eq_true (by omega)]; rfl
theorem getD_dropA (l : List UInt8) (k i : Nat) : (l.drop k).getD i 0 = l.getD (k + i) 0 := by
  rw [List.getD_eq_getElem?_getD, List.getD_eq_getElem?_getD, List.getElem?_drop]
theorem bt_nat (s : ByteArray) (k : Nat) : bt s (k : Int) = ((s.data.toList.getD k 0).toNat : Int) := rfl

theorem clean42_J (n : Nat) (s : ByteArray) (hs : s.size ≤ 1073741824) : ∀ (m k : Nat), k ≤ s.size → s.size - k < m →
    f42.J1 n m (s, ofBytes s, (((ofBytes s).length : Nat) : Int), (k : Int), ()) = some ((s.data.toList.drop k).all ok32 && Lib.validD s.data.toList, ())
  | 0, k, _, h => by omega
  | m + 1, k, hk, h => by
    have hsz := size_eq s
    have hl := size_of s
    change f42.S1 n (f42.J1 n m) (f42.J2 n) s (ofBytes s) (((ofBytes s).length : Nat) : Int) (k : Int) = _
    unfold f42.S1
    simp only [hide_eq, bIf_eq, gIf_eq, Nat.zero_add]
    by_cases hlt : k < s.size
    · rw [if_pos (decide_eq_true (by omega)), if_pos ⟨by omega, by omega⟩, all_drop _ _ (by omega), wrap_i64 (by omega)]
      have hb : (ofBytes s).getD (k : Int).toNat 0 = ((s.data.toList.getD k 0).toNat : Int) := by rw [← bt_getD]; rfl
      rw [hb]
      have ih := clean42_J n s hs m (k + 1) (by omega) (by omega)
      rw [show (((k + 1 : Nat) : Int)) = (k : Int) + 1 by omega] at ih
      rw [ih]
      generalize s.data.toList.getD k 0 = b
      unfold ok32
      by_cases h1 : b.toNat < 32
      · rw [if_pos (decide_eq_true (by omega)), decide_eq_false (by omega)]; rfl
      · rw [if_neg (by simp; omega), decide_eq_true (by omega)]
        by_cases h2 : b.toNat = 127
        · rw [if_pos (by rw [beq_iff_eq]; omega), decide_eq_false (by omega)]; rfl
        · rw [if_neg (by rw [beq_iff_eq]; omega), decide_eq_true (by omega)]; simp
    · rw [if_neg (by simp; omega)]
      have hkk : k = s.size := by omega
      subst hkk
      rw [hsz, List.drop_length]
      change f42.S2 n s = _
      unfold f42.S2 f49.f
      rw [if_pos (by omega), bnd_some]
      rfl

theorem clean42 {n : Nat} {s : ByteArray} (hs : s.size ≤ 1073741824) (hn : s.size < n) : f42.f n s = some (cleanB s, ()) := by
  change f42.J1 n n (s, ofBytes s, (((ofBytes s).length : Nat) : Int), ((0 : Nat) : Int), ()) = _
  rw [clean42_J n s hs n 0 (by omega) (by omega)]
  rfl

/-- One more byte of a sign. -/
theorem step7 (n m : Nat) (r1 : Dens f44.g1 → Option f44.R) (s : ByteArray) (hs : s.size ≤ 1073741824) (k : Nat) (hk : k ≤ s.size) (w : Nat) (hw : w ≤ 4) (r : Nat) (hr : r < 1048576) (least : Int) (i : Nat) (hi : i < w) :
    f44.J7 n r1 (m + 1) (s, (k : Int), (w : Int), (r : Int), least, (i : Int), ()) =
      if k + i < s.size then
        if (s.data.toList.getD (k + i) 0).toNat / 64 = 2 then f44.J7 n r1 m (s, (k : Int), (w : Int), ((r * 64 + (s.data.toList.getD (k + i) 0).toNat % 64 : Nat) : Int), least, ((i + 1 : Nat) : Int), ())
        else some (false, ())
      else some (false, ()) := by
  change f44.S7 n (f44.J8 n r1 (f44.J7 n r1 m)) (f44.J10 n r1) s (k : Int) (w : Int) (r : Int) least (i : Int) = _
  unfold f44.S7
  have e8 : ∀ v, f44.J8 n r1 (f44.J7 n r1 m) v = f44.S8 n (f44.J9 n r1 (f44.J7 n r1 m)) v.1 v.2.1 v.2.2.1 v.2.2.2.1 v.2.2.2.2.1 v.2.2.2.2.2.1 := fun v => rfl
  have e9 : ∀ v, f44.J9 n r1 (f44.J7 n r1 m) v = f44.S9 n (f44.J7 n r1 m) v.1 v.2.1 v.2.2.1 v.2.2.2.1 v.2.2.2.2.1 v.2.2.2.2.2.1 := fun v => rfl
  simp only [hide_eq, bIf_eq, gIf_eq]
  rw [if_pos (decide_eq_true (by omega)), wrap_i64 (x := (k : Int) + (i : Int)) (by omega)]
  rw [show ((k : Int) + (i : Int)) = ((k + i : Nat) : Int) by omega, bt_nat]
  have hb := (s.data.toList.getD (k + i) 0).toNat_lt
  generalize hB : (s.data.toList.getD (k + i) 0).toNat = b at hb ⊢
  by_cases h1 : k + i < s.size
  · rw [if_neg (by simp; omega), if_pos ⟨by omega, by omega⟩, if_pos h1]
    by_cases h2 : b / 64 = 2
    · rw [if_neg (by simp; omega), if_pos ⟨by omega, by omega⟩, if_neg (by simp; omega), if_pos h2, e8]
      unfold f44.S8
      simp only [gIf_eq]
      rw [wrap_i64 (x := (k : Int) + (i : Int)) (by omega), show ((k : Int) + (i : Int)) = ((k + i : Nat) : Int) by omega, bt_nat, hB, if_pos ⟨by omega, by omega⟩, e9]
      unfold f44.S9
      dsimp only
      rw [wrap_i64 (x := (i : Int) + 1) (by omega), wrap_i64 (x := (r : Int) * 64) (by omega), wrap_i64 (x := (b : Int)) (by omega), wrap_i64 (x := (r : Int) * 64 + (b : Int)) (by omega), wrap_i64 (by omega)]
      rw [show ((r : Int) * 64 + (b : Int) - 128) = ((r * 64 + b % 64 : Nat) : Int) by omega]
      rfl
    · rw [if_neg h2]
      by_cases h3 : b < 128
      · rw [if_pos (decide_eq_true (by omega))]
      · rw [if_neg (by simp; omega), if_pos ⟨by omega, by omega⟩, if_pos (decide_eq_true (by omega))]
  · rw [if_pos (decide_eq_true (by omega)), if_neg h1]

/-- Behind the last one. -/
theorem end7 (n m : Nat) (r1 : Dens f44.g1 → Option f44.R) (s : ByteArray) (hs : s.size ≤ 1073741824) (k : Nat) (hk : k ≤ s.size) (w : Nat) (hw : w ≤ 4) (r : Nat) (least : Nat) :
    f44.J7 n r1 (m + 1) (s, (k : Int), (w : Int), (r : Int), (least : Int), (w : Int), ()) =
      if least ≤ r ∧ r ≤ 1114111 ∧ ¬ (55296 ≤ r ∧ r ≤ 57343) then r1 (s, ((k + w : Nat) : Int), ()) else some (false, ()) := by
  change f44.S7 n (f44.J8 n r1 (f44.J7 n r1 m)) (f44.J10 n r1) s (k : Int) (w : Int) (r : Int) (least : Int) (w : Int) = _
  unfold f44.S7
  have e10 : ∀ v, f44.J10 n r1 v = f44.S10 n (f44.J11 n r1) v.1 v.2.1 v.2.2.1 v.2.2.2.1 v.2.2.2.2.1 := fun v => rfl
  have e11 : ∀ v, f44.J11 n r1 v = f44.S11 n r1 v.1 v.2.1 v.2.2.1 := fun v => rfl
  simp only [hide_eq, bIf_eq, gIf_eq]
  rw [if_neg (by simp), e10]
  unfold f44.S10
  simp only [hide_eq, bIf_eq, gIf_eq]
  have e : f44.J11 n r1 (s, (k : Int), (w : Int), ()) = r1 (s, ((k + w : Nat) : Int), ()) := by
    rw [e11]; unfold f44.S11; dsimp only
    rw [wrap_i64 (by omega)]; congr 2
  rw [e]
  by_cases h1 : r < least
  · rw [if_pos (decide_eq_true (by omega)), if_neg (by omega)]
  · rw [if_neg (by simp; omega)]
    by_cases h2 : 1114111 < r
    · rw [if_pos (decide_eq_true (by omega)), if_neg (by omega)]
    · rw [if_neg (by simp; omega)]
      by_cases h3 : 55296 ≤ r
      · rw [if_pos (decide_eq_true (by omega))]
        by_cases h4 : r ≤ 57343
        · rw [if_pos (decide_eq_true (by omega)), if_neg (by omega)]
        · rw [if_neg (by simp; omega), if_pos (by omega)]
      · rw [if_neg (by simp; omega), if_pos (by omega)]

/-- One sign. -/
theorem sign44 (q : Nat) (r1 : Dens f44.g1 → Option f44.R) (s : ByteArray) (hs : s.size ≤ 1073741824) (k : Nat) (hk : k < s.size) (b : Nat) (w : Nat) (hw : 1 ≤ w ∧ w ≤ 4) (r : Nat) (hr : r < 128) (least : Nat) :
    f44.J5 (q + 5) r1 (s, (k : Int), (b : Int), (w : Int), (r : Int), (least : Int), ()) = if 32 ≤ b ∧ b ≠ 127 then f44.J7 (q + 5) r1 (q + 4 + 1) (s, (k : Int), (w : Int), (r : Int), (least : Int), ((1 : Nat) : Int), ()) else some (false, ()) := by
  change f44.S5 (q + 5) (f44.J6 (q + 5) r1) s (k : Int) (b : Int) (w : Int) (r : Int) (least : Int) = _
  unfold f44.S5
  simp only [hide_eq, bIf_eq, gIf_eq]
  by_cases h1 : b < 32
  · rw [if_pos (decide_eq_true (by omega)), if_neg (by omega)]
  · rw [if_neg (by simp; omega)]
    by_cases h2 : b = 127
    · rw [if_pos (by rw [beq_iff_eq]; omega), if_neg (by omega)]
    · rw [if_neg (by rw [beq_iff_eq]; omega), if_pos (by omega)]
      rfl
end Go.Proofs.YtnlckhekcklcpaaDoor

namespace Go.Proofs.YtnlckhekcklcpaaDoor
open Go Go.Va Go.Proofs

/-- Which sign it is. -/
theorem round44 (n m : Nat) (s : ByteArray) (hs : s.size ≤ 1073741824) (k : Nat) (hk : k < s.size) (b : Nat) (hb : (s.data.toList.getD k 0).toNat = b) :
    f44.J1 n (m + 1) (s, (k : Int), ()) =
      if b < 128 then f44.J5 n (f44.J1 n m) (s, (k : Int), (b : Int), ((1 : Nat) : Int), (b : Int), ((0 : Nat) : Int), ())
      else if 192 ≤ b ∧ b < 224 then f44.J5 n (f44.J1 n m) (s, (k : Int), (b : Int), ((2 : Nat) : Int), ((b - 192 : Nat) : Int), ((128 : Nat) : Int), ())
      else if 224 ≤ b ∧ b < 240 then f44.J5 n (f44.J1 n m) (s, (k : Int), (b : Int), ((3 : Nat) : Int), ((b - 224 : Nat) : Int), ((2048 : Nat) : Int), ())
      else if 240 ≤ b ∧ b < 248 then f44.J5 n (f44.J1 n m) (s, (k : Int), (b : Int), ((4 : Nat) : Int), ((b - 240 : Nat) : Int), ((65536 : Nat) : Int), ())
      else some (false, ()) := by
  have hb2 := (s.data.toList.getD k 0).toNat_lt
  change f44.S1 n (f44.J5 n (f44.J1 n m)) (f44.J2 n (f44.J1 n m)) (f44.J12 n) s (k : Int) = _
  generalize f44.J1 n m = r1
  unfold f44.S1
  have e2 : ∀ v, f44.J2 n r1 v = f44.S2 n (f44.J5 n r1) (f44.J3 n r1) v.1 v.2.1 v.2.2.1 v.2.2.2.1 := fun v => rfl
  have e3 : ∀ v, f44.J3 n r1 v = f44.S3 n (f44.J5 n r1) (f44.J4 n r1) v.1 v.2.1 v.2.2.1 v.2.2.2.1 := fun v => rfl
  have e4 : ∀ v, f44.J4 n r1 v = f44.S4 n (f44.J5 n r1) v.1 v.2.1 v.2.2.1 v.2.2.2.1 := fun v => rfl
  simp only [hide_eq, bIf_eq, gIf_eq]
  rw [bt_nat, hb, wrap_i64 (by omega), if_pos (decide_eq_true (by omega)), if_pos ⟨by omega, by omega⟩]
  by_cases h1 : b < 128
  · rw [if_pos (decide_eq_true (by omega)), if_pos h1]; rfl
  · rw [if_neg (by simp; omega), if_neg h1]
    have hS2 : ∀ t : Bool, f44.J2 n r1 (s, (k : Int), (b : Int), t, ()) = if t = true then f44.J5 n r1 (s, (k : Int), (b : Int), 2, (IntKind.i64.wrap ((b : Int) - 192)), 128, ()) else if decide ((b : Int) ≥ 224) = true then f44.J3 n r1 (s, (k : Int), (b : Int), decide ((b : Int) < 240), ()) else f44.J3 n r1 (s, (k : Int), (b : Int), false, ()) := by
      intro t; rw [e2]; unfold f44.S2; simp only [hide_eq, bIf_eq, gIf_eq]
    have hS3 : ∀ t : Bool, f44.J3 n r1 (s, (k : Int), (b : Int), t, ()) = if t = true then f44.J5 n r1 (s, (k : Int), (b : Int), 3, (IntKind.i64.wrap ((b : Int) - 224)), 2048, ()) else if decide ((b : Int) ≥ 240) = true then f44.J4 n r1 (s, (k : Int), (b : Int), decide ((b : Int) < 248), ()) else f44.J4 n r1 (s, (k : Int), (b : Int), false, ()) := by
      intro t; rw [e3]; unfold f44.S3; simp only [hide_eq, bIf_eq, gIf_eq]
    have hS4 : ∀ t : Bool, f44.J4 n r1 (s, (k : Int), (b : Int), t, ()) = if t = true then f44.J5 n r1 (s, (k : Int), (b : Int), 4, (IntKind.i64.wrap ((b : Int) - 240)), 65536, ()) else some (false, ()) := by
      intro t; rw [e4]; unfold f44.S4; simp only [hide_eq, bIf_eq, gIf_eq]
    simp only [hS2, hS3, hS4]
    by_cases h2 : 192 ≤ b ∧ b < 224
    · rw [if_pos (decide_eq_true (by omega)), if_pos (decide_eq_true (by omega)), if_pos h2, wrap_i64 (by omega), show ((b : Int) - 192) = ((b - 192 : Nat) : Int) by omega]; rfl
    · rw [if_neg h2]
      by_cases h3 : 224 ≤ b ∧ b < 240
      · rw [if_pos (decide_eq_true (by omega)), if_neg (by simp; omega), if_pos (decide_eq_true (by omega)), if_pos (decide_eq_true (by omega)), if_pos h3, wrap_i64 (x := (b : Int) - 224) (by omega), show ((b : Int) - 224) = ((b - 224 : Nat) : Int) by omega]; rfl
      · rw [if_neg h3]
        by_cases h4 : 240 ≤ b ∧ b < 248
        · rw [if_pos (decide_eq_true (by omega)), if_neg (by simp; omega), if_pos (decide_eq_true (by omega)), if_neg (by simp; omega), if_pos (decide_eq_true (by omega)), if_pos (decide_eq_true (by omega)), if_pos h4, wrap_i64 (x := (b : Int) - 240) (by omega), show ((b : Int) - 240) = ((b - 240 : Nat) : Int) by omega]; rfl
        · rw [if_neg h4]
          split <;> (simp only [decide_eq_true_eq, Bool.false_eq_true, if_false, ge_iff_le]; repeat' split) <;> first | rfl | (exfalso; simp_all; omega) | (exfalso; omega)

theorem clean44_J (q : Nat) (s : ByteArray) (hs : s.size ≤ 1073741824) : ∀ (m k : Nat), k ≤ s.size → s.size - k < m →
    f44.J1 (q + 5) m (s, (k : Int), ()) = some ((s.data.toList.drop k).all ok32 && Lib.validD (s.data.toList.drop k), ())
  | 0, k, _, h => by omega
  | m + 1, k, hk, h => by
    have hsz := size_eq s
    by_cases hlt : k < s.size
    · obtain ⟨b, hb⟩ : ∃ b, (s.data.toList.getD k 0).toNat = b := ⟨_, rfl⟩
      have hb0 := (s.data.toList.getD k 0).toNat_lt
      have hb1 := (s.data.toList.getD (k + 1) 0).toNat_lt
      have hb2 := (s.data.toList.getD (k + 2) 0).toNat_lt
      have hb3 := (s.data.toList.getD (k + 3) 0).toNat_lt
      have ih1 := fun h' => clean44_J q s hs m (k + 1) h' (by omega)
      have ih2 := fun h' => clean44_J q s hs m (k + 2) h' (by omega)
      have ih3 := fun h' => clean44_J q s hs m (k + 3) h' (by omega)
      have ih4 := fun h' => clean44_J q s hs m (k + 4) h' (by omega)
      rw [round44 (q + 5) m s hs k hlt b hb]
      generalize f44.J1 (q + 5) m = r1 at ih1 ih2 ih3 ih4 ⊢
      have hne : s.data.toList.drop k ≠ [] := by
        intro e; have := congrArg List.length e; rw [List.length_drop] at this; simp at this; omega
      rw [Lib.validD_step _ hne, Lib.decodeL_N, List.length_drop, ← hsz]
      simp only [getD_dropA, List.drop_drop, Nat.add_zero]
      have a1 := fun h' => all_drop s.data.toList (k + 1) h'
      have a2 := fun h' => all_drop s.data.toList (k + 2) h'
      have a3 := fun h' => all_drop s.data.toList (k + 3) h'
      rw [all_drop s.data.toList k (by omega)]
      have o0 : 128 ≤ b → ok32 (s.data.toList.getD k 0) = true := fun h' => ok32_hi (by omega)
      have o1 : 128 ≤ (s.data.toList.getD (k + 1) 0).toNat → ok32 (s.data.toList.getD (k + 1) 0) = true := fun h' => ok32_hi h'
      have o2 : 128 ≤ (s.data.toList.getD (k + 2) 0).toNat → ok32 (s.data.toList.getD (k + 2) 0) = true := fun h' => ok32_hi h'
      have o3 : 128 ≤ (s.data.toList.getD (k + 3) 0).toNat → ok32 (s.data.toList.getD (k + 3) 0) = true := fun h' => ok32_hi h'
      have s1 := fun (w : Nat) hw r hr least hi => step7 (q + 5) (q + 4) r1 s hs k hk w hw r hr least 1 hi
      have s2 := fun (w : Nat) hw r hr least hi => step7 (q + 5) (q + 3) r1 s hs k hk w hw r hr least 2 hi
      have s3 := fun (w : Nat) hw r hr least hi => step7 (q + 5) (q + 2) r1 s hs k hk w hw r hr least 3 hi
      rw [hb] at hb0 ⊢
      generalize (s.data.toList.getD (k + 1) 0).toNat = b1 at hb1 o1 s1 ⊢
      generalize (s.data.toList.getD (k + 2) 0).toNat = b2 at hb2 o2 s2 ⊢
      generalize (s.data.toList.getD (k + 3) 0).toNat = b3 at hb3 o3 s3 ⊢
      obtain ⟨D, hD⟩ : ∃ D, Lib.decodeN (s.size - k) b b1 b2 b3 = D := ⟨_, rfl⟩
      rw [hD]
      unfold Lib.decodeN at hD
      have hbad : D = (65533, 1) → ∀ x y : Bool, (some (x && y && (if D.1 = 65533 ∧ D.2 = 1 then false else Lib.validD (s.data.toList.drop (k + D.2))), ()) : Option f44.R) = some (false, ()) := by
        rintro rfl x y; rw [if_pos ⟨rfl, rfl⟩, Bool.and_false]
      have hgood : ∀ r w, D = (r, w) → w ≠ 1 ∨ r ≠ 65533 → (if D.1 = 65533 ∧ D.2 = 1 then false else Lib.validD (s.data.toList.drop (k + D.2))) = Lib.validD (s.data.toList.drop (k + w)) := by
        rintro r w rfl h'; rw [if_neg (by simp only; omega)]
      by_cases h1 : b < 128
      · rw [if_pos h1] at hD
        rw [if_pos h1, sign44 q r1 s hs k hlt b 1 (by omega) b h1 0, end7 (q + 5) (q + 4) r1 s hs k hk 1 (by omega) b 0]
        rw [hgood b 1 hD.symm (by omega), if_pos (by omega : 0 ≤ b ∧ b ≤ 1114111 ∧ ¬ (55296 ≤ b ∧ b ≤ 57343)), ih1 (by omega)]
        unfold ok32
        rw [hb]
        by_cases hc : 32 ≤ b ∧ b ≠ 127
        · rw [if_pos hc, decide_eq_true hc.1, decide_eq_true hc.2]; rfl
        · rw [if_neg hc]
          have : (decide (32 ≤ b) && decide (b ≠ 127)) = false := by simp; omega
          rw [this]; rfl
      · rw [if_neg h1] at hD ⊢
        rw [o0 (by omega)]
        by_cases h2 : 192 ≤ b ∧ b < 224
        · rw [if_pos h2, sign44 q r1 s hs k hlt b 2 (by omega) (b - 192) (by omega) 128, if_pos (by omega), s1 2 (by omega) (b - 192) (by omega) _ (by omega), end7 (q + 5) (q + 3) r1 s hs k hk 2 (by omega)]
          by_cases c : k + 1 < s.size ∧ b1 / 64 = 2
          · rw [if_pos ⟨by omega, by omega, c.2⟩] at hD
            rw [if_pos c.1, if_pos c.2]
            have er : (b - 192) * 64 + b1 % 64 = b % 32 * 64 + b1 % 64 := by omega
            rw [er]
            have hrr : b % 32 * 64 + b1 % 64 < 2048 := by omega
            generalize b % 32 * 64 + b1 % 64 = rr at hD hrr ⊢
            by_cases c3 : rr ≥ 128
            · rw [if_pos c3] at hD
              rw [if_pos (by omega : 128 ≤ rr ∧ rr ≤ 1114111 ∧ ¬ (55296 ≤ rr ∧ rr ≤ 57343)), hgood _ _ hD.symm (by omega), ih2 (by omega), a1 (by omega), o1 (by omega)]; rfl
            · rw [if_neg c3] at hD
              rw [if_neg (by omega : ¬ (128 ≤ rr ∧ rr ≤ 1114111 ∧ ¬ (55296 ≤ rr ∧ rr ≤ 57343))), hbad hD.symm]
          · rw [if_neg (by omega), if_neg (by omega), if_neg (by omega)] at hD
            rw [hbad hD.symm]
            by_cases c3 : k + 1 < s.size
            · rw [if_pos c3, if_neg (by omega)]
            · rw [if_neg c3]
        · rw [if_neg h2]
          rw [if_neg (by omega)] at hD
          by_cases h3 : 224 ≤ b ∧ b < 240
          · rw [if_pos h3, sign44 q r1 s hs k hlt b 3 (by omega) (b - 224) (by omega) 2048, if_pos (by omega), s1 3 (by omega) (b - 224) (by omega) _ (by omega)]
            by_cases c1 : k + 1 < s.size ∧ b1 / 64 = 2
            · rw [if_pos c1.1, if_pos c1.2, s2 3 (by omega) _ (by omega) _ (by omega), end7 (q + 5) (q + 2) r1 s hs k hk 3 (by omega)]
              by_cases c2 : k + 2 < s.size ∧ b2 / 64 = 2
              · rw [if_pos ⟨by omega, ⟨by omega, c1.2⟩, by omega, c2.2⟩] at hD
                rw [if_pos c2.1, if_pos c2.2]
                have er : ((b - 224) * 64 + b1 % 64) * 64 + b2 % 64 = b % 16 * 4096 + b1 % 64 * 64 + b2 % 64 := by omega
                rw [er]
                generalize b % 16 * 4096 + b1 % 64 * 64 + b2 % 64 = rr at hD ⊢
                by_cases c3 : rr ≥ 2048 ∧ (rr < 55296 ∨ 57344 ≤ rr ∧ rr ≤ 1114111)
                · rw [if_pos c3] at hD
                  rw [if_pos (by omega : 2048 ≤ rr ∧ rr ≤ 1114111 ∧ ¬ (55296 ≤ rr ∧ rr ≤ 57343)), hgood _ _ hD.symm (by omega), ih3 (by omega), a1 (by omega), o1 (by omega), a2 (by omega), o2 (by omega)]; rfl
                · rw [if_neg c3] at hD
                  rw [if_neg (by omega : ¬ (2048 ≤ rr ∧ rr ≤ 1114111 ∧ ¬ (55296 ≤ rr ∧ rr ≤ 57343))), hbad hD.symm]
              · rw [if_neg (by omega), if_neg (by omega)] at hD
                rw [hbad hD.symm]
                by_cases c3 : k + 2 < s.size
                · rw [if_pos c3, if_neg (by omega)]
                · rw [if_neg c3]
            · rw [if_neg (by omega), if_neg (by omega)] at hD
              rw [hbad hD.symm]
              by_cases c3 : k + 1 < s.size
              · rw [if_pos c3, if_neg (by omega)]
              · rw [if_neg c3]
          · rw [if_neg h3]
            rw [if_neg (by omega)] at hD
            by_cases h4 : 240 ≤ b ∧ b < 248
            · rw [if_pos h4, sign44 q r1 s hs k hlt b 4 (by omega) (b - 240) (by omega) 65536, if_pos (by omega), s1 4 (by omega) (b - 240) (by omega) _ (by omega)]
              by_cases c1 : k + 1 < s.size ∧ b1 / 64 = 2
              · rw [if_pos c1.1, if_pos c1.2, s2 4 (by omega) _ (by omega) _ (by omega)]
                by_cases c2 : k + 2 < s.size ∧ b2 / 64 = 2
                · rw [if_pos c2.1, if_pos c2.2, s3 4 (by omega) _ (by omega) _ (by omega), end7 (q + 5) (q + 1) r1 s hs k hk 4 (by omega)]
                  by_cases c5 : k + 3 < s.size ∧ b3 / 64 = 2
                  · rw [if_pos ⟨by omega, ⟨by omega, c1.2⟩, ⟨by omega, c2.2⟩, by omega, c5.2⟩] at hD
                    rw [if_pos c5.1, if_pos c5.2]
                    have er : (((b - 240) * 64 + b1 % 64) * 64 + b2 % 64) * 64 + b3 % 64 = b % 8 * 262144 + b1 % 64 * 4096 + b2 % 64 * 64 + b3 % 64 := by omega
                    rw [er]
                    generalize b % 8 * 262144 + b1 % 64 * 4096 + b2 % 64 * 64 + b3 % 64 = rr at hD ⊢
                    by_cases c3 : rr ≥ 65536 ∧ (rr < 55296 ∨ 57344 ≤ rr ∧ rr ≤ 1114111)
                    · rw [if_pos c3] at hD
                      rw [if_pos (by omega : 65536 ≤ rr ∧ rr ≤ 1114111 ∧ ¬ (55296 ≤ rr ∧ rr ≤ 57343)), hgood _ _ hD.symm (by omega), ih4 (by omega), a1 (by omega), o1 (by omega), a2 (by omega), o2 (by omega), a3 (by omega), o3 (by omega)]; rfl
                    · rw [if_neg c3] at hD
                      rw [if_neg (by omega : ¬ (65536 ≤ rr ∧ rr ≤ 1114111 ∧ ¬ (55296 ≤ rr ∧ rr ≤ 57343))), hbad hD.symm]
                  · rw [if_neg (by omega)] at hD
                    rw [hbad hD.symm]
                    by_cases c3 : k + 3 < s.size
                    · rw [if_pos c3, if_neg (by omega)]
                    · rw [if_neg c3]
                · rw [if_neg (by omega)] at hD
                  rw [hbad hD.symm]
                  by_cases c3 : k + 2 < s.size
                  · rw [if_pos c3, if_neg (by omega)]
                  · rw [if_neg c3]
              · rw [if_neg (by omega)] at hD
                rw [hbad hD.symm]
                by_cases c3 : k + 1 < s.size
                · rw [if_pos c3, if_neg (by omega)]
                · rw [if_neg c3]
            · rw [if_neg (by omega)] at hD
              rw [if_neg h4, hbad hD.symm]
    · have hkk : k = s.size := by omega
      subst hkk
      change f44.S1 (q + 5) _ _ (f44.J12 (q + 5)) s (s.size : Int) = _
      unfold f44.S1
      simp only [hide_eq, bIf_eq, gIf_eq]
      rw [if_neg (by simp), hsz, List.drop_length]
      rfl

theorem clean44 {n : Nat} {s : ByteArray} (hs : s.size ≤ 1073741824) (hn : s.size < n) (h5 : 5 ≤ n) : f44.f n s = some (cleanB s, ()) := by
  obtain ⟨q, rfl⟩ : ∃ q, n = q + 5 := ⟨n - 5, by omega⟩
  change f44.J1 (q + 5) (q + 5) (s, ((0 : Nat) : Int), ()) = _
  rw [clean44_J q s hs (q + 5) 0 (by omega) (by omega)]
  rfl
end Go.Proofs.YtnlckhekcklcpaaDoor

namespace Go.Proofs.YtnlckhekcklcpaaDoor
open Go Go.Va Go.Proofs

theorem ba_beq (a b : ByteArray) : (a == b) = decide (a = b) := by
  change (a.data == b.data) = _
  by_cases h : a = b
  · subst h; simp
  · rw [decide_eq_false h]
    exact beq_false_of_ne (fun e => h (by cases a; cases b; exact congrArg _ e))
theorem eqS_eq (a b : ByteArray) : eqS a b = (a == b) := by
  unfold eqS
  rw [Lib.toList_data, Lib.toList_data, ba_beq]
  by_cases h : a = b
  · subst h; simp
  · rw [decide_eq_false h]
    exact beq_false_of_ne (fun e => h (by cases a; cases b; simp at e; rw [e]))

/-- The moment in the bounds that is nearest. -/
def clampI (t : Int) : Int := if t < -62135596800 then -62135596800 else if t > 253402300799 then 253402300799 else t
theorem clamp33 (n : Nat) (t : Int) : f33.f n t = some (clampI t, ()) := by
  change some ((maxI .i64 (-62135596800) (minI .i64 t 253402300799)), ()) = _
  unfold clampI maxI minI
  congr 2
  repeat' split
  all_goals omega
theorem clamp36 (n : Nat) (t : Int) : f36.f n t = some (clampI t, ()) := by
  change f36.S0 n t = _
  unfold f36.S0 clampI
  simp only [hide_eq, bIf_eq, decide_eq_true_eq]
  repeat' split
  all_goals first | rfl | omega

/-- May it be a lock? -/
def lockB (l : Den t28) : Bool :=
  if l.1 = 0 then l.2.1 == 0 else if l.1 = 1 ∨ l.1 = 2 then l.2.1 == clampI l.2.1 else false
theorem lock34 (n : Nat) (l : Den t28) : f34.f n l = some (lockB l, ()) := by
  change f34.S0 n (f34.J1 n) l = _
  have e1 : ∀ v, f34.J1 n v = f34.S1 n v.1 v.2.1 := fun v => rfl
  unfold f34.S0 lockB
  simp only [hide_eq, bIf_eq, e1, f34.S1, clamp33, bnd_some, beq_iff_eq]
  by_cases h0 : l.1 = 0
  · rw [if_pos h0, if_pos h0]
  · rw [if_neg h0, if_neg h0]
    by_cases h1 : l.1 = 1
    · rw [if_pos h1, if_pos (c := l.1 = 1 ∨ l.1 = 2) (.inl h1)]; rfl
    · rw [if_neg h1]
      by_cases h2 : l.1 = 2
      · rw [if_pos h2, if_pos (c := l.1 = 1 ∨ l.1 = 2) (.inr h2)]
      · rw [if_neg h2, if_neg (c := l.1 = 1 ∨ l.1 = 2) (not_or.2 ⟨h1, h2⟩)]
theorem lock37 (n : Nat) (l : Den t28) : f37.f n l = some (lockB l, ()) := by
  change f37.S0 n l = _
  unfold f37.S0 lockB
  simp only [hide_eq, bIf_eq, clamp36, bnd_some, beq_iff_eq]
  by_cases h0 : l.1 = 0
  · rw [if_pos h0, if_pos h0]
  · rw [if_neg h0, if_neg h0]
    by_cases h1 : l.1 = 1
    · rw [if_pos h1, if_pos (c := l.1 = 1 ∨ l.1 = 2) (.inl h1), BEq.comm]
    · rw [if_neg h1]
      by_cases h2 : l.1 = 2
      · rw [if_pos h2, if_pos (c := l.1 = 1 ∨ l.1 = 2) (.inr h2), BEq.comm]
      · rw [if_neg h2, if_neg (c := l.1 = 1 ∨ l.1 = 2) (not_or.2 ⟨h1, h2⟩)]

theorem size0 (s : ByteArray) : eqS s ⟨#[]⟩ = decide (s.size = 0) := by
  rw [eqS_eq, ba_beq]
  by_cases h : s = ⟨#[]⟩
  · subst h; rfl
  · rw [decide_eq_false h, decide_eq_false]
    intro h2
    apply h
    cases s with | mk d =>
    have : d = #[] := Array.eq_empty_of_size_eq_zero h2
    rw [this]

/-- May it be a tag? -/
def tagB (t : Den t65) : Bool := decide (1 ≤ t.1.size) && (decide (t.1.size ≤ 64) && (decide (t.2.1.size ≤ 64) && (cleanB t.1 && cleanB t.2.1)))
/-- The room that the rounds have. -/
def TB (n : Nat) (t : Den t65) : Prop := t.1.size < n ∧ t.2.1.size < n
theorem tag47 {n : Nat} {t : Den t65} (h : TB n t) (hn : n ≤ 536870912) : f47.f n t = some (tagB t, ()) := by
  change f47.S0 n t = _
  unfold f47.S0 tagB
  rw [clean42 (by have := h.1; omega) h.1, clean42 (by have := h.2; omega) h.2, size0]
  simp only [hide_eq, bIf_eq, bnd_some]
  have e1 : decide ((t.1.size : Int) ≤ 64) = decide (t.1.size ≤ 64) := decide_eq_decide.2 (by omega)
  have e2 : decide ((t.2.1.size : Int) ≤ 64) = decide (t.2.1.size ≤ 64) := decide_eq_decide.2 (by omega)
  have e0 : (!decide (t.1.size = 0)) = decide (1 ≤ t.1.size) := by
    by_cases h0 : t.1.size = 0
    · rw [decide_eq_true h0, decide_eq_false (by omega)]; rfl
    · rw [decide_eq_false h0, decide_eq_true (by omega)]; rfl
  rw [e0, e1, e2]
  cases decide (1 ≤ t.1.size) <;> cases decide (t.1.size ≤ 64) <;> cases decide (t.2.1.size ≤ 64) <;> cases cleanB t.1 <;> simp

/-- A list, one by one, each beside the one ahead of it. -/
def chk {α : Type} (p : α → Bool) (q : α → α → Bool) : Option α → List α → Bool
  | _, [] => true
  | none, x :: l => p x && chk p q (some x) l
  | some y, x :: l => p x && (q y x && chk p q (some x) l)
/-- What stands ahead of a place. -/
def prev {α : Type} (l : List α) (k : Nat) : Option α := if k = 0 then none else l[k - 1]?
theorem chk_zero {α : Type} {p : α → Bool} {q : α → α → Bool} {l : List α} {d : α} (h : 0 < l.length) : chk p q (prev l 0) (l.drop 0) = (p (l.getD 0 d) && chk p q (prev l 1) (l.drop 1)) := by
  cases l with
  | nil => simp at h
  | cons x r => rfl
theorem chk_succ {α : Type} {p : α → Bool} {q : α → α → Bool} {l : List α} {d : α} {k : Nat} (h0 : 0 < k) (h : k < l.length) : chk p q (prev l k) (l.drop k) = (p (l.getD k d) && (q (l.getD (k - 1) d) (l.getD k d) && chk p q (prev l (k + 1)) (l.drop (k + 1)))) := by
  rw [List.drop_eq_getElem_cons h]
  unfold prev
  rw [if_neg (by omega), if_neg (by omega), List.getElem?_eq_getElem (by omega), Nat.add_sub_cancel, List.getElem?_eq_getElem h]
  rw [List.getD_eq_getElem?_getD, List.getD_eq_getElem?_getD, List.getElem?_eq_getElem h, List.getElem?_eq_getElem (by omega)]
  rfl
theorem chk_end {α : Type} {p : α → Bool} {q : α → α → Bool} {l : List α} {k : Nat} (h : l.length ≤ k) (o : Option α) : chk p q o (l.drop k) = true := by
  rw [List.drop_eq_nil_of_le h]; cases o <;> rfl
theorem getD_memA {α : Type} {l : List α} {k : Nat} {d : α} (h : k < l.length) : l.getD k d ∈ l := by
  rw [List.getD_eq_getElem?_getD, List.getElem?_eq_getElem h]; exact List.getElem_mem h

/-- May they be tags? -/
def tagsB (l : List (Den t65)) : Bool := decide (l.length ≤ 8) && chk tagB (fun a b => ltS a.1 b.1) none l
/-- The room for tags. -/
def TsB (n : Nat) (l : List (Den t65)) : Prop := l.length < n ∧ ∀ t ∈ l, TB n t

theorem tags35_J (n : Nat) (hn : n ≤ 536870912) (l : List (Den t65)) (hl : TsB n l) : ∀ (m k : Nat), k ≤ l.length → l.length - k < m →
    f35.J1 n m (l, l, ((l.length : Nat) : Int), (k : Int), ()) = some (chk tagB (fun a b => ltS a.1 b.1) (prev l k) (l.drop k), ())
  | 0, k, _, h => by omega
  | m + 1, k, hk, h => by
    have hl1 := hl.1
    change f35.S1 n (f35.J1 n m) (f35.J2 n) l l ((l.length : Nat) : Int) (k : Int) = _
    unfold f35.S1
    simp only [hide_eq, bIf_eq, gIf_eq]
    by_cases hlt : k < l.length
    · have ih := tags35_J n hn l hl m (k + 1) (by omega) (by omega)
      rw [if_pos (decide_eq_true (by omega)), if_pos ⟨by omega, by omega⟩, Int.toNat_natCast, tag47 (hl.2 _ (getD_memA hlt)) hn, bnd_some, wrap_i64 (x := (k : Int) + 1) (by omega), show ((k : Int) + 1) = ((k + 1 : Nat) : Int) by omega, ih]
      by_cases h0 : k = 0
      · subst h0
        rw [chk_zero (d := Va.dflt t65) (by omega), if_neg (c := decide (((0 : Nat) : Int) > 0) = true) (by simp)]
        cases tagB (l.getD 0 (Va.dflt t65)) <;> simp
      · rw [chk_succ (d := Va.dflt t65) (by omega) hlt, if_pos (c := decide ((k : Int) > 0) = true) (decide_eq_true (by omega)), wrap_i64 (by omega), if_pos (show 0 ≤ (k : Int) - 1 ∧ (k : Int) - 1 < ((l.length : Nat) : Int) from ⟨by omega, by omega⟩), show ((k : Int) - 1).toNat = k - 1 by omega]
        cases tagB (l.getD k (Va.dflt t65)) <;> cases ltS (l.getD (k - 1) (Va.dflt t65)).1 (l.getD k (Va.dflt t65)).1 <;> simp
    · rw [if_neg (by simp; omega), chk_end (by omega)]
      rfl
theorem tags35 {n : Nat} (hn : n ≤ 536870912) {l : List (Den t65)} (hl : TsB n l) : f35.f n l = some (tagsB l, ()) := by
  have h := tags35_J n hn l hl n 0 (by omega) (by have := hl.1; omega)
  change f35.S0 n (f35.J1 n n) l = _
  unfold f35.S0 tagsB
  simp only [hide_eq, bIf_eq]
  by_cases h8 : l.length ≤ 8
  · rw [if_neg (by simp; omega), decide_eq_true h8]
    exact h
  · rw [if_pos (decide_eq_true (by omega)), decide_eq_false h8]; rfl

theorem less_tri : ∀ x y : List UInt8, Op.bytesLess x y = !(Op.bytesLess y x || y == x)
  | [], [] => rfl
  | [], _ :: _ => rfl
  | _ :: _, [] => rfl
  | a :: x, b :: y => by
    have ih := less_tri x y
    simp only [Op.bytesLess, List.cons_beq_cons, ih]
    by_cases h : a = b
    · subst h
      simp
    · have h1 : (a == b) = false := beq_false_of_ne h
      have h2 : (b == a) = false := beq_false_of_ne (fun e => h e.symm)
      rw [h1, h2]
      simp only [Bool.false_and, Bool.or_false]
      have h3 : ¬ a.toNat = b.toNat := fun e => h (UInt8.toNat_inj.1 e)
      have h4 : decide (a < b) = decide (a.toNat < b.toNat) := decide_eq_decide.2 UInt8.lt_iff_toNat_lt
      have h5 : decide (b < a) = decide (b.toNat < a.toNat) := decide_eq_decide.2 UInt8.lt_iff_toNat_lt
      rw [h4, h5]
      by_cases h6 : a.toNat < b.toNat
      · rw [decide_eq_true h6, decide_eq_false (by omega)]; rfl
      · rw [decide_eq_false h6, decide_eq_true (by omega)]; rfl
theorem ltS_tri (a b : ByteArray) : ltS a b = !(ltS b a || eqS b a) := less_tri _ _

theorem tags38_J (n : Nat) (hn : n ≤ 536870912) (h5 : 5 ≤ n) (l : List (Den t65)) (hl : TsB n l) : ∀ (m k : Nat), k ≤ l.length → l.length - k < m →
    f38.J1 n m (l, (k : Int), ()) = some (chk tagB (fun a b => ltS a.1 b.1) (prev l k) (l.drop k), ())
  | 0, k, _, h => by omega
  | m + 1, k, hk, h => by
    have hl1 := hl.1
    change f38.S1 n (f38.J2 n (f38.J1 n m)) (f38.J4 n) l (k : Int) = _
    have e2 : ∀ v, f38.J2 n (f38.J1 n m) v = f38.S2 n (f38.J3 n (f38.J1 n m)) v.1 v.2.1 := fun v => rfl
    have e3 : ∀ v, f38.J3 n (f38.J1 n m) v = f38.S3 n (f38.J1 n m) v.1 v.2.1 := fun v => rfl
    unfold f38.S1
    simp only [hide_eq, bIf_eq, gIf_eq]
    by_cases hlt : k < l.length
    · have ih := tags38_J n hn h5 l hl m (k + 1) (by omega) (by omega)
      have hg : (0 ≤ (k : Int) ∧ (k : Int) < ((l.length : Nat) : Int)) := ⟨by omega, by omega⟩
      obtain ⟨hb1, hb2⟩ := hl.2 _ (getD_memA (d := Va.dflt t65) hlt)
      rw [if_pos (decide_eq_true (by omega))]
      simp only [if_pos hg, Int.toNat_natCast]
      rw [clean44 (by omega) hb1 h5, clean44 (by omega) hb2 h5, bnd_some, bnd_some, e2]
      unfold f38.S2
      simp only [hide_eq, bIf_eq, gIf_eq, e3, f38.S3, if_pos hg, Int.toNat_natCast]
      rw [wrap_i64 (x := (k : Int) + 1) (by omega), show ((k : Int) + 1) = ((k + 1 : Nat) : Int) by omega, ih]
      have hx : chk tagB (fun a b => ltS a.1 b.1) (prev l k) (l.drop k) = (tagB (l.getD k (Va.dflt t65)) && ((if k = 0 then true else ltS (l.getD (k - 1) (Va.dflt t65)).1 (l.getD k (Va.dflt t65)).1) && chk tagB (fun a b => ltS a.1 b.1) (prev l (k + 1)) (l.drop (k + 1)))) := by
        by_cases h0 : k = 0
        · subst h0
          rw [chk_zero (d := Va.dflt t65) (by omega), if_pos rfl, Bool.true_and]
        · rw [chk_succ (d := Va.dflt t65) (by omega) hlt, if_neg h0]
      rw [hx]
      have g1 : decide (((l.getD k (Va.dflt t65)).1.size : Int) < 1) = !decide (1 ≤ (l.getD k (Va.dflt t65)).1.size) := by
        by_cases h0 : 1 ≤ (l.getD k (Va.dflt t65)).1.size
        · rw [decide_eq_true h0, decide_eq_false (by omega)]; rfl
        · rw [decide_eq_false h0, decide_eq_true (by omega)]; rfl
      have g2 : decide (((l.getD k (Va.dflt t65)).1.size : Int) > 64) = !decide ((l.getD k (Va.dflt t65)).1.size ≤ 64) := by
        by_cases h0 : (l.getD k (Va.dflt t65)).1.size ≤ 64
        · rw [decide_eq_true h0, decide_eq_false (by omega)]; rfl
        · rw [decide_eq_false h0, decide_eq_true (by omega)]; rfl
      have g3 : decide (((l.getD k (Va.dflt t65)).2.1.size : Int) > 64) = !decide ((l.getD k (Va.dflt t65)).2.1.size ≤ 64) := by
        by_cases h0 : (l.getD k (Va.dflt t65)).2.1.size ≤ 64
        · rw [decide_eq_true h0, decide_eq_false (by omega)]; rfl
        · rw [decide_eq_false h0, decide_eq_true (by omega)]; rfl
      simp only [g1, g2, g3]
      have hy : (if decide ((k : Int) > 0) = true then if 0 ≤ IntKind.i64.wrap ((k : Int) - 1) ∧ IntKind.i64.wrap ((k : Int) - 1) < ((l.length : Nat) : Int) then if (ltS (l.getD k (Va.dflt t65)).1 (l.getD (IntKind.i64.wrap ((k : Int) - 1)).toNat (Va.dflt t65)).1 || eqS (l.getD k (Va.dflt t65)).1 (l.getD (IntKind.i64.wrap ((k : Int) - 1)).toNat (Va.dflt t65)).1) = true then some (false, ()) else some (chk tagB (fun a b => ltS a.1 b.1) (prev l (k + 1)) (l.drop (k + 1)), ()) else none else (some (chk tagB (fun a b => ltS a.1 b.1) (prev l (k + 1)) (l.drop (k + 1)), ()) : Option f38.R)) =
          some ((if k = 0 then true else ltS (l.getD (k - 1) (Va.dflt t65)).1 (l.getD k (Va.dflt t65)).1) && chk tagB (fun a b => ltS a.1 b.1) (prev l (k + 1)) (l.drop (k + 1)), ()) := by
        by_cases h0 : k = 0
        · rw [if_neg (by simp; omega), if_pos h0]; rfl
        · rw [if_pos (decide_eq_true (by omega)), if_neg h0, wrap_i64 (by omega), if_pos (show 0 ≤ (k : Int) - 1 ∧ (k : Int) - 1 < ((l.length : Nat) : Int) from ⟨by omega, by omega⟩), show ((k : Int) - 1).toNat = k - 1 by omega, ltS_tri (l.getD (k - 1) (Va.dflt t65)).1 (l.getD k (Va.dflt t65)).1]
          cases (ltS (l.getD k (Va.dflt t65)).1 (l.getD (k - 1) (Va.dflt t65)).1 || eqS (l.getD k (Va.dflt t65)).1 (l.getD (k - 1) (Va.dflt t65)).1) <;> simp
      simp only [hy]
      unfold tagB
      cases decide (1 ≤ (l.getD k (Va.dflt t65)).1.size) <;> cases decide ((l.getD k (Va.dflt t65)).1.size ≤ 64) <;> cases decide ((l.getD k (Va.dflt t65)).2.1.size ≤ 64) <;> cases cleanB (l.getD k (Va.dflt t65)).1 <;> cases cleanB (l.getD k (Va.dflt t65)).2.1 <;> simp
    · rw [if_neg (by simp; omega), chk_end (by omega)]
      rfl
theorem tags38 {n : Nat} (hn : n ≤ 536870912) (h5 : 5 ≤ n) {l : List (Den t65)} (hl : TsB n l) : f38.f n l = some (tagsB l, ()) := by
  have h := tags38_J n hn h5 l hl n 0 (by omega) (by have := hl.1; omega)
  change f38.S0 n (f38.J1 n n) l = _
  unfold f38.S0 tagsB
  simp only [hide_eq, bIf_eq]
  by_cases h8 : l.length ≤ 8
  · rw [if_neg (by simp; omega), decide_eq_true h8]
    exact h
  · rw [if_pos (decide_eq_true (by omega)), decide_eq_false h8]; rfl

/-- Two lists, one by one. -/
def allB {α : Type} (q : α → α → Bool) : List α → List α → Bool
  | [], [] => true
  | x :: a, y :: b => q x y && allB q a b
  | _, _ => false
theorem allB_len {α : Type} {q : α → α → Bool} : ∀ (a b : List α), a.length ≠ b.length → allB q a b = false
  | [], [], h => absurd rfl h
  | [], _ :: _, _ => rfl
  | _ :: _, [], _ => rfl
  | x :: a, y :: b, h => by
    unfold allB
    rw [allB_len a b (by simp at h; omega), Bool.and_false]
theorem allB_step {α : Type} {q : α → α → Bool} {a b : List α} {k : Nat} (d : α) (ha : k < a.length) (hb : k < b.length) : allB q (a.drop k) (b.drop k) = (q (a.getD k d) (b.getD k d) && allB q (a.drop (k + 1)) (b.drop (k + 1))) := by
  rw [List.drop_eq_getElem_cons ha, List.drop_eq_getElem_cons hb]
  rw [List.getD_eq_getElem?_getD, List.getD_eq_getElem?_getD, List.getElem?_eq_getElem ha, List.getElem?_eq_getElem hb]
  rfl
theorem allB_end {α : Type} {q : α → α → Bool} {a b : List α} {k : Nat} (ha : a.length ≤ k) (hb : b.length ≤ k) : allB q (a.drop k) (b.drop k) = true := by
  rw [List.drop_eq_nil_of_le ha, List.drop_eq_nil_of_le hb]; rfl
theorem allB_refl {α : Type} {q : α → α → Bool} : ∀ (a : List α), (∀ x ∈ a, q x x = true) → allB q a a = true
  | [], _ => rfl
  | x :: a, h => by
    unfold allB
    rw [h x List.mem_cons_self, allB_refl a (fun y hy => h y (List.mem_cons_of_mem _ hy))]; rfl

/-- Are two tags one? -/
def sameT (a b : Den t65) : Bool := eqS a.1 b.1 && eqS a.2.1 b.2.1
theorem sameT_eq (a b : Den t65) : eqD t65 a b = sameT a b := by
  change ((a.1 == b.1) && ((a.2.1 == b.2.1) && true)) = _
  unfold sameT
  rw [eqS_eq, eqS_eq, Bool.and_true]
theorem sameT_refl (a : Den t65) : sameT a a = true := by unfold sameT; rw [eqS_self, eqS_self]; rfl

theorem same52_J (n : Nat) (hn : n ≤ 536870912) (a b : List (Den t65)) (hab : a.length = b.length) (hl : a.length < n) : ∀ (m k : Nat), k ≤ a.length → a.length - k < m →
    f52.J1 n m (a, b, ((a.length : Nat) : Int), (k : Int), ()) = some (allB sameT (a.drop k) (b.drop k), ())
  | 0, k, _, h => by omega
  | m + 1, k, hk, h => by
    change f52.S1 n (f52.J1 n m) (f52.J2 n) a b ((a.length : Nat) : Int) (k : Int) = _
    unfold f52.S1
    simp only [hide_eq, bIf_eq, gIf_eq]
    by_cases hlt : k < a.length
    · have ih := same52_J n hn a b hab hl m (k + 1) (by omega) (by omega)
      rw [if_pos (decide_eq_true (by omega)), if_pos ⟨by omega, by omega⟩, if_pos ⟨by omega, by omega⟩, Int.toNat_natCast, wrap_i64 (x := (k : Int) + 1) (by omega), show ((k : Int) + 1) = ((k + 1 : Nat) : Int) by omega, ih, sameT_eq, allB_step (Va.dflt t65) hlt (by omega)]
      cases sameT (a.getD k (Va.dflt t65)) (b.getD k (Va.dflt t65)) <;> simp
    · rw [if_neg (by simp; omega), allB_end (by omega) (by omega)]
      rfl
theorem same52 {n : Nat} (hn : n ≤ 536870912) {a b : List (Den t65)} (ha : a.length < n) : f52.f n a b = some (allB sameT a b, ()) := by
  change f52.S0 n (f52.J1 n n) a b = _
  unfold f52.S0
  simp only [hide_eq, bIf_eq]
  by_cases h : a.length = b.length
  · rw [if_neg (by simp [h])]
    exact same52_J n hn a b h ha n 0 (by omega) (by omega)
  · rw [if_pos (by simp; omega), allB_len a b h]
theorem same48 {n : Nat} (hn : n ≤ 536870912) {a b : List (Den t65)} (ha : a.length < n) : f48.f n a b = some (allB sameT a b, ()) := by
  change f48.S0 n a b = _
  unfold f48.S0
  rw [same52 hn ha, bnd_some]

theorem same32_J (n : Nat) (hn : n ≤ 536870912) (a b : List (Den t65)) (hab : a.length = b.length) (hl : a.length < n) : ∀ (m k : Nat), k ≤ a.length → a.length - k < m →
    f32.J1 n m (a, b, (k : Int), ()) = some (allB sameT (a.drop k) (b.drop k), ())
  | 0, k, _, h => by omega
  | m + 1, k, hk, h => by
    change f32.S1 n (f32.J2 n (f32.J1 n m)) (f32.J3 n) a b (k : Int) = _
    have e2 : ∀ v, f32.J2 n (f32.J1 n m) v = f32.S2 n (f32.J1 n m) v.1 v.2.1 v.2.2.1 := fun v => rfl
    unfold f32.S1
    simp only [hide_eq, bIf_eq, gIf_eq, e2, f32.S2]
    by_cases hlt : k < a.length
    · have ih := same32_J n hn a b hab hl m (k + 1) (by omega) (by omega)
      have hg : (0 ≤ (k : Int) ∧ (k : Int) < ((a.length : Nat) : Int)) := ⟨by omega, by omega⟩
      have hg2 : (0 ≤ (k : Int) ∧ (k : Int) < ((b.length : Nat) : Int)) := ⟨by omega, by omega⟩
      rw [if_pos (decide_eq_true (by omega))]
      simp only [if_pos hg, if_pos hg2, Int.toNat_natCast]
      rw [wrap_i64 (x := (k : Int) + 1) (by omega), show ((k : Int) + 1) = ((k + 1 : Nat) : Int) by omega, ih, allB_step (Va.dflt t65) hlt (by omega)]
      have hx : sameT (a.getD k (Va.dflt t65)) (b.getD k (Va.dflt t65)) = (eqS (a.getD k (Va.dflt t65)).1 (b.getD k (Va.dflt t65)).1 && eqS (a.getD k (Va.dflt t65)).2.1 (b.getD k (Va.dflt t65)).2.1) := rfl
      rw [hx]
      rcases Bool.eq_false_or_eq_true (eqS (a.getD k (Va.dflt t65)).1 (b.getD k (Va.dflt t65)).1) with h1 | h1 <;> rcases Bool.eq_false_or_eq_true (eqS (a.getD k (Va.dflt t65)).2.1 (b.getD k (Va.dflt t65)).2.1) with h2 | h2 <;> simp only [h1, h2] <;> rfl
    · rw [if_neg (by simp; omega), allB_end (by omega) (by omega)]
      rfl
theorem same32 {n : Nat} (hn : n ≤ 536870912) {a b : List (Den t65)} (ha : a.length < n) : f32.f n a b = some (allB sameT a b, ()) := by
  change f32.S0 n (f32.J1 n n) a b = _
  unfold f32.S0
  simp only [hide_eq, bIf_eq]
  by_cases h : a.length = b.length
  · rw [if_neg (by simp [h])]
    exact same32_J n hn a b h ha n 0 (by omega) (by omega)
  · rw [if_pos (by simp; omega), allB_len a b h]

/-- May it be a key? -/
def keyB (s : ByteArray) : Bool := decide (1 ≤ s.size) && (decide (s.size ≤ 200) && cleanB s)
theorem key24 {n : Nat} {s : ByteArray} (hs : s.size < n) (hn : n ≤ 536870912) : f24.f n s = some (keyB s, ()) := by
  change f24.S0 n s = _
  unfold f24.S0 keyB
  rw [clean42 (by omega) hs, size0]
  simp only [hide_eq, bIf_eq, bnd_some]
  have e1 : decide ((s.size : Int) ≤ 200) = decide (s.size ≤ 200) := decide_eq_decide.2 (by omega)
  have e0 : (!decide (s.size = 0)) = decide (1 ≤ s.size) := by
    by_cases h0 : s.size = 0
    · rw [decide_eq_true h0, decide_eq_false (by omega)]; rfl
    · rw [decide_eq_false h0, decide_eq_true (by omega)]; rfl
  rw [e0, e1]
  cases decide (1 ≤ s.size) <;> cases decide (s.size ≤ 200) <;> simp
theorem key30 {n : Nat} {s : ByteArray} (hs : s.size < n) (hn : n ≤ 536870912) (h5 : 5 ≤ n) : f30.f n s = some (keyB s, ()) := by
  change f30.S0 n s = _
  unfold f30.S0 keyB
  rw [clean44 (by omega) hs h5]
  simp only [hide_eq, bIf_eq, bnd_some]
  have e1 : decide ((s.size : Int) ≤ 200) = decide (s.size ≤ 200) := decide_eq_decide.2 (by omega)
  have e0 : decide ((s.size : Int) ≥ 1) = decide (1 ≤ s.size) := decide_eq_decide.2 (by omega)
  rw [e0, e1]
  cases decide (1 ≤ s.size) <;> cases decide (s.size ≤ 200) <;> simp
end Go.Proofs.YtnlckhekcklcpaaDoor

namespace Go.Proofs.YtnlckhekcklcpaaDoor
open Go Go.Va Go.Proofs

abbrev Ver : Type := Den t31
abbrev Ob : Type := Den t23
def mark (v : Ver) : Bool := v.2.1
def vsize (v : Ver) : Int := v.2.2.1
def blob (v : Ver) : Int := v.2.2.2.1
def dig (v : Ver) : List Int := v.2.2.2.2.1
def made (v : Ver) : Int := v.2.2.2.2.2.1
def lock (v : Ver) : Den t28 := v.2.2.2.2.2.2.1
def tags (v : Ver) : List (Den t65) := v.2.2.2.2.2.2.2.1

theorem z_pos (z : Int) : decide (z > 0) = decide (1 ≤ z) := decide_eq_decide.2 (by omega)
theorem z_ge (z : Int) : decide (z ≥ 1) = decide (1 ≤ z) := rfl
theorem z_eq (z : Int) (h : 0 ≤ z) : (z == 0) = !decide (1 ≤ z) := by
  by_cases h1 : z = 0
  · subst h1; rfl
  · rw [decide_eq_true (by omega), beq_false_of_ne h1]; rfl
theorem z_lt (z : Int) : decide (z < 1) = !decide (1 ≤ z) := by
  by_cases h : 1 ≤ z
  · rw [decide_eq_true h, decide_eq_false (by omega)]; rfl
  · rw [decide_eq_false h, decide_eq_true (by omega)]; rfl
theorem z_gt (x y : Int) : decide (x > y) = !decide (x ≤ y) := by
  rw [← decide_not]; exact decide_eq_decide.2 (by omega)
theorem z_ge2 (x y : Int) : decide (x ≥ y) = !decide (x < y) := by
  rw [← decide_not]; exact decide_eq_decide.2 (by omega)

/-- May it be a version? -/
def verB (v : Ver) : Bool :=
  decide (1 ≤ v.1) && (decide (made v = clampI (made v)) &&
    if mark v = true then (vsize v == 0) && ((blob v == 0) && ((dig v).all (· == 0) && (((lock v).1 == 0 && ((lock v).2.1 == 0 && !(lock v).2.2.1)) && decide ((tags v).length = 0))))
    else decide (0 ≤ vsize v) && (decide (vsize v ≤ 16384) && (decide (1 ≤ blob v) && (lockB (lock v) && tagsB (tags v)))))
/-- What every version that comes in is, and the room for it. -/
structure VB (n : Nat) (v : Ver) : Prop where
  id : 0 ≤ v.1
  blob : 0 ≤ blob v
  dig : (dig v).length = 32
  tags : TsB n (tags v)

theorem zeroD : ∀ (k : Nat) (d : List Int), d.length = k → eqD (.arr k (.int .u8)) d (List.replicate k 0) = d.all (· == 0)
  | 0, [], _ => rfl
  | k + 1, x :: d, h => by
    have ih := zeroD k d (by simpa using h)
    change (decide (x = 0) && eqD (.arr k (.int .u8)) d (List.replicate k 0)) = ((x == 0) && d.all (· == 0))
    rw [ih]; rfl

theorem ver18 {n : Nat} (hn : n ≤ 536870912) {v : Ver} (hv : VB n v) : f18.f n v = some (verB v, ()) := by
  change f18.S0 n (f18.J1 n) v = _
  have e1 : f18.J1 n (v, ()) = f18.S1 n v := rfl
  unfold f18.S0
  simp only [hide_eq, bIf_eq, clamp33, bnd_some]
  rw [e1]
  unfold f18.S1
  have ht := tags35 hn hv.tags
  unfold tags at ht
  rw [lock34, ht]
  simp only [hide_eq, bIf_eq, bnd_some]
  have hz : eqD (.arr 32 (.int .u8)) v.2.2.2.2.1 ([] ++ List.replicate (32 - ([] : List Int).length) 0) = (dig v).all (· == 0) := zeroD 32 _ hv.dig
  rw [hz]
  have hl : eqD t28 v.2.2.2.2.2.2.1 (0, (0, (false, ()))) = ((lock v).1 == 0 && ((lock v).2.1 == 0 && !(lock v).2.2.1)) := by
    change (decide ((lock v).1 = 0) && (decide ((lock v).2.1 = 0) && (((lock v).2.2.1 == false) && true))) = _
    cases (lock v).2.2.1 <;> rfl
  rw [hl]
  have h0 := hv.id
  have hb := hv.blob
  have e2 : (((v.2.2.2.2.2.2.2.1.length : Nat) : Int) == 0) = decide ((tags v).length = 0) := by
    change (((tags v).length : Int) == 0) = _
    cases (tags v).length <;> rfl
  rw [e2]
  have e3 : decide (v.2.2.2.1 > 0) = decide (1 ≤ blob v) := z_pos (blob v)
  have e4 : (v.1 == 0) = !decide (1 ≤ v.1) := z_eq v.1 h0
  have e5 : (v.2.2.2.2.2.1 != clampI v.2.2.2.2.2.1) = !decide (made v = clampI (made v)) := rfl
  simp only [e3, e4, e5]
  unfold verB
  change (if (!decide (1 ≤ v.1)) = true then _ else if (!decide (made v = clampI (made v))) = true then _ else if mark v = true then _ else _) = _
  cases decide (1 ≤ v.1)
  · rfl
  · cases decide (made v = clampI (made v))
    · rfl
    · cases hm : mark v
      · change (if decide (0 ≤ vsize v) = true then if decide (vsize v ≤ 16384) = true then _ else _ else _) = _
        change (if decide (0 ≤ vsize v) = true then if decide (vsize v ≤ 16384) = true then if decide (1 ≤ blob v) = true then if lockB (lock v) = true then some (tagsB (tags v), ()) else some (false, ()) else some (false, ()) else some (false, ()) else (some (false, ()) : Option f18.R)) = _
        cases decide (0 ≤ vsize v) <;> cases decide (vsize v ≤ 16384) <;> cases decide (1 ≤ blob v) <;> cases lockB (lock v) <;> rfl
      · change (if (vsize v == 0) = true then if (blob v == 0) = true then if (dig v).all (· == 0) = true then if ((lock v).1 == 0 && ((lock v).2.1 == 0 && !(lock v).2.2.1)) = true then some (decide ((tags v).length = 0), ()) else some (false, ()) else some (false, ()) else some (false, ()) else (some (false, ()) : Option f18.R)) = _
        cases (vsize v == 0) <;> cases (blob v == 0) <;> cases (dig v).all (· == 0) <;> cases ((lock v).1 == 0 && ((lock v).2.1 == 0 && !(lock v).2.2.1)) <;> rfl

/-- The document's rest for a marker. -/
def rest19 (v : Ver) : Bool := (vsize v == 0) && ((blob v == 0) && (((lock v).1 == 0 && ((lock v).2.1 == 0 && !(lock v).2.2.1)) && decide ((tags v).length = 0)))
theorem rest19_eq (n : Nat) (v : Ver) : f19.S3 n v = some (rest19 v, ()) := by
  unfold f19.S3 rest19
  simp only [hide_eq, bIf_eq]
  have e2 : (((v.2.2.2.2.2.2.2.1.length : Nat) : Int) == 0) = decide ((tags v).length = 0) := by
    change (((tags v).length : Int) == 0) = _
    cases (tags v).length <;> rfl
  rw [e2]
  change (if (vsize v == 0) = true then if (blob v == 0) = true then if ((lock v).1 == 0) = true then if ((lock v).2.1 == 0) = true then if (!(lock v).2.2.1) = true then some (decide ((tags v).length = 0), ()) else some (false, ()) else some (false, ()) else some (false, ()) else some (false, ()) else (some (false, ()) : Option f19.R)) = _
  cases (vsize v == 0) <;> cases (blob v == 0) <;> cases ((lock v).1 == 0) <;> cases ((lock v).2.1 == 0) <;> cases (lock v).2.2.1 <;> rfl
theorem dig19_J (n : Nat) (v : Ver) (hd : (dig v).length = 32) : ∀ (m k : Nat), k ≤ 32 → 32 - k < m →
    f19.J2 n m ((k : Int), v, ()) = some (((dig v).drop k).all (· == 0) && rest19 v, ())
  | 0, k, _, h => by omega
  | m + 1, k, hk, h => by
    change f19.S2 n (f19.J2 n m) (f19.J3 n) (k : Int) v = _
    have e3 : f19.J3 n (v, ()) = f19.S3 n v := rfl
    unfold f19.S2
    simp only [hide_eq, bIf_eq, gIf_eq]
    by_cases hlt : k < 32
    · have ih := dig19_J n v hd m (k + 1) (by omega) (by omega)
      rw [if_pos (decide_eq_true (by omega)), if_pos ⟨by omega, by omega⟩, Int.toNat_natCast, wrap_i64 (x := (k : Int) + 1) (by omega), show ((k : Int) + 1) = ((k + 1 : Nat) : Int) by omega, ih]
      have hk' : k < (dig v).length := by rw [hd]; exact hlt
      rw [List.drop_eq_getElem_cons hk', List.all_cons]
      have e4 : List.getD v.2.2.2.2.1 k 0 = (dig v)[k]'hk' := by
        change (dig v).getD k 0 = _
        rw [List.getD_eq_getElem?_getD, List.getElem?_eq_getElem hk']; rfl
      rw [e4]
      cases hx : ((dig v)[k]'hk' == 0)
      · rw [if_pos (by simp [bne, hx])]; rfl
      · rw [if_neg (by simp [bne, hx])]; rfl
    · rw [if_neg (by simp; omega), e3, rest19_eq, List.drop_eq_nil_of_le (by omega)]
      rfl
theorem ver19 {n : Nat} (hn : n ≤ 536870912) (h5 : 40 ≤ n) {v : Ver} (hv : VB n v) : f19.f n v = some (verB v, ()) := by
  change f19.S0 n (f19.J1 n) v = _
  have e1 : f19.J1 n (v, ()) = f19.S1 n (f19.J2 n n) v := rfl
  have hd := dig19_J n v hv.dig n 0 (by omega) (by omega)
  unfold f19.S0
  simp only [hide_eq, bIf_eq, clamp36, bnd_some]
  rw [e1]
  unfold f19.S1
  have ht := tags38 hn (by omega) hv.tags
  unfold tags at ht
  rw [lock37, ht]
  simp only [hide_eq, bIf_eq, bnd_some]
  have hd' : f19.J2 n n (0, v, ()) = some ((dig v).all (· == 0) && rest19 v, ()) := hd
  rw [hd']
  have e4 : decide (v.1 < 1) = !decide (1 ≤ v.1) := z_lt v.1
  have e5 : (clampI v.2.2.2.2.2.1 != v.2.2.2.2.2.1) = !decide (made v = clampI (made v)) := by
    unfold bne; rw [BEq.comm]; rfl
  simp only [e4, e5]
  unfold verB
  change (if (!decide (1 ≤ v.1)) = true then _ else if (!decide (made v = clampI (made v))) = true then _ else if (!mark v) = true then _ else _) = _
  cases decide (1 ≤ v.1)
  · rfl
  · cases decide (made v = clampI (made v))
    · rfl
    · cases hm : mark v
      · change (if decide (0 ≤ vsize v) = true then if decide (vsize v ≤ 16384) = true then if decide (1 ≤ blob v) = true then if lockB (lock v) = true then some (tagsB (tags v), ()) else some (false, ()) else some (false, ()) else some (false, ()) else (some (false, ()) : Option f19.R)) = _
        cases decide (0 ≤ vsize v) <;> cases decide (vsize v ≤ 16384) <;> cases decide (1 ≤ blob v) <;> cases lockB (lock v) <;> rfl
      · change some ((dig v).all (· == 0) && rest19 v, ()) = _
        unfold rest19
        cases (vsize v == 0) <;> cases (blob v == 0) <;> cases (dig v).all (· == 0) <;> cases ((lock v).1 == 0 && ((lock v).2.1 == 0 && !(lock v).2.2.1)) <;> rfl

/-- May one stand behind another? -/
def behB (last v : Ver) : Bool := decide (v.1 > last.1) && decide (made v ≥ made last)
theorem beh26 (n : Nat) (v last : Ver) : f26.f n v last = some (behB last v, ()) := by
  change f26.S0 n v last = _
  unfold f26.S0 behB
  simp only [hide_eq, bIf_eq]
  change (if decide (v.1 > last.1) = true then some (decide (made v ≥ made last), ()) else (some (false, ()) : Option f26.R)) = _
  cases decide (v.1 > last.1) <;> rfl

/-- Are versions good, and in order? -/
def risB (l : List Ver) : Bool := chk verB behB none l
structure LB (n : Nat) (l : List Ver) : Prop where
  len : l.length < n
  all : ∀ v ∈ l, VB n v

theorem ris25_J (n : Nat) (hn : n ≤ 536870912) (l : List Ver) (hl : LB n l) : ∀ (m k : Nat), k ≤ l.length → l.length - k < m →
    f25.J1 n m (l, l, ((l.length : Nat) : Int), (k : Int), ()) = some (chk verB behB (prev l k) (l.drop k), ())
  | 0, k, _, h => by omega
  | m + 1, k, hk, h => by
    have hl1 := hl.len
    change f25.S1 n (f25.J1 n m) (f25.J2 n) l l ((l.length : Nat) : Int) (k : Int) = _
    unfold f25.S1
    simp only [hide_eq, bIf_eq, gIf_eq]
    by_cases hlt : k < l.length
    · have ih := ris25_J n hn l hl m (k + 1) (by omega) (by omega)
      rw [if_pos (decide_eq_true (by omega)), if_pos ⟨by omega, by omega⟩, Int.toNat_natCast, ver18 hn (hl.all _ (getD_memA hlt)), bnd_some, wrap_i64 (x := (k : Int) + 1) (by omega), show ((k : Int) + 1) = ((k + 1 : Nat) : Int) by omega, ih]
      by_cases h0 : k = 0
      · subst h0
        rw [chk_zero (d := Va.dflt t31) (by omega), if_neg (c := decide (((0 : Nat) : Int) > 0) = true) (by simp)]
        cases verB (l.getD 0 (Va.dflt t31)) <;> rfl
      · rw [chk_succ (d := Va.dflt t31) (by omega) hlt, if_pos (c := decide ((k : Int) > 0) = true) (decide_eq_true (by omega)), wrap_i64 (by omega), if_pos (show 0 ≤ (k : Int) - 1 ∧ (k : Int) - 1 < ((l.length : Nat) : Int) from ⟨by omega, by omega⟩), show ((k : Int) - 1).toNat = k - 1 by omega, beh26, bnd_some]
        cases verB (l.getD k (Va.dflt t31)) <;> cases behB (l.getD (k - 1) (Va.dflt t31)) (l.getD k (Va.dflt t31)) <;> rfl
    · rw [if_neg (by simp; omega), chk_end (by omega)]
      rfl
theorem ris25 {n : Nat} (hn : n ≤ 536870912) {l : List Ver} (hl : LB n l) : f25.f n l = some (risB l, ()) :=
  ris25_J n hn l hl n 0 (by omega) (by have := hl.len; omega)

theorem ris10_J (n : Nat) (hn : n ≤ 536870912) (h5 : 40 ≤ n) (l : List Ver) (hl : LB n l) : ∀ (m k : Nat), k ≤ l.length → l.length - k < m →
    f10.J1 n m (l, (k : Int), ()) = some (chk verB behB (prev l k) (l.drop k), ())
  | 0, k, _, h => by omega
  | m + 1, k, hk, h => by
    have hl1 := hl.len
    change f10.S1 n (f10.J2 n (f10.J1 n m)) (f10.J3 n) l (k : Int) = _
    have e2 : ∀ v, f10.J2 n (f10.J1 n m) v = f10.S2 n (f10.J1 n m) v.1 v.2.1 := fun v => rfl
    unfold f10.S1
    simp only [hide_eq, bIf_eq, gIf_eq, e2, f10.S2]
    by_cases hlt : k < l.length
    · have ih := ris10_J n hn h5 l hl m (k + 1) (by omega) (by omega)
      have hg : (0 ≤ (k : Int) ∧ (k : Int) < ((l.length : Nat) : Int)) := ⟨by omega, by omega⟩
      rw [if_pos (decide_eq_true (by omega))]
      simp only [if_pos hg, Int.toNat_natCast]
      rw [ver19 hn h5 (hl.all _ (getD_memA hlt)), bnd_some, wrap_i64 (x := (k : Int) + 1) (by omega), show ((k : Int) + 1) = ((k + 1 : Nat) : Int) by omega, ih]
      by_cases h0 : k = 0
      · subst h0
        rw [chk_zero (d := Va.dflt t31) (by omega), if_neg (c := decide (((0 : Nat) : Int) > 0) = true) (by simp)]
        cases verB (l.getD 0 (Va.dflt t31)) <;> rfl
      · have hp : 0 ≤ (k : Int) - 1 ∧ (k : Int) - 1 < ((l.length : Nat) : Int) := ⟨by omega, by omega⟩
        rw [chk_succ (d := Va.dflt t31) (by omega) hlt, if_pos (c := decide ((k : Int) > 0) = true) (decide_eq_true (by omega)), wrap_i64 (by omega)]
        simp only [if_pos hp, show ((k : Int) - 1).toNat = k - 1 by omega]
        have hbeh : behB (l.getD (k - 1) (Va.dflt t31)) (l.getD k (Va.dflt t31)) = (!decide ((l.getD k (Va.dflt t31)).1 ≤ (l.getD (k - 1) (Va.dflt t31)).1) && !decide (made (l.getD k (Va.dflt t31)) < made (l.getD (k - 1) (Va.dflt t31)))) := by
          unfold behB
          congr 1
          · exact z_gt _ _
          · exact z_ge2 _ _
        rw [hbeh]
        change (if (!verB (l.getD k (Va.dflt t31))) = true then _ else if decide ((l.getD k (Va.dflt t31)).1 ≤ (l.getD (k - 1) (Va.dflt t31)).1) = true then _ else if decide (made (l.getD k (Va.dflt t31)) < made (l.getD (k - 1) (Va.dflt t31))) = true then _ else _) = _
        cases verB (l.getD k (Va.dflt t31)) <;> cases decide ((l.getD k (Va.dflt t31)).1 ≤ (l.getD (k - 1) (Va.dflt t31)).1) <;> cases decide (made (l.getD k (Va.dflt t31)) < made (l.getD (k - 1) (Va.dflt t31))) <;> rfl
    · rw [if_neg (by simp; omega), chk_end (by omega)]
      rfl
theorem ris10 {n : Nat} (hn : n ≤ 536870912) (h5 : 40 ≤ n) {l : List Ver} (hl : LB n l) : f10.f n l = some (risB l, ()) :=
  ris10_J n hn h5 l hl n 0 (by omega) (by have := hl.len; omega)

/-- May it be an object? -/
def soundB (o : Ob) : Bool := keyB o.1 && (decide (1 ≤ o.2.1.length) && risB o.2.1)
structure OB (n : Nat) (o : Ob) : Prop where
  key : o.1.size < n
  list : LB n o.2.1
theorem sound20 {n : Nat} (hn : n ≤ 536870912) {o : Ob} (ho : OB n o) : f20.f n o = some (soundB o, ()) := by
  change f20.S0 n o = _
  unfold f20.S0 soundB
  rw [key24 ho.key hn, ris25 hn ho.list]
  simp only [hide_eq, bIf_eq, bnd_some]
  have e0 : decide (((o.2.1.length : Nat) : Int) > 0) = decide (1 ≤ o.2.1.length) := decide_eq_decide.2 (by omega)
  rw [e0]
  cases keyB o.1 <;> cases decide (1 ≤ o.2.1.length) <;> rfl
theorem sound9 {n : Nat} (hn : n ≤ 536870912) (h5 : 40 ≤ n) {o : Ob} (ho : OB n o) : f9.f n o = some (soundB o, ()) := by
  change f9.S0 n o = _
  unfold f9.S0 soundB
  rw [key30 ho.key hn (by omega), ris10 hn h5 ho.list]
  simp only [hide_eq, bIf_eq, bnd_some]
  have e0 : decide (((o.2.1.length : Nat) : Int) ≥ 1) = decide (1 ≤ o.2.1.length) := decide_eq_decide.2 (by omega)
  rw [e0]
  cases keyB o.1 <;> cases decide (1 ≤ o.2.1.length) <;> rfl
end Go.Proofs.YtnlckhekcklcpaaDoor

namespace Go.Proofs.YtnlckhekcklcpaaDoor
open Go Go.Va Go.Proofs

theorem clip50 (n : Nat) (l : List (Den t65)) : f50.f n l = some (l, ()) := by
  change f50.S0 n l = _
  unfold f50.S0
  simp only [gIf_eq]
  rw [if_pos ⟨by omega, by omega⟩, if_pos ⟨by omega, by omega⟩, if_pos (by simp), Int.toNat_natCast, Nat.sub_zero, List.take_length]
theorem clone51 {n : Nat} {l : List (Den t65)} (h : l.length ≤ 536870912) : f51.f n l = some (l, ()) := by
  change f51.S0 n l = _
  unfold f51.S0
  simp only [gIf_eq, bIf_eq, List.nil_append]
  have h1 : (([] : List (Den t65)).length + l.length) * 32 ≤ 70368744177664 := by simp; omega
  simp only [if_pos h1]
  by_cases h0 : l = []
  · subst h0; rw [if_pos (c := (([] : List (Den t65)).length == 0) = true) rfl]; exact bothC_self _
  · rw [if_neg (by simp [h0])]
theorem clone43 {n : Nat} {l : List (Den t65)} (h : l.length ≤ 536870912) : f43.f n l = some (l, ()) := by
  change f43.S0 n l = _
  unfold f43.S0
  rw [clone51 h, bnd_some, clip50, bnd_some]
theorem clone29 {n : Nat} {v : Ver} (h : (tags v).length ≤ 536870912) : f29.f n v = some (v, ()) := by
  change f29.S0 n v = _
  unfold f29.S0
  have := clone43 (n := n) h
  unfold tags at this
  rw [this, bnd_some]
theorem clip28 (n : Nat) (l : List Ver) : f28.f n l = some (l, ()) := by
  change f28.S0 n l = _
  unfold f28.S0
  simp only [gIf_eq]
  rw [if_pos ⟨by omega, by omega⟩, if_pos ⟨by omega, by omega⟩, if_pos (by simp), Int.toNat_natCast, Nat.sub_zero, List.take_length]
theorem clone27_J (n : Nat) (hn : n ≤ 536870912) (o : Ob) (hl : LB n o.2.1) (b : Ob) : ∀ (m k : Nat), k ≤ o.2.1.length → o.2.1.length - k < m →
    f27.J1 n m (o.2.1.take k, o.2.1, ((o.2.1.length : Nat) : Int), (k : Int), o, b, ()) = some (o, ())
  | 0, k, _, h => by omega
  | m + 1, k, hk, h => by
    have hl1 := hl.len
    change f27.S1 n (f27.J1 n m) (f27.J2 n) (o.2.1.take k) o.2.1 ((o.2.1.length : Nat) : Int) (k : Int) o b = _
    have e2 : ∀ l b', f27.J2 n (l, o, b', ()) = f27.S2 n l o b' := fun _ _ => rfl
    unfold f27.S1
    simp only [hide_eq, bIf_eq, gIf_eq]
    by_cases hlt : k < o.2.1.length
    · have ih := clone27_J n hn o hl b m (k + 1) (by omega) (by omega)
      have ht := (hl.all _ (getD_memA (d := Va.dflt t31) hlt)).tags.1
      rw [if_pos (decide_eq_true (by omega)), if_pos ⟨by omega, by omega⟩, Int.toNat_natCast, clone29 (by omega), bnd_some, wrap_i64 (x := (k : Int) + 1) (by omega), show ((k : Int) + 1) = ((k + 1 : Nat) : Int) by omega]
      rw [if_pos (by rw [List.length_take]; omega)]
      have e3 : o.2.1.take k ++ [o.2.1.getD k (Va.dflt t31)] = o.2.1.take (k + 1) := by
        rw [List.take_succ_eq_append_getElem hlt, List.getD_eq_getElem?_getD, List.getElem?_eq_getElem hlt]; rfl
      have e4 : ((o.2.1.take k ++ ([o.2.1.getD k (Va.dflt t31)] : List Ver)), o.2.1, ((o.2.1.length : Nat) : Int), ((k + 1 : Nat) : Int), o, b, ()) = ((o.2.1.take (k + 1), o.2.1, ((o.2.1.length : Nat) : Int), ((k + 1 : Nat) : Int), o, b, ()) : Dens f27.g1) := by rw [e3]
      exact (congrArg (f27.J1 n m) e4).trans ih
    · rw [if_neg (by simp; omega), e2]
      unfold f27.S2
      rw [clip28, bnd_some, List.take_of_length_le (by omega)]
theorem clone27 {n : Nat} (hn : n ≤ 536870912) {o : Ob} (hl : LB n o.2.1) : f27.f n o = some (o, ()) :=
  clone27_J n hn o hl (⟨#[]⟩, [], ()) n 0 (by omega) (by have := hl.len; omega)

/-- Where the version with a number stands, from a place on; -1: nowhere. -/
def plc (l : List Ver) (id : Int) (k : Nat) : Int :=
  match (l.drop k).findIdx? (fun v => v.1 == id) with
  | none => -1
  | some i => ((k + i : Nat) : Int)
theorem plc_end {l : List Ver} {id : Int} {k : Nat} (h : l.length ≤ k) : plc l id k = -1 := by
  unfold plc; rw [List.drop_eq_nil_of_le h]; rfl
theorem plc_step {l : List Ver} {id : Int} {k : Nat} (h : k < l.length) : plc l id k = if ((l.getD k (Va.dflt t31)).1 == id) = true then (k : Int) else plc l id (k + 1) := by
  unfold plc
  rw [List.drop_eq_getElem_cons h, List.findIdx?_cons]
  have e : l.getD k (Va.dflt t31) = l[k] := by rw [List.getD_eq_getElem?_getD, List.getElem?_eq_getElem h]; rfl
  rw [e]
  cases hx : (l[k].1 == id)
  · simp only [Bool.false_eq_true, if_false]
    cases (l.drop (k + 1)).findIdx? (fun v => v.1 == id) with
    | none => rfl
    | some i => simp only [Option.map_some]; omega
  · simp only [if_true]; rfl
theorem plc_range (l : List Ver) (id : Int) : ∀ k, -1 ≤ plc l id k ∧ plc l id k < l.length ∧ (0 ≤ plc l id k → (k : Int) ≤ plc l id k ∧ (l.getD (plc l id k).toNat (Va.dflt t31)).1 = id) := by
  intro k
  unfold plc
  cases h : (l.drop k).findIdx? (fun v => v.1 == id) with
  | none => exact ⟨by simp, by simp; omega, fun h' => by simp at h'⟩
  | some i =>
    obtain ⟨hi, hp, _⟩ := List.findIdx?_eq_some_iff_getElem.1 h
    rw [List.length_drop] at hi
    refine ⟨by simp only; omega, by simp only; omega, fun _ => ⟨by simp only; omega, ?_⟩⟩
    simp only [Int.toNat_natCast]
    rw [List.getD_eq_getElem?_getD, List.getElem?_eq_getElem (by omega)]
    rw [List.getElem_drop] at hp
    exact beq_iff_eq.1 hp

theorem place45_J (n : Nat) (hn : n ≤ 536870912) (l : List Ver) (hl : l.length < n) (id : Int) : ∀ (m k : Nat), k ≤ l.length → l.length - k < m →
    f45.J1 n m (l, ((l.length : Nat) : Int), (k : Int), id, ()) = some (plc l id k, id, ())
  | 0, k, _, h => by omega
  | m + 1, k, hk, h => by
    change f45.S1 n (f45.J1 n m) (f45.J2 n) l ((l.length : Nat) : Int) (k : Int) id = _
    have e46 : ∀ (v : Ver) t, f46.f n v t = some ((v.1 == t), t, ()) := fun v t => by
      change f46.S0 n v t = _
      unfold f46.S0
      rw [hide_eq]
    unfold f45.S1
    simp only [hide_eq, bIf_eq, gIf_eq]
    by_cases hlt : k < l.length
    · have ih := place45_J n hn l hl id m (k + 1) (by omega) (by omega)
      rw [if_pos (decide_eq_true (by omega)), if_pos ⟨by omega, by omega⟩, Int.toNat_natCast, e46, bnd_some, wrap_i64 (x := (k : Int) + 1) (by omega), show ((k : Int) + 1) = ((k + 1 : Nat) : Int) by omega, ih, plc_step hlt]
      cases ((l.getD k (Va.dflt t31)).1 == id) <;> rfl
    · rw [if_neg (by simp; omega), plc_end (by omega)]
      rfl
theorem place31 {n : Nat} (hn : n ≤ 536870912) {o : Ob} (hl : o.2.1.length < n) (id : Int) : f31.f n o id = some (plc o.2.1 id 0, ()) := by
  change f31.S0 n o id = _
  unfold f31.S0
  have h : f45.f n o.2.1 id = some (plc o.2.1 id 0, id, ()) := place45_J n hn o.2.1 hl id n 0 (by omega) (by omega)
  rw [h, bnd_some]
theorem place16_J (n : Nat) (hn : n ≤ 536870912) (o : Ob) (hl : o.2.1.length < n) (id : Int) : ∀ (k m : Nat), k ≤ o.2.1.length → k < m →
    f16.J1 n m (id, plc o.2.1 id k, (k : Int) - 1, o, ()) = some (plc o.2.1 id 0, ())
  | k, 0, _, h => by omega
  | 0, m + 1, _, _ => by
    change f16.S1 n (f16.J2 n (f16.J1 n m)) (f16.J3 n) id (plc o.2.1 id 0) (((0 : Nat) : Int) - 1) o = _
    unfold f16.S1
    simp only [hide_eq, bIf_eq, gIf_eq]
    rw [if_neg (by simp)]
    rfl
  | k + 1, m + 1, hk, h => by
    have ih := place16_J n hn o hl id k m (by omega) (by omega)
    change f16.S1 n (f16.J2 n (f16.J1 n m)) (f16.J3 n) id (plc o.2.1 id (k + 1)) (((k + 1 : Nat) : Int) - 1) o = _
    have e2 : ∀ v, f16.J2 n (f16.J1 n m) v = f16.S2 n (f16.J1 n m) v.1 v.2.1 v.2.2.1 v.2.2.2.1 := fun v => rfl
    unfold f16.S1
    simp only [hide_eq, bIf_eq, gIf_eq, e2, f16.S2]
    rw [show (((k + 1 : Nat) : Int) - 1) = (k : Int) by omega, if_pos (decide_eq_true (by omega)), if_pos ⟨by omega, by omega⟩, Int.toNat_natCast, wrap_i64 (by omega)]
    rw [plc_step (by omega)] at ih
    cases hx : ((o.2.1.getD k (Va.dflt t31)).1 == id)
    · rw [if_neg (by simp)]; rw [hx, if_neg (by simp)] at ih; exact ih
    · rw [if_pos rfl]; rw [hx, if_pos rfl] at ih; exact ih
theorem place16 {n : Nat} (hn : n ≤ 536870912) {o : Ob} (hl : o.2.1.length < n) (id : Int) : f16.f n o id = some (plc o.2.1 id 0, ()) := by
  change f16.J1 n n (id, (-1 : Int), IntKind.i64.wrap (((o.2.1.length : Nat) : Int) - 1), o, ()) = _
  rw [wrap_i64 (by omega)]
  have := place16_J n hn o hl id o.2.1.length n (by omega) (by omega)
  rw [plc_end (by omega)] at this
  exact this

/-- Are two versions one? -/
def sameV (a b : Ver) : Bool := allB sameT (tags a) (tags b) && ((a.1 == b.1) && ((mark a == mark b) && ((vsize a == vsize b) && ((blob a == blob b) && (eqD (.arr 32 (.int .u8)) (dig a) (dig b) && ((made a == made b) && eqD t28 (lock a) (lock b)))))))
theorem sameV40 {n : Nat} (hn : n ≤ 536870912) {a b : Ver} (ha : (tags a).length < n) : f40.f n a b = some (sameV a b, ()) := by
  change f40.S0 n a b = _
  have h := same48 (b := tags b) hn ha
  unfold tags at h
  unfold f40.S0
  rw [h, bnd_some]
  simp only [hide_eq, bIf_eq]
  unfold sameV
  change (if allB sameT (tags a) (tags b) = true then if (a.1 == b.1) = true then if (mark a == mark b) = true then if (vsize a == vsize b) = true then if (blob a == blob b) = true then if eqD (.arr 32 (.int .u8)) (dig a) (dig b) = true then if (made a == made b) = true then some (eqD t28 (lock a) (lock b), ()) else some (false, ()) else some (false, ()) else some (false, ()) else some (false, ()) else some (false, ()) else some (false, ()) else (some (false, ()) : Option f40.R)) = _
  cases allB sameT (tags a) (tags b) <;> cases (a.1 == b.1) <;> cases (mark a == mark b) <;> cases (vsize a == vsize b) <;> cases (blob a == blob b) <;> cases eqD (.arr 32 (.int .u8)) (dig a) (dig b) <;> cases (made a == made b) <;> rfl
theorem sameV17 {n : Nat} (hn : n ≤ 536870912) {a b : Ver} (ha : (tags a).length < n) : f17.f n a b = some (sameV a b, ()) := by
  change f17.S0 n (f17.J1 n) a b = _
  have h := same32 (b := tags b) hn ha
  unfold tags at h
  have e1 : f17.J1 n (a, b, ()) = f17.S1 n a b := rfl
  unfold f17.S0
  rw [e1]
  unfold f17.S1
  rw [h, bnd_some]
  simp only [hide_eq, bIf_eq]
  unfold sameV
  change (if (!(a.1 == b.1)) = true then some (false, ()) else if (!(mark a == mark b)) = true then some (false, ()) else if (!(vsize a == vsize b)) = true then some (false, ()) else if (!(blob a == blob b)) = true then some (false, ()) else if (!(made a == made b)) = true then some (false, ()) else if (!(eqD t28 (lock a) (lock b))) = true then some (false, ()) else if eqD (.arr 32 (.int .u8)) (dig a) (dig b) = true then some (allB sameT (tags a) (tags b), ()) else (some (false, ()) : Option f17.R)) = _
  cases allB sameT (tags a) (tags b) <;> cases (a.1 == b.1) <;> cases (mark a == mark b) <;> cases (vsize a == vsize b) <;> cases (blob a == blob b) <;> cases eqD (.arr 32 (.int .u8)) (dig a) (dig b) <;> cases (made a == made b) <;> cases eqD t28 (lock a) (lock b) <;> rfl
theorem digRefl : ∀ (d : List Int), eqD (.arr 32 (.int .u8)) d d = true
  | [] => rfl
  | x :: d => by
    have := digRefl d
    change (decide (x = x) && eqD (.arr 32 (.int .u8)) d d) = true
    rw [this, decide_eq_true rfl]; rfl
theorem lockRefl (l : Den t28) : eqD t28 l l = true := by
  change (decide (l.1 = l.1) && (decide (l.2.1 = l.2.1) && ((l.2.2.1 == l.2.2.1) && true))) = true
  rw [decide_eq_true rfl, decide_eq_true rfl, beq_self_eq_true]; rfl
theorem sameV_refl (a : Ver) : sameV a a = true := by
  unfold sameV
  rw [allB_refl _ (fun x _ => sameT_refl x), digRefl, lockRefl]
  simp

theorem all39_J (n : Nat) (hn : n ≤ 536870912) (a b : List Ver) (hab : a.length = b.length) (hl : LB n a) : ∀ (m k : Nat), k ≤ a.length → a.length - k < m →
    f39.J1 n m (b, a, ((a.length : Nat) : Int), (k : Int), ()) = some (allB sameV (a.drop k) (b.drop k), ())
  | 0, k, _, h => by omega
  | m + 1, k, hk, h => by
    have hl1 := hl.len
    change f39.S1 n (f39.J1 n m) (f39.J2 n) b a ((a.length : Nat) : Int) (k : Int) = _
    unfold f39.S1
    simp only [hide_eq, bIf_eq, gIf_eq]
    by_cases hlt : k < a.length
    · have ih := all39_J n hn a b hab hl m (k + 1) (by omega) (by omega)
      rw [if_pos (decide_eq_true (by omega)), if_pos ⟨by omega, by omega⟩, if_pos ⟨by omega, by omega⟩, Int.toNat_natCast, wrap_i64 (x := (k : Int) + 1) (by omega), show ((k : Int) + 1) = ((k + 1 : Nat) : Int) by omega, ih, sameV40 hn (hl.all _ (getD_memA hlt)).tags.1, bnd_some, allB_step (Va.dflt t31) hlt (by omega)]
      cases sameV (a.getD k (Va.dflt t31)) (b.getD k (Va.dflt t31)) <;> rfl
    · rw [if_neg (by simp; omega), allB_end (by omega) (by omega)]
      rfl
/-- Are two objects one? -/
def sameO (a b : Ob) : Bool := eqS a.1 b.1 && allB sameV a.2.1 b.2.1
theorem sameO_refl (a : Ob) : sameO a a = true := by
  unfold sameO
  rw [eqS_self, allB_refl _ (fun x _ => sameV_refl x)]; rfl
theorem sameO21 {n : Nat} (hn : n ≤ 536870912) {a b : Ob} (ha : LB n a.2.1) : f21.f n a b = some (sameO a b, ()) := by
  change f21.S0 n a b = _
  have h : f39.f n a.2.1 b.2.1 = some (allB sameV a.2.1 b.2.1, ()) := by
    change f39.S0 n (f39.J1 n n) a.2.1 b.2.1 = _
    unfold f39.S0
    simp only [hide_eq, bIf_eq]
    by_cases h : a.2.1.length = b.2.1.length
    · rw [if_neg (by simp [h])]
      exact all39_J n hn a.2.1 b.2.1 h ha n 0 (by omega) (by have := ha.len; omega)
    · rw [if_pos (by simp; omega), allB_len _ _ h]
  unfold f21.S0
  rw [h, bnd_some]
  simp only [hide_eq, bIf_eq]
  unfold sameO
  cases eqS a.1 b.1 <;> rfl
theorem all12_J (n : Nat) (hn : n ≤ 536870912) (a b : Ob) (hab : a.2.1.length = b.2.1.length) (hl : LB n a.2.1) : ∀ (m k : Nat), k ≤ a.2.1.length → a.2.1.length - k < m →
    f12.J2 n m ((k : Int), a, b, ()) = some (allB sameV (a.2.1.drop k) (b.2.1.drop k), ())
  | 0, k, _, h => by omega
  | m + 1, k, hk, h => by
    have hl1 := hl.len
    change f12.S2 n (f12.J2 n m) (f12.J3 n) (k : Int) a b = _
    unfold f12.S2
    simp only [hide_eq, bIf_eq, gIf_eq]
    by_cases hlt : k < a.2.1.length
    · have ih := all12_J n hn a b hab hl m (k + 1) (by omega) (by omega)
      rw [if_pos (decide_eq_true (by omega)), if_pos ⟨by omega, by omega⟩, if_pos ⟨by omega, by omega⟩, Int.toNat_natCast, wrap_i64 (x := (k : Int) + 1) (by omega), show ((k : Int) + 1) = ((k + 1 : Nat) : Int) by omega, ih, sameV17 hn (hl.all _ (getD_memA hlt)).tags.1, bnd_some, allB_step (Va.dflt t31) hlt (by omega)]
      cases sameV (a.2.1.getD k (Va.dflt t31)) (b.2.1.getD k (Va.dflt t31)) <;> rfl
    · rw [if_neg (by simp; omega), allB_end (by omega) (by omega)]
      rfl
theorem sameO12 {n : Nat} (hn : n ≤ 536870912) {a b : Ob} (ha : LB n a.2.1) : f12.f n a b = some (sameO a b, ()) := by
  change f12.S0 n (f12.J1 n) a b = _
  have e1 : f12.J1 n (a, b, ()) = f12.J2 n n (((0 : Nat) : Int), a, b, ()) := rfl
  unfold f12.S0
  simp only [hide_eq, bIf_eq, e1]
  unfold sameO
  by_cases h : a.2.1.length = b.2.1.length
  · rw [if_neg (c := (((a.2.1.length : Nat) : Int) != ((b.2.1.length : Nat) : Int)) = true) (by simp [h]), all12_J n hn a b h ha n 0 (by omega) (by have := ha.len; omega)]
    cases eqS a.1 b.1 <;> rfl
  · rw [if_pos (c := (((a.2.1.length : Nat) : Int) != ((b.2.1.length : Nat) : Int)) = true) (by simp; omega), allB_len _ _ h]
    cases eqS a.1 b.1 <;> rfl

/-- One taken out. -/
theorem del41 (n : Nat) (l : List Ver) (i : Nat) (h : i < l.length) : f41.f n l (i : Int) ((i + 1 : Nat) : Int) = some (l.take i ++ l.drop (i + 1), ()) := by
  change f41.S0 n l (i : Int) ((i + 1 : Nat) : Int) = _
  unfold f41.S0
  simp only [hide_eq, bIf_eq, gIf_eq, Int.toNat_natCast, Nat.sub_zero, Nat.zero_add]
  have hd : ((l.drop (i + 1)).take (l.length - (i + 1))) = l.drop (i + 1) := List.take_of_length_le (by rw [List.length_drop]; omega)
  simp only [hd]
  have hdl : (l.drop (i + 1)).length = l.length - (i + 1) := List.length_drop
  simp only [hdl]
  have e1 : i + (l.length - (i + 1)) = l.length - 1 := by omega
  simp only [e1]
  rw [if_pos ⟨by omega, by omega⟩, if_pos ⟨by omega, by omega⟩, if_pos (by simp), if_neg (by simp; omega), if_pos ⟨by omega, by omega⟩, if_pos ⟨by omega, by omega⟩, if_pos ⟨by omega, by omega⟩, if_pos ⟨by omega, by omega⟩, if_pos (by omega)]
  have hL : (l.take i ++ l.drop (i + 1) ++ l.drop (l.length - 1)).length = l.length := by
    rw [List.length_append, List.length_append, List.length_take, List.length_drop, List.length_drop]; omega
  rw [if_pos ⟨by omega, by simp only [hL]; omega⟩, if_pos ⟨by omega, by omega⟩]
  have h1 : (l.take i ++ l.drop (i + 1)).length = l.length - 1 := by
    rw [List.length_append, List.length_take, List.length_drop]; omega
  congr 2
  rw [List.take_append_of_le_length (l₁ := l.take i ++ l.drop (i + 1)) (by omega), List.take_of_length_le (l := l.take i ++ l.drop (i + 1)) (by omega)]
  rw [List.append_assoc (l.take i ++ l.drop (i + 1)), List.take_append_of_le_length (by omega), List.take_of_length_le (by omega)]
end Go.Proofs.YtnlckhekcklcpaaDoor

namespace Go.Proofs.YtnlckhekcklcpaaDoor
open Go Go.Va Go.Proofs

def zeroV : Ver := (0, (false, (0, (0, ((List.replicate 32 0), (0, ((0, (0, (false, ()))), ([], ()))))))))
def zeroO : Ob := (⟨#[]⟩, ([], ()))

noncomputable def findR (o : Ob) (id : Int) : Ver × Int :=
  if soundB o = true then if plc o.2.1 id 0 < 0 then (zeroV, 7) else (o.2.1.getD (plc o.2.1 id 0).toNat (Va.dflt t31), 0) else (zeroV, 2)
noncomputable def latR (o : Ob) : Ver × Int :=
  if soundB o = true then (o.2.1.getD (o.2.1.length - 1) (Va.dflt t31), 0) else (zeroV, 2)
noncomputable def repR (o : Ob) (id : Int) : Int × Bool :=
  if soundB o = true then if plc o.2.1 id 0 < 0 ∨ plc o.2.1 id 0 = (o.2.1.length : Int) - 1 then (0, false) else (made (o.2.1.getD ((plc o.2.1 id 0).toNat + 1) (Va.dflt t31)), true) else (0, false)
noncomputable def addR (o : Ob) (v : Ver) : Ob × Int :=
  if keyB o.1 = true ∧ risB o.2.1 = true ∧ verB v = true then if 0 < o.2.1.length ∧ behB (o.2.1.getD (o.2.1.length - 1) (Va.dflt t31)) v = false then (zeroO, 18) else ((o.1, o.2.1 ++ [v], o.2.2), 0) else (zeroO, 2)
noncomputable def eraR (o : Ob) (id : Int) : Ob × Int :=
  if soundB o = true then if plc o.2.1 id 0 < 0 then (zeroO, 7) else ((o.1, o.2.1.take (plc o.2.1 id 0).toNat ++ o.2.1.drop ((plc o.2.1 id 0).toNat + 1), o.2.2), 0) else (zeroO, 2)
noncomputable def chgR (o : Ob) (v : Ver) : Ob × Int :=
  if soundB o = true ∧ verB v = true then if plc o.2.1 v.1 0 < 0 then (zeroO, 7) else if made (o.2.1.getD (plc o.2.1 v.1 0).toNat (Va.dflt t31)) = made v then ((o.1, o.2.1.set (plc o.2.1 v.1 0).toNat v, o.2.2), 0) else (zeroO, 18) else (zeroO, 2)

theorem sound_len {o : Ob} (h : soundB o = true) : 1 ≤ o.2.1.length := by
  unfold soundB at h
  simp only [Bool.and_eq_true, decide_eq_true_eq] at h
  exact h.2.1

theorem find13 {n : Nat} (hn : n ≤ 536870912) {o : Ob} (ho : OB n o) (id : Int) : f13.f n o id = some ((findR o id).1, (findR o id).2, ()) := by
  change f13.S0 n o id = _
  have hl := ho.list.len
  obtain ⟨r1, r2, r3⟩ := plc_range o.2.1 id 0
  unfold f13.S0
  rw [sound20 hn ho, bnd_some, place31 hn hl id, bnd_some]
  simp only [hide_eq, bIf_eq, gIf_eq]
  unfold findR
  cases hs : soundB o
  · rfl
  · simp only [Bool.not_true, Bool.false_eq_true, if_false, if_true, decide_eq_true_eq]
    by_cases h0 : plc o.2.1 id 0 < 0
    · simp only [if_pos h0]; rfl
    · have hg : 0 ≤ plc o.2.1 id 0 ∧ plc o.2.1 id 0 < ((o.2.1.length : Nat) : Int) := ⟨by omega, r2⟩
      simp only [if_neg h0, if_pos hg]
      rw [clone29 (by have := (ho.list.all _ (getD_memA (l := o.2.1) (k := (plc o.2.1 id 0).toNat) (d := Va.dflt t31) (by omega))).tags.1; omega), bnd_some]
theorem lat14 {n : Nat} (hn : n ≤ 536870912) {o : Ob} (ho : OB n o) : f14.f n o = some ((latR o).1, (latR o).2, ()) := by
  change f14.S0 n o = _
  have hl := ho.list.len
  unfold f14.S0
  rw [sound20 hn ho, bnd_some]
  simp only [hide_eq, bIf_eq, gIf_eq]
  unfold latR
  cases hs : soundB o
  · rfl
  · have h1 := sound_len hs
    rw [wrap_i64 (by omega)]
    have hg : 0 ≤ ((o.2.1.length : Nat) : Int) - 1 ∧ ((o.2.1.length : Nat) : Int) - 1 < ((o.2.1.length : Nat) : Int) := ⟨by omega, by omega⟩
    simp only [Bool.not_true, Bool.false_eq_true, if_false, if_true, if_pos hg, show (((o.2.1.length : Nat) : Int) - 1).toNat = o.2.1.length - 1 by omega]
    rw [clone29 (by have := (ho.list.all _ (getD_memA (l := o.2.1) (k := o.2.1.length - 1) (d := Va.dflt t31) (by omega))).tags.1; omega), bnd_some]
theorem rep15 {n : Nat} (hn : n ≤ 536870912) {o : Ob} (ho : OB n o) (id : Int) : f15.f n o id = some ((repR o id).1, (repR o id).2, ()) := by
  change f15.S0 n (f15.J1 n) o id = _
  have hl := ho.list.len
  obtain ⟨r1, r2, r3⟩ := plc_range o.2.1 id 0
  have e1 : ∀ i o', f15.J1 n (i, o', ()) = f15.S1 n i o' := fun _ _ => rfl
  unfold f15.S0
  rw [sound20 hn ho, bnd_some, place31 hn hl id, bnd_some]
  simp only [hide_eq, bIf_eq, gIf_eq, e1]
  unfold repR
  cases hs : soundB o
  · rfl
  · rw [wrap_i64 (by omega)]
    simp only [Bool.not_true, Bool.false_eq_true, if_false, if_true, decide_eq_true_eq, beq_iff_eq]
    by_cases h0 : plc o.2.1 id 0 < 0
    · simp only [if_pos h0, if_pos (show plc o.2.1 id 0 < 0 ∨ plc o.2.1 id 0 = (o.2.1.length : Int) - 1 from .inl h0)]
    · by_cases h2 : plc o.2.1 id 0 = (o.2.1.length : Int) - 1
      · simp only [if_neg h0, if_pos h2, if_pos (show plc o.2.1 id 0 < 0 ∨ plc o.2.1 id 0 = (o.2.1.length : Int) - 1 from .inr h2)]
      · simp only [if_neg h0, if_neg h2, if_neg (show ¬ (plc o.2.1 id 0 < 0 ∨ plc o.2.1 id 0 = (o.2.1.length : Int) - 1) from not_or.2 ⟨h0, h2⟩)]
        unfold f15.S1
        rw [wrap_i64 (by omega), gIf_pos ⟨by omega, by omega⟩, show (plc o.2.1 id 0 + 1).toNat = (plc o.2.1 id 0).toNat + 1 by omega]
        rfl
theorem add8 {n : Nat} (hn : n ≤ 536870912) {o : Ob} {v : Ver} (ho : OB n o) (hv : VB n v) : f8.f n o v = some ((addR o v).1, (addR o v).2, ()) := by
  change f8.S0 n (f8.J1 n) o v = _
  have hl := ho.list.len
  have e1 : ∀ t o' v' b, f8.J1 n (t, o', v', b, ()) = f8.S1 n (f8.J2 n) t o' v' b := fun _ _ _ _ => rfl
  have e2 : ∀ o' v' b, f8.J2 n (o', v', b, ()) = f8.S2 n (f8.J3 n) o' v' b := fun _ _ _ => rfl
  have e3 : ∀ t o' v' b, f8.J3 n (t, o', v', b, ()) = f8.S3 n (f8.J4 n) t o' v' b := fun _ _ _ _ => rfl
  have e4 : ∀ o' v' b, f8.J4 n (o', v', b, ()) = f8.S4 n o' v' b := fun _ _ _ => rfl
  unfold f8.S0
  rw [key24 ho.key hn, bnd_some, ris25 hn ho.list, bnd_some, ver18 hn hv, bnd_some]
  simp only [hide_eq, bIf_eq, e1, f8.S1]
  unfold addR
  by_cases hok : keyB o.1 = true ∧ risB o.2.1 = true ∧ verB v = true
  · obtain ⟨h1, h2, h3⟩ := hok
    simp only [h1, h2, h3, Bool.not_true, Bool.false_eq_true, if_false, and_self, if_true, e2, f8.S2, hide_eq, bIf_eq, gIf_eq, e3, f8.S3, e4, f8.S4]
    have hbig : f27.f n o = some (o, ()) := clone27 hn ho.list
    rw [hbig, bnd_some, clone29 (by have := hv.tags.1; omega), bnd_some, if_pos (c := (o.2.1.length + 1) * 120 ≤ 70368744177664) (by omega), clip28, bnd_some]
    by_cases h0 : 0 < o.2.1.length
    · rw [if_pos (decide_eq_true (by omega)), wrap_i64 (by omega), if_pos (show 0 ≤ ((o.2.1.length : Nat) : Int) - 1 ∧ ((o.2.1.length : Nat) : Int) - 1 < ((o.2.1.length : Nat) : Int) from ⟨by omega, by omega⟩), show (((o.2.1.length : Nat) : Int) - 1).toNat = o.2.1.length - 1 by omega, beh26, bnd_some]
      cases hb : behB (o.2.1.getD (o.2.1.length - 1) (Va.dflt t31)) v
      · rw [if_pos (by rfl), if_pos ⟨h0, rfl⟩]; rfl
      · rw [if_neg (by simp), if_neg (by simp)]
    · rw [if_neg (c := decide (((o.2.1.length : Nat) : Int) > 0) = true) (fun h => by have := of_decide_eq_true h; omega), if_neg (show ¬ (0 < o.2.1.length ∧ behB (o.2.1.getD (o.2.1.length - 1) (Va.dflt t31)) v = false) from fun h => h0 h.1)]
      try rfl
  · rw [if_neg hok]
    cases hk : keyB o.1
    · rfl
    · cases hr : risB o.2.1
      · rfl
      · cases hw : verB v
        · rfl
        · exact absurd ⟨hk, hr, hw⟩ hok
theorem era22 {n : Nat} (hn : n ≤ 536870912) {o : Ob} (ho : OB n o) (id : Int) : f22.f n o id = some ((eraR o id).1, (eraR o id).2, ()) := by
  change f22.S0 n o id = _
  have hl := ho.list.len
  obtain ⟨r1, r2, r3⟩ := plc_range o.2.1 id 0
  unfold f22.S0
  rw [sound20 hn ho, bnd_some, place31 hn hl id, bnd_some, clone27 hn ho.list, bnd_some]
  simp only [hide_eq, bIf_eq]
  unfold eraR
  cases hs : soundB o
  · rfl
  · simp only [Bool.not_true, Bool.false_eq_true, if_false, if_true, decide_eq_true_eq]
    by_cases h0 : plc o.2.1 id 0 < 0
    · simp only [if_pos h0]; rfl
    · simp only [if_neg h0]
      obtain ⟨p, hp⟩ : ∃ p : Nat, plc o.2.1 id 0 = (p : Int) := ⟨(plc o.2.1 id 0).toNat, by omega⟩
      rw [hp] at r2 ⊢
      rw [wrap_i64 (by omega), show ((p : Int) + 1) = ((p + 1 : Nat) : Int) by omega, del41 n o.2.1 p (by omega), bnd_some, clip28, bnd_some, Int.toNat_natCast]
theorem chg23 {n : Nat} (hn : n ≤ 536870912) {o : Ob} {v : Ver} (ho : OB n o) (hv : VB n v) : f23.f n o v = some ((chgR o v).1, (chgR o v).2, ()) := by
  change f23.S0 n (f23.J1 n) o v = _
  have hl := ho.list.len
  have e1 : ∀ t o' v' b, f23.J1 n (t, o', v', b, ()) = f23.S1 n (f23.J2 n) t o' v' b := fun _ _ _ _ => rfl
  have e2 : ∀ o' v' b, f23.J2 n (o', v', b, ()) = f23.S2 n o' v' b := fun _ _ _ => rfl
  obtain ⟨r1, r2, r3⟩ := plc_range o.2.1 v.1 0
  unfold f23.S0
  rw [sound20 hn ho, bnd_some, ver18 hn hv, bnd_some]
  simp only [hide_eq, bIf_eq, e1, f23.S1]
  unfold chgR
  cases hs : soundB o
  · rfl
  · cases hw : verB v
    · rfl
    · simp only [Bool.not_true, Bool.false_eq_true, if_false, and_self, if_true, e2, f23.S2, hide_eq, bIf_eq, gIf_eq]
      rw [place31 hn hl v.1, bnd_some, clone27 hn ho.list, bnd_some, clone29 (by have := hv.tags.1; omega), bnd_some]
      simp only [decide_eq_true_eq]
      by_cases h0 : plc o.2.1 v.1 0 < 0
      · simp only [if_pos h0]; rfl
      · have hg : 0 ≤ plc o.2.1 v.1 0 ∧ plc o.2.1 v.1 0 < ((o.2.1.length : Nat) : Int) := ⟨by omega, r2⟩
        simp only [if_neg h0, if_pos hg, Nat.zero_add]
        by_cases hm : made (o.2.1.getD (plc o.2.1 v.1 0).toNat (Va.dflt t31)) = made v
        · rw [if_pos hm, if_neg (c := (_ != _) = true) (by rw [bne_iff_ne]; exact fun h => h hm)]
        · rw [if_neg hm, if_pos (c := (_ != _) = true) (by rw [bne_iff_ne]; exact hm)]; rfl

def aw1 : Ver := (2, (false, (3, (1, ((List.replicate 32 0), (0, ((0, (0, (false, ()))), ([], ()))))))))
def aw2 : Ver := (5, (true, (0, (0, ((List.replicate 32 0), (9, ((0, (0, (false, ()))), ([], ()))))))))
theorem aw_add1 : addR (⟨#[107]⟩, ([], ())) aw1 = ((⟨#[107]⟩, ([aw1], ())), 0) := by
  unfold addR
  rw [if_pos ⟨by kernel_rfl, by kernel_rfl, by kernel_rfl⟩, if_neg (by simp)]
  rfl
theorem aw_beh : behB aw1 aw2 = true := by kernel_rfl
theorem aw_add2 : addR (⟨#[107]⟩, ([aw1], ())) aw2 = ((⟨#[107]⟩, ([aw1, aw2], ())), 0) := by
  unfold addR
  rw [if_pos ⟨by kernel_rfl, by kernel_rfl, by kernel_rfl⟩, if_neg (fun h => Bool.noConfusion (aw_beh.symm.trans h.2))]
  rfl
theorem aw_sound : soundB (⟨#[107]⟩, ([aw1, aw2], ())) = true := by kernel_rfl
theorem aw_lat : latR (⟨#[107]⟩, ([aw1, aw2], ())) = (aw2, 0) := by
  unfold latR; rw [if_pos aw_sound]; rfl
theorem aw_rep : repR (⟨#[107]⟩, ([aw1, aw2], ())) 2 = (9, true) := by
  unfold repR; rw [if_pos aw_sound]
  have : plc [aw1, aw2] 2 0 = 0 := by kernel_rfl
  simp only [this]
  rw [if_neg (by simp)]
  rfl
theorem aw_VB {n : Nat} (h5 : 40 ≤ n) : VB n aw1 ∧ VB n aw2 :=
  ⟨⟨by decide, by decide, rfl, ⟨by simp [tags, aw1]; omega, by simp [tags, aw1]⟩⟩, ⟨by decide, by decide, rfl, ⟨by simp [tags, aw2]; omega, by simp [tags, aw2]⟩⟩⟩
theorem awake {n : Nat} (hn : n ≤ 536870912) (h5 : 40 ≤ n) : f11.f n = some (true, ()) := by
  change f11.S0 n = _
  obtain ⟨v1, v2⟩ := aw_VB h5
  have o0 : OB n (⟨#[107]⟩, ([], ())) := ⟨by change 1 < n; omega, ⟨by simp; omega, by simp⟩⟩
  have o1 : OB n (⟨#[107]⟩, ([aw1], ())) := ⟨by change 1 < n; omega, ⟨by simp; omega, by simpa using v1⟩⟩
  have o2 : OB n (⟨#[107]⟩, ([aw1, aw2], ())) := ⟨by change 1 < n; omega, ⟨by simp; omega, by simpa using ⟨v1, v2⟩⟩⟩
  unfold f11.S0
  have a1 := add8 hn o0 v1
  rw [aw_add1] at a1
  have a2 := add8 hn o1 v2
  rw [aw_add2] at a2
  have a3 := lat14 hn o2
  rw [aw_lat] at a3
  have a4 := rep15 hn o2 2
  rw [aw_rep] at a4
  have a5 := sound20 hn o2
  rw [aw_sound] at a5
  unfold aw1 at a1 a2 a3 a4 a5
  unfold aw2 at a2 a3 a4 a5
  rw [a1, bnd_some]
  dsimp only
  rw [a2, bnd_some]
  dsimp only
  rw [a3, bnd_some]
  dsimp only
  rw [a4, bnd_some]
  dsimp only
  rw [a5, bnd_some]
  simp only [hide_eq, bIf_eq]
  rfl
end Go.Proofs.YtnlckhekcklcpaaDoor

namespace Go.Proofs.YtnlckhekcklcpaaDoor
open Go Go.Va Go.Proofs

theorem chk_append {α : Type} (p : α → Bool) (q : α → α → Bool) (v : α) : ∀ (l : List α) (o : Option α),
    chk p q o (l ++ [v]) = (chk p q o l && (p v && match l.getLast?.or o with | none => true | some u => q u v))
  | [], none => by simp [chk]
  | [], some u => by simp [chk]
  | x :: l, none => by
    have ih := chk_append p q v l (some x)
    rw [List.cons_append]
    unfold chk
    rw [ih]
    cases l with
    | nil => simp [chk]
    | cons y r => simp [List.getLast?_cons, Bool.and_assoc]
  | x :: l, some u => by
    have ih := chk_append p q v l (some x)
    rw [List.cons_append]
    unfold chk
    rw [ih]
    cases l with
    | nil => simp [chk, Bool.and_assoc]
    | cons y r => simp [List.getLast?_cons, Bool.and_assoc]

theorem ris_append (l : List Ver) (v : Ver) : risB (l ++ [v]) = (risB l && (verB v && (decide (l.length = 0) || behB (l.getD (l.length - 1) (Va.dflt t31)) v))) := by
  unfold risB
  rw [chk_append]
  congr 2
  cases l with
  | nil => rfl
  | cons x r =>
    have h : (x :: r).getLast? = some ((x :: r).getD ((x :: r).length - 1) (Va.dflt t31)) := by
      rw [List.getLast?_eq_getElem?, List.getD_eq_getElem?_getD, List.getElem?_eq_getElem (by simp)]; rfl
    rw [h]
    simp

/-- The numbers rise. -/
theorem ris_ids : ∀ (l : List Ver) (o : Option Ver), chk verB behB o l = true → (∀ u, o = some u → ∀ w ∈ l, u.1 < w.1) ∧ (∀ w ∈ l, w.1 ≤ (l.getD (l.length - 1) (Va.dflt t31)).1)
  | [], _, _ => ⟨fun _ _ w hw => by simp at hw, fun w hw => by simp at hw⟩
  | x :: l, o, h => by
    have hx : chk verB behB (some x) l = true ∧ (∀ u, o = some u → u.1 < x.1) := by
      cases o with
      | none => simp [chk] at h; exact ⟨h.2, fun u hu => by cases hu⟩
      | some u =>
        simp [chk] at h
        refine ⟨h.2.2, fun u' hu' => ?_⟩
        cases hu'
        have := h.2.1
        unfold behB at this
        simp at this
        exact this.1
    obtain ⟨i1, i2⟩ := ris_ids l (some x) hx.1
    have i1 := i1 x rfl
    constructor
    · intro u hu w hw
      rcases List.mem_cons.1 hw with rfl | hw
      · exact hx.2 u hu
      · exact Int.lt_trans (hx.2 u hu) (i1 w hw)
    · intro w hw
      cases l with
      | nil => simp at hw; subst hw; simp
      | cons y r =>
        have e : ((x :: y :: r).getD ((x :: y :: r).length - 1) (Va.dflt t31)) = ((y :: r).getD ((y :: r).length - 1) (Va.dflt t31)) := by simp
        rw [e]
        rcases List.mem_cons.1 hw with rfl | hw
        · exact Int.le_of_lt (i1 _ (getD_memA (by simp)))
        · exact i2 w hw

theorem LB.del {n : Nat} {l : List Ver} (h : LB n l) (p : Nat) : LB n (l.take p ++ l.drop (p + 1)) :=
  ⟨by have := h.len; rw [List.length_append, List.length_take, List.length_drop]; omega, fun v hv => by
    rcases List.mem_append.1 hv with hv | hv
    · exact h.all v (List.mem_of_mem_take hv)
    · exact h.all v (List.mem_of_mem_drop hv)⟩
theorem LB.put {n : Nat} {l : List Ver} (h : LB n l) (p : Nat) {v : Ver} (hv : VB n v) : LB n (l.set p v) :=
  ⟨by have := h.len; rw [List.length_set]; omega, fun w hw => by
    rcases List.mem_or_eq_of_mem_set hw with hw | rfl
    · exact h.all w hw
    · exact hv⟩
theorem LB.app {n : Nat} {l : List Ver} (h : LB n l) {v : Ver} (hv : VB n v) (hl : l.length + 1 < n) : LB n (l ++ [v]) :=
  ⟨by simp; omega, fun w hw => by
    rcases List.mem_append.1 hw with hw | hw
    · exact h.all w hw
    · simp at hw; rw [hw]; exact hv⟩
theorem LB.nil {n : Nat} (h : 0 < n) : LB n [] := ⟨h, fun _ h => by simp at h⟩


theorem good_law {n : Nat} (hn : n ≤ 536870912) (h5 : 40 ≤ n) {v : Ver} {a b : Ob} (hv : VB n v) (ha : OB n a) (hb : OB n b) : f5.f n v a b = some (true, ()) := by
  change f5.S0 n v a b = _
  unfold f5.S0
  rw [awake hn h5, bnd_some, ver18 hn hv, bnd_some, ver19 hn h5 hv, bnd_some, sound20 hn ha, bnd_some, sound9 hn h5 ha, bnd_some, sameO21 hn ha.list, bnd_some, sameO12 hn ha.list, bnd_some]
  simp [hide_eq, bIf_eq]

theorem adds_law {n : Nat} (hn : n ≤ 536870912) (h5 : 40 ≤ n) {o : Ob} {v : Ver} (ho : OB n o) (hv : VB n v) (hlen : o.2.1.length + 1 < n) : f3.f n o v = some (true, ()) := by
  change f3.S0 n (f3.J1 n) o v = _
  have e1 : ∀ x t a b, f3.J1 n (x, t, a, b, ()) = f3.S1 n (f3.J2 n) x t a b := fun _ _ _ _ => rfl
  have e2 : ∀ x a b, f3.J2 n (x, a, b, ()) = f3.S2 n x a b := fun _ _ _ => rfl
  have hbare : OB n (o.1, (o.2.1 ++ [v], ())) := ⟨ho.key, ho.list.app hv hlen⟩
  have hfirst : OB n (o.1, ([v], ())) := ⟨ho.key, ⟨by simp; omega, fun w hw => by simp at hw; rw [hw]; exact hv⟩⟩
  unfold f3.S0
  rw [add8 hn ho hv, bnd_some, sound9 hn h5 hfirst, bnd_some, ris10 hn h5 ho.list, bnd_some]
  simp only [List.nil_append, List.length_nil, Nat.zero_add]
  rw [gIf_pos (by omega), gIf_pos (by omega)]
  simp only [hide_eq, bIf_eq, e1, f3.S1]
  have s1 : soundB (o.1, ([v], ())) = (keyB o.1 && verB v) := by
    unfold soundB risB chk; simp [chk]
  have s2 : soundB (o.1, (o.2.1 ++ [v], ())) = (keyB o.1 && risB (o.2.1 ++ [v])) := by
    unfold soundB; simp
  have hs := sound9 hn h5 hbare
  rw [s2, ris_append] at hs
  have hb := awake hn h5
  by_cases hok : keyB o.1 = true ∧ risB o.2.1 = true ∧ verB v = true
  · obtain ⟨k1, k2, k3⟩ := hok
    rw [k1, k2, k3] at hs
    rw [s1]
    simp only [k1, k2, k3, Bool.and_self, Bool.not_true, Bool.false_eq_true, if_false]
    rw [hs, bnd_some, hb, bnd_some]
    simp only [e2, f3.S2, hide_eq, bIf_eq, hb, bnd_some, Bool.true_and]
    have ha : addR o v = if 0 < o.2.1.length ∧ behB (o.2.1.getD (o.2.1.length - 1) (Va.dflt t31)) v = false then (zeroO, 18) else ((o.1, o.2.1 ++ [v], o.2.2), 0) := if_pos ⟨k1, k2, k3⟩
    by_cases hq : 0 < o.2.1.length ∧ behB (o.2.1.getD (o.2.1.length - 1) (Va.dflt t31)) v = false
    · rw [if_pos hq] at ha
      rw [ha, hq.2, decide_eq_false (by omega)]
      rfl
    · rw [if_neg hq] at ha
      rw [ha]
      have : (decide (o.2.1.length = 0) || behB (o.2.1.getD (o.2.1.length - 1) (Va.dflt t31)) v) = true := by
        by_cases hz : o.2.1.length = 0
        · rw [decide_eq_true hz]; rfl
        · cases hbb : behB (o.2.1.getD (o.2.1.length - 1) (Va.dflt t31)) v
          · exact absurd ⟨by omega, hbb⟩ hq
          · simp
      rw [this]
      have hso : f12.f n (o.1, (o.2.1 ++ [v], o.2.2)) (o.1, (o.2.1 ++ [v], ())) = some (true, ()) := by
        rw [sameO12 hn (ho.list.app hv hlen)]; exact congrArg (fun b => some (b, ())) (sameO_refl _)
      simp only [Bool.not_true, Bool.false_eq_true, if_false, if_true, hso, bnd_some]
      rfl
  · have ha : addR o v = (zeroO, 2) := if_neg hok
    rw [s1, ha]
    have hf : (keyB o.1 && verB v) = false ∨ risB o.2.1 = false := by
      cases hk : keyB o.1
      · exact .inl rfl
      · cases hr : risB o.2.1
        · exact .inr rfl
        · cases hw : verB v
          · exact .inl rfl
          · exact absurd ⟨hk, hr, hw⟩ hok
    rcases hf with hf | hf
    · rw [hf]; simp only [hb, bnd_some]; rfl
    · rw [hf]; simp only [hb, bnd_some]
      cases (keyB o.1 && verB v) <;> rfl

theorem finds_law {n : Nat} (hn : n ≤ 536870912) (h5 : 40 ≤ n) {o : Ob} (ho : OB n o) (id : Int) : f4.f n o id = some (true, ()) := by
  change f4.S0 n (f4.J1 n) o id = _
  have e1 : ∀ a b c d e f g, f4.J1 n (a, b, c, d, e, f, g, ()) = f4.S1 n a b c d e f g := fun _ _ _ _ _ _ _ => rfl
  have hl := ho.list.len
  have hb := awake hn h5
  obtain ⟨r1, r2, r3⟩ := plc_range o.2.1 id 0
  unfold f4.S0
  rw [find13 hn ho, bnd_some, lat14 hn ho, bnd_some, rep15 hn ho, bnd_some, sound9 hn h5 ho, bnd_some, place16 hn hl, bnd_some, hb, bnd_some]
  simp only [hide_eq, bIf_eq, gIf_eq, bnd_some]
  unfold findR latR repR
  cases hs : soundB o
  · rfl
  · have h1 := sound_len hs
    have hg : 0 ≤ ((o.2.1.length : Nat) : Int) - 1 ∧ ((o.2.1.length : Nat) : Int) - 1 < ((o.2.1.length : Nat) : Int) := ⟨by omega, by omega⟩
    have hv : ∀ k, k < o.2.1.length → f17.f n (o.2.1.getD k (Va.dflt t31)) (o.2.1.getD k (Va.dflt t31)) = some (true, ()) := fun k hk => by
      rw [sameV17 hn (ho.list.all _ (getD_memA hk)).tags.1, sameV_refl]
    rw [wrap_i64 (by omega)]
    simp only [Bool.not_true, Bool.false_eq_true, if_false, if_true, if_pos hg, show (((o.2.1.length : Nat) : Int) - 1).toNat = o.2.1.length - 1 by omega, hv _ (show o.2.1.length - 1 < o.2.1.length by omega), bnd_some, e1]
    unfold f4.S1
    simp only [hide_eq, bIf_eq, gIf_eq]
    by_cases h0 : plc o.2.1 id 0 < 0
    · simp only [if_pos h0, if_pos (show plc o.2.1 id 0 < 0 ∨ plc o.2.1 id 0 = (o.2.1.length : Int) - 1 from .inl h0), decide_eq_true h0]
      rfl
    · have hp : 0 ≤ plc o.2.1 id 0 ∧ plc o.2.1 id 0 < ((o.2.1.length : Nat) : Int) := ⟨by omega, r2⟩
      simp only [if_neg h0, decide_eq_false h0, Bool.false_eq_true, if_false, if_pos hp, hv _ (show (plc o.2.1 id 0).toNat < o.2.1.length by omega), bnd_some]
      by_cases h2 : plc o.2.1 id 0 = (o.2.1.length : Int) - 1
      · simp only [if_pos (show plc o.2.1 id 0 < 0 ∨ plc o.2.1 id 0 = (o.2.1.length : Int) - 1 from .inr h2), decide_eq_false (show ¬ plc o.2.1 id 0 < ((o.2.1.length : Nat) : Int) - 1 by omega)]
        rfl
      · have hw : 0 ≤ plc o.2.1 id 0 + 1 ∧ plc o.2.1 id 0 + 1 < ((o.2.1.length : Nat) : Int) := ⟨by omega, by omega⟩
        rw [wrap_i64 (by omega)]
        simp only [if_neg (show ¬ (plc o.2.1 id 0 < 0 ∨ plc o.2.1 id 0 = (o.2.1.length : Int) - 1) from not_or.2 ⟨h0, h2⟩), decide_eq_true (show plc o.2.1 id 0 < ((o.2.1.length : Nat) : Int) - 1 by omega), if_pos hw, show (plc o.2.1 id 0 + 1).toNat = (plc o.2.1 id 0).toNat + 1 by omega]
        change (if true = true then if true = true then some (made (o.2.1.getD ((plc o.2.1 id 0).toNat + 1) (Va.dflt t31)) == made (o.2.1.getD ((plc o.2.1 id 0).toNat + 1) (Va.dflt t31)), ()) else (some (false, ()) : Option f4.R) else some (false, ())) = _
        rw [beq_self_eq_true]
        rfl

theorem changes_law {n : Nat} (hn : n ≤ 536870912) (h5 : 40 ≤ n) {o : Ob} {v : Ver} (ho : OB n o) (id : Int) (hv : VB n v) : f6.f n o id v = some (true, ()) := by
  change f6.S0 n (f6.J1 n) o id v = _
  have e1 : ∀ a b c d e f, f6.J1 n (a, b, c, d, e, f, ()) = f6.S1 n a b c d e f := fun _ _ _ _ _ _ => rfl
  have hl := ho.list.len
  have hb := awake hn h5
  obtain ⟨r1, r2, r3⟩ := plc_range o.2.1 id 0
  obtain ⟨q1, q2, q3⟩ := plc_range o.2.1 v.1 0
  unfold f6.S0
  rw [era22 hn ho, bnd_some, chg23 hn ho hv, bnd_some, sound9 hn h5 ho, bnd_some, hb, bnd_some, place16 hn hl, bnd_some, place16 hn hl, bnd_some]
  simp only [hide_eq, bIf_eq, gIf_eq, bnd_some, List.nil_append, List.length_nil, Nat.zero_add, List.drop_zero, Int.toNat_natCast]
  cases hs : soundB o
  · have x1 : eraR o id = (zeroO, 2) := by unfold eraR; rw [hs]; rfl
    have x2 : chgR o v = (zeroO, 2) := by unfold chgR; rw [hs]; rfl
    rw [x1, x2]
    rfl
  · have h1 := sound_len hs
    have hS1 : f6.S1 n (chgR o v).2 (plc o.2.1 v.1 0) o v (chgR o v).1 (o.1, (o.2.1, ())) = some (true, ()) := by
      unfold f6.S1
      rw [ver19 hn h5 hv, bnd_some]
      simp only [hide_eq, bIf_eq, gIf_eq, hb, bnd_some, Nat.zero_add]
      cases hw : verB v
      · have ha : chgR o v = (zeroO, 2) := if_neg (fun h => by rw [hw] at h; exact Bool.noConfusion h.2)
        rw [ha]; rfl
      · unfold chgR
        simp only [hs, hw, and_self, if_true, Bool.not_true, Bool.false_eq_true, if_false, decide_eq_true_eq]
        by_cases h0 : plc o.2.1 v.1 0 < 0
        · simp only [if_pos h0]; rfl
        · have hp : 0 ≤ plc o.2.1 v.1 0 ∧ plc o.2.1 v.1 0 < ((o.2.1.length : Nat) : Int) := ⟨by omega, q2⟩
          simp only [if_neg h0, if_pos hp]
          by_cases hm : made (o.2.1.getD (plc o.2.1 v.1 0).toNat (Va.dflt t31)) = made v
          · have hso : f12.f n (o.1, (o.2.1.set (plc o.2.1 v.1 0).toNat v, o.2.2)) (o.1, (o.2.1.set (plc o.2.1 v.1 0).toNat v, ())) = some (true, ()) := by
              rw [sameO12 hn (ho.list.put _ hv)]; exact congrArg (fun b => some (b, ())) (sameO_refl _)
            rw [if_neg (c := (_ != _) = true) (by rw [bne_iff_ne]; exact fun h => h hm)]
            simp only [if_pos hm, hso, bnd_some]
            rfl
          · rw [if_pos (c := (_ != _) = true) (by rw [bne_iff_ne]; exact hm)]
            simp only [if_neg hm]
            rfl
    rw [if_pos (c := o.2.1.length * 120 ≤ 70368744177664) (by omega)]
    simp only [Bool.not_true, Bool.false_eq_true, if_false, decide_eq_true_eq, e1]
    have hS1' : f6.S1 n (chgR o v).2 (plc o.2.1 v.1 0) o v ((chgR o v).1.1, ((chgR o v).1.2.1, (chgR o v).1.2.2)) (o.1, (o.2.1, ())) = some (true, ()) := hS1
    rw [hS1']
    unfold eraR
    simp only [hs, if_true]
    by_cases h0 : plc o.2.1 id 0 < 0
    · simp only [if_pos h0]; rfl
    · obtain ⟨p, hp⟩ : ∃ p : Nat, plc o.2.1 id 0 = (p : Int) := ⟨(plc o.2.1 id 0).toNat, by omega⟩
      rw [hp] at r2 h0 ⊢
      rw [wrap_i64 (by omega), show ((p : Int) + 1) = ((p + 1 : Nat) : Int) by omega]
      simp only [if_neg h0, Int.toNat_natCast, List.take_length]
      have hso : f12.f n (o.1, (o.2.1.take p ++ o.2.1.drop (p + 1), o.2.2)) (o.1, (o.2.1.take p ++ o.2.1.drop (p + 1), ())) = some (true, ()) := by
        rw [sameO12 hn (ho.list.del p)]; exact congrArg (fun b => some (b, ())) (sameO_refl _)
      rw [hso, bnd_some]
      have c1 : 0 ≤ (p : Int) ∧ (p : Int) ≤ ((o.2.1.length : Nat) : Int) := ⟨by omega, by omega⟩
      have c2 : (0 : Int) ≤ 0 ∧ 0 ≤ (p : Int) := ⟨by omega, by omega⟩
      have c3 : (o.2.1.take p).length * 120 ≤ 70368744177664 := by rw [List.length_take]; omega
      have c4 : 0 ≤ ((o.2.1.length : Nat) : Int) ∧ ((o.2.1.length : Nat) : Int) ≤ ((o.2.1.length : Nat) : Int) := ⟨by omega, by omega⟩
      have c5 : 0 ≤ ((p + 1 : Nat) : Int) ∧ ((p + 1 : Nat) : Int) ≤ ((o.2.1.length : Nat) : Int) := ⟨by omega, by omega⟩
      have c6 : ((o.2.1.take p).length + (o.2.1.drop (p + 1)).length) * 120 ≤ 70368744177664 := by rw [List.length_take, List.length_drop]; omega
      simp only [if_pos c1, if_pos c2, if_pos c3, if_pos c4, if_pos c5, if_pos c6]
      rfl

theorem back_law {n : Nat} (hn : n ≤ 536870912) (h5 : 40 ≤ n) {o : Ob} {v : Ver} (ho : OB n o) (hv : VB n v) (hlen : o.2.1.length + 1 < n) : f7.f n o v = some (true, ()) := by
  change f7.S0 n (f7.J1 n) o v = _
  have e1 : ∀ a b c, f7.J1 n (a, b, c, ()) = f7.S1 n a b c := fun _ _ _ => rfl
  have hb := awake hn h5
  unfold f7.S0
  rw [add8 hn ho hv, bnd_some, hb, bnd_some]
  simp only [hide_eq, bIf_eq, bnd_some, e1]
  unfold addR
  by_cases hok : keyB o.1 = true ∧ risB o.2.1 = true ∧ verB v = true
  · rw [if_pos hok]
    by_cases hq : 0 < o.2.1.length ∧ behB (o.2.1.getD (o.2.1.length - 1) (Va.dflt t31)) v = false
    · rw [if_pos hq]; rfl
    · rw [if_neg hq]
      obtain ⟨k1, k2, k3⟩ := hok
      have hx : OB n (o.1, (o.2.1 ++ [v], o.2.2)) := ⟨ho.key, ho.list.app hv hlen⟩
      have hbe : (decide (o.2.1.length = 0) || behB (o.2.1.getD (o.2.1.length - 1) (Va.dflt t31)) v) = true := by
        by_cases hz : o.2.1.length = 0
        · rw [decide_eq_true hz]; rfl
        · cases hbb : behB (o.2.1.getD (o.2.1.length - 1) (Va.dflt t31)) v
          · exact absurd ⟨by omega, hbb⟩ hq
          · simp
      have hs : soundB (o.1, (o.2.1 ++ [v], o.2.2)) = true := by
        have hr : risB (o.2.1 ++ [v]) = true := by rw [ris_append, k2, k3, hbe]; rfl
        unfold soundB
        simp [k1, hr]
      have hp : plc (o.2.1 ++ [v]) v.1 0 = (o.2.1.length : Int) := by
        unfold plc
        have : (o.2.1 ++ [v]).findIdx? (fun w => w.1 == v.1) = some o.2.1.length := by
          refine List.findIdx?_eq_some_iff_getElem.2 ⟨by simp, by simp, fun j hj => ?_⟩
          rw [List.getElem_append_left hj]
          have hz : ¬ o.2.1.length = 0 := by omega
          rw [decide_eq_false hz, Bool.false_or] at hbe
          unfold behB at hbe
          rw [Bool.and_eq_true, decide_eq_true_eq] at hbe
          have := (ris_ids o.2.1 none k2).2 _ (List.getElem_mem hj)
          have hlt : (o.2.1[j]).1 < v.1 := Int.lt_of_le_of_lt this hbe.1
          intro heq
          exact absurd (beq_iff_eq.1 heq) (Int.ne_of_lt hlt)
        simp only [List.drop_zero, this]
        simp
      have hgv : (o.2.1 ++ [v]).getD o.2.1.length (Va.dflt t31) = v := by
        rw [List.getD_eq_getElem?_getD, List.getElem?_append_right (Nat.le_refl _)]; simp
      have y1 : eraR (o.1, (o.2.1 ++ [v], o.2.2)) v.1 = (o, 0) := by
        unfold eraR
        rw [if_pos hs]
        simp only [hp]
        rw [if_neg (by omega)]
        simp
      have y2 : chgR (o.1, (o.2.1 ++ [v], o.2.2)) v = ((o.1, (o.2.1 ++ [v], o.2.2)), 0) := by
        unfold chgR
        rw [if_pos ⟨hs, k3⟩]
        simp only [hp, Int.toNat_natCast, hgv]
        rw [if_neg (by omega)]
        simp
      have y3 : latR (o.1, (o.2.1 ++ [v], o.2.2)) = (v, 0) := by
        unfold latR
        rw [if_pos hs]
        simp only [List.length_append, List.length_singleton, Nat.add_sub_cancel, hgv]
      have z1 := era22 hn hx v.1
      have z2 := chg23 hn hx hv
      have z3 := lat14 hn hx
      rw [y1] at z1
      rw [y2] at z2
      rw [y3] at z3
      have z4 := sound20 hn hx
      rw [hs] at z4
      have w1 : f12.f n o o = some (true, ()) := by rw [sameO12 hn ho.list, sameO_refl]
      have w2 : f12.f n (o.1, (o.2.1 ++ [v], o.2.2)) (o.1, (o.2.1 ++ [v], o.2.2)) = some (true, ()) := by rw [sameO12 hn hx.list, sameO_refl]
      have w3 : f17.f n v v = some (true, ()) := by rw [sameV17 hn hv.tags.1, sameV_refl]
      have w1' : f12.f n (o.1, (o.2.1, o.2.2)) o = some (true, ()) := w1
      change (if (!true) = true then _ else if (((0 : Int) != 0) = true) then _ else f7.S1 n o v (o.1, (o.2.1 ++ [v], o.2.2))) = _
      rw [if_neg (by simp), if_neg (by simp)]
      unfold f7.S1
      dsimp only
      rw [z1, bnd_some]
      dsimp only
      rw [z2, bnd_some]
      dsimp only
      rw [z3, bnd_some]
      dsimp only
      rw [w1', bnd_some]
      dsimp only
      rw [w2, bnd_some]
      dsimp only
      rw [w3, bnd_some]
      dsimp only
      rw [z4, bnd_some]
      simp only [hide_eq, bIf_eq]
      rfl
  · rw [if_neg hok]; rfl
end Go.Proofs.YtnlckhekcklcpaaDoor

namespace Go.Proofs.YtnlckhekcklcpaaDoor
open Go Go.Va Go.Proofs Go.ChangeShapes Go.WideShapes Go.ChangeAt Go.RowKit

theorem kids : Kids Tryd.prog (· < Tryd.prog.types.size) := kids_rows (by kernel_rfl) (by kernel_rfl)
theorem full : ∀ t e, t < Tryd.prog.types.size → Tryd.prog.underlying t = some (.slice e) → 0 < Tryd.prog.cellsOf e := slices_full_of Tryd.prog (by kernel_rfl)
theorem own : ownKnob Tryd.prog.godebug = none := by kernel_rfl

mutual
theorem bulk_eq {H : Type} : ∀ (d : DataW H), Rows.uptoBulk d = bulk d
  | .lit l => by cases l <;> simp [Rows.uptoBulk, bulk]
  | .nil => by simp [Rows.uptoBulk, bulk]
  | .ptr d => by simp [Rows.uptoBulk, bulk, bulk_eq d]
  | .slice elems spare => by simp [Rows.uptoBulk, bulk, bulkL_eq elems, bulkL_eq spare]
  | .agg parts => by simp [Rows.uptoBulk, bulk, bulkL_eq parts]
  | .iface _ d => by simp [Rows.uptoBulk, bulk, bulk_eq d]
  | .map entries => by simp [Rows.uptoBulk, bulk, bulkE_eq entries]
  | .held _ => by simp [Rows.uptoBulk, bulk]
theorem bulkL_eq {H : Type} : ∀ (l : List (DataW H)), Rows.uptoBulkAll l = bulkL l
  | [] => by simp [Rows.uptoBulkAll, bulkL]
  | d :: r => by simp [Rows.uptoBulkAll, bulkL, bulk_eq d, bulkL_eq r]
theorem bulkE_eq {H : Type} : ∀ (l : List (Lit × DataW H)), Rows.uptoBulkEntries l = bulkE l
  | [] => by simp [Rows.uptoBulkEntries, bulkE]
  | x :: r => by simp [Rows.uptoBulkEntries, bulkE, bulkX_eq x, bulkE_eq r]
theorem bulkX_eq {H : Type} : ∀ (x : Lit × DataW H), Rows.uptoBulkEntry x = bulkX x
  | (l, d) => by cases l <;> simp [Rows.uptoBulkEntry, bulkX, bulk_eq d]
end

theorem small_of {H : Type} {ds gs : List (DataW H)} (h : Rows.uptoSmall H (ds ++ gs) = true) : bulkL ds ≤ 1048576 := by
  have h := of_decide_eq_true h
  rw [bulkL_eq, bulkL_append] at h
  omega

/-! The room: what a datum's volume gives. -/
theorem vol_mem {e : Ty} {l : List (Den e)} {x : Den e} (h : x ∈ l) : vol e x ≤ (l.map (vol e)).sum := by
  induction l with
  | nil => simp at h
  | cons y l ih =>
    rw [List.map_cons, List.sum_cons]
    rcases List.mem_cons.1 h with rfl | h
    · omega
    · have := ih h; omega
theorem vol_len {e : Ty} {l : List (Den e)} (h : ∀ x ∈ l, 1 ≤ vol e x) : l.length ≤ (l.map (vol e)).sum := by
  induction l with
  | nil => simp
  | cons y l ih =>
    rw [List.map_cons, List.sum_cons, List.length_cons]
    have h1 := h y List.mem_cons_self
    have h2 := ih (fun x hx => h x (List.mem_cons_of_mem _ hx))
    omega
theorem vol65 (t : Den t65) : vol t65 t = t.1.size + 1 + (t.2.1.size + 1) := rfl
theorem vol31 (v : Ver) : vol t31 v = 1 + (1 + (1 + (1 + ((((dig v).map (vol (.int .u8))).sum + 1) + (1 + (vol t28 (lock v) + ((((tags v).map (vol t65)).sum + 1) + 0))))))) := rfl
theorem vol23 (o : Ob) : vol t23 o = o.1.size + 1 + (((o.2.1.map (vol t31)).sum + 1) + 0) := rfl
theorem VB_of {n : Nat} {v : Ver} (hw : Wf t31 v) (h : vol t31 v < n) : VB n v := by
  rw [vol31] at h
  obtain ⟨w1, w2, w3, w4, w5, w6, w7, w8, w9⟩ := hw
  have hl : (tags v).length ≤ ((tags v).map (vol t65)).sum := vol_len (fun x _ => by rw [vol65]; omega)
  exact ⟨w1.1, w4.1, w5.1, ⟨by omega, fun t ht => by have := vol_mem (e := t65) ht; rw [vol65] at this; exact ⟨by omega, by omega⟩⟩⟩
theorem OB_of {n : Nat} {o : Ob} (hw : Wf t23 o) (h : vol t23 o < n) : OB n o ∧ o.2.1.length + 1 < n := by
  rw [vol23] at h
  obtain ⟨w1, w2, w3⟩ := hw
  have hl : o.2.1.length ≤ (o.2.1.map (vol t31)).sum := vol_len (fun x _ => by rw [vol31]; omega)
  exact ⟨⟨by omega, ⟨by omega, fun v hv => VB_of (w2.2 v hv) (by have := vol_mem (e := t31) hv; omega)⟩⟩, by omega⟩

/-! The two tables. -/
theorem acc_eq : (Rows.laid_unicode_utf8_acceptRanges : DataW Unit) = Lib.acceptData := by kernel_rfl
theorem fst_eq : Rows.laid_unicode_utf8_first = Lib.firstData := by kernel_rfl
theorem tabs_of {W : World} (h3 : Lib.VarReads Tryd.prog W "unicode/utf8.first" Lib.firstData) (h4 : Lib.VarReads Tryd.prog W "unicode/utf8.acceptRanges" Lib.acceptData) : Lib.Utf8Tabs 0 1 W :=
  utf8Tabs_of_readsT (U8Types.of196 Tryd.laysValid) ⟨by kernel_rfl, by kernel_rfl, by kernel_rfl, by kernel_rfl, by kernel_rfl, by kernel_rfl, by kernel_rfl⟩ h3 h4
theorem live_of {W : World} {b o : Nat} {v : Value} (h : W.cell? ⟨b, o, none⟩ = some v) : b < W.heap.size := by
  rcases Nat.lt_or_ge b W.heap.size with hb | hb
  · exact hb
  · have : W.heap[b]? = none := Array.getElem?_eq_none hb
    simp [World.cell?, this] at h
theorem gl_of {W : World} (h : Lib.Utf8Tabs 0 1 W) : ∀ p ∈ Gl.tab, p.1 < W.heap.size ∧ At W ⟨p.1, 0, none⟩ p.2 := by
  obtain ⟨h0, h1⟩ := h
  intro p hp
  have hp : p = (0, firstCells) ∨ p = (1, acceptCells) := by simpa [Gl.tab] using hp
  rcases hp with rfl | rfl
  · refine ⟨live_of (h0 0 (by omega)), rfl, fun j hj => ?_⟩
    have hj2 : j < 256 := by simpa [firstCells, Lib.firstTab] using hj
    simp only [Nat.zero_add]
    rw [h0 j hj2]
    simp [firstCells, Lib.firstTab]
  · refine ⟨live_of (h1 0 (by omega)).1, rfl, fun j hj => ?_⟩
    have hl : acceptCells.length = 32 := by kernel_rfl
    have hj2 : j < 32 := by rw [← hl]; exact hj
    simp only [Nat.zero_add]
    obtain ⟨e0, e1⟩ := acc_get (j / 2) (by omega)
    obtain ⟨c0, c1⟩ := h1 (j / 2) (by omega)
    rcases Nat.mod_two_eq_zero_or_one j with hm | hm
    · have ej : j = 2 * (j / 2) := by omega
      rw [show (⟨1, j, none⟩ : Addr) = ⟨1, 2 * (j / 2), none⟩ by rw [← ej], c0, ← e0, ← ej, List.getElem?_eq_getElem hj]
    · have ej : j = 2 * (j / 2) + 1 := by omega
      rw [show (⟨1, j, none⟩ : Addr) = ⟨1, 2 * (j / 2) + 1, none⟩ by rw [← ej], c1, ← e1, ← ej, List.getElem?_eq_getElem hj]

/-- A world for the witness: the tables as their initialisers lay them. -/
noncomputable def laidWorld (os : Os) : World :=
  let w0 := World.holding Tryd.prog os ⟨#[], #[], []⟩
  let put (h : Array Obj) (g : Nat) (cs : Array Value) : Array Obj := h.modify g fun
    | .cells _ t frozen => .cells cs t frozen
    | o => o
  let h1 := put w0.heap 0 firstCells.toArray
  let h2 := put h1 1 acceptCells.toArray
  { w0 with heap := h2 }
set_option maxRecDepth 100000 in
theorem laid_met (os : Os) (args : Array Value) : laidMet Tryd.prog Rows.objectAddsRow.laid ((laidWorld os).forCall (fun _ _ => 0) ⟨#[], args, []⟩).memory :=
  (LaidIn.of_run (l := [("unicode/utf8.acceptRanges", Lib.acceptData), ("unicode/utf8.first", Lib.firstData)]) [0, 1] 8 (by kernel_rfl) (by kernel_rfl) (by kernel_rfl) (by kernel_rfl)).met

set_option maxRecDepth 100000 in
def zV : Array Value := #[Value.int IntKind.u64 0, Value.bool false, Value.int IntKind.i64 0, Value.int IntKind.u64 0,
  Value.int IntKind.u8 0, Value.int IntKind.u8 0, Value.int IntKind.u8 0, Value.int IntKind.u8 0,
  Value.int IntKind.u8 0, Value.int IntKind.u8 0, Value.int IntKind.u8 0, Value.int IntKind.u8 0,
  Value.int IntKind.u8 0, Value.int IntKind.u8 0, Value.int IntKind.u8 0, Value.int IntKind.u8 0,
  Value.int IntKind.u8 0, Value.int IntKind.u8 0, Value.int IntKind.u8 0, Value.int IntKind.u8 0,
  Value.int IntKind.u8 0, Value.int IntKind.u8 0, Value.int IntKind.u8 0, Value.int IntKind.u8 0,
  Value.int IntKind.u8 0, Value.int IntKind.u8 0, Value.int IntKind.u8 0, Value.int IntKind.u8 0,
  Value.int IntKind.u8 0, Value.int IntKind.u8 0, Value.int IntKind.u8 0, Value.int IntKind.u8 0,
  Value.int IntKind.u8 0, Value.int IntKind.u8 0, Value.int IntKind.u8 0, Value.int IntKind.u8 0,
  Value.int IntKind.i64 0, Value.int IntKind.i64 0, Value.int IntKind.i64 0, Value.bool false, Value.slice none 0 0]
def zO : Array Value := #[Value.string ⟨#[]⟩, Value.slice none 0 0]
def dV {H : Type} : DataW H := .agg [.lit (.int .u64 0), .lit (.bool false), .lit (.int .i64 0), .lit (.int .u64 0), .agg (List.replicate 32 (.lit (.int .u8 0))), .lit (.int .i64 0), .agg [.lit (.int .i64 0), .lit (.int .i64 0), .lit (.bool false)], .nil]
def dO {H : Type} : DataW H := .agg [.lit (.string []), .nil]
end Go.Proofs.YtnlckhekcklcpaaDoor

