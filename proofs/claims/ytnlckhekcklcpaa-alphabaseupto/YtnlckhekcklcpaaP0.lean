/-
  The plain laws.
-/
import Derived.Test.YtnlckhekcklcpaaVaPlain
import Derived.Test.YtnlckhekcklcpaaF0
import Derived.Test.YtnlckhekcklcpaaRows
import Derived.JoinedCond
import Derived.ChangeCalls
set_option linter.unusedVariables false
set_option linter.unusedSimpArgs false
namespace Go.Proofs.Ytnlckhekcklcpaa
open Go Go.Va Go.Proofs Go.ChangeShapes Go.WideShapes Go.ChangeAt Go.RowKit

theorem kids : Kids Try.prog (· < Try.prog.types.size) := kids_rows (by kernel_rfl) (by kernel_rfl)
theorem full : ∀ t e, t < Try.prog.types.size → Try.prog.underlying t = some (.slice e) → 0 < Try.prog.cellsOf e := slices_full_of Try.prog (by kernel_rfl)
theorem own : ownKnob Try.prog.godebug = none := by kernel_rfl

mutual
theorem bulk_eq {H : Type} : ∀ (d : DataW H), Rows.uptoBulk d = bulk d
  | .lit l => by cases l <;> simp [Rows.uptoBulk, bulk]
  | .nil => by simp [Rows.uptoBulk, bulk]
  | .ptr d => by simp [Rows.uptoBulk, bulk, bulk_eq d]
  | .slice elems spare => by simp [Rows.uptoBulk, bulk, bulkL_eq elems, bulkL_eq spare]
  | .agg parts => by simp [Rows.uptoBulk, bulk, bulkL_eq parts]
  | .iface _ d => by simp [Rows.uptoBulk, bulk, bulk_eq d]
  | .map entries => by simp [Rows.uptoBulk, bulk, bulkE_eq entries]
  | .held _ => by simp [Rows.uptoBulk, bulk]
theorem bulkL_eq {H : Type} : ∀ (l : List (DataW H)), Rows.uptoBulkAll l = bulkL l
  | [] => by simp [Rows.uptoBulkAll, bulkL]
  | d :: r => by simp [Rows.uptoBulkAll, bulkL, bulk_eq d, bulkL_eq r]
theorem bulkE_eq {H : Type} : ∀ (l : List (Lit × DataW H)), Rows.uptoBulkEntries l = bulkE l
  | [] => by simp [Rows.uptoBulkEntries, bulkE]
  | x :: r => by simp [Rows.uptoBulkEntries, bulkE, bulkX_eq x, bulkE_eq r]
theorem bulkX_eq {H : Type} : ∀ (x : Lit × DataW H), Rows.uptoBulkEntry x = bulkX x
  | (l, d) => by cases l <;> simp [Rows.uptoBulkEntry, bulkX, bulk_eq d]
end

theorem small_of {H : Type} {ds gs : List (DataW H)} (h : Rows.uptoSmall H (ds ++ gs) = true) : bulkL ds ≤ 1048576 := by
  have h := of_decide_eq_true h
  rw [bulkL_eq, bulkL_append] at h
  omega
end Go.Proofs.Ytnlckhekcklcpaa

namespace Go.Proofs.Ytnlckhekcklcpaa
open Go Go.Va Go.Proofs
theorem awake_ok (k : Nat) : f10.f (k + 40) = some (true, ()) := by kernel_rfl
end Go.Proofs.Ytnlckhekcklcpaa

namespace Go.Proofs.Ytnlckhekcklcpaa
open Go Go.Va Go.Proofs

abbrev H16 : ByteArray := ⟨#[48, 49, 50, 51, 52, 53, 54, 55, 56, 57, 97, 98, 99, 100, 101, 102]⟩

/-- 'place' is the first index. -/
theorem place_J (n : Nat) (s : ByteArray) (b : Int) (hb : 0 ≤ b ∧ b ≤ 255) (hs : s.size ≤ 9223372036854775807) : ∀ (m k : Nat), k ≤ s.size → s.size - k < m →
    f23.J1 n m (s, b, (k : Int), ()) = some ((if Lib.indexByte (s.data.toList.drop k) b.toNat.toUInt8 = -1 then -1 else (k : Int) + Lib.indexByte (s.data.toList.drop k) b.toNat.toUInt8), ())
  | 0, k, _, h => by omega
  | m + 1, k, hk, h => by
    have hsz := size_eq s
    change f23.S1 n (f23.J1 n m) (f23.J2 n) s b (k : Int) = _
    unfold f23.S1
    by_cases hlt : k < s.size
    · rw [if_pos (decide_eq_true (by omega)), if_pos ⟨by omega, by omega⟩]
      have hd : s.data.toList.drop k = s.data.toList[k] :: s.data.toList.drop (k + 1) := List.drop_eq_getElem_cons (by omega)
      have hbt : bt s (k : Int) = (s.data.toList[k].toNat : Int) := by
        unfold bt
        rw [Int.toNat_natCast, List.getD_eq_getElem?_getD, List.getElem?_eq_getElem (by omega)]; rfl
      rw [hd, hbt]
      have hiff : (((s.data.toList[k].toNat : Int) == b) = true) ↔ ((s.data.toList[k] == b.toNat.toUInt8) = true) := by
        rw [beq_iff_eq, beq_iff_eq]
        constructor
        · intro e
          apply UInt8.toNat_inj.1
          rw [← e]
          simp
        · intro e
          rw [e]
          have : b.toNat.toUInt8.toNat = b.toNat := by
            change b.toNat % 256 = b.toNat
            omega
          rw [this]; omega
      unfold Lib.indexByte
      by_cases he : (s.data.toList[k] == b.toNat.toUInt8) = true
      · rw [if_pos (hiff.2 he), if_pos he]
        simp
        rfl
      · rw [if_neg (fun hh => he (hiff.1 hh)), if_neg he, wrap_i64 (by omega)]
        have := place_J n s b hb hs m (k + 1) (by omega) (by omega)
        rw [show (((k + 1 : Nat) : Int)) = (k : Int) + 1 by omega] at this
        rw [this]
        have hge := Lib.indexByte_ge (s.data.toList.drop (k + 1)) b.toNat.toUInt8
        generalize Lib.indexByte (s.data.toList.drop (k + 1)) b.toNat.toUInt8 = j at hge ⊢
        by_cases hi : j = -1
        · subst hi; rfl
        · have e1 : (if (j == -1) = true then -1 else j + 1) = j + 1 := if_neg (by simpa using hi)
          rw [if_neg hi, e1, if_neg (by omega)]
          congr 2; omega
    · rw [if_neg (by simp; omega)]
      have : k = s.size := by omega
      subst this
      rw [hsz, List.drop_length]
      rfl

theorem place_eq {n : Nat} {s : ByteArray} {b : Int} (hb : 0 ≤ b ∧ b ≤ 255) (hs : s.size ≤ 9223372036854775807) (hn : s.size < n) : f23.f n s b = some (ix s b, ()) := by
  change f23.J1 n n (s, b, ((0 : Nat) : Int), ()) = _
  rw [place_J n s b hb hs n 0 (by omega) (by omega)]
  unfold ix
  simp only [List.drop_zero]
  split
  · rename_i h; rw [h]
  · simp
    rfl

/-- What a text of digits of sixteen is. -/
def unhex : List Int → Option (List Int)
  | a :: b :: r => if ix H16 a < 0 then none else if ix H16 b < 0 then none else (unhex r).map fun l => (ix H16 a * 16 + ix H16 b) :: l
  | [_] => none
  | [] => some []

def back (o : Option (List Int)) : List Int × Int × Unit :=
  match o with
  | some l => (l, 0, ())
  | none => ([], 5, ())

def pre (p : List Int) (o : Option (List Int)) : Option (List Int) := o.map (p ++ ·)

theorem byte_of {a b : Int} (ha : 0 ≤ a ∧ a < 16) (hb : 0 ≤ b ∧ b < 16) : IntKind.u8.wrap (bitI .or .i64 (shlI .i64 a 4) b) = a * 16 + b := by
  have e : shlI .i64 a 4 = a * 2 ^ 4 := by
    unfold shlI
    change IntKind.i64.wrap (a * 2 ^ 4) = _
    exact wrap_i64 (by omega)
  rw [e, or_low (by omega) ha.1 hb.1 (by change a * 2 ^ 4 + b < 2 ^ 63; omega), wrap_u8 (by omega)]
  omega

theorem unhex_J8 (n : Nat) (s : ByteArray) (hs : s.size ≤ 140737488355328) (he : s.size % 2 = 0) : ∀ (m k : Nat) (out : List Int), 2 * k ≤ s.size → s.size - 2 * k < 2 * m → out.length = k →
    f8.J1 n m (s, out, ((2 * k : Nat) : Int), ()) = some (back (pre out (unhex ((ofBytes s).drop (2 * k)))))
  | 0, k, out, _, h, _ => by omega
  | m + 1, k, out, hk, h, hl => by
    have hsz := size_of s
    change f8.S1 n (f8.J2 n (f8.J1 n m)) (f8.J4 n) s out ((2 * k : Nat) : Int) = _
    unfold f8.S1
    by_cases hlt : 2 * k < s.size
    · rw [if_pos (decide_eq_true (by omega)), if_pos ⟨by omega, by omega⟩]
      have hd : (ofBytes s).drop (2 * k) = (ofBytes s).getD (2 * k) 0 :: (ofBytes s).getD (2 * k + 1) 0 :: (ofBytes s).drop (2 * k + 1 + 1) := by
        rw [getD_drop (by omega), getD_drop (k := 2 * k + 1) (by omega)]
      rw [wrap_i64 (by omega)]
      have e1 : bt s ((2 * k : Nat) : Int) = (ofBytes s).getD (2 * k) 0 := by rw [bt_getD, Int.toNat_natCast]
      have e2 : bt s (((2 * k : Nat) : Int) + 1) = (ofBytes s).getD (2 * k + 1) 0 := by
        rw [bt_getD]; congr 1
      have h1 : f22.f H16 (bt s ((2 * k : Nat) : Int)) = some (ix H16 ((ofBytes s).getD (2 * k) 0), ()) := by rw [e1]; rfl
      have h2 : f22.f H16 (bt s (((2 * k : Nat) : Int) + 1)) = some (ix H16 ((ofBytes s).getD (2 * k + 1) 0), ()) := by rw [e2]; rfl
      rw [h1, h2, hd]
      simp only [bnd]
      rw [if_pos ⟨by omega, by omega⟩]
      have ra := ix_range H16 ((ofBytes s).getD (2 * k) 0)
      have rb := ix_range H16 ((ofBytes s).getD (2 * k + 1) 0)
      have h16 : (H16.size : Int) = 16 := rfl
      unfold unhex
      by_cases ha : ix H16 ((ofBytes s).getD (2 * k) 0) < 0
      · rw [if_pos (decide_eq_true ha), if_pos ha]; rfl
      · rw [if_neg (by simpa using ha), if_neg ha]
        by_cases hb : ix H16 ((ofBytes s).getD (2 * k + 1) 0) < 0
        · rw [if_pos (decide_eq_true hb), if_pos hb]; rfl
        · rw [if_neg (by simpa using hb), if_neg hb]
          change f8.S2 n (f8.J3 n (f8.J1 n m)) s out ((2 * k : Nat) : Int) (ix H16 ((ofBytes s).getD (2 * k) 0)) (ix H16 ((ofBytes s).getD (2 * k + 1) 0)) = _
          unfold f8.S2
          rw [if_pos (by omega)]
          change f8.S3 n (f8.J1 n m) s _ ((2 * k : Nat) : Int) = _
          unfold f8.S3
          rw [wrap_i64 (by omega), byte_of (by omega) (by omega)]
          have ih := unhex_J8 n s hs he m (k + 1) (out ++ [ix H16 ((ofBytes s).getD (2 * k) 0) * 16 + ix H16 ((ofBytes s).getD (2 * k + 1) 0)]) (by omega) (by omega) (by simp [hl])
          rw [show ((2 * (k + 1) : Nat) : Int) = ((2 * k : Nat) : Int) + 2 by omega] at ih
          rw [ih]
          rw [show 2 * (k + 1) = 2 * k + 1 + 1 by omega]
          congr 2
          unfold pre
          cases unhex ((ofBytes s).drop (2 * k + 1 + 1)) <;> simp
    · rw [if_neg (by simp; omega)]
      have : 2 * k = s.size := by omega
      rw [List.drop_of_length_le (by omega)]
      change f8.S4 n out = _
      unfold f8.S4
      simp [unhex, pre, back]
      rfl

theorem unhex_J9 (n : Nat) (s : ByteArray) (hs : s.size ≤ 140737488355328) (he : s.size % 2 = 0) (hn : 16 < n) : ∀ (m k : Nat) (out : List Int), 2 * k ≤ s.size → s.size - 2 * k < 2 * m → out.length = k →
    f9.J1 n m (s, out, ((2 * k : Nat) : Int), ()) = some (back (pre out (unhex ((ofBytes s).drop (2 * k)))))
  | 0, k, out, _, h, _ => by omega
  | m + 1, k, out, hk, h, hl => by
    have hsz := size_of s
    change f9.S1 n (f9.J2 n (f9.J1 n m)) (f9.J4 n) s out ((2 * k : Nat) : Int) = _
    unfold f9.S1
    rw [wrap_i64 (by omega)]
    by_cases hlt : 2 * k < s.size
    · rw [if_pos (decide_eq_true (by omega)), if_pos ⟨by omega, by omega⟩]
      have hd : (ofBytes s).drop (2 * k) = (ofBytes s).getD (2 * k) 0 :: (ofBytes s).getD (2 * k + 1) 0 :: (ofBytes s).drop (2 * k + 1 + 1) := by
        rw [getD_drop (by omega), getD_drop (k := 2 * k + 1) (by omega)]
      have e1 : bt s ((2 * k : Nat) : Int) = (ofBytes s).getD (2 * k) 0 := by rw [bt_getD, Int.toNat_natCast]
      have e2 : bt s (((2 * k : Nat) : Int) + 1) = (ofBytes s).getD (2 * k + 1) 0 := by
        rw [bt_getD]; congr 1
      have q1 := ofBytes_range (s := s) (getD_mem (l := ofBytes s) (k := 2 * k) (by omega))
      have q2 := ofBytes_range (s := s) (getD_mem (l := ofBytes s) (k := 2 * k + 1) (by omega))
      have h1 : f23.f n H16 (bt s ((2 * k : Nat) : Int)) = some (ix H16 ((ofBytes s).getD (2 * k) 0), ()) := by rw [e1]; exact place_eq q1 (by decide) hn
      have h2 : f23.f n H16 (bt s (((2 * k : Nat) : Int) + 1)) = some (ix H16 ((ofBytes s).getD (2 * k + 1) 0), ()) := by rw [e2]; exact place_eq q2 (by decide) hn
      rw [h1, h2, hd]
      simp only [bnd]
      rw [if_pos ⟨by omega, by omega⟩]
      have ra := ix_range H16 ((ofBytes s).getD (2 * k) 0)
      have rb := ix_range H16 ((ofBytes s).getD (2 * k + 1) 0)
      have h16 : (H16.size : Int) = 16 := rfl
      unfold unhex
      by_cases ha : ix H16 ((ofBytes s).getD (2 * k) 0) < 0
      · rw [if_pos (decide_eq_true ha), if_pos ha]; rfl
      · rw [if_neg (by simpa using ha), if_neg ha]
        by_cases hb : ix H16 ((ofBytes s).getD (2 * k + 1) 0) < 0
        · rw [if_pos (decide_eq_true hb), if_pos hb]; rfl
        · rw [if_neg (by simpa using hb), if_neg hb]
          change f9.S2 n (f9.J3 n (f9.J1 n m)) s out ((2 * k : Nat) : Int) (ix H16 ((ofBytes s).getD (2 * k) 0)) (ix H16 ((ofBytes s).getD (2 * k + 1) 0)) = _
          unfold f9.S2
          rw [if_pos (by omega)]
          change f9.S3 n (f9.J1 n m) s _ ((2 * k : Nat) : Int) = _
          unfold f9.S3
          rw [wrap_i64 (x := ((2 * k : Nat) : Int) + 2) (by omega), wrap_i64 (x := ix H16 ((ofBytes s).getD (2 * k) 0) * 16) (by omega), wrap_i64 (by omega), wrap_u8 (by omega)]
          have ih := unhex_J9 n s hs he hn m (k + 1) (out ++ [ix H16 ((ofBytes s).getD (2 * k) 0) * 16 + ix H16 ((ofBytes s).getD (2 * k + 1) 0)]) (by omega) (by omega) (by simp [hl])
          rw [show ((2 * (k + 1) : Nat) : Int) = ((2 * k : Nat) : Int) + 2 by omega] at ih
          rw [ih]
          rw [show 2 * (k + 1) = 2 * k + 1 + 1 by omega]
          congr 2
          unfold pre
          cases unhex ((ofBytes s).drop (2 * k + 1 + 1)) <;> simp
    · rw [if_neg (by simp; omega)]
      have : 2 * k = s.size := by omega
      rw [List.drop_of_length_le (by omega)]
      change f9.S4 n out = _
      unfold f9.S4
      simp [unhex, pre, back]
      rfl

theorem unhex_odd : ∀ (l : List Int), l.length % 2 = 1 → unhex l = none
  | [], h => by simp at h
  | [_], _ => rfl
  | a :: b :: r, h => by
    unfold unhex
    rw [unhex_odd r (by simp at h; omega)]
    simp

theorem Unhex_eq {n : Nat} {s : ByteArray} (hs : s.size ≤ 140737488355328) (hn : s.size < n) : f8.f n s = some (back (unhex (ofBytes s))) := by
  have hsz := size_of s
  have hm : Int.tmod (s.size : Int) 2 = ((s.size % 2 : Nat) : Int) := by rw [Int.tmod_eq_emod_of_nonneg (by omega)]; omega
  unfold f8.f f8.S0
  rw [hm]
  by_cases h : s.size % 2 = 0
  · rw [if_neg (by simp [h])]
    have := unhex_J8 n s hs h n 0 [] (by omega) (by omega) rfl
    rw [Nat.mul_zero] at this
    exact this.trans (by simp [pre]; rfl)
  · rw [if_pos (by simp; omega), unhex_odd _ (by omega)]; rfl

theorem refUnhex_eq {n : Nat} {s : ByteArray} (hs : s.size ≤ 140737488355328) (hn : s.size < n) (hn2 : 16 < n) : f9.f n s = some (back (unhex (ofBytes s))) := by
  have hsz := size_of s
  have hm : Int.tmod (s.size : Int) 2 = ((s.size % 2 : Nat) : Int) := by rw [Int.tmod_eq_emod_of_nonneg (by omega)]; omega
  unfold f9.f f9.S0
  rw [hm]
  by_cases h : s.size % 2 = 0
  · rw [if_neg (by simp [h])]
    have := unhex_J9 n s hs h hn2 n 0 [] (by omega) (by omega) rfl
    rw [Nat.mul_zero] at this
    exact this.trans (by simp [pre]; rfl)
  · rw [if_pos (by simp; omega), unhex_odd _ (by omega)]; rfl

end Go.Proofs.Ytnlckhekcklcpaa

namespace Go.Proofs.Ytnlckhekcklcpaa
open Go Go.Va Go.Proofs

abbrev L32 : ByteArray := ⟨#[97, 98, 99, 100, 101, 102, 103, 104, 105, 106, 107, 108, 109, 110, 111, 112, 113, 114, 115, 116, 117, 118, 119, 120, 121, 122, 50, 51, 52, 53, 54, 55]⟩
theorem L32_size : (⟨#[97, 98, 99, 100, 101, 102, 103, 104, 105, 106, 107, 108, 109, 110, 111, 112, 113, 114, 115, 116, 117, 118, 119, 120, 121, 122, 50, 51, 52, 53, 54, 55]⟩ : ByteArray).size = 32 := rfl

/-- The low bits of a number, the highest first. -/
def low : Nat → Int → List Int
  | 0, _ => []
  | w + 1, h => (h / 2 ^ w % 2) :: low w h

theorem low_length : ∀ (w : Nat) (h : Int), (low w h).length = w
  | 0, _ => rfl
  | w + 1, h => by simp [low, low_length w h]

theorem low_mod (h : Int) (m : Nat) : ∀ (w : Nat), w ≤ m → low w (h % 2 ^ m) = low w h
  | 0, _ => rfl
  | w + 1, hw => by
    simp only [low]
    rw [low_mod h m w (by omega)]
    congr 1
    have e : (2 : Int) ^ m = 2 ^ w * 2 ^ (m - w) := by rw [← Int.pow_add]; congr 1; omega
    have e2 : (2 : Int) ^ (m - w) = 2 * 2 ^ (m - w - 1) := by
      rw [show m - w = (m - w - 1) + 1 by omega, Int.pow_succ, Int.mul_comm]; congr 1
    have hp : (0 : Int) < 2 ^ w := Int.pow_pos (by decide)
    have hd : h % 2 ^ m = h + 2 ^ w * (-(2 ^ (m - w) * (h / 2 ^ m))) := by
      have := Int.emod_def h (2 ^ m)
      rw [this]
      conv => lhs; rw [show (2 : Int) ^ m * (h / 2 ^ m) = 2 ^ w * 2 ^ (m - w) * (h / 2 ^ m) by rw [← e]]
      rw [Int.mul_neg, Int.mul_assoc]; rfl
    rw [hd, Int.add_mul_ediv_left _ _ (by omega), e2]
    have : h / 2 ^ w + -(2 * 2 ^ (m - w - 1) * (h / 2 ^ m)) = h / 2 ^ w + 2 * -(2 ^ (m - w - 1) * (h / 2 ^ m)) := by
      rw [Int.mul_assoc, Int.mul_neg]
    rw [this, Int.add_mul_emod_self_left]

theorem low_append (h x : Int) (k : Nat) (hx : 0 ≤ x) (hx2 : x < 2 ^ k) : ∀ w : Nat, low (w + k) (h * 2 ^ k + x) = low w h ++ low k x
  | 0 => by
    simp only [Nat.zero_add, low, List.nil_append]
    have := low_mod (h * 2 ^ k + x) k k (Nat.le_refl k)
    rw [← this, Int.add_comm, Int.add_mul_emod_self_right, Int.emod_eq_of_lt hx hx2]
  | w + 1 => by
    rw [show w + 1 + k = (w + k) + 1 by omega]
    simp only [low, List.cons_append]
    rw [low_append h x k hx hx2 w]
    congr 1
    have hp : (0 : Int) < 2 ^ k := Int.pow_pos (by decide)
    rw [show w + k = k + w by omega, Int.pow_add, ← Int.ediv_ediv_of_nonneg (by omega), Int.add_comm, Int.add_mul_ediv_right _ _ (by omega), Int.ediv_eq_zero_of_lt hx hx2, Int.zero_add]

theorem div_pow (h : Int) (a b : Nat) : h / 2 ^ (a + b) = h / 2 ^ a / 2 ^ b := by
  rw [Int.pow_add, Int.ediv_ediv_of_nonneg (Int.le_of_lt (Int.pow_pos (by decide)))]

/-- Bits, five by five, as letters; noughts where the last five are not whole. -/
def enc5 : List Int → List Int
  | a :: b :: c :: d :: e :: r => bt L32 (16 * a + 8 * b + 4 * c + 2 * d + e) :: enc5 r
  | [] => []
  | [a] => [bt L32 (16 * a)]
  | [a, b] => [bt L32 (16 * a + 8 * b)]
  | [a, b, c] => [bt L32 (16 * a + 8 * b + 4 * c)]
  | [a, b, c, d] => [bt L32 (16 * a + 8 * b + 4 * c + 2 * d)]

def bitsL : List Int → List Int
  | [] => []
  | x :: r => low 8 x ++ bitsL r

theorem bitsL_length : ∀ l, (bitsL l).length = 8 * l.length
  | [] => rfl
  | x :: r => by simp [bitsL, bitsL_length r, low_length]; omega

theorem enc5_low (k : Nat) (h : Int) (r : List Int) : enc5 (low (k + 5) h ++ r) = bt L32 (h / 2 ^ k % 32) :: enc5 (low k h ++ r) := by
  simp only [low, List.cons_append, enc5]
  congr 2
  rw [div_pow h k 4, div_pow h k 3, div_pow h k 2, div_pow h k 1]
  generalize h / 2 ^ k = y
  omega

theorem enc5_rest (h : Int) : ∀ w : Nat, 0 < w → w < 5 → enc5 (low w h) = [bt L32 (h * 2 ^ (5 - w) % 32)]
  | 1, _, _ => by simp only [low, enc5]; congr 2; simp; omega
  | 2, _, _ => by simp only [low, enc5]; congr 2; simp; omega
  | 3, _, _ => by simp only [low, enc5]; congr 2; simp; omega
  | 4, _, _ => by simp only [low, enc5]; congr 2; simp; omega

def base (b : List Int) : List Int := enc5 (bitsL b)

theorem enc5_length : ∀ l : List Int, (enc5 l).length ≤ l.length
  | a :: b :: c :: d :: e :: r => by simp only [enc5, List.length_cons]; have := enc5_length r; omega
  | [] => by simp [enc5]
  | [a] => by simp [enc5]
  | [a, b] => by simp [enc5]
  | [a, b, c] => by simp [enc5]
  | [a, b, c, d] => by simp [enc5]

theorem base_length (b : List Int) : (base b).length ≤ 8 * b.length := by
  have := enc5_length (bitsL b); rw [bitsL_length] at this; exact this
end Go.Proofs.Ytnlckhekcklcpaa

namespace Go.Proofs.Ytnlckhekcklcpaa
open Go Go.Va Go.Proofs

theorem shl_or {h x : Int} {k : Nat} (hh : 0 ≤ h) (hk : k < 32) (hx : 0 ≤ x ∧ x < 2 ^ k) :
    bitI .or .u32 (shlI .u32 h (k : Int)) x = (h % 2 ^ (32 - k)) * 2 ^ k + x := by
  have e : shlI .u32 h (k : Int) = (h % 2 ^ (32 - k)) * 2 ^ k := by
    unfold shlI
    rw [wrap_u32_mod, Int.toNat_natCast, Nat.min_eq_left (by change k ≤ 32; omega)]
    have e4 : (4294967296 : Int) = 2 ^ (32 - k) * 2 ^ k := by rw [← Int.pow_add, show 32 - k + k = 32 by omega]; rfl
    rw [e4, Int.mul_comm h, Int.mul_comm (2 ^ (32 - k)) (2 ^ k), Int.mul_emod_mul_of_pos _ _ (Int.pow_pos (by decide)), Int.mul_comm]
  have hb := Int.emod_lt_of_pos h (show (0 : Int) < 2 ^ (32 - k) from Int.pow_pos (by decide))
  have hb0 := Int.emod_nonneg h (show (2 : Int) ^ (32 - k) ≠ 0 from Int.ne_of_gt (Int.pow_pos (by decide)))
  rw [e, or_low_u rfl (w := k) (by rw [Int.toNat_lt hx.1]; exact_mod_cast hx.2) hb0 hx.1]
  have e4 : (2 : Int) ^ IntKind.u32.bits = 2 ^ (32 - k) * 2 ^ k := by rw [← Int.pow_add, show 32 - k + k = 32 by omega]; rfl
  rw [e4]
  have : (h % 2 ^ (32 - k) + 1) * 2 ^ k ≤ 2 ^ (32 - k) * 2 ^ k := Int.mul_le_mul_of_nonneg_right (by omega) (Int.le_of_lt (Int.pow_pos (by decide)))
  rw [Int.add_mul] at this
  omega

theorem or_range {h x : Int} {k : Nat} (hk : k < 32) (hx : 0 ≤ x ∧ x < 2 ^ k) : 0 ≤ (h % 2 ^ (32 - k)) * 2 ^ k + x ∧ (h % 2 ^ (32 - k)) * 2 ^ k + x ≤ 4294967295 := by
  have hb := Int.emod_lt_of_pos h (show (0 : Int) < 2 ^ (32 - k) from Int.pow_pos (by decide))
  have hb0 := Int.emod_nonneg h (show (2 : Int) ^ (32 - k) ≠ 0 from Int.ne_of_gt (Int.pow_pos (by decide)))
  have hp : (0 : Int) < 2 ^ k := Int.pow_pos (by decide)
  have h1 := Int.mul_nonneg hb0 (Int.le_of_lt hp)
  have e4 : (4294967296 : Int) = 2 ^ (32 - k) * 2 ^ k := by rw [← Int.pow_add, show 32 - k + k = 32 by omega]; rfl
  have : (h % 2 ^ (32 - k) + 1) * 2 ^ k ≤ 2 ^ (32 - k) * 2 ^ k := Int.mul_le_mul_of_nonneg_right (by omega) (Int.le_of_lt hp)
  rw [Int.add_mul] at this
  omega

theorem low_push {h x : Int} {k w : Nat} (hk : k < 32) (hw : w ≤ 32 - k) (hx : 0 ≤ x ∧ x < 2 ^ k) : low (w + k) ((h % 2 ^ (32 - k)) * 2 ^ k + x) = low w h ++ low k x := by
  rw [low_append _ _ _ hx.1 hx.2, low_mod _ _ _ hw]

theorem base_step (n : Nat) (r1 : Dens f20.g1 → Option f20.R) (m : Nat) (out : List Int) (held : Int) (k : Nat) (t8 : List Int) (t9 t10 : Int) (hk : k ≤ 20) (h0 : 0 ≤ held ∧ held ≤ 4294967295) (ho : out.length ≤ 35184372088832) :
    f20.J2 n r1 (m + 1) (out, held, ((k + 5 : Nat) : Int), t8, t9, t10, ()) = f20.J2 n r1 m (out ++ [bt L32 (held / 2 ^ k % 32)], held, (k : Int), t8, t9, t10, ()) := by
  change f20.S2 n (f20.J2 n r1 m) (f20.J3 n r1) out held ((k + 5 : Nat) : Int) t8 t9 t10 = _
  unfold f20.S2
  rw [if_pos (decide_eq_true (by omega)), wrap_u64 (by omega), if_neg (by omega)]
  rw [show ((k + 5 : Nat) : Int) - 5 = (k : Int) by omega, shr_eq (by change k ≤ 32; omega)]
  have hpos : (0 : Int) < 2 ^ k := Int.pow_pos (by decide)
  have hd0 : 0 ≤ held / 2 ^ k := Int.ediv_nonneg h0.1 (by omega)
  have hd1 : held / 2 ^ k ≤ held := Int.ediv_le_self _ h0.1
  have e2 : bitI .and .u32 (held / 2 ^ k) 31 = held / 2 ^ k % 32 := and_mask (k := .u32) (w := 5) hd0 (by change _ < (4294967296 : Int); omega) (by decide)
  rw [e2, L32_size, if_pos ⟨by omega, by omega⟩, if_pos (by omega)]

theorem base_stop (n : Nat) (r1 : Dens f20.g1 → Option f20.R) (m : Nat) (out : List Int) (held : Int) (k : Nat) (t8 : List Int) (t9 t10 : Int) (hk : k < 5) (ht : 0 ≤ t10 ∧ t10 < 35184372088832) :
    f20.J2 n r1 (m + 1) (out, held, (k : Int), t8, t9, t10, ()) = r1 (out, held, (k : Int), t8, t9, t10 + 1, ()) := by
  change f20.S2 n (f20.J2 n r1 m) (f20.J3 n r1) out held (k : Int) t8 t9 t10 = _
  unfold f20.S2
  rw [if_neg (by simp; omega)]
  change f20.S3 n r1 out held (k : Int) t8 t9 t10 = _
  unfold f20.S3
  rw [wrap_i64 (by omega)]

theorem base_J1 (n : Nat) (b : List Int) (hb : ∀ x ∈ b, 0 ≤ x ∧ x ≤ 255) (hl : b.length ≤ 1099511627776) (hn : 3 ≤ n) : ∀ (m i : Nat) (out : List Int) (held : Int) (w : Nat), i ≤ b.length → b.length - i < m → out.length ≤ 2 * i →
    w < 5 → 0 ≤ held ∧ held ≤ 4294967295 →
    f20.J1 n m (out, held, (w : Int), b, ((b.length : Nat) : Int), (i : Int), ()) = some (bytesOf (out ++ enc5 (low w held ++ bitsL (b.drop i))), ())
  | 0, _, _, _, _, _, h, _, _, _ => by omega
  | m + 1, i, out, held, w, hi, hm, ho, hw, hh => by
    change f20.S1 n (f20.J2 n (f20.J1 n m) n) (f20.J4 n) out held (w : Int) b ((b.length : Nat) : Int) (i : Int) = _
    unfold f20.S1
    by_cases hlt : i < b.length
    · rw [if_pos (decide_eq_true (by omega)), if_pos ⟨by omega, by omega⟩, Int.toNat_natCast]
      obtain ⟨q1, q2⟩ := hb _ (getD_mem hlt)
      rw [getD_drop hlt]
      generalize b.getD i 0 = x at q1 q2 ⊢
      have hx : 0 ≤ x ∧ x < 2 ^ 8 := ⟨q1, by omega⟩
      rw [wrap_u32 (x := x) (by omega), wrap_u64 (by omega)]
      have e1 : bitI .or .u32 (shlI .u32 held 8) x = (held % 2 ^ 24) * 2 ^ 8 + x := shl_or (k := 8) hh.1 (by decide) hx
      have hr := or_range (h := held) (k := 8) (by decide) hx
      have hp : low (w + 8) ((held % 2 ^ 24) * 2 ^ 8 + x) = low w held ++ low 8 x := low_push (k := 8) (by decide) (by omega) hx
      rw [e1]
      simp only [bitsL]
      rw [← List.append_assoc, ← hp]
      change 0 ≤ held % 2 ^ 24 * 2 ^ 8 + x ∧ _ at hr
      generalize held % 2 ^ 24 * 2 ^ 8 + x = H at hr ⊢
      obtain ⟨n', rfl⟩ : ∃ n', n = n' + 3 := ⟨n - 3, by omega⟩
      rw [show (w : Int) + 8 = ((w + 3 + 5 : Nat) : Int) by omega]
      rw [base_step _ _ (n' + 2) out H (w + 3) _ _ _ (by omega) hr (by omega)]
      have hs : w + 8 = (w + 3) + 5 := by omega
      rw [hs, enc5_low]
      by_cases hw2 : w < 2
      · rw [base_stop _ _ (n' + 1) _ H (w + 3) _ _ _ (by omega) ⟨by omega, by omega⟩]
        have ih := base_J1 (n' + 3) b hb hl hn m (i + 1) (out ++ [bt L32 (H / 2 ^ (w + 3) % 32)]) H (w + 3) (by omega) (by omega) (by simp; omega) (by omega) hr
        rw [show (((i + 1 : Nat) : Int)) = (i : Int) + 1 by omega] at ih
        rw [ih]
        simp
        rfl
      · obtain ⟨w', rfl⟩ : ∃ w', w = w' + 2 := ⟨w - 2, by omega⟩
        rw [show ((w' + 2 + 3 : Nat) : Int) = ((w' + 5 : Nat) : Int) by omega]
        rw [base_step _ _ (n' + 1) _ H w' _ _ _ (by omega) hr (by simp; omega)]
        rw [base_stop _ _ n' _ H w' _ _ _ (by omega) ⟨by omega, by omega⟩]
        rw [show w' + 2 + 3 = w' + 5 by omega, enc5_low]
        have ih := base_J1 (n' + 3) b hb hl hn m (i + 1) (out ++ [bt L32 (H / 2 ^ (w' + 5) % 32)] ++ [bt L32 (H / 2 ^ w' % 32)]) H w' (by omega) (by omega) (by simp; omega) (by omega) hr
        rw [show (((i + 1 : Nat) : Int)) = (i : Int) + 1 by omega] at ih
        rw [ih]
        simp
        rfl
    · rw [if_neg (by simp; omega), List.drop_of_length_le (by omega)]
      simp only [bitsL, List.append_nil]
      change f20.S4 n (f20.J5 n) out held (w : Int) = _
      unfold f20.S4
      by_cases h0 : w = 0
      · subst h0
        rw [if_neg (by decide)]
        simp [low, enc5]
        rfl
      · rw [if_pos (decide_eq_true (by omega)), wrap_u64 (by omega), if_neg (by omega), L32_size]
        have e3 : shlI .u32 held (5 - (w : Int)) = held * 2 ^ (5 - w) % 4294967296 := by
          rw [show 5 - (w : Int) = ((5 - w : Nat) : Int) by omega]
          unfold shlI
          rw [wrap_u32_mod, Int.toNat_natCast, Nat.min_eq_left (by change 5 - w ≤ 32; omega)]
        have e2 : bitI .and .u32 (held * 2 ^ (5 - w) % 4294967296) 31 = held * 2 ^ (5 - w) % 4294967296 % 32 := and_mask (k := .u32) (w := 5) (by omega) (by change _ < (4294967296 : Int); omega) (by decide)
        rw [e3, e2, show held * 2 ^ (5 - w) % 4294967296 % 32 = held * 2 ^ (5 - w) % 32 by omega, if_pos ⟨by omega, by omega⟩, if_pos (by omega)]
        rw [enc5_rest held w (by omega) hw]
        rfl

theorem Base_eq {n : Nat} {b : List Int} (hb : ∀ x ∈ b, 0 ≤ x ∧ x ≤ 255) (hl : b.length ≤ 1099511627776) (hn : b.length + 3 ≤ n) : f20.f n b = some (bytesOf (base b), ()) := by
  have := base_J1 n b hb hl (by omega) n 0 [] 0 0 (by omega) (by omega) (by simp) (by decide) (by decide)
  exact this
end Go.Proofs.Ytnlckhekcklcpaa

namespace Go.Proofs.Ytnlckhekcklcpaa
open Go Go.Va Go.Proofs

theorem bits_inner (n : Nat) (r1 : Dens f24.g1 → Option f24.R) (b : List Int) (i : Nat) (hi : i < b.length) (hl : b.length ≤ 1099511627776) (hx : 0 ≤ b.getD i 0 ∧ b.getD i 0 ≤ 255) : ∀ (k m : Nat) (out : List Int), k ≤ 8 → k < m → out.length + k ≤ 8796093022208 →
    f24.J2 n r1 m (b, out, (i : Int), (k : Int) - 1, ()) = r1 (b, out ++ low k (b.getD i 0), (i : Int) + 1, ())
  | k, 0, _, _, h, _ => by omega
  | 0, m + 1, out, _, _, _ => by
    change f24.S2 n (f24.J2 n r1 m) (f24.J3 n r1) b out (i : Int) ((0 : Nat) - 1 : Int) = _
    unfold f24.S2
    rw [if_neg (by decide)]
    change f24.S3 n r1 b out (i : Int) = _
    unfold f24.S3
    rw [wrap_i64 (by omega)]
    simp [low]
  | k + 1, m + 1, out, hk, hm, ho => by
    change f24.S2 n (f24.J2 n r1 m) (f24.J3 n r1) b out (i : Int) (((k + 1 : Nat) : Int) - 1) = _
    unfold f24.S2
    rw [show ((k + 1 : Nat) : Int) - 1 = (k : Int) by omega]
    rw [if_pos (decide_eq_true (by omega)), if_pos ⟨by omega, by omega⟩, wrap_u64 (by omega), if_neg (by omega), if_pos (by omega), wrap_i64 (x := (k : Int) - 1) (by omega), Int.toNat_natCast]
    rw [bits_inner n r1 b i hi hl hx k m _ (by omega) (by omega) (by simp; omega)]
    have hpos : (0 : Int) < 2 ^ k := Int.pow_pos (by decide)
    have hd0 : 0 ≤ b.getD i 0 / 2 ^ k := Int.ediv_nonneg hx.1 (by omega)
    have hd1 : b.getD i 0 / 2 ^ k ≤ b.getD i 0 := Int.ediv_le_self _ hx.1
    rw [shr_eq (by change k ≤ 8; omega), wrap_i64 (by omega), Int.tmod_eq_emod_of_nonneg hd0]
    simp [low]

theorem bits_J1 (n : Nat) (b : List Int) (hb : ∀ x ∈ b, 0 ≤ x ∧ x ≤ 255) (hl : b.length ≤ 1099511627776) (hn : 9 ≤ n) : ∀ (m i : Nat) (out : List Int), i ≤ b.length → b.length - i < m → out.length = 8 * i →
    f24.J1 n m (b, out, (i : Int), ()) = some (out ++ bitsL (b.drop i), ())
  | 0, _, _, _, h, _ => by omega
  | m + 1, i, out, hi, hm, ho => by
    change f24.S1 n (f24.J2 n (f24.J1 n m) n) (f24.J4 n) b out (i : Int) = _
    unfold f24.S1
    by_cases hlt : i < b.length
    · rw [if_pos (decide_eq_true (by omega))]
      have := bits_inner n (f24.J1 n m) b i hlt hl (hb _ (getD_mem hlt)) 8 n out (by omega) (by omega) (by omega)
      rw [show ((8 : Nat) : Int) - 1 = 7 by rfl] at this
      rw [this]
      have ih := bits_J1 n b hb hl hn m (i + 1) (out ++ low 8 (b.getD i 0)) (by omega) (by omega) (by simp [low_length]; omega)
      rw [show (((i + 1 : Nat) : Int)) = (i : Int) + 1 by omega] at ih
      rw [ih, getD_drop hlt]
      simp [bitsL]
      rfl
    · rw [if_neg (by simp; omega), List.drop_of_length_le (by omega)]
      simp only [bitsL, List.append_nil]
      rfl

theorem bits_eq {n : Nat} {b : List Int} (hb : ∀ x ∈ b, 0 ≤ x ∧ x ≤ 255) (hl : b.length ≤ 1099511627776) (hn : b.length + 9 ≤ n) : f24.f n b = some (bitsL b, ()) := by
  have := bits_J1 n b hb hl (by omega) n 0 [] (by omega) (by omega) (by simp)
  exact this

/-- With noughts behind, to whole fives. -/
def pad5 (l : List Int) : List Int := l ++ List.replicate ((5 - l.length % 5) % 5) 0

theorem pad5_J1 (n : Nat) : ∀ (k m : Nat) (l : List Int), k ≤ 4 → (l.length + k) % 5 = 0 → k < m → l.length ≤ 8796093020000 →
    f21.J1 n m (l, ()) = f21.J2 n (l ++ List.replicate k 0, ())
  | k, 0, _, _, _, h, _ => by omega
  | 0, m + 1, l, _, h, _, _ => by
    change f21.S1 n (f21.J1 n m) (f21.J2 n) l = _
    unfold f21.S1
    rw [Int.tmod_eq_emod_of_nonneg (by omega), if_neg (by simp; omega)]
    simp
  | k + 1, m + 1, l, hk, h, hm, hl => by
    change f21.S1 n (f21.J1 n m) (f21.J2 n) l = _
    unfold f21.S1
    rw [Int.tmod_eq_emod_of_nonneg (by omega), if_pos (by simp; omega), if_pos (by omega), pad5_J1 n k m (l ++ [0]) (by omega) (by simp; omega) (by omega) (by simp; omega)]
    rw [List.replicate_succ]
    simp

def Bit (l : List Int) : Prop := ∀ x ∈ l, 0 ≤ x ∧ x ≤ 1

theorem enc5_J3 (n : Nat) (l : List Int) (hb : Bit l) (hl : l.length ≤ 8796093022208) (h5 : l.length % 5 = 0) : ∀ (m i : Nat) (out : ByteArray), 5 * i ≤ l.length → l.length - 5 * i < 5 * m → out.size = i →
    f21.J3 n m (l, out, ((5 * i : Nat) : Int), ()) = some (out ++ bytesOf (enc5 (l.drop (5 * i))), ())
  | 0, _, _, _, h, _ => by omega
  | m + 1, i, out, hi, hm, ho => by
    change f21.S3 n (f21.J3 n m) (f21.J4 n) l out ((5 * i : Nat) : Int) = _
    unfold f21.S3
    by_cases hlt : 5 * i < l.length
    · have hd : l.drop (5 * i) = l.getD (5 * i) 0 :: l.getD (5 * i + 1) 0 :: l.getD (5 * i + 2) 0 :: l.getD (5 * i + 3) 0 :: l.getD (5 * i + 4) 0 :: l.drop (5 * (i + 1)) := by
        rw [getD_drop (k := 5 * i) (by omega), getD_drop (k := 5 * i + 1) (by omega), getD_drop (k := 5 * i + 1 + 1) (by omega), getD_drop (k := 5 * i + 1 + 1 + 1) (by omega), getD_drop (k := 5 * i + 1 + 1 + 1 + 1) (by omega)]
        rfl
      rw [wrap_i64 (x := ((5 * i : Nat) : Int) + 1) (by omega), wrap_i64 (x := ((5 * i : Nat) : Int) + 2) (by omega), wrap_i64 (x := ((5 * i : Nat) : Int) + 3) (by omega), wrap_i64 (x := ((5 * i : Nat) : Int) + 4) (by omega), wrap_i64 (x := ((5 * i : Nat) : Int) + 5) (by omega)]
      rw [show 0 + (((5 * i : Nat) : Int)).toNat = 5 * i by omega, show 0 + (((5 * i : Nat) : Int) + 1).toNat = 5 * i + 1 by omega, show 0 + (((5 * i : Nat) : Int) + 2).toNat = 5 * i + 2 by omega, show 0 + (((5 * i : Nat) : Int) + 3).toNat = 5 * i + 3 by omega, show 0 + (((5 * i : Nat) : Int) + 4).toNat = 5 * i + 4 by omega]
      rw [hd]
      obtain ⟨a1, a2⟩ := hb _ (getD_mem (l := l) (k := 5 * i) (by omega))
      obtain ⟨b1, b2⟩ := hb _ (getD_mem (l := l) (k := 5 * i + 1) (by omega))
      obtain ⟨c1, c2⟩ := hb _ (getD_mem (l := l) (k := 5 * i + 2) (by omega))
      obtain ⟨d1, d2⟩ := hb _ (getD_mem (l := l) (k := 5 * i + 3) (by omega))
      obtain ⟨e1, e2⟩ := hb _ (getD_mem (l := l) (k := 5 * i + 4) (by omega))
      generalize l.getD (5 * i) 0 = a at a1 a2 ⊢
      generalize l.getD (5 * i + 1) 0 = b at b1 b2 ⊢
      generalize l.getD (5 * i + 2) 0 = c at c1 c2 ⊢
      generalize l.getD (5 * i + 3) 0 = d at d1 d2 ⊢
      generalize l.getD (5 * i + 4) 0 = e at e1 e2 ⊢
      rw [wrap_i64 (x := 16 * a) (by omega), wrap_i64 (x := 8 * b) (by omega), wrap_i64 (x := 4 * c) (by omega), wrap_i64 (x := 2 * d) (by omega)]
      rw [wrap_i64 (x := 16 * a + 8 * b) (by omega), wrap_i64 (x := 16 * a + 8 * b + 4 * c) (by omega), wrap_i64 (x := 16 * a + 8 * b + 4 * c + 2 * d) (by omega), wrap_i64 (x := 16 * a + 8 * b + 4 * c + 2 * d + e) (by omega), wrap_i64 (x := 16 * a + 8 * b + 4 * c + 2 * d + e + 1) (by omega)]
      simp only [enc5]
      have hr : 0 ≤ 16 * a + 8 * b + 4 * c + 2 * d + e ∧ 16 * a + 8 * b + 4 * c + 2 * d + e < 32 := by omega
      generalize 16 * a + 8 * b + 4 * c + 2 * d + e = y at hr ⊢
      have ex : L32.extract y.toNat (y + 1).toNat = bytesOf [bt L32 y] := by
        have h32 : L32.size = 32 := rfl
        rw [show (y + 1).toNat = y.toNat + 1 by omega, extract_one (by omega), show ((y.toNat : Nat) : Int) = y by omega]
      rw [L32_size, ex]
      rw [if_pos (decide_eq_true (by omega)), if_pos ⟨by omega, by omega⟩, if_pos ⟨by omega, by omega⟩, if_pos ⟨by omega, by omega⟩, if_pos ⟨by omega, by omega⟩, if_pos ⟨by omega, by omega⟩, if_pos ⟨by omega, by omega⟩, if_pos ⟨by omega, by omega⟩, if_pos (by rw [size_bytesOf]; simp; omega)]
      have ih := enc5_J3 n l hb hl h5 m (i + 1) (out ++ bytesOf [bt L32 y]) (by omega) (by omega) (by rw [ByteArray.size_append, size_bytesOf]; simp; omega)
      rw [show (((5 * (i + 1) : Nat) : Int)) = ((5 * i : Nat) : Int) + 5 by omega] at ih
      rw [ih, ByteArray.append_assoc, ← bytesOf_append]
      rfl
    · rw [if_neg (by simp; omega), List.drop_of_length_le (by omega)]
      change f21.S4 n out = _
      unfold f21.S4
      have : out ++ bytesOf (enc5 []) = out := by
        apply ByteArray.ext; simp [enc5, bytesOf]
      rw [this]
      rfl

theorem enc5_pad : ∀ (l : List Int), enc5 (pad5 l) = enc5 l
  | a :: b :: c :: d :: e :: r => by
    have ih := enc5_pad r
    have hp : pad5 (a :: b :: c :: d :: e :: r) = a :: b :: c :: d :: e :: pad5 r := by
      unfold pad5
      rw [show (a :: b :: c :: d :: e :: r).length = r.length + 5 by rfl, Nat.add_mod_right]
      rfl
    rw [hp]
    simp only [enc5, ih]
  | [] => rfl
  | [a] => by simp [pad5, enc5, List.replicate]
  | [a, b] => by simp [pad5, enc5, List.replicate]
  | [a, b, c] => by simp [pad5, enc5]
  | [a, b, c, d] => by simp [pad5, enc5, List.replicate]

theorem low_bit (h : Int) : ∀ w : Nat, Bit (low w h)
  | 0 => by intro x hx; cases hx
  | w + 1 => by
    intro x hx
    rcases List.mem_cons.1 hx with rfl | h'
    · omega
    · exact low_bit h w x h'

theorem bits_bit : ∀ l : List Int, Bit (bitsL l)
  | [] => by intro x hx; cases hx
  | y :: r => by
    intro x hx
    rcases List.mem_append.1 hx with h' | h'
    · exact low_bit y 8 x h'
    · exact bits_bit r x h'

theorem refBase_eq {n : Nat} {b : List Int} (hb : ∀ x ∈ b, 0 ≤ x ∧ x ≤ 255) (hl : b.length ≤ 1000000000) (hn : 2 * b.length + 100 ≤ n) : f21.f n b = some (bytesOf (base b), ()) := by
  unfold f21.f f21.S0
  rw [bits_eq hb (by omega) (by omega)]
  have hL := bitsL_length b
  have hB := bits_bit b
  unfold base
  generalize bitsL b = L at hL hB ⊢
  change f21.J1 n n (L, ()) = _
  rw [pad5_J1 n ((5 - L.length % 5) % 5) n L (by omega) (by omega) (by omega) (by omega)]
  change f21.J3 n n (pad5 L, ⟨#[]⟩, ((5 * 0 : Nat) : Int), ()) = _
  have hpl : (pad5 L).length = L.length + (5 - L.length % 5) % 5 := by unfold pad5; simp
  rw [enc5_J3 n (pad5 L) ?_ (by omega) (by omega) n 0 ⟨#[]⟩ (by omega) (by omega) rfl]
  · rw [Nat.mul_zero, List.drop_zero, enc5_pad]
    have e : (⟨#[]⟩ : ByteArray) ++ bytesOf (enc5 L) = bytesOf (enc5 L) := by
      apply ByteArray.ext; simp
    rw [e]
  · intro x hx
    unfold pad5 at hx
    rcases List.mem_append.1 hx with h' | h'
    · exact hB x h'
    · rw [(List.mem_replicate.1 h').2]; decide
end Go.Proofs.Ytnlckhekcklcpaa

namespace Go.Proofs.Ytnlckhekcklcpaa
open Go Go.Va Go.Proofs

def val (v : Int) (l : List Int) : Int := l.foldl (fun a x => 2 * a + x) v

theorem val_low (h v : Int) : ∀ k : Nat, val v (low k h) = v * 2 ^ k + h % 2 ^ k
  | 0 => by simp [val, low]
  | k + 1 => by
    simp only [low, val, List.foldl_cons]
    have ih := fun v => val_low h v k
    unfold val at ih
    rw [ih]
    have hp : (0 : Int) < 2 ^ k := Int.pow_pos (by decide)
    have e1 : h % 2 ^ (k + 1) = (h / 2 ^ k % 2) * 2 ^ k + h % 2 ^ k := by
      rw [Int.pow_succ]
      have a1 := Int.emod_def h (2 ^ k * 2)
      have a2 := Int.emod_def h (2 ^ k)
      have a3 := Int.emod_def (h / 2 ^ k) 2
      rw [a1, a3, Int.sub_mul, a2, ← Int.ediv_ediv_of_nonneg (by omega)]
      have : h / 2 ^ k * 2 ^ k = 2 ^ k * (h / 2 ^ k) := Int.mul_comm _ _
      have e5 : 2 * (h / 2 ^ k / 2) * 2 ^ k = 2 ^ k * 2 * (h / 2 ^ k / 2) := by rw [Int.mul_comm (2 ^ k) 2, Int.mul_assoc, Int.mul_assoc, Int.mul_comm (2 ^ k)]
      omega
    rw [e1, Int.pow_succ, Int.add_mul]
    have : 2 * v * 2 ^ k = v * (2 ^ k * 2) := by rw [Int.mul_comm 2 v, Int.mul_assoc, Int.mul_comm 2]
    omega

theorem low_split (h : Int) (k : Nat) : ∀ a : Nat, low (k + a) h = low a (h / 2 ^ k) ++ low k h
  | 0 => rfl
  | a + 1 => by
    rw [show k + (a + 1) = (k + a) + 1 by omega]
    simp only [low, List.cons_append]
    rw [low_split h k a, div_pow]

/-- Bits, eight by eight; fewer than five noughts behind. -/
def dec : Nat → List Int → Option (List Int)
  | 0, l => if l.length < 5 ∧ l.all (· == 0) = true then some [] else none
  | q + 1, l => (dec q (l.drop 8)).map (val 0 (l.take 8) :: ·)
def dec8 (l : List Int) : Option (List Int) := dec (l.length / 8) l

theorem dec8_low (k : Nat) (h : Int) (r : List Int) : dec8 (low (k + 8) h ++ r) = (dec8 (low k h ++ r)).map (h / 2 ^ k % 256 :: ·) := by
  unfold dec8
  rw [low_split h k 8, List.append_assoc]
  have e : (low 8 (h / 2 ^ k) ++ (low k h ++ r)).length / 8 = (low k h ++ r).length / 8 + 1 := by
    rw [List.length_append, low_length]; omega
  rw [e]
  simp only [dec]
  have e2 : List.drop 8 (low 8 (h / 2 ^ k) ++ (low k h ++ r)) = low k h ++ r := List.drop_left' (low_length 8 _)
  have e3 : List.take 8 (low 8 (h / 2 ^ k) ++ (low k h ++ r)) = low 8 (h / 2 ^ k) := List.take_left' (low_length 8 _)
  rw [e2, e3, val_low]
  congr 2
  funext l
  congr 1
  omega

theorem low_zero (h : Int) : ∀ w : Nat, w < 5 → ((low w h).all (· == 0) = true ↔ h % 2 ^ w = 0)
  | 0, _ => by simp [low]
  | 1, _ => by simp [low]
  | 2, _ => by simp [low]; omega
  | 3, _ => by simp [low]; omega
  | 4, _ => by simp [low]; omega

def digs : List Int → Option (List Int)
  | [] => some []
  | c :: r => if ix L32 c < 0 then none else (digs r).map (ix L32 c :: ·)

def fives (l : List Int) : List Int := l.flatMap (low 5)
theorem fives_cons (x : Int) (r : List Int) : fives (x :: r) = low 5 x ++ fives r := rfl
theorem fives_length : ∀ l : List Int, (fives l).length = 5 * l.length
  | [] => rfl
  | x :: r => by rw [fives_cons, List.length_append, low_length, fives_length r]; simp; omega

def unbase (l : List Int) : Option (List Int) := (digs l).bind fun d => dec8 (fives d)

theorem unbase_J1 (n : Nat) (s : ByteArray) (hs : s.size ≤ 1000000000) : ∀ (m i : Nat) (out : List Int) (held : Int) (w : Nat), i ≤ s.size → s.size - i < m → out.length ≤ i →
    w < 8 → 0 ≤ held ∧ held ≤ 4294967295 →
    f18.J1 n m (s, out, held, (w : Int), (s.size : Int), (i : Int), ()) = some (back (pre out ((digs ((ofBytes s).drop i)).bind fun d => dec8 (low w held ++ fives d))))
  | 0, _, _, _, _, _, h, _, _, _ => by omega
  | m + 1, i, out, held, w, hi, hm, ho, hw, hh => by
    have hsz := size_of s
    change f18.S1 n (f18.J1 n m) (f18.J2 n) s out held (w : Int) (s.size : Int) (i : Int) = _
    unfold f18.S1
    by_cases hlt : i < s.size
    · rw [if_pos (decide_eq_true (by omega)), if_pos ⟨by omega, by omega⟩, bt_getD, Int.toNat_natCast, getD_drop (by omega)]
      generalize (ofBytes s).getD i 0 = c
      have hf : f22.f L32 c = some (ix L32 c, ()) := rfl
      rw [hf]
      simp only [bnd, digs]
      have hr := ix_range L32 c
      have h32 : (L32.size : Int) = 32 := rfl
      by_cases hc : ix L32 c < 0
      · rw [if_pos (decide_eq_true hc), if_pos hc]; rfl
      · rw [if_neg (show ¬ decide (ix L32 c < 0) = true from fun q => hc (of_decide_eq_true q)), if_neg hc]
        have hx : 0 ≤ ix L32 c ∧ ix L32 c < 2 ^ 5 := ⟨by omega, by omega⟩
        generalize ix L32 c = d at hx ⊢
        have e1 : bitI .or .u32 (shlI .u32 held 5) d = (held % 2 ^ 27) * 2 ^ 5 + d := shl_or (k := 5) hh.1 (by decide) hx
        have hg := or_range (h := held) (k := 5) (by decide) hx
        have hp : low (w + 5) ((held % 2 ^ 27) * 2 ^ 5 + d) = low w held ++ low 5 d := low_push (k := 5) (by decide) (by omega) hx
        rw [wrap_u32 (x := d) (by omega), e1, wrap_u64 (x := (w : Int) + 5) (by omega), wrap_i64 (x := (i : Int) + 1) (by omega)]
        have hd : ∀ o : Option (List Int), ((o.map (d :: ·)).bind fun l => dec8 (low w held ++ fives l)) = o.bind fun l => dec8 (low (w + 5) ((held % 2 ^ 27) * 2 ^ 5 + d) ++ fives l) := by
          intro o
          cases o with
          | none => rfl
          | some l => simp only [Option.map_some, Option.bind_some]; rw [fives_cons, ← List.append_assoc, ← hp]
        rw [hd]
        change 0 ≤ held % 2 ^ 27 * 2 ^ 5 + d ∧ _ at hg
        generalize held % 2 ^ 27 * 2 ^ 5 + d = H at hg ⊢
        by_cases h8 : w < 3
        · rw [if_neg (by simp; omega)]
          have ih := unbase_J1 n s hs m (i + 1) out H (w + 5) (by omega) (by omega) (by omega) (by omega) hg
          rw [show (((i + 1 : Nat) : Int)) = (i : Int) + 1 by omega, show ((w + 5 : Nat) : Int) = (w : Int) + 5 by omega] at ih
          exact ih
        · obtain ⟨k, rfl⟩ : ∃ k, w = k + 3 := ⟨w - 3, by omega⟩
          rw [if_pos (decide_eq_true (by omega)), wrap_u64 (x := ((k + 3 : Nat) : Int) + 5 - 8) (by omega), if_neg (by omega), if_pos (by omega)]
          rw [show ((k + 3 : Nat) : Int) + 5 - 8 = (k : Int) by omega, shr_eq (by change k ≤ 32; omega), wrap_u8_mod]
          have ih := unbase_J1 n s hs m (i + 1) (out ++ [H / 2 ^ k % 256]) H k (by omega) (by omega) (by simp; omega) (by omega) hg
          rw [show (((i + 1 : Nat) : Int)) = (i : Int) + 1 by omega] at ih
          rw [ih]
          congr 2
          rw [show k + 3 + 5 = k + 8 by omega]
          cases digs ((ofBytes s).drop (i + 1)) with
          | none => rfl
          | some l =>
            simp only [Option.bind_some]
            rw [dec8_low]
            unfold pre
            cases dec8 (low k H ++ fives l) <;> simp
    · rw [if_neg (by simp; omega), List.drop_of_length_le (by omega)]
      change f18.S2 n (f18.J3 n) out held (w : Int) = _
      unfold f18.S2
      have e0 : dec8 (low w held ++ fives []) = if w < 5 ∧ held % 2 ^ w = 0 then some [] else none := by
        change dec8 (low w held ++ []) = _
        rw [List.append_nil]
        unfold dec8
        rw [low_length, show w / 8 = 0 by omega]
        simp only [dec, low_length]
        by_cases h5 : w < 5
        · simp only [h5, true_and, low_zero held w h5]
        · simp [h5]
      simp only [digs, Option.bind_some]
      rw [e0]
      by_cases h5 : w < 5
      · rw [if_neg (by simp; omega), if_neg (by omega)]
        have e1 : shlI .u32 1 (w : Int) = 2 ^ w := by
          rcases w with _ | _ | _ | _ | _ | _
          all_goals first | rfl | omega
        have hp1 : (2 : Int) ^ w ≤ 16 := by
          rcases w with _ | _ | _ | _ | _ | _
          all_goals first | decide | omega
        have hp0 : (0 : Int) < 2 ^ w := Int.pow_pos (by decide)
        rw [e1, wrap_u32 (by omega)]
        have e2 : bitI .and .u32 held (2 ^ w - 1) = held % 2 ^ w := and_mask (k := .u32) (w := w) hh.1 (by change _ < (4294967296 : Int); omega) (by change w < 32; omega)
        rw [e2]
        by_cases hz : held % 2 ^ w = 0
        · rw [if_neg (by simp [hz]), if_pos ⟨h5, hz⟩]
          simp [pre, back]
          rfl
        · rw [if_pos (by simp [hz]), if_neg (fun h => hz h.2)]
          rfl
      · rw [if_pos (decide_eq_true (by omega)), if_neg (fun h => h5 h.1)]
        rfl

theorem Unbase_eq {n : Nat} {s : ByteArray} (hs : s.size ≤ 1000000000) (hn : s.size < n) : f18.f n s = some (back (unbase (ofBytes s))) := by
  have := unbase_J1 n s hs n 0 [] 0 0 (by omega) (by omega) (by simp) (by decide) (by decide)
  rw [List.drop_zero] at this
  refine Eq.trans this ?_
  congr 2
  unfold unbase
  cases digs (ofBytes s) with
  | none => rfl
  | some d =>
    simp only [Option.bind_some, low, List.nil_append]
    unfold pre
    cases dec8 (fives d) <;> simp
end Go.Proofs.Ytnlckhekcklcpaa

namespace Go.Proofs.Ytnlckhekcklcpaa
open Go Go.Va Go.Proofs

theorem low5 {d : Int} (hd : 0 ≤ d ∧ d < 32) : [IntKind.i64.wrap (Int.tdiv d 16), Int.tmod (IntKind.i64.wrap (Int.tdiv d 8)) 2, Int.tmod (IntKind.i64.wrap (Int.tdiv d 4)) 2, Int.tmod (IntKind.i64.wrap (Int.tdiv d 2)) 2, Int.tmod d 2] = low 5 d := by
  rw [Int.tdiv_eq_ediv_of_nonneg hd.1, Int.tdiv_eq_ediv_of_nonneg hd.1, Int.tdiv_eq_ediv_of_nonneg hd.1, Int.tdiv_eq_ediv_of_nonneg hd.1]
  rw [wrap_i64 (x := d / 16) (by omega), wrap_i64 (x := d / 8) (by omega), wrap_i64 (x := d / 4) (by omega), wrap_i64 (x := d / 2) (by omega)]
  rw [Int.tmod_eq_emod_of_nonneg (by omega), Int.tmod_eq_emod_of_nonneg (by omega), Int.tmod_eq_emod_of_nonneg (by omega), Int.tmod_eq_emod_of_nonneg (by omega)]
  simp only [low]
  congr 1
  · simp; omega
  · simp

theorem collect_J1 (n : Nat) (s : ByteArray) (hs : s.size ≤ 1000000000) (hn : 32 < n) : ∀ (m i : Nat) (l : List Int), i ≤ s.size → s.size - i < m → l.length = 5 * i →
    f19.J1 n m (s, l, (i : Int), ()) = match digs ((ofBytes s).drop i) with
      | none => some ([], 5, ())
      | some d => f19.J2 n (s, l ++ fives d, ())
  | 0, _, _, _, h, _ => by omega
  | m + 1, i, l, hi, hm, hl => by
    have hsz := size_of s
    change f19.S1 n (f19.J1 n m) (f19.J2 n) s l (i : Int) = _
    unfold f19.S1
    by_cases hlt : i < s.size
    · have hq := ofBytes_range (s := s) (getD_mem (l := ofBytes s) (k := i) (by omega))
      rw [if_pos (decide_eq_true (by omega)), if_pos ⟨by omega, by omega⟩, bt_getD, Int.toNat_natCast, getD_drop (by omega)]
      generalize (ofBytes s).getD i 0 = c at hq ⊢
      have hf : f23.f n L32 c = some (ix L32 c, ()) := place_eq hq (by decide) hn
      rw [hf]
      simp only [bnd, digs]
      have hr := ix_range L32 c
      have h32 : (L32.size : Int) = 32 := rfl
      by_cases hc : ix L32 c < 0
      · rw [if_pos (decide_eq_true hc), if_pos hc]
      · rw [if_neg (show ¬ decide (ix L32 c < 0) = true from fun q => hc (of_decide_eq_true q)), if_neg hc, if_pos (by omega), low5 ⟨by omega, by omega⟩, wrap_i64 (by omega)]
        have ih := collect_J1 n s hs hn m (i + 1) (l ++ low 5 (ix L32 c)) (by omega) (by omega) (by simp [low_length]; omega)
        rw [show (((i + 1 : Nat) : Int)) = (i : Int) + 1 by omega] at ih
        rw [ih]
        cases digs ((ofBytes s).drop (i + 1)) with
        | none => rfl
        | some d => simp only [Option.map_some]; rw [fives_cons, List.append_assoc]
    · rw [if_neg (by simp; omega), List.drop_of_length_le (by omega)]
      simp only [digs]
      change _ = f19.J2 n (s, l ++ [], ())
      rw [List.append_nil]

theorem take_drop_getD {l : List Int} {k e : Nat} (h : k < l.length) : (l.drop k).take (e + 1) = l.getD k 0 :: (l.drop (k + 1)).take e := by
  rw [getD_drop h]; rfl

theorem inner_J5 (n : Nat) (r4 : Dens f19.g4 → Option f19.R) (l out : List Int) (hb : Bit l) (at_ : Nat) (ha : at_ + 8 ≤ l.length) (hl : l.length ≤ 8796093022208) : ∀ (e m : Nat) (v : Int), e ≤ 8 → e < m → 0 ≤ v → (v + 1) * 2 ^ e ≤ 256 →
    f19.J5 n r4 m (l, out, (at_ : Int), v, ((8 - e : Nat) : Int), ()) = f19.J6 n r4 (l, out, (at_ : Int), val v ((l.drop (at_ + (8 - e))).take e), ())
  | e, 0, _, _, h, _, _ => by omega
  | 0, m + 1, v, _, _, _, _ => by
    change f19.S5 n (f19.J5 n r4 m) (f19.J6 n r4) l out (at_ : Int) v ((8 - 0 : Nat) : Int) = _
    unfold f19.S5
    rw [if_neg (by decide)]
    rfl
  | e + 1, m + 1, v, he, hm, h0, h1 => by
    change f19.S5 n (f19.J5 n r4 m) (f19.J6 n r4) l out (at_ : Int) v ((8 - (e + 1) : Nat) : Int) = _
    unfold f19.S5
    rw [wrap_i64 (x := (at_ : Int) + ((8 - (e + 1) : Nat) : Int)) (by omega), if_pos (decide_eq_true (by omega)), if_pos ⟨by omega, by omega⟩]
    have hp : (1 : Int) ≤ 2 ^ e := Int.pow_pos (by decide)
    rw [show (0 + ((at_ : Int) + ((8 - (e + 1) : Nat) : Int)).toNat) = at_ + (8 - (e + 1)) by omega]
    obtain ⟨b1, b2⟩ := hb _ (getD_mem (l := l) (k := at_ + (8 - (e + 1))) (by omega))
    rw [take_drop_getD (by omega)]
    generalize l.getD (at_ + (8 - (e + 1))) 0 = b at b1 b2 ⊢
    have h2 : (v * 2 + b + 1) * 2 ^ e ≤ 256 := by
      have e1 : (v + 1) * 2 ^ (e + 1) = (v * 2 + 2) * 2 ^ e := by rw [Int.pow_succ, Int.mul_comm (2 ^ e) 2, ← Int.mul_assoc]; congr 1; omega
      rw [e1] at h1
      have : (v * 2 + b + 1) * 2 ^ e ≤ (v * 2 + 2) * 2 ^ e := Int.mul_le_mul_of_nonneg_right (by omega) (by omega)
      omega
    have h3 : v * 2 + b + 1 ≤ (v * 2 + b + 1) * 2 ^ e := by
      have := Int.mul_le_mul_of_nonneg_left hp (show 0 ≤ v * 2 + b + 1 by omega)
      rw [Int.mul_one] at this; exact this
    rw [wrap_i64 (x := v * 2) (by omega), wrap_i64 (x := v * 2 + b) (by omega), wrap_i64 (by omega)]
    have ih := inner_J5 n r4 l out hb at_ ha hl e m (v * 2 + b) (by omega) (by omega) (by omega) h2
    rw [show ((8 - e : Nat) : Int) = ((8 - (e + 1) : Nat) : Int) + 1 by omega] at ih
    rw [ih, show at_ + (8 - (e + 1)) + 1 = at_ + (8 - e) by omega, show v * 2 + b = 2 * v + b by omega]
    rfl

theorem rest_J8 (n : Nat) (l out : List Int) (hl : l.length ≤ 8796093022208) : ∀ (m i : Nat), i ≤ l.length → l.length - i < m →
    f19.J8 n m (l, out, (i : Int), ()) = if (l.drop i).all (· == 0) = true then some (out, 0, ()) else some ([], 5, ())
  | 0, _, _, h => by omega
  | m + 1, i, hi, hm => by
    change f19.S8 n (f19.J8 n m) (f19.J9 n) l out (i : Int) = _
    unfold f19.S8
    by_cases hlt : i < l.length
    · rw [if_pos (decide_eq_true (by omega)), if_pos ⟨by omega, by omega⟩, show 0 + ((i : Int)).toNat = i by omega, getD_drop hlt]
      generalize l.getD i 0 = b
      by_cases hb : b = 0
      · rw [if_neg (by simp [hb]), wrap_i64 (by omega)]
        have ih := rest_J8 n l out hl m (i + 1) (by omega) (by omega)
        rw [show (((i + 1 : Nat) : Int)) = (i : Int) + 1 by omega] at ih
        rw [ih]
        simp [hb]
        rfl
      · rw [if_pos (by simp [hb]), if_neg (by simp [hb])]
        rfl
    · rw [if_neg (by simp; omega), List.drop_of_length_le (by omega)]
      rfl

theorem val_range : ∀ (l : List Int) (v : Int), Bit l → 0 ≤ v → 0 ≤ val v l ∧ val v l + 1 ≤ (v + 1) * 2 ^ l.length
  | [], v, _, h => by simp [val]; exact h
  | x :: r, v, hb, h => by
    have hx := hb x List.mem_cons_self
    have ih := val_range r (2 * v + x) (fun y hy => hb y (List.mem_cons_of_mem _ hy)) (by omega)
    have e : val v (x :: r) = val (2 * v + x) r := rfl
    rw [e]
    refine ⟨ih.1, Int.le_trans ih.2 ?_⟩
    have e1 : (v + 1) * 2 ^ (x :: r).length = (2 * v + 2) * 2 ^ r.length := by rw [List.length_cons, Int.pow_succ, Int.mul_comm (2 ^ r.length) 2, ← Int.mul_assoc]; congr 1; omega
    rw [e1]
    exact Int.mul_le_mul_of_nonneg_right (by omega) (Int.le_of_lt (Int.pow_pos (by decide)))

theorem dec_J4 (n : Nat) (l : List Int) (hb : Bit l) (hl : l.length ≤ 8796093022208) (h5 : l.length % 8 < 5) (hn : l.length + 10 ≤ n) : ∀ (m i : Nat) (out : List Int), 8 * i ≤ l.length → l.length / 8 - i < m → out.length = i →
    f19.J4 n m (l, out, ((8 * i : Nat) : Int), ()) = some (back (pre out (dec (l.length / 8 - i) (l.drop (8 * i)))))
  | 0, _, _, _, h, _ => by omega
  | m + 1, i, out, hi, hm, ho => by
    change f19.S4 n (f19.J5 n (f19.J4 n m) n) (f19.J7 n) l out ((8 * i : Nat) : Int) = _
    unfold f19.S4
    rw [wrap_i64 (x := ((8 * i : Nat) : Int) + 8) (by omega)]
    by_cases hlt : 8 * i + 8 ≤ l.length
    · rw [if_pos (decide_eq_true (by omega))]
      have hj := inner_J5 n (f19.J4 n m) l out hb (8 * i) hlt hl 8 n 0 (by omega) (by omega) (by omega) (by decide)
      refine Eq.trans hj ?_
      change f19.S6 n (f19.J4 n m) l out ((8 * i : Nat) : Int) (val 0 ((l.drop (8 * i + (8 - 8))).take 8)) = _
      unfold f19.S6
      rw [show 8 * i + (8 - 8) = 8 * i by omega]
      have hv := val_range ((l.drop (8 * i)).take 8) 0 (fun x hx => hb x (List.mem_of_mem_drop (List.mem_of_mem_take hx))) (by omega)
      rw [show ((l.drop (8 * i)).take 8).length = 8 by rw [List.length_take, List.length_drop]; omega] at hv
      rw [if_pos (by omega), wrap_u8 (by omega), wrap_i64 (by omega)]
      have ih := dec_J4 n l hb hl h5 hn m (i + 1) (out ++ [val 0 ((l.drop (8 * i)).take 8)]) (by omega) (by omega) (by simp; omega)
      rw [show (((8 * (i + 1) : Nat) : Int)) = ((8 * i : Nat) : Int) + 8 by omega] at ih
      rw [ih, show l.length / 8 - i = (l.length / 8 - (i + 1)) + 1 by omega]
      simp only [dec, List.drop_drop]
      rw [show 8 * i + 8 = 8 * (i + 1) by omega]
      congr 2
      unfold pre
      cases dec (l.length / 8 - (i + 1)) (l.drop (8 * (i + 1))) <;> simp
    · rw [if_neg (by simp; omega), show l.length / 8 - i = 0 by omega]
      change f19.J8 n n (l, out, ((8 * i : Nat) : Int), ()) = _
      rw [rest_J8 n l out hl n (8 * i) hi (by omega)]
      simp only [dec]
      by_cases hz : (l.drop (8 * i)).all (· == 0) = true
      · rw [if_pos hz, if_pos ⟨by rw [List.length_drop]; omega, hz⟩]
        simp [pre, back]
        rfl
      · rw [if_neg hz, if_neg (fun h => hz h.2)]
        rfl

theorem dec_long : ∀ (q : Nat) (l : List Int), l.length / 8 = q → 5 ≤ l.length % 8 → dec q l = none
  | 0, l, h, h5 => by simp only [dec]; rw [if_neg]; intro h; omega
  | q + 1, l, h, h5 => by
    simp only [dec]
    rw [dec_long q (l.drop 8) (by rw [List.length_drop]; omega) (by rw [List.length_drop]; omega)]
    rfl

theorem digs_length : ∀ (l : List Int) (d : List Int), digs l = some d → d.length = l.length
  | [], d, h => by simp [digs] at h; subst h; rfl
  | c :: r, d, h => by
    simp only [digs] at h
    split at h
    · cases h
    · obtain ⟨d', h', rfl⟩ := Option.map_eq_some_iff.1 h
      simp [digs_length r d' h']

theorem fives_bit : ∀ l : List Int, Bit (fives l)
  | [] => by intro x hx; cases hx
  | y :: r => by
    intro x hx
    rw [fives_cons] at hx
    rcases List.mem_append.1 hx with h' | h'
    · exact low_bit y 5 x h'
    · exact fives_bit r x h'

theorem refUnbase_eq {n : Nat} {s : ByteArray} (hs : s.size ≤ 1000000000) (hn : 5 * s.size + 100 ≤ n) : f19.f n s = some (back (unbase (ofBytes s))) := by
  have hsz := size_of s
  have := collect_J1 n s hs (by omega) n 0 [] (by omega) (by omega) rfl
  rw [List.drop_zero] at this
  refine Eq.trans this ?_
  unfold unbase
  cases hd : digs (ofBytes s) with
  | none => rfl
  | some d =>
    have hdl := digs_length _ _ hd
    have hfl := fives_length d
    simp only [Option.bind_some, List.nil_append]
    change f19.S2 n (f19.J3 n) s (fives d) = _
    unfold f19.S2
    rw [Int.tmod_eq_emod_of_nonneg (by omega)]
    by_cases h5 : (fives d).length % 8 < 5
    · rw [if_neg (by simp; omega), if_neg (by simp; omega), if_neg (by simp; omega)]
      have hj := dec_J4 n (fives d) (fives_bit d) (by omega) h5 (by omega) n 0 [] (by omega) (by omega) rfl
      rw [Nat.mul_zero, List.drop_zero, Nat.sub_zero] at hj
      refine Eq.trans hj ?_
      unfold dec8 pre
      cases dec ((fives d).length / 8) (fives d) <;> simp <;> rfl
    · have e0 : dec8 (fives d) = none := dec_long _ _ rfl (by omega)
      rw [e0]
      by_cases a1 : s.size % 8 = 1
      · rw [if_pos (by simp; omega)]; rfl
      · rw [if_neg (by simp; omega)]
        by_cases a2 : s.size % 8 = 3
        · rw [if_pos (by simp; omega)]; rfl
        · have h6 : s.size % 8 = 6 := by
            have : s.size % 8 = 0 ∨ s.size % 8 = 2 ∨ s.size % 8 = 4 ∨ s.size % 8 = 5 ∨ s.size % 8 = 6 ∨ s.size % 8 = 7 := by omega
            rcases this with h | h | h | h | h | h <;> omega
          rw [if_neg (by simp; omega), if_pos (by simp; omega)]; rfl
end Go.Proofs.Ytnlckhekcklcpaa

