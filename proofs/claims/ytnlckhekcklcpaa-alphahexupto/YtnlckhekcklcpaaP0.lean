/-
  The plain laws.
-/
import Derived.Test.YtnlckhekcklcpaaVaPlain
import Derived.Test.YtnlckhekcklcpaaF0
import Derived.Test.YtnlckhekcklcpaaRows
import Derived.JoinedCond
import Derived.ChangeCalls
namespace Go.Proofs.Ytnlckhekcklcpaa
open Go Go.Va Go.Proofs Go.ChangeShapes Go.WideShapes Go.ChangeAt Go.RowKit

theorem kids : Kids Try.prog (· < Try.prog.types.size) := kids_rows (by kernel_rfl) (by kernel_rfl)
theorem full : ∀ t e, t < Try.prog.types.size → Try.prog.underlying t = some (.slice e) → 0 < Try.prog.cellsOf e := slices_full_of Try.prog (by kernel_rfl)
theorem own : ownKnob Try.prog.godebug = none := by kernel_rfl

mutual
theorem bulk_eq {H : Type} : ∀ (d : DataW H), Rows.uptoBulk d = bulk d
  | .lit l => by cases l <;> simp [Rows.uptoBulk, bulk]
  | .nil => by simp [Rows.uptoBulk, bulk]
  | .ptr d => by simp [Rows.uptoBulk, bulk, bulk_eq d]
  | .slice elems spare => by simp [Rows.uptoBulk, bulk, bulkL_eq elems, bulkL_eq spare]
  | .agg parts => by simp [Rows.uptoBulk, bulk, bulkL_eq parts]
  | .iface _ d => by simp [Rows.uptoBulk, bulk, bulk_eq d]
  | .map entries => by simp [Rows.uptoBulk, bulk, bulkE_eq entries]
  | .held _ => by simp [Rows.uptoBulk, bulk]
theorem bulkL_eq {H : Type} : ∀ (l : List (DataW H)), Rows.uptoBulkAll l = bulkL l
  | [] => by simp [Rows.uptoBulkAll, bulkL]
  | d :: r => by simp [Rows.uptoBulkAll, bulkL, bulk_eq d, bulkL_eq r]
theorem bulkE_eq {H : Type} : ∀ (l : List (Lit × DataW H)), Rows.uptoBulkEntries l = bulkE l
  | [] => by simp [Rows.uptoBulkEntries, bulkE]
  | x :: r => by simp [Rows.uptoBulkEntries, bulkE, bulkX_eq x, bulkE_eq r]
theorem bulkX_eq {H : Type} : ∀ (x : Lit × DataW H), Rows.uptoBulkEntry x = bulkX x
  | (l, d) => by cases l <;> simp [Rows.uptoBulkEntry, bulkX, bulk_eq d]
end

theorem small_of {H : Type} {ds gs : List (DataW H)} (h : Rows.uptoSmall H (ds ++ gs) = true) : bulkL ds ≤ 1048576 := by
  have h := of_decide_eq_true h
  rw [bulkL_eq, bulkL_append] at h
  omega
end Go.Proofs.Ytnlckhekcklcpaa

namespace Go.Proofs.Ytnlckhekcklcpaa
open Go Go.Va Go.Proofs
theorem awake_ok (k : Nat) : f10.f (k + 40) = some (true, ()) := by kernel_rfl
end Go.Proofs.Ytnlckhekcklcpaa

namespace Go.Proofs.Ytnlckhekcklcpaa
open Go Go.Va Go.Proofs

abbrev H16 : ByteArray := ⟨#[48, 49, 50, 51, 52, 53, 54, 55, 56, 57, 97, 98, 99, 100, 101, 102]⟩

/-- 'place' is the first index. -/
theorem place_J (n : Nat) (s : ByteArray) (b : Int) (hb : 0 ≤ b ∧ b ≤ 255) (hs : s.size ≤ 9223372036854775807) : ∀ (m k : Nat), k ≤ s.size → s.size - k < m →
    f23.J1 n m (s, b, (k : Int), ()) = some ((if Lib.indexByte (s.data.toList.drop k) b.toNat.toUInt8 = -1 then -1 else (k : Int) + Lib.indexByte (s.data.toList.drop k) b.toNat.toUInt8), ())
  | 0, k, _, h => by omega
  | m + 1, k, hk, h => by
    have hsz := size_eq s
    change f23.S1 n (f23.J1 n m) (f23.J2 n) s b (k : Int) = _
    unfold f23.S1
    by_cases hlt : k < s.size
    · rw [if_pos (decide_eq_true (by omega)), if_pos ⟨by omega, by omega⟩]
      have hd : s.data.toList.drop k = s.data.toList[k] :: s.data.toList.drop (k + 1) := List.drop_eq_getElem_cons (by omega)
      have hbt : bt s (k : Int) = (s.data.toList[k].toNat : Int) := by
        unfold bt
        rw [Int.toNat_natCast, List.getD_eq_getElem?_getD, List.getElem?_eq_getElem (by omega)]; rfl
      rw [hd, hbt]
      have hiff : (((s.data.toList[k].toNat : Int) == b) = true) ↔ ((s.data.toList[k] == b.toNat.toUInt8) = true) := by
        rw [beq_iff_eq, beq_iff_eq]
        constructor
        · intro e
          apply UInt8.toNat_inj.1
          rw [← e]
          simp
        · intro e
          rw [e]
          have : b.toNat.toUInt8.toNat = b.toNat := by
            change b.toNat % 256 = b.toNat
            omega
          rw [this]; omega
      unfold Lib.indexByte
      by_cases he : (s.data.toList[k] == b.toNat.toUInt8) = true
      · rw [if_pos (hiff.2 he), if_pos he]
        simp
        rfl
      · rw [if_neg (fun hh => he (hiff.1 hh)), if_neg he, wrap_i64 (by omega)]
        have := place_J n s b hb hs m (k + 1) (by omega) (by omega)
        rw [show (((k + 1 : Nat) : Int)) = (k : Int) + 1 by omega] at this
        rw [this]
        have hge := Lib.indexByte_ge (s.data.toList.drop (k + 1)) b.toNat.toUInt8
        generalize Lib.indexByte (s.data.toList.drop (k + 1)) b.toNat.toUInt8 = j at hge ⊢
        by_cases hi : j = -1
        · subst hi; rfl
        · have e1 : (if (j == -1) = true then -1 else j + 1) = j + 1 := if_neg (by simpa using hi)
          rw [if_neg hi, e1, if_neg (by omega)]
          congr 2; omega
    · rw [if_neg (by simp; omega)]
      have : k = s.size := by omega
      subst this
      rw [hsz, List.drop_length]
      rfl

theorem place_eq {n : Nat} {s : ByteArray} {b : Int} (hb : 0 ≤ b ∧ b ≤ 255) (hs : s.size ≤ 9223372036854775807) (hn : s.size < n) : f23.f n s b = some (ix s b, ()) := by
  change f23.J1 n n (s, b, ((0 : Nat) : Int), ()) = _
  rw [place_J n s b hb hs n 0 (by omega) (by omega)]
  unfold ix
  simp only [List.drop_zero]
  split
  · rename_i h; rw [h]
  · simp
    rfl

/-- What a text of digits of sixteen is. -/
def unhex : List Int → Option (List Int)
  | a :: b :: r => if ix H16 a < 0 then none else if ix H16 b < 0 then none else (unhex r).map fun l => (ix H16 a * 16 + ix H16 b) :: l
  | [_] => none
  | [] => some []

def back (o : Option (List Int)) : List Int × Int × Unit :=
  match o with
  | some l => (l, 0, ())
  | none => ([], 5, ())

def pre (p : List Int) (o : Option (List Int)) : Option (List Int) := o.map (p ++ ·)

theorem byte_of {a b : Int} (ha : 0 ≤ a ∧ a < 16) (hb : 0 ≤ b ∧ b < 16) : IntKind.u8.wrap (bitI .or .i64 (shlI .i64 a 4) b) = a * 16 + b := by
  have e : shlI .i64 a 4 = a * 2 ^ 4 := by
    unfold shlI
    change IntKind.i64.wrap (a * 2 ^ 4) = _
    exact wrap_i64 (by omega)
  rw [e, or_low (by omega) ha.1 hb.1 (by change a * 2 ^ 4 + b < 2 ^ 63; omega), wrap_u8 (by omega)]
  omega

theorem unhex_J8 (n : Nat) (s : ByteArray) (hs : s.size ≤ 140737488355328) (he : s.size % 2 = 0) : ∀ (m k : Nat) (out : List Int), 2 * k ≤ s.size → s.size - 2 * k < 2 * m → out.length = k →
    f8.J1 n m (s, out, ((2 * k : Nat) : Int), ()) = some (back (pre out (unhex ((ofBytes s).drop (2 * k)))))
  | 0, k, out, _, h, _ => by omega
  | m + 1, k, out, hk, h, hl => by
    have hsz := size_of s
    change f8.S1 n (f8.J2 n (f8.J1 n m)) (f8.J4 n) s out ((2 * k : Nat) : Int) = _
    unfold f8.S1
    by_cases hlt : 2 * k < s.size
    · rw [if_pos (decide_eq_true (by omega)), if_pos ⟨by omega, by omega⟩]
      have hd : (ofBytes s).drop (2 * k) = (ofBytes s).getD (2 * k) 0 :: (ofBytes s).getD (2 * k + 1) 0 :: (ofBytes s).drop (2 * k + 1 + 1) := by
        rw [getD_drop (by omega), getD_drop (k := 2 * k + 1) (by omega)]
      rw [wrap_i64 (by omega)]
      have e1 : bt s ((2 * k : Nat) : Int) = (ofBytes s).getD (2 * k) 0 := by rw [bt_getD, Int.toNat_natCast]
      have e2 : bt s (((2 * k : Nat) : Int) + 1) = (ofBytes s).getD (2 * k + 1) 0 := by
        rw [bt_getD]; congr 1
      have h1 : f22.f H16 (bt s ((2 * k : Nat) : Int)) = some (ix H16 ((ofBytes s).getD (2 * k) 0), ()) := by rw [e1]; rfl
      have h2 : f22.f H16 (bt s (((2 * k : Nat) : Int) + 1)) = some (ix H16 ((ofBytes s).getD (2 * k + 1) 0), ()) := by rw [e2]; rfl
      rw [h1, h2, hd]
      simp only [bnd]
      rw [if_pos ⟨by omega, by omega⟩]
      have ra := ix_range H16 ((ofBytes s).getD (2 * k) 0)
      have rb := ix_range H16 ((ofBytes s).getD (2 * k + 1) 0)
      have h16 : (H16.size : Int) = 16 := rfl
      unfold unhex
      by_cases ha : ix H16 ((ofBytes s).getD (2 * k) 0) < 0
      · rw [if_pos (decide_eq_true ha), if_pos ha]; rfl
      · rw [if_neg (by simpa using ha), if_neg ha]
        by_cases hb : ix H16 ((ofBytes s).getD (2 * k + 1) 0) < 0
        · rw [if_pos (decide_eq_true hb), if_pos hb]; rfl
        · rw [if_neg (by simpa using hb), if_neg hb]
          change f8.S2 n (f8.J3 n (f8.J1 n m)) s out ((2 * k : Nat) : Int) (ix H16 ((ofBytes s).getD (2 * k) 0)) (ix H16 ((ofBytes s).getD (2 * k + 1) 0)) = _
          unfold f8.S2
          rw [if_pos (by omega)]
          change f8.S3 n (f8.J1 n m) s _ ((2 * k : Nat) : Int) = _
          unfold f8.S3
          rw [wrap_i64 (by omega), byte_of (by omega) (by omega)]
          have ih := unhex_J8 n s hs he m (k + 1) (out ++ [ix H16 ((ofBytes s).getD (2 * k) 0) * 16 + ix H16 ((ofBytes s).getD (2 * k + 1) 0)]) (by omega) (by omega) (by simp [hl])
          rw [show ((2 * (k + 1) : Nat) : Int) = ((2 * k : Nat) : Int) + 2 by omega] at ih
          rw [ih]
          rw [show 2 * (k + 1) = 2 * k + 1 + 1 by omega]
          congr 2
          unfold pre
          cases unhex ((ofBytes s).drop (2 * k + 1 + 1)) <;> simp
    · rw [if_neg (by simp; omega)]
      have : 2 * k = s.size := by omega
      rw [List.drop_of_length_le (by omega)]
      change f8.S4 n out = _
      unfold f8.S4
      simp [unhex, pre, back]
      rfl

theorem unhex_J9 (n : Nat) (s : ByteArray) (hs : s.size ≤ 140737488355328) (he : s.size % 2 = 0) (hn : 16 < n) : ∀ (m k : Nat) (out : List Int), 2 * k ≤ s.size → s.size - 2 * k < 2 * m → out.length = k →
    f9.J1 n m (s, out, ((2 * k : Nat) : Int), ()) = some (back (pre out (unhex ((ofBytes s).drop (2 * k)))))
  | 0, k, out, _, h, _ => by omega
  | m + 1, k, out, hk, h, hl => by
    have hsz := size_of s
    change f9.S1 n (f9.J2 n (f9.J1 n m)) (f9.J4 n) s out ((2 * k : Nat) : Int) = _
    unfold f9.S1
    rw [wrap_i64 (by omega)]
    by_cases hlt : 2 * k < s.size
    · rw [if_pos (decide_eq_true (by omega)), if_pos ⟨by omega, by omega⟩]
      have hd : (ofBytes s).drop (2 * k) = (ofBytes s).getD (2 * k) 0 :: (ofBytes s).getD (2 * k + 1) 0 :: (ofBytes s).drop (2 * k + 1 + 1) := by
        rw [getD_drop (by omega), getD_drop (k := 2 * k + 1) (by omega)]
      have e1 : bt s ((2 * k : Nat) : Int) = (ofBytes s).getD (2 * k) 0 := by rw [bt_getD, Int.toNat_natCast]
      have e2 : bt s (((2 * k : Nat) : Int) + 1) = (ofBytes s).getD (2 * k + 1) 0 := by
        rw [bt_getD]; congr 1
      have q1 := ofBytes_range (s := s) (getD_mem (l := ofBytes s) (k := 2 * k) (by omega))
      have q2 := ofBytes_range (s := s) (getD_mem (l := ofBytes s) (k := 2 * k + 1) (by omega))
      have h1 : f23.f n H16 (bt s ((2 * k : Nat) : Int)) = some (ix H16 ((ofBytes s).getD (2 * k) 0), ()) := by rw [e1]; exact place_eq q1 (by decide) hn
      have h2 : f23.f n H16 (bt s (((2 * k : Nat) : Int) + 1)) = some (ix H16 ((ofBytes s).getD (2 * k + 1) 0), ()) := by rw [e2]; exact place_eq q2 (by decide) hn
      rw [h1, h2, hd]
      simp only [bnd]
      rw [if_pos ⟨by omega, by omega⟩]
      have ra := ix_range H16 ((ofBytes s).getD (2 * k) 0)
      have rb := ix_range H16 ((ofBytes s).getD (2 * k + 1) 0)
      have h16 : (H16.size : Int) = 16 := rfl
      unfold unhex
      by_cases ha : ix H16 ((ofBytes s).getD (2 * k) 0) < 0
      · rw [if_pos (decide_eq_true ha), if_pos ha]; rfl
      · rw [if_neg (by simpa using ha), if_neg ha]
        by_cases hb : ix H16 ((ofBytes s).getD (2 * k + 1) 0) < 0
        · rw [if_pos (decide_eq_true hb), if_pos hb]; rfl
        · rw [if_neg (by simpa using hb), if_neg hb]
          change f9.S2 n (f9.J3 n (f9.J1 n m)) s out ((2 * k : Nat) : Int) (ix H16 ((ofBytes s).getD (2 * k) 0)) (ix H16 ((ofBytes s).getD (2 * k + 1) 0)) = _
          unfold f9.S2
          rw [if_pos (by omega)]
          change f9.S3 n (f9.J1 n m) s _ ((2 * k : Nat) : Int) = _
          unfold f9.S3
          rw [wrap_i64 (x := ((2 * k : Nat) : Int) + 2) (by omega), wrap_i64 (x := ix H16 ((ofBytes s).getD (2 * k) 0) * 16) (by omega), wrap_i64 (by omega), wrap_u8 (by omega)]
          have ih := unhex_J9 n s hs he hn m (k + 1) (out ++ [ix H16 ((ofBytes s).getD (2 * k) 0) * 16 + ix H16 ((ofBytes s).getD (2 * k + 1) 0)]) (by omega) (by omega) (by simp [hl])
          rw [show ((2 * (k + 1) : Nat) : Int) = ((2 * k : Nat) : Int) + 2 by omega] at ih
          rw [ih]
          rw [show 2 * (k + 1) = 2 * k + 1 + 1 by omega]
          congr 2
          unfold pre
          cases unhex ((ofBytes s).drop (2 * k + 1 + 1)) <;> simp
    · rw [if_neg (by simp; omega)]
      have : 2 * k = s.size := by omega
      rw [List.drop_of_length_le (by omega)]
      change f9.S4 n out = _
      unfold f9.S4
      simp [unhex, pre, back]
      rfl

theorem unhex_odd : ∀ (l : List Int), l.length % 2 = 1 → unhex l = none
  | [], h => by simp at h
  | [_], _ => rfl
  | a :: b :: r, h => by
    unfold unhex
    rw [unhex_odd r (by simp at h; omega)]
    simp

theorem Unhex_eq {n : Nat} {s : ByteArray} (hs : s.size ≤ 140737488355328) (hn : s.size < n) : f8.f n s = some (back (unhex (ofBytes s))) := by
  have hsz := size_of s
  have hm : Int.tmod (s.size : Int) 2 = ((s.size % 2 : Nat) : Int) := by rw [Int.tmod_eq_emod_of_nonneg (by omega)]; omega
  unfold f8.f f8.S0
  rw [hm]
  by_cases h : s.size % 2 = 0
  · rw [if_neg (by simp [h])]
    have := unhex_J8 n s hs h n 0 [] (by omega) (by omega) rfl
    rw [Nat.mul_zero] at this
    exact this.trans (by simp [pre]; rfl)
  · rw [if_pos (by simp; omega), unhex_odd _ (by omega)]; rfl

theorem refUnhex_eq {n : Nat} {s : ByteArray} (hs : s.size ≤ 140737488355328) (hn : s.size < n) (hn2 : 16 < n) : f9.f n s = some (back (unhex (ofBytes s))) := by
  have hsz := size_of s
  have hm : Int.tmod (s.size : Int) 2 = ((s.size % 2 : Nat) : Int) := by rw [Int.tmod_eq_emod_of_nonneg (by omega)]; omega
  unfold f9.f f9.S0
  rw [hm]
  by_cases h : s.size % 2 = 0
  · rw [if_neg (by simp [h])]
    have := unhex_J9 n s hs h hn2 n 0 [] (by omega) (by omega) rfl
    rw [Nat.mul_zero] at this
    exact this.trans (by simp [pre]; rfl)
  · rw [if_pos (by simp; omega), unhex_odd _ (by omega)]; rfl

end Go.Proofs.Ytnlckhekcklcpaa

namespace Go.Proofs.Ytnlckhekcklcpaa
open Go Go.Va Go.Proofs

def hex : List Int → List Int
  | [] => []
  | x :: r => bt H16 (x / 16) :: bt H16 (x % 16) :: hex r

theorem hex_length : ∀ l, (hex l).length = 2 * l.length
  | [] => rfl
  | x :: r => by simp [hex, hex_length r]; omega

theorem hex_J11 (n : Nat) (b : List Int) (hb : ∀ x ∈ b, 0 ≤ x ∧ x ≤ 255) (hl : b.length ≤ 35184372088832) : ∀ (m k : Nat) (out : List Int), k ≤ b.length → b.length - k < m → out.length = 2 * k →
    f11.J1 n m (out, b, ((b.length : Nat) : Int), (k : Int), ()) = some (bytesOf (out ++ hex (b.drop k)), ())
  | 0, k, out, _, h, _ => by omega
  | m + 1, k, out, hk, h, ho => by
    change f11.S1 n (f11.J1 n m) (f11.J2 n) out b ((b.length : Nat) : Int) (k : Int) = _
    unfold f11.S1
    by_cases hlt : k < b.length
    · rw [if_pos (decide_eq_true (by omega)), if_pos ⟨by omega, by omega⟩, Int.toNat_natCast]
      obtain ⟨q1, q2⟩ := hb _ (getD_mem hlt)
      rw [getD_drop hlt]
      generalize b.getD k 0 = x at q1 q2 ⊢
      have e1 : shrI .u8 x 4 = x / 16 := shr_eq (k := .u8) (y := 4) (by decide)
      have e2 : bitI .and .u8 x 15 = x % 16 := and_mask (k := .u8) (w := 4) q1 (by change x < 256; omega) (by decide)
      have h16 : (H16.size : Int) = 16 := rfl
      rw [e1, e2]
      rw [if_pos (show 0 ≤ x / 16 ∧ x / 16 < (H16.size : Int) by omega), if_pos (show 0 ≤ x % 16 ∧ x % 16 < (H16.size : Int) by omega), if_pos (by omega), wrap_i64 (by omega)]
      have ih := hex_J11 n b hb hl m (k + 1) (out ++ [bt H16 (x / 16), bt H16 (x % 16)]) (by omega) (by omega) (by simp [ho]; omega)
      rw [show (((k + 1 : Nat) : Int)) = (k : Int) + 1 by omega] at ih
      rw [ih]
      simp [hex]
      rfl
    · rw [if_neg (by simp; omega)]
      rw [List.drop_of_length_le (by omega)]
      change f11.S2 n out = _
      unfold f11.S2
      simp [hex]
      rfl

theorem Hex_eq {n : Nat} {b : List Int} (hb : ∀ x ∈ b, 0 ≤ x ∧ x ≤ 255) (hl : b.length ≤ 35184372088832) (hn : b.length < n) : f11.f n b = some (bytesOf (hex b), ()) := by
  unfold f11.f f11.S0
  rw [wrap_i64 (by omega), if_pos ⟨by decide, by omega, by omega, by decide, by decide⟩]
  exact hex_J11 n b hb hl n 0 [] (by omega) (by omega) rfl

theorem hex_J12 (n : Nat) (b : List Int) (hb : ∀ x ∈ b, 0 ≤ x ∧ x ≤ 255) (hl : b.length ≤ 35184372088832) : ∀ (m k : Nat) (out : ByteArray), k ≤ b.length → b.length - k < m → out.size = 2 * k →
    f12.J1 n m (b, H16, out, (k : Int), ()) = some (out ++ bytesOf (hex (b.drop k)), ())
  | 0, k, out, _, h, _ => by omega
  | m + 1, k, out, hk, h, ho => by
    change f12.S1 n (f12.J1 n m) (f12.J2 n) b H16 out (k : Int) = _
    unfold f12.S1
    by_cases hlt : k < b.length
    · rw [if_pos (decide_eq_true (by omega)), Int.toNat_natCast]
      have hi : 0 ≤ (k : Int) ∧ (k : Int) < ((b.length : Nat) : Int) := ⟨by omega, by omega⟩
      obtain ⟨q1, q2⟩ := hb _ (getD_mem hlt)
      rw [getD_drop hlt]
      generalize b.getD k 0 = x at q1 q2 ⊢
      have e1 : Int.tdiv x 16 = x / 16 := Int.tdiv_eq_ediv_of_nonneg q1
      have e2 : Int.tmod x 16 = x % 16 := Int.tmod_eq_emod_of_nonneg q1
      have h16 : H16.size = 16 := rfl
      rw [e1, e2]
      rw [wrap_u8 (x := x / 16) (by omega), wrap_u8 (x := x / 16 + 1) (by omega), wrap_u8 (x := x % 16 + 1) (by omega)]
      have ex : ∀ y : Int, 0 ≤ y → y < 16 → H16.extract y.toNat (y + 1).toNat = bytesOf [bt H16 y] := by
        intro y h0 h1
        rw [show (y + 1).toNat = y.toNat + 1 by omega, extract_one (by omega), show ((y.toNat : Nat) : Int) = y by omega]
      rw [ex (x / 16) (by omega) (by omega), ex (x % 16) (by omega) (by omega)]
      rw [if_pos hi, if_pos hi, if_pos ⟨by omega, by omega⟩, if_pos ⟨by omega, by omega⟩, if_pos hi, if_pos hi, if_pos ⟨by omega, by omega⟩, if_pos ⟨by omega, by omega⟩]
      rw [if_pos (by rw [size_bytesOf, size_bytesOf]; simp), ← bytesOf_append]
      rw [if_pos (by rw [size_bytesOf]; simp; omega), wrap_i64 (by omega)]
      have ih := hex_J12 n b hb hl m (k + 1) (out ++ bytesOf ([bt H16 (x / 16)] ++ [bt H16 (x % 16)])) (by omega) (by omega) (by rw [ByteArray.size_append, size_bytesOf]; simp; omega)
      rw [show (((k + 1 : Nat) : Int)) = (k : Int) + 1 by omega] at ih
      rw [ih, ByteArray.append_assoc, ← bytesOf_append]
      rfl
    · rw [if_neg (by simp; omega)]
      rw [List.drop_of_length_le (by omega)]
      change f12.S2 n out = _
      unfold f12.S2
      have : out ++ bytesOf (hex []) = out := by
        apply ByteArray.ext; simp [hex, bytesOf]
      rw [this]
      rfl

theorem refHex_eq {n : Nat} {b : List Int} (hb : ∀ x ∈ b, 0 ≤ x ∧ x ≤ 255) (hl : b.length ≤ 35184372088832) (hn : b.length < n) : f12.f n b = some (bytesOf (hex b), ()) := by
  have := hex_J12 n b hb hl n 0 ⟨#[]⟩ (by omega) (by omega) rfl
  unfold f12.f f12.S0
  refine this.trans ?_
  have e : (⟨#[]⟩ : ByteArray) ++ bytesOf (hex b) = bytesOf (hex b) := by
    apply ByteArray.ext; simp
  rw [List.drop_zero, e]

end Go.Proofs.Ytnlckhekcklcpaa

