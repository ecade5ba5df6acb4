/-
  The plain laws.
-/
import Derived.Test.YtnlckhekcklcpaaVaPlain
import Derived.Test.YtnlckhekcklcpaaF0
import Derived.Test.YtnlckhekcklcpaaRows
import Derived.JoinedCond
import Derived.ChangeCalls
namespace Go.Proofs.Ytnlckhekcklcpaa
open Go Go.Va Go.Proofs Go.ChangeShapes Go.WideShapes Go.ChangeAt Go.RowKit

theorem kids : Kids Try.prog (· < Try.prog.types.size) := kids_rows (by kernel_rfl) (by kernel_rfl)
theorem full : ∀ t e, t < Try.prog.types.size → Try.prog.underlying t = some (.slice e) → 0 < Try.prog.cellsOf e := slices_full_of Try.prog (by kernel_rfl)
theorem own : ownKnob Try.prog.godebug = none := by kernel_rfl

mutual
theorem bulk_eq {H : Type} : ∀ (d : DataW H), Rows.uptoBulk d = bulk d
  | .lit l => by cases l <;> simp [Rows.uptoBulk, bulk]
  | .nil => by simp [Rows.uptoBulk, bulk]
  | .ptr d => by simp [Rows.uptoBulk, bulk, bulk_eq d]
  | .slice elems spare => by simp [Rows.uptoBulk, bulk, bulkL_eq elems, bulkL_eq spare]
  | .agg parts => by simp [Rows.uptoBulk, bulk, bulkL_eq parts]
  | .iface _ d => by simp [Rows.uptoBulk, bulk, bulk_eq d]
  | .map entries => by simp [Rows.uptoBulk, bulk, bulkE_eq entries]
  | .held _ => by simp [Rows.uptoBulk, bulk]
theorem bulkL_eq {H : Type} : ∀ (l : List (DataW H)), Rows.uptoBulkAll l = bulkL l
  | [] => by simp [Rows.uptoBulkAll, bulkL]
  | d :: r => by simp [Rows.uptoBulkAll, bulkL, bulk_eq d, bulkL_eq r]
theorem bulkE_eq {H : Type} : ∀ (l : List (Lit × DataW H)), Rows.uptoBulkEntries l = bulkE l
  | [] => by simp [Rows.uptoBulkEntries, bulkE]
  | x :: r => by simp [Rows.uptoBulkEntries, bulkE, bulkX_eq x, bulkE_eq r]
theorem bulkX_eq {H : Type} : ∀ (x : Lit × DataW H), Rows.uptoBulkEntry x = bulkX x
  | (l, d) => by cases l <;> simp [Rows.uptoBulkEntry, bulkX, bulk_eq d]
end

theorem small_of {H : Type} {ds gs : List (DataW H)} (h : Rows.uptoSmall H (ds ++ gs) = true) : bulkL ds ≤ 1048576 := by
  have h := of_decide_eq_true h
  rw [bulkL_eq, bulkL_append] at h
  omega
end Go.Proofs.Ytnlckhekcklcpaa

namespace Go.Proofs.Ytnlckhekcklcpaa
open Go Go.Va Go.Proofs
theorem awake_ok (k : Nat) : f10.f (k + 40) = some (true, ()) := by kernel_rfl
end Go.Proofs.Ytnlckhekcklcpaa

namespace Go.Proofs.Ytnlckhekcklcpaa
open Go Go.Va Go.Proofs

abbrev H16 : ByteArray := ⟨#[48, 49, 50, 51, 52, 53, 54, 55, 56, 57, 97, 98, 99, 100, 101, 102]⟩

/-- 'place' is the first index. -/
theorem place_J (n : Nat) (s : ByteArray) (b : Int) (hb : 0 ≤ b ∧ b ≤ 255) (hs : s.size ≤ 9223372036854775807) : ∀ (m k : Nat), k ≤ s.size → s.size - k < m →
    f23.J1 n m (s, b, (k : Int), ()) = some ((if Lib.indexByte (s.data.toList.drop k) b.toNat.toUInt8 = -1 then -1 else (k : Int) + Lib.indexByte (s.data.toList.drop k) b.toNat.toUInt8), ())
  | 0, k, _, h => by omega
  | m + 1, k, hk, h => by
    have hsz := size_eq s
    change f23.S1 n (f23.J1 n m) (f23.J2 n) s b (k : Int) = _
    unfold f23.S1
    by_cases hlt : k < s.size
    · rw [if_pos (decide_eq_true (by omega)), if_pos ⟨by omega, by omega⟩]
      have hd : s.data.toList.drop k = s.data.toList[k] :: s.data.toList.drop (k + 1) := List.drop_eq_getElem_cons (by omega)
      have hbt : bt s (k : Int) = (s.data.toList[k].toNat : Int) := by
        unfold bt
        rw [Int.toNat_natCast, List.getD_eq_getElem?_getD, List.getElem?_eq_getElem (by omega)]; rfl
      rw [hd, hbt]
      have hiff : (((s.data.toList[k].toNat : Int) == b) = true) ↔ ((s.data.toList[k] == b.toNat.toUInt8) = true) := by
        rw [beq_iff_eq, beq_iff_eq]
        constructor
        · intro e
          apply UInt8.toNat_inj.1
          rw [← e]
          simp
        · intro e
          rw [e]
          have : b.toNat.toUInt8.toNat = b.toNat := by
            change b.toNat % 256 = b.toNat
            omega
          rw [this]; omega
      unfold Lib.indexByte
      by_cases he : (s.data.toList[k] == b.toNat.toUInt8) = true
      · rw [if_pos (hiff.2 he), if_pos he]
        simp
        rfl
      · rw [if_neg (fun hh => he (hiff.1 hh)), if_neg he, wrap_i64 (by omega)]
        have := place_J n s b hb hs m (k + 1) (by omega) (by omega)
        rw [show (((k + 1 : Nat) : Int)) = (k : Int) + 1 by omega] at this
        rw [this]
        have hge := Lib.indexByte_ge (s.data.toList.drop (k + 1)) b.toNat.toUInt8
        generalize Lib.indexByte (s.data.toList.drop (k + 1)) b.toNat.toUInt8 = j at hge ⊢
        by_cases hi : j = -1
        · subst hi; rfl
        · have e1 : (if (j == -1) = true then -1 else j + 1) = j + 1 := if_neg (by simpa using hi)
          rw [if_neg hi, e1, if_neg (by omega)]
          congr 2; omega
    · rw [if_neg (by simp; omega)]
      have : k = s.size := by omega
      subst this
      rw [hsz, List.drop_length]
      rfl

theorem place_eq {n : Nat} {s : ByteArray} {b : Int} (hb : 0 ≤ b ∧ b ≤ 255) (hs : s.size ≤ 9223372036854775807) (hn : s.size < n) : f23.f n s b = some (ix s b, ()) := by
  change f23.J1 n n (s, b, ((0 : Nat) : Int), ()) = _
  rw [place_J n s b hb hs n 0 (by omega) (by omega)]
  unfold ix
  simp only [List.drop_zero]
  split
  · rename_i h; rw [h]
  · simp
    rfl

/-- What a text of digits of sixteen is. -/
def unhex : List Int → Option (List Int)
  | a :: b :: r => if ix H16 a < 0 then none else if ix H16 b < 0 then none else (unhex r).map fun l => (ix H16 a * 16 + ix H16 b) :: l
  | [_] => none
  | [] => some []

def back (o : Option (List Int)) : List Int × Int × Unit :=
  match o with
  | some l => (l, 0, ())
  | none => ([], 5, ())

def pre (p : List Int) (o : Option (List Int)) : Option (List Int) := o.map (p ++ ·)

theorem byte_of {a b : Int} (ha : 0 ≤ a ∧ a < 16) (hb : 0 ≤ b ∧ b < 16) : IntKind.u8.wrap (bitI .or .i64 (shlI .i64 a 4) b) = a * 16 + b := by
  have e : shlI .i64 a 4 = a * 2 ^ 4 := by
    unfold shlI
    change IntKind.i64.wrap (a * 2 ^ 4) = _
    exact wrap_i64 (by omega)
  rw [e, or_low (by omega) ha.1 hb.1 (by change a * 2 ^ 4 + b < 2 ^ 63; omega), wrap_u8 (by omega)]
  omega

theorem unhex_J8 (n : Nat) (s : ByteArray) (hs : s.size ≤ 140737488355328) (he : s.size % 2 = 0) : ∀ (m k : Nat) (out : List Int), 2 * k ≤ s.size → s.size - 2 * k < 2 * m → out.length = k →
    f8.J1 n m (s, out, ((2 * k : Nat) : Int), ()) = some (back (pre out (unhex ((ofBytes s).drop (2 * k)))))
  | 0, k, out, _, h, _ => by omega
  | m + 1, k, out, hk, h, hl => by
    have hsz := size_of s
    change f8.S1 n (f8.J2 n (f8.J1 n m)) (f8.J4 n) s out ((2 * k : Nat) : Int) = _
    unfold f8.S1
    by_cases hlt : 2 * k < s.size
    · rw [if_pos (decide_eq_true (by omega)), if_pos ⟨by omega, by omega⟩]
      have hd : (ofBytes s).drop (2 * k) = (ofBytes s).getD (2 * k) 0 :: (ofBytes s).getD (2 * k + 1) 0 :: (ofBytes s).drop (2 * k + 1 + 1) := by
        rw [getD_drop (by omega), getD_drop (k := 2 * k + 1) (by omega)]
      rw [wrap_i64 (by omega)]
      have e1 : bt s ((2 * k : Nat) : Int) = (ofBytes s).getD (2 * k) 0 := by rw [bt_getD, Int.toNat_natCast]
      have e2 : bt s (((2 * k : Nat) : Int) + 1) = (ofBytes s).getD (2 * k + 1) 0 := by
        rw [bt_getD]; congr 1
      have h1 : f22.f H16 (bt s ((2 * k : Nat) : Int)) = some (ix H16 ((ofBytes s).getD (2 * k) 0), ()) := by rw [e1]; rfl
      have h2 : f22.f H16 (bt s (((2 * k : Nat) : Int) + 1)) = some (ix H16 ((ofBytes s).getD (2 * k + 1) 0), ()) := by rw [e2]; rfl
      rw [h1, h2, hd]
      simp only [bnd]
      rw [if_pos ⟨by omega, by omega⟩]
      have ra := ix_range H16 ((ofBytes s).getD (2 * k) 0)
      have rb := ix_range H16 ((ofBytes s).getD (2 * k + 1) 0)
      have h16 : (H16.size : Int) = 16 := rfl
      unfold unhex
      by_cases ha : ix H16 ((ofBytes s).getD (2 * k) 0) < 0
      · rw [if_pos (decide_eq_true ha), if_pos ha]; rfl
      · rw [if_neg (by simpa using ha), if_neg ha]
        by_cases hb : ix H16 ((ofBytes s).getD (2 * k + 1) 0) < 0
        · rw [if_pos (decide_eq_true hb), if_pos hb]; rfl
        · rw [if_neg (by simpa using hb), if_neg hb]
          change f8.S2 n (f8.J3 n (f8.J1 n m)) s out ((2 * k : Nat) : Int) (ix H16 ((ofBytes s).getD (2 * k) 0)) (ix H16 ((ofBytes s).getD (2 * k + 1) 0)) = _
          unfold f8.S2
          rw [if_pos (by omega)]
          change f8.S3 n (f8.J1 n m) s _ ((2 * k : Nat) : Int) = _
          unfold f8.S3
          rw [wrap_i64 (by omega), byte_of (by omega) (by omega)]
          have ih := unhex_J8 n s hs he m (k + 1) (out ++ [ix H16 ((ofBytes s).getD (2 * k) 0) * 16 + ix H16 ((ofBytes s).getD (2 * k + 1) 0)]) (by omega) (by omega) (by simp [hl])
          rw [show ((2 * (k + 1) : Nat) : Int) = ((2 * k : Nat) : Int) + 2 by omega] at ih
          rw [ih]
          rw [show 2 * (k + 1) = 2 * k + 1 + 1 by omega]
          congr 2
          unfold pre
          cases unhex ((ofBytes s).drop (2 * k + 1 + 1)) <;> simp
    · rw [if_neg (by simp; omega)]
      have : 2 * k = s.size := by omega
      rw [List.drop_of_length_le (by omega)]
      change f8.S4 n out = _
      unfold f8.S4
      simp [unhex, pre, back]
      rfl

theorem unhex_J9 (n : Nat) (s : ByteArray) (hs : s.size ≤ 140737488355328) (he : s.size % 2 = 0) (hn : 16 < n) : ∀ (m k : Nat) (out : List Int), 2 * k ≤ s.size → s.size - 2 * k < 2 * m → out.length = k →
    f9.J1 n m (s, out, ((2 * k : Nat) : Int), ()) = some (back (pre out (unhex ((ofBytes s).drop (2 * k)))))
  | 0, k, out, _, h, _ => by omega
  | m + 1, k, out, hk, h, hl => by
    have hsz := size_of s
    change f9.S1 n (f9.J2 n (f9.J1 n m)) (f9.J4 n) s out ((2 * k : Nat) : Int) = _
    unfold f9.S1
    rw [wrap_i64 (by omega)]
    by_cases hlt : 2 * k < s.size
    · rw [if_pos (decide_eq_true (by omega)), if_pos ⟨by omega, by omega⟩]
      have hd : (ofBytes s).drop (2 * k) = (ofBytes s).getD (2 * k) 0 :: (ofBytes s).getD (2 * k + 1) 0 :: (ofBytes s).drop (2 * k + 1 + 1) := by
        rw [getD_drop (by omega), getD_drop (k := 2 * k + 1) (by omega)]
      have e1 : bt s ((2 * k : Nat) : Int) = (ofBytes s).getD (2 * k) 0 := by rw [bt_getD, Int.toNat_natCast]
      have e2 : bt s (((2 * k : Nat) : Int) + 1) = (ofBytes s).getD (2 * k + 1) 0 := by
        rw [bt_getD]; congr 1
      have q1 := ofBytes_range (s := s) (getD_mem (l := ofBytes s) (k := 2 * k) (by omega))
      have q2 := ofBytes_range (s := s) (getD_mem (l := ofBytes s) (k := 2 * k + 1) (by omega))
      have h1 : f23.f n H16 (bt s ((2 * k : Nat) : Int)) = some (ix H16 ((ofBytes s).getD (2 * k) 0), ()) := by rw [e1]; exact place_eq q1 (by decide) hn
      have h2 : f23.f n H16 (bt s (((2 * k : Nat) : Int) + 1)) = some (ix H16 ((ofBytes s).getD (2 * k + 1) 0), ()) := by rw [e2]; exact place_eq q2 (by decide) hn
      rw [h1, h2, hd]
      simp only [bnd]
      rw [if_pos ⟨by omega, by omega⟩]
      have ra := ix_range H16 ((ofBytes s).getD (2 * k) 0)
      have rb := ix_range H16 ((ofBytes s).getD (2 * k + 1) 0)
      have h16 : (H16.size : Int) = 16 := rfl
      unfold unhex
      by_cases ha : ix H16 ((ofBytes s).getD (2 * k) 0) < 0
      · rw [if_pos (decide_eq_true ha), if_pos ha]; rfl
      · rw [if_neg (by simpa using ha), if_neg ha]
        by_cases hb : ix H16 ((ofBytes s).getD (2 * k + 1) 0) < 0
        · rw [if_pos (decide_eq_true hb), if_pos hb]; rfl
        · rw [if_neg (by simpa using hb), if_neg hb]
          change f9.S2 n (f9.J3 n (f9.J1 n m)) s out ((2 * k : Nat) : Int) (ix H16 ((ofBytes s).getD (2 * k) 0)) (ix H16 ((ofBytes s).getD (2 * k + 1) 0)) = _
          unfold f9.S2
          rw [if_pos (by omega)]
          change f9.S3 n (f9.J1 n m) s _ ((2 * k : Nat) : Int) = _
          unfold f9.S3
          rw [wrap_i64 (x := ((2 * k : Nat) : Int) + 2) (by omega), wrap_i64 (x := ix H16 ((ofBytes s).getD (2 * k) 0) * 16) (by omega), wrap_i64 (by omega), wrap_u8 (by omega)]
          have ih := unhex_J9 n s hs he hn m (k + 1) (out ++ [ix H16 ((ofBytes s).getD (2 * k) 0) * 16 + ix H16 ((ofBytes s).getD (2 * k + 1) 0)]) (by omega) (by omega) (by simp [hl])
          rw [show ((2 * (k + 1) : Nat) : Int) = ((2 * k : Nat) : Int) + 2 by omega] at ih
          rw [ih]
          rw [show 2 * (k + 1) = 2 * k + 1 + 1 by omega]
          congr 2
          unfold pre
          cases unhex ((ofBytes s).drop (2 * k + 1 + 1)) <;> simp
    · rw [if_neg (by simp; omega)]
      have : 2 * k = s.size := by omega
      rw [List.drop_of_length_le (by omega)]
      change f9.S4 n out = _
      unfold f9.S4
      simp [unhex, pre, back]
      rfl

theorem unhex_odd : ∀ (l : List Int), l.length % 2 = 1 → unhex l = none
  | [], h => by simp at h
  | [_], _ => rfl
  | a :: b :: r, h => by
    unfold unhex
    rw [unhex_odd r (by simp at h; omega)]
    simp

theorem Unhex_eq {n : Nat} {s : ByteArray} (hs : s.size ≤ 140737488355328) (hn : s.size < n) : f8.f n s = some (back (unhex (ofBytes s))) := by
  have hsz := size_of s
  have hm : Int.tmod (s.size : Int) 2 = ((s.size % 2 : Nat) : Int) := by rw [Int.tmod_eq_emod_of_nonneg (by omega)]; omega
  unfold f8.f f8.S0
  rw [hm]
  by_cases h : s.size % 2 = 0
  · rw [if_neg (by simp [h])]
    have := unhex_J8 n s hs h n 0 [] (by omega) (by omega) rfl
    rw [Nat.mul_zero] at this
    exact this.trans (by simp [pre]; rfl)
  · rw [if_pos (by simp; omega), unhex_odd _ (by omega)]; rfl

theorem refUnhex_eq {n : Nat} {s : ByteArray} (hs : s.size ≤ 140737488355328) (hn : s.size < n) (hn2 : 16 < n) : f9.f n s = some (back (unhex (ofBytes s))) := by
  have hsz := size_of s
  have hm : Int.tmod (s.size : Int) 2 = ((s.size % 2 : Nat) : Int) := by rw [Int.tmod_eq_emod_of_nonneg (by omega)]; omega
  unfold f9.f f9.S0
  rw [hm]
  by_cases h : s.size % 2 = 0
  · rw [if_neg (by simp [h])]
    have := unhex_J9 n s hs h hn2 n 0 [] (by omega) (by omega) rfl
    rw [Nat.mul_zero] at this
    exact this.trans (by simp [pre]; rfl)
  · rw [if_pos (by simp; omega), unhex_odd _ (by omega)]; rfl

end Go.Proofs.Ytnlckhekcklcpaa

namespace Go.Proofs.Ytnlckhekcklcpaa
open Go Go.Va Go.Proofs

abbrev R32 : ByteArray := ⟨#[48, 49, 50, 51, 52, 53, 54, 55, 56, 57, 97, 98, 99, 100, 101, 102, 103, 104, 105, 106, 107, 108, 109, 110, 111, 112, 113, 114, 115, 116, 117, 118]⟩

/-- A number's letters, the last k ahead of what is there. -/
def num (x : Int) : Nat → List Int → List Int
  | 0, l => l
  | k + 1, l => num (x / 32) k (bt R32 (x % 32) :: l)

theorem num_length : ∀ (k : Nat) (x : Int) (l : List Int), (num x k l).length = k + l.length
  | 0, x, l => by simp [num]
  | k + 1, x, l => by simp only [num]; rw [num_length k]; simp; omega

theorem num_J17 (n : Nat) : ∀ (e m : Nat) (x : Int) (l : List Int), e ≤ 13 → e < m → 0 ≤ x → x ≤ 18446744073709551615 → l.length = 13 - e →
    f17.J1 n m (x, bytesOf l, ((13 - e : Nat) : Int), ()) = some (bytesOf (num x e l), ())
  | e, 0, x, l, _, h, _, _, _ => by omega
  | 0, m + 1, x, l, _, _, _, _, _ => by
    change f17.S1 n (f17.J1 n m) (f17.J2 n) x (bytesOf l) ((13 - 0 : Nat) : Int) = _
    unfold f17.S1
    rw [if_neg (by decide)]
    rfl
  | e + 1, m + 1, x, l, he, hm, h0, h1, hl => by
    change f17.S1 n (f17.J1 n m) (f17.J2 n) x (bytesOf l) ((13 - (e + 1) : Nat) : Int) = _
    unfold f17.S1
    have e2 : Int.tmod x 32 = x % 32 := Int.tmod_eq_emod_of_nonneg h0
    have e3 : Int.tdiv x 32 = x / 32 := Int.tdiv_eq_ediv_of_nonneg h0
    have h32 : R32.size = 32 := rfl
    have h32' : R32.size = 32 := rfl
    delta R32 at h32'
    rw [e2, e3, wrap_u64 (x := x % 32 + 1) (by omega), wrap_u64 (x := x / 32) (by omega), wrap_i64 (by omega)]
    rw [if_pos (decide_eq_true (by omega)), if_pos ⟨by omega, by omega⟩, if_pos ⟨by omega, by omega⟩]
    have ex : R32.extract (x % 32).toNat (x % 32 + 1).toNat = bytesOf [bt R32 (x % 32)] := by
      rw [show (x % 32 + 1).toNat = (x % 32).toNat + 1 by omega, extract_one (by omega), show (((x % 32).toNat : Nat) : Int) = x % 32 by omega]
    rw [ex, if_pos (by rw [size_bytesOf, size_bytesOf]; simp; omega), ← bytesOf_append]
    have ih := num_J17 n e m (x / 32) ([bt R32 (x % 32)] ++ l) (by omega) (by omega) (by omega) (by omega) (by simp; omega)
    rw [show ((13 - e : Nat) : Int) = ((13 - (e + 1) : Nat) : Int) + 1 by omega] at ih
    rw [ih]
    rfl

theorem refNumber_eq {n : Nat} {x : Int} (hx : 0 ≤ x ∧ x ≤ 18446744073709551615) (hn : 13 < n) : f17.f n x = some (bytesOf (num x 13 []), ()) :=
  num_J17 n 13 n x [] (by omega) hn hx.1 hx.2 rfl

theorem num_step16 (n m : Nat) (x : Int) (out : List Int) (t : Nat) (ht : t < 13) (hx : 0 ≤ x ∧ x ≤ 18446744073709551615) :
    f16.J1 n (m + 1) (x, (t : Int), out, ()) = f16.J1 n m (x, ((t + 1 : Nat) : Int), List.set out t (bt R32 (x / 2 ^ (5 * (12 - t)) % 32)), ()) := by
  change f16.S1 n (f16.J1 n m) (f16.J2 n) x (t : Int) out = _
  unfold f16.S1
  rw [if_pos (decide_eq_true (by omega)), wrap_i64 (x := 12 - (t : Int)) (by omega), wrap_u64 (x := 12 - (t : Int)) (by omega), wrap_u64 (x := 5 * (12 - (t : Int))) (by omega), if_neg (by omega)]
  have e5 : (5 * (12 - (t : Int))) = ((5 * (12 - t) : Nat) : Int) := by omega
  have hb : 5 * (12 - t) ≤ IntKind.u64.bits := by change _ ≤ 64; omega
  rw [e5, shr_eq hb]
  have hpos : (0 : Int) < 2 ^ (5 * (12 - t)) := Int.pow_pos (by decide)
  have hd0 : 0 ≤ x / 2 ^ (5 * (12 - t)) := Int.ediv_nonneg hx.1 (by omega)
  have hd1 : x / 2 ^ (5 * (12 - t)) ≤ x := Int.ediv_le_self _ hx.1
  have e2 : bitI .and .u64 (x / 2 ^ (5 * (12 - t))) 31 = x / 2 ^ (5 * (12 - t)) % 32 := and_mask (k := .u64) (w := 5) hd0 (by change _ < (18446744073709551616 : Int); omega) (by decide)
  rw [e2]
  have h32 : (R32.size : Int) = 32 := rfl
  delta R32 at h32
  rw [if_pos ⟨by omega, by omega⟩, if_pos ⟨by omega, by omega⟩, wrap_i64 (by omega), Int.toNat_natCast]
  rfl

theorem Number_eq {n : Nat} {x : Int} (hx : 0 ≤ x ∧ x ≤ 18446744073709551615) (hn : 13 < n) : f16.f n x = some (bytesOf (num x 13 []), ()) := by
  obtain ⟨k, rfl⟩ : ∃ k, n = k + 14 := ⟨n - 14, by omega⟩
  change f16.J1 (k + 14) (k + 13 + 1) (x, ((0 : Nat) : Int), List.replicate 13 0, ()) = _
  refine Eq.trans (num_step16 (k + 14) (k + 13) x _ 0 (by decide) hx) ?_
  refine Eq.trans (num_step16 (k + 14) (k + 12) x _ 1 (by decide) hx) ?_
  refine Eq.trans (num_step16 (k + 14) (k + 11) x _ 2 (by decide) hx) ?_
  refine Eq.trans (num_step16 (k + 14) (k + 10) x _ 3 (by decide) hx) ?_
  refine Eq.trans (num_step16 (k + 14) (k + 9) x _ 4 (by decide) hx) ?_
  refine Eq.trans (num_step16 (k + 14) (k + 8) x _ 5 (by decide) hx) ?_
  refine Eq.trans (num_step16 (k + 14) (k + 7) x _ 6 (by decide) hx) ?_
  refine Eq.trans (num_step16 (k + 14) (k + 6) x _ 7 (by decide) hx) ?_
  refine Eq.trans (num_step16 (k + 14) (k + 5) x _ 8 (by decide) hx) ?_
  refine Eq.trans (num_step16 (k + 14) (k + 4) x _ 9 (by decide) hx) ?_
  refine Eq.trans (num_step16 (k + 14) (k + 3) x _ 10 (by decide) hx) ?_
  refine Eq.trans (num_step16 (k + 14) (k + 2) x _ 11 (by decide) hx) ?_
  refine Eq.trans (num_step16 (k + 14) (k + 1) x _ 12 (by decide) hx) ?_
  have hd : ∀ (y : Int) (a : Nat), y / 2 ^ (5 * a) / 32 = y / 2 ^ (5 * (a + 1)) := by
    intro y a
    rw [Int.ediv_ediv_of_nonneg (Int.le_of_lt (Int.pow_pos (by decide)))]
    congr 1
    rw [show 5 * (a + 1) = 5 * a + 5 by omega, Int.pow_add]; rfl
  have h0 : x = x / 2 ^ (5 * 0) := by simp
  have e : num x 13 [] = [bt R32 (x / 2 ^ (5 * 12) % 32), bt R32 (x / 2 ^ (5 * 11) % 32), bt R32 (x / 2 ^ (5 * 10) % 32), bt R32 (x / 2 ^ (5 * 9) % 32), bt R32 (x / 2 ^ (5 * 8) % 32), bt R32 (x / 2 ^ (5 * 7) % 32),
      bt R32 (x / 2 ^ (5 * 6) % 32), bt R32 (x / 2 ^ (5 * 5) % 32), bt R32 (x / 2 ^ (5 * 4) % 32), bt R32 (x / 2 ^ (5 * 3) % 32), bt R32 (x / 2 ^ (5 * 2) % 32), bt R32 (x / 2 ^ (5 * 1) % 32), bt R32 (x / 2 ^ (5 * 0) % 32)] := by
    conv => lhs; rw [h0]
    simp only [num, hd]
  rw [e]
  change f16.S1 _ (f16.J1 (k + 14) k) (f16.J2 (k + 14)) x ((12 + 1 : Nat) : Int) _ = _
  unfold f16.S1
  rw [if_neg (by decide)]
  rfl

/-- The number that letters are. -/
def unnumGo : Int → List Int → Option Int
  | acc, [] => some acc
  | acc, c :: r => if ix R32 c < 0 then none else unnumGo (acc * 32 + ix R32 c) r
def unnum : List Int → Option Int
  | [] => none
  | c :: r => if ix R32 c < 0 ∨ ix R32 c > 15 then none else unnumGo (ix R32 c) r
def unnumber (l : List Int) : Option Int := if l.length = 13 then unnum l else none

def backN (o : Option Int) : Int × Int × Unit :=
  match o with
  | some x => (x, 0, ())
  | none => (0, 5, ())

theorem step_u {acc d : Int} (ha : 0 ≤ acc) (hd : 0 ≤ d ∧ d < 32) (h : acc * 32 + d ≤ 18446744073709551615) : bitI .or .u64 (shlI .u64 acc 5) (IntKind.u64.wrap d) = acc * 32 + d := by
  have e : shlI .u64 acc 5 = acc * 2 ^ 5 := by
    unfold shlI
    change IntKind.u64.wrap (acc * 2 ^ 5) = _
    exact wrap_u64 (by omega)
  rw [e, wrap_u64 (by omega), or_low_u rfl (by omega) ha hd.1 (by change acc * 2 ^ 5 + d < 18446744073709551616; omega)]
  omega

theorem unnum_J14 (n : Nat) (s : ByteArray) (hs : s.size = 13) : ∀ (e m : Nat) (acc : Int), e ≤ 13 → e < m → 0 ≤ acc → (acc + 1) * 32 ^ e ≤ 18446744073709551616 →
    f14.J2 n m (s, acc, 13, ((13 - e : Nat) : Int), ()) = some (backN (unnumGo acc ((ofBytes s).drop (13 - e))))
  | e, 0, acc, _, h, _, _ => by omega
  | 0, m + 1, acc, _, _, _, _ => by
    have hsz := size_of s
    change f14.S2 n (f14.J2 n m) (f14.J3 n) s acc 13 ((13 - 0 : Nat) : Int) = _
    unfold f14.S2
    rw [if_neg (by decide), List.drop_of_length_le (by omega)]
    rfl
  | e + 1, m + 1, acc, he, hm, h0, h1 => by
    have hsz := size_of s
    change f14.S2 n (f14.J2 n m) (f14.J3 n) s acc 13 ((13 - (e + 1) : Nat) : Int) = _
    unfold f14.S2
    rw [if_pos (decide_eq_true (by omega)), if_pos ⟨by omega, by omega⟩, bt_getD, Int.toNat_natCast]
    have hd : (ofBytes s).drop (13 - (e + 1)) = (ofBytes s).getD (13 - (e + 1)) 0 :: (ofBytes s).drop (13 - e) := by
      rw [getD_drop (by omega), show 13 - (e + 1) + 1 = 13 - e by omega]
    rw [hd]
    generalize (ofBytes s).getD (13 - (e + 1)) 0 = c
    have hf : f22.f R32 c = some (ix R32 c, ()) := rfl
    rw [hf]
    simp only [bnd, unnumGo]
    have hr := ix_range R32 c
    have h32 : (R32.size : Int) = 32 := rfl
    by_cases hc : ix R32 c < 0
    · rw [if_pos (decide_eq_true hc), if_pos hc]; rfl
    · rw [if_neg (by simpa using hc), if_neg hc]
      have hp : (1 : Int) ≤ 32 ^ e := Int.pow_pos (by decide)
      have h2 : (acc * 32 + ix R32 c + 1) * 32 ^ e ≤ 18446744073709551616 := by
        have e1 : (acc + 1) * 32 ^ (e + 1) = (acc * 32 + 32) * 32 ^ e := by rw [Int.pow_succ, Int.mul_comm (32 ^ e) 32, ← Int.mul_assoc]; congr 1; omega
        rw [e1] at h1
        have : (acc * 32 + ix R32 c + 1) * 32 ^ e ≤ (acc * 32 + 32) * 32 ^ e := Int.mul_le_mul_of_nonneg_right (by omega) (by omega)
        omega
      have h3 : acc * 32 + ix R32 c + 1 ≤ (acc * 32 + ix R32 c + 1) * 32 ^ e := by
        have := Int.mul_le_mul_of_nonneg_left hp (show 0 ≤ acc * 32 + ix R32 c + 1 by omega)
        rw [Int.mul_one] at this; exact this
      rw [step_u h0 (by omega) (by omega), wrap_i64 (by omega)]
      have ih := unnum_J14 n s hs e m (acc * 32 + ix R32 c) (by omega) (by omega) (by omega) h2
      rw [show ((13 - e : Nat) : Int) = ((13 - (e + 1) : Nat) : Int) + 1 by omega] at ih
      exact ih

end Go.Proofs.Ytnlckhekcklcpaa

namespace Go.Proofs.Ytnlckhekcklcpaa
open Go Go.Va Go.Proofs

theorem ix32_cut : ∀ c : Fin 256, (102 < ((c : Nat) : Int) → ix R32 ((c : Nat) : Int) < 0 ∨ ix R32 ((c : Nat) : Int) > 15) ∧ (((c : Nat) : Int) ≤ 102 → ix R32 ((c : Nat) : Int) ≤ 15) := by decide +kernel

theorem ix32_cut' {c : Int} (h : 0 ≤ c ∧ c ≤ 255) : (102 < c → ix R32 c < 0 ∨ ix R32 c > 15) ∧ (c ≤ 102 → ix R32 c ≤ 15) := by
  have := ix32_cut ⟨c.toNat, by omega⟩
  rw [show (((⟨c.toNat, by omega⟩ : Fin 256) : Nat) : Int) = c by simp; omega] at this
  exact this

theorem unnum_cons (c : Int) (r : List Int) : unnum (c :: r) = if ix R32 c < 0 ∨ ix R32 c > 15 then none else unnumGo (ix R32 c) r := rfl
theorem unnumGo_cons (a c : Int) (r : List Int) : unnumGo a (c :: r) = if ix R32 c < 0 then none else unnumGo (a * 32 + ix R32 c) r := rfl

theorem Unnumber_eq {n : Nat} {s : ByteArray} (hn : 13 < n) : f14.f n s = some (backN (unnumber (ofBytes s))) := by
  have hsz := size_of s
  unfold f14.f f14.S0 unnumber
  by_cases h : s.size = 13
  · obtain ⟨k, rfl⟩ : ∃ k, n = k + 14 := ⟨n - 14, by omega⟩
    have hl : ofBytes s = (ofBytes s).getD 0 0 :: (ofBytes s).drop 1 := by
      have := getD_drop (l := ofBytes s) (k := 0) (by omega)
      rwa [List.drop_zero] at this
    have hr := ofBytes_range (s := s) (getD_mem (l := ofBytes s) (k := 0) (by omega))
    have hc := ix32_cut' hr
    rw [if_neg (by simp; omega), if_pos ⟨by omega, by omega⟩, bt_getD, Int.toNat_zero, if_pos (show (ofBytes s).length = 13 by omega)]
    have hu : unnum (ofBytes s) = if ix R32 ((ofBytes s).getD 0 0) < 0 ∨ ix R32 ((ofBytes s).getD 0 0) > 15 then none else unnumGo (ix R32 ((ofBytes s).getD 0 0)) ((ofBytes s).drop 1) := by
      conv => lhs; rw [hl]
      exact unnum_cons _ _
    rw [hu]
    by_cases hg : (ofBytes s).getD 0 0 > 102
    · rw [if_pos (decide_eq_true hg), if_pos (hc.1 hg)]; rfl
    · rw [if_neg (show ¬ decide ((ofBytes s).getD 0 0 > 102) = true from fun q => hg (of_decide_eq_true q))]
      have hc2 := hc.2 (by omega)
      change f14.S2 (k + 14) (f14.J2 (k + 14) (k + 13)) (f14.J3 (k + 14)) s 0 (s.size : Int) 0 = _
      unfold f14.S2
      have hb0 : bt s 0 = (ofBytes s).getD 0 0 := bt_getD s 0
      rw [if_pos (decide_eq_true (by omega)), if_pos ⟨by omega, by omega⟩, hb0]
      generalize (ofBytes s).getD 0 0 = c at hr hc hc2 hg ⊢
      have hf : f22.f R32 c = some (ix R32 c, ()) := rfl
      rw [hf]
      simp only [bnd]
      have hrr := ix_range R32 c
      by_cases hx : ix R32 c < 0
      · rw [if_pos (decide_eq_true hx), if_pos (Or.inl hx)]; rfl
      · rw [if_neg (by simpa using hx), if_neg (by omega)]
        have := unnum_J14 (k + 14) s h 12 (k + 13) (ix R32 c) (by omega) (by omega) (by omega) (by omega)
        rw [step_u (by omega) ⟨by omega, by omega⟩ (by omega), h, wrap_i64 (by omega)]
        rw [show (0 : Int) * 32 + ix R32 c = ix R32 c by omega]
        exact this
  · rw [if_pos (by simp; omega), if_neg (by omega)]; rfl

theorem unnum_J15 (n : Nat) (s : ByteArray) (hs : s.size = 13) (hn : 32 < n) : ∀ (e m : Nat) (acc : Int), e ≤ 12 → e < m → 0 ≤ acc → (acc + 1) * 32 ^ e ≤ 18446744073709551616 →
    f15.J1 n m (s, acc, ((13 - e : Nat) : Int), ()) = some (backN (unnumGo acc ((ofBytes s).drop (13 - e))))
  | e, 0, acc, _, h, _, _ => by omega
  | 0, m + 1, acc, _, _, _, _ => by
    have hsz := size_of s
    change f15.S1 n (f15.J2 n (f15.J1 n m)) (f15.J4 n) s acc ((13 - 0 : Nat) : Int) = _
    unfold f15.S1
    rw [if_neg (by decide), List.drop_of_length_le (by omega)]
    rfl
  | e + 1, m + 1, acc, he, hm, h0, h1 => by
    have hsz := size_of s
    change f15.S1 n (f15.J2 n (f15.J1 n m)) (f15.J4 n) s acc ((13 - (e + 1) : Nat) : Int) = _
    unfold f15.S1
    rw [if_pos (decide_eq_true (by omega)), if_pos ⟨by omega, by omega⟩, bt_getD, Int.toNat_natCast]
    have hd : (ofBytes s).drop (13 - (e + 1)) = (ofBytes s).getD (13 - (e + 1)) 0 :: (ofBytes s).drop (13 - e) := by
      rw [getD_drop (by omega), show 13 - (e + 1) + 1 = 13 - e by omega]
    have hq := ofBytes_range (s := s) (getD_mem (l := ofBytes s) (k := 13 - (e + 1)) (by omega))
    rw [hd]
    generalize (ofBytes s).getD (13 - (e + 1)) 0 = c at hq ⊢
    have hf : f23.f n R32 c = some (ix R32 c, ()) := place_eq hq (by decide) hn
    rw [hf, unnumGo_cons]
    simp only [bnd]
    have hr := ix_range R32 c
    have h32 : (R32.size : Int) = 32 := rfl
    by_cases hc : ix R32 c < 0
    · rw [if_pos (decide_eq_true hc), if_pos hc]; rfl
    · rw [if_neg (by simpa using hc), if_neg hc]
      have hp : (1 : Int) ≤ 32 ^ e := Int.pow_pos (by decide)
      have h2 : (acc * 32 + ix R32 c + 1) * 32 ^ e ≤ 18446744073709551616 := by
        have e1 : (acc + 1) * 32 ^ (e + 1) = (acc * 32 + 32) * 32 ^ e := by rw [Int.pow_succ, Int.mul_comm (32 ^ e) 32, ← Int.mul_assoc]; congr 1; omega
        rw [e1] at h1
        have : (acc * 32 + ix R32 c + 1) * 32 ^ e ≤ (acc * 32 + 32) * 32 ^ e := Int.mul_le_mul_of_nonneg_right (by omega) (by omega)
        omega
      have h3 : acc * 32 + ix R32 c + 1 ≤ (acc * 32 + ix R32 c + 1) * 32 ^ e := by
        have := Int.mul_le_mul_of_nonneg_left hp (show 0 ≤ acc * 32 + ix R32 c + 1 by omega)
        rw [Int.mul_one] at this; exact this
      rw [if_neg (by simp; omega)]
      change f15.S2 n (f15.J3 n (f15.J1 n m)) s acc ((13 - (e + 1) : Nat) : Int) (ix R32 c) = _
      unfold f15.S2
      change f15.S3 n (f15.J1 n m) s _ ((13 - (e + 1) : Nat) : Int) = _
      unfold f15.S3
      rw [wrap_u64 (x := acc * 32) (by omega), wrap_u64 (x := ix R32 c) (by omega), wrap_u64 (by omega), wrap_i64 (by omega)]
      have ih := unnum_J15 n s hs hn e m (acc * 32 + ix R32 c) (by omega) (by omega) (by omega) h2
      rw [show ((13 - e : Nat) : Int) = ((13 - (e + 1) : Nat) : Int) + 1 by omega] at ih
      exact ih

theorem refUnnumber_eq {n : Nat} {s : ByteArray} (hn : 32 < n) : f15.f n s = some (backN (unnumber (ofBytes s))) := by
  have hsz := size_of s
  unfold f15.f f15.S0 unnumber
  by_cases h : s.size = 13
  · obtain ⟨k, rfl⟩ : ∃ k, n = k + 33 := ⟨n - 33, by omega⟩
    have hl : ofBytes s = (ofBytes s).getD 0 0 :: (ofBytes s).drop 1 := by
      have := getD_drop (l := ofBytes s) (k := 0) (by omega)
      rwa [List.drop_zero] at this
    have hr := ofBytes_range (s := s) (getD_mem (l := ofBytes s) (k := 0) (by omega))
    rw [if_neg (by simp; omega), if_pos (show (ofBytes s).length = 13 by omega)]
    have hu : unnum (ofBytes s) = if ix R32 ((ofBytes s).getD 0 0) < 0 ∨ ix R32 ((ofBytes s).getD 0 0) > 15 then none else unnumGo (ix R32 ((ofBytes s).getD 0 0)) ((ofBytes s).drop 1) := by
      conv => lhs; rw [hl]
      exact unnum_cons _ _
    rw [hu]
    change f15.S1 (k + 33) (f15.J2 (k + 33) (f15.J1 (k + 33) (k + 32))) (f15.J4 (k + 33)) s 0 0 = _
    unfold f15.S1
    have hb0 : bt s 0 = (ofBytes s).getD 0 0 := bt_getD s 0
    rw [if_pos (by decide), if_pos ⟨by omega, by omega⟩, hb0]
    generalize (ofBytes s).getD 0 0 = c at hr ⊢
    have hf : f23.f (k + 33) R32 c = some (ix R32 c, ()) := place_eq hr (by decide) (by change 32 < k + 33; omega)
    rw [hf]
    simp only [bnd]
    have hrr := ix_range R32 c
    by_cases hx : ix R32 c < 0
    · rw [if_pos (decide_eq_true hx), if_pos (Or.inl hx)]; rfl
    · rw [if_neg (by simpa using hx), if_pos (by decide)]
      by_cases hy : ix R32 c > 15
      · rw [if_pos (decide_eq_true hy), if_pos (Or.inr hy)]; rfl
      · rw [if_neg (by simpa using hy), if_neg (by omega)]
        have := unnum_J15 (k + 33) s h (by omega) 12 (k + 32) (ix R32 c) (by omega) (by omega) (by omega) (by omega)
        change f15.S2 _ (f15.J3 _ (f15.J1 (k + 33) (k + 32))) s 0 0 (ix R32 c) = _
        unfold f15.S2
        change f15.S3 _ (f15.J1 (k + 33) (k + 32)) s _ 0 = _
        unfold f15.S3
        rw [wrap_u64 (x := 0 * 32) (by omega), wrap_u64 (x := ix R32 c) (by omega), wrap_u64 (by omega), wrap_i64 (by omega)]
        rw [show (0 : Int) * 32 + ix R32 c = ix R32 c by omega]
        exact this
  · rw [if_pos (by simp; omega), if_neg (by omega)]; rfl
end Go.Proofs.Ytnlckhekcklcpaa

