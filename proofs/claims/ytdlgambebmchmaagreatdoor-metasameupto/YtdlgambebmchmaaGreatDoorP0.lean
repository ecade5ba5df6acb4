/-
  The plain laws.
-/
import Derived.Test.YtdlgambebmchmaaGreatDoorVaPlain
import Derived.Test.YtdlgambebmchmaaGreatDoorF0
import Derived.Lib.ValidU
import Derived.Lib.MapLaws
import Derived.Test.YtdlgambebmchmaaGreatDoorRows
import Derived.Test.YtdlgambebmchmaaGreatDoorCards
import Derived.Test.YtdlgambebmchmaaGreatDoorTie
import Derived.JoinedCond
import Derived.ChangeCalls
import Derived.Lib.LaidIn
import Derived.Lib.LaidU8T
import Derived.Deep.DeepHandedRow
import Derived.ProofKit
import Derived.HandedShaped
import Derived.Shelf.Vars
set_option linter.unusedVariables false
set_option linter.unusedSimpArgs false
namespace Go.Proofs.YtdlgambebmchmaaGreatDoor
open Go Go.Va Go.Proofs

def ok32 (b : UInt8) : Bool := decide (32 ≤ b.toNat) && decide (b.toNat ≠ 127)
/-- A clean text. -/
def cleanB (s : ByteArray) : Bool := s.data.toList.all ok32 && Lib.validD s.data.toList
theorem bnd_some {α β : Type} (a : α) (f : α → Option β) : bnd (some a) f = f a := rfl
theorem all_drop (l : List UInt8) (k : Nat) (h : k < l.length) : (l.drop k).all ok32 = (ok32 (l.getD k 0) && (l.drop (k + 1)).all ok32) := by
  rw [List.drop_eq_getElem_cons h, List.all_cons, List.getD_eq_getElem?_getD, List.getElem?_eq_getElem h]
  rfl
theorem ok32_hi {b : UInt8} (h : 128 ≤ b.toNat) : ok32 b = true := by
  unfold ok32; rw [decide_eq_true (by omega), decide_eq_true (by omega)]; rfl
theorem getD_dropA (l : List UInt8) (k i : Nat) : (l.drop k).getD i 0 = l.getD (k + i) 0 := by
  rw [List.getD_eq_getElem?_getD, List.getD_eq_getElem?_getD, List.getElem?_drop]
theorem bt_nat (s : ByteArray) (k : Nat) : bt s (k : Int) = ((s.data.toList.getD k 0).toNat : Int) := rfl
end Go.Proofs.YtdlgambebmchmaaGreatDoor

namespace Go.Proofs.YtdlgambebmchmaaGreatDoor
open Go Go.Va Go.Proofs

theorem ba_beq (a b : ByteArray) : (a == b) = decide (a = b) := by
  change (a.data == b.data) = _
  by_cases h : a = b
  · subst h; simp
  · rw [decide_eq_false h]
    exact beq_false_of_ne (fun e => h (by cases a; cases b; exact congrArg _ e))
theorem eqS_eq (a b : ByteArray) : eqS a b = (a == b) := by
  unfold eqS
  rw [Lib.toList_data, Lib.toList_data, ba_beq]
  by_cases h : a = b
  · subst h; simp
  · rw [decide_eq_false h]
    exact beq_false_of_ne (fun e => h (by cases a; cases b; simp at e; rw [e]))
/-- The moment in the bounds that is nearest. -/
def clampI (t : Int) : Int := if t < -62135596800 then -62135596800 else if t > 253402300799 then 253402300799 else t
/-- May it be a lock? -/
def lockB (l : D_api_Lock) : Bool :=
  if l.1 = 0 then l.2.1 == 0 else if l.1 = 1 ∨ l.1 = 2 then l.2.1 == clampI l.2.1 else false
theorem size0 (s : ByteArray) : eqS s ⟨#[]⟩ = decide (s.size = 0) := by
  rw [eqS_eq, ba_beq]
  by_cases h : s = ⟨#[]⟩
  · subst h; rfl
  · rw [decide_eq_false h, decide_eq_false]
    intro h2
    apply h
    cases s with | mk d =>
    have : d = #[] := Array.eq_empty_of_size_eq_zero h2
    rw [this]
/-- May it be a tag? -/
def tagB (t : D_api_Tag) : Bool := decide (1 ≤ t.1.size) && (decide (t.1.size ≤ 64) && (decide (t.2.1.size ≤ 64) && (cleanB t.1 && cleanB t.2.1)))
/-- The room that the rounds have. -/
def TB (n : Nat) (t : D_api_Tag) : Prop := t.1.size < n ∧ t.2.1.size < n
/-- A list, one by one, each beside the one ahead of it. -/
def chk {α : Type} (p : α → Bool) (q : α → α → Bool) : Option α → List α → Bool
  | _, [] => true
  | none, x :: l => p x && chk p q (some x) l
  | some y, x :: l => p x && (q y x && chk p q (some x) l)
/-- What stands ahead of a place. -/
def prev {α : Type} (l : List α) (k : Nat) : Option α := if k = 0 then none else l[k - 1]?
theorem chk_zero {α : Type} {p : α → Bool} {q : α → α → Bool} {l : List α} {d : α} (h : 0 < l.length) : chk p q (prev l 0) (l.drop 0) = (p (l.getD 0 d) && chk p q (prev l 1) (l.drop 1)) := by
  cases l with
  | nil => simp at h
  | cons x r => rfl
theorem chk_succ {α : Type} {p : α → Bool} {q : α → α → Bool} {l : List α} {d : α} {k : Nat} (h0 : 0 < k) (h : k < l.length) : chk p q (prev l k) (l.drop k) = (p (l.getD k d) && (q (l.getD (k - 1) d) (l.getD k d) && chk p q (prev l (k + 1)) (l.drop (k + 1)))) := by
  rw [List.drop_eq_getElem_cons h]
  unfold prev
  rw [if_neg (by omega), if_neg (by omega), List.getElem?_eq_getElem (by omega), Nat.add_sub_cancel, List.getElem?_eq_getElem h]
  rw [List.getD_eq_getElem?_getD, List.getD_eq_getElem?_getD, List.getElem?_eq_getElem h, List.getElem?_eq_getElem (by omega)]
  rfl
theorem chk_end {α : Type} {p : α → Bool} {q : α → α → Bool} {l : List α} {k : Nat} (h : l.length ≤ k) (o : Option α) : chk p q o (l.drop k) = true := by
  rw [List.drop_eq_nil_of_le h]; cases o <;> rfl
theorem getD_memA {α : Type} {l : List α} {k : Nat} {d : α} (h : k < l.length) : l.getD k d ∈ l := by
  rw [List.getD_eq_getElem?_getD, List.getElem?_eq_getElem h]; exact List.getElem_mem h
/-- May they be tags? -/
def tagsB (l : List (D_api_Tag)) : Bool := decide (l.length ≤ 8) && chk tagB (fun a b => ltS a.1 b.1) none l
/-- The room for tags. -/
def TsB (n : Nat) (l : List (D_api_Tag)) : Prop := l.length < n ∧ ∀ t ∈ l, TB n t
theorem less_tri : ∀ x y : List UInt8, Op.bytesLess x y = !(Op.bytesLess y x || y == x)
  | [], [] => rfl
  | [], _ :: _ => rfl
  | _ :: _, [] => rfl
  | a :: x, b :: y => by
    have ih := less_tri x y
    simp only [Op.bytesLess, List.cons_beq_cons, ih]
    by_cases h : a = b
    · subst h
      simp
    · have h1 : (a == b) = false := beq_false_of_ne h
      have h2 : (b == a) = false := beq_false_of_ne (fun e => h e.symm)
      rw [h1, h2]
      simp only [Bool.false_and, Bool.or_false]
      have h3 : ¬ a.toNat = b.toNat := fun e => h (UInt8.toNat_inj.1 e)
      have h4 : decide (a < b) = decide (a.toNat < b.toNat) := decide_eq_decide.2 UInt8.lt_iff_toNat_lt
      have h5 : decide (b < a) = decide (b.toNat < a.toNat) := decide_eq_decide.2 UInt8.lt_iff_toNat_lt
      rw [h4, h5]
      by_cases h6 : a.toNat < b.toNat
      · rw [decide_eq_true h6, decide_eq_false (by omega)]; rfl
      · rw [decide_eq_false h6, decide_eq_true (by omega)]; rfl
theorem ltS_tri (a b : ByteArray) : ltS a b = !(ltS b a || eqS b a) := less_tri _ _
/-- Two lists, one by one. -/
def allB {α : Type} (q : α → α → Bool) : List α → List α → Bool
  | [], [] => true
  | x :: a, y :: b => q x y && allB q a b
  | _, _ => false
theorem allB_len {α : Type} {q : α → α → Bool} : ∀ (a b : List α), a.length ≠ b.length → allB q a b = false
  | [], [], h => absurd rfl h
  | [], _ :: _, _ => rfl
  | _ :: _, [], _ => rfl
  | x :: a, y :: b, h => by
    unfold allB
    rw [allB_len a b (by simp at h; omega), Bool.and_false]
theorem allB_step {α : Type} {q : α → α → Bool} {a b : List α} {k : Nat} (d : α) (ha : k < a.length) (hb : k < b.length) : allB q (a.drop k) (b.drop k) = (q (a.getD k d) (b.getD k d) && allB q (a.drop (k + 1)) (b.drop (k + 1))) := by
  rw [List.drop_eq_getElem_cons ha, List.drop_eq_getElem_cons hb]
  rw [List.getD_eq_getElem?_getD, List.getD_eq_getElem?_getD, List.getElem?_eq_getElem ha, List.getElem?_eq_getElem hb]
  rfl
theorem allB_end {α : Type} {q : α → α → Bool} {a b : List α} {k : Nat} (ha : a.length ≤ k) (hb : b.length ≤ k) : allB q (a.drop k) (b.drop k) = true := by
  rw [List.drop_eq_nil_of_le ha, List.drop_eq_nil_of_le hb]; rfl
theorem allB_refl {α : Type} {q : α → α → Bool} : ∀ (a : List α), (∀ x ∈ a, q x x = true) → allB q a a = true
  | [], _ => rfl
  | x :: a, h => by
    unfold allB
    rw [h x List.mem_cons_self, allB_refl a (fun y hy => h y (List.mem_cons_of_mem _ hy))]; rfl
/-- Are two tags one? -/
def sameT (a b : D_api_Tag) : Bool := eqS a.1 b.1 && eqS a.2.1 b.2.1
theorem sameT_eq (a b : D_api_Tag) : eqD T_api_Tag a b = sameT a b := by
  change ((a.1 == b.1) && ((a.2.1 == b.2.1) && true)) = _
  unfold sameT
  rw [eqS_eq, eqS_eq, Bool.and_true]
theorem sameT_refl (a : D_api_Tag) : sameT a a = true := by unfold sameT; rw [eqS_self, eqS_self]; rfl
theorem same52_J (n : Nat) (hn : n ≤ 536870912) (a b : List (D_api_Tag)) (hab : a.length = b.length) (hl : a.length < n) : ∀ (m k : Nat), k ≤ a.length → a.length - k < m →
    F_slices_Equal_Tag.J1 n m (a, b, ((a.length : Nat) : Int), (k : Int), ()) = some (allB sameT (a.drop k) (b.drop k), ())
  | 0, k, _, h => by omega
  | m + 1, k, hk, h => by
    rw [F_slices_Equal_Tag.e1]
    simp only [hide_eq, bIf_eq, gIf_eq]
    by_cases hlt : k < a.length
    · have ih := same52_J n hn a b hab hl m (k + 1) (by omega) (by omega)
      rw [if_pos (decide_eq_true (by omega)), if_pos ⟨by omega, by omega⟩, if_pos ⟨by omega, by omega⟩, Int.toNat_natCast, wrap_i64 (x := (k : Int) + 1) (by omega), show ((k : Int) + 1) = ((k + 1 : Nat) : Int) by omega, ih, sameT_eq, allB_step (Va.dflt T_api_Tag) hlt (by omega)]
      cases sameT (a.getD k (Va.dflt T_api_Tag)) (b.getD k (Va.dflt T_api_Tag)) <;> simp
    · rw [if_neg (by simp; omega), allB_end (by omega) (by omega)]
      rw [F_slices_Equal_Tag.e2]
theorem same52 {n : Nat} (hn : n ≤ 536870912) {a b : List (D_api_Tag)} (ha : a.length < n) : F_slices_Equal_Tag.f n a b = some (allB sameT a b, ()) := by
  rw [F_slices_Equal_Tag.e0]
  simp only [hide_eq, bIf_eq]
  by_cases h : a.length = b.length
  · rw [if_neg (by simp [h])]
    exact same52_J n hn a b h ha n 0 (by omega) (by omega)
  · rw [if_pos (by simp; omega), allB_len a b h]
theorem same48 {n : Nat} (hn : n ≤ 536870912) {a b : List (D_api_Tag)} (ha : a.length < n) : F_tags_Same.f n a b = some (allB sameT a b, ()) := by
  rw [F_tags_Same.e0]
  rw [same52 hn ha, bnd_some]
theorem same32_J (n : Nat) (hn : n ≤ 536870912) (a b : List (D_api_Tag)) (hab : a.length = b.length) (hl : a.length < n) : ∀ (m k : Nat), k ≤ a.length → a.length - k < m →
    F_ref08_Same.J1 n m (a, b, (k : Int), ()) = some (allB sameT (a.drop k) (b.drop k), ())
  | 0, k, _, h => by omega
  | m + 1, k, hk, h => by
    rw [F_ref08_Same.e1]
    simp only [hide_eq, bIf_eq, gIf_eq, F_ref08_Same.e2]
    by_cases hlt : k < a.length
    · have ih := same32_J n hn a b hab hl m (k + 1) (by omega) (by omega)
      have hg : (0 ≤ (k : Int) ∧ (k : Int) < ((a.length : Nat) : Int)) := ⟨by omega, by omega⟩
      have hg2 : (0 ≤ (k : Int) ∧ (k : Int) < ((b.length : Nat) : Int)) := ⟨by omega, by omega⟩
      rw [if_pos (decide_eq_true (by omega))]
      simp only [if_pos hg, if_pos hg2, Int.toNat_natCast]
      rw [wrap_i64 (x := (k : Int) + 1) (by omega), show ((k : Int) + 1) = ((k + 1 : Nat) : Int) by omega, ih, allB_step (Va.dflt T_api_Tag) hlt (by omega)]
      have hx : sameT (a.getD k (Va.dflt T_api_Tag)) (b.getD k (Va.dflt T_api_Tag)) = (eqS (a.getD k (Va.dflt T_api_Tag)).1 (b.getD k (Va.dflt T_api_Tag)).1 && eqS (a.getD k (Va.dflt T_api_Tag)).2.1 (b.getD k (Va.dflt T_api_Tag)).2.1) := rfl
      rw [hx]
      rcases Bool.eq_false_or_eq_true (eqS (a.getD k (Va.dflt T_api_Tag)).1 (b.getD k (Va.dflt T_api_Tag)).1) with h1 | h1 <;> rcases Bool.eq_false_or_eq_true (eqS (a.getD k (Va.dflt T_api_Tag)).2.1 (b.getD k (Va.dflt T_api_Tag)).2.1) with h2 | h2 <;> simp only [h1, h2] <;> rfl
    · rw [if_neg (by simp; omega), allB_end (by omega) (by omega)]
      rw [F_ref08_Same.e3]
theorem same32 {n : Nat} (hn : n ≤ 536870912) {a b : List (D_api_Tag)} (ha : a.length < n) : F_ref08_Same.f n a b = some (allB sameT a b, ()) := by
  rw [F_ref08_Same.e0]
  simp only [hide_eq, bIf_eq]
  by_cases h : a.length = b.length
  · rw [if_neg (by simp [h])]
    exact same32_J n hn a b h ha n 0 (by omega) (by omega)
  · rw [if_pos (by simp; omega), allB_len a b h]
/-- May it be a key? -/
def keyB (s : ByteArray) : Bool := decide (1 ≤ s.size) && (decide (s.size ≤ 200) && cleanB s)
end Go.Proofs.YtdlgambebmchmaaGreatDoor

namespace Go.Proofs.YtdlgambebmchmaaGreatDoor
open Go Go.Va Go.Proofs

abbrev Ver : Type := D_api_Version
def mark (v : Ver) : Bool := v.2.1
def vsize (v : Ver) : Int := v.2.2.1
def blob (v : Ver) : Int := v.2.2.2.1
def dig (v : Ver) : List Int := v.2.2.2.2.1
def made (v : Ver) : Int := v.2.2.2.2.2.1
def lock (v : Ver) : D_api_Lock := v.2.2.2.2.2.2.1
def tags (v : Ver) : List (D_api_Tag) := v.2.2.2.2.2.2.2.1
theorem z_pos (z : Int) : decide (z > 0) = decide (1 ≤ z) := decide_eq_decide.2 (by omega)
theorem z_ge (z : Int) : decide (z ≥ 1) = decide (1 ≤ z) := rfl
theorem z_eq (z : Int) (h : 0 ≤ z) : (z == 0) = !decide (1 ≤ z) := by
  by_cases h1 : z = 0
  · subst h1; rfl
  · rw [decide_eq_true (by omega), beq_false_of_ne h1]; rfl
theorem z_lt (z : Int) : decide (z < 1) = !decide (1 ≤ z) := by
  by_cases h : 1 ≤ z
  · rw [decide_eq_true h, decide_eq_false (by omega)]; rfl
  · rw [decide_eq_false h, decide_eq_true (by omega)]; rfl
theorem z_gt (x y : Int) : decide (x > y) = !decide (x ≤ y) := by
  rw [← decide_not]; exact decide_eq_decide.2 (by omega)
theorem z_ge2 (x y : Int) : decide (x ≥ y) = !decide (x < y) := by
  rw [← decide_not]; exact decide_eq_decide.2 (by omega)
/-- May it be a version? -/
def verB (v : Ver) : Bool :=
  decide (1 ≤ v.1) && (decide (made v = clampI (made v)) &&
    if mark v = true then (vsize v == 0) && ((blob v == 0) && ((dig v).all (· == 0) && (((lock v).1 == 0 && ((lock v).2.1 == 0 && !(lock v).2.2.1)) && decide ((tags v).length = 0))))
    else decide (0 ≤ vsize v) && (decide (vsize v ≤ 16384) && (decide (1 ≤ blob v) && (lockB (lock v) && tagsB (tags v)))))
/-- What every version that comes in is, and the room for it. -/
structure VB (n : Nat) (v : Ver) : Prop where
  id : 0 ≤ v.1
  blob : 0 ≤ blob v
  dig : (dig v).length = 32
  tags : TsB n (tags v)
theorem zeroD : ∀ (k : Nat) (d : List Int), d.length = k → eqD (.arr k (.int .u8)) d (List.replicate k 0) = d.all (· == 0)
  | 0, [], _ => rfl
  | k + 1, x :: d, h => by
    have ih := zeroD k d (by simpa using h)
    change (decide (x = 0) && eqD (.arr k (.int .u8)) d (List.replicate k 0)) = ((x == 0) && d.all (· == 0))
    rw [ih]; rfl
/-- The document's rest for a marker. -/
def rest19 (v : Ver) : Bool := (vsize v == 0) && ((blob v == 0) && (((lock v).1 == 0 && ((lock v).2.1 == 0 && !(lock v).2.2.1)) && decide ((tags v).length = 0)))
/-- Are two versions one? -/
def sameV (a b : Ver) : Bool := allB sameT (tags a) (tags b) && ((a.1 == b.1) && ((mark a == mark b) && ((vsize a == vsize b) && ((blob a == blob b) && (eqD (.arr 32 (.int .u8)) (dig a) (dig b) && ((made a == made b) && eqD T_api_Lock (lock a) (lock b)))))))
theorem sameV40 {n : Nat} (hn : n ≤ 536870912) {a b : Ver} (ha : (tags a).length < n) : F_object_SameVersion.f n a b = some (sameV a b, ()) := by
  rw [F_object_SameVersion.e0]
  have h := same48 (b := tags b) hn ha
  unfold tags at h
  rw [h, bnd_some]
  simp only [hide_eq, bIf_eq]
  unfold sameV
  change (if allB sameT (tags a) (tags b) = true then if (a.1 == b.1) = true then if (mark a == mark b) = true then if (vsize a == vsize b) = true then if (blob a == blob b) = true then if eqD (.arr 32 (.int .u8)) (dig a) (dig b) = true then if (made a == made b) = true then some (eqD T_api_Lock (lock a) (lock b), ()) else some (false, ()) else some (false, ()) else some (false, ()) else some (false, ()) else some (false, ()) else some (false, ()) else (some (false, ()) : Option F_object_SameVersion.R)) = _
  cases allB sameT (tags a) (tags b) <;> cases (a.1 == b.1) <;> cases (mark a == mark b) <;> cases (vsize a == vsize b) <;> cases (blob a == blob b) <;> cases eqD (.arr 32 (.int .u8)) (dig a) (dig b) <;> cases (made a == made b) <;> rfl
theorem sameV17 {n : Nat} (hn : n ≤ 536870912) {a b : Ver} (ha : (tags a).length < n) : F_ref13_SameVersion.f n a b = some (sameV a b, ()) := by
  rw [F_ref13_SameVersion.e0]
  have h := same32 (b := tags b) hn ha
  unfold tags at h
  rw [F_ref13_SameVersion.e1]
  rw [h, bnd_some]
  simp only [hide_eq, bIf_eq]
  unfold sameV
  change (if (!(a.1 == b.1)) = true then some (false, ()) else if (!(mark a == mark b)) = true then some (false, ()) else if (!(vsize a == vsize b)) = true then some (false, ()) else if (!(blob a == blob b)) = true then some (false, ()) else if (!(made a == made b)) = true then some (false, ()) else if (!(eqD T_api_Lock (lock a) (lock b))) = true then some (false, ()) else if eqD (.arr 32 (.int .u8)) (dig a) (dig b) = true then some (allB sameT (tags a) (tags b), ()) else (some (false, ()) : Option F_ref13_SameVersion.R)) = _
  cases allB sameT (tags a) (tags b) <;> cases (a.1 == b.1) <;> cases (mark a == mark b) <;> cases (vsize a == vsize b) <;> cases (blob a == blob b) <;> cases eqD (.arr 32 (.int .u8)) (dig a) (dig b) <;> cases (made a == made b) <;> cases eqD T_api_Lock (lock a) (lock b) <;> rfl
theorem digRefl : ∀ (d : List Int), eqD (.arr 32 (.int .u8)) d d = true
  | [] => rfl
  | x :: d => by
    have := digRefl d
    change (decide (x = x) && eqD (.arr 32 (.int .u8)) d d) = true
    rw [this, decide_eq_true rfl]; rfl
theorem lockRefl (l : D_api_Lock) : eqD T_api_Lock l l = true := by
  change (decide (l.1 = l.1) && (decide (l.2.1 = l.2.1) && ((l.2.2.1 == l.2.2.1) && true))) = true
  rw [decide_eq_true rfl, decide_eq_true rfl, beq_self_eq_true]; rfl
theorem sameV_refl (a : Ver) : sameV a a = true := by
  unfold sameV
  rw [allB_refl _ (fun x _ => sameT_refl x), digRefl, lockRefl]
  simp
end Go.Proofs.YtdlgambebmchmaaGreatDoor

namespace Go.Proofs.YtdlgambebmchmaaGreatDoor
open Go Go.Va Go.Proofs

theorem bIf_true {α : Type} (x y : α) : bIf true x y = x := rfl
theorem bIf_false {α : Type} (x y : α) : bIf false x y = y := rfl
theorem bIf_and (a b : Bool) : bIf a (some (b, ())) (some (false, ())) = some (a && b, ()) := by cases a <;> rfl
theorem bIf_nand (a b : Bool) : bIf a (some (false, ())) (some (b, ())) = some (!a && b, ()) := by cases a <;> rfl
theorem bIf_or (a b : Bool) : bIf a (some (true, ())) (some (b, ())) = some (a || b, ()) := by cases a <;> rfl
theorem bIf_same {α : Type} (a : Bool) (x : α) : bIf a x x = x := by cases a <;> rfl
theorem bIf_bool (a : Bool) : bIf a (some (true, ())) (some (false, ())) = some (a, ()) := by cases a <;> rfl
theorem all_loop {α R : Type} {l : List α} (d : α) (p : α → Bool) (J : Nat → Int → Option R) (yes no : Option R)
    (hs : ∀ m (k : Nat), k < l.length → J (m + 1) (k : Int) = bIf (p (l.getD k d)) (J m ((k + 1 : Nat) : Int)) no) (he : ∀ m, J (m + 1) ((l.length : Nat) : Int) = yes) :
    ∀ (m k : Nat), k ≤ l.length → l.length - k < m → J m (k : Int) = bIf ((l.drop k).all p) yes no
  | 0, k, _, h => by omega
  | m + 1, k, hk, h => by
    by_cases hlt : k < l.length
    · rw [hs m k hlt, all_loop d p J yes no hs he m (k + 1) (by omega) (by omega), List.drop_eq_getElem_cons hlt, List.all_cons, List.getD_eq_getElem?_getD, List.getElem?_eq_getElem hlt]
      simp only [Option.getD_some]
      cases p l[k] <;> rfl
    · have : k = l.length := by omega
      subst this
      rw [he, List.drop_length]; rfl
theorem idx_loop {α : Type} {l : List α} (d : α) (p : α → Bool) (J : Nat → Int → Option (Int × Unit))
    (hs : ∀ m (k : Nat), k < l.length → J (m + 1) (k : Int) = bIf (p (l.getD k d)) (some ((k : Int), ())) (J m ((k + 1 : Nat) : Int))) (he : ∀ m, J (m + 1) ((l.length : Nat) : Int) = some (-1, ())) :
    ∀ (m k : Nat), k ≤ l.length → l.length - k < m → ∃ i, J m (k : Int) = some (i, ()) ∧ decide (i ≥ 0) = (l.drop k).any p
  | 0, k, _, h => by omega
  | m + 1, k, hk, h => by
    by_cases hlt : k < l.length
    · obtain ⟨i, h1, h2⟩ := idx_loop d p J hs he m (k + 1) (by omega) (by omega)
      rw [hs m k hlt, List.drop_eq_getElem_cons hlt, List.any_cons, List.getD_eq_getElem?_getD, List.getElem?_eq_getElem hlt]
      simp only [Option.getD_some]
      cases p l[k]
      · exact ⟨i, h1, by rw [h2]; rfl⟩
      · exact ⟨_, rfl, by simp⟩
    · have : k = l.length := by omega
      subst this
      rw [he, List.drop_length]
      exact ⟨_, rfl, rfl⟩
theorem cast_up (k : Nat) (h : k < 4611686018427387904) : IntKind.i64.wrap ((k : Int) + 1) = ((k + 1 : Nat) : Int) := by rw [wrap_i64 (by omega)]; omega
theorem dec_not {p q : Prop} [Decidable p] [Decidable q] (h : p ↔ ¬ q) : decide p = !decide q := by rw [← decide_not]; exact decide_eq_decide.2 h
theorem dec_le (x y : Int) : decide (x ≥ y) = decide (y ≤ x) := rfl
/-- May it be a default? -/
def modeB (d : D_api_Default) : Bool := if d.1 = 0 then d.2.1 == 0 else (d.1 == 1 || d.1 == 2) && (decide (d.2.1 ≥ 1) && decide (d.2.1 ≤ 36500))
/-- A pattern's letters: none is quoted that isn't there. -/
def globL : List UInt8 → Bool
  | [] => true
  | c :: r => if c = 92 then match r with
    | [] => false
    | _ :: r' => globL r'
    else globL r
def globB (p : ByteArray) : Bool := decide (p.size ≤ 200) && globL p.data.toList
theorem globL_cons {c : UInt8} {r : List UInt8} (h : c ≠ 92) : globL (c :: r) = globL r := by rw [globL.eq_def]; simp only [if_neg h]
theorem globL_q (b : UInt8) (r : List UInt8) : globL (92 :: b :: r) = globL r := by rw [globL.eq_def]; simp
theorem globL_end : globL [92] = false := by rw [globL.eq_def]; simp
theorem drop_getD (l : List UInt8) {k : Nat} (h : k < l.length) : l.drop k = l.getD k 0 :: l.drop (k + 1) := by
  rw [List.drop_eq_getElem_cons h, List.getD_eq_getElem?_getD, List.getElem?_eq_getElem h]; rfl
theorem u8_eq {b : UInt8} {c : Nat} (hc : c < 256) : ((b.toNat : Int) == (c : Int)) = decide (b = UInt8.ofNat c) := by
  have := b.toNat_lt
  by_cases h : b = UInt8.ofNat c
  · subst h; rw [decide_eq_true rfl]; simp [UInt8.toNat_ofNat']; omega
  · rw [decide_eq_false h]
    refine beq_false_of_ne (fun e => h ?_)
    apply UInt8.toNat_inj.1
    simp [UInt8.toNat_ofNat']
    omega
/-- May it be a part? -/
def partB (p : D_api_Part) : Bool := decide (p.1 ≥ 1) && (decide (p.1 ≤ 10000) && (decide (p.2.1 ≥ 0) && (decide (p.2.1 ≤ 1024) && decide (p.2.2.1 ≥ 1))))
/-- May it be a rule? -/
def ruleB (r : D_api_Rule) : Bool := decide (r.1.size ≤ 200) && (cleanB r.1 && (tagsB r.2.1 && (decide (r.2.2.1 ≥ 0) && (decide (r.2.2.1 ≤ 36500) && (decide (r.2.2.2.1 ≥ 0) && decide (r.2.2.2.1 ≤ 36500))))))
structure RuB (n : Nat) (r : D_api_Rule) : Prop where
  pre : r.1.size < n
  tags : TsB n r.2.1
theorem dec_cast (a b : Nat) : decide ((a : Int) ≤ (b : Int)) = decide (a ≤ b) := decide_eq_decide.2 (by omega)
def rulesB (l : List D_api_Rule) : Bool := decide (l.length ≤ 8) && l.all ruleB
structure RusB (n : Nat) (l : List D_api_Rule) : Prop where
  len : l.length < n
  all : ∀ r ∈ l, RuB n r
theorem any_not {α : Type} (p : α → Bool) : ∀ l : List α, (!l.any fun x => !p x) = l.all p
  | [] => rfl
  | x :: l => by
    have := any_not p l
    simp only [List.any_cons, List.all_cons, Bool.not_or, Bool.not_not, this]
/-- May it be a grant? -/
def grantB (g : D_api_Grant) : Bool := globB g.2.1 && (globB g.2.2.1 && globB g.2.2.2.1)
structure GrB (n : Nat) (g : D_api_Grant) : Prop where
  a : g.2.1.size < n
  b : g.2.2.1.size < n
  c : g.2.2.2.1.size < n
def grantsB (l : List D_api_Grant) : Bool := decide (l.length ≤ 8) && l.all grantB
structure GrsB (n : Nat) (l : List D_api_Grant) : Prop where
  len : l.length < n
  all : ∀ r ∈ l, GrB n r
end Go.Proofs.YtdlgambebmchmaaGreatDoor

namespace Go.Proofs.YtdlgambebmchmaaGreatDoor
open Go Go.Va Go.Proofs

theorem zip_loop {α : Type} {a b : List α} (d : α) (q : α → α → Bool) (J : Nat → Int → Option (Bool × Unit)) (hab : a.length = b.length)
    (hs : ∀ m (k : Nat), k < a.length → J (m + 1) (k : Int) = bIf (q (a.getD k d) (b.getD k d)) (J m ((k + 1 : Nat) : Int)) (some (false, ())))
    (he : ∀ m, J (m + 1) ((a.length : Nat) : Int) = some (true, ())) :
    ∀ (m k : Nat), k ≤ a.length → a.length - k < m → J m (k : Int) = some (allB q (a.drop k) (b.drop k), ())
  | 0, k, _, h => by omega
  | m + 1, k, hk, h => by
    by_cases hlt : k < a.length
    · rw [hs m k hlt, zip_loop d q J hab hs he m (k + 1) (by omega) (by omega), allB_step d hlt (by omega)]
      cases q (a.getD k d) (b.getD k d) <;> rfl
    · have : k = a.length := by omega
      subst this
      rw [he, allB_end (by omega) (by omega)]
theorem ne_len {α β : Type} (a : List α) (b : List β) : (((a.length : Nat) : Int) != ((b.length : Nat) : Int)) = !decide (a.length = b.length) := by
  rw [bne, show ((((a.length : Nat) : Int) == ((b.length : Nat) : Int))) = decide (((a.length : Nat) : Int) = ((b.length : Nat) : Int)) from rfl]
  congr 1; exact decide_eq_decide.2 (by omega)
/-- Are two rules one? -/
def sameR (a b : D_api_Rule) : Bool := eqS a.1 b.1 && ((a.2.2.1 == b.2.2.1) && ((a.2.2.2.1 == b.2.2.2.1) && ((a.2.2.2.2.1 == b.2.2.2.2.1) && allB sameT a.2.1 b.2.1)))
theorem entry_sameRule {n : Nat} (hn : n ≤ 536870912) {a b : D_api_Rule} (ha : RuB n a) : F_entry_sameRule.f n a b = some (sameR a b, ()) := by
  rw [F_entry_sameRule.e0, same48 hn ha.tags.1]
  simp only [hide_eq, bnd_some, bIf_and]; rfl
theorem entry_SameRules {n : Nat} (hn : n ≤ 536870912) {a b : List D_api_Rule} (ha : RusB n a) : F_entry_SameRules.f n a b = some (allB sameR a b, ()) := by
  have hlen := ha.len
  rw [F_entry_SameRules.e0, F_slices_EqualFunc_Rule.e0, hide_eq, ne_len]
  by_cases h : a.length = b.length
  · have := zip_loop (Va.dflt T_api_Rule) sameR (fun m k => F_slices_EqualFunc_Rule.J1 n m (b, a, ((a.length : Nat) : Int), k, ())) h
      (fun m k hk => by
        try dsimp only
        rw [F_slices_EqualFunc_Rule.e1, hide_eq, decide_eq_true (by omega), bIf_true, gIf_pos ⟨by omega, by omega⟩, gIf_pos ⟨by omega, by omega⟩, Int.toNat_natCast, entry_sameRule hn (ha.all _ (getD_memA hk)), cast_up k (by omega), bnd_some]
        cases sameR _ _ <;> rfl)
      (fun m => by
        try dsimp only
        rw [F_slices_EqualFunc_Rule.e1, hide_eq, decide_eq_false (by omega), bIf_false, F_slices_EqualFunc_Rule.e2]) n 0 (by omega) (by omega)
    try dsimp only at this
    rw [show ((0 : Nat) : Int) = 0 from rfl] at this
    rw [decide_eq_true h, Bool.not_true, bIf_false, this, bnd_some]; rfl
  · rw [decide_eq_false h, Bool.not_false, bIf_true, bnd_some, allB_len a b h]
theorem ref14_SameRules {n : Nat} (hn : n ≤ 536870912) {a b : List D_api_Rule} (ha : RusB n a) : F_ref14_SameRules.f n a b = some (allB sameR a b, ()) := by
  have hlen := ha.len
  rw [F_ref14_SameRules.e0, hide_eq, ne_len]
  by_cases h : a.length = b.length
  · have := zip_loop (Va.dflt T_api_Rule) sameR (fun m k => F_ref14_SameRules.J1 n m (a, b, k, ())) h
      (fun m k hk => by
        have hr := ha.all _ (getD_memA (d := Va.dflt T_api_Rule) hk)
        have g1 : (0 ≤ (k : Int) ∧ (k : Int) < ((a.length : Nat) : Int)) := ⟨by omega, by omega⟩
        have g2 : (0 ≤ (k : Int) ∧ (k : Int) < ((b.length : Nat) : Int)) := ⟨by omega, by omega⟩
        try dsimp only
        rw [F_ref14_SameRules.e1, hide_eq, decide_eq_true (by omega), bIf_true]
        simp only [gIf_pos g1, gIf_pos g2, Int.toNat_natCast, F_ref14_SameRules.e2, cast_up k (by omega), hide_eq]
        generalize a.getD k (Va.dflt T_api_Rule) = x at hr
        generalize b.getD k (Va.dflt T_api_Rule) = y
        rw [same32 hn hr.tags.1, bnd_some, bne, bne]
        unfold sameR
        cases eqS x.1 y.1 <;> cases (x.2.2.1 == y.2.2.1) <;> cases (x.2.2.2.1 == y.2.2.2.1) <;> cases (x.2.2.2.2.1 == y.2.2.2.2.1) <;> cases allB sameT x.2.1 y.2.1 <;> rfl)
      (fun m => by
        try dsimp only
        rw [F_ref14_SameRules.e1, hide_eq, decide_eq_false (by omega), bIf_false, F_ref14_SameRules.e3]) n 0 (by omega) (by omega)
    try dsimp only at this
    rw [show ((0 : Nat) : Int) = 0 from rfl] at this
    rw [decide_eq_true h, Bool.not_true, bIf_false, this]; rfl
  · rw [decide_eq_false h, Bool.not_false, bIf_true, allB_len a b h]
def sameG (a b : D_api_Grant) : Bool := eqD T_api_Grant a b
theorem slices_Equal_Grant {n : Nat} (hn : n ≤ 536870912) {a b : List D_api_Grant} (ha : GrsB n a) : F_slices_Equal_Grant.f n a b = some (allB sameG a b, ()) := by
  have hlen := ha.len
  rw [F_slices_Equal_Grant.e0, hide_eq, ne_len]
  by_cases h : a.length = b.length
  · have := zip_loop (Va.dflt T_api_Grant) sameG (fun m k => F_slices_Equal_Grant.J1 n m (a, b, ((a.length : Nat) : Int), k, ())) h
      (fun m k hk => by
        try dsimp only
        rw [F_slices_Equal_Grant.e1, hide_eq, decide_eq_true (by omega), bIf_true, gIf_pos ⟨by omega, by omega⟩, gIf_pos ⟨by omega, by omega⟩, Int.toNat_natCast, cast_up k (by omega), hide_eq]
        unfold sameG
        cases eqD T_api_Grant _ _ <;> rfl)
      (fun m => by
        try dsimp only
        rw [F_slices_Equal_Grant.e1, hide_eq, decide_eq_false (by omega), bIf_false, F_slices_Equal_Grant.e2]) n 0 (by omega) (by omega)
    try dsimp only at this
    rw [show ((0 : Nat) : Int) = 0 from rfl] at this
    rw [decide_eq_true h, Bool.not_true, bIf_false, this]; rfl
  · rw [decide_eq_false h, Bool.not_false, bIf_true, allB_len a b h]
theorem ref14_SameGrants {n : Nat} (hn : n ≤ 536870912) {a b : List D_api_Grant} (ha : GrsB n a) : F_ref14_SameGrants.f n a b = some (allB sameG a b, ()) := by
  have hlen := ha.len
  rw [F_ref14_SameGrants.e0, hide_eq, ne_len]
  by_cases h : a.length = b.length
  · have := zip_loop (Va.dflt T_api_Grant) sameG (fun m k => F_ref14_SameGrants.J1 n m (a, b, k, ())) h
      (fun m k hk => by
        try dsimp only
        rw [F_ref14_SameGrants.e1, hide_eq, decide_eq_true (by omega), bIf_true, gIf_pos ⟨by omega, by omega⟩, gIf_pos ⟨by omega, by omega⟩, Int.toNat_natCast, cast_up k (by omega), hide_eq]
        unfold sameG
        cases eqD T_api_Grant _ _ <;> rfl)
      (fun m => by
        try dsimp only
        rw [F_ref14_SameGrants.e1, hide_eq, decide_eq_false (by omega), bIf_false, F_ref14_SameGrants.e2]) n 0 (by omega) (by omega)
    try dsimp only at this
    rw [show ((0 : Nat) : Int) = 0 from rfl] at this
    rw [decide_eq_true h, Bool.not_true, bIf_false, this]; rfl
  · rw [decide_eq_false h, Bool.not_false, bIf_true, allB_len a b h]
end Go.Proofs.YtdlgambebmchmaaGreatDoor

namespace Go.Proofs.YtdlgambebmchmaaGreatDoor
open Go Go.Va Go.Proofs
theorem hide_n (x : Bool) : hide x = x := by cases x <;> rw [hide_eq]
structure ObB (n : Nat) (o : D_api_Object) : Prop where
  len : o.2.1.length < n
  vs : ∀ v ∈ o.2.1, (tags v).length < n
structure UpB (n : Nat) (u : D_api_Upload) : Prop where
  tg : u.2.2.1.length < n
  ps : u.2.2.2.1.length < n
structure BkB (n : Nat) (b : D_api_Bucket) : Prop where
  ru : RusB n b.2.2.1
  gr : GrsB n b.2.2.2.1
  ol : b.2.2.2.2.1.length < n
  ob : ∀ o ∈ b.2.2.2.2.1, ObB n o
  ul : b.2.2.2.2.2.1.length < n
  up : ∀ u ∈ b.2.2.2.2.2.1, UpB n u
structure StB (n : Nat) (s : D_api_State) : Prop where
  len : s.2.2.2.1.length < n
  bk : ∀ b ∈ s.2.2.2.1, BkB n b
def sameP (a b : D_api_Part) : Bool := eqD T_api_Part a b
def sameOb (a b : D_api_Object) : Bool := eqS a.1 b.1 && allB sameV a.2.1 b.2.1
def sameUp (a b : D_api_Upload) : Bool := (a.1 == b.1) && (eqS a.2.1 b.2.1 && (allB sameT a.2.2.1 b.2.2.1 && allB sameP a.2.2.2.1 b.2.2.2.1))
def sameBk (a b : D_api_Bucket) : Bool := eqS a.1 b.1 && (eqD T_api_Default a.2.1 b.2.1 && (allB sameR a.2.2.1 b.2.2.1 && (allB sameG a.2.2.2.1 b.2.2.2.1 && (allB sameOb a.2.2.2.2.1 b.2.2.2.2.1 && allB sameUp a.2.2.2.2.2.1 b.2.2.2.2.2.1))))
def sameSt (a b : D_api_State) : Bool := (a.1 == b.1) && ((a.2.1 == b.2.1) && ((a.2.2.1 == b.2.2.1) && allB sameBk a.2.2.2.1 b.2.2.2.1))
theorem slices_EqualFunc_Version {n : Nat} (hn : n ≤ 536870912) {a b : List D_api_Version} (hlen : a.length < n) (hall : ∀ x ∈ a, (tags x).length < n) : F_slices_EqualFunc_Version.f n a b = some (allB sameV a b, ()) := by
  rw [F_slices_EqualFunc_Version.e0, hide_eq, ne_len]
  by_cases h : a.length = b.length
  · have := zip_loop (Va.dflt T_api_Version) sameV (fun m k => F_slices_EqualFunc_Version.J1 n m (b, a, ((a.length : Nat) : Int), k, ())) h
      (fun m k hk => by
        try dsimp only
        rw [F_slices_EqualFunc_Version.e1, hide_eq, decide_eq_true (by omega), bIf_true, gIf_pos ⟨by omega, by omega⟩, gIf_pos ⟨by omega, by omega⟩, Int.toNat_natCast, sameV40 (by omega) (hall _ (getD_memA hk)), bnd_some, cast_up k (by omega)]
        try dsimp only
        generalize sameV _ _ = z; cases z <;> rfl)
      (fun m => by
        try dsimp only
        rw [F_slices_EqualFunc_Version.e1, hide_eq, decide_eq_false (by omega), bIf_false, F_slices_EqualFunc_Version.e2]) n 0 (by omega) (by omega)
    try dsimp only at this
    rw [show ((0 : Nat) : Int) = 0 from rfl] at this
    rw [decide_eq_true h, Bool.not_true, bIf_false, this]; rfl
  · rw [decide_eq_false h, Bool.not_false, bIf_true, allB_len a b h]
theorem slices_Equal_Part {n : Nat} (hn : n ≤ 536870912) {a b : List D_api_Part} (hlen : a.length < n) : F_slices_Equal_Part.f n a b = some (allB sameP a b, ()) := by
  rw [F_slices_Equal_Part.e0, hide_eq, ne_len]
  by_cases h : a.length = b.length
  · have := zip_loop (Va.dflt T_api_Part) sameP (fun m k => F_slices_Equal_Part.J1 n m (a, b, ((a.length : Nat) : Int), k, ())) h
      (fun m k hk => by
        try dsimp only
        rw [F_slices_Equal_Part.e1, hide_eq, decide_eq_true (by omega), bIf_true, gIf_pos ⟨by omega, by omega⟩, gIf_pos ⟨by omega, by omega⟩, Int.toNat_natCast, cast_up k (by omega)]
        try dsimp only
        rw [hide_eq]; change bIf (!sameP _ _) _ _ = bIf (sameP _ _) _ _; generalize sameP _ _ = z; cases z <;> rfl)
      (fun m => by
        try dsimp only
        rw [F_slices_Equal_Part.e1, hide_eq, decide_eq_false (by omega), bIf_false, F_slices_Equal_Part.e2]) n 0 (by omega) (by omega)
    try dsimp only at this
    rw [show ((0 : Nat) : Int) = 0 from rfl] at this
    rw [decide_eq_true h, Bool.not_true, bIf_false, this]; rfl
  · rw [decide_eq_false h, Bool.not_false, bIf_true, allB_len a b h]
theorem bIf_f2 (a : Bool) {α : Type} (x : α) : bIf a x x = x := by cases a <;> rfl
theorem object_Same {n : Nat} (hn : n ≤ 536870912) {a b : D_api_Object} (ha : ObB n a) : F_object_Same.f n a b = some (sameOb a b, ()) := by
  rw [F_object_Same.e0, slices_EqualFunc_Version hn ha.len ha.vs, bnd_some, hide_n]
  unfold sameOb
  cases eqS a.1 b.1 <;> rfl
theorem meta_sameUpload {n : Nat} (hn : n ≤ 536870912) {a b : D_api_Upload} (ha : UpB n a) : F_meta_sameUpload.f n a b = some (sameUp a b, ()) := by
  rw [F_meta_sameUpload.e0, same48 hn ha.tg, bnd_some, slices_Equal_Part hn ha.ps, bnd_some, hide_n, hide_n]
  unfold sameUp
  cases (a.1 == b.1) <;> cases eqS a.2.1 b.2.1 <;> cases allB sameT a.2.2.1 b.2.2.1 <;> rfl
theorem slices_EqualFunc_Object {n : Nat} (hn : n ≤ 536870912) {a b : List D_api_Object} (hlen : a.length < n) (hall : ∀ x ∈ a, ObB n x) : F_slices_EqualFunc_Object.f n a b = some (allB sameOb a b, ()) := by
  rw [F_slices_EqualFunc_Object.e0, hide_eq, ne_len]
  by_cases h : a.length = b.length
  · have := zip_loop (Va.dflt T_api_Object) sameOb (fun m k => F_slices_EqualFunc_Object.J1 n m (b, a, ((a.length : Nat) : Int), k, ())) h
      (fun m k hk => by
        try dsimp only
        rw [F_slices_EqualFunc_Object.e1, hide_eq, decide_eq_true (by omega), bIf_true, gIf_pos ⟨by omega, by omega⟩, gIf_pos ⟨by omega, by omega⟩, Int.toNat_natCast, object_Same hn (hall _ (getD_memA hk)), bnd_some, cast_up k (by omega)]
        try dsimp only
        generalize sameOb _ _ = z; cases z <;> rfl)
      (fun m => by
        try dsimp only
        rw [F_slices_EqualFunc_Object.e1, hide_eq, decide_eq_false (by omega), bIf_false, F_slices_EqualFunc_Object.e2]) n 0 (by omega) (by omega)
    try dsimp only at this
    rw [show ((0 : Nat) : Int) = 0 from rfl] at this
    rw [decide_eq_true h, Bool.not_true, bIf_false, this]; rfl
  · rw [decide_eq_false h, Bool.not_false, bIf_true, allB_len a b h]
theorem slices_EqualFunc_Upload {n : Nat} (hn : n ≤ 536870912) {a b : List D_api_Upload} (hlen : a.length < n) (hall : ∀ x ∈ a, UpB n x) : F_slices_EqualFunc_Upload.f n a b = some (allB sameUp a b, ()) := by
  rw [F_slices_EqualFunc_Upload.e0, hide_eq, ne_len]
  by_cases h : a.length = b.length
  · have := zip_loop (Va.dflt T_api_Upload) sameUp (fun m k => F_slices_EqualFunc_Upload.J1 n m (b, a, ((a.length : Nat) : Int), k, ())) h
      (fun m k hk => by
        try dsimp only
        rw [F_slices_EqualFunc_Upload.e1, hide_eq, decide_eq_true (by omega), bIf_true, gIf_pos ⟨by omega, by omega⟩, gIf_pos ⟨by omega, by omega⟩, Int.toNat_natCast, meta_sameUpload hn (hall _ (getD_memA hk)), bnd_some, cast_up k (by omega)]
        try dsimp only
        generalize sameUp _ _ = z; cases z <;> rfl)
      (fun m => by
        try dsimp only
        rw [F_slices_EqualFunc_Upload.e1, hide_eq, decide_eq_false (by omega), bIf_false, F_slices_EqualFunc_Upload.e2]) n 0 (by omega) (by omega)
    try dsimp only at this
    rw [show ((0 : Nat) : Int) = 0 from rfl] at this
    rw [decide_eq_true h, Bool.not_true, bIf_false, this]; rfl
  · rw [decide_eq_false h, Bool.not_false, bIf_true, allB_len a b h]
theorem meta_sameBucket {n : Nat} (hn : n ≤ 536870912) {a b : D_api_Bucket} (ha : BkB n a) : F_meta_sameBucket.f n a b = some (sameBk a b, ()) := by
  rw [F_meta_sameBucket.e0, F_meta_sameBucket.e1, entry_SameRules hn ha.ru, bnd_some, slices_Equal_Grant hn ha.gr, bnd_some, slices_EqualFunc_Object hn ha.ol ha.ob, bnd_some, slices_EqualFunc_Upload hn ha.ul ha.up, bnd_some, hide_n, hide_n]
  unfold sameBk
  cases eqS a.1 b.1 <;> cases eqD T_api_Default a.2.1 b.2.1 <;> cases allB sameR a.2.2.1 b.2.2.1 <;> cases allB sameG a.2.2.2.1 b.2.2.2.1 <;> cases allB sameOb a.2.2.2.2.1 b.2.2.2.2.1 <;> rfl
theorem slices_EqualFunc_Bucket {n : Nat} (hn : n ≤ 536870912) {a b : List D_api_Bucket} (hlen : a.length < n) (hall : ∀ x ∈ a, BkB n x) : F_slices_EqualFunc_Bucket.f n a b = some (allB sameBk a b, ()) := by
  rw [F_slices_EqualFunc_Bucket.e0, hide_eq, ne_len]
  by_cases h : a.length = b.length
  · have := zip_loop (Va.dflt T_api_Bucket) sameBk (fun m k => F_slices_EqualFunc_Bucket.J1 n m (b, a, ((a.length : Nat) : Int), k, ())) h
      (fun m k hk => by
        try dsimp only
        rw [F_slices_EqualFunc_Bucket.e1, hide_eq, decide_eq_true (by omega), bIf_true, gIf_pos ⟨by omega, by omega⟩, gIf_pos ⟨by omega, by omega⟩, Int.toNat_natCast, meta_sameBucket hn (hall _ (getD_memA hk)), bnd_some, cast_up k (by omega)]
        try dsimp only
        generalize sameBk _ _ = z; cases z <;> rfl)
      (fun m => by
        try dsimp only
        rw [F_slices_EqualFunc_Bucket.e1, hide_eq, decide_eq_false (by omega), bIf_false, F_slices_EqualFunc_Bucket.e2]) n 0 (by omega) (by omega)
    try dsimp only at this
    rw [show ((0 : Nat) : Int) = 0 from rfl] at this
    rw [decide_eq_true h, Bool.not_true, bIf_false, this]; rfl
  · rw [decide_eq_false h, Bool.not_false, bIf_true, allB_len a b h]
theorem meta_Same {n : Nat} (hn : n ≤ 536870912) {a b : D_api_State} (ha : StB n a) : F_meta_Same.f n a b = some (sameSt a b, ()) := by
  rw [F_meta_Same.e0, slices_EqualFunc_Bucket hn ha.len ha.bk, bnd_some, hide_n, hide_n, hide_n]
  unfold sameSt
  cases (a.1 == b.1) <;> cases (a.2.1 == b.2.1) <;> cases (a.2.2.1 == b.2.2.1) <;> rfl
theorem ref13_J {n : Nat} (hn : n ≤ 536870912) {a b : D_api_Object} (ha : ObB n a) (h : a.2.1.length = b.2.1.length) : F_ref13_Same.J2 n n (0, a, b, ()) = some (allB sameV a.2.1 b.2.1, ()) := by
  have hl := ha.len
  have := zip_loop (Va.dflt T_api_Version) sameV (fun m k => F_ref13_Same.J2 n m (k, a, b, ())) h
      (fun m k hk => by
        try dsimp only
        rw [F_ref13_Same.e2, hide_eq, decide_eq_true (by omega), bIf_true, gIf_pos ⟨by omega, by omega⟩, gIf_pos ⟨by omega, by omega⟩, Int.toNat_natCast, sameV17 (by omega) (ha.vs _ (getD_memA hk)), bnd_some, cast_up k (by omega)]
        try dsimp only
        generalize sameV _ _ = z; cases z <;> rfl)
      (fun m => by
        try dsimp only
        rw [F_ref13_Same.e2, hide_eq, decide_eq_false (by omega), bIf_false, F_ref13_Same.e3]) n 0 (by omega) (by omega)
  try dsimp only at this
  rw [show ((0 : Nat) : Int) = 0 from rfl, List.drop_zero, List.drop_zero] at this
  exact this
theorem ref13_Same {n : Nat} (hn : n ≤ 536870912) {a b : D_api_Object} (ha : ObB n a) : F_ref13_Same.f n a b = some (sameOb a b, ()) := by
  rw [F_ref13_Same.e0, F_ref13_Same.e1, hide_n, hide_n, ne_len]
  unfold sameOb
  by_cases h : a.2.1.length = b.2.1.length
  · rw [ref13_J hn ha h, decide_eq_true h]
    cases eqS a.1 b.1 <;> rfl
  · rw [allB_len _ _ h, decide_eq_false h]
    cases eqS a.1 b.1 <;> rfl
theorem ref15_JP {n : Nat} (hn : n ≤ 536870912) {a b : D_api_Upload} (ha : UpB n a) (h : a.2.2.2.1.length = b.2.2.2.1.length) : F_ref15_sameUpload.J2 n n (0, a, b, ()) = some (allB sameP a.2.2.2.1 b.2.2.2.1, ()) := by
  have hl := ha.ps
  have := zip_loop (Va.dflt T_api_Part) sameP (fun m k => F_ref15_sameUpload.J2 n m (k, a, b, ())) h
      (fun m k hk => by
        try dsimp only
        rw [F_ref15_sameUpload.e2, hide_eq, decide_eq_true (by omega), bIf_true, gIf_pos ⟨by omega, by omega⟩, gIf_pos ⟨by omega, by omega⟩, Int.toNat_natCast, cast_up k (by omega)]
        try dsimp only
        rw [hide_eq]; change bIf (!sameP _ _) _ _ = bIf (sameP _ _) _ _; generalize sameP _ _ = z; cases z <;> rfl)
      (fun m => by
        try dsimp only
        rw [F_ref15_sameUpload.e2, hide_eq, decide_eq_false (by omega), bIf_false, F_ref15_sameUpload.e3]) n 0 (by omega) (by omega)
  try dsimp only at this
  rw [show ((0 : Nat) : Int) = 0 from rfl, List.drop_zero, List.drop_zero] at this
  exact this
theorem ref15_sameUpload {n : Nat} (hn : n ≤ 536870912) {a b : D_api_Upload} (ha : UpB n a) : F_ref15_sameUpload.f n a b = some (sameUp a b, ()) := by
  rw [F_ref15_sameUpload.e0, F_ref15_sameUpload.e1, hide_n, hide_n, hide_n, ne_len, same32 hn ha.tg, bnd_some, bne]
  unfold sameUp
  by_cases h : a.2.2.2.1.length = b.2.2.2.1.length
  · rw [ref15_JP hn ha h, decide_eq_true h]
    cases (a.1 == b.1) <;> cases eqS a.2.1 b.2.1 <;> cases allB sameT a.2.2.1 b.2.2.1 <;> rfl
  · rw [allB_len a.2.2.2.1 _ h, decide_eq_false h]
    cases (a.1 == b.1) <;> cases eqS a.2.1 b.2.1 <;> cases allB sameT a.2.2.1 b.2.2.1 <;> rfl
theorem ref15_JU {n : Nat} (hn : n ≤ 536870912) {a b : D_api_Bucket} (ha : BkB n a) (h : a.2.2.2.2.2.1.length = b.2.2.2.2.2.1.length) : F_ref15_SameBucket.J4 n n (0, a, b, ()) = some (allB sameUp a.2.2.2.2.2.1 b.2.2.2.2.2.1, ()) := by
  have hl := ha.ul
  have := zip_loop (Va.dflt T_api_Upload) sameUp (fun m k => F_ref15_SameBucket.J4 n m (k, a, b, ())) h
      (fun m k hk => by
        try dsimp only
        rw [F_ref15_SameBucket.e4, hide_eq, decide_eq_true (by omega), bIf_true, gIf_pos ⟨by omega, by omega⟩, gIf_pos ⟨by omega, by omega⟩, Int.toNat_natCast, ref15_sameUpload hn (ha.up _ (getD_memA hk)), bnd_some, cast_up k (by omega)]
        try dsimp only
        generalize sameUp _ _ = z; cases z <;> rfl)
      (fun m => by
        try dsimp only
        rw [F_ref15_SameBucket.e4, hide_eq, decide_eq_false (by omega), bIf_false, F_ref15_SameBucket.e5]) n 0 (by omega) (by omega)
  try dsimp only at this
  rw [show ((0 : Nat) : Int) = 0 from rfl, List.drop_zero, List.drop_zero] at this
  exact this
/-- A loop whose end goes on. -/
theorem zip_loop2 {α : Type} {a b : List α} (d : α) (q : α → α → Bool) (J : Nat → Int → Option (Bool × Unit)) (E : Option (Bool × Unit)) (hab : a.length = b.length)
    (hs : ∀ m (k : Nat), k < a.length → J (m + 1) (k : Int) = bIf (q (a.getD k d) (b.getD k d)) (J m ((k + 1 : Nat) : Int)) (some (false, ())))
    (he : ∀ m, J (m + 1) ((a.length : Nat) : Int) = E) :
    ∀ (m k : Nat), k ≤ a.length → a.length - k < m → J m (k : Int) = bIf (allB q (a.drop k) (b.drop k)) E (some (false, ()))
  | 0, k, _, h => by omega
  | m + 1, k, hk, h => by
    by_cases hlt : k < a.length
    · rw [hs m k hlt, zip_loop2 d q J E hab hs he m (k + 1) (by omega) (by omega), allB_step d hlt (by omega)]
      cases q (a.getD k d) (b.getD k d) <;> rfl
    · have : k = a.length := by omega
      subst this
      rw [he, allB_end (by omega) (by omega)]; rfl
theorem ref15_JO {n : Nat} (hn : n ≤ 536870912) {a b : D_api_Bucket} (ha : BkB n a) (h : a.2.2.2.2.1.length = b.2.2.2.2.1.length) (h2 : a.2.2.2.2.2.1.length = b.2.2.2.2.2.1.length) :
    F_ref15_SameBucket.J2 n n (0, a, b, ()) = some (allB sameOb a.2.2.2.2.1 b.2.2.2.2.1 && allB sameUp a.2.2.2.2.2.1 b.2.2.2.2.2.1, ()) := by
  have hl := ha.ol
  have := zip_loop2 (Va.dflt T_api_Object) sameOb (fun m k => F_ref15_SameBucket.J2 n m (k, a, b, ())) (F_ref15_SameBucket.J3 n (a, b, ())) h
      (fun m k hk => by
        try dsimp only
        rw [F_ref15_SameBucket.e2, hide_eq, decide_eq_true (by omega), bIf_true, gIf_pos ⟨by omega, by omega⟩, gIf_pos ⟨by omega, by omega⟩, Int.toNat_natCast, ref13_Same hn (ha.ob _ (getD_memA hk)), bnd_some, cast_up k (by omega)]
        try dsimp only
        generalize sameOb _ _ = z; cases z <;> rfl)
      (fun m => by
        try dsimp only
        rw [F_ref15_SameBucket.e2, hide_eq, decide_eq_false (by omega), bIf_false]) n 0 (by omega) (by omega)
  try dsimp only at this
  rw [show ((0 : Nat) : Int) = 0 from rfl, List.drop_zero, List.drop_zero, F_ref15_SameBucket.e3, ref15_JU hn ha h2] at this
  rw [this]
  cases allB sameOb a.2.2.2.2.1 b.2.2.2.2.1 <;> rfl
theorem ref15_SameBucket {n : Nat} (hn : n ≤ 536870912) {a b : D_api_Bucket} (ha : BkB n a) : F_ref15_SameBucket.f n a b = some (sameBk a b, ()) := by
  rw [F_ref15_SameBucket.e0, F_ref15_SameBucket.e1, hide_n, hide_n, hide_n, hide_n, ne_len, ne_len, ref14_SameRules hn ha.ru, bnd_some, ref14_SameGrants hn ha.gr, bnd_some]
  unfold sameBk
  by_cases h : a.2.2.2.2.1.length = b.2.2.2.2.1.length
  · by_cases h2 : a.2.2.2.2.2.1.length = b.2.2.2.2.2.1.length
    · rw [ref15_JO hn ha h h2, decide_eq_true h, decide_eq_true h2]
      cases eqS a.1 b.1 <;> cases eqD T_api_Default a.2.1 b.2.1 <;> cases allB sameR a.2.2.1 b.2.2.1 <;> cases allB sameG a.2.2.2.1 b.2.2.2.1 <;> rfl
    · rw [allB_len a.2.2.2.2.2.1 _ h2, decide_eq_false h2, decide_eq_true h, Bool.and_false]
      cases eqS a.1 b.1 <;> cases eqD T_api_Default a.2.1 b.2.1 <;> cases allB sameR a.2.2.1 b.2.2.1 <;> cases allB sameG a.2.2.2.1 b.2.2.2.1 <;> rfl
  · rw [allB_len a.2.2.2.2.1 _ h, decide_eq_false h, Bool.false_and]
    cases eqS a.1 b.1 <;> cases eqD T_api_Default a.2.1 b.2.1 <;> cases allB sameR a.2.2.1 b.2.2.1 <;> cases allB sameG a.2.2.2.1 b.2.2.2.1 <;> rfl
theorem ref15_JB {n : Nat} (hn : n ≤ 536870912) {a b : D_api_State} (ha : StB n a) (h : a.2.2.2.1.length = b.2.2.2.1.length) : F_ref15_Same.J2 n n (0, a, b, ()) = some (allB sameBk a.2.2.2.1 b.2.2.2.1, ()) := by
  have hl := ha.len
  have := zip_loop (Va.dflt T_api_Bucket) sameBk (fun m k => F_ref15_Same.J2 n m (k, a, b, ())) h
      (fun m k hk => by
        try dsimp only
        rw [F_ref15_Same.e2, hide_eq, decide_eq_true (by omega), bIf_true, gIf_pos ⟨by omega, by omega⟩, gIf_pos ⟨by omega, by omega⟩, Int.toNat_natCast, ref15_SameBucket hn (ha.bk _ (getD_memA hk)), bnd_some, cast_up k (by omega)]
        try dsimp only
        generalize sameBk _ _ = z; cases z <;> rfl)
      (fun m => by
        try dsimp only
        rw [F_ref15_Same.e2, hide_eq, decide_eq_false (by omega), bIf_false, F_ref15_Same.e3]) n 0 (by omega) (by omega)
  try dsimp only at this
  rw [show ((0 : Nat) : Int) = 0 from rfl, List.drop_zero, List.drop_zero] at this
  exact this
theorem ref15_Same {n : Nat} (hn : n ≤ 536870912) {a b : D_api_State} (ha : StB n a) : F_ref15_Same.f n a b = some (sameSt a b, ()) := by
  rw [F_ref15_Same.e0, F_ref15_Same.e1, hide_n, hide_n, hide_n, hide_n, ne_len, bne, bne, bne]
  unfold sameSt
  by_cases h : a.2.2.2.1.length = b.2.2.2.1.length
  · rw [ref15_JB hn ha h, decide_eq_true h]
    cases (a.1 == b.1) <;> cases (a.2.1 == b.2.1) <;> cases (a.2.2.1 == b.2.2.1) <;> rfl
  · rw [allB_len a.2.2.2.1 _ h, decide_eq_false h]
    cases (a.1 == b.1) <;> cases (a.2.1 == b.2.1) <;> cases (a.2.2.1 == b.2.2.1) <;> rfl
end Go.Proofs.YtdlgambebmchmaaGreatDoor

namespace Go.Proofs.YtdlgambebmchmaaGreatDoor
open Go Go.Va Go.Proofs
theorem sameR_refl (a : D_api_Rule) : sameR a a = true := by
  unfold sameR
  rw [eqS_self, beq_self_eq_true, beq_self_eq_true, beq_self_eq_true, allB_refl _ (fun t _ => sameT_refl t)]; rfl
theorem eqD_intR : ∀ (l : List Int) (k : IntKind) (n : Nat), eqD (.arr n (.int k)) l l = true
  | [], _, _ => rfl
  | x :: l, k, n => by
    have ih := eqD_intR l k n
    change (decide (x = x) && eqL (eqD (.int k)) l l) = true
    have ih : eqL (eqD (.int k)) l l = true := ih
    rw [ih, decide_eq_true rfl]; rfl
theorem sameG_refl (a : D_api_Grant) : sameG a a = true := by
  obtain ⟨b, x, y, z, u⟩ := a
  unfold sameG
  simp only [eqD]
  simp [ba_beq]
theorem sameP_refl (a : D_api_Part) : sameP a a = true := by
  obtain ⟨x, y, z, d, u⟩ := a
  change (decide (x = x) && (decide (y = y) && (decide (z = z) && (eqD (.arr 32 (.int .u8)) d d && true)))) = true
  rw [decide_eq_true rfl, decide_eq_true rfl, decide_eq_true rfl, eqD_intR]; rfl
theorem sameV_refl' (a : Ver) : sameV a a = true := by
  unfold sameV
  rw [allB_refl _ (fun t _ => sameT_refl t), beq_self_eq_true, beq_self_eq_true, beq_self_eq_true, beq_self_eq_true, beq_self_eq_true, eqD_intR]
  obtain ⟨x, y, z, u⟩ := lock a
  change (true && (true && (true && (true && (true && (true && (true && (decide (x = x) && (decide (y = y) && ((z == z) && true)))))))))) = true
  rw [decide_eq_true rfl, decide_eq_true rfl, beq_self_eq_true]; rfl
theorem sameOb_refl (a : D_api_Object) : sameOb a a = true := by
  unfold sameOb
  rw [eqS_self, allB_refl _ (fun t _ => sameV_refl' t)]; rfl
theorem sameUp_refl (a : D_api_Upload) : sameUp a a = true := by
  unfold sameUp
  rw [eqS_self, beq_self_eq_true, allB_refl _ (fun t _ => sameT_refl t), allB_refl _ (fun t _ => sameP_refl t)]; rfl
theorem sameBk_refl (a : D_api_Bucket) : sameBk a a = true := by
  unfold sameBk
  rw [eqS_self, allB_refl _ (fun t _ => sameR_refl t), allB_refl _ (fun t _ => sameG_refl t), allB_refl _ (fun t _ => sameOb_refl t), allB_refl _ (fun t _ => sameUp_refl t)]
  obtain ⟨x, y, u⟩ := a.2.1
  change (true && ((decide (x = x) && (decide (y = y) && true)) && (true && (true && (true && true))))) = true
  rw [decide_eq_true rfl, decide_eq_true rfl]; rfl
theorem sameSt_refl (a : D_api_State) : sameSt a a = true := by
  unfold sameSt
  rw [beq_self_eq_true, beq_self_eq_true, beq_self_eq_true, allB_refl _ (fun t _ => sameBk_refl t)]; rfl
theorem big_J3 {n : Nat} (hn : n ≤ 536870912) {s : D_api_State} {i : Nat} (hi : i < s.2.2.2.1.length) (m1 : Nat) : ∀ (m k : Nat) (c : Int), ((s.2.2.2.1.getD i (Va.dflt T_api_Bucket)).2.2.2.2.1).length < n → k ≤ ((s.2.2.2.1.getD i (Va.dflt T_api_Bucket)).2.2.2.2.1).length →
    ((s.2.2.2.1.getD i (Va.dflt T_api_Bucket)).2.2.2.2.1).length - k < m → ∃ c', F_law15_big.J3 n m1 m (c, (i : Int), (k : Int), s, ()) = F_law15_big.J5 n m1 (c', (i : Int), s, ())
  | 0, k, c, _, _, h => by omega
  | m + 1, k, c, hlen, hk, h => by
    rw [F_law15_big.e3, gIf_pos ⟨by omega, by omega⟩, Int.toNat_natCast, hide_n, hide_n]
    by_cases hlt : k < ((s.2.2.2.1.getD i (Va.dflt T_api_Bucket)).2.2.2.2.1).length
    · rw [decide_eq_true (by omega), bIf_true]
      cases hc : decide (c < 400)
      · exact ⟨c, by rw [bIf_false]⟩
      · rw [bIf_true, F_law15_big.e4, gIf_pos ⟨by omega, by omega⟩, Int.toNat_natCast, gIf_pos ⟨by omega, by omega⟩, cast_up k (by omega)]
        exact big_J3 hn hi m1 m (k + 1) _ hlen (by omega) (by omega)
    · rw [decide_eq_false (by omega), bIf_false]
      exact ⟨c, rfl⟩
theorem big_J1 {n : Nat} (hn : n ≤ 536870912) {s : D_api_State} (hs : StB n s) : ∀ (m i : Nat) (c : Int), i ≤ s.2.2.2.1.length → s.2.2.2.1.length - i < m → ∃ x, F_law15_big.J1 n m (c, (i : Int), s, ()) = some (x, ())
  | 0, i, c, _, h => by omega
  | m + 1, i, c, hi, h => by
    have hlen := hs.len
    rw [F_law15_big.e1, hide_n, hide_n]
    by_cases hlt : i < s.2.2.2.1.length
    · rw [decide_eq_true (by omega), bIf_true]
      cases hc : decide (c < 400)
      · rw [bIf_false, F_law15_big.e6]; exact ⟨_, rfl⟩
      · rw [bIf_true, F_law15_big.e2, gIf_pos ⟨by omega, by omega⟩, gIf_pos ⟨by omega, by omega⟩, Int.toNat_natCast]
        have hb := hs.bk _ (getD_memA (d := Va.dflt T_api_Bucket) hlt)
        have hol := hb.ol
        obtain ⟨c', e⟩ := big_J3 hn hlt m n 0 (IntKind.i64.wrap (c + (IntKind.i64.wrap ((((s.2.2.2.1.getD i (Va.dflt T_api_Bucket)).2.2.2.2.1).length : Nat) + (((s.2.2.2.1.getD i (Va.dflt T_api_Bucket)).2.2.2.2.2.1).length : Nat))))) hol (by omega) (by omega)
        rw [show ((0 : Nat) : Int) = 0 from rfl] at e
        have e2 := fun x => F_law15_big.e5 n m x (i : Int) s
        rw [e, e2, cast_up i (by omega)]
        exact big_J1 hn hs m (i + 1) c' (by omega) (by omega)
    · rw [decide_eq_false (by omega), bIf_false, F_law15_big.e6]; exact ⟨_, rfl⟩
theorem big_any {n : Nat} (hn : n ≤ 536870912) {s : D_api_State} (hs : StB n s) : ∃ x, F_law15_big.f n s = some (x, ()) := by
  rw [F_law15_big.e0]
  have hlen := hs.len
  have := big_J1 hn hs n 0 ((s.2.2.2.1.length : Nat) : Int) (by omega) (by omega)
  rw [show ((0 : Nat) : Int) = 0 from rfl] at this
  exact this
theorem lawSame {n : Nat} (hn : n ≤ 536870912) {a b : D_api_State} (ha : StB n a) (hb : StB n b) : F_law15_MetaSame.f n a b = some (true, ()) := by
  obtain ⟨x, hx⟩ := big_any hn ha
  obtain ⟨y, hy⟩ := big_any hn hb
  rw [F_law15_MetaSame.e0, hx, hy, bnd_some, bnd_some, F_law15_MetaSame.e1, meta_Same hn ha, meta_Same (b := a) hn ha, ref15_Same hn ha, bnd_some, bnd_some, bnd_some, hide_n, sameSt_refl, beq_self_eq_true]
  unfold F_law15_awake.f
  rw [bnd_some]
  cases x <;> cases y <;> rfl
end Go.Proofs.YtdlgambebmchmaaGreatDoor

namespace Go.Proofs.YtdlgambebmchmaaGreatDoor
open Go Go.Va Go.Proofs Go.ChangeShapes Go.WideShapes Go.ChangeAt Go.RowKit

theorem kids : Kids Tryz.prog (· < Tryz.prog.types.size) := kids_rows (by kernel_rfl) (by kernel_rfl)
theorem full : ∀ t e, t < Tryz.prog.types.size → Tryz.prog.underlying t = some (.slice e) → 0 < Tryz.prog.cellsOf e := slices_full_of Tryz.prog (by kernel_rfl)
theorem own : ownKnob Tryz.prog.godebug = none := by kernel_rfl

mutual
theorem bulk_eq {H : Type} : ∀ (d : DataW H), Rows.uptoBulk d = bulk d
  | .lit l => by cases l <;> simp [Rows.uptoBulk, bulk]
  | .nil => by simp [Rows.uptoBulk, bulk]
  | .ptr d => by simp [Rows.uptoBulk, bulk, bulk_eq d]
  | .slice elems spare => by simp [Rows.uptoBulk, bulk, bulkL_eq elems, bulkL_eq spare]
  | .agg parts => by simp [Rows.uptoBulk, bulk, bulkL_eq parts]
  | .iface _ d => by simp [Rows.uptoBulk, bulk, bulk_eq d]
  | .map entries => by simp [Rows.uptoBulk, bulk, bulkE_eq entries]
  | .held _ => by simp [Rows.uptoBulk, bulk]
theorem bulkL_eq {H : Type} : ∀ (l : List (DataW H)), Rows.uptoBulkAll l = bulkL l
  | [] => by simp [Rows.uptoBulkAll, bulkL]
  | d :: r => by simp [Rows.uptoBulkAll, bulkL, bulk_eq d, bulkL_eq r]
theorem bulkE_eq {H : Type} : ∀ (l : List (Lit × DataW H)), Rows.uptoBulkEntries l = bulkE l
  | [] => by simp [Rows.uptoBulkEntries, bulkE]
  | x :: r => by simp [Rows.uptoBulkEntries, bulkE, bulkX_eq x, bulkE_eq r]
theorem bulkX_eq {H : Type} : ∀ (x : Lit × DataW H), Rows.uptoBulkEntry x = bulkX x
  | (l, d) => by cases l <;> simp [Rows.uptoBulkEntry, bulkX, bulk_eq d]
end

theorem small_of {H : Type} {ds gs : List (DataW H)} (h : Rows.uptoSmall H (ds ++ gs) = true) : bulkL ds ≤ 1048576 := by
  have h := of_decide_eq_true h
  rw [bulkL_eq, bulkL_append] at h
  omega

/-! The room: what a datum's volume gives. -/
theorem vol_mem {e : Ty} {l : List (Den e)} {x : Den e} (h : x ∈ l) : vol e x ≤ (l.map (vol e)).sum := by
  induction l with
  | nil => simp at h
  | cons y l ih =>
    rw [List.map_cons, List.sum_cons]
    rcases List.mem_cons.1 h with rfl | h
    · omega
    · have := ih h; omega
theorem vol_len {e : Ty} {l : List (Den e)} (h : ∀ x ∈ l, 1 ≤ vol e x) : l.length ≤ (l.map (vol e)).sum := by
  induction l with
  | nil => simp
  | cons y l ih =>
    rw [List.map_cons, List.sum_cons, List.length_cons]
    have h1 := h y List.mem_cons_self
    have h2 := ih (fun x hx => h x (List.mem_cons_of_mem _ hx))
    omega
theorem vol_Tag (t : D_api_Tag) : vol T_api_Tag t = t.1.size + 1 + (t.2.1.size + 1) := rfl
theorem vol_Ver (v : Ver) : vol T_api_Version v = 1 + (1 + (1 + (1 + ((((dig v).map (vol (.int .u8))).sum + 1) + (1 + (vol T_api_Lock (lock v) + ((((tags v).map (vol T_api_Tag)).sum + 1) + 0))))))) := rfl
theorem vol_Rule (r : D_api_Rule) : vol T_api_Rule r = r.1.size + 1 + (((r.2.1.map (vol T_api_Tag)).sum + 1) + vol T_api_Lock r.2.2) := rfl
theorem vol_Grant (g : D_api_Grant) : vol T_api_Grant g = 1 + (g.2.1.size + 1 + (g.2.2.1.size + 1 + (g.2.2.2.1.size + 1))) := rfl
theorem Ts_of {n : Nat} {l : List D_api_Tag} (h : (l.map (vol T_api_Tag)).sum < n) : TsB n l := by
  have hl := vol_len (e := T_api_Tag) (l := l) (fun x _ => by rw [vol_Tag]; omega)
  exact ⟨by omega, fun t ht => by have := vol_mem (e := T_api_Tag) ht; rw [vol_Tag] at this; exact ⟨by omega, by omega⟩⟩
theorem vol_Part (p : D_api_Part) : 1 ≤ vol T_api_Part p := by
  change 1 ≤ 1 + _
  omega
theorem vol_Up (u : D_api_Upload) : vol T_api_Upload u = 1 + (u.2.1.size + 1 + (((u.2.2.1.map (vol T_api_Tag)).sum + 1) + (((u.2.2.2.1.map (vol T_api_Part)).sum + 1) + 0))) := rfl
theorem vol_Ob (o : D_api_Object) : vol T_api_Object o = o.1.size + 1 + (((o.2.1.map (vol T_api_Version)).sum + 1) + 0) := rfl
theorem vol_Bk (b : D_api_Bucket) : vol T_api_Bucket b = b.1.size + 1 + (vol T_api_Default b.2.1 + (((b.2.2.1.map (vol T_api_Rule)).sum + 1) + (((b.2.2.2.1.map (vol T_api_Grant)).sum + 1) + (((b.2.2.2.2.1.map (vol T_api_Object)).sum + 1) + (((b.2.2.2.2.2.1.map (vol T_api_Upload)).sum + 1) + 0))))) := rfl
theorem vol_St (s : D_api_State) : vol T_api_State s = 1 + (1 + (1 + (((s.2.2.2.1.map (vol T_api_Bucket)).sum + 1) + 0))) := rfl
theorem Ob_of {n : Nat} {o : D_api_Object} (h : vol T_api_Object o < n) : ObB n o := by
  rw [vol_Ob] at h
  have l1 := vol_len (e := T_api_Version) (l := o.2.1) (fun x _ => by rw [vol_Ver]; omega)
  refine ⟨by omega, fun v hv => ?_⟩
  have := vol_mem (e := T_api_Version) hv
  rw [vol_Ver] at this
  have l2 := vol_len (e := T_api_Tag) (l := tags v) (fun x _ => by rw [vol_Tag]; omega)
  omega
theorem Up_of {n : Nat} {u : D_api_Upload} (h : vol T_api_Upload u < n) : UpB n u := by
  rw [vol_Up] at h
  have l1 := vol_len (e := T_api_Tag) (l := u.2.2.1) (fun x _ => by rw [vol_Tag]; omega)
  have l2 := vol_len (e := T_api_Part) (l := u.2.2.2.1) (fun x _ => vol_Part x)
  exact ⟨by omega, by omega⟩
theorem Bk_of {n : Nat} {b : D_api_Bucket} (h : vol T_api_Bucket b < n) : BkB n b := by
  rw [vol_Bk] at h
  have l1 := vol_len (e := T_api_Rule) (l := b.2.2.1) (fun x _ => by rw [vol_Rule]; omega)
  have l2 := vol_len (e := T_api_Grant) (l := b.2.2.2.1) (fun x _ => by rw [vol_Grant]; omega)
  have l3 := vol_len (e := T_api_Object) (l := b.2.2.2.2.1) (fun x _ => by rw [vol_Ob]; omega)
  have l4 := vol_len (e := T_api_Upload) (l := b.2.2.2.2.2.1) (fun x _ => by rw [vol_Up]; omega)
  refine ⟨⟨by omega, fun r hr => ?_⟩, ⟨by omega, fun g hg => ?_⟩, by omega, fun o ho => Ob_of ?_, by omega, fun u hu => Up_of ?_⟩
  · have := vol_mem (e := T_api_Rule) hr
    rw [vol_Rule] at this
    exact ⟨by omega, Ts_of (by omega)⟩
  · have := vol_mem (e := T_api_Grant) hg
    rw [vol_Grant] at this
    exact ⟨by omega, by omega, by omega⟩
  · have := vol_mem (e := T_api_Object) ho
    omega
  · have := vol_mem (e := T_api_Upload) hu
    omega
theorem St_of {n : Nat} {s : D_api_State} (h : vol T_api_State s < n) : StB n s := by
  rw [vol_St] at h
  have l1 := vol_len (e := T_api_Bucket) (l := s.2.2.2.1) (fun x _ => by rw [vol_Bk]; omega)
  refine ⟨by omega, fun b hb => Bk_of ?_⟩
  have := vol_mem (e := T_api_Bucket) hb
  omega

/-- A world for the witness: the tables as their initialisers lay them. -/
noncomputable def laidWorld (os : Os) : World :=
  let w0 := World.holding Tryz.prog os ⟨#[], #[], []⟩
  let put (h : Array Obj) (g : Nat) (cs : Array Value) : Array Obj := h.modify g fun
    | .cells _ t frozen => .cells cs t frozen
    | o => o
  let h1 := put w0.heap 0 firstCells.toArray
  let h2 := put h1 1 acceptCells.toArray
  { w0 with heap := h2 }
set_option maxRecDepth 100000 in
theorem laid_met (os : Os) (args : Array Value) : laidMet Tryz.prog Rows.metaSameUptoRow.laid ((laidWorld os).forCall (fun _ _ => 0) ⟨#[], args, []⟩).memory :=
  (LaidIn.of_run (l := [("unicode/utf8.acceptRanges", Lib.acceptData), ("unicode/utf8.first", Lib.firstData)]) [0, 1] 8 (by kernel_rfl) (by kernel_rfl) (by kernel_rfl) (by kernel_rfl)).met

def zS : Array Value := #[Value.int IntKind.i64 0, Value.int IntKind.u64 0, Value.int IntKind.u64 0, Value.slice none 0 0]
def dS {H : Type} : DataW H := .agg [.lit (.int .i64 0), .lit (.int .u64 0), .lit (.int .u64 0), .nil]

theorem getL {α : Type} {a : Array α} {i : Nat} {x : α} (h : a.toList[i]? = some x) : a[i]? = some x := by simpa using h
/-! Facts of the whole program, each asked once. -/
theorem and_i {a b : Bool} (ha : a = true) (hb : b = true) : (a && b) = true := by rw [ha, hb]; rfl
theorem factLaid : laidOutB Tryz.pinned.checked.prog = true := by kernel_rfl
theorem factMaps : mapsRowed Tryz.pinned.checked.prog = true := by kernel_rfl
theorem factHeard : Tryz.pinned.checked.prog.stopsHeard = true := by kernel_rfl
theorem factEnter : Tryz.pinned.checked.prog.mayEnter = true := by kernel_rfl
end Go.Proofs.YtdlgambebmchmaaGreatDoor

