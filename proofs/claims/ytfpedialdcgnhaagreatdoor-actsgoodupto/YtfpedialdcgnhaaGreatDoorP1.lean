/-
  The plain laws.
-/
import Derived.Test.YtfpedialdcgnhaaGreatDoorP0
import Derived.Test.YtfpedialdcgnhaaGreatDoorF0
import Derived.Test.YtfpedialdcgnhaaGreatDoorRows
import Derived.Test.YtfpedialdcgnhaaGreatDoorCards
import Derived.Test.YtfpedialdcgnhaaGreatDoorTie
import Derived.JoinedCond
import Derived.ChangeCalls
import Derived.Lib.LaidIn
import Derived.Lib.LaidU8T
import Derived.Deep.DeepHandedRow
import Derived.ProofKit
import Derived.HandedShaped
import Derived.Shelf.Vars
set_option linter.unusedVariables false
set_option linter.unusedSimpArgs false
namespace Go.Proofs.YtfpedialdcgnhaaGreatDoor
open Go Go.Va Go.Proofs
theorem ref24_in {n : Nat} {s : ByteArray} (hs : s.size < 8) (hn : 300 ≤ n) (c : Nat) (hc : c < 256) : F_ref24_in.f n s (c : Int) = some (inB s c, ()) := by
  have hl : s.data.toList.length = s.size := rfl
  have := all_loop (l := s.data.toList) 0 (fun b => !decide (b = UInt8.ofNat c)) (fun m k => F_ref24_in.J1 n m (s, (c : Int), k, ())) (some (false, ())) (some (true, ()))
    (fun m k hk => by
      try dsimp only
      rw [F_ref24_in.e1, hide_eq, decide_eq_true (by omega), bIf_true, gIf_pos ⟨by omega, by omega⟩, bt_nat, hide_eq, u8_eq hc, cast_up k (by omega)]
      cases decide (_ = UInt8.ofNat c) <;> rfl)
    (fun m => by
      try dsimp only
      rw [F_ref24_in.e1, hide_eq, decide_eq_false (by omega), bIf_false, F_ref24_in.e2]) n 0 (by omega) (by omega)
  rw [F_ref24_in.e0]
  try dsimp only at this
  rw [show ((0 : Nat) : Int) = 0 from rfl] at this
  rw [this, List.drop_zero]
  unfold inB
  rw [← List.not_any_eq_all_not]
  cases List.any _ _ <;> rfl
theorem ref24_name {n : Nat} (h3 : 300 ≤ n) (hn2 : n ≤ 536870912) {s : ByteArray} (h : s.size < n) : F_ref24_name.f n s = some (nameB s, ()) := by
  rw [F_ref24_name.e0, clean44 (by omega) h (by omega)]
  simp only [hide_eq, bnd_some, bIf_and]
  rw [show (200 : Int) = ((200 : Nat) : Int) from rfl, dec_cast]; rfl
theorem emp3 {n : Nat} (h3 : 300 ≤ n) {o : ByteArray} (ho : o.size < 8) (A : Q) (a : Bool) : F_ref24_empty.J3 n (o, a, A, ()) = some (a && ((inB o 112 || eqS A.2.2.2.2.2.2.2.2.2.2.2.2.2.2.2.1 ⟨#[]⟩) && ((inB o 109 || eqS A.2.2.2.2.2.2.2.2.2.2.2.2.2.2.2.2.1 ⟨#[]⟩) && ((inB o 102 || eqD T_api_Spot A.2.2.2.2.2.2.2.2.2.2.2.2.2.2.2.2.2.1 spotZ) && ((inB o 120 || (A.2.2.2.2.2.2.2.2.2.2.2.2.2.2.2.2.2.2.1 == 0)))))), ()) := by
  have i0 := ref24_in (s := o) ho h3 112 (by decide)
  have i1 := ref24_in (s := o) ho h3 109 (by decide)
  have i2 := ref24_in (s := o) ho h3 102 (by decide)
  have i3 := ref24_in (s := o) ho h3 120 (by decide)
  rw [F_ref24_empty.e3]
  simp only [show (112 : Int) = ((112 : Nat) : Int) from rfl, show (109 : Int) = ((109 : Nat) : Int) from rfl, show (102 : Int) = ((102 : Nat) : Int) from rfl, show (120 : Int) = ((120 : Nat) : Int) from rfl, i0, i1, i2, i3, bnd_s, hide_n]
  generalize inB o 112 = x0
  generalize eqS A.2.2.2.2.2.2.2.2.2.2.2.2.2.2.2.1 ⟨#[]⟩ = z0
  generalize inB o 109 = x1
  generalize eqS A.2.2.2.2.2.2.2.2.2.2.2.2.2.2.2.2.1 ⟨#[]⟩ = z1
  generalize inB o 102 = x2
  generalize eqD T_api_Spot A.2.2.2.2.2.2.2.2.2.2.2.2.2.2.2.2.2.1 _ = z2
  generalize inB o 120 = x3
  generalize (A.2.2.2.2.2.2.2.2.2.2.2.2.2.2.2.2.2.2.1 == 0) = z3
  cases a <;> cases x0 <;> cases z0 <;> cases x1 <;> cases z1 <;> cases x2 <;> cases z2 <;> cases x3 <;> cases z3 <;> rfl
theorem emp2 {n : Nat} (h3 : 300 ≤ n) {o : ByteArray} (ho : o.size < 8) (A : Q) (a : Bool) : F_ref24_empty.J2 n (o, a, A, ()) = F_ref24_empty.J3 n (o, a && ((inB o 103 || (((A.2.2.2.2.2.2.2.2.2.2.2.1.length : Nat) : Int) == 0)) && ((inB o 110 || (A.2.2.2.2.2.2.2.2.2.2.2.2.1 == 0)) && ((inB o 78 || (((A.2.2.2.2.2.2.2.2.2.2.2.2.2.1.length : Nat) : Int) == 0)) && ((inB o 97 || eqS A.2.2.2.2.2.2.2.2.2.2.2.2.2.2.1 ⟨#[]⟩))))), A, ()) := by
  have i0 := ref24_in (s := o) ho h3 103 (by decide)
  have i1 := ref24_in (s := o) ho h3 110 (by decide)
  have i2 := ref24_in (s := o) ho h3 78 (by decide)
  have i3 := ref24_in (s := o) ho h3 97 (by decide)
  rw [F_ref24_empty.e2]
  simp only [show (103 : Int) = ((103 : Nat) : Int) from rfl, show (110 : Int) = ((110 : Nat) : Int) from rfl, show (78 : Int) = ((78 : Nat) : Int) from rfl, show (97 : Int) = ((97 : Nat) : Int) from rfl, i0, i1, i2, i3, bnd_s, hide_n]
  generalize inB o 103 = x0
  generalize (((A.2.2.2.2.2.2.2.2.2.2.2.1.length : Nat) : Int) == 0) = z0
  generalize inB o 110 = x1
  generalize (A.2.2.2.2.2.2.2.2.2.2.2.2.1 == 0) = z1
  generalize inB o 78 = x2
  generalize (((A.2.2.2.2.2.2.2.2.2.2.2.2.2.1.length : Nat) : Int) == 0) = z2
  generalize inB o 97 = x3
  generalize eqS A.2.2.2.2.2.2.2.2.2.2.2.2.2.2.1 ⟨#[]⟩ = z3
  cases a <;> cases x0 <;> cases z0 <;> cases x1 <;> cases z1 <;> cases x2 <;> cases z2 <;> cases x3 <;> cases z3 <;> rfl
theorem emp1 {n : Nat} (h3 : 300 ≤ n) {o : ByteArray} (ho : o.size < 8) (A : Q) (a : Bool) : F_ref24_empty.J1 n (o, a, A, ()) = F_ref24_empty.J2 n (o, a && ((inB o 108 || eqD T_api_Lock A.2.2.2.2.2.2.2.1 lockZ) && ((inB o 121 || (!A.2.2.2.2.2.2.2.2.1)) && ((inB o 100 || eqD T_api_Default A.2.2.2.2.2.2.2.2.2.1 (0, (0, ()))) && ((inB o 114 || (((A.2.2.2.2.2.2.2.2.2.2.1.length : Nat) : Int) == 0)))))), A, ()) := by
  have i0 := ref24_in (s := o) ho h3 108 (by decide)
  have i1 := ref24_in (s := o) ho h3 121 (by decide)
  have i2 := ref24_in (s := o) ho h3 100 (by decide)
  have i3 := ref24_in (s := o) ho h3 114 (by decide)
  rw [F_ref24_empty.e1]
  simp only [show (108 : Int) = ((108 : Nat) : Int) from rfl, show (121 : Int) = ((121 : Nat) : Int) from rfl, show (100 : Int) = ((100 : Nat) : Int) from rfl, show (114 : Int) = ((114 : Nat) : Int) from rfl, i0, i1, i2, i3, bnd_s, hide_n]
  generalize inB o 108 = x0
  generalize eqD T_api_Lock A.2.2.2.2.2.2.2.1 _ = z0
  generalize inB o 121 = x1
  generalize (!A.2.2.2.2.2.2.2.2.1) = z1
  generalize inB o 100 = x2
  generalize eqD T_api_Default A.2.2.2.2.2.2.2.2.2.1 _ = z2
  generalize inB o 114 = x3
  generalize (((A.2.2.2.2.2.2.2.2.2.2.1.length : Nat) : Int) == 0) = z3
  cases a <;> cases x0 <;> cases z0 <;> cases x1 <;> cases z1 <;> cases x2 <;> cases z2 <;> cases x3 <;> cases z3 <;> rfl
theorem emp0 {n : Nat} (h3 : 300 ≤ n) {o : ByteArray} (ho : o.size < 8) (A : Q) : F_ref24_empty.f n A o = F_ref24_empty.J1 n (o, ((inB o 107 || eqS A.2.2.2.1 ⟨#[]⟩) && ((inB o 105 || (A.2.2.2.2.1 == 0)) && ((inB o 66 || (((A.2.2.2.2.2.1.length : Nat) : Int) == 0)) && ((inB o 116 || (((A.2.2.2.2.2.2.1.length : Nat) : Int) == 0)))))), A, ()) := by
  have i0 := ref24_in (s := o) ho h3 107 (by decide)
  have i1 := ref24_in (s := o) ho h3 105 (by decide)
  have i2 := ref24_in (s := o) ho h3 66 (by decide)
  have i3 := ref24_in (s := o) ho h3 116 (by decide)
  rw [F_ref24_empty.e0]
  simp only [show (107 : Int) = ((107 : Nat) : Int) from rfl, show (105 : Int) = ((105 : Nat) : Int) from rfl, show (66 : Int) = ((66 : Nat) : Int) from rfl, show (116 : Int) = ((116 : Nat) : Int) from rfl, i0, i1, i2, i3, bnd_s, hide_n]
  generalize inB o 107 = x0
  generalize eqS A.2.2.2.1 ⟨#[]⟩ = z0
  generalize inB o 105 = x1
  generalize (A.2.2.2.2.1 == 0) = z1
  generalize inB o 66 = x2
  generalize (((A.2.2.2.2.2.1.length : Nat) : Int) == 0) = z2
  generalize inB o 116 = x3
  generalize (((A.2.2.2.2.2.2.1.length : Nat) : Int) == 0) = z3
  cases x0 <;> cases z0 <;> cases x1 <;> cases z1 <;> cases x2 <;> cases z2 <;> cases x3 <;> cases z3 <;> rfl
theorem gd3 {n : Nat} (h3 : 300 ≤ n) (hn2 : n ≤ 536870912) {o : ByteArray} (ho : o.size < 8) {A : Q} (he : QB n A) (z : Int) : F_ref24_Good.J3 n (o, z, A, ()) = F_ref24_Good.J4 n (o, (!inB o 107 || keyB A.2.2.2.1) && (decide (A.2.2.2.2.1 ≥ z) && (decide (((A.2.2.2.2.2.1.length : Nat) : Int) ≤ 1024) && (tagsB A.2.2.2.2.2.2.1 && (lockB A.2.2.2.2.2.2.2.1 && (modeB A.2.2.2.2.2.2.2.2.2.1 && (rulesB A.2.2.2.2.2.2.2.2.2.2.1 && (grantsB A.2.2.2.2.2.2.2.2.2.2.2.1))))))), A, ()) := by
  have i0 := ref24_in (s := o) ho h3 107 (by decide)
  rw [F_ref24_Good.e3]
  simp only [show (107 : Int) = ((107 : Nat) : Int) from rfl, i0, key30 he.y hn2 (by omega), tags38 hn2 (by omega) he.tg, lock37, ref12_Good, ref14_Rules hn2 (by omega) he.r, ref14_Grants hn2 he.g, bnd_s, hide_n]
  generalize inB o 107 = x0
  generalize keyB A.2.2.2.1 = g0
  generalize decide (A.2.2.2.2.1 ≥ z) = g1
  generalize decide (((A.2.2.2.2.2.1.length : Nat) : Int) ≤ 1024) = g2
  generalize tagsB A.2.2.2.2.2.2.1 = g3
  generalize lockB A.2.2.2.2.2.2.2.1 = g4
  generalize modeB A.2.2.2.2.2.2.2.2.2.1 = g5
  generalize rulesB A.2.2.2.2.2.2.2.2.2.2.1 = g6
  generalize grantsB A.2.2.2.2.2.2.2.2.2.2.2.1 = g7
  cases x0 <;> cases g0 <;> cases g1 <;> cases g2 <;> cases g3 <;> cases g4 <;> cases g5 <;> cases g6 <;> cases g7 <;> rfl
theorem gd4 {n : Nat} (h3 : 300 ≤ n) (hn2 : n ≤ 536870912) {o : ByteArray} (ho : o.size < 8) {A : Q} (he : QB n A) (a : Bool) : F_ref24_Good.J4 n (o, a, A, ()) = F_ref24_Good.J5 n (a && ((!inB o 110 || (decide (A.2.2.2.2.2.2.2.2.2.2.2.2.1 ≥ 1) && decide (A.2.2.2.2.2.2.2.2.2.2.2.2.1 ≤ 10000))) && (decide (((A.2.2.2.2.2.2.2.2.2.2.2.2.2.1.length : Nat) : Int) ≤ 16) && (nameB A.2.2.2.2.2.2.2.2.2.2.2.2.2.2.1 && (nameB A.2.2.2.2.2.2.2.2.2.2.2.2.2.2.2.1 && (nameB A.2.2.2.2.2.2.2.2.2.2.2.2.2.2.2.2.1 && ((!inB o 120 || (decide (A.2.2.2.2.2.2.2.2.2.2.2.2.2.2.2.2.2.2.1 ≥ 1) && decide (A.2.2.2.2.2.2.2.2.2.2.2.2.2.2.2.2.2.2.1 ≤ 100))))))))), A, ()) := by
  have i0 := ref24_in (s := o) ho h3 110 (by decide)
  have i1 := ref24_in (s := o) ho h3 120 (by decide)
  rw [F_ref24_Good.e4]
  simp only [show (110 : Int) = ((110 : Nat) : Int) from rfl, show (120 : Int) = ((120 : Nat) : Int) from rfl, i0, i1, ref24_name h3 hn2 he.af, ref24_name h3 hn2 he.pr, ref24_name h3 hn2 he.ma, bnd_s, hide_n]
  generalize inB o 110 = x0
  generalize inB o 120 = x1
  generalize decide (A.2.2.2.2.2.2.2.2.2.2.2.2.1 ≥ 1) = g0
  generalize decide (A.2.2.2.2.2.2.2.2.2.2.2.2.1 ≤ 10000) = g1
  generalize decide (((A.2.2.2.2.2.2.2.2.2.2.2.2.2.1.length : Nat) : Int) ≤ 16) = g2
  generalize nameB A.2.2.2.2.2.2.2.2.2.2.2.2.2.2.1 = g3
  generalize nameB A.2.2.2.2.2.2.2.2.2.2.2.2.2.2.2.1 = g4
  generalize nameB A.2.2.2.2.2.2.2.2.2.2.2.2.2.2.2.2.1 = g5
  generalize decide (A.2.2.2.2.2.2.2.2.2.2.2.2.2.2.2.2.2.2.1 ≥ 1) = g6
  generalize decide (A.2.2.2.2.2.2.2.2.2.2.2.2.2.2.2.2.2.2.1 ≤ 100) = g7
  cases a <;> cases x0 <;> cases x1 <;> cases g0 <;> cases g1 <;> cases g2 <;> cases g3 <;> cases g4 <;> cases g5 <;> cases g6 <;> cases g7 <;> rfl
def exQ (A : Q) : Bool := if A.1 = 11 then !A.2.2.2.2.2.2.2.1.2.2.1 else if A.1 = 12 then A.2.2.2.2.2.2.2.1.1 == 0 else if A.1 = 15 then eqS A.2.2.2.2.2.2.2.2.2.2.2.2.2.2.2.2.2.1.1 ⟨#[]⟩ && nameB A.2.2.2.2.2.2.2.2.2.2.2.2.2.2.2.2.2.1.2.1 else if A.1 = 20 then bucketB A.2.2.2.2.2.2.2.2.2.2.2.2.2.2.2.2.2.1.1 && (keyB A.2.2.2.2.2.2.2.2.2.2.2.2.2.2.2.2.2.1.2.1 && decide (A.2.2.2.2.2.2.2.2.2.2.2.2.2.2.2.2.2.1.2.2.1 ≥ 1)) else true
theorem gd5 {n : Nat} (h3 : 300 ≤ n) (hn2 : n ≤ 536870912) {A : Q} (he : QB n A) (a : Bool) : F_ref24_Good.J5 n (a, A, ()) = some (a && exQ A, ()) := by
  rw [F_ref24_Good.e5, ref24_name h3 hn2 he.fk, ref06_Bucket h3, key30 he.fk hn2 (by omega)]
  simp only [bnd_s, hide_n]
  unfold exQ
  simp only [show ∀ z : Int, (A.1 == z) = decide (A.1 = z) from fun _ => rfl]
  by_cases c1 : A.1 = 11
  · rw [if_pos c1, decide_eq_true c1, bIf_t, bIf_and]
  rw [if_neg c1, decide_eq_false c1, bIf_f]
  by_cases c2 : A.1 = 12
  · rw [if_pos c2, decide_eq_true c2, bIf_t, bIf_and]
  rw [if_neg c2, decide_eq_false c2, bIf_f]
  by_cases c3 : A.1 = 15
  · rw [if_pos c3, decide_eq_true c3, bIf_t, bIf_and, bIf_and]
  rw [if_neg c3, decide_eq_false c3, bIf_f]
  by_cases c4 : A.1 = 20
  · rw [if_pos c4, decide_eq_true c4, bIf_t, bIf_and, bIf_and, bIf_and]
  rw [if_neg c4, decide_eq_false c4, bIf_f, Bool.and_true]
theorem nameB_nil : nameB ⟨#[]⟩ = true := by decide +kernel
theorem zg_len {m : Nat} {c : Int} (hc : 0 ≤ c) (h : (((m : Nat) : Int) == 0) = true) : decide (((m : Nat) : Int) ≤ c) = true := by rw [beq_iff_eq] at h; exact decide_eq_true (by omega)
theorem zg_t {l : List D_api_Tag} (h : (((l.length : Nat) : Int) == 0) = true) : tagsB l = true := by rw [len0 h]; rfl
theorem zg_r {l : List D_api_Rule} (h : (((l.length : Nat) : Int) == 0) = true) : rulesB l = true := by rw [len0 h]; rfl
theorem zg_g {l : List D_api_Grant} (h : (((l.length : Nat) : Int) == 0) = true) : grantsB l = true := by rw [len0 h]; rfl
theorem zg_l {l : D_api_Lock} (h : eqD T_api_Lock l lockZ = true) : lockB l = true := by rw [lockEq h]; decide
theorem zg_d {d : D_api_Default} (h : eqD T_api_Default d (0, (0, ())) = true) : modeB d = true := by rw [defEq h]; decide
theorem zg_n {s : ByteArray} (h : eqS s ⟨#[]⟩ = true) : nameB s = true := by rw [eqS_eq' h]; exact nameB_nil
theorem fld_zg {h : ByteArray} {c : Nat} {g z : Bool} (hz : z = true → g = true) : fld h c g z = ((inB h c || z) && g) := by
  unfold fld
  cases inB h c <;> cases z <;> cases g <;> first | rfl | exact absurd (hz rfl) (by decide)
theorem fld_nx {h : ByteArray} {c : Nat} {g z : Bool} : fld h c g z = ((inB h c || z) && (!inB h c || g)) := by
  unfold fld
  cases inB h c <;> cases z <;> cases g <;> rfl
theorem fld_tr {h : ByteArray} {c : Nat} {z : Bool} : fld h c true z = (inB h c || z) := by
  unfold fld
  cases inB h c <;> rfl
def frQ (k : Int) (f : D_api_Spot) : Bool := if k = 15 then eqS f.1 ⟨#[]⟩ && nameB f.2.1 else if k = 20 then bucketB f.1 && (keyB f.2.1 && decide (f.2.2.1 ≥ 1)) else true
theorem kindQ {k : Int} (hk : 1 ≤ k ∧ k ≤ 22) (l : D_api_Lock) (f : D_api_Spot) : (inB (hasQ k) 105 = false → leastK k = 0) ∧ (inB (hasQ k) 108 = false → lockK k l = true) ∧ (inB (hasQ k) 102 = true → frQ k f = fromK k f) ∧ (inB (hasQ k) 102 = false → frQ k f = true) := by
  have : k = 1 ∨ k = 2 ∨ k = 3 ∨ k = 4 ∨ k = 5 ∨ k = 6 ∨ k = 7 ∨ k = 8 ∨ k = 9 ∨ k = 10 ∨ k = 11 ∨ k = 12 ∨ k = 13 ∨ k = 14 ∨ k = 15 ∨ k = 16 ∨ k = 17 ∨ k = 18 ∨ k = 19 ∨ k = 20 ∨ k = 21 ∨ k = 22 := by omega
  rcases this with h | h | h | h | h | h | h | h | h | h | h | h | h | h | h | h | h | h | h | h | h | h <;> subst h <;> refine ⟨?_, ?_, ?_, ?_⟩ <;> intro hh <;> first | rfl | exact absurd hh (by decide +kernel)
theorem exQ_eq (e : Q) : exQ e = (lockK e.1 e.2.2.2.2.2.2.2.1 && frQ e.1 e.2.2.2.2.2.2.2.2.2.2.2.2.2.2.2.2.2.1) := by
  unfold exQ lockK frQ
  by_cases c1 : e.1 = 11
  · rw [if_pos c1, if_pos c1, if_neg (by omega), if_neg (by omega), Bool.and_true]
  rw [if_neg c1, if_neg c1]
  by_cases c2 : e.1 = 12
  · rw [if_pos c2, if_pos c2, if_neg (by omega), if_neg (by omega), Bool.and_true]
  rw [if_neg c2, if_neg c2, Bool.true_and]
theorem ref24_has (n : Nat) {k : Int} (hk : 1 ≤ k ∧ k ≤ 22) : F_ref24_has.f n k = some (hasQ k, ()) := by
  have : k = 1 ∨ k = 2 ∨ k = 3 ∨ k = 4 ∨ k = 5 ∨ k = 6 ∨ k = 7 ∨ k = 8 ∨ k = 9 ∨ k = 10 ∨ k = 11 ∨ k = 12 ∨ k = 13 ∨ k = 14 ∨ k = 15 ∨ k = 16 ∨ k = 17 ∨ k = 18 ∨ k = 19 ∨ k = 20 ∨ k = 21 ∨ k = 22 := by omega
  rcases this with h | h | h | h | h | h | h | h | h | h | h | h | h | h | h | h | h | h | h | h | h | h <;> subst h <;> (rw [F_ref24_has.e0]; simp only [F_ref24_has.e1, F_ref24_has.e2, hide_n, Int.reduceBEq, bIf_t, bIf_f]; rfl)
theorem hasQ_size {k : Int} (hk : 1 ≤ k ∧ k ≤ 22) : (hasQ k).size < 8 := by
  have : k = 1 ∨ k = 2 ∨ k = 3 ∨ k = 4 ∨ k = 5 ∨ k = 6 ∨ k = 7 ∨ k = 8 ∨ k = 9 ∨ k = 10 ∨ k = 11 ∨ k = 12 ∨ k = 13 ∨ k = 14 ∨ k = 15 ∨ k = 16 ∨ k = 17 ∨ k = 18 ∨ k = 19 ∨ k = 20 ∨ k = 21 ∨ k = 22 := by omega
  rcases this with h | h | h | h | h | h | h | h | h | h | h | h | h | h | h | h | h | h | h | h | h | h <;> subst h <;> decide +kernel
set_option maxHeartbeats 4000000 in
theorem ref24_Good {n : Nat} (h3 : 300 ≤ n) (hn2 : n ≤ 536870912) {e : Q} (he : QB n e) : F_ref24_Good.f n e = some (goodQ e, ()) := by
  by_cases hk : 1 ≤ e.1 ∧ e.1 ≤ 22
  · have ho := hasQ_size hk
    have hw := he.w
    obtain ⟨q1, q2, q3, q4⟩ := kindQ hk e.2.2.2.2.2.2.2.1 e.2.2.2.2.2.2.2.2.2.2.2.2.2.2.2.2.2.1
    have f107 := fld_nx (h := hasQ e.1) (c := 107) (g := keyB e.2.2.2.1) (z := eqS e.2.2.2.1 ⟨#[]⟩)
    have f110 := fld_nx (h := hasQ e.1) (c := 110) (g := decide (e.2.2.2.2.2.2.2.2.2.2.2.2.1 ≥ 1) && decide (e.2.2.2.2.2.2.2.2.2.2.2.2.1 ≤ 10000)) (z := (e.2.2.2.2.2.2.2.2.2.2.2.2.1 == 0))
    have f120 := fld_nx (h := hasQ e.1) (c := 120) (g := decide (e.2.2.2.2.2.2.2.2.2.2.2.2.2.2.2.2.2.2.1 ≥ 1) && decide (e.2.2.2.2.2.2.2.2.2.2.2.2.2.2.2.2.2.2.1 ≤ 100)) (z := (e.2.2.2.2.2.2.2.2.2.2.2.2.2.2.2.2.2.2.1 == 0))
    have f121 := fld_tr (h := hasQ e.1) (c := 121) (z := (!e.2.2.2.2.2.2.2.2.1))
    have f66 := fld_zg (h := hasQ e.1) (c := 66) (zg_len (m := e.2.2.2.2.2.1.length) (c := 1024) (by decide))
    have f116 := fld_zg (h := hasQ e.1) (c := 116) (zg_t (l := e.2.2.2.2.2.2.1))
    have f100 := fld_zg (h := hasQ e.1) (c := 100) (zg_d (d := e.2.2.2.2.2.2.2.2.2.1))
    have f114 := fld_zg (h := hasQ e.1) (c := 114) (zg_r (l := e.2.2.2.2.2.2.2.2.2.2.1))
    have f103 := fld_zg (h := hasQ e.1) (c := 103) (zg_g (l := e.2.2.2.2.2.2.2.2.2.2.2.1))
    have f78 := fld_zg (h := hasQ e.1) (c := 78) (zg_len (m := e.2.2.2.2.2.2.2.2.2.2.2.2.2.1.length) (c := 16) (by decide))
    have f97 := fld_zg (h := hasQ e.1) (c := 97) (zg_n (s := e.2.2.2.2.2.2.2.2.2.2.2.2.2.2.1))
    have f112 := fld_zg (h := hasQ e.1) (c := 112) (zg_n (s := e.2.2.2.2.2.2.2.2.2.2.2.2.2.2.2.1))
    have f109 := fld_zg (h := hasQ e.1) (c := 109) (zg_n (s := e.2.2.2.2.2.2.2.2.2.2.2.2.2.2.2.2.1))
    have f105 : fld (hasQ e.1) 105 (decide (e.2.2.2.2.1 ≥ leastK e.1)) ((e.2.2.2.2.1 == 0)) = ((inB (hasQ e.1) 105 || (e.2.2.2.2.1 == 0)) && (decide (e.2.2.2.2.1 ≥ leastK e.1))) := by
      unfold fld
      cases hi : inB (hasQ e.1) 105
      · rw [q1 hi]
        cases hz : (e.2.2.2.2.1 == 0)
        · rfl
        · rw [decide_eq_true (by have := beq_iff_eq.1 hz; omega)]; rfl
      · rfl
    have f108 : fld (hasQ e.1) 108 (lockB e.2.2.2.2.2.2.2.1 && lockK e.1 e.2.2.2.2.2.2.2.1) (eqD T_api_Lock e.2.2.2.2.2.2.2.1 lockZ) = ((inB (hasQ e.1) 108 || eqD T_api_Lock e.2.2.2.2.2.2.2.1 lockZ) && (lockB e.2.2.2.2.2.2.2.1 && lockK e.1 e.2.2.2.2.2.2.2.1)) := by
      unfold fld
      cases hi : inB (hasQ e.1) 108
      · rw [q2 hi]
        cases hz : eqD T_api_Lock e.2.2.2.2.2.2.2.1 lockZ
        · rfl
        · rw [zg_l hz]; rfl
      · rfl
    have f102 : fld (hasQ e.1) 102 (fromK e.1 e.2.2.2.2.2.2.2.2.2.2.2.2.2.2.2.2.2.1) (eqD T_api_Spot e.2.2.2.2.2.2.2.2.2.2.2.2.2.2.2.2.2.1 spotZ) = ((inB (hasQ e.1) 102 || eqD T_api_Spot e.2.2.2.2.2.2.2.2.2.2.2.2.2.2.2.2.2.1 spotZ) && frQ e.1 e.2.2.2.2.2.2.2.2.2.2.2.2.2.2.2.2.2.1) := by
      unfold fld
      cases hi : inB (hasQ e.1) 102
      · rw [q4 hi, Bool.and_true]; rfl
      · rw [q3 hi]; rfl
    have e2 : F_ref24_Good.J2 n (e, ()) = some (fld (hasQ e.1) 107 (keyB e.2.2.2.1) (eqS e.2.2.2.1 ⟨#[]⟩) && (fld (hasQ e.1) 105 (decide (e.2.2.2.2.1 ≥ leastK e.1)) ((e.2.2.2.2.1 == 0)) && (fld (hasQ e.1) 66 (decide (((e.2.2.2.2.2.1.length : Nat) : Int) ≤ 1024)) ((((e.2.2.2.2.2.1.length : Nat) : Int) == 0)) && (fld (hasQ e.1) 116 (tagsB e.2.2.2.2.2.2.1) ((((e.2.2.2.2.2.2.1.length : Nat) : Int) == 0)) && (fld (hasQ e.1) 108 (lockB e.2.2.2.2.2.2.2.1 && lockK e.1 e.2.2.2.2.2.2.2.1) (eqD T_api_Lock e.2.2.2.2.2.2.2.1 lockZ) && (fld (hasQ e.1) 121 (true) ((!e.2.2.2.2.2.2.2.2.1)) && (fld (hasQ e.1) 100 (modeB e.2.2.2.2.2.2.2.2.2.1) (eqD T_api_Default e.2.2.2.2.2.2.2.2.2.1 (0, (0, ()))) && (fld (hasQ e.1) 114 (rulesB e.2.2.2.2.2.2.2.2.2.2.1) ((((e.2.2.2.2.2.2.2.2.2.2.1.length : Nat) : Int) == 0)) && (fld (hasQ e.1) 103 (grantsB e.2.2.2.2.2.2.2.2.2.2.2.1) ((((e.2.2.2.2.2.2.2.2.2.2.2.1.length : Nat) : Int) == 0)) && (fld (hasQ e.1) 110 (decide (e.2.2.2.2.2.2.2.2.2.2.2.2.1 ≥ 1) && decide (e.2.2.2.2.2.2.2.2.2.2.2.2.1 ≤ 10000)) ((e.2.2.2.2.2.2.2.2.2.2.2.2.1 == 0)) && (fld (hasQ e.1) 78 (decide (((e.2.2.2.2.2.2.2.2.2.2.2.2.2.1.length : Nat) : Int) ≤ 16)) ((((e.2.2.2.2.2.2.2.2.2.2.2.2.2.1.length : Nat) : Int) == 0)) && (fld (hasQ e.1) 97 (nameB e.2.2.2.2.2.2.2.2.2.2.2.2.2.2.1) (eqS e.2.2.2.2.2.2.2.2.2.2.2.2.2.2.1 ⟨#[]⟩) && (fld (hasQ e.1) 112 (nameB e.2.2.2.2.2.2.2.2.2.2.2.2.2.2.2.1) (eqS e.2.2.2.2.2.2.2.2.2.2.2.2.2.2.2.1 ⟨#[]⟩) && (fld (hasQ e.1) 109 (nameB e.2.2.2.2.2.2.2.2.2.2.2.2.2.2.2.2.1) (eqS e.2.2.2.2.2.2.2.2.2.2.2.2.2.2.2.2.1 ⟨#[]⟩) && (fld (hasQ e.1) 102 (fromK e.1 e.2.2.2.2.2.2.2.2.2.2.2.2.2.2.2.2.2.1) (eqD T_api_Spot e.2.2.2.2.2.2.2.2.2.2.2.2.2.2.2.2.2.1 spotZ) && (fld (hasQ e.1) 120 (decide (e.2.2.2.2.2.2.2.2.2.2.2.2.2.2.2.2.2.2.1 ≥ 1) && decide (e.2.2.2.2.2.2.2.2.2.2.2.2.2.2.2.2.2.2.1 ≤ 100)) ((e.2.2.2.2.2.2.2.2.2.2.2.2.2.2.2.2.2.2.1 == 0))))))))))))))))), ()) := by
      rw [f107, f105, f66, f116, f108, f121, f100, f114, f103, f110, f78, f97, f112, f109, f102, f120]
      clear f107 f105 f66 f116 f108 f121 f100 f114 f103 f110 f78 f97 f112 f109 f102 f120
      have hl : ∀ (J : Int → Option F_ref24_Good.R), bIf (e.1 == 10) (J 1) (bIf (e.1 == 17) (J 1) (bIf (e.1 == 18) (J 1) (bIf (e.1 == 19) (J 1) (J 0)))) = J (leastK e.1) := by
        intro J
        simp only [show ∀ z : Int, (e.1 == z) = decide (e.1 = z) from fun _ => rfl]
        unfold leastK
        by_cases c1 : e.1 = 10
        · rw [decide_eq_true c1, if_pos (by omega), bIf_t]
        by_cases c2 : e.1 = 17
        · rw [decide_eq_false c1, bIf_f, decide_eq_true c2, if_pos (by omega), bIf_t]
        by_cases c3 : e.1 = 18
        · rw [decide_eq_false c1, bIf_f, decide_eq_false c2, bIf_f, decide_eq_true c3, if_pos (by omega), bIf_t]
        by_cases c4 : e.1 = 19
        · rw [decide_eq_false c1, bIf_f, decide_eq_false c2, bIf_f, decide_eq_false c3, bIf_f, decide_eq_true c4, if_pos (by omega), bIf_t]
        rw [decide_eq_false c1, bIf_f, decide_eq_false c2, bIf_f, decide_eq_false c3, bIf_f, decide_eq_false c4, bIf_f, if_neg (by omega)]
      rw [F_ref24_Good.e2, ref24_has n hk, bnd_s, emp0 h3 ho e, emp1 h3 ho e, emp2 h3 ho e, emp3 h3 ho e, bnd_s]
      simp only [hide_n]
      rw [hl (fun z => F_ref24_Good.J3 n (hasQ e.1, z, e, ())), gd3 h3 hn2 ho he, gd4 h3 hn2 ho he, gd5 h3 hn2 he, exQ_eq, bIf_nand, Bool.not_not]
      clear hl q1 q2 q3 q4
      generalize inB (hasQ e.1) 107 = x107
      generalize inB (hasQ e.1) 105 = x105
      generalize inB (hasQ e.1) 66 = x66
      generalize inB (hasQ e.1) 116 = x116
      generalize inB (hasQ e.1) 108 = x108
      generalize inB (hasQ e.1) 121 = x121
      generalize inB (hasQ e.1) 100 = x100
      generalize inB (hasQ e.1) 114 = x114
      generalize inB (hasQ e.1) 103 = x103
      generalize inB (hasQ e.1) 110 = x110
      generalize inB (hasQ e.1) 78 = x78
      generalize inB (hasQ e.1) 97 = x97
      generalize inB (hasQ e.1) 112 = x112
      generalize inB (hasQ e.1) 109 = x109
      generalize inB (hasQ e.1) 102 = x102
      generalize inB (hasQ e.1) 120 = x120
      generalize eqS e.2.2.2.1 ⟨#[]⟩ = z107
      generalize (e.2.2.2.2.1 == 0) = z105
      generalize (((e.2.2.2.2.2.1.length : Nat) : Int) == 0) = z66
      generalize (((e.2.2.2.2.2.2.1.length : Nat) : Int) == 0) = z116
      generalize eqD T_api_Lock e.2.2.2.2.2.2.2.1 _ = z108
      generalize eqD T_api_Default e.2.2.2.2.2.2.2.2.2.1 _ = z100
      generalize (((e.2.2.2.2.2.2.2.2.2.2.1.length : Nat) : Int) == 0) = z114
      generalize (((e.2.2.2.2.2.2.2.2.2.2.2.1.length : Nat) : Int) == 0) = z103
      generalize (e.2.2.2.2.2.2.2.2.2.2.2.2.1 == 0) = z110
      generalize (((e.2.2.2.2.2.2.2.2.2.2.2.2.2.1.length : Nat) : Int) == 0) = z78
      generalize eqS e.2.2.2.2.2.2.2.2.2.2.2.2.2.2.1 ⟨#[]⟩ = z97
      generalize eqS e.2.2.2.2.2.2.2.2.2.2.2.2.2.2.2.1 ⟨#[]⟩ = z112
      generalize eqS e.2.2.2.2.2.2.2.2.2.2.2.2.2.2.2.2.1 ⟨#[]⟩ = z109
      generalize eqD T_api_Spot e.2.2.2.2.2.2.2.2.2.2.2.2.2.2.2.2.2.1 _ = z102
      generalize (e.2.2.2.2.2.2.2.2.2.2.2.2.2.2.2.2.2.2.1 == 0) = z120
      generalize keyB _ = g1
      generalize decide (e.2.2.2.2.1 ≥ _) = g2
      generalize decide (((e.2.2.2.2.2.1.length : Nat) : Int) ≤ 1024) = g3
      generalize tagsB _ = g4
      generalize lockB _ = g5
      generalize lockK _ _ = g6
      generalize modeB _ = g7
      generalize rulesB _ = g8
      generalize grantsB _ = g9
      generalize decide (e.2.2.2.2.2.2.2.2.2.2.2.2.1 ≥ 1) = g10
      generalize decide (e.2.2.2.2.2.2.2.2.2.2.2.2.1 ≤ 10000) = g11
      generalize decide (((e.2.2.2.2.2.2.2.2.2.2.2.2.2.1.length : Nat) : Int) ≤ 16) = g12
      generalize nameB e.2.2.2.2.2.2.2.2.2.2.2.2.2.2.1 = g13
      generalize nameB e.2.2.2.2.2.2.2.2.2.2.2.2.2.2.2.1 = g14
      generalize nameB e.2.2.2.2.2.2.2.2.2.2.2.2.2.2.2.2.1 = g15
      generalize frQ _ _ = g16
      generalize decide (e.2.2.2.2.2.2.2.2.2.2.2.2.2.2.2.2.2.2.1 ≥ 1) = g17
      generalize decide (e.2.2.2.2.2.2.2.2.2.2.2.2.2.2.2.2.2.2.1 ≤ 100) = g18
      ac_rfl
    unfold goodQ
    rw [F_ref24_Good.e0, clean44 (by omega) hw (by omega)]
    simp only [F_ref24_Good.e1, ref06_Bucket h3, hide_n, bnd_s]
    rw [e2, decide_eq_false (show ¬ e.1 < 1 by omega), bIf_f, decide_eq_false (show ¬ e.1 > 22 by omega), bIf_f, show (decide (1 ≤ e.1) && decide (e.1 ≤ 22)) = true by rw [decide_eq_true hk.1, decide_eq_true hk.2]; rfl]
    by_cases h21 : 21 ≤ e.1
    · rw [if_pos h21, decide_eq_true (show e.1 ≥ 21 from h21), bIf_t, decide_eq_false (show ¬ e.1 < 21 by omega), bIf_f]
      simp only [bIf_nand, Bool.not_not, Bool.true_and]
    · rw [if_neg h21, decide_eq_false (show ¬ e.1 ≥ 21 from h21), bIf_f, decide_eq_true (show e.1 < 21 by omega), bIf_t]
      simp only [bIf_nand, Bool.not_not, Bool.true_and]
  · have hz : goodQ e = false := by
      unfold goodQ
      rw [show (decide (1 ≤ e.1) && decide (e.1 ≤ 22)) = false by
        rw [← Bool.decide_and]; exact decide_eq_false hk, Bool.false_and]
    rw [hz, F_ref24_Good.e0, hide_eq, hide_eq]
    by_cases h1 : e.1 < 1
    · rw [decide_eq_true h1, bIf_true]
    · rw [decide_eq_false h1, bIf_false, decide_eq_true (by omega), bIf_true]
end Go.Proofs.YtfpedialdcgnhaaGreatDoor
namespace Go.Proofs.YtfpedialdcgnhaaGreatDoor
open Go Go.Va Go.Proofs
theorem acts_Good {n : Nat} (h3 : 300 ≤ n) (hn2 : n ≤ 536870912) {e : Q} (he : QB n e) : F_acts_Good.f n e = some (goodQ e, ()) := by
  by_cases hk : 1 ≤ e.1 ∧ e.1 ≤ 22
  · obtain ⟨k, w, b, y, i, bo, tg, l, q, d, r, g, nu, ns, af, pr, ma, fr, mx, u⟩ := e
    have : k = 1 ∨ k = 2 ∨ k = 3 ∨ k = 4 ∨ k = 5 ∨ k = 6 ∨ k = 7 ∨ k = 8 ∨ k = 9 ∨ k = 10 ∨ k = 11 ∨ k = 12 ∨ k = 13 ∨ k = 14 ∨ k = 15 ∨ k = 16 ∨ k = 17 ∨ k = 18 ∨ k = 19 ∨ k = 20 ∨ k = 21 ∨ k = 22 := by
      obtain ⟨h1, h2⟩ := hk
      dsimp only at h1 h2
      omega
    rcases this with h | h | h | h | h | h | h | h | h | h | h | h | h | h | h | h | h | h | h | h | h | h <;> subst h
    · exact good_1 h3 hn2 w b y i bo tg l q d r g nu ns af pr ma fr mx u he
    · exact good_2 h3 hn2 w b y i bo tg l q d r g nu ns af pr ma fr mx u he
    · exact good_3 h3 hn2 w b y i bo tg l q d r g nu ns af pr ma fr mx u he
    · exact good_4 h3 hn2 w b y i bo tg l q d r g nu ns af pr ma fr mx u he
    · exact good_5 h3 hn2 w b y i bo tg l q d r g nu ns af pr ma fr mx u he
    · exact good_6 h3 hn2 w b y i bo tg l q d r g nu ns af pr ma fr mx u he
    · exact good_7 h3 hn2 w b y i bo tg l q d r g nu ns af pr ma fr mx u he
    · exact good_8 h3 hn2 w b y i bo tg l q d r g nu ns af pr ma fr mx u he
    · exact good_9 h3 hn2 w b y i bo tg l q d r g nu ns af pr ma fr mx u he
    · exact good_10 h3 hn2 w b y i bo tg l q d r g nu ns af pr ma fr mx u he
    · exact good_11 h3 hn2 w b y i bo tg l q d r g nu ns af pr ma fr mx u he
    · exact good_12 h3 hn2 w b y i bo tg l q d r g nu ns af pr ma fr mx u he
    · exact good_13 h3 hn2 w b y i bo tg l q d r g nu ns af pr ma fr mx u he
    · exact good_14 h3 hn2 w b y i bo tg l q d r g nu ns af pr ma fr mx u he
    · exact good_15 h3 hn2 w b y i bo tg l q d r g nu ns af pr ma fr mx u he
    · exact good_16 h3 hn2 w b y i bo tg l q d r g nu ns af pr ma fr mx u he
    · exact good_17 h3 hn2 w b y i bo tg l q d r g nu ns af pr ma fr mx u he
    · exact good_18 h3 hn2 w b y i bo tg l q d r g nu ns af pr ma fr mx u he
    · exact good_19 h3 hn2 w b y i bo tg l q d r g nu ns af pr ma fr mx u he
    · exact good_20 h3 hn2 w b y i bo tg l q d r g nu ns af pr ma fr mx u he
    · exact good_21 h3 hn2 w b y i bo tg l q d r g nu ns af pr ma fr mx u he
    · exact good_22 h3 hn2 w b y i bo tg l q d r g nu ns af pr ma fr mx u he
  · have hz : goodQ e = false := by
      unfold goodQ
      rw [show (decide (1 ≤ e.1) && decide (e.1 ≤ 22)) = false by
        rw [← Bool.decide_and]; exact decide_eq_false hk, Bool.false_and]
    have c1 : (e.1 == 1) = false := by rw [beq_eq_false_iff_ne]; omega
    have c2 : (e.1 == 2) = false := by rw [beq_eq_false_iff_ne]; omega
    have c3 : (e.1 == 3) = false := by rw [beq_eq_false_iff_ne]; omega
    have c4 : (e.1 == 4) = false := by rw [beq_eq_false_iff_ne]; omega
    have c5 : (e.1 == 5) = false := by rw [beq_eq_false_iff_ne]; omega
    have c6 : (e.1 == 6) = false := by rw [beq_eq_false_iff_ne]; omega
    have c7 : (e.1 == 7) = false := by rw [beq_eq_false_iff_ne]; omega
    have c8 : (e.1 == 8) = false := by rw [beq_eq_false_iff_ne]; omega
    have c9 : (e.1 == 9) = false := by rw [beq_eq_false_iff_ne]; omega
    have c10 : (e.1 == 10) = false := by rw [beq_eq_false_iff_ne]; omega
    have c11 : (e.1 == 11) = false := by rw [beq_eq_false_iff_ne]; omega
    have c12 : (e.1 == 12) = false := by rw [beq_eq_false_iff_ne]; omega
    have c13 : (e.1 == 13) = false := by rw [beq_eq_false_iff_ne]; omega
    have c14 : (e.1 == 14) = false := by rw [beq_eq_false_iff_ne]; omega
    have c15 : (e.1 == 15) = false := by rw [beq_eq_false_iff_ne]; omega
    have c16 : (e.1 == 16) = false := by rw [beq_eq_false_iff_ne]; omega
    have c17 : (e.1 == 17) = false := by rw [beq_eq_false_iff_ne]; omega
    have c18 : (e.1 == 18) = false := by rw [beq_eq_false_iff_ne]; omega
    have c19 : (e.1 == 19) = false := by rw [beq_eq_false_iff_ne]; omega
    have c20 : (e.1 == 20) = false := by rw [beq_eq_false_iff_ne]; omega
    have c21 : (e.1 == 21) = false := by rw [beq_eq_false_iff_ne]; omega
    have c22 : (e.1 == 22) = false := by rw [beq_eq_false_iff_ne]; omega
    have how : F_acts_strip_own.f n (e, (true, ())) = some ((e, (false, ())), ()) := by
      rw [F_acts_strip_own.e0]
      simp only [F_acts_strip_own.e1, F_acts_strip_own.e2, F_acts_strip_own.e3, hide_n, c1, c2, c3, c4, c5, c6, c7, c8, c9, c10, c11, c12, c13, c14, c15, c16, c17, c18, c19, c20, c21, c22, bIf_t, bIf_f, bnd_s, s_may, Bool.and_false]
    have hw := he.w
    rw [hz, F_acts_Good.e0]
    simp only [F_acts_Good.e1, how, clean42 (by omega) hw, F_acts_anywhere.e0, label_Bucket h3, hide_n, c21, c22, bnd_s, bIf_t, bIf_f, bIf_same]
theorem index_J {n : Nat} (l : List Int) (v : Int) (hl : l.length < 1073741824) : ∀ (m k : Nat), k ≤ l.length → l.length - k < m →
    ∃ r, F_slices_Index_int.J1 n m (l, v, ((l.length : Nat) : Int), (k : Int), ()) = some (r, ()) ∧ decide (r ≥ 0) = (l.drop k).any (fun x => v == x)
  | 0, k, _, h => by omega
  | m + 1, k, hk, h => by
    rw [F_slices_Index_int.e1, hide_n]
    by_cases hlt : k < l.length
    · rw [decide_eq_true (by omega), bIf_true, gIf_pos ⟨by omega, by omega⟩, Int.toNat_natCast, hide_n, getD_drop hlt, List.any_cons]
      cases he : (v == l.getD k 0)
      · rw [bIf_false, cast_up k (by omega), Bool.false_or]
        exact index_J l v hl m (k + 1) (by omega) (by omega)
      · rw [bIf_true, Bool.true_or]
        exact ⟨_, rfl, decide_eq_true (Int.natCast_nonneg k)⟩
    · rw [decide_eq_false (by omega), bIf_false, F_slices_Index_int.e2, List.drop_eq_nil_of_le (by omega)]
      exact ⟨_, rfl, rfl⟩
theorem contains_is {n : Nat} (l : List Int) (v : Int) (hl : l.length < 1073741824) (hn : l.length < n) : F_slices_Contains_int.f n l v = some (l.any (fun x => v == x), ()) := by
  obtain ⟨r, h1, h2⟩ := index_J (n := n) l v hl n 0 (by omega) (by omega)
  rw [F_slices_Contains_int.e0, F_slices_Index_int.e0]
  change (bnd (F_slices_Index_int.J1 n n (l, v, ((l.length : Nat) : Int), ((0 : Nat) : Int), ())) _) = _
  rw [h1, bnd_some, hide_n, h2, List.drop_zero]
theorem law_J2 {n : Nat} (hn : 300 ≤ n) (hn2 : n ≤ 536870912) {r : D_api_Request} (hr : QB n r) (s : D_api_State) (now : Int) :
    F_law24_ActsGood.J2 n (now, [6, 17, 18].any (fun x => r.1 == x), [1, 3, 4, 5, 6, 13, 16, 17, 18, 20].any (fun x => r.1 == x), r, s, ()) = some (true, ()) := by
  rw [F_law24_ActsGood.e2, show F_law24_awake.f = some (true, ()) from rfl, bnd_some, bIf_true, acts_Good hn hn2 hr, bnd_some, ref24_Good hn hn2 hr, bnd_some, hide_n]
  dsimp only
  rw [beq_self_eq_true, bIf_true, F_acts_Writes.e0, contains_is _ _ (by decide) (by change 3 < n; omega), bnd_some, bnd_some, hide_n]
  dsimp only
  rw [beq_self_eq_true, bIf_true, F_acts_Grows.e0, contains_is _ _ (by decide) (by change 10 < n; omega), bnd_some, bnd_some, hide_n]
  dsimp only
  rw [beq_self_eq_true, bIf_true, F_acts_Time.e0, F_ref24_Time.e0, clamp33, clamp36]
  simp only [bnd_some, hide_n]
  unfold maxI
  by_cases h : clampI now < s.1
  · rw [decide_eq_true h, bIf_true, if_pos h]; simp only [bnd_some]; rw [beq_self_eq_true]
  · rw [decide_eq_false h, bIf_false, if_neg h]; simp only [bnd_some]; rw [beq_self_eq_true]
theorem lawGood {n : Nat} (hn : 300 ≤ n) (hn2 : n ≤ 536870912) {r : D_api_Request} (hr : QB n r) (s : D_api_State) (now : Int) : F_law24_ActsGood.f n r s now = some (true, ()) := by
  have h1 : F_law24_ActsGood.J1 n (now, [6, 17, 18].any (fun x => r.1 == x), r, s, ()) = some (true, ()) := by
    have h2 := law_J2 hn hn2 hr s now
    rw [F_law24_ActsGood.e1]
    simp only [hide_n]
    generalize ha : ([6, 17, 18].any (fun x => r.1 == x) : Bool) = a at h2 ⊢
    generalize hb : ([1, 3, 4, 5, 6, 13, 16, 17, 18, 20].any (fun x => r.1 == x) : Bool) = b at h2
    simp only [List.any_cons, List.any_nil, Bool.or_false] at ha hb
    subst ha hb
    revert h2
    generalize (r.1 == 6) = c6; generalize (r.1 == 17) = c17; generalize (r.1 == 18) = c18
    generalize (r.1 == 1) = c1; generalize (r.1 == 3) = c3; generalize (r.1 == 4) = c4; generalize (r.1 == 5) = c5; generalize (r.1 == 13) = c13; generalize (r.1 == 16) = c16; generalize (r.1 == 20) = c20
    intro h2
    cases c6 <;> cases c17 <;> cases c18 <;> cases c1 <;> cases c3 <;> cases c4 <;> cases c5 <;> cases c13 <;> cases c16 <;> exact h2
  rw [F_law24_ActsGood.e0]
  simp only [hide_n]
  revert h1
  simp only [List.any_cons, List.any_nil, Bool.or_false]
  generalize (r.1 == 6) = c6; generalize (r.1 == 17) = c17; generalize (r.1 == 18) = c18
  intro h1
  cases c6 <;> cases c17 <;> cases c18 <;> exact h1
end Go.Proofs.YtfpedialdcgnhaaGreatDoor
namespace Go.Proofs.YtfpedialdcgnhaaGreatDoor
open Go Go.Va Go.Proofs Go.ChangeShapes Go.WideShapes Go.ChangeAt Go.RowKit
theorem kids : Kids Tryz.prog (· < Tryz.prog.types.size) := kids_rows (by kernel_rfl) (by kernel_rfl)
theorem full : ∀ t e, t < Tryz.prog.types.size → Tryz.prog.underlying t = some (.slice e) → 0 < Tryz.prog.cellsOf e := slices_full_of Tryz.prog (by kernel_rfl)
theorem own : ownKnob Tryz.prog.godebug = none := by kernel_rfl
mutual
theorem bulk_eq {H : Type} : ∀ (d : DataW H), Rows.uptoBulk d = bulk d
  | .lit l => by cases l <;> simp [Rows.uptoBulk, bulk]
  | .nil => by simp [Rows.uptoBulk, bulk]
  | .ptr d => by simp [Rows.uptoBulk, bulk, bulk_eq d]
  | .slice elems spare => by simp [Rows.uptoBulk, bulk, bulkL_eq elems, bulkL_eq spare]
  | .agg parts => by simp [Rows.uptoBulk, bulk, bulkL_eq parts]
  | .iface _ d => by simp [Rows.uptoBulk, bulk, bulk_eq d]
  | .map entries => by simp [Rows.uptoBulk, bulk, bulkE_eq entries]
  | .held _ => by simp [Rows.uptoBulk, bulk]
theorem bulkL_eq {H : Type} : ∀ (l : List (DataW H)), Rows.uptoBulkAll l = bulkL l
  | [] => by simp [Rows.uptoBulkAll, bulkL]
  | d :: r => by simp [Rows.uptoBulkAll, bulkL, bulk_eq d, bulkL_eq r]
theorem bulkE_eq {H : Type} : ∀ (l : List (Lit × DataW H)), Rows.uptoBulkEntries l = bulkE l
  | [] => by simp [Rows.uptoBulkEntries, bulkE]
  | x :: r => by simp [Rows.uptoBulkEntries, bulkE, bulkX_eq x, bulkE_eq r]
theorem bulkX_eq {H : Type} : ∀ (x : Lit × DataW H), Rows.uptoBulkEntry x = bulkX x
  | (l, d) => by cases l <;> simp [Rows.uptoBulkEntry, bulkX, bulk_eq d]
end
theorem small_of {H : Type} {ds gs : List (DataW H)} (h : Rows.uptoSmall H (ds ++ gs) = true) : bulkL ds ≤ 1048576 := by
  have h := of_decide_eq_true h
  rw [bulkL_eq, bulkL_append] at h
  omega
theorem vol_mem {e : Ty} {l : List (Den e)} {x : Den e} (h : x ∈ l) : vol e x ≤ (l.map (vol e)).sum := by
  induction l with
  | nil => simp at h
  | cons y l ih =>
    rw [List.map_cons, List.sum_cons]
    rcases List.mem_cons.1 h with rfl | h
    · omega
    · have := ih h; omega
theorem vol_len {e : Ty} {l : List (Den e)} (h : ∀ x ∈ l, 1 ≤ vol e x) : l.length ≤ (l.map (vol e)).sum := by
  induction l with
  | nil => simp
  | cons y l ih =>
    rw [List.map_cons, List.sum_cons, List.length_cons]
    have h1 := h y List.mem_cons_self
    have h2 := ih (fun x hx => h x (List.mem_cons_of_mem _ hx))
    omega
theorem vol_Tag (t : D_api_Tag) : vol T_api_Tag t = t.1.size + 1 + (t.2.1.size + 1) := rfl
theorem vol_Rule (r : D_api_Rule) : vol T_api_Rule r = r.1.size + 1 + (((r.2.1.map (vol T_api_Tag)).sum + 1) + vol T_api_Lock r.2.2) := rfl
theorem vol_Grant (g : D_api_Grant) : vol T_api_Grant g = 1 + (g.2.1.size + 1 + (g.2.2.1.size + 1 + (g.2.2.2.1.size + 1))) := rfl
theorem u64_of {x : Int} (h : IntKind.u64.min ≤ x ∧ x ≤ IntKind.u64.max) : U64 x := by
  have h1 : (0 : Int) ≤ x := h.1
  have h2 : x ≤ 18446744073709551615 := h.2
  exact ⟨h1, by omega⟩
theorem Ts_of {n : Nat} {l : List D_api_Tag} (h : (l.map (vol T_api_Tag)).sum < n) : TsB n l := by
  have hl := vol_len (e := T_api_Tag) (l := l) (fun x _ => by rw [vol_Tag]; omega)
  exact ⟨by omega, fun t ht => by have := vol_mem (e := T_api_Tag) ht; rw [vol_Tag] at this; exact ⟨by omega, by omega⟩⟩
theorem acc_eq : (Rows.laid_unicode_utf8_acceptRanges : DataW Unit) = Lib.acceptData := by kernel_rfl
theorem fst_eq : Rows.laid_unicode_utf8_first = Lib.firstData := by kernel_rfl
theorem tabs_of {W : World} (h3 : Lib.VarReads Tryz.prog W "unicode/utf8.first" Lib.firstData) (h4 : Lib.VarReads Tryz.prog W "unicode/utf8.acceptRanges" Lib.acceptData) : Lib.Utf8Tabs 0 1 W :=
  utf8Tabs_of_readsT (U8Types.of196 Tryz.l196) ⟨by kernel_rfl, by kernel_rfl, by kernel_rfl, by kernel_rfl, by kernel_rfl, by kernel_rfl, by kernel_rfl⟩ h3 h4
theorem live_of {W : World} {b o : Nat} {v : Value} (h : W.cell? ⟨b, o, none⟩ = some v) : b < W.heap.size := by
  rcases Nat.lt_or_ge b W.heap.size with hb | hb
  · exact hb
  · have : W.heap[b]? = none := Array.getElem?_eq_none hb
    simp [World.cell?, this] at h
theorem gl_tab {W : World} (h : Lib.Utf8Tabs 0 1 W) (hsh : W.ShapedOpen Tryz.prog) : ∀ p ∈ Gl.tab, p.1 < W.heap.size ∧ ∃ cs, p.2 cs ∧ At W ⟨p.1, 0, none⟩ cs := by
  obtain ⟨h0, h1⟩ := h
  intro p hp
  have hp : p = (0, fun cs => cs = firstCells) ∨ p = (1, fun cs => cs = acceptCells) ∨ p = (2, fun cs => ∃ m, cs = [.int .i64 m]) := by simpa [Gl.tab] using hp
  rcases hp with rfl | rfl | rfl
  · refine ⟨live_of (h0 0 (by omega)), _, rfl, rfl, fun j hj => ?_⟩
    have hj2 : j < 256 := by simpa [firstCells, Lib.firstTab] using hj
    simp only [Nat.zero_add]
    rw [h0 j hj2]
    simp [firstCells, Lib.firstTab]
  · refine ⟨live_of (h1 0 (by omega)).1, _, rfl, rfl, fun j hj => ?_⟩
    have hl : acceptCells.length = 32 := by kernel_rfl
    have hj2 : j < 32 := by rw [← hl]; exact hj
    simp only [Nat.zero_add]
    obtain ⟨e0, e1⟩ := acc_get (j / 2) (by omega)
    obtain ⟨c0, c1⟩ := h1 (j / 2) (by omega)
    rcases Nat.mod_two_eq_zero_or_one j with hm | hm
    · have ej : j = 2 * (j / 2) := by omega
      rw [show (⟨1, j, none⟩ : Addr) = ⟨1, 2 * (j / 2), none⟩ by rw [← ej], c0, ← e0, ← ej, List.getElem?_eq_getElem hj]
    · have ej : j = 2 * (j / 2) + 1 := by omega
      rw [show (⟨1, j, none⟩ : Addr) = ⟨1, 2 * (j / 2) + 1, none⟩ by rw [← ej], c1, ← e1, ← ej, List.getElem?_eq_getElem hj]
  · obtain ⟨m, hm⟩ := cell_of_shapedOpen_int (P := Tryz.prog) (g := 2) (t := 3) (zero := #[.int .i64 0]) hsh (of_decide_eq_true (by kernel_rfl)) (by kernel_rfl) rfl (by kernel_rfl) (by kernel_rfl) Tryz.underlying3
    refine ⟨live_of hm, _, ⟨m, rfl⟩, rfl, fun j hj => ?_⟩
    obtain rfl : j = 0 := by simpa using hj
    simpa using hm
abbrev laidAll : List (String × DataW Unit) := [("unicode/utf8.acceptRanges", Rows.laid_unicode_utf8_acceptRanges), ("unicode/utf8.first", Rows.laid_unicode_utf8_first)]
theorem noHandle {W : World} (h : laidMetH Tryz.prog laidAll W) : laidMet Tryz.prog laidAll W := by
  have e : (laidAll.filter fun x => x.2.handleName?.isSome) = [] := by kernel_rfl
  unfold laidMetH at h
  rw [e] at h
  exact h
theorem gl_of {W : World} (hL : laidMet Tryz.prog laidAll W) (hsh : W.ShapedOpen Tryz.prog) : (∀ p ∈ Gl.tab, p.1 < W.heap.size ∧ ∃ cs, p.2 cs ∧ At W ⟨p.1, 0, none⟩ cs) ∧ ∀ p ∈ Gl.ex, ∃ o, W.heap[p.1]? = some o ∧ p.2 o :=
  ⟨gl_tab (tabs_of (fst_eq ▸ Lib.laidMet.reads hL (.tail _ (.head _))) (acc_eq ▸ Lib.laidMet.reads hL (.head _))) hsh, fun p hp => by simp [Gl.ex] at hp⟩
noncomputable def laidWorld (os : Os) : World :=
  let w0 := World.holding Tryz.prog os ⟨#[], #[], []⟩
  let put (h : Array Obj) (g : Nat) (cs : Array Value) : Array Obj := h.modify g fun
    | .cells _ t frozen => .cells cs t frozen
    | o => o
  let h1 := put w0.heap 0 firstCells.toArray
  let h2 := put h1 1 acceptCells.toArray
  { w0 with heap := h2 }
set_option maxRecDepth 100000 in
theorem laid_met (os : Os) (args : Array Value) : laidMet Tryz.prog Rows.actsGoodRow.laid ((laidWorld os).forCall (fun _ _ => 0) ⟨#[], args, []⟩).memory :=
  (LaidIn.of_run (l := [("unicode/utf8.acceptRanges", Lib.acceptData), ("unicode/utf8.first", Lib.firstData)]) [0, 1] 8 (by kernel_rfl) (by kernel_rfl) (by kernel_rfl) (by kernel_rfl)).met
theorem getL {α : Type} {a : Array α} {i : Nat} {x : α} (h : a.toList[i]? = some x) : a[i]? = some x := by simpa using h
theorem and_i {a b : Bool} (ha : a = true) (hb : b = true) : (a && b) = true := by rw [ha, hb]; rfl
theorem factLaid : laidOutB Tryz.pinned.checked.prog = true := by kernel_rfl
theorem factMaps : mapsRowed Tryz.pinned.checked.prog = true := by kernel_rfl
theorem factHeard : Tryz.pinned.checked.prog.stopsHeard = true := by kernel_rfl
theorem factEnter : Tryz.pinned.checked.prog.mayEnter = true := by kernel_rfl
theorem vol_Q (e : Q) : vol T_api_Request e = 1 + (e.2.1.size + 1 + (e.2.2.1.size + 1 + (e.2.2.2.1.size + 1 + (1 + (((e.2.2.2.2.2.1.map (vol (.int .u8))).sum + 1) + (((e.2.2.2.2.2.2.1.map (vol T_api_Tag)).sum + 1) + (vol T_api_Lock e.2.2.2.2.2.2.2.1 + (1 + (vol T_api_Default e.2.2.2.2.2.2.2.2.2.1 + (((e.2.2.2.2.2.2.2.2.2.2.1.map (vol T_api_Rule)).sum + 1) + (((e.2.2.2.2.2.2.2.2.2.2.2.1.map (vol T_api_Grant)).sum + 1) + (1 + (((e.2.2.2.2.2.2.2.2.2.2.2.2.2.1.map (vol (.int .i64))).sum + 1) + (e.2.2.2.2.2.2.2.2.2.2.2.2.2.2.1.size + 1 + (e.2.2.2.2.2.2.2.2.2.2.2.2.2.2.2.1.size + 1 + (e.2.2.2.2.2.2.2.2.2.2.2.2.2.2.2.2.1.size + 1 + ((e.2.2.2.2.2.2.2.2.2.2.2.2.2.2.2.2.2.1.1.size + 1 + (e.2.2.2.2.2.2.2.2.2.2.2.2.2.2.2.2.2.1.2.1.size + 1 + 1)) + (1 + 0)))))))))))))))))) := rfl
theorem Wf_Q {e : Q} (hw : Wf T_api_Request e) : Wf (.int .i64) e.1 ∧ Wf .str e.2.1 ∧ Wf .str e.2.2.1 ∧ Wf .str e.2.2.2.1 ∧ Wf (.int .u64) e.2.2.2.2.1 ∧ Wf (.slice (.int .u8)) e.2.2.2.2.2.1 ∧ Wf (.slice T_api_Tag) e.2.2.2.2.2.2.1 ∧ Wf T_api_Lock e.2.2.2.2.2.2.2.1 ∧ Wf .bool e.2.2.2.2.2.2.2.2.1 ∧ Wf T_api_Default e.2.2.2.2.2.2.2.2.2.1 ∧ Wf (.slice T_api_Rule) e.2.2.2.2.2.2.2.2.2.2.1 ∧ Wf (.slice T_api_Grant) e.2.2.2.2.2.2.2.2.2.2.2.1 ∧ Wf (.int .i64) e.2.2.2.2.2.2.2.2.2.2.2.2.1 ∧ Wf (.slice (.int .i64)) e.2.2.2.2.2.2.2.2.2.2.2.2.2.1 ∧ Wf .str e.2.2.2.2.2.2.2.2.2.2.2.2.2.2.1 ∧ Wf .str e.2.2.2.2.2.2.2.2.2.2.2.2.2.2.2.1 ∧ Wf .str e.2.2.2.2.2.2.2.2.2.2.2.2.2.2.2.2.1 ∧ Wf T_api_Spot e.2.2.2.2.2.2.2.2.2.2.2.2.2.2.2.2.2.1 ∧ Wf (.int .i64) e.2.2.2.2.2.2.2.2.2.2.2.2.2.2.2.2.2.2.1 ∧ True := hw
theorem Q_B {n : Nat} {e : Q} (hi : 0 ≤ e.2.2.2.2.1) (hf : 0 ≤ e.2.2.2.2.2.2.2.2.2.2.2.2.2.2.2.2.2.1.2.2.1) (h : vol T_api_Request e < n) : QB n e := by
  rw [vol_Q] at h
  have p0 := h
  have c_k := Nat.lt_of_le_of_lt (Nat.le_add_right _ _) p0
  have p1 := Nat.lt_of_le_of_lt (Nat.le_add_left _ _) p0
  have c_w := Nat.lt_of_le_of_lt (Nat.le_add_right _ _) p1
  have p2 := Nat.lt_of_le_of_lt (Nat.le_add_left _ _) p1
  have c_b := Nat.lt_of_le_of_lt (Nat.le_add_right _ _) p2
  have p3 := Nat.lt_of_le_of_lt (Nat.le_add_left _ _) p2
  have c_y := Nat.lt_of_le_of_lt (Nat.le_add_right _ _) p3
  have p4 := Nat.lt_of_le_of_lt (Nat.le_add_left _ _) p3
  have c_i := Nat.lt_of_le_of_lt (Nat.le_add_right _ _) p4
  have p5 := Nat.lt_of_le_of_lt (Nat.le_add_left _ _) p4
  have c_bo := Nat.lt_of_le_of_lt (Nat.le_add_right _ _) p5
  have p6 := Nat.lt_of_le_of_lt (Nat.le_add_left _ _) p5
  have c_tg := Nat.lt_of_le_of_lt (Nat.le_add_right _ _) p6
  have p7 := Nat.lt_of_le_of_lt (Nat.le_add_left _ _) p6
  have c_l := Nat.lt_of_le_of_lt (Nat.le_add_right _ _) p7
  have p8 := Nat.lt_of_le_of_lt (Nat.le_add_left _ _) p7
  have c_q := Nat.lt_of_le_of_lt (Nat.le_add_right _ _) p8
  have p9 := Nat.lt_of_le_of_lt (Nat.le_add_left _ _) p8
  have c_d := Nat.lt_of_le_of_lt (Nat.le_add_right _ _) p9
  have p10 := Nat.lt_of_le_of_lt (Nat.le_add_left _ _) p9
  have c_r := Nat.lt_of_le_of_lt (Nat.le_add_right _ _) p10
  have p11 := Nat.lt_of_le_of_lt (Nat.le_add_left _ _) p10
  have c_g := Nat.lt_of_le_of_lt (Nat.le_add_right _ _) p11
  have p12 := Nat.lt_of_le_of_lt (Nat.le_add_left _ _) p11
  have c_nu := Nat.lt_of_le_of_lt (Nat.le_add_right _ _) p12
  have p13 := Nat.lt_of_le_of_lt (Nat.le_add_left _ _) p12
  have c_ns := Nat.lt_of_le_of_lt (Nat.le_add_right _ _) p13
  have p14 := Nat.lt_of_le_of_lt (Nat.le_add_left _ _) p13
  have c_af := Nat.lt_of_le_of_lt (Nat.le_add_right _ _) p14
  have p15 := Nat.lt_of_le_of_lt (Nat.le_add_left _ _) p14
  have c_pr := Nat.lt_of_le_of_lt (Nat.le_add_right _ _) p15
  have p16 := Nat.lt_of_le_of_lt (Nat.le_add_left _ _) p15
  have c_ma := Nat.lt_of_le_of_lt (Nat.le_add_right _ _) p16
  have p17 := Nat.lt_of_le_of_lt (Nat.le_add_left _ _) p16
  have c_fr := Nat.lt_of_le_of_lt (Nat.le_add_right _ _) p17
  have p18 := Nat.lt_of_le_of_lt (Nat.le_add_left _ _) p17
  have c_mx := Nat.lt_of_le_of_lt (Nat.le_add_right _ _) p18
  have p19 := Nat.lt_of_le_of_lt (Nat.le_add_left _ _) p18
  clear h p0 p1 p2 p3 p4 p5 p6 p7 p8 p9 p10 p11 p12 p13 p14 p15 p16 p17 p18 p19
  have l1 := vol_len (e := T_api_Rule) (l := e.2.2.2.2.2.2.2.2.2.2.1) (fun x _ => by rw [vol_Rule]; omega)
  have l2 := vol_len (e := T_api_Grant) (l := e.2.2.2.2.2.2.2.2.2.2.2.1) (fun x _ => by rw [vol_Grant]; omega)
  have l3 := vol_len (e := .int .u8) (l := e.2.2.2.2.2.1) (fun x _ => Nat.le_refl 1)
  have l4 := vol_len (e := .int .i64) (l := e.2.2.2.2.2.2.2.2.2.2.2.2.2.1) (fun x _ => Nat.le_refl 1)
  have b1 := Nat.lt_of_succ_lt c_r
  have b2 := Nat.lt_of_succ_lt c_g
  exact ⟨Nat.lt_of_succ_lt c_w, Nat.lt_of_succ_lt c_b, Nat.lt_of_succ_lt c_y, hi, Nat.lt_of_le_of_lt l3 (Nat.lt_of_succ_lt c_bo), Ts_of (Nat.lt_of_succ_lt c_tg), ⟨Nat.lt_of_le_of_lt l1 b1, fun x hx => by
    have := Nat.lt_of_le_of_lt (vol_mem (e := T_api_Rule) hx) b1
    rw [vol_Rule] at this
    clear c_k c_w c_b c_y c_i c_bo c_tg c_l c_q c_d c_r c_g c_nu c_ns c_af c_pr c_ma c_fr c_mx l1 l2 l3 l4 b1 b2
    exact ⟨by omega, Ts_of (by omega)⟩⟩, ⟨Nat.lt_of_le_of_lt l2 b2, fun x hx => by
    have := Nat.lt_of_le_of_lt (vol_mem (e := T_api_Grant) hx) b2
    rw [vol_Grant] at this
    clear c_k c_w c_b c_y c_i c_bo c_tg c_l c_q c_d c_r c_g c_nu c_ns c_af c_pr c_ma c_fr c_mx l1 l2 l3 l4 b1 b2
    exact ⟨by omega, by omega, by omega⟩⟩, Nat.lt_of_le_of_lt l4 (Nat.lt_of_succ_lt c_ns), Nat.lt_of_succ_lt c_af, Nat.lt_of_succ_lt c_pr, Nat.lt_of_succ_lt c_ma, Nat.lt_of_succ_lt (Nat.lt_of_le_of_lt (Nat.le_add_right _ _) c_fr), Nat.lt_of_succ_lt (Nat.lt_of_le_of_lt (Nat.le_add_right _ _) (Nat.lt_of_le_of_lt (Nat.le_add_left _ _) c_fr)), hf⟩
set_option maxRecDepth 100000 in
def zQ : Array Value := #[Value.int IntKind.i64 0, Value.string ⟨#[]⟩, Value.string ⟨#[]⟩, Value.string ⟨#[]⟩, Value.int IntKind.u64 0, Value.slice none 0 0, Value.slice none 0 0, Value.int IntKind.i64 0, Value.int IntKind.i64 0, Value.bool false, Value.bool false, Value.int IntKind.i64 0, Value.int IntKind.i64 0, Value.slice none 0 0, Value.slice none 0 0, Value.int IntKind.i64 0, Value.slice none 0 0, Value.string ⟨#[]⟩, Value.string ⟨#[]⟩, Value.string ⟨#[]⟩, Value.string ⟨#[]⟩, Value.string ⟨#[]⟩, Value.int IntKind.u64 0, Value.int IntKind.i64 0]
def dQ {H : Type} : DataW H := .agg [.lit (.int .i64 0), .lit (.string []), .lit (.string []), .lit (.string []), .lit (.int .u64 0), .nil, .nil, .agg [.lit (.int .i64 0), .lit (.int .i64 0), .lit (.bool false)], .lit (.bool false), .agg [.lit (.int .i64 0), .lit (.int .i64 0)], .nil, .nil, .lit (.int .i64 0), .nil, .lit (.string []), .lit (.string []), .lit (.string []), .agg [.lit (.string []), .lit (.string []), .lit (.int .u64 0)], .lit (.int .i64 0)]
theorem Q_room {n : Nat} {e : Q} (hw : Wf T_api_Request e) (h : vol T_api_Request e < n) : QB n e := by
  obtain ⟨w1, w2, w3, w4, w5, w6, w7, w8, w9, w10, w11, w12, w13, w14, w15, w16, w17, w18, w19, w20⟩ := Wf_Q hw
  exact Q_B (u64_of w5).1 (u64_of w18.2.2.1).1 h
def zS : Array Value := #[Value.int IntKind.i64 0, Value.int IntKind.u64 0, Value.int IntKind.u64 0, Value.slice none 0 0]
def dS {H : Type} : DataW H := .agg [.lit (.int .i64 0), .lit (.int .u64 0), .lit (.int .u64 0), .nil]
end Go.Proofs.YtfpedialdcgnhaaGreatDoor
