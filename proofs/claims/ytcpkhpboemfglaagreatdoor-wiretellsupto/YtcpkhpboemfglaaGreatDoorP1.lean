/-
  The plain laws.
-/
import Derived.Test.YtcpkhpboemfglaaGreatDoorP0
import Derived.Test.YtcpkhpboemfglaaGreatDoorF1
import Derived.Test.YtcpkhpboemfglaaGreatDoorF0
set_option linter.unusedVariables false
set_option linter.unusedSimpArgs false
namespace Go.Proofs.YtcpkhpboemfglaaGreatDoor
open Go Go.Va Go.Proofs
def eP (e : Q) : List Int :=
  if e.1 = 1 ∨ e.1 = 3 then eDef e.2.2.2.2.2.2.2.2.2.1 else if e.1 = 4 then eRules e.2.2.2.2.2.2.2.2.2.2.1 else if e.1 = 5 then eGrants e.2.2.2.2.2.2.2.2.2.2.2.1 else if e.1 = 6 then eT e.2.2.2.1 ++ (eT (bytesOf e.2.2.2.2.2.1) ++ (eTags e.2.2.2.2.2.2.1 ++ (eLock e.2.2.2.2.2.2.2.1))) else if e.1 = 7 ∨ e.1 = 8 then eT e.2.2.2.1 ++ (eN e.2.2.2.2.1) else if e.1 = 9 then eT e.2.2.2.1 else if e.1 = 10 then eT e.2.2.2.1 ++ (eN e.2.2.2.2.1 ++ (eF e.2.2.2.2.2.2.2.2.1)) else if e.1 = 11 then eT e.2.2.2.1 ++ (eN e.2.2.2.2.1 ++ (eLock e.2.2.2.2.2.2.2.1 ++ (eF e.2.2.2.2.2.2.2.2.1))) else if e.1 = 12 then eT e.2.2.2.1 ++ (eN e.2.2.2.2.1 ++ (eLock e.2.2.2.2.2.2.2.1)) else if e.1 = 13 then eT e.2.2.2.1 ++ (eN e.2.2.2.2.1 ++ (eTags e.2.2.2.2.2.2.1)) else if e.1 = 14 then eT e.2.2.2.2.2.2.2.2.2.2.2.2.2.2.2.1 ++ (eT e.2.2.2.2.2.2.2.2.2.2.2.2.2.2.2.2.1 ++ (eT e.2.2.2.2.2.2.2.2.2.2.2.2.2.2.1 ++ (eW e.2.2.2.2.2.2.2.2.2.2.2.2.2.2.2.2.2.2.1))) else if e.1 = 15 then eT e.2.2.2.2.2.2.2.2.2.2.2.2.2.2.2.1 ++ (eT e.2.2.2.2.2.2.2.2.2.2.2.2.2.2.2.2.2.1.2.1 ++ (eN e.2.2.2.2.2.2.2.2.2.2.2.2.2.2.2.2.2.1.2.2.1 ++ (eW e.2.2.2.2.2.2.2.2.2.2.2.2.2.2.2.2.2.2.1))) else if e.1 = 16 then eT e.2.2.2.1 ++ (eTags e.2.2.2.2.2.2.1) else if e.1 = 17 then eN e.2.2.2.2.1 ++ (eW e.2.2.2.2.2.2.2.2.2.2.2.2.1 ++ (eT (bytesOf e.2.2.2.2.2.1))) else if e.1 = 18 then eN e.2.2.2.2.1 ++ (eW ((e.2.2.2.2.2.2.2.2.2.2.2.2.2.1.length : Nat) : Int) ++ (e.2.2.2.2.2.2.2.2.2.2.2.2.2.1.flatMap eI)) else if e.1 = 19 then eN e.2.2.2.2.1 else if e.1 = 20 then eT e.2.2.2.1 ++ (eT e.2.2.2.2.2.2.2.2.2.2.2.2.2.2.2.2.2.1.1 ++ (eT e.2.2.2.2.2.2.2.2.2.2.2.2.2.2.2.2.2.1.2.1 ++ (eN e.2.2.2.2.2.2.2.2.2.2.2.2.2.2.2.2.2.1.2.2.1))) else []
structure QR (e : Q) : Prop where
  i : U64 e.2.2.2.2.1
  l : I64 e.2.2.2.2.2.2.2.1.2.1
  fi : U64 e.2.2.2.2.2.2.2.2.2.2.2.2.2.2.2.2.2.1.2.2.1
  ns : ∀ x ∈ e.2.2.2.2.2.2.2.2.2.2.2.2.2.1, I64 x
theorem eP_1 (w : ByteArray) (b : ByteArray) (y : ByteArray) (i : Int) (bo : List Int) (tg : List D_api_Tag) (l : D_api_Lock) (q : Bool) (d : D_api_Default) (r : List D_api_Rule) (g : List D_api_Grant) (nu : Int) (ns : List Int) (af : ByteArray) (pr : ByteArray) (ma : ByteArray) (fr : D_api_Spot) (mx : Int) (u : Unit) : eP (1, w, b, y, i, bo, tg, l, q, d, r, g, nu, ns, af, pr, ma, fr, mx, u) = eDef d := rfl
theorem eP_2 (w : ByteArray) (b : ByteArray) (y : ByteArray) (i : Int) (bo : List Int) (tg : List D_api_Tag) (l : D_api_Lock) (q : Bool) (d : D_api_Default) (r : List D_api_Rule) (g : List D_api_Grant) (nu : Int) (ns : List Int) (af : ByteArray) (pr : ByteArray) (ma : ByteArray) (fr : D_api_Spot) (mx : Int) (u : Unit) : eP (2, w, b, y, i, bo, tg, l, q, d, r, g, nu, ns, af, pr, ma, fr, mx, u) = [] := rfl
theorem eP_3 (w : ByteArray) (b : ByteArray) (y : ByteArray) (i : Int) (bo : List Int) (tg : List D_api_Tag) (l : D_api_Lock) (q : Bool) (d : D_api_Default) (r : List D_api_Rule) (g : List D_api_Grant) (nu : Int) (ns : List Int) (af : ByteArray) (pr : ByteArray) (ma : ByteArray) (fr : D_api_Spot) (mx : Int) (u : Unit) : eP (3, w, b, y, i, bo, tg, l, q, d, r, g, nu, ns, af, pr, ma, fr, mx, u) = eDef d := rfl
theorem eP_4 (w : ByteArray) (b : ByteArray) (y : ByteArray) (i : Int) (bo : List Int) (tg : List D_api_Tag) (l : D_api_Lock) (q : Bool) (d : D_api_Default) (r : List D_api_Rule) (g : List D_api_Grant) (nu : Int) (ns : List Int) (af : ByteArray) (pr : ByteArray) (ma : ByteArray) (fr : D_api_Spot) (mx : Int) (u : Unit) : eP (4, w, b, y, i, bo, tg, l, q, d, r, g, nu, ns, af, pr, ma, fr, mx, u) = eRules r := rfl
theorem eP_5 (w : ByteArray) (b : ByteArray) (y : ByteArray) (i : Int) (bo : List Int) (tg : List D_api_Tag) (l : D_api_Lock) (q : Bool) (d : D_api_Default) (r : List D_api_Rule) (g : List D_api_Grant) (nu : Int) (ns : List Int) (af : ByteArray) (pr : ByteArray) (ma : ByteArray) (fr : D_api_Spot) (mx : Int) (u : Unit) : eP (5, w, b, y, i, bo, tg, l, q, d, r, g, nu, ns, af, pr, ma, fr, mx, u) = eGrants g := rfl
theorem eP_6 (w : ByteArray) (b : ByteArray) (y : ByteArray) (i : Int) (bo : List Int) (tg : List D_api_Tag) (l : D_api_Lock) (q : Bool) (d : D_api_Default) (r : List D_api_Rule) (g : List D_api_Grant) (nu : Int) (ns : List Int) (af : ByteArray) (pr : ByteArray) (ma : ByteArray) (fr : D_api_Spot) (mx : Int) (u : Unit) : eP (6, w, b, y, i, bo, tg, l, q, d, r, g, nu, ns, af, pr, ma, fr, mx, u) = eT y ++ (eT (bytesOf bo) ++ (eTags tg ++ (eLock l))) := rfl
theorem eP_7 (w : ByteArray) (b : ByteArray) (y : ByteArray) (i : Int) (bo : List Int) (tg : List D_api_Tag) (l : D_api_Lock) (q : Bool) (d : D_api_Default) (r : List D_api_Rule) (g : List D_api_Grant) (nu : Int) (ns : List Int) (af : ByteArray) (pr : ByteArray) (ma : ByteArray) (fr : D_api_Spot) (mx : Int) (u : Unit) : eP (7, w, b, y, i, bo, tg, l, q, d, r, g, nu, ns, af, pr, ma, fr, mx, u) = eT y ++ (eN i) := rfl
theorem eP_8 (w : ByteArray) (b : ByteArray) (y : ByteArray) (i : Int) (bo : List Int) (tg : List D_api_Tag) (l : D_api_Lock) (q : Bool) (d : D_api_Default) (r : List D_api_Rule) (g : List D_api_Grant) (nu : Int) (ns : List Int) (af : ByteArray) (pr : ByteArray) (ma : ByteArray) (fr : D_api_Spot) (mx : Int) (u : Unit) : eP (8, w, b, y, i, bo, tg, l, q, d, r, g, nu, ns, af, pr, ma, fr, mx, u) = eT y ++ (eN i) := rfl
theorem eP_9 (w : ByteArray) (b : ByteArray) (y : ByteArray) (i : Int) (bo : List Int) (tg : List D_api_Tag) (l : D_api_Lock) (q : Bool) (d : D_api_Default) (r : List D_api_Rule) (g : List D_api_Grant) (nu : Int) (ns : List Int) (af : ByteArray) (pr : ByteArray) (ma : ByteArray) (fr : D_api_Spot) (mx : Int) (u : Unit) : eP (9, w, b, y, i, bo, tg, l, q, d, r, g, nu, ns, af, pr, ma, fr, mx, u) = eT y := rfl
theorem eP_10 (w : ByteArray) (b : ByteArray) (y : ByteArray) (i : Int) (bo : List Int) (tg : List D_api_Tag) (l : D_api_Lock) (q : Bool) (d : D_api_Default) (r : List D_api_Rule) (g : List D_api_Grant) (nu : Int) (ns : List Int) (af : ByteArray) (pr : ByteArray) (ma : ByteArray) (fr : D_api_Spot) (mx : Int) (u : Unit) : eP (10, w, b, y, i, bo, tg, l, q, d, r, g, nu, ns, af, pr, ma, fr, mx, u) = eT y ++ (eN i ++ (eF q)) := rfl
theorem eP_11 (w : ByteArray) (b : ByteArray) (y : ByteArray) (i : Int) (bo : List Int) (tg : List D_api_Tag) (l : D_api_Lock) (q : Bool) (d : D_api_Default) (r : List D_api_Rule) (g : List D_api_Grant) (nu : Int) (ns : List Int) (af : ByteArray) (pr : ByteArray) (ma : ByteArray) (fr : D_api_Spot) (mx : Int) (u : Unit) : eP (11, w, b, y, i, bo, tg, l, q, d, r, g, nu, ns, af, pr, ma, fr, mx, u) = eT y ++ (eN i ++ (eLock l ++ (eF q))) := rfl
theorem eP_12 (w : ByteArray) (b : ByteArray) (y : ByteArray) (i : Int) (bo : List Int) (tg : List D_api_Tag) (l : D_api_Lock) (q : Bool) (d : D_api_Default) (r : List D_api_Rule) (g : List D_api_Grant) (nu : Int) (ns : List Int) (af : ByteArray) (pr : ByteArray) (ma : ByteArray) (fr : D_api_Spot) (mx : Int) (u : Unit) : eP (12, w, b, y, i, bo, tg, l, q, d, r, g, nu, ns, af, pr, ma, fr, mx, u) = eT y ++ (eN i ++ (eLock l)) := rfl
theorem eP_13 (w : ByteArray) (b : ByteArray) (y : ByteArray) (i : Int) (bo : List Int) (tg : List D_api_Tag) (l : D_api_Lock) (q : Bool) (d : D_api_Default) (r : List D_api_Rule) (g : List D_api_Grant) (nu : Int) (ns : List Int) (af : ByteArray) (pr : ByteArray) (ma : ByteArray) (fr : D_api_Spot) (mx : Int) (u : Unit) : eP (13, w, b, y, i, bo, tg, l, q, d, r, g, nu, ns, af, pr, ma, fr, mx, u) = eT y ++ (eN i ++ (eTags tg)) := rfl
theorem eP_14 (w : ByteArray) (b : ByteArray) (y : ByteArray) (i : Int) (bo : List Int) (tg : List D_api_Tag) (l : D_api_Lock) (q : Bool) (d : D_api_Default) (r : List D_api_Rule) (g : List D_api_Grant) (nu : Int) (ns : List Int) (af : ByteArray) (pr : ByteArray) (ma : ByteArray) (fr : D_api_Spot) (mx : Int) (u : Unit) : eP (14, w, b, y, i, bo, tg, l, q, d, r, g, nu, ns, af, pr, ma, fr, mx, u) = eT pr ++ (eT ma ++ (eT af ++ (eW mx))) := rfl
theorem eP_15 (w : ByteArray) (b : ByteArray) (y : ByteArray) (i : Int) (bo : List Int) (tg : List D_api_Tag) (l : D_api_Lock) (q : Bool) (d : D_api_Default) (r : List D_api_Rule) (g : List D_api_Grant) (nu : Int) (ns : List Int) (af : ByteArray) (pr : ByteArray) (ma : ByteArray) (fr : D_api_Spot) (mx : Int) (u : Unit) : eP (15, w, b, y, i, bo, tg, l, q, d, r, g, nu, ns, af, pr, ma, fr, mx, u) = eT pr ++ (eT fr.2.1 ++ (eN fr.2.2.1 ++ (eW mx))) := rfl
theorem eP_16 (w : ByteArray) (b : ByteArray) (y : ByteArray) (i : Int) (bo : List Int) (tg : List D_api_Tag) (l : D_api_Lock) (q : Bool) (d : D_api_Default) (r : List D_api_Rule) (g : List D_api_Grant) (nu : Int) (ns : List Int) (af : ByteArray) (pr : ByteArray) (ma : ByteArray) (fr : D_api_Spot) (mx : Int) (u : Unit) : eP (16, w, b, y, i, bo, tg, l, q, d, r, g, nu, ns, af, pr, ma, fr, mx, u) = eT y ++ (eTags tg) := rfl
theorem eP_17 (w : ByteArray) (b : ByteArray) (y : ByteArray) (i : Int) (bo : List Int) (tg : List D_api_Tag) (l : D_api_Lock) (q : Bool) (d : D_api_Default) (r : List D_api_Rule) (g : List D_api_Grant) (nu : Int) (ns : List Int) (af : ByteArray) (pr : ByteArray) (ma : ByteArray) (fr : D_api_Spot) (mx : Int) (u : Unit) : eP (17, w, b, y, i, bo, tg, l, q, d, r, g, nu, ns, af, pr, ma, fr, mx, u) = eN i ++ (eW nu ++ (eT (bytesOf bo))) := rfl
theorem eP_18 (w : ByteArray) (b : ByteArray) (y : ByteArray) (i : Int) (bo : List Int) (tg : List D_api_Tag) (l : D_api_Lock) (q : Bool) (d : D_api_Default) (r : List D_api_Rule) (g : List D_api_Grant) (nu : Int) (ns : List Int) (af : ByteArray) (pr : ByteArray) (ma : ByteArray) (fr : D_api_Spot) (mx : Int) (u : Unit) : eP (18, w, b, y, i, bo, tg, l, q, d, r, g, nu, ns, af, pr, ma, fr, mx, u) = eN i ++ (eW ((ns.length : Nat) : Int) ++ (ns.flatMap eI)) := rfl
theorem eP_19 (w : ByteArray) (b : ByteArray) (y : ByteArray) (i : Int) (bo : List Int) (tg : List D_api_Tag) (l : D_api_Lock) (q : Bool) (d : D_api_Default) (r : List D_api_Rule) (g : List D_api_Grant) (nu : Int) (ns : List Int) (af : ByteArray) (pr : ByteArray) (ma : ByteArray) (fr : D_api_Spot) (mx : Int) (u : Unit) : eP (19, w, b, y, i, bo, tg, l, q, d, r, g, nu, ns, af, pr, ma, fr, mx, u) = eN i := rfl
theorem eP_20 (w : ByteArray) (b : ByteArray) (y : ByteArray) (i : Int) (bo : List Int) (tg : List D_api_Tag) (l : D_api_Lock) (q : Bool) (d : D_api_Default) (r : List D_api_Rule) (g : List D_api_Grant) (nu : Int) (ns : List Int) (af : ByteArray) (pr : ByteArray) (ma : ByteArray) (fr : D_api_Spot) (mx : Int) (u : Unit) : eP (20, w, b, y, i, bo, tg, l, q, d, r, g, nu, ns, af, pr, ma, fr, mx, u) = eT y ++ (eT fr.1 ++ (eT fr.2.1 ++ (eN fr.2.2.1))) := rfl
theorem eP_21 (w : ByteArray) (b : ByteArray) (y : ByteArray) (i : Int) (bo : List Int) (tg : List D_api_Tag) (l : D_api_Lock) (q : Bool) (d : D_api_Default) (r : List D_api_Rule) (g : List D_api_Grant) (nu : Int) (ns : List Int) (af : ByteArray) (pr : ByteArray) (ma : ByteArray) (fr : D_api_Spot) (mx : Int) (u : Unit) : eP (21, w, b, y, i, bo, tg, l, q, d, r, g, nu, ns, af, pr, ma, fr, mx, u) = [] := rfl
theorem eP_22 (w : ByteArray) (b : ByteArray) (y : ByteArray) (i : Int) (bo : List Int) (tg : List D_api_Tag) (l : D_api_Lock) (q : Bool) (d : D_api_Default) (r : List D_api_Rule) (g : List D_api_Grant) (nu : Int) (ns : List Int) (af : ByteArray) (pr : ByteArray) (ma : ByteArray) (fr : D_api_Spot) (mx : Int) (u : Unit) : eP (22, w, b, y, i, bo, tg, l, q, d, r, g, nu, ns, af, pr, ma, fr, mx, u) = [] := rfl
theorem wKey {n : Nat} (hn : 300 ≤ n) (w : List Int) (u : Unit) {e : Q} (hi : U64 e.2.2.2.2.1) (h : w.length + ((eT e.2.2.2.1).length + (eN e.2.2.2.2.1).length) ≤ 70368744177664) : F_wire_writer_key.f n (w, u) e = some ((w ++ (eT e.2.2.2.1 ++ eN e.2.2.2.2.1), ()), ()) := by
  rw [F_wire_writer_key.e0]
  try dsimp only
  rw [wText hn _ () (by omega), bnd_some]
  try dsimp only
  rw [wNum hn _ () hi (by rw [List.length_append]; omega), bnd_some]
  simp only [List.append_assoc]
theorem wf_1 {n : Nat} (hn : 300 ≤ n) (hn2 : n ≤ 536870912) (w0 : List Int) (z : Unit) (w : ByteArray) (b : ByteArray) (y : ByteArray) (i : Int) (bo : List Int) (tg : List D_api_Tag) (l : D_api_Lock) (q : Bool) (d : D_api_Default) (r : List D_api_Rule) (g : List D_api_Grant) (nu : Int) (ns : List Int) (af : ByteArray) (pr : ByteArray) (ma : ByteArray) (fr : D_api_Spot) (mx : Int) (u : Unit) (he : QB n (1, w, b, y, i, bo, tg, l, q, d, r, g, nu, ns, af, pr, ma, fr, mx, u)) (hr : QR (1, w, b, y, i, bo, tg, l, q, d, r, g, nu, ns, af, pr, ma, fr, mx, u)) (h : w0.length + (eP (1, w, b, y, i, bo, tg, l, q, d, r, g, nu, ns, af, pr, ma, fr, mx, u)).length ≤ 70368744177664) :
    F_wire_writer_fields.f n (w0, z) (1, w, b, y, i, bo, tg, l, q, d, r, g, nu, ns, af, pr, ma, fr, mx, u) = some ((w0 ++ eP (1, w, b, y, i, bo, tg, l, q, d, r, g, nu, ns, af, pr, ma, fr, mx, u), ()), ()) := by
  rw [eP_1] at h ⊢
  try simp only [List.length_append] at h
  rw [F_wire_writer_fields.e0]
  simp only [F_wire_writer_fields.e1, F_wire_writer_fields.e2, hide_n, Int.reduceBEq, bIf_t, bIf_f]
  try dsimp only
  rw [wDef hn _ () (by first | omega | (simp only [List.length_append]; omega)), bnd_some]
  try dsimp only
  try simp only [List.append_assoc]
theorem wf_2 {n : Nat} (hn : 300 ≤ n) (hn2 : n ≤ 536870912) (w0 : List Int) (z : Unit) (w : ByteArray) (b : ByteArray) (y : ByteArray) (i : Int) (bo : List Int) (tg : List D_api_Tag) (l : D_api_Lock) (q : Bool) (d : D_api_Default) (r : List D_api_Rule) (g : List D_api_Grant) (nu : Int) (ns : List Int) (af : ByteArray) (pr : ByteArray) (ma : ByteArray) (fr : D_api_Spot) (mx : Int) (u : Unit) (he : QB n (2, w, b, y, i, bo, tg, l, q, d, r, g, nu, ns, af, pr, ma, fr, mx, u)) (hr : QR (2, w, b, y, i, bo, tg, l, q, d, r, g, nu, ns, af, pr, ma, fr, mx, u)) (h : w0.length + (eP (2, w, b, y, i, bo, tg, l, q, d, r, g, nu, ns, af, pr, ma, fr, mx, u)).length ≤ 70368744177664) :
    F_wire_writer_fields.f n (w0, z) (2, w, b, y, i, bo, tg, l, q, d, r, g, nu, ns, af, pr, ma, fr, mx, u) = some ((w0 ++ eP (2, w, b, y, i, bo, tg, l, q, d, r, g, nu, ns, af, pr, ma, fr, mx, u), ()), ()) := by
  rw [eP_2] at h ⊢
  try simp only [List.length_append] at h
  rw [F_wire_writer_fields.e0]
  simp only [F_wire_writer_fields.e1, F_wire_writer_fields.e2, hide_n, Int.reduceBEq, bIf_t, bIf_f]
  try dsimp only
  try rw [List.append_nil]
theorem wf_3 {n : Nat} (hn : 300 ≤ n) (hn2 : n ≤ 536870912) (w0 : List Int) (z : Unit) (w : ByteArray) (b : ByteArray) (y : ByteArray) (i : Int) (bo : List Int) (tg : List D_api_Tag) (l : D_api_Lock) (q : Bool) (d : D_api_Default) (r : List D_api_Rule) (g : List D_api_Grant) (nu : Int) (ns : List Int) (af : ByteArray) (pr : ByteArray) (ma : ByteArray) (fr : D_api_Spot) (mx : Int) (u : Unit) (he : QB n (3, w, b, y, i, bo, tg, l, q, d, r, g, nu, ns, af, pr, ma, fr, mx, u)) (hr : QR (3, w, b, y, i, bo, tg, l, q, d, r, g, nu, ns, af, pr, ma, fr, mx, u)) (h : w0.length + (eP (3, w, b, y, i, bo, tg, l, q, d, r, g, nu, ns, af, pr, ma, fr, mx, u)).length ≤ 70368744177664) :
    F_wire_writer_fields.f n (w0, z) (3, w, b, y, i, bo, tg, l, q, d, r, g, nu, ns, af, pr, ma, fr, mx, u) = some ((w0 ++ eP (3, w, b, y, i, bo, tg, l, q, d, r, g, nu, ns, af, pr, ma, fr, mx, u), ()), ()) := by
  rw [eP_3] at h ⊢
  try simp only [List.length_append] at h
  rw [F_wire_writer_fields.e0]
  simp only [F_wire_writer_fields.e1, F_wire_writer_fields.e2, hide_n, Int.reduceBEq, bIf_t, bIf_f]
  try dsimp only
  rw [wDef hn _ () (by first | omega | (simp only [List.length_append]; omega)), bnd_some]
  try dsimp only
  try simp only [List.append_assoc]
theorem wf_4 {n : Nat} (hn : 300 ≤ n) (hn2 : n ≤ 536870912) (w0 : List Int) (z : Unit) (w : ByteArray) (b : ByteArray) (y : ByteArray) (i : Int) (bo : List Int) (tg : List D_api_Tag) (l : D_api_Lock) (q : Bool) (d : D_api_Default) (r : List D_api_Rule) (g : List D_api_Grant) (nu : Int) (ns : List Int) (af : ByteArray) (pr : ByteArray) (ma : ByteArray) (fr : D_api_Spot) (mx : Int) (u : Unit) (he : QB n (4, w, b, y, i, bo, tg, l, q, d, r, g, nu, ns, af, pr, ma, fr, mx, u)) (hr : QR (4, w, b, y, i, bo, tg, l, q, d, r, g, nu, ns, af, pr, ma, fr, mx, u)) (h : w0.length + (eP (4, w, b, y, i, bo, tg, l, q, d, r, g, nu, ns, af, pr, ma, fr, mx, u)).length ≤ 70368744177664) :
    F_wire_writer_fields.f n (w0, z) (4, w, b, y, i, bo, tg, l, q, d, r, g, nu, ns, af, pr, ma, fr, mx, u) = some ((w0 ++ eP (4, w, b, y, i, bo, tg, l, q, d, r, g, nu, ns, af, pr, ma, fr, mx, u), ()), ()) := by
  rw [eP_4] at h ⊢
  try simp only [List.length_append] at h
  rw [F_wire_writer_fields.e0]
  simp only [F_wire_writer_fields.e1, F_wire_writer_fields.e2, hide_n, Int.reduceBEq, bIf_t, bIf_f]
  try dsimp only
  rw [wRules hn _ () he.r hn2 (by first | omega | (simp only [List.length_append]; omega)), bnd_some]
  try dsimp only
  try simp only [List.append_assoc]
theorem wf_5 {n : Nat} (hn : 300 ≤ n) (hn2 : n ≤ 536870912) (w0 : List Int) (z : Unit) (w : ByteArray) (b : ByteArray) (y : ByteArray) (i : Int) (bo : List Int) (tg : List D_api_Tag) (l : D_api_Lock) (q : Bool) (d : D_api_Default) (r : List D_api_Rule) (g : List D_api_Grant) (nu : Int) (ns : List Int) (af : ByteArray) (pr : ByteArray) (ma : ByteArray) (fr : D_api_Spot) (mx : Int) (u : Unit) (he : QB n (5, w, b, y, i, bo, tg, l, q, d, r, g, nu, ns, af, pr, ma, fr, mx, u)) (hr : QR (5, w, b, y, i, bo, tg, l, q, d, r, g, nu, ns, af, pr, ma, fr, mx, u)) (h : w0.length + (eP (5, w, b, y, i, bo, tg, l, q, d, r, g, nu, ns, af, pr, ma, fr, mx, u)).length ≤ 70368744177664) :
    F_wire_writer_fields.f n (w0, z) (5, w, b, y, i, bo, tg, l, q, d, r, g, nu, ns, af, pr, ma, fr, mx, u) = some ((w0 ++ eP (5, w, b, y, i, bo, tg, l, q, d, r, g, nu, ns, af, pr, ma, fr, mx, u), ()), ()) := by
  rw [eP_5] at h ⊢
  try simp only [List.length_append] at h
  rw [F_wire_writer_fields.e0]
  simp only [F_wire_writer_fields.e1, F_wire_writer_fields.e2, hide_n, Int.reduceBEq, bIf_t, bIf_f]
  try dsimp only
  rw [wGrants hn _ () he.g hn2 (by first | omega | (simp only [List.length_append]; omega)), bnd_some]
  try dsimp only
  try simp only [List.append_assoc]
theorem wf_6 {n : Nat} (hn : 300 ≤ n) (hn2 : n ≤ 536870912) (w0 : List Int) (z : Unit) (w : ByteArray) (b : ByteArray) (y : ByteArray) (i : Int) (bo : List Int) (tg : List D_api_Tag) (l : D_api_Lock) (q : Bool) (d : D_api_Default) (r : List D_api_Rule) (g : List D_api_Grant) (nu : Int) (ns : List Int) (af : ByteArray) (pr : ByteArray) (ma : ByteArray) (fr : D_api_Spot) (mx : Int) (u : Unit) (he : QB n (6, w, b, y, i, bo, tg, l, q, d, r, g, nu, ns, af, pr, ma, fr, mx, u)) (hr : QR (6, w, b, y, i, bo, tg, l, q, d, r, g, nu, ns, af, pr, ma, fr, mx, u)) (h : w0.length + (eP (6, w, b, y, i, bo, tg, l, q, d, r, g, nu, ns, af, pr, ma, fr, mx, u)).length ≤ 70368744177664) :
    F_wire_writer_fields.f n (w0, z) (6, w, b, y, i, bo, tg, l, q, d, r, g, nu, ns, af, pr, ma, fr, mx, u) = some ((w0 ++ eP (6, w, b, y, i, bo, tg, l, q, d, r, g, nu, ns, af, pr, ma, fr, mx, u), ()), ()) := by
  rw [eP_6] at h ⊢
  try simp only [List.length_append] at h
  rw [F_wire_writer_fields.e0]
  simp only [F_wire_writer_fields.e1, F_wire_writer_fields.e2, hide_n, Int.reduceBEq, bIf_t, bIf_f]
  try dsimp only
  rw [wText hn _ () (by first | omega | (simp only [List.length_append]; omega)), bnd_some]
  try dsimp only
  rw [wText hn _ () (by first | omega | (simp only [List.length_append]; omega)), bnd_some]
  try dsimp only
  rw [wTags hn _ () he.tg.1 hn2 (by first | omega | (simp only [List.length_append]; omega)), bnd_some]
  try dsimp only
  rw [wLock hn _ () hr.l (by first | omega | (simp only [List.length_append]; omega)), bnd_some]
  try dsimp only
  try simp only [List.append_assoc]
theorem wf_7 {n : Nat} (hn : 300 ≤ n) (hn2 : n ≤ 536870912) (w0 : List Int) (z : Unit) (w : ByteArray) (b : ByteArray) (y : ByteArray) (i : Int) (bo : List Int) (tg : List D_api_Tag) (l : D_api_Lock) (q : Bool) (d : D_api_Default) (r : List D_api_Rule) (g : List D_api_Grant) (nu : Int) (ns : List Int) (af : ByteArray) (pr : ByteArray) (ma : ByteArray) (fr : D_api_Spot) (mx : Int) (u : Unit) (he : QB n (7, w, b, y, i, bo, tg, l, q, d, r, g, nu, ns, af, pr, ma, fr, mx, u)) (hr : QR (7, w, b, y, i, bo, tg, l, q, d, r, g, nu, ns, af, pr, ma, fr, mx, u)) (h : w0.length + (eP (7, w, b, y, i, bo, tg, l, q, d, r, g, nu, ns, af, pr, ma, fr, mx, u)).length ≤ 70368744177664) :
    F_wire_writer_fields.f n (w0, z) (7, w, b, y, i, bo, tg, l, q, d, r, g, nu, ns, af, pr, ma, fr, mx, u) = some ((w0 ++ eP (7, w, b, y, i, bo, tg, l, q, d, r, g, nu, ns, af, pr, ma, fr, mx, u), ()), ()) := by
  rw [eP_7] at h ⊢
  try simp only [List.length_append] at h
  rw [F_wire_writer_fields.e0]
  simp only [F_wire_writer_fields.e1, F_wire_writer_fields.e2, hide_n, Int.reduceBEq, bIf_t, bIf_f]
  try dsimp only
  rw [wKey hn _ () (e := (7, w, b, y, i, bo, tg, l, q, d, r, g, nu, ns, af, pr, ma, fr, mx, u)) hr.i (by first | omega | (simp only [List.length_append]; omega)), bnd_some]
  try dsimp only
  try simp only [List.append_assoc]
theorem wf_8 {n : Nat} (hn : 300 ≤ n) (hn2 : n ≤ 536870912) (w0 : List Int) (z : Unit) (w : ByteArray) (b : ByteArray) (y : ByteArray) (i : Int) (bo : List Int) (tg : List D_api_Tag) (l : D_api_Lock) (q : Bool) (d : D_api_Default) (r : List D_api_Rule) (g : List D_api_Grant) (nu : Int) (ns : List Int) (af : ByteArray) (pr : ByteArray) (ma : ByteArray) (fr : D_api_Spot) (mx : Int) (u : Unit) (he : QB n (8, w, b, y, i, bo, tg, l, q, d, r, g, nu, ns, af, pr, ma, fr, mx, u)) (hr : QR (8, w, b, y, i, bo, tg, l, q, d, r, g, nu, ns, af, pr, ma, fr, mx, u)) (h : w0.length + (eP (8, w, b, y, i, bo, tg, l, q, d, r, g, nu, ns, af, pr, ma, fr, mx, u)).length ≤ 70368744177664) :
    F_wire_writer_fields.f n (w0, z) (8, w, b, y, i, bo, tg, l, q, d, r, g, nu, ns, af, pr, ma, fr, mx, u) = some ((w0 ++ eP (8, w, b, y, i, bo, tg, l, q, d, r, g, nu, ns, af, pr, ma, fr, mx, u), ()), ()) := by
  rw [eP_8] at h ⊢
  try simp only [List.length_append] at h
  rw [F_wire_writer_fields.e0]
  simp only [F_wire_writer_fields.e1, F_wire_writer_fields.e2, hide_n, Int.reduceBEq, bIf_t, bIf_f]
  try dsimp only
  rw [wKey hn _ () (e := (8, w, b, y, i, bo, tg, l, q, d, r, g, nu, ns, af, pr, ma, fr, mx, u)) hr.i (by first | omega | (simp only [List.length_append]; omega)), bnd_some]
  try dsimp only
  try simp only [List.append_assoc]
theorem wf_9 {n : Nat} (hn : 300 ≤ n) (hn2 : n ≤ 536870912) (w0 : List Int) (z : Unit) (w : ByteArray) (b : ByteArray) (y : ByteArray) (i : Int) (bo : List Int) (tg : List D_api_Tag) (l : D_api_Lock) (q : Bool) (d : D_api_Default) (r : List D_api_Rule) (g : List D_api_Grant) (nu : Int) (ns : List Int) (af : ByteArray) (pr : ByteArray) (ma : ByteArray) (fr : D_api_Spot) (mx : Int) (u : Unit) (he : QB n (9, w, b, y, i, bo, tg, l, q, d, r, g, nu, ns, af, pr, ma, fr, mx, u)) (hr : QR (9, w, b, y, i, bo, tg, l, q, d, r, g, nu, ns, af, pr, ma, fr, mx, u)) (h : w0.length + (eP (9, w, b, y, i, bo, tg, l, q, d, r, g, nu, ns, af, pr, ma, fr, mx, u)).length ≤ 70368744177664) :
    F_wire_writer_fields.f n (w0, z) (9, w, b, y, i, bo, tg, l, q, d, r, g, nu, ns, af, pr, ma, fr, mx, u) = some ((w0 ++ eP (9, w, b, y, i, bo, tg, l, q, d, r, g, nu, ns, af, pr, ma, fr, mx, u), ()), ()) := by
  rw [eP_9] at h ⊢
  try simp only [List.length_append] at h
  rw [F_wire_writer_fields.e0]
  simp only [F_wire_writer_fields.e1, F_wire_writer_fields.e2, hide_n, Int.reduceBEq, bIf_t, bIf_f]
  try dsimp only
  rw [wText hn _ () (by first | omega | (simp only [List.length_append]; omega)), bnd_some]
  try dsimp only
  try simp only [List.append_assoc]
theorem wf_10 {n : Nat} (hn : 300 ≤ n) (hn2 : n ≤ 536870912) (w0 : List Int) (z : Unit) (w : ByteArray) (b : ByteArray) (y : ByteArray) (i : Int) (bo : List Int) (tg : List D_api_Tag) (l : D_api_Lock) (q : Bool) (d : D_api_Default) (r : List D_api_Rule) (g : List D_api_Grant) (nu : Int) (ns : List Int) (af : ByteArray) (pr : ByteArray) (ma : ByteArray) (fr : D_api_Spot) (mx : Int) (u : Unit) (he : QB n (10, w, b, y, i, bo, tg, l, q, d, r, g, nu, ns, af, pr, ma, fr, mx, u)) (hr : QR (10, w, b, y, i, bo, tg, l, q, d, r, g, nu, ns, af, pr, ma, fr, mx, u)) (h : w0.length + (eP (10, w, b, y, i, bo, tg, l, q, d, r, g, nu, ns, af, pr, ma, fr, mx, u)).length ≤ 70368744177664) :
    F_wire_writer_fields.f n (w0, z) (10, w, b, y, i, bo, tg, l, q, d, r, g, nu, ns, af, pr, ma, fr, mx, u) = some ((w0 ++ eP (10, w, b, y, i, bo, tg, l, q, d, r, g, nu, ns, af, pr, ma, fr, mx, u), ()), ()) := by
  rw [eP_10] at h ⊢
  try simp only [List.length_append] at h
  rw [F_wire_writer_fields.e0]
  simp only [F_wire_writer_fields.e1, F_wire_writer_fields.e2, hide_n, Int.reduceBEq, bIf_t, bIf_f]
  try dsimp only
  rw [wKey hn _ () (e := (10, w, b, y, i, bo, tg, l, q, d, r, g, nu, ns, af, pr, ma, fr, mx, u)) hr.i (by first | omega | (simp only [List.length_append]; omega)), bnd_some]
  try dsimp only
  rw [wFlag _ () (by first | omega | (simp only [List.length_append]; omega)), bnd_some]
  try dsimp only
  try simp only [List.append_assoc]
theorem wf_11 {n : Nat} (hn : 300 ≤ n) (hn2 : n ≤ 536870912) (w0 : List Int) (z : Unit) (w : ByteArray) (b : ByteArray) (y : ByteArray) (i : Int) (bo : List Int) (tg : List D_api_Tag) (l : D_api_Lock) (q : Bool) (d : D_api_Default) (r : List D_api_Rule) (g : List D_api_Grant) (nu : Int) (ns : List Int) (af : ByteArray) (pr : ByteArray) (ma : ByteArray) (fr : D_api_Spot) (mx : Int) (u : Unit) (he : QB n (11, w, b, y, i, bo, tg, l, q, d, r, g, nu, ns, af, pr, ma, fr, mx, u)) (hr : QR (11, w, b, y, i, bo, tg, l, q, d, r, g, nu, ns, af, pr, ma, fr, mx, u)) (h : w0.length + (eP (11, w, b, y, i, bo, tg, l, q, d, r, g, nu, ns, af, pr, ma, fr, mx, u)).length ≤ 70368744177664) :
    F_wire_writer_fields.f n (w0, z) (11, w, b, y, i, bo, tg, l, q, d, r, g, nu, ns, af, pr, ma, fr, mx, u) = some ((w0 ++ eP (11, w, b, y, i, bo, tg, l, q, d, r, g, nu, ns, af, pr, ma, fr, mx, u), ()), ()) := by
  rw [eP_11] at h ⊢
  try simp only [List.length_append] at h
  rw [F_wire_writer_fields.e0]
  simp only [F_wire_writer_fields.e1, F_wire_writer_fields.e2, hide_n, Int.reduceBEq, bIf_t, bIf_f]
  try dsimp only
  rw [wKey hn _ () (e := (11, w, b, y, i, bo, tg, l, q, d, r, g, nu, ns, af, pr, ma, fr, mx, u)) hr.i (by first | omega | (simp only [List.length_append]; omega)), bnd_some]
  try dsimp only
  rw [wLock hn _ () hr.l (by first | omega | (simp only [List.length_append]; omega)), bnd_some]
  try dsimp only
  rw [wFlag _ () (by first | omega | (simp only [List.length_append]; omega)), bnd_some]
  try dsimp only
  try simp only [List.append_assoc]
theorem wf_12 {n : Nat} (hn : 300 ≤ n) (hn2 : n ≤ 536870912) (w0 : List Int) (z : Unit) (w : ByteArray) (b : ByteArray) (y : ByteArray) (i : Int) (bo : List Int) (tg : List D_api_Tag) (l : D_api_Lock) (q : Bool) (d : D_api_Default) (r : List D_api_Rule) (g : List D_api_Grant) (nu : Int) (ns : List Int) (af : ByteArray) (pr : ByteArray) (ma : ByteArray) (fr : D_api_Spot) (mx : Int) (u : Unit) (he : QB n (12, w, b, y, i, bo, tg, l, q, d, r, g, nu, ns, af, pr, ma, fr, mx, u)) (hr : QR (12, w, b, y, i, bo, tg, l, q, d, r, g, nu, ns, af, pr, ma, fr, mx, u)) (h : w0.length + (eP (12, w, b, y, i, bo, tg, l, q, d, r, g, nu, ns, af, pr, ma, fr, mx, u)).length ≤ 70368744177664) :
    F_wire_writer_fields.f n (w0, z) (12, w, b, y, i, bo, tg, l, q, d, r, g, nu, ns, af, pr, ma, fr, mx, u) = some ((w0 ++ eP (12, w, b, y, i, bo, tg, l, q, d, r, g, nu, ns, af, pr, ma, fr, mx, u), ()), ()) := by
  rw [eP_12] at h ⊢
  try simp only [List.length_append] at h
  rw [F_wire_writer_fields.e0]
  simp only [F_wire_writer_fields.e1, F_wire_writer_fields.e2, hide_n, Int.reduceBEq, bIf_t, bIf_f]
  try dsimp only
  rw [wKey hn _ () (e := (12, w, b, y, i, bo, tg, l, q, d, r, g, nu, ns, af, pr, ma, fr, mx, u)) hr.i (by first | omega | (simp only [List.length_append]; omega)), bnd_some]
  try dsimp only
  rw [wLock hn _ () hr.l (by first | omega | (simp only [List.length_append]; omega)), bnd_some]
  try dsimp only
  try simp only [List.append_assoc]
theorem wf_13 {n : Nat} (hn : 300 ≤ n) (hn2 : n ≤ 536870912) (w0 : List Int) (z : Unit) (w : ByteArray) (b : ByteArray) (y : ByteArray) (i : Int) (bo : List Int) (tg : List D_api_Tag) (l : D_api_Lock) (q : Bool) (d : D_api_Default) (r : List D_api_Rule) (g : List D_api_Grant) (nu : Int) (ns : List Int) (af : ByteArray) (pr : ByteArray) (ma : ByteArray) (fr : D_api_Spot) (mx : Int) (u : Unit) (he : QB n (13, w, b, y, i, bo, tg, l, q, d, r, g, nu, ns, af, pr, ma, fr, mx, u)) (hr : QR (13, w, b, y, i, bo, tg, l, q, d, r, g, nu, ns, af, pr, ma, fr, mx, u)) (h : w0.length + (eP (13, w, b, y, i, bo, tg, l, q, d, r, g, nu, ns, af, pr, ma, fr, mx, u)).length ≤ 70368744177664) :
    F_wire_writer_fields.f n (w0, z) (13, w, b, y, i, bo, tg, l, q, d, r, g, nu, ns, af, pr, ma, fr, mx, u) = some ((w0 ++ eP (13, w, b, y, i, bo, tg, l, q, d, r, g, nu, ns, af, pr, ma, fr, mx, u), ()), ()) := by
  rw [eP_13] at h ⊢
  try simp only [List.length_append] at h
  rw [F_wire_writer_fields.e0]
  simp only [F_wire_writer_fields.e1, F_wire_writer_fields.e2, hide_n, Int.reduceBEq, bIf_t, bIf_f]
  try dsimp only
  rw [wKey hn _ () (e := (13, w, b, y, i, bo, tg, l, q, d, r, g, nu, ns, af, pr, ma, fr, mx, u)) hr.i (by first | omega | (simp only [List.length_append]; omega)), bnd_some]
  try dsimp only
  rw [wTags hn _ () he.tg.1 hn2 (by first | omega | (simp only [List.length_append]; omega)), bnd_some]
  try dsimp only
  try simp only [List.append_assoc]
theorem wf_14 {n : Nat} (hn : 300 ≤ n) (hn2 : n ≤ 536870912) (w0 : List Int) (z : Unit) (w : ByteArray) (b : ByteArray) (y : ByteArray) (i : Int) (bo : List Int) (tg : List D_api_Tag) (l : D_api_Lock) (q : Bool) (d : D_api_Default) (r : List D_api_Rule) (g : List D_api_Grant) (nu : Int) (ns : List Int) (af : ByteArray) (pr : ByteArray) (ma : ByteArray) (fr : D_api_Spot) (mx : Int) (u : Unit) (he : QB n (14, w, b, y, i, bo, tg, l, q, d, r, g, nu, ns, af, pr, ma, fr, mx, u)) (hr : QR (14, w, b, y, i, bo, tg, l, q, d, r, g, nu, ns, af, pr, ma, fr, mx, u)) (h : w0.length + (eP (14, w, b, y, i, bo, tg, l, q, d, r, g, nu, ns, af, pr, ma, fr, mx, u)).length ≤ 70368744177664) :
    F_wire_writer_fields.f n (w0, z) (14, w, b, y, i, bo, tg, l, q, d, r, g, nu, ns, af, pr, ma, fr, mx, u) = some ((w0 ++ eP (14, w, b, y, i, bo, tg, l, q, d, r, g, nu, ns, af, pr, ma, fr, mx, u), ()), ()) := by
  rw [eP_14] at h ⊢
  try simp only [List.length_append] at h
  rw [F_wire_writer_fields.e0]
  simp only [F_wire_writer_fields.e1, F_wire_writer_fields.e2, hide_n, Int.reduceBEq, bIf_t, bIf_f]
  try dsimp only
  rw [wText hn _ () (by first | omega | (simp only [List.length_append]; omega)), bnd_some]
  try dsimp only
  rw [wText hn _ () (by first | omega | (simp only [List.length_append]; omega)), bnd_some]
  try dsimp only
  rw [wText hn _ () (by first | omega | (simp only [List.length_append]; omega)), bnd_some]
  try dsimp only
  rw [wW hn _ () (by first | omega | (simp only [List.length_append]; omega)), bnd_some]
  try dsimp only
  try simp only [List.append_assoc]
theorem wf_15 {n : Nat} (hn : 300 ≤ n) (hn2 : n ≤ 536870912) (w0 : List Int) (z : Unit) (w : ByteArray) (b : ByteArray) (y : ByteArray) (i : Int) (bo : List Int) (tg : List D_api_Tag) (l : D_api_Lock) (q : Bool) (d : D_api_Default) (r : List D_api_Rule) (g : List D_api_Grant) (nu : Int) (ns : List Int) (af : ByteArray) (pr : ByteArray) (ma : ByteArray) (fr : D_api_Spot) (mx : Int) (u : Unit) (he : QB n (15, w, b, y, i, bo, tg, l, q, d, r, g, nu, ns, af, pr, ma, fr, mx, u)) (hr : QR (15, w, b, y, i, bo, tg, l, q, d, r, g, nu, ns, af, pr, ma, fr, mx, u)) (h : w0.length + (eP (15, w, b, y, i, bo, tg, l, q, d, r, g, nu, ns, af, pr, ma, fr, mx, u)).length ≤ 70368744177664) :
    F_wire_writer_fields.f n (w0, z) (15, w, b, y, i, bo, tg, l, q, d, r, g, nu, ns, af, pr, ma, fr, mx, u) = some ((w0 ++ eP (15, w, b, y, i, bo, tg, l, q, d, r, g, nu, ns, af, pr, ma, fr, mx, u), ()), ()) := by
  rw [eP_15] at h ⊢
  try simp only [List.length_append] at h
  rw [F_wire_writer_fields.e0]
  simp only [F_wire_writer_fields.e1, F_wire_writer_fields.e2, hide_n, Int.reduceBEq, bIf_t, bIf_f]
  try dsimp only
  rw [wText hn _ () (by first | omega | (simp only [List.length_append]; omega)), bnd_some]
  try dsimp only
  rw [wText hn _ () (by first | omega | (simp only [List.length_append]; omega)), bnd_some]
  try dsimp only
  rw [wNum hn _ () hr.fi (by first | omega | (simp only [List.length_append]; omega)), bnd_some]
  try dsimp only
  rw [wW hn _ () (by first | omega | (simp only [List.length_append]; omega)), bnd_some]
  try dsimp only
  try simp only [List.append_assoc]
theorem wf_16 {n : Nat} (hn : 300 ≤ n) (hn2 : n ≤ 536870912) (w0 : List Int) (z : Unit) (w : ByteArray) (b : ByteArray) (y : ByteArray) (i : Int) (bo : List Int) (tg : List D_api_Tag) (l : D_api_Lock) (q : Bool) (d : D_api_Default) (r : List D_api_Rule) (g : List D_api_Grant) (nu : Int) (ns : List Int) (af : ByteArray) (pr : ByteArray) (ma : ByteArray) (fr : D_api_Spot) (mx : Int) (u : Unit) (he : QB n (16, w, b, y, i, bo, tg, l, q, d, r, g, nu, ns, af, pr, ma, fr, mx, u)) (hr : QR (16, w, b, y, i, bo, tg, l, q, d, r, g, nu, ns, af, pr, ma, fr, mx, u)) (h : w0.length + (eP (16, w, b, y, i, bo, tg, l, q, d, r, g, nu, ns, af, pr, ma, fr, mx, u)).length ≤ 70368744177664) :
    F_wire_writer_fields.f n (w0, z) (16, w, b, y, i, bo, tg, l, q, d, r, g, nu, ns, af, pr, ma, fr, mx, u) = some ((w0 ++ eP (16, w, b, y, i, bo, tg, l, q, d, r, g, nu, ns, af, pr, ma, fr, mx, u), ()), ()) := by
  rw [eP_16] at h ⊢
  try simp only [List.length_append] at h
  rw [F_wire_writer_fields.e0]
  simp only [F_wire_writer_fields.e1, F_wire_writer_fields.e2, hide_n, Int.reduceBEq, bIf_t, bIf_f]
  try dsimp only
  rw [wText hn _ () (by first | omega | (simp only [List.length_append]; omega)), bnd_some]
  try dsimp only
  rw [wTags hn _ () he.tg.1 hn2 (by first | omega | (simp only [List.length_append]; omega)), bnd_some]
  try dsimp only
  try simp only [List.append_assoc]
theorem wf_17 {n : Nat} (hn : 300 ≤ n) (hn2 : n ≤ 536870912) (w0 : List Int) (z : Unit) (w : ByteArray) (b : ByteArray) (y : ByteArray) (i : Int) (bo : List Int) (tg : List D_api_Tag) (l : D_api_Lock) (q : Bool) (d : D_api_Default) (r : List D_api_Rule) (g : List D_api_Grant) (nu : Int) (ns : List Int) (af : ByteArray) (pr : ByteArray) (ma : ByteArray) (fr : D_api_Spot) (mx : Int) (u : Unit) (he : QB n (17, w, b, y, i, bo, tg, l, q, d, r, g, nu, ns, af, pr, ma, fr, mx, u)) (hr : QR (17, w, b, y, i, bo, tg, l, q, d, r, g, nu, ns, af, pr, ma, fr, mx, u)) (h : w0.length + (eP (17, w, b, y, i, bo, tg, l, q, d, r, g, nu, ns, af, pr, ma, fr, mx, u)).length ≤ 70368744177664) :
    F_wire_writer_fields.f n (w0, z) (17, w, b, y, i, bo, tg, l, q, d, r, g, nu, ns, af, pr, ma, fr, mx, u) = some ((w0 ++ eP (17, w, b, y, i, bo, tg, l, q, d, r, g, nu, ns, af, pr, ma, fr, mx, u), ()), ()) := by
  rw [eP_17] at h ⊢
  try simp only [List.length_append] at h
  rw [F_wire_writer_fields.e0]
  simp only [F_wire_writer_fields.e1, F_wire_writer_fields.e2, hide_n, Int.reduceBEq, bIf_t, bIf_f]
  try dsimp only
  rw [wNum hn _ () hr.i (by first | omega | (simp only [List.length_append]; omega)), bnd_some]
  try dsimp only
  rw [wW hn _ () (by first | omega | (simp only [List.length_append]; omega)), bnd_some]
  try dsimp only
  rw [wText hn _ () (by first | omega | (simp only [List.length_append]; omega)), bnd_some]
  try dsimp only
  try simp only [List.append_assoc]
theorem wf_18 {n : Nat} (hn : 300 ≤ n) (hn2 : n ≤ 536870912) (w0 : List Int) (z : Unit) (w : ByteArray) (b : ByteArray) (y : ByteArray) (i : Int) (bo : List Int) (tg : List D_api_Tag) (l : D_api_Lock) (q : Bool) (d : D_api_Default) (r : List D_api_Rule) (g : List D_api_Grant) (nu : Int) (ns : List Int) (af : ByteArray) (pr : ByteArray) (ma : ByteArray) (fr : D_api_Spot) (mx : Int) (u : Unit) (he : QB n (18, w, b, y, i, bo, tg, l, q, d, r, g, nu, ns, af, pr, ma, fr, mx, u)) (hr : QR (18, w, b, y, i, bo, tg, l, q, d, r, g, nu, ns, af, pr, ma, fr, mx, u)) (h : w0.length + (eP (18, w, b, y, i, bo, tg, l, q, d, r, g, nu, ns, af, pr, ma, fr, mx, u)).length ≤ 70368744177664) :
    F_wire_writer_fields.f n (w0, z) (18, w, b, y, i, bo, tg, l, q, d, r, g, nu, ns, af, pr, ma, fr, mx, u) = some ((w0 ++ eP (18, w, b, y, i, bo, tg, l, q, d, r, g, nu, ns, af, pr, ma, fr, mx, u), ()), ()) := by
  rw [eP_18] at h ⊢
  try simp only [List.length_append] at h
  rw [F_wire_writer_fields.e0]
  simp only [F_wire_writer_fields.e1, F_wire_writer_fields.e2, hide_n, Int.reduceBEq, bIf_t, bIf_f]
  try dsimp only
  rw [wNum hn _ () hr.i (by first | omega | (simp only [List.length_append]; omega)), bnd_some]
  try dsimp only
  rw [wW hn _ () (by first | omega | (simp only [List.length_append]; omega)), bnd_some]
  try dsimp only
  have hlen : ns.length < n := he.ns
  have := app_loop (l := ns) (0 : Int) eI 70368744177664 (fun m k L => F_wire_writer_fields.J3 n m (ns, ((ns.length : Nat) : Int), k, (((), ()), ()), (L, ()), ())) (fun L => some ((L, ()), ()))
    (fun m k L hk hL => by
      have hx : I64 (ns.getD k 0) := hr.ns _ (getD_memA (d := 0) hk)
      try dsimp only
      rw [F_wire_writer_fields.e3, hide_eq, decide_eq_true (by omega), bIf_true, gIf_pos ⟨by omega, by omega⟩, Int.toNat_natCast, cast_up k (by omega)]
      try dsimp only
      rw [wInt hn _ () hx (by omega), bnd_some])
    (fun m L hL => by
      try dsimp only
      rw [F_wire_writer_fields.e3, hide_eq, decide_eq_false (by omega), bIf_false]) n 0 _ (by omega) (by omega) (show ((w0 ++ eN i) ++ eW ((ns.length : Nat) : Int)).length + ((ns.drop 0).flatMap eI).length ≤ 70368744177664 by rw [List.drop_zero]; simp only [List.length_append]; omega)
  try dsimp only at this
  rw [show ((0 : Nat) : Int) = 0 from rfl, List.drop_zero] at this
  rw [this]
  try simp only [List.append_assoc]
theorem wf_19 {n : Nat} (hn : 300 ≤ n) (hn2 : n ≤ 536870912) (w0 : List Int) (z : Unit) (w : ByteArray) (b : ByteArray) (y : ByteArray) (i : Int) (bo : List Int) (tg : List D_api_Tag) (l : D_api_Lock) (q : Bool) (d : D_api_Default) (r : List D_api_Rule) (g : List D_api_Grant) (nu : Int) (ns : List Int) (af : ByteArray) (pr : ByteArray) (ma : ByteArray) (fr : D_api_Spot) (mx : Int) (u : Unit) (he : QB n (19, w, b, y, i, bo, tg, l, q, d, r, g, nu, ns, af, pr, ma, fr, mx, u)) (hr : QR (19, w, b, y, i, bo, tg, l, q, d, r, g, nu, ns, af, pr, ma, fr, mx, u)) (h : w0.length + (eP (19, w, b, y, i, bo, tg, l, q, d, r, g, nu, ns, af, pr, ma, fr, mx, u)).length ≤ 70368744177664) :
    F_wire_writer_fields.f n (w0, z) (19, w, b, y, i, bo, tg, l, q, d, r, g, nu, ns, af, pr, ma, fr, mx, u) = some ((w0 ++ eP (19, w, b, y, i, bo, tg, l, q, d, r, g, nu, ns, af, pr, ma, fr, mx, u), ()), ()) := by
  rw [eP_19] at h ⊢
  try simp only [List.length_append] at h
  rw [F_wire_writer_fields.e0]
  simp only [F_wire_writer_fields.e1, F_wire_writer_fields.e2, hide_n, Int.reduceBEq, bIf_t, bIf_f]
  try dsimp only
  rw [wNum hn _ () hr.i (by first | omega | (simp only [List.length_append]; omega)), bnd_some]
  try dsimp only
  try simp only [List.append_assoc]
theorem wf_20 {n : Nat} (hn : 300 ≤ n) (hn2 : n ≤ 536870912) (w0 : List Int) (z : Unit) (w : ByteArray) (b : ByteArray) (y : ByteArray) (i : Int) (bo : List Int) (tg : List D_api_Tag) (l : D_api_Lock) (q : Bool) (d : D_api_Default) (r : List D_api_Rule) (g : List D_api_Grant) (nu : Int) (ns : List Int) (af : ByteArray) (pr : ByteArray) (ma : ByteArray) (fr : D_api_Spot) (mx : Int) (u : Unit) (he : QB n (20, w, b, y, i, bo, tg, l, q, d, r, g, nu, ns, af, pr, ma, fr, mx, u)) (hr : QR (20, w, b, y, i, bo, tg, l, q, d, r, g, nu, ns, af, pr, ma, fr, mx, u)) (h : w0.length + (eP (20, w, b, y, i, bo, tg, l, q, d, r, g, nu, ns, af, pr, ma, fr, mx, u)).length ≤ 70368744177664) :
    F_wire_writer_fields.f n (w0, z) (20, w, b, y, i, bo, tg, l, q, d, r, g, nu, ns, af, pr, ma, fr, mx, u) = some ((w0 ++ eP (20, w, b, y, i, bo, tg, l, q, d, r, g, nu, ns, af, pr, ma, fr, mx, u), ()), ()) := by
  rw [eP_20] at h ⊢
  try simp only [List.length_append] at h
  rw [F_wire_writer_fields.e0]
  simp only [F_wire_writer_fields.e1, F_wire_writer_fields.e2, hide_n, Int.reduceBEq, bIf_t, bIf_f]
  try dsimp only
  rw [wText hn _ () (by first | omega | (simp only [List.length_append]; omega)), bnd_some]
  try dsimp only
  rw [wText hn _ () (by first | omega | (simp only [List.length_append]; omega)), bnd_some]
  try dsimp only
  rw [wText hn _ () (by first | omega | (simp only [List.length_append]; omega)), bnd_some]
  try dsimp only
  rw [wNum hn _ () hr.fi (by first | omega | (simp only [List.length_append]; omega)), bnd_some]
  try dsimp only
  try simp only [List.append_assoc]
theorem wf_21 {n : Nat} (hn : 300 ≤ n) (hn2 : n ≤ 536870912) (w0 : List Int) (z : Unit) (w : ByteArray) (b : ByteArray) (y : ByteArray) (i : Int) (bo : List Int) (tg : List D_api_Tag) (l : D_api_Lock) (q : Bool) (d : D_api_Default) (r : List D_api_Rule) (g : List D_api_Grant) (nu : Int) (ns : List Int) (af : ByteArray) (pr : ByteArray) (ma : ByteArray) (fr : D_api_Spot) (mx : Int) (u : Unit) (he : QB n (21, w, b, y, i, bo, tg, l, q, d, r, g, nu, ns, af, pr, ma, fr, mx, u)) (hr : QR (21, w, b, y, i, bo, tg, l, q, d, r, g, nu, ns, af, pr, ma, fr, mx, u)) (h : w0.length + (eP (21, w, b, y, i, bo, tg, l, q, d, r, g, nu, ns, af, pr, ma, fr, mx, u)).length ≤ 70368744177664) :
    F_wire_writer_fields.f n (w0, z) (21, w, b, y, i, bo, tg, l, q, d, r, g, nu, ns, af, pr, ma, fr, mx, u) = some ((w0 ++ eP (21, w, b, y, i, bo, tg, l, q, d, r, g, nu, ns, af, pr, ma, fr, mx, u), ()), ()) := by
  rw [eP_21] at h ⊢
  try simp only [List.length_append] at h
  rw [F_wire_writer_fields.e0]
  simp only [F_wire_writer_fields.e1, F_wire_writer_fields.e2, hide_n, Int.reduceBEq, bIf_t, bIf_f]
  try dsimp only
  try rw [List.append_nil]
theorem wf_22 {n : Nat} (hn : 300 ≤ n) (hn2 : n ≤ 536870912) (w0 : List Int) (z : Unit) (w : ByteArray) (b : ByteArray) (y : ByteArray) (i : Int) (bo : List Int) (tg : List D_api_Tag) (l : D_api_Lock) (q : Bool) (d : D_api_Default) (r : List D_api_Rule) (g : List D_api_Grant) (nu : Int) (ns : List Int) (af : ByteArray) (pr : ByteArray) (ma : ByteArray) (fr : D_api_Spot) (mx : Int) (u : Unit) (he : QB n (22, w, b, y, i, bo, tg, l, q, d, r, g, nu, ns, af, pr, ma, fr, mx, u)) (hr : QR (22, w, b, y, i, bo, tg, l, q, d, r, g, nu, ns, af, pr, ma, fr, mx, u)) (h : w0.length + (eP (22, w, b, y, i, bo, tg, l, q, d, r, g, nu, ns, af, pr, ma, fr, mx, u)).length ≤ 70368744177664) :
    F_wire_writer_fields.f n (w0, z) (22, w, b, y, i, bo, tg, l, q, d, r, g, nu, ns, af, pr, ma, fr, mx, u) = some ((w0 ++ eP (22, w, b, y, i, bo, tg, l, q, d, r, g, nu, ns, af, pr, ma, fr, mx, u), ()), ()) := by
  rw [eP_22] at h ⊢
  try simp only [List.length_append] at h
  rw [F_wire_writer_fields.e0]
  simp only [F_wire_writer_fields.e1, F_wire_writer_fields.e2, hide_n, Int.reduceBEq, bIf_t, bIf_f]
  try dsimp only
  try rw [List.append_nil]
end Go.Proofs.YtcpkhpboemfglaaGreatDoor

namespace Go.Proofs.YtcpkhpboemfglaaGreatDoor
open Go Go.Va Go.Proofs
structure SndQ (e : Q) : Prop where
  kind : 1 ≤ e.1 ∧ e.1 ≤ 22
  w : e.2.1.size ≤ 64
  b : (if 21 ≤ e.1 then eqS e.2.2.1 ⟨#[]⟩ else bucketB e.2.2.1) = true
  f107 : fld (hasQ e.1) 107 (keyB e.2.2.2.1) (eqS e.2.2.2.1 ⟨#[]⟩) = true
  f105 : fld (hasQ e.1) 105 (decide (e.2.2.2.2.1 ≥ leastK e.1)) ((e.2.2.2.2.1 == 0)) = true
  f66 : fld (hasQ e.1) 66 (decide (((e.2.2.2.2.2.1.length : Nat) : Int) ≤ 1024)) ((((e.2.2.2.2.2.1.length : Nat) : Int) == 0)) = true
  f116 : fld (hasQ e.1) 116 (tagsB e.2.2.2.2.2.2.1) ((((e.2.2.2.2.2.2.1.length : Nat) : Int) == 0)) = true
  f108 : fld (hasQ e.1) 108 ((lockB e.2.2.2.2.2.2.2.1 && lockK e.1 e.2.2.2.2.2.2.2.1)) (eqD T_api_Lock e.2.2.2.2.2.2.2.1 lockZ) = true
  f121 : fld (hasQ e.1) 121 (true) ((!e.2.2.2.2.2.2.2.2.1)) = true
  f100 : fld (hasQ e.1) 100 (modeB e.2.2.2.2.2.2.2.2.2.1) (eqD T_api_Default e.2.2.2.2.2.2.2.2.2.1 (0, (0, ()))) = true
  f114 : fld (hasQ e.1) 114 (rulesB e.2.2.2.2.2.2.2.2.2.2.1) ((((e.2.2.2.2.2.2.2.2.2.2.1.length : Nat) : Int) == 0)) = true
  f103 : fld (hasQ e.1) 103 (grantsB e.2.2.2.2.2.2.2.2.2.2.2.1) ((((e.2.2.2.2.2.2.2.2.2.2.2.1.length : Nat) : Int) == 0)) = true
  f110 : fld (hasQ e.1) 110 ((decide (e.2.2.2.2.2.2.2.2.2.2.2.2.1 ≥ 1) && decide (e.2.2.2.2.2.2.2.2.2.2.2.2.1 ≤ 10000))) ((e.2.2.2.2.2.2.2.2.2.2.2.2.1 == 0)) = true
  f78 : fld (hasQ e.1) 78 (decide (((e.2.2.2.2.2.2.2.2.2.2.2.2.2.1.length : Nat) : Int) ≤ 16)) ((((e.2.2.2.2.2.2.2.2.2.2.2.2.2.1.length : Nat) : Int) == 0)) = true
  f97 : fld (hasQ e.1) 97 (nameB e.2.2.2.2.2.2.2.2.2.2.2.2.2.2.1) (eqS e.2.2.2.2.2.2.2.2.2.2.2.2.2.2.1 ⟨#[]⟩) = true
  f112 : fld (hasQ e.1) 112 (nameB e.2.2.2.2.2.2.2.2.2.2.2.2.2.2.2.1) (eqS e.2.2.2.2.2.2.2.2.2.2.2.2.2.2.2.1 ⟨#[]⟩) = true
  f109 : fld (hasQ e.1) 109 (nameB e.2.2.2.2.2.2.2.2.2.2.2.2.2.2.2.2.1) (eqS e.2.2.2.2.2.2.2.2.2.2.2.2.2.2.2.2.1 ⟨#[]⟩) = true
  f102 : fld (hasQ e.1) 102 (fromK e.1 e.2.2.2.2.2.2.2.2.2.2.2.2.2.2.2.2.2.1) (eqD T_api_Spot e.2.2.2.2.2.2.2.2.2.2.2.2.2.2.2.2.2.1 spotZ) = true
  f120 : fld (hasQ e.1) 120 ((decide (e.2.2.2.2.2.2.2.2.2.2.2.2.2.2.2.2.2.2.1 ≥ 1) && decide (e.2.2.2.2.2.2.2.2.2.2.2.2.2.2.2.2.2.2.1 ≤ 100))) ((e.2.2.2.2.2.2.2.2.2.2.2.2.2.2.2.2.2.2.1 == 0)) = true
theorem sndQ_of {e : Q} (h : goodQ e = true) : SndQ e := by
  unfold goodQ at h
  simp only [Bool.and_eq_true] at h
  obtain ⟨⟨h1, h2⟩, h3, h4, h5, f107_, f105_, f66_, f116_, f108_, f121_, f100_, f114_, f103_, f110_, f78_, f97_, f112_, f109_, f102_, f120_⟩ := h
  have h3 : decide (((e.2.1.size : Nat) : Int) > 64) = false := by
    cases hh : decide (((e.2.1.size : Nat) : Int) > 64)
    · rfl
    · rw [hh] at h3; exact nomatch h3
  have h3 := of_decide_eq_false h3
  exact ⟨⟨of_decide_eq_true h1, of_decide_eq_true h2⟩, by omega, h5, f107_, f105_, f66_, f116_, f108_, f121_, f100_, f114_, f103_, f110_, f78_, f97_, f112_, f109_, f102_, f120_⟩
theorem fldq_yes {k : Int} {c : Nat} {g z : Bool} (h : fld (hasQ k) c g z = true) (hi : inB (hasQ k) c = true) : g = true := by
  unfold fld at h; rw [if_pos hi] at h; exact h
theorem fldq_no {k : Int} {c : Nat} {g z : Bool} (h : fld (hasQ k) c g z = true) (hi : inB (hasQ k) c = false) : z = true := by
  unfold fld at h; rw [if_neg (by rw [hi]; decide)] at h; exact h
theorem wf {n : Nat} (hn : 300 ≤ n) (hn2 : n ≤ 536870912) (w0 : List Int) (z : Unit) {e : Q} (hs : SndQ e) (he : QB n e) (hr : QR e) (hh : w0.length + (eP e).length ≤ 70368744177664) : F_wire_writer_fields.f n (w0, z) e = some ((w0 ++ eP e, ()), ()) := by
  have hk := hs.kind
  obtain ⟨k, w, b, y, i, bo, tg, l, q, d, r, g, nu, ns, af, pr, ma, fr, mx, u⟩ := e
  have : k = 1 ∨ k = 2 ∨ k = 3 ∨ k = 4 ∨ k = 5 ∨ k = 6 ∨ k = 7 ∨ k = 8 ∨ k = 9 ∨ k = 10 ∨ k = 11 ∨ k = 12 ∨ k = 13 ∨ k = 14 ∨ k = 15 ∨ k = 16 ∨ k = 17 ∨ k = 18 ∨ k = 19 ∨ k = 20 ∨ k = 21 ∨ k = 22 := by
    obtain ⟨h1, h2⟩ := hk
    dsimp only at h1 h2
    omega
  rcases this with h | h | h | h | h | h | h | h | h | h | h | h | h | h | h | h | h | h | h | h | h | h <;> subst h
  · exact wf_1 hn hn2 w0 z w b y i bo tg l q d r g nu ns af pr ma fr mx u he hr hh
  · exact wf_2 hn hn2 w0 z w b y i bo tg l q d r g nu ns af pr ma fr mx u he hr hh
  · exact wf_3 hn hn2 w0 z w b y i bo tg l q d r g nu ns af pr ma fr mx u he hr hh
  · exact wf_4 hn hn2 w0 z w b y i bo tg l q d r g nu ns af pr ma fr mx u he hr hh
  · exact wf_5 hn hn2 w0 z w b y i bo tg l q d r g nu ns af pr ma fr mx u he hr hh
  · exact wf_6 hn hn2 w0 z w b y i bo tg l q d r g nu ns af pr ma fr mx u he hr hh
  · exact wf_7 hn hn2 w0 z w b y i bo tg l q d r g nu ns af pr ma fr mx u he hr hh
  · exact wf_8 hn hn2 w0 z w b y i bo tg l q d r g nu ns af pr ma fr mx u he hr hh
  · exact wf_9 hn hn2 w0 z w b y i bo tg l q d r g nu ns af pr ma fr mx u he hr hh
  · exact wf_10 hn hn2 w0 z w b y i bo tg l q d r g nu ns af pr ma fr mx u he hr hh
  · exact wf_11 hn hn2 w0 z w b y i bo tg l q d r g nu ns af pr ma fr mx u he hr hh
  · exact wf_12 hn hn2 w0 z w b y i bo tg l q d r g nu ns af pr ma fr mx u he hr hh
  · exact wf_13 hn hn2 w0 z w b y i bo tg l q d r g nu ns af pr ma fr mx u he hr hh
  · exact wf_14 hn hn2 w0 z w b y i bo tg l q d r g nu ns af pr ma fr mx u he hr hh
  · exact wf_15 hn hn2 w0 z w b y i bo tg l q d r g nu ns af pr ma fr mx u he hr hh
  · exact wf_16 hn hn2 w0 z w b y i bo tg l q d r g nu ns af pr ma fr mx u he hr hh
  · exact wf_17 hn hn2 w0 z w b y i bo tg l q d r g nu ns af pr ma fr mx u he hr hh
  · exact wf_18 hn hn2 w0 z w b y i bo tg l q d r g nu ns af pr ma fr mx u he hr hh
  · exact wf_19 hn hn2 w0 z w b y i bo tg l q d r g nu ns af pr ma fr mx u he hr hh
  · exact wf_20 hn hn2 w0 z w b y i bo tg l q d r g nu ns af pr ma fr mx u he hr hh
  · exact wf_21 hn hn2 w0 z w b y i bo tg l q d r g nu ns af pr ma fr mx u he hr hh
  · exact wf_22 hn hn2 w0 z w b y i bo tg l q d r g nu ns af pr ma fr mx u he hr hh
def encQ (e : Q) : List Int := eW e.1 ++ (eT e.2.1 ++ ((if 21 ≤ e.1 then [] else eT e.2.2.1) ++ eP e))
end Go.Proofs.YtcpkhpboemfglaaGreatDoor

namespace Go.Proofs.YtcpkhpboemfglaaGreatDoor
open Go Go.Va Go.Proofs
theorem spotEq {a b : D_api_Spot} (h : eqD T_api_Spot a b = true) : a = b := by
  have h : ((a.1 == b.1) && ((a.2.1 == b.2.1) && (decide (a.2.2.1 = b.2.2.1) && true))) = true := h
  simp only [Bool.and_eq_true, ba_beq, decide_eq_true_iff, and_true] at h
  obtain ⟨h1, h2, h3⟩ := h
  obtain ⟨a1, a2, a3, a4⟩ := a
  obtain ⟨b1, b2, b3, b4⟩ := b
  dsimp only at h1 h2 h3
  rw [h1, h2, h3]
theorem not_eq' {q : Bool} (h : (!q) = true) : q = false := by cases q; rfl; exact nomatch h
abbrev hdQ (k : Int) (w b : ByteArray) : Q := (k, w, b, (⟨#[]⟩ : ByteArray), 0, [], [], lockZ, false, (0, (0, ())), [], [], 0, [], (⟨#[]⟩ : ByteArray), (⟨#[]⟩ : ByteArray), (⟨#[]⟩ : ByteArray), spotZ, 0, ())
def bdBody (n : Nat) (l : List Int) : Prop := l.length < n ∧ BY l
def okNums (l : List Int) : Prop := l.length ≤ 16 ∧ ∀ x ∈ l, I64 x
def bdQ (n : Nat) (e : Q) : Prop := QB n e ∧ QR e ∧ BY e.2.2.2.2.2.1
theorem mkQ {n : Nat} {k : Int} {w b y : ByteArray} {i : Int} {bo : List Int} {tg : List D_api_Tag} {l : D_api_Lock} {q : Bool} {d : D_api_Default} {r : List D_api_Rule} {g : List D_api_Grant} {nu : Int} {ns : List Int} {af pr ma : ByteArray} {fr : D_api_Spot} {mx : Int} {u : Unit}
    (hw : w.size < n) (hb : b.size < n) (hy : y.size < n) (hi : U64 i) (hbo : bdBody n bo) (ht : TsB n tg) (hl : bdLock l) (hr : RusB n r) (hg : GrsB n g) (hns : okNums ns) (haf : af.size < n) (hpr : pr.size < n) (hma : ma.size < n) (hf1 : fr.1.size < n) (hf2 : fr.2.1.size < n) (hf3 : U64 fr.2.2.1) (h3 : 300 ≤ n) :
    bdQ n (k, w, b, y, i, bo, tg, l, q, d, r, g, nu, ns, af, pr, ma, fr, mx, u) :=
  ⟨⟨hw, hb, hy, hi.1, hbo.1, ht, hr, hg, Nat.lt_of_le_of_lt hns.1 (by omega), haf, hpr, hma, hf1, hf2, hf3.1⟩, ⟨hi, hl, hf3, hns.2⟩, hbo.2⟩
theorem qJ_enc_7 {n : Nat} (hn : 300 ≤ n) (hn2 : n ≤ 536870912) (w : ByteArray) (b : ByteArray) (y : ByteArray) (i : Int) (bo : List Int) (tg : List D_api_Tag) (l : D_api_Lock) (q : Bool) (d : D_api_Default) (r : List D_api_Rule) (g : List D_api_Grant) (nu : Int) (ns : List Int) (af : ByteArray) (pr : ByteArray) (ma : ByteArray) (fr : D_api_Spot) (mx : Int) (u : Unit) (hs : SndQ (7, w, b, y, i, bo, tg, l, q, d, r, g, nu, ns, af, pr, ma, fr, mx, u)) (hr : QR (7, w, b, y, i, bo, tg, l, q, d, r, g, nu, ns, af, pr, ma, fr, mx, u)) (hy : BY bo) (rest : List Int) (hb : BB n (eP (7, w, b, y, i, bo, tg, l, q, d, r, g, nu, ns, af, pr, ma, fr, mx, u) ++ rest)) :
    F_wire_reader_fields.f n (eP (7, w, b, y, i, bo, tg, l, q, d, r, g, nu, ns, af, pr, ma, fr, mx, u) ++ rest, 0, ()) (hdQ 7 w b) = some ((rest, 0, ()), (7, w, b, y, i, bo, tg, l, q, d, r, g, nu, ns, af, pr, ma, fr, mx, u), ()) := by
  have gk := fldq_yes hs.f107 (show inB (hasQ 7) 107 = true by decide +kernel)
  have gi := fldq_yes hs.f105 (show inB (hasQ 7) 105 = true by decide +kernel)
  have zB : bo = [] := len0 (fldq_no hs.f66 (show inB (hasQ 7) 66 = false by decide +kernel))
  have zt : tg = [] := len0 (fldq_no hs.f116 (show inB (hasQ 7) 116 = false by decide +kernel))
  have zl : l = lockZ := lockEq (fldq_no hs.f108 (show inB (hasQ 7) 108 = false by decide +kernel))
  have zy : q = false := not_eq' (fldq_no hs.f121 (show inB (hasQ 7) 121 = false by decide +kernel))
  have zd : d = (0, (0, ())) := defEq (fldq_no hs.f100 (show inB (hasQ 7) 100 = false by decide +kernel))
  have zr : r = [] := len0 (fldq_no hs.f114 (show inB (hasQ 7) 114 = false by decide +kernel))
  have zg : g = [] := len0 (fldq_no hs.f103 (show inB (hasQ 7) 103 = false by decide +kernel))
  have zn : nu = 0 := beq_iff_eq.1 (fldq_no hs.f110 (show inB (hasQ 7) 110 = false by decide +kernel))
  have zN : ns = [] := len0 (fldq_no hs.f78 (show inB (hasQ 7) 78 = false by decide +kernel))
  have za : af = (⟨#[]⟩ : ByteArray) := eqS_eq' (fldq_no hs.f97 (show inB (hasQ 7) 97 = false by decide +kernel))
  have zp : pr = (⟨#[]⟩ : ByteArray) := eqS_eq' (fldq_no hs.f112 (show inB (hasQ 7) 112 = false by decide +kernel))
  have zm : ma = (⟨#[]⟩ : ByteArray) := eqS_eq' (fldq_no hs.f109 (show inB (hasQ 7) 109 = false by decide +kernel))
  have zf : fr = spotZ := spotEq (fldq_no hs.f102 (show inB (hasQ 7) 102 = false by decide +kernel))
  have zx : mx = 0 := beq_iff_eq.1 (fldq_no hs.f120 (show inB (hasQ 7) 120 = false by decide +kernel))
  rw [eP_7] at hb ⊢
  try simp only [List.append_assoc] at hb ⊢
  rw [F_wire_reader_fields.e0]
  simp only [F_wire_reader_fields.e1, F_wire_reader_fields.e2, F_wire_reader_fields.e3, F_wire_reader_version.e0, F_wire_reader_key.e0, F_wire_reader_list.e0, F_wire_reader_list.e1, hide_n, Int.reduceBEq, bIf_t, bIf_f, bnd_bnd, bnd_s]
  rw [(rText hn hn2).enc _ _ (show y.size ≤ 16384 by have h200 : y.size ≤ 200 := keyB_len gk; omega) hb]
  try simp only [bnd_bnd, bnd_s, bIf_t, bIf_f, Int.reduceBEq]
  replace hb := BB_right hb
  rw [(rNum hn hn2).enc _ _ hr.i hb]
  try simp only [bnd_bnd, bnd_s, bIf_t, bIf_f, Int.reduceBEq]
  rw [zB, zt, zl, zy, zd, zr, zg, zn, zN, za, zp, zm, zf, zx]
end Go.Proofs.YtcpkhpboemfglaaGreatDoor

namespace Go.Proofs.YtcpkhpboemfglaaGreatDoor
open Go Go.Va Go.Proofs
theorem VI_of {n : Nat} {v : Ver} (h : bdVer n v) : VI n v := ⟨h.b, h.id, h.md, h.bl, h.lk, h.dy⟩
theorem VI_z {n : Nat} (h : 0 < n) : VI n verZ := ⟨VBz h, U64_0, I64_0, U64_0, I64_0, BY_zero 32⟩
end Go.Proofs.YtcpkhpboemfglaaGreatDoor

namespace Go.Proofs.YtcpkhpboemfglaaGreatDoor
open Go Go.Va Go.Proofs
end Go.Proofs.YtcpkhpboemfglaaGreatDoor

namespace Go.Proofs.YtcpkhpboemfglaaGreatDoor
open Go Go.Va Go.Proofs
abbrev qA : Q := (7, (⟨#[109, 101]⟩ : ByteArray), (⟨#[97, 98, 99]⟩ : ByteArray), (⟨#[107]⟩ : ByteArray), 0, [], [], lockZ, false, (0, (0, ())), [], [], 0, [], (⟨#[]⟩ : ByteArray), (⟨#[]⟩ : ByteArray), (⟨#[]⟩ : ByteArray), spotZ, 0, ())
theorem qA_good : goodQ qA = true := by decide +kernel
theorem qA_enc : encQ qA = [7, 2, 109, 101, 3, 97, 98, 99, 1, 107, 0] := by decide +kernel
theorem bdQ_small {n : Nat} (hn : 300 ≤ n) {k : Int} {w b y : ByteArray} (hw : w.size < n) (hb : b.size < n) (hy : y.size < n) : bdQ n (k, w, b, y, 0, [], [], lockZ, false, (0, (0, ())), [], [], 0, [], (⟨#[]⟩ : ByteArray), (⟨#[]⟩ : ByteArray), (⟨#[]⟩ : ByteArray), spotZ, 0, ()) := by
  have h0 : 0 < n := by omega
  exact mkQ hw hb hy U64_0 ⟨h0, BY_nil⟩ ⟨h0, by intro t ht; exact nomatch ht⟩ I64_0 ⟨h0, by intro t ht; exact nomatch ht⟩ ⟨h0, by intro t ht; exact nomatch ht⟩ ⟨Nat.zero_le 16, by intro t ht; exact nomatch ht⟩ h0 h0 h0 h0 h0 U64_0 hn
end Go.Proofs.YtcpkhpboemfglaaGreatDoor

namespace Go.Proofs.YtcpkhpboemfglaaGreatDoor
open Go Go.Va Go.Proofs
theorem RI_err {n : Nat} (h : 0 < n) (e : Int) : RI n (errRP e) := ⟨⟨h, VBz h, h, (fun x hx => nomatch hx), h, h⟩, U64_0, VI_z h, (fun x hx => nomatch hx), (fun x hx => nomatch hx), BY_nil⟩
theorem qA_bd {n : Nat} (hn : 300 ≤ n) : bdQ n qA := bdQ_small hn (by change 2 < n; omega) (by change 3 < n; omega) (by change 1 < n; omega)
theorem askT {n : Nat} (hn : 300 ≤ n) (hn2 : n ≤ 536870912) : F_wire_Ask.f n qA = some (encQ qA, 0, ()) := by
  have hx := qA_bd hn
  have h1 : F_acts_Good.f n qA = some (goodQ qA, ()) := good_7 hn hn2 _ _ _ _ _ _ _ _ _ _ _ _ _ _ _ _ _ _ _ hx.1
  have hl : (encQ qA).length = 11 := by rw [qA_enc]; rfl
  have hs : encQ qA = eW 7 ++ (eT ⟨#[109, 101]⟩ ++ (eT ⟨#[97, 98, 99]⟩ ++ eP qA)) := rfl
  rw [hs] at hl ⊢
  simp only [List.length_append] at hl
  rw [F_wire_Ask.e0, h1, bnd_some, qA_good, Bool.not_true, bIf_false, F_entry_NewWriter.e0, F_pack_New.e0, bnd_some, bnd_some]
  try dsimp only
  rw [wW hn [] () (by rw [List.length_nil]; omega), bnd_some]
  try dsimp only
  rw [wText hn _ () (by simp only [List.length_append, List.length_nil]; omega), bnd_some]
  try dsimp only
  rw [hide_eq, show ((7 : Int) != 21) = true from rfl, bIf_true, hide_eq, show ((7 : Int) != 22) = true from rfl, F_wire_Ask.e1, bIf_true]
  try dsimp only
  rw [wText hn _ () (by simp only [List.length_append, List.length_nil]; omega), bnd_some, F_wire_Ask.e2]
  try dsimp only
  have h2 : ∀ (w : List Int), w.length + (eP qA).length ≤ 70368744177664 → F_wire_writer_fields.f n (w, ()) qA = some ((w ++ eP qA, ()), ()) := fun w hw => wf_7 hn hn2 w () _ _ _ _ _ _ _ _ _ _ _ _ _ _ _ _ _ _ _ hx.1 hx.2.1 hw
  rw [h2 _ (by simp only [List.length_append, List.length_nil]; omega), bnd_some]
  try dsimp only
  rw [wOut () (by simp only [List.length_append, List.length_nil]; omega), bnd_some]
  simp only [List.nil_append, List.append_assoc]
end Go.Proofs.YtcpkhpboemfglaaGreatDoor

namespace Go.Proofs.YtcpkhpboemfglaaGreatDoor
open Go Go.Va Go.Proofs
theorem askedT {n : Nat} (hn : 300 ≤ n) (hn2 : n ≤ 536870912) : F_wire_Asked.f n (encQ qA) = some (qA, 0, ()) := by
  have hx := qA_bd hn
  have hb : BB n (encQ qA) := by rw [qA_enc]; exact ⟨by change 11 < n; omega, by decide⟩
  have hlen := hb.len
  have hb2 := hb
  rw [F_wire_Asked.e0, F_entry_NewReader.e0, F_pack_Read.e0, clone_byte (by omega), bnd_some, bnd_some, bnd_some]
  try dsimp only
  have e1 : encQ qA = eW 7 ++ (eT ⟨#[109, 101]⟩ ++ (eT ⟨#[97, 98, 99]⟩ ++ (eP qA ++ []))) := by rw [List.append_nil]; rfl
  rw [e1] at hb2
  have h1 := (rSmall hn hn2).enc 7 _ ⟨by omega, by omega⟩ hb2
  rw [← e1] at h1
  rw [h1, bnd_some]
  try dsimp only
  replace hb2 := BB_right hb2
  rw [(rText hn hn2).enc _ _ (by decide) hb2, bnd_some, hide_eq, hide_eq]
  try dsimp only
  replace hb2 := BB_right hb2
  rw [show ((7 : Int) != 21) = true from rfl, bIf_true, show ((7 : Int) != 22) = true from rfl, F_wire_Asked.e1, bIf_true, (rText hn hn2).enc _ _ (by decide) hb2, bnd_some]
  replace hb2 := BB_right hb2
  rw [F_wire_Asked.e2]
  have h3 : F_wire_reader_fields.f n (eP qA ++ [], 0, ()) (hdQ 7 ⟨#[109, 101]⟩ ⟨#[97, 98, 99]⟩) = some (([], 0, ()), qA, ()) := qJ_enc_7 hn hn2 _ _ _ _ _ _ _ _ _ _ _ _ _ _ _ _ _ _ _ (sndQ_of qA_good) hx.2.1 hx.2.2 [] hb2
  change (bnd (F_wire_reader_fields.f n (eP qA ++ [], 0, ()) (hdQ 7 ⟨#[109, 101]⟩ ⟨#[97, 98, 99]⟩)) _) = _
  obtain ⟨r', h4⟩ := rEnd hn hn2 [] 0
  rw [h3, bnd_some]
  try dsimp only
  rw [h4, bnd_some, hide_eq]
  change (bIf ((0 : Int) != 0) _ (bnd (F_wire_Ask.f n qA) _)) = _
  rw [show ((0 : Int) != 0) = false from rfl, bIf_false]
  rw [askT hn hn2, bnd_some, hide_eq]
  try dsimp only
  rw [show ((0 : Int) != 0) = false from rfl, bIf_false, F_bytes_Equal.e0, bnd_some, hide_eq, eqS_self]
  try dsimp only
  rw [F_wire_Asked.e3, Bool.not_true, bIf_false, F_wire_Asked.e4]
theorem tellT : tellS (errRP 7) = ([7], 0) := by
  unfold tellS
  rw [if_pos (by decide +kernel)]
  exact congrArg (fun x => (x, (0 : Int))) (show encRP (errRP 7) = [7] by decide +kernel)
theorem awakeR {n : Nat} (hn : 300 ≤ n) (hn2 : n ≤ 536870912) : F_law26_awake.f n = some (true, ()) := by
  have ht := wire_Tell hn hn2 (RI_err (n := n) (by omega) 7)
  rw [tellT] at ht
  rw [F_law26_awake.e0]
  change (bnd (F_wire_Ask.f n qA) fun u1 => bnd (F_wire_Asked.f n u1.1) fun u2 => bnd (F_wire_Tell.f n (errRP 7)) _) = _
  rw [askT hn hn2, bnd_some]
  dsimp only
  rw [askedT hn hn2, bnd_some, ht, bnd_some, qA_enc]
  simp only [hide_n]
  rw [show ((0 : Int) == 0) = true from rfl, bIf_true, bIf_true, bIf_true, show eqS (bytesOf [7, 2, 109, 101, 3, 97, 98, 99, 1, 107, 0]) ⟨#[7, 2, 109, 101, 3, 97, 98, 99, 1, 107, 0]⟩ = true by decide +kernel, bIf_true, show eqS (⟨#[107]⟩ : ByteArray) ⟨#[107]⟩ = true by decide +kernel, bIf_true, show eqS (bytesOf [7]) ⟨#[7]⟩ = true by decide +kernel]
theorem lawTells {n : Nat} (hn : 300000 ≤ n) (hn2 : n ≤ 536870912) {r x : RP} (hr : RI n r) : F_law26_WireTells.f n r x = some (true, ()) := by
  rw [F_law26_WireTells.e0, wire_Tell (by omega) hn2 hr, bnd_some, ref26_Tell (by omega) hn2 hr, bnd_some, awakeR (by omega) hn2, bnd_some, bIf_true]
  simp only [hide_n]
  rw [eqS_self, bIf_true, beq_self_eq_true, bIf_true, wire_Alike hn2 hr.b, bnd_some, ref24_Alike hn2 hr.b, bnd_some, beq_self_eq_true]
end Go.Proofs.YtcpkhpboemfglaaGreatDoor

namespace Go.Proofs.YtcpkhpboemfglaaGreatDoor
open Go Go.Va Go.Proofs Go.ChangeShapes Go.WideShapes Go.ChangeAt Go.RowKit
theorem vol_Rw (x : Row) : vol T_api_Row x = x.1.size + 1 + (1 + (vol T_api_Version x.2.2.1 + (1 + 0))) := rfl
theorem vol_RP (r : RP) : vol T_api_Reply r = 1 + (1 + (((r.2.2.1.map (vol (.int .u8))).sum + 1) + (vol T_api_Version r.2.2.2.1 + (((r.2.2.2.2.1.map (vol T_api_Row)).sum + 1) + (1 + (((r.2.2.2.2.2.2.1.map (vol (.int .i64))).sum + 1) + (((r.2.2.2.2.2.2.2.1.map (vol .str)).sum + 1) + 0))))))) := rfl
theorem Wf_RP {r : RP} (hw : Wf T_api_Reply r) : Wf (.int .i64) r.1 ∧ Wf (.int .u64) r.2.1 ∧ Wf (.slice (.int .u8)) r.2.2.1 ∧ Wf T_api_Version r.2.2.2.1 ∧ Wf (.slice T_api_Row) r.2.2.2.2.1 ∧ Wf .bool r.2.2.2.2.2.1 ∧ Wf (.slice (.int .i64)) r.2.2.2.2.2.2.1 ∧ Wf (.slice .str) r.2.2.2.2.2.2.2.1 ∧ True := hw
theorem R_ofW {n : Nat} {r : RP} (hw : Wf T_api_Reply r) (h : vol T_api_Reply r < n) : RI n r := by
  obtain ⟨w1, w2, w3, w4, w5, w6, w7, w8, w9⟩ := Wf_RP hw
  rw [vol_RP] at h
  have hv : vol T_api_Version r.2.2.2.1 < n := by omega
  have l1 := vol_len (e := T_api_Row) (l := r.2.2.2.2.1) (fun x _ => by rw [vol_Rw]; omega)
  have l2 := vol_len (e := .int .u8) (l := r.2.2.1) (fun x _ => Nat.le_refl 1)
  have l3 := vol_len (e := .int .i64) (l := r.2.2.2.2.2.2.1) (fun x _ => Nat.le_refl 1)
  have l4 := vol_len (e := .str) (l := r.2.2.2.2.2.2.2.1) (fun x _ => Nat.le_add_left 1 _)
  have hV := VI_of (V_ofW w4 hv)
  have hR : ∀ x ∈ r.2.2.2.2.1, x.1.size < n ∧ VI n x.2.2.1 := fun x hx => by
    have h1 := vol_mem (e := T_api_Row) hx
    rw [vol_Rw] at h1
    have w := (w5.2 x hx).2.2.1
    exact ⟨by omega, VI_of (V_ofW w (by omega))⟩
  exact ⟨⟨by omega, hV.b, by omega, fun x hx => ⟨(hR x hx).1, (hR x hx).2.b⟩, by omega, by omega⟩, u64_of w2, hV, hR, fun x hx => i64_of (w7.2 x hx), fun x hx => u8_of (w3.2 x hx)⟩
set_option maxRecDepth 100000 in
def zR : Array Value := #[Value.int IntKind.i64 0, Value.int IntKind.u64 0, Value.slice none 0 0, Value.int IntKind.u64 0, Value.bool false, Value.int IntKind.i64 0, Value.int IntKind.u64 0, Value.int IntKind.u8 0, Value.int IntKind.u8 0, Value.int IntKind.u8 0, Value.int IntKind.u8 0, Value.int IntKind.u8 0, Value.int IntKind.u8 0, Value.int IntKind.u8 0, Value.int IntKind.u8 0, Value.int IntKind.u8 0, Value.int IntKind.u8 0, Value.int IntKind.u8 0, Value.int IntKind.u8 0, Value.int IntKind.u8 0, Value.int IntKind.u8 0, Value.int IntKind.u8 0, Value.int IntKind.u8 0, Value.int IntKind.u8 0, Value.int IntKind.u8 0, Value.int IntKind.u8 0, Value.int IntKind.u8 0, Value.int IntKind.u8 0, Value.int IntKind.u8 0, Value.int IntKind.u8 0, Value.int IntKind.u8 0, Value.int IntKind.u8 0, Value.int IntKind.u8 0, Value.int IntKind.u8 0, Value.int IntKind.u8 0, Value.int IntKind.u8 0, Value.int IntKind.u8 0, Value.int IntKind.u8 0, Value.int IntKind.u8 0, Value.int IntKind.i64 0, Value.int IntKind.i64 0, Value.int IntKind.i64 0, Value.bool false, Value.slice none 0 0, Value.slice none 0 0, Value.bool false, Value.slice none 0 0, Value.slice none 0 0]
def dR {H : Type} : DataW H := .agg [.lit (.int .i64 0), .lit (.int .u64 0), .nil, .agg [.lit (.int .u64 0), .lit (.bool false), .lit (.int .i64 0), .lit (.int .u64 0), .agg [.lit (.int .u8 0), .lit (.int .u8 0), .lit (.int .u8 0), .lit (.int .u8 0), .lit (.int .u8 0), .lit (.int .u8 0), .lit (.int .u8 0), .lit (.int .u8 0), .lit (.int .u8 0), .lit (.int .u8 0), .lit (.int .u8 0), .lit (.int .u8 0), .lit (.int .u8 0), .lit (.int .u8 0), .lit (.int .u8 0), .lit (.int .u8 0), .lit (.int .u8 0), .lit (.int .u8 0), .lit (.int .u8 0), .lit (.int .u8 0), .lit (.int .u8 0), .lit (.int .u8 0), .lit (.int .u8 0), .lit (.int .u8 0), .lit (.int .u8 0), .lit (.int .u8 0), .lit (.int .u8 0), .lit (.int .u8 0), .lit (.int .u8 0), .lit (.int .u8 0), .lit (.int .u8 0), .lit (.int .u8 0)], .lit (.int .i64 0), .agg [.lit (.int .i64 0), .lit (.int .i64 0), .lit (.bool false)], .nil], .nil, .lit (.bool false), .nil, .nil]
end Go.Proofs.YtcpkhpboemfglaaGreatDoor

