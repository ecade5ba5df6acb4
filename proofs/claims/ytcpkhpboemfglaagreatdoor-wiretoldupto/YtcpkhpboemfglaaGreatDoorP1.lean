/-
  The plain laws.
-/
import Derived.Test.YtcpkhpboemfglaaGreatDoorP0
import Derived.Test.YtcpkhpboemfglaaGreatDoorF1
import Derived.Test.YtcpkhpboemfglaaGreatDoorF0
set_option linter.unusedVariables false
set_option linter.unusedSimpArgs false
namespace Go.Proofs.YtcpkhpboemfglaaGreatDoor
open Go Go.Va Go.Proofs
def eP (e : Q) : List Int :=
  if e.1 = 1 ∨ e.1 = 3 then eDef e.2.2.2.2.2.2.2.2.2.1 else if e.1 = 4 then eRules e.2.2.2.2.2.2.2.2.2.2.1 else if e.1 = 5 then eGrants e.2.2.2.2.2.2.2.2.2.2.2.1 else if e.1 = 6 then eT e.2.2.2.1 ++ (eT (bytesOf e.2.2.2.2.2.1) ++ (eTags e.2.2.2.2.2.2.1 ++ (eLock e.2.2.2.2.2.2.2.1))) else if e.1 = 7 ∨ e.1 = 8 then eT e.2.2.2.1 ++ (eN e.2.2.2.2.1) else if e.1 = 9 then eT e.2.2.2.1 else if e.1 = 10 then eT e.2.2.2.1 ++ (eN e.2.2.2.2.1 ++ (eF e.2.2.2.2.2.2.2.2.1)) else if e.1 = 11 then eT e.2.2.2.1 ++ (eN e.2.2.2.2.1 ++ (eLock e.2.2.2.2.2.2.2.1 ++ (eF e.2.2.2.2.2.2.2.2.1))) else if e.1 = 12 then eT e.2.2.2.1 ++ (eN e.2.2.2.2.1 ++ (eLock e.2.2.2.2.2.2.2.1)) else if e.1 = 13 then eT e.2.2.2.1 ++ (eN e.2.2.2.2.1 ++ (eTags e.2.2.2.2.2.2.1)) else if e.1 = 14 then eT e.2.2.2.2.2.2.2.2.2.2.2.2.2.2.2.1 ++ (eT e.2.2.2.2.2.2.2.2.2.2.2.2.2.2.2.2.1 ++ (eT e.2.2.2.2.2.2.2.2.2.2.2.2.2.2.1 ++ (eW e.2.2.2.2.2.2.2.2.2.2.2.2.2.2.2.2.2.2.1))) else if e.1 = 15 then eT e.2.2.2.2.2.2.2.2.2.2.2.2.2.2.2.1 ++ (eT e.2.2.2.2.2.2.2.2.2.2.2.2.2.2.2.2.2.1.2.1 ++ (eN e.2.2.2.2.2.2.2.2.2.2.2.2.2.2.2.2.2.1.2.2.1 ++ (eW e.2.2.2.2.2.2.2.2.2.2.2.2.2.2.2.2.2.2.1))) else if e.1 = 16 then eT e.2.2.2.1 ++ (eTags e.2.2.2.2.2.2.1) else if e.1 = 17 then eN e.2.2.2.2.1 ++ (eW e.2.2.2.2.2.2.2.2.2.2.2.2.1 ++ (eT (bytesOf e.2.2.2.2.2.1))) else if e.1 = 18 then eN e.2.2.2.2.1 ++ (eW ((e.2.2.2.2.2.2.2.2.2.2.2.2.2.1.length : Nat) : Int) ++ (e.2.2.2.2.2.2.2.2.2.2.2.2.2.1.flatMap eI)) else if e.1 = 19 then eN e.2.2.2.2.1 else if e.1 = 20 then eT e.2.2.2.1 ++ (eT e.2.2.2.2.2.2.2.2.2.2.2.2.2.2.2.2.2.1.1 ++ (eT e.2.2.2.2.2.2.2.2.2.2.2.2.2.2.2.2.2.1.2.1 ++ (eN e.2.2.2.2.2.2.2.2.2.2.2.2.2.2.2.2.2.1.2.2.1))) else []
structure QR (e : Q) : Prop where
  i : U64 e.2.2.2.2.1
  l : I64 e.2.2.2.2.2.2.2.1.2.1
  fi : U64 e.2.2.2.2.2.2.2.2.2.2.2.2.2.2.2.2.2.1.2.2.1
  ns : ∀ x ∈ e.2.2.2.2.2.2.2.2.2.2.2.2.2.1, I64 x
theorem eP_1 (w : ByteArray) (b : ByteArray) (y : ByteArray) (i : Int) (bo : List Int) (tg : List D_api_Tag) (l : D_api_Lock) (q : Bool) (d : D_api_Default) (r : List D_api_Rule) (g : List D_api_Grant) (nu : Int) (ns : List Int) (af : ByteArray) (pr : ByteArray) (ma : ByteArray) (fr : D_api_Spot) (mx : Int) (u : Unit) : eP (1, w, b, y, i, bo, tg, l, q, d, r, g, nu, ns, af, pr, ma, fr, mx, u) = eDef d := rfl
theorem eP_2 (w : ByteArray) (b : ByteArray) (y : ByteArray) (i : Int) (bo : List Int) (tg : List D_api_Tag) (l : D_api_Lock) (q : Bool) (d : D_api_Default) (r : List D_api_Rule) (g : List D_api_Grant) (nu : Int) (ns : List Int) (af : ByteArray) (pr : ByteArray) (ma : ByteArray) (fr : D_api_Spot) (mx : Int) (u : Unit) : eP (2, w, b, y, i, bo, tg, l, q, d, r, g, nu, ns, af, pr, ma, fr, mx, u) = [] := rfl
theorem eP_3 (w : ByteArray) (b : ByteArray) (y : ByteArray) (i : Int) (bo : List Int) (tg : List D_api_Tag) (l : D_api_Lock) (q : Bool) (d : D_api_Default) (r : List D_api_Rule) (g : List D_api_Grant) (nu : Int) (ns : List Int) (af : ByteArray) (pr : ByteArray) (ma : ByteArray) (fr : D_api_Spot) (mx : Int) (u : Unit) : eP (3, w, b, y, i, bo, tg, l, q, d, r, g, nu, ns, af, pr, ma, fr, mx, u) = eDef d := rfl
theorem eP_4 (w : ByteArray) (b : ByteArray) (y : ByteArray) (i : Int) (bo : List Int) (tg : List D_api_Tag) (l : D_api_Lock) (q : Bool) (d : D_api_Default) (r : List D_api_Rule) (g : List D_api_Grant) (nu : Int) (ns : List Int) (af : ByteArray) (pr : ByteArray) (ma : ByteArray) (fr : D_api_Spot) (mx : Int) (u : Unit) : eP (4, w, b, y, i, bo, tg, l, q, d, r, g, nu, ns, af, pr, ma, fr, mx, u) = eRules r := rfl
theorem eP_5 (w : ByteArray) (b : ByteArray) (y : ByteArray) (i : Int) (bo : List Int) (tg : List D_api_Tag) (l : D_api_Lock) (q : Bool) (d : D_api_Default) (r : List D_api_Rule) (g : List D_api_Grant) (nu : Int) (ns : List Int) (af : ByteArray) (pr : ByteArray) (ma : ByteArray) (fr : D_api_Spot) (mx : Int) (u : Unit) : eP (5, w, b, y, i, bo, tg, l, q, d, r, g, nu, ns, af, pr, ma, fr, mx, u) = eGrants g := rfl
theorem eP_6 (w : ByteArray) (b : ByteArray) (y : ByteArray) (i : Int) (bo : List Int) (tg : List D_api_Tag) (l : D_api_Lock) (q : Bool) (d : D_api_Default) (r : List D_api_Rule) (g : List D_api_Grant) (nu : Int) (ns : List Int) (af : ByteArray) (pr : ByteArray) (ma : ByteArray) (fr : D_api_Spot) (mx : Int) (u : Unit) : eP (6, w, b, y, i, bo, tg, l, q, d, r, g, nu, ns, af, pr, ma, fr, mx, u) = eT y ++ (eT (bytesOf bo) ++ (eTags tg ++ (eLock l))) := rfl
theorem eP_7 (w : ByteArray) (b : ByteArray) (y : ByteArray) (i : Int) (bo : List Int) (tg : List D_api_Tag) (l : D_api_Lock) (q : Bool) (d : D_api_Default) (r : List D_api_Rule) (g : List D_api_Grant) (nu : Int) (ns : List Int) (af : ByteArray) (pr : ByteArray) (ma : ByteArray) (fr : D_api_Spot) (mx : Int) (u : Unit) : eP (7, w, b, y, i, bo, tg, l, q, d, r, g, nu, ns, af, pr, ma, fr, mx, u) = eT y ++ (eN i) := rfl
theorem eP_8 (w : ByteArray) (b : ByteArray) (y : ByteArray) (i : Int) (bo : List Int) (tg : List D_api_Tag) (l : D_api_Lock) (q : Bool) (d : D_api_Default) (r : List D_api_Rule) (g : List D_api_Grant) (nu : Int) (ns : List Int) (af : ByteArray) (pr : ByteArray) (ma : ByteArray) (fr : D_api_Spot) (mx : Int) (u : Unit) : eP (8, w, b, y, i, bo, tg, l, q, d, r, g, nu, ns, af, pr, ma, fr, mx, u) = eT y ++ (eN i) := rfl
theorem eP_9 (w : ByteArray) (b : ByteArray) (y : ByteArray) (i : Int) (bo : List Int) (tg : List D_api_Tag) (l : D_api_Lock) (q : Bool) (d : D_api_Default) (r : List D_api_Rule) (g : List D_api_Grant) (nu : Int) (ns : List Int) (af : ByteArray) (pr : ByteArray) (ma : ByteArray) (fr : D_api_Spot) (mx : Int) (u : Unit) : eP (9, w, b, y, i, bo, tg, l, q, d, r, g, nu, ns, af, pr, ma, fr, mx, u) = eT y := rfl
theorem eP_10 (w : ByteArray) (b : ByteArray) (y : ByteArray) (i : Int) (bo : List Int) (tg : List D_api_Tag) (l : D_api_Lock) (q : Bool) (d : D_api_Default) (r : List D_api_Rule) (g : List D_api_Grant) (nu : Int) (ns : List Int) (af : ByteArray) (pr : ByteArray) (ma : ByteArray) (fr : D_api_Spot) (mx : Int) (u : Unit) : eP (10, w, b, y, i, bo, tg, l, q, d, r, g, nu, ns, af, pr, ma, fr, mx, u) = eT y ++ (eN i ++ (eF q)) := rfl
theorem eP_11 (w : ByteArray) (b : ByteArray) (y : ByteArray) (i : Int) (bo : List Int) (tg : List D_api_Tag) (l : D_api_Lock) (q : Bool) (d : D_api_Default) (r : List D_api_Rule) (g : List D_api_Grant) (nu : Int) (ns : List Int) (af : ByteArray) (pr : ByteArray) (ma : ByteArray) (fr : D_api_Spot) (mx : Int) (u : Unit) : eP (11, w, b, y, i, bo, tg, l, q, d, r, g, nu, ns, af, pr, ma, fr, mx, u) = eT y ++ (eN i ++ (eLock l ++ (eF q))) := rfl
theorem eP_12 (w : ByteArray) (b : ByteArray) (y : ByteArray) (i : Int) (bo : List Int) (tg : List D_api_Tag) (l : D_api_Lock) (q : Bool) (d : D_api_Default) (r : List D_api_Rule) (g : List D_api_Grant) (nu : Int) (ns : List Int) (af : ByteArray) (pr : ByteArray) (ma : ByteArray) (fr : D_api_Spot) (mx : Int) (u : Unit) : eP (12, w, b, y, i, bo, tg, l, q, d, r, g, nu, ns, af, pr, ma, fr, mx, u) = eT y ++ (eN i ++ (eLock l)) := rfl
theorem eP_13 (w : ByteArray) (b : ByteArray) (y : ByteArray) (i : Int) (bo : List Int) (tg : List D_api_Tag) (l : D_api_Lock) (q : Bool) (d : D_api_Default) (r : List D_api_Rule) (g : List D_api_Grant) (nu : Int) (ns : List Int) (af : ByteArray) (pr : ByteArray) (ma : ByteArray) (fr : D_api_Spot) (mx : Int) (u : Unit) : eP (13, w, b, y, i, bo, tg, l, q, d, r, g, nu, ns, af, pr, ma, fr, mx, u) = eT y ++ (eN i ++ (eTags tg)) := rfl
theorem eP_14 (w : ByteArray) (b : ByteArray) (y : ByteArray) (i : Int) (bo : List Int) (tg : List D_api_Tag) (l : D_api_Lock) (q : Bool) (d : D_api_Default) (r : List D_api_Rule) (g : List D_api_Grant) (nu : Int) (ns : List Int) (af : ByteArray) (pr : ByteArray) (ma : ByteArray) (fr : D_api_Spot) (mx : Int) (u : Unit) : eP (14, w, b, y, i, bo, tg, l, q, d, r, g, nu, ns, af, pr, ma, fr, mx, u) = eT pr ++ (eT ma ++ (eT af ++ (eW mx))) := rfl
theorem eP_15 (w : ByteArray) (b : ByteArray) (y : ByteArray) (i : Int) (bo : List Int) (tg : List D_api_Tag) (l : D_api_Lock) (q : Bool) (d : D_api_Default) (r : List D_api_Rule) (g : List D_api_Grant) (nu : Int) (ns : List Int) (af : ByteArray) (pr : ByteArray) (ma : ByteArray) (fr : D_api_Spot) (mx : Int) (u : Unit) : eP (15, w, b, y, i, bo, tg, l, q, d, r, g, nu, ns, af, pr, ma, fr, mx, u) = eT pr ++ (eT fr.2.1 ++ (eN fr.2.2.1 ++ (eW mx))) := rfl
theorem eP_16 (w : ByteArray) (b : ByteArray) (y : ByteArray) (i : Int) (bo : List Int) (tg : List D_api_Tag) (l : D_api_Lock) (q : Bool) (d : D_api_Default) (r : List D_api_Rule) (g : List D_api_Grant) (nu : Int) (ns : List Int) (af : ByteArray) (pr : ByteArray) (ma : ByteArray) (fr : D_api_Spot) (mx : Int) (u : Unit) : eP (16, w, b, y, i, bo, tg, l, q, d, r, g, nu, ns, af, pr, ma, fr, mx, u) = eT y ++ (eTags tg) := rfl
theorem eP_17 (w : ByteArray) (b : ByteArray) (y : ByteArray) (i : Int) (bo : List Int) (tg : List D_api_Tag) (l : D_api_Lock) (q : Bool) (d : D_api_Default) (r : List D_api_Rule) (g : List D_api_Grant) (nu : Int) (ns : List Int) (af : ByteArray) (pr : ByteArray) (ma : ByteArray) (fr : D_api_Spot) (mx : Int) (u : Unit) : eP (17, w, b, y, i, bo, tg, l, q, d, r, g, nu, ns, af, pr, ma, fr, mx, u) = eN i ++ (eW nu ++ (eT (bytesOf bo))) := rfl
theorem eP_18 (w : ByteArray) (b : ByteArray) (y : ByteArray) (i : Int) (bo : List Int) (tg : List D_api_Tag) (l : D_api_Lock) (q : Bool) (d : D_api_Default) (r : List D_api_Rule) (g : List D_api_Grant) (nu : Int) (ns : List Int) (af : ByteArray) (pr : ByteArray) (ma : ByteArray) (fr : D_api_Spot) (mx : Int) (u : Unit) : eP (18, w, b, y, i, bo, tg, l, q, d, r, g, nu, ns, af, pr, ma, fr, mx, u) = eN i ++ (eW ((ns.length : Nat) : Int) ++ (ns.flatMap eI)) := rfl
theorem eP_19 (w : ByteArray) (b : ByteArray) (y : ByteArray) (i : Int) (bo : List Int) (tg : List D_api_Tag) (l : D_api_Lock) (q : Bool) (d : D_api_Default) (r : List D_api_Rule) (g : List D_api_Grant) (nu : Int) (ns : List Int) (af : ByteArray) (pr : ByteArray) (ma : ByteArray) (fr : D_api_Spot) (mx : Int) (u : Unit) : eP (19, w, b, y, i, bo, tg, l, q, d, r, g, nu, ns, af, pr, ma, fr, mx, u) = eN i := rfl
theorem eP_20 (w : ByteArray) (b : ByteArray) (y : ByteArray) (i : Int) (bo : List Int) (tg : List D_api_Tag) (l : D_api_Lock) (q : Bool) (d : D_api_Default) (r : List D_api_Rule) (g : List D_api_Grant) (nu : Int) (ns : List Int) (af : ByteArray) (pr : ByteArray) (ma : ByteArray) (fr : D_api_Spot) (mx : Int) (u : Unit) : eP (20, w, b, y, i, bo, tg, l, q, d, r, g, nu, ns, af, pr, ma, fr, mx, u) = eT y ++ (eT fr.1 ++ (eT fr.2.1 ++ (eN fr.2.2.1))) := rfl
theorem eP_21 (w : ByteArray) (b : ByteArray) (y : ByteArray) (i : Int) (bo : List Int) (tg : List D_api_Tag) (l : D_api_Lock) (q : Bool) (d : D_api_Default) (r : List D_api_Rule) (g : List D_api_Grant) (nu : Int) (ns : List Int) (af : ByteArray) (pr : ByteArray) (ma : ByteArray) (fr : D_api_Spot) (mx : Int) (u : Unit) : eP (21, w, b, y, i, bo, tg, l, q, d, r, g, nu, ns, af, pr, ma, fr, mx, u) = [] := rfl
theorem eP_22 (w : ByteArray) (b : ByteArray) (y : ByteArray) (i : Int) (bo : List Int) (tg : List D_api_Tag) (l : D_api_Lock) (q : Bool) (d : D_api_Default) (r : List D_api_Rule) (g : List D_api_Grant) (nu : Int) (ns : List Int) (af : ByteArray) (pr : ByteArray) (ma : ByteArray) (fr : D_api_Spot) (mx : Int) (u : Unit) : eP (22, w, b, y, i, bo, tg, l, q, d, r, g, nu, ns, af, pr, ma, fr, mx, u) = [] := rfl
theorem wKey {n : Nat} (hn : 300 ≤ n) (w : List Int) (u : Unit) {e : Q} (hi : U64 e.2.2.2.2.1) (h : w.length + ((eT e.2.2.2.1).length + (eN e.2.2.2.2.1).length) ≤ 70368744177664) : F_wire_writer_key.f n (w, u) e = some ((w ++ (eT e.2.2.2.1 ++ eN e.2.2.2.2.1), ()), ()) := by
  rw [F_wire_writer_key.e0]
  try dsimp only
  rw [wText hn _ () (by omega), bnd_some]
  try dsimp only
  rw [wNum hn _ () hi (by rw [List.length_append]; omega), bnd_some]
  simp only [List.append_assoc]
theorem wf_1 {n : Nat} (hn : 300 ≤ n) (hn2 : n ≤ 536870912) (w0 : List Int) (z : Unit) (w : ByteArray) (b : ByteArray) (y : ByteArray) (i : Int) (bo : List Int) (tg : List D_api_Tag) (l : D_api_Lock) (q : Bool) (d : D_api_Default) (r : List D_api_Rule) (g : List D_api_Grant) (nu : Int) (ns : List Int) (af : ByteArray) (pr : ByteArray) (ma : ByteArray) (fr : D_api_Spot) (mx : Int) (u : Unit) (he : QB n (1, w, b, y, i, bo, tg, l, q, d, r, g, nu, ns, af, pr, ma, fr, mx, u)) (hr : QR (1, w, b, y, i, bo, tg, l, q, d, r, g, nu, ns, af, pr, ma, fr, mx, u)) (h : w0.length + (eP (1, w, b, y, i, bo, tg, l, q, d, r, g, nu, ns, af, pr, ma, fr, mx, u)).length ≤ 70368744177664) :
    F_wire_writer_fields.f n (w0, z) (1, w, b, y, i, bo, tg, l, q, d, r, g, nu, ns, af, pr, ma, fr, mx, u) = some ((w0 ++ eP (1, w, b, y, i, bo, tg, l, q, d, r, g, nu, ns, af, pr, ma, fr, mx, u), ()), ()) := by
  rw [eP_1] at h ⊢
  try simp only [List.length_append] at h
  rw [F_wire_writer_fields.e0]
  simp only [F_wire_writer_fields.e1, F_wire_writer_fields.e2, hide_n, Int.reduceBEq, bIf_t, bIf_f]
  try dsimp only
  rw [wDef hn _ () (by first | omega | (simp only [List.length_append]; omega)), bnd_some]
  try dsimp only
  try simp only [List.append_assoc]
theorem wf_2 {n : Nat} (hn : 300 ≤ n) (hn2 : n ≤ 536870912) (w0 : List Int) (z : Unit) (w : ByteArray) (b : ByteArray) (y : ByteArray) (i : Int) (bo : List Int) (tg : List D_api_Tag) (l : D_api_Lock) (q : Bool) (d : D_api_Default) (r : List D_api_Rule) (g : List D_api_Grant) (nu : Int) (ns : List Int) (af : ByteArray) (pr : ByteArray) (ma : ByteArray) (fr : D_api_Spot) (mx : Int) (u : Unit) (he : QB n (2, w, b, y, i, bo, tg, l, q, d, r, g, nu, ns, af, pr, ma, fr, mx, u)) (hr : QR (2, w, b, y, i, bo, tg, l, q, d, r, g, nu, ns, af, pr, ma, fr, mx, u)) (h : w0.length + (eP (2, w, b, y, i, bo, tg, l, q, d, r, g, nu, ns, af, pr, ma, fr, mx, u)).length ≤ 70368744177664) :
    F_wire_writer_fields.f n (w0, z) (2, w, b, y, i, bo, tg, l, q, d, r, g, nu, ns, af, pr, ma, fr, mx, u) = some ((w0 ++ eP (2, w, b, y, i, bo, tg, l, q, d, r, g, nu, ns, af, pr, ma, fr, mx, u), ()), ()) := by
  rw [eP_2] at h ⊢
  try simp only [List.length_append] at h
  rw [F_wire_writer_fields.e0]
  simp only [F_wire_writer_fields.e1, F_wire_writer_fields.e2, hide_n, Int.reduceBEq, bIf_t, bIf_f]
  try dsimp only
  try rw [List.append_nil]
theorem wf_3 {n : Nat} (hn : 300 ≤ n) (hn2 : n ≤ 536870912) (w0 : List Int) (z : Unit) (w : ByteArray) (b : ByteArray) (y : ByteArray) (i : Int) (bo : List Int) (tg : List D_api_Tag) (l : D_api_Lock) (q : Bool) (d : D_api_Default) (r : List D_api_Rule) (g : List D_api_Grant) (nu : Int) (ns : List Int) (af : ByteArray) (pr : ByteArray) (ma : ByteArray) (fr : D_api_Spot) (mx : Int) (u : Unit) (he : QB n (3, w, b, y, i, bo, tg, l, q, d, r, g, nu, ns, af, pr, ma, fr, mx, u)) (hr : QR (3, w, b, y, i, bo, tg, l, q, d, r, g, nu, ns, af, pr, ma, fr, mx, u)) (h : w0.length + (eP (3, w, b, y, i, bo, tg, l, q, d, r, g, nu, ns, af, pr, ma, fr, mx, u)).length ≤ 70368744177664) :
    F_wire_writer_fields.f n (w0, z) (3, w, b, y, i, bo, tg, l, q, d, r, g, nu, ns, af, pr, ma, fr, mx, u) = some ((w0 ++ eP (3, w, b, y, i, bo, tg, l, q, d, r, g, nu, ns, af, pr, ma, fr, mx, u), ()), ()) := by
  rw [eP_3] at h ⊢
  try simp only [List.length_append] at h
  rw [F_wire_writer_fields.e0]
  simp only [F_wire_writer_fields.e1, F_wire_writer_fields.e2, hide_n, Int.reduceBEq, bIf_t, bIf_f]
  try dsimp only
  rw [wDef hn _ () (by first | omega | (simp only [List.length_append]; omega)), bnd_some]
  try dsimp only
  try simp only [List.append_assoc]
theorem wf_4 {n : Nat} (hn : 300 ≤ n) (hn2 : n ≤ 536870912) (w0 : List Int) (z : Unit) (w : ByteArray) (b : ByteArray) (y : ByteArray) (i : Int) (bo : List Int) (tg : List D_api_Tag) (l : D_api_Lock) (q : Bool) (d : D_api_Default) (r : List D_api_Rule) (g : List D_api_Grant) (nu : Int) (ns : List Int) (af : ByteArray) (pr : ByteArray) (ma : ByteArray) (fr : D_api_Spot) (mx : Int) (u : Unit) (he : QB n (4, w, b, y, i, bo, tg, l, q, d, r, g, nu, ns, af, pr, ma, fr, mx, u)) (hr : QR (4, w, b, y, i, bo, tg, l, q, d, r, g, nu, ns, af, pr, ma, fr, mx, u)) (h : w0.length + (eP (4, w, b, y, i, bo, tg, l, q, d, r, g, nu, ns, af, pr, ma, fr, mx, u)).length ≤ 70368744177664) :
    F_wire_writer_fields.f n (w0, z) (4, w, b, y, i, bo, tg, l, q, d, r, g, nu, ns, af, pr, ma, fr, mx, u) = some ((w0 ++ eP (4, w, b, y, i, bo, tg, l, q, d, r, g, nu, ns, af, pr, ma, fr, mx, u), ()), ()) := by
  rw [eP_4] at h ⊢
  try simp only [List.length_append] at h
  rw [F_wire_writer_fields.e0]
  simp only [F_wire_writer_fields.e1, F_wire_writer_fields.e2, hide_n, Int.reduceBEq, bIf_t, bIf_f]
  try dsimp only
  rw [wRules hn _ () he.r hn2 (by first | omega | (simp only [List.length_append]; omega)), bnd_some]
  try dsimp only
  try simp only [List.append_assoc]
theorem wf_5 {n : Nat} (hn : 300 ≤ n) (hn2 : n ≤ 536870912) (w0 : List Int) (z : Unit) (w : ByteArray) (b : ByteArray) (y : ByteArray) (i : Int) (bo : List Int) (tg : List D_api_Tag) (l : D_api_Lock) (q : Bool) (d : D_api_Default) (r : List D_api_Rule) (g : List D_api_Grant) (nu : Int) (ns : List Int) (af : ByteArray) (pr : ByteArray) (ma : ByteArray) (fr : D_api_Spot) (mx : Int) (u : Unit) (he : QB n (5, w, b, y, i, bo, tg, l, q, d, r, g, nu, ns, af, pr, ma, fr, mx, u)) (hr : QR (5, w, b, y, i, bo, tg, l, q, d, r, g, nu, ns, af, pr, ma, fr, mx, u)) (h : w0.length + (eP (5, w, b, y, i, bo, tg, l, q, d, r, g, nu, ns, af, pr, ma, fr, mx, u)).length ≤ 70368744177664) :
    F_wire_writer_fields.f n (w0, z) (5, w, b, y, i, bo, tg, l, q, d, r, g, nu, ns, af, pr, ma, fr, mx, u) = some ((w0 ++ eP (5, w, b, y, i, bo, tg, l, q, d, r, g, nu, ns, af, pr, ma, fr, mx, u), ()), ()) := by
  rw [eP_5] at h ⊢
  try simp only [List.length_append] at h
  rw [F_wire_writer_fields.e0]
  simp only [F_wire_writer_fields.e1, F_wire_writer_fields.e2, hide_n, Int.reduceBEq, bIf_t, bIf_f]
  try dsimp only
  rw [wGrants hn _ () he.g hn2 (by first | omega | (simp only [List.length_append]; omega)), bnd_some]
  try dsimp only
  try simp only [List.append_assoc]
theorem wf_6 {n : Nat} (hn : 300 ≤ n) (hn2 : n ≤ 536870912) (w0 : List Int) (z : Unit) (w : ByteArray) (b : ByteArray) (y : ByteArray) (i : Int) (bo : List Int) (tg : List D_api_Tag) (l : D_api_Lock) (q : Bool) (d : D_api_Default) (r : List D_api_Rule) (g : List D_api_Grant) (nu : Int) (ns : List Int) (af : ByteArray) (pr : ByteArray) (ma : ByteArray) (fr : D_api_Spot) (mx : Int) (u : Unit) (he : QB n (6, w, b, y, i, bo, tg, l, q, d, r, g, nu, ns, af, pr, ma, fr, mx, u)) (hr : QR (6, w, b, y, i, bo, tg, l, q, d, r, g, nu, ns, af, pr, ma, fr, mx, u)) (h : w0.length + (eP (6, w, b, y, i, bo, tg, l, q, d, r, g, nu, ns, af, pr, ma, fr, mx, u)).length ≤ 70368744177664) :
    F_wire_writer_fields.f n (w0, z) (6, w, b, y, i, bo, tg, l, q, d, r, g, nu, ns, af, pr, ma, fr, mx, u) = some ((w0 ++ eP (6, w, b, y, i, bo, tg, l, q, d, r, g, nu, ns, af, pr, ma, fr, mx, u), ()), ()) := by
  rw [eP_6] at h ⊢
  try simp only [List.length_append] at h
  rw [F_wire_writer_fields.e0]
  simp only [F_wire_writer_fields.e1, F_wire_writer_fields.e2, hide_n, Int.reduceBEq, bIf_t, bIf_f]
  try dsimp only
  rw [wText hn _ () (by first | omega | (simp only [List.length_append]; omega)), bnd_some]
  try dsimp only
  rw [wText hn _ () (by first | omega | (simp only [List.length_append]; omega)), bnd_some]
  try dsimp only
  rw [wTags hn _ () he.tg.1 hn2 (by first | omega | (simp only [List.length_append]; omega)), bnd_some]
  try dsimp only
  rw [wLock hn _ () hr.l (by first | omega | (simp only [List.length_append]; omega)), bnd_some]
  try dsimp only
  try simp only [List.append_assoc]
theorem wf_7 {n : Nat} (hn : 300 ≤ n) (hn2 : n ≤ 536870912) (w0 : List Int) (z : Unit) (w : ByteArray) (b : ByteArray) (y : ByteArray) (i : Int) (bo : List Int) (tg : List D_api_Tag) (l : D_api_Lock) (q : Bool) (d : D_api_Default) (r : List D_api_Rule) (g : List D_api_Grant) (nu : Int) (ns : List Int) (af : ByteArray) (pr : ByteArray) (ma : ByteArray) (fr : D_api_Spot) (mx : Int) (u : Unit) (he : QB n (7, w, b, y, i, bo, tg, l, q, d, r, g, nu, ns, af, pr, ma, fr, mx, u)) (hr : QR (7, w, b, y, i, bo, tg, l, q, d, r, g, nu, ns, af, pr, ma, fr, mx, u)) (h : w0.length + (eP (7, w, b, y, i, bo, tg, l, q, d, r, g, nu, ns, af, pr, ma, fr, mx, u)).length ≤ 70368744177664) :
    F_wire_writer_fields.f n (w0, z) (7, w, b, y, i, bo, tg, l, q, d, r, g, nu, ns, af, pr, ma, fr, mx, u) = some ((w0 ++ eP (7, w, b, y, i, bo, tg, l, q, d, r, g, nu, ns, af, pr, ma, fr, mx, u), ()), ()) := by
  rw [eP_7] at h ⊢
  try simp only [List.length_append] at h
  rw [F_wire_writer_fields.e0]
  simp only [F_wire_writer_fields.e1, F_wire_writer_fields.e2, hide_n, Int.reduceBEq, bIf_t, bIf_f]
  try dsimp only
  rw [wKey hn _ () (e := (7, w, b, y, i, bo, tg, l, q, d, r, g, nu, ns, af, pr, ma, fr, mx, u)) hr.i (by first | omega | (simp only [List.length_append]; omega)), bnd_some]
  try dsimp only
  try simp only [List.append_assoc]
theorem wf_8 {n : Nat} (hn : 300 ≤ n) (hn2 : n ≤ 536870912) (w0 : List Int) (z : Unit) (w : ByteArray) (b : ByteArray) (y : ByteArray) (i : Int) (bo : List Int) (tg : List D_api_Tag) (l : D_api_Lock) (q : Bool) (d : D_api_Default) (r : List D_api_Rule) (g : List D_api_Grant) (nu : Int) (ns : List Int) (af : ByteArray) (pr : ByteArray) (ma : ByteArray) (fr : D_api_Spot) (mx : Int) (u : Unit) (he : QB n (8, w, b, y, i, bo, tg, l, q, d, r, g, nu, ns, af, pr, ma, fr, mx, u)) (hr : QR (8, w, b, y, i, bo, tg, l, q, d, r, g, nu, ns, af, pr, ma, fr, mx, u)) (h : w0.length + (eP (8, w, b, y, i, bo, tg, l, q, d, r, g, nu, ns, af, pr, ma, fr, mx, u)).length ≤ 70368744177664) :
    F_wire_writer_fields.f n (w0, z) (8, w, b, y, i, bo, tg, l, q, d, r, g, nu, ns, af, pr, ma, fr, mx, u) = some ((w0 ++ eP (8, w, b, y, i, bo, tg, l, q, d, r, g, nu, ns, af, pr, ma, fr, mx, u), ()), ()) := by
  rw [eP_8] at h ⊢
  try simp only [List.length_append] at h
  rw [F_wire_writer_fields.e0]
  simp only [F_wire_writer_fields.e1, F_wire_writer_fields.e2, hide_n, Int.reduceBEq, bIf_t, bIf_f]
  try dsimp only
  rw [wKey hn _ () (e := (8, w, b, y, i, bo, tg, l, q, d, r, g, nu, ns, af, pr, ma, fr, mx, u)) hr.i (by first | omega | (simp only [List.length_append]; omega)), bnd_some]
  try dsimp only
  try simp only [List.append_assoc]
theorem wf_9 {n : Nat} (hn : 300 ≤ n) (hn2 : n ≤ 536870912) (w0 : List Int) (z : Unit) (w : ByteArray) (b : ByteArray) (y : ByteArray) (i : Int) (bo : List Int) (tg : List D_api_Tag) (l : D_api_Lock) (q : Bool) (d : D_api_Default) (r : List D_api_Rule) (g : List D_api_Grant) (nu : Int) (ns : List Int) (af : ByteArray) (pr : ByteArray) (ma : ByteArray) (fr : D_api_Spot) (mx : Int) (u : Unit) (he : QB n (9, w, b, y, i, bo, tg, l, q, d, r, g, nu, ns, af, pr, ma, fr, mx, u)) (hr : QR (9, w, b, y, i, bo, tg, l, q, d, r, g, nu, ns, af, pr, ma, fr, mx, u)) (h : w0.length + (eP (9, w, b, y, i, bo, tg, l, q, d, r, g, nu, ns, af, pr, ma, fr, mx, u)).length ≤ 70368744177664) :
    F_wire_writer_fields.f n (w0, z) (9, w, b, y, i, bo, tg, l, q, d, r, g, nu, ns, af, pr, ma, fr, mx, u) = some ((w0 ++ eP (9, w, b, y, i, bo, tg, l, q, d, r, g, nu, ns, af, pr, ma, fr, mx, u), ()), ()) := by
  rw [eP_9] at h ⊢
  try simp only [List.length_append] at h
  rw [F_wire_writer_fields.e0]
  simp only [F_wire_writer_fields.e1, F_wire_writer_fields.e2, hide_n, Int.reduceBEq, bIf_t, bIf_f]
  try dsimp only
  rw [wText hn _ () (by first | omega | (simp only [List.length_append]; omega)), bnd_some]
  try dsimp only
  try simp only [List.append_assoc]
theorem wf_10 {n : Nat} (hn : 300 ≤ n) (hn2 : n ≤ 536870912) (w0 : List Int) (z : Unit) (w : ByteArray) (b : ByteArray) (y : ByteArray) (i : Int) (bo : List Int) (tg : List D_api_Tag) (l : D_api_Lock) (q : Bool) (d : D_api_Default) (r : List D_api_Rule) (g : List D_api_Grant) (nu : Int) (ns : List Int) (af : ByteArray) (pr : ByteArray) (ma : ByteArray) (fr : D_api_Spot) (mx : Int) (u : Unit) (he : QB n (10, w, b, y, i, bo, tg, l, q, d, r, g, nu, ns, af, pr, ma, fr, mx, u)) (hr : QR (10, w, b, y, i, bo, tg, l, q, d, r, g, nu, ns, af, pr, ma, fr, mx, u)) (h : w0.length + (eP (10, w, b, y, i, bo, tg, l, q, d, r, g, nu, ns, af, pr, ma, fr, mx, u)).length ≤ 70368744177664) :
    F_wire_writer_fields.f n (w0, z) (10, w, b, y, i, bo, tg, l, q, d, r, g, nu, ns, af, pr, ma, fr, mx, u) = some ((w0 ++ eP (10, w, b, y, i, bo, tg, l, q, d, r, g, nu, ns, af, pr, ma, fr, mx, u), ()), ()) := by
  rw [eP_10] at h ⊢
  try simp only [List.length_append] at h
  rw [F_wire_writer_fields.e0]
  simp only [F_wire_writer_fields.e1, F_wire_writer_fields.e2, hide_n, Int.reduceBEq, bIf_t, bIf_f]
  try dsimp only
  rw [wKey hn _ () (e := (10, w, b, y, i, bo, tg, l, q, d, r, g, nu, ns, af, pr, ma, fr, mx, u)) hr.i (by first | omega | (simp only [List.length_append]; omega)), bnd_some]
  try dsimp only
  rw [wFlag _ () (by first | omega | (simp only [List.length_append]; omega)), bnd_some]
  try dsimp only
  try simp only [List.append_assoc]
theorem wf_11 {n : Nat} (hn : 300 ≤ n) (hn2 : n ≤ 536870912) (w0 : List Int) (z : Unit) (w : ByteArray) (b : ByteArray) (y : ByteArray) (i : Int) (bo : List Int) (tg : List D_api_Tag) (l : D_api_Lock) (q : Bool) (d : D_api_Default) (r : List D_api_Rule) (g : List D_api_Grant) (nu : Int) (ns : List Int) (af : ByteArray) (pr : ByteArray) (ma : ByteArray) (fr : D_api_Spot) (mx : Int) (u : Unit) (he : QB n (11, w, b, y, i, bo, tg, l, q, d, r, g, nu, ns, af, pr, ma, fr, mx, u)) (hr : QR (11, w, b, y, i, bo, tg, l, q, d, r, g, nu, ns, af, pr, ma, fr, mx, u)) (h : w0.length + (eP (11, w, b, y, i, bo, tg, l, q, d, r, g, nu, ns, af, pr, ma, fr, mx, u)).length ≤ 70368744177664) :
    F_wire_writer_fields.f n (w0, z) (11, w, b, y, i, bo, tg, l, q, d, r, g, nu, ns, af, pr, ma, fr, mx, u) = some ((w0 ++ eP (11, w, b, y, i, bo, tg, l, q, d, r, g, nu, ns, af, pr, ma, fr, mx, u), ()), ()) := by
  rw [eP_11] at h ⊢
  try simp only [List.length_append] at h
  rw [F_wire_writer_fields.e0]
  simp only [F_wire_writer_fields.e1, F_wire_writer_fields.e2, hide_n, Int.reduceBEq, bIf_t, bIf_f]
  try dsimp only
  rw [wKey hn _ () (e := (11, w, b, y, i, bo, tg, l, q, d, r, g, nu, ns, af, pr, ma, fr, mx, u)) hr.i (by first | omega | (simp only [List.length_append]; omega)), bnd_some]
  try dsimp only
  rw [wLock hn _ () hr.l (by first | omega | (simp only [List.length_append]; omega)), bnd_some]
  try dsimp only
  rw [wFlag _ () (by first | omega | (simp only [List.length_append]; omega)), bnd_some]
  try dsimp only
  try simp only [List.append_assoc]
theorem wf_12 {n : Nat} (hn : 300 ≤ n) (hn2 : n ≤ 536870912) (w0 : List Int) (z : Unit) (w : ByteArray) (b : ByteArray) (y : ByteArray) (i : Int) (bo : List Int) (tg : List D_api_Tag) (l : D_api_Lock) (q : Bool) (d : D_api_Default) (r : List D_api_Rule) (g : List D_api_Grant) (nu : Int) (ns : List Int) (af : ByteArray) (pr : ByteArray) (ma : ByteArray) (fr : D_api_Spot) (mx : Int) (u : Unit) (he : QB n (12, w, b, y, i, bo, tg, l, q, d, r, g, nu, ns, af, pr, ma, fr, mx, u)) (hr : QR (12, w, b, y, i, bo, tg, l, q, d, r, g, nu, ns, af, pr, ma, fr, mx, u)) (h : w0.length + (eP (12, w, b, y, i, bo, tg, l, q, d, r, g, nu, ns, af, pr, ma, fr, mx, u)).length ≤ 70368744177664) :
    F_wire_writer_fields.f n (w0, z) (12, w, b, y, i, bo, tg, l, q, d, r, g, nu, ns, af, pr, ma, fr, mx, u) = some ((w0 ++ eP (12, w, b, y, i, bo, tg, l, q, d, r, g, nu, ns, af, pr, ma, fr, mx, u), ()), ()) := by
  rw [eP_12] at h ⊢
  try simp only [List.length_append] at h
  rw [F_wire_writer_fields.e0]
  simp only [F_wire_writer_fields.e1, F_wire_writer_fields.e2, hide_n, Int.reduceBEq, bIf_t, bIf_f]
  try dsimp only
  rw [wKey hn _ () (e := (12, w, b, y, i, bo, tg, l, q, d, r, g, nu, ns, af, pr, ma, fr, mx, u)) hr.i (by first | omega | (simp only [List.length_append]; omega)), bnd_some]
  try dsimp only
  rw [wLock hn _ () hr.l (by first | omega | (simp only [List.length_append]; omega)), bnd_some]
  try dsimp only
  try simp only [List.append_assoc]
theorem wf_13 {n : Nat} (hn : 300 ≤ n) (hn2 : n ≤ 536870912) (w0 : List Int) (z : Unit) (w : ByteArray) (b : ByteArray) (y : ByteArray) (i : Int) (bo : List Int) (tg : List D_api_Tag) (l : D_api_Lock) (q : Bool) (d : D_api_Default) (r : List D_api_Rule) (g : List D_api_Grant) (nu : Int) (ns : List Int) (af : ByteArray) (pr : ByteArray) (ma : ByteArray) (fr : D_api_Spot) (mx : Int) (u : Unit) (he : QB n (13, w, b, y, i, bo, tg, l, q, d, r, g, nu, ns, af, pr, ma, fr, mx, u)) (hr : QR (13, w, b, y, i, bo, tg, l, q, d, r, g, nu, ns, af, pr, ma, fr, mx, u)) (h : w0.length + (eP (13, w, b, y, i, bo, tg, l, q, d, r, g, nu, ns, af, pr, ma, fr, mx, u)).length ≤ 70368744177664) :
    F_wire_writer_fields.f n (w0, z) (13, w, b, y, i, bo, tg, l, q, d, r, g, nu, ns, af, pr, ma, fr, mx, u) = some ((w0 ++ eP (13, w, b, y, i, bo, tg, l, q, d, r, g, nu, ns, af, pr, ma, fr, mx, u), ()), ()) := by
  rw [eP_13] at h ⊢
  try simp only [List.length_append] at h
  rw [F_wire_writer_fields.e0]
  simp only [F_wire_writer_fields.e1, F_wire_writer_fields.e2, hide_n, Int.reduceBEq, bIf_t, bIf_f]
  try dsimp only
  rw [wKey hn _ () (e := (13, w, b, y, i, bo, tg, l, q, d, r, g, nu, ns, af, pr, ma, fr, mx, u)) hr.i (by first | omega | (simp only [List.length_append]; omega)), bnd_some]
  try dsimp only
  rw [wTags hn _ () he.tg.1 hn2 (by first | omega | (simp only [List.length_append]; omega)), bnd_some]
  try dsimp only
  try simp only [List.append_assoc]
theorem wf_14 {n : Nat} (hn : 300 ≤ n) (hn2 : n ≤ 536870912) (w0 : List Int) (z : Unit) (w : ByteArray) (b : ByteArray) (y : ByteArray) (i : Int) (bo : List Int) (tg : List D_api_Tag) (l : D_api_Lock) (q : Bool) (d : D_api_Default) (r : List D_api_Rule) (g : List D_api_Grant) (nu : Int) (ns : List Int) (af : ByteArray) (pr : ByteArray) (ma : ByteArray) (fr : D_api_Spot) (mx : Int) (u : Unit) (he : QB n (14, w, b, y, i, bo, tg, l, q, d, r, g, nu, ns, af, pr, ma, fr, mx, u)) (hr : QR (14, w, b, y, i, bo, tg, l, q, d, r, g, nu, ns, af, pr, ma, fr, mx, u)) (h : w0.length + (eP (14, w, b, y, i, bo, tg, l, q, d, r, g, nu, ns, af, pr, ma, fr, mx, u)).length ≤ 70368744177664) :
    F_wire_writer_fields.f n (w0, z) (14, w, b, y, i, bo, tg, l, q, d, r, g, nu, ns, af, pr, ma, fr, mx, u) = some ((w0 ++ eP (14, w, b, y, i, bo, tg, l, q, d, r, g, nu, ns, af, pr, ma, fr, mx, u), ()), ()) := by
  rw [eP_14] at h ⊢
  try simp only [List.length_append] at h
  rw [F_wire_writer_fields.e0]
  simp only [F_wire_writer_fields.e1, F_wire_writer_fields.e2, hide_n, Int.reduceBEq, bIf_t, bIf_f]
  try dsimp only
  rw [wText hn _ () (by first | omega | (simp only [List.length_append]; omega)), bnd_some]
  try dsimp only
  rw [wText hn _ () (by first | omega | (simp only [List.length_append]; omega)), bnd_some]
  try dsimp only
  rw [wText hn _ () (by first | omega | (simp only [List.length_append]; omega)), bnd_some]
  try dsimp only
  rw [wW hn _ () (by first | omega | (simp only [List.length_append]; omega)), bnd_some]
  try dsimp only
  try simp only [List.append_assoc]
theorem wf_15 {n : Nat} (hn : 300 ≤ n) (hn2 : n ≤ 536870912) (w0 : List Int) (z : Unit) (w : ByteArray) (b : ByteArray) (y : ByteArray) (i : Int) (bo : List Int) (tg : List D_api_Tag) (l : D_api_Lock) (q : Bool) (d : D_api_Default) (r : List D_api_Rule) (g : List D_api_Grant) (nu : Int) (ns : List Int) (af : ByteArray) (pr : ByteArray) (ma : ByteArray) (fr : D_api_Spot) (mx : Int) (u : Unit) (he : QB n (15, w, b, y, i, bo, tg, l, q, d, r, g, nu, ns, af, pr, ma, fr, mx, u)) (hr : QR (15, w, b, y, i, bo, tg, l, q, d, r, g, nu, ns, af, pr, ma, fr, mx, u)) (h : w0.length + (eP (15, w, b, y, i, bo, tg, l, q, d, r, g, nu, ns, af, pr, ma, fr, mx, u)).length ≤ 70368744177664) :
    F_wire_writer_fields.f n (w0, z) (15, w, b, y, i, bo, tg, l, q, d, r, g, nu, ns, af, pr, ma, fr, mx, u) = some ((w0 ++ eP (15, w, b, y, i, bo, tg, l, q, d, r, g, nu, ns, af, pr, ma, fr, mx, u), ()), ()) := by
  rw [eP_15] at h ⊢
  try simp only [List.length_append] at h
  rw [F_wire_writer_fields.e0]
  simp only [F_wire_writer_fields.e1, F_wire_writer_fields.e2, hide_n, Int.reduceBEq, bIf_t, bIf_f]
  try dsimp only
  rw [wText hn _ () (by first | omega | (simp only [List.length_append]; omega)), bnd_some]
  try dsimp only
  rw [wText hn _ () (by first | omega | (simp only [List.length_append]; omega)), bnd_some]
  try dsimp only
  rw [wNum hn _ () hr.fi (by first | omega | (simp only [List.length_append]; omega)), bnd_some]
  try dsimp only
  rw [wW hn _ () (by first | omega | (simp only [List.length_append]; omega)), bnd_some]
  try dsimp only
  try simp only [List.append_assoc]
theorem wf_16 {n : Nat} (hn : 300 ≤ n) (hn2 : n ≤ 536870912) (w0 : List Int) (z : Unit) (w : ByteArray) (b : ByteArray) (y : ByteArray) (i : Int) (bo : List Int) (tg : List D_api_Tag) (l : D_api_Lock) (q : Bool) (d : D_api_Default) (r : List D_api_Rule) (g : List D_api_Grant) (nu : Int) (ns : List Int) (af : ByteArray) (pr : ByteArray) (ma : ByteArray) (fr : D_api_Spot) (mx : Int) (u : Unit) (he : QB n (16, w, b, y, i, bo, tg, l, q, d, r, g, nu, ns, af, pr, ma, fr, mx, u)) (hr : QR (16, w, b, y, i, bo, tg, l, q, d, r, g, nu, ns, af, pr, ma, fr, mx, u)) (h : w0.length + (eP (16, w, b, y, i, bo, tg, l, q, d, r, g, nu, ns, af, pr, ma, fr, mx, u)).length ≤ 70368744177664) :
    F_wire_writer_fields.f n (w0, z) (16, w, b, y, i, bo, tg, l, q, d, r, g, nu, ns, af, pr, ma, fr, mx, u) = some ((w0 ++ eP (16, w, b, y, i, bo, tg, l, q, d, r, g, nu, ns, af, pr, ma, fr, mx, u), ()), ()) := by
  rw [eP_16] at h ⊢
  try simp only [List.length_append] at h
  rw [F_wire_writer_fields.e0]
  simp only [F_wire_writer_fields.e1, F_wire_writer_fields.e2, hide_n, Int.reduceBEq, bIf_t, bIf_f]
  try dsimp only
  rw [wText hn _ () (by first | omega | (simp only [List.length_append]; omega)), bnd_some]
  try dsimp only
  rw [wTags hn _ () he.tg.1 hn2 (by first | omega | (simp only [List.length_append]; omega)), bnd_some]
  try dsimp only
  try simp only [List.append_assoc]
theorem wf_17 {n : Nat} (hn : 300 ≤ n) (hn2 : n ≤ 536870912) (w0 : List Int) (z : Unit) (w : ByteArray) (b : ByteArray) (y : ByteArray) (i : Int) (bo : List Int) (tg : List D_api_Tag) (l : D_api_Lock) (q : Bool) (d : D_api_Default) (r : List D_api_Rule) (g : List D_api_Grant) (nu : Int) (ns : List Int) (af : ByteArray) (pr : ByteArray) (ma : ByteArray) (fr : D_api_Spot) (mx : Int) (u : Unit) (he : QB n (17, w, b, y, i, bo, tg, l, q, d, r, g, nu, ns, af, pr, ma, fr, mx, u)) (hr : QR (17, w, b, y, i, bo, tg, l, q, d, r, g, nu, ns, af, pr, ma, fr, mx, u)) (h : w0.length + (eP (17, w, b, y, i, bo, tg, l, q, d, r, g, nu, ns, af, pr, ma, fr, mx, u)).length ≤ 70368744177664) :
    F_wire_writer_fields.f n (w0, z) (17, w, b, y, i, bo, tg, l, q, d, r, g, nu, ns, af, pr, ma, fr, mx, u) = some ((w0 ++ eP (17, w, b, y, i, bo, tg, l, q, d, r, g, nu, ns, af, pr, ma, fr, mx, u), ()), ()) := by
  rw [eP_17] at h ⊢
  try simp only [List.length_append] at h
  rw [F_wire_writer_fields.e0]
  simp only [F_wire_writer_fields.e1, F_wire_writer_fields.e2, hide_n, Int.reduceBEq, bIf_t, bIf_f]
  try dsimp only
  rw [wNum hn _ () hr.i (by first | omega | (simp only [List.length_append]; omega)), bnd_some]
  try dsimp only
  rw [wW hn _ () (by first | omega | (simp only [List.length_append]; omega)), bnd_some]
  try dsimp only
  rw [wText hn _ () (by first | omega | (simp only [List.length_append]; omega)), bnd_some]
  try dsimp only
  try simp only [List.append_assoc]
theorem wf_18 {n : Nat} (hn : 300 ≤ n) (hn2 : n ≤ 536870912) (w0 : List Int) (z : Unit) (w : ByteArray) (b : ByteArray) (y : ByteArray) (i : Int) (bo : List Int) (tg : List D_api_Tag) (l : D_api_Lock) (q : Bool) (d : D_api_Default) (r : List D_api_Rule) (g : List D_api_Grant) (nu : Int) (ns : List Int) (af : ByteArray) (pr : ByteArray) (ma : ByteArray) (fr : D_api_Spot) (mx : Int) (u : Unit) (he : QB n (18, w, b, y, i, bo, tg, l, q, d, r, g, nu, ns, af, pr, ma, fr, mx, u)) (hr : QR (18, w, b, y, i, bo, tg, l, q, d, r, g, nu, ns, af, pr, ma, fr, mx, u)) (h : w0.length + (eP (18, w, b, y, i, bo, tg, l, q, d, r, g, nu, ns, af, pr, ma, fr, mx, u)).length ≤ 70368744177664) :
    F_wire_writer_fields.f n (w0, z) (18, w, b, y, i, bo, tg, l, q, d, r, g, nu, ns, af, pr, ma, fr, mx, u) = some ((w0 ++ eP (18, w, b, y, i, bo, tg, l, q, d, r, g, nu, ns, af, pr, ma, fr, mx, u), ()), ()) := by
  rw [eP_18] at h ⊢
  try simp only [List.length_append] at h
  rw [F_wire_writer_fields.e0]
  simp only [F_wire_writer_fields.e1, F_wire_writer_fields.e2, hide_n, Int.reduceBEq, bIf_t, bIf_f]
  try dsimp only
  rw [wNum hn _ () hr.i (by first | omega | (simp only [List.length_append]; omega)), bnd_some]
  try dsimp only
  rw [wW hn _ () (by first | omega | (simp only [List.length_append]; omega)), bnd_some]
  try dsimp only
  have hlen : ns.length < n := he.ns
  have := app_loop (l := ns) (0 : Int) eI 70368744177664 (fun m k L => F_wire_writer_fields.J3 n m (ns, ((ns.length : Nat) : Int), k, (((), ()), ()), (L, ()), ())) (fun L => some ((L, ()), ()))
    (fun m k L hk hL => by
      have hx : I64 (ns.getD k 0) := hr.ns _ (getD_memA (d := 0) hk)
      try dsimp only
      rw [F_wire_writer_fields.e3, hide_eq, decide_eq_true (by omega), bIf_true, gIf_pos ⟨by omega, by omega⟩, Int.toNat_natCast, cast_up k (by omega)]
      try dsimp only
      rw [wInt hn _ () hx (by omega), bnd_some])
    (fun m L hL => by
      try dsimp only
      rw [F_wire_writer_fields.e3, hide_eq, decide_eq_false (by omega), bIf_false]) n 0 _ (by omega) (by omega) (show ((w0 ++ eN i) ++ eW ((ns.length : Nat) : Int)).length + ((ns.drop 0).flatMap eI).length ≤ 70368744177664 by rw [List.drop_zero]; simp only [List.length_append]; omega)
  try dsimp only at this
  rw [show ((0 : Nat) : Int) = 0 from rfl, List.drop_zero] at this
  rw [this]
  try simp only [List.append_assoc]
theorem wf_19 {n : Nat} (hn : 300 ≤ n) (hn2 : n ≤ 536870912) (w0 : List Int) (z : Unit) (w : ByteArray) (b : ByteArray) (y : ByteArray) (i : Int) (bo : List Int) (tg : List D_api_Tag) (l : D_api_Lock) (q : Bool) (d : D_api_Default) (r : List D_api_Rule) (g : List D_api_Grant) (nu : Int) (ns : List Int) (af : ByteArray) (pr : ByteArray) (ma : ByteArray) (fr : D_api_Spot) (mx : Int) (u : Unit) (he : QB n (19, w, b, y, i, bo, tg, l, q, d, r, g, nu, ns, af, pr, ma, fr, mx, u)) (hr : QR (19, w, b, y, i, bo, tg, l, q, d, r, g, nu, ns, af, pr, ma, fr, mx, u)) (h : w0.length + (eP (19, w, b, y, i, bo, tg, l, q, d, r, g, nu, ns, af, pr, ma, fr, mx, u)).length ≤ 70368744177664) :
    F_wire_writer_fields.f n (w0, z) (19, w, b, y, i, bo, tg, l, q, d, r, g, nu, ns, af, pr, ma, fr, mx, u) = some ((w0 ++ eP (19, w, b, y, i, bo, tg, l, q, d, r, g, nu, ns, af, pr, ma, fr, mx, u), ()), ()) := by
  rw [eP_19] at h ⊢
  try simp only [List.length_append] at h
  rw [F_wire_writer_fields.e0]
  simp only [F_wire_writer_fields.e1, F_wire_writer_fields.e2, hide_n, Int.reduceBEq, bIf_t, bIf_f]
  try dsimp only
  rw [wNum hn _ () hr.i (by first | omega | (simp only [List.length_append]; omega)), bnd_some]
  try dsimp only
  try simp only [List.append_assoc]
theorem wf_20 {n : Nat} (hn : 300 ≤ n) (hn2 : n ≤ 536870912) (w0 : List Int) (z : Unit) (w : ByteArray) (b : ByteArray) (y : ByteArray) (i : Int) (bo : List Int) (tg : List D_api_Tag) (l : D_api_Lock) (q : Bool) (d : D_api_Default) (r : List D_api_Rule) (g : List D_api_Grant) (nu : Int) (ns : List Int) (af : ByteArray) (pr : ByteArray) (ma : ByteArray) (fr : D_api_Spot) (mx : Int) (u : Unit) (he : QB n (20, w, b, y, i, bo, tg, l, q, d, r, g, nu, ns, af, pr, ma, fr, mx, u)) (hr : QR (20, w, b, y, i, bo, tg, l, q, d, r, g, nu, ns, af, pr, ma, fr, mx, u)) (h : w0.length + (eP (20, w, b, y, i, bo, tg, l, q, d, r, g, nu, ns, af, pr, ma, fr, mx, u)).length ≤ 70368744177664) :
    F_wire_writer_fields.f n (w0, z) (20, w, b, y, i, bo, tg, l, q, d, r, g, nu, ns, af, pr, ma, fr, mx, u) = some ((w0 ++ eP (20, w, b, y, i, bo, tg, l, q, d, r, g, nu, ns, af, pr, ma, fr, mx, u), ()), ()) := by
  rw [eP_20] at h ⊢
  try simp only [List.length_append] at h
  rw [F_wire_writer_fields.e0]
  simp only [F_wire_writer_fields.e1, F_wire_writer_fields.e2, hide_n, Int.reduceBEq, bIf_t, bIf_f]
  try dsimp only
  rw [wText hn _ () (by first | omega | (simp only [List.length_append]; omega)), bnd_some]
  try dsimp only
  rw [wText hn _ () (by first | omega | (simp only [List.length_append]; omega)), bnd_some]
  try dsimp only
  rw [wText hn _ () (by first | omega | (simp only [List.length_append]; omega)), bnd_some]
  try dsimp only
  rw [wNum hn _ () hr.fi (by first | omega | (simp only [List.length_append]; omega)), bnd_some]
  try dsimp only
  try simp only [List.append_assoc]
theorem wf_21 {n : Nat} (hn : 300 ≤ n) (hn2 : n ≤ 536870912) (w0 : List Int) (z : Unit) (w : ByteArray) (b : ByteArray) (y : ByteArray) (i : Int) (bo : List Int) (tg : List D_api_Tag) (l : D_api_Lock) (q : Bool) (d : D_api_Default) (r : List D_api_Rule) (g : List D_api_Grant) (nu : Int) (ns : List Int) (af : ByteArray) (pr : ByteArray) (ma : ByteArray) (fr : D_api_Spot) (mx : Int) (u : Unit) (he : QB n (21, w, b, y, i, bo, tg, l, q, d, r, g, nu, ns, af, pr, ma, fr, mx, u)) (hr : QR (21, w, b, y, i, bo, tg, l, q, d, r, g, nu, ns, af, pr, ma, fr, mx, u)) (h : w0.length + (eP (21, w, b, y, i, bo, tg, l, q, d, r, g, nu, ns, af, pr, ma, fr, mx, u)).length ≤ 70368744177664) :
    F_wire_writer_fields.f n (w0, z) (21, w, b, y, i, bo, tg, l, q, d, r, g, nu, ns, af, pr, ma, fr, mx, u) = some ((w0 ++ eP (21, w, b, y, i, bo, tg, l, q, d, r, g, nu, ns, af, pr, ma, fr, mx, u), ()), ()) := by
  rw [eP_21] at h ⊢
  try simp only [List.length_append] at h
  rw [F_wire_writer_fields.e0]
  simp only [F_wire_writer_fields.e1, F_wire_writer_fields.e2, hide_n, Int.reduceBEq, bIf_t, bIf_f]
  try dsimp only
  try rw [List.append_nil]
theorem wf_22 {n : Nat} (hn : 300 ≤ n) (hn2 : n ≤ 536870912) (w0 : List Int) (z : Unit) (w : ByteArray) (b : ByteArray) (y : ByteArray) (i : Int) (bo : List Int) (tg : List D_api_Tag) (l : D_api_Lock) (q : Bool) (d : D_api_Default) (r : List D_api_Rule) (g : List D_api_Grant) (nu : Int) (ns : List Int) (af : ByteArray) (pr : ByteArray) (ma : ByteArray) (fr : D_api_Spot) (mx : Int) (u : Unit) (he : QB n (22, w, b, y, i, bo, tg, l, q, d, r, g, nu, ns, af, pr, ma, fr, mx, u)) (hr : QR (22, w, b, y, i, bo, tg, l, q, d, r, g, nu, ns, af, pr, ma, fr, mx, u)) (h : w0.length + (eP (22, w, b, y, i, bo, tg, l, q, d, r, g, nu, ns, af, pr, ma, fr, mx, u)).length ≤ 70368744177664) :
    F_wire_writer_fields.f n (w0, z) (22, w, b, y, i, bo, tg, l, q, d, r, g, nu, ns, af, pr, ma, fr, mx, u) = some ((w0 ++ eP (22, w, b, y, i, bo, tg, l, q, d, r, g, nu, ns, af, pr, ma, fr, mx, u), ()), ()) := by
  rw [eP_22] at h ⊢
  try simp only [List.length_append] at h
  rw [F_wire_writer_fields.e0]
  simp only [F_wire_writer_fields.e1, F_wire_writer_fields.e2, hide_n, Int.reduceBEq, bIf_t, bIf_f]
  try dsimp only
  try rw [List.append_nil]
end Go.Proofs.YtcpkhpboemfglaaGreatDoor

namespace Go.Proofs.YtcpkhpboemfglaaGreatDoor
open Go Go.Va Go.Proofs
structure SndQ (e : Q) : Prop where
  kind : 1 ≤ e.1 ∧ e.1 ≤ 22
  w : e.2.1.size ≤ 64
  b : (if 21 ≤ e.1 then eqS e.2.2.1 ⟨#[]⟩ else bucketB e.2.2.1) = true
  f107 : fld (hasQ e.1) 107 (keyB e.2.2.2.1) (eqS e.2.2.2.1 ⟨#[]⟩) = true
  f105 : fld (hasQ e.1) 105 (decide (e.2.2.2.2.1 ≥ leastK e.1)) ((e.2.2.2.2.1 == 0)) = true
  f66 : fld (hasQ e.1) 66 (decide (((e.2.2.2.2.2.1.length : Nat) : Int) ≤ 1024)) ((((e.2.2.2.2.2.1.length : Nat) : Int) == 0)) = true
  f116 : fld (hasQ e.1) 116 (tagsB e.2.2.2.2.2.2.1) ((((e.2.2.2.2.2.2.1.length : Nat) : Int) == 0)) = true
  f108 : fld (hasQ e.1) 108 ((lockB e.2.2.2.2.2.2.2.1 && lockK e.1 e.2.2.2.2.2.2.2.1)) (eqD T_api_Lock e.2.2.2.2.2.2.2.1 lockZ) = true
  f121 : fld (hasQ e.1) 121 (true) ((!e.2.2.2.2.2.2.2.2.1)) = true
  f100 : fld (hasQ e.1) 100 (modeB e.2.2.2.2.2.2.2.2.2.1) (eqD T_api_Default e.2.2.2.2.2.2.2.2.2.1 (0, (0, ()))) = true
  f114 : fld (hasQ e.1) 114 (rulesB e.2.2.2.2.2.2.2.2.2.2.1) ((((e.2.2.2.2.2.2.2.2.2.2.1.length : Nat) : Int) == 0)) = true
  f103 : fld (hasQ e.1) 103 (grantsB e.2.2.2.2.2.2.2.2.2.2.2.1) ((((e.2.2.2.2.2.2.2.2.2.2.2.1.length : Nat) : Int) == 0)) = true
  f110 : fld (hasQ e.1) 110 ((decide (e.2.2.2.2.2.2.2.2.2.2.2.2.1 ≥ 1) && decide (e.2.2.2.2.2.2.2.2.2.2.2.2.1 ≤ 10000))) ((e.2.2.2.2.2.2.2.2.2.2.2.2.1 == 0)) = true
  f78 : fld (hasQ e.1) 78 (decide (((e.2.2.2.2.2.2.2.2.2.2.2.2.2.1.length : Nat) : Int) ≤ 16)) ((((e.2.2.2.2.2.2.2.2.2.2.2.2.2.1.length : Nat) : Int) == 0)) = true
  f97 : fld (hasQ e.1) 97 (nameB e.2.2.2.2.2.2.2.2.2.2.2.2.2.2.1) (eqS e.2.2.2.2.2.2.2.2.2.2.2.2.2.2.1 ⟨#[]⟩) = true
  f112 : fld (hasQ e.1) 112 (nameB e.2.2.2.2.2.2.2.2.2.2.2.2.2.2.2.1) (eqS e.2.2.2.2.2.2.2.2.2.2.2.2.2.2.2.1 ⟨#[]⟩) = true
  f109 : fld (hasQ e.1) 109 (nameB e.2.2.2.2.2.2.2.2.2.2.2.2.2.2.2.2.1) (eqS e.2.2.2.2.2.2.2.2.2.2.2.2.2.2.2.2.1 ⟨#[]⟩) = true
  f102 : fld (hasQ e.1) 102 (fromK e.1 e.2.2.2.2.2.2.2.2.2.2.2.2.2.2.2.2.2.1) (eqD T_api_Spot e.2.2.2.2.2.2.2.2.2.2.2.2.2.2.2.2.2.1 spotZ) = true
  f120 : fld (hasQ e.1) 120 ((decide (e.2.2.2.2.2.2.2.2.2.2.2.2.2.2.2.2.2.2.1 ≥ 1) && decide (e.2.2.2.2.2.2.2.2.2.2.2.2.2.2.2.2.2.2.1 ≤ 100))) ((e.2.2.2.2.2.2.2.2.2.2.2.2.2.2.2.2.2.2.1 == 0)) = true
theorem sndQ_of {e : Q} (h : goodQ e = true) : SndQ e := by
  unfold goodQ at h
  simp only [Bool.and_eq_true] at h
  obtain ⟨⟨h1, h2⟩, h3, h4, h5, f107_, f105_, f66_, f116_, f108_, f121_, f100_, f114_, f103_, f110_, f78_, f97_, f112_, f109_, f102_, f120_⟩ := h
  have h3 : decide (((e.2.1.size : Nat) : Int) > 64) = false := by
    cases hh : decide (((e.2.1.size : Nat) : Int) > 64)
    · rfl
    · rw [hh] at h3; exact nomatch h3
  have h3 := of_decide_eq_false h3
  exact ⟨⟨of_decide_eq_true h1, of_decide_eq_true h2⟩, by omega, h5, f107_, f105_, f66_, f116_, f108_, f121_, f100_, f114_, f103_, f110_, f78_, f97_, f112_, f109_, f102_, f120_⟩
theorem fldq_yes {k : Int} {c : Nat} {g z : Bool} (h : fld (hasQ k) c g z = true) (hi : inB (hasQ k) c = true) : g = true := by
  unfold fld at h; rw [if_pos hi] at h; exact h
theorem fldq_no {k : Int} {c : Nat} {g z : Bool} (h : fld (hasQ k) c g z = true) (hi : inB (hasQ k) c = false) : z = true := by
  unfold fld at h; rw [if_neg (by rw [hi]; decide)] at h; exact h
theorem wf {n : Nat} (hn : 300 ≤ n) (hn2 : n ≤ 536870912) (w0 : List Int) (z : Unit) {e : Q} (hs : SndQ e) (he : QB n e) (hr : QR e) (hh : w0.length + (eP e).length ≤ 70368744177664) : F_wire_writer_fields.f n (w0, z) e = some ((w0 ++ eP e, ()), ()) := by
  have hk := hs.kind
  obtain ⟨k, w, b, y, i, bo, tg, l, q, d, r, g, nu, ns, af, pr, ma, fr, mx, u⟩ := e
  have : k = 1 ∨ k = 2 ∨ k = 3 ∨ k = 4 ∨ k = 5 ∨ k = 6 ∨ k = 7 ∨ k = 8 ∨ k = 9 ∨ k = 10 ∨ k = 11 ∨ k = 12 ∨ k = 13 ∨ k = 14 ∨ k = 15 ∨ k = 16 ∨ k = 17 ∨ k = 18 ∨ k = 19 ∨ k = 20 ∨ k = 21 ∨ k = 22 := by
    obtain ⟨h1, h2⟩ := hk
    dsimp only at h1 h2
    omega
  rcases this with h | h | h | h | h | h | h | h | h | h | h | h | h | h | h | h | h | h | h | h | h | h <;> subst h
  · exact wf_1 hn hn2 w0 z w b y i bo tg l q d r g nu ns af pr ma fr mx u he hr hh
  · exact wf_2 hn hn2 w0 z w b y i bo tg l q d r g nu ns af pr ma fr mx u he hr hh
  · exact wf_3 hn hn2 w0 z w b y i bo tg l q d r g nu ns af pr ma fr mx u he hr hh
  · exact wf_4 hn hn2 w0 z w b y i bo tg l q d r g nu ns af pr ma fr mx u he hr hh
  · exact wf_5 hn hn2 w0 z w b y i bo tg l q d r g nu ns af pr ma fr mx u he hr hh
  · exact wf_6 hn hn2 w0 z w b y i bo tg l q d r g nu ns af pr ma fr mx u he hr hh
  · exact wf_7 hn hn2 w0 z w b y i bo tg l q d r g nu ns af pr ma fr mx u he hr hh
  · exact wf_8 hn hn2 w0 z w b y i bo tg l q d r g nu ns af pr ma fr mx u he hr hh
  · exact wf_9 hn hn2 w0 z w b y i bo tg l q d r g nu ns af pr ma fr mx u he hr hh
  · exact wf_10 hn hn2 w0 z w b y i bo tg l q d r g nu ns af pr ma fr mx u he hr hh
  · exact wf_11 hn hn2 w0 z w b y i bo tg l q d r g nu ns af pr ma fr mx u he hr hh
  · exact wf_12 hn hn2 w0 z w b y i bo tg l q d r g nu ns af pr ma fr mx u he hr hh
  · exact wf_13 hn hn2 w0 z w b y i bo tg l q d r g nu ns af pr ma fr mx u he hr hh
  · exact wf_14 hn hn2 w0 z w b y i bo tg l q d r g nu ns af pr ma fr mx u he hr hh
  · exact wf_15 hn hn2 w0 z w b y i bo tg l q d r g nu ns af pr ma fr mx u he hr hh
  · exact wf_16 hn hn2 w0 z w b y i bo tg l q d r g nu ns af pr ma fr mx u he hr hh
  · exact wf_17 hn hn2 w0 z w b y i bo tg l q d r g nu ns af pr ma fr mx u he hr hh
  · exact wf_18 hn hn2 w0 z w b y i bo tg l q d r g nu ns af pr ma fr mx u he hr hh
  · exact wf_19 hn hn2 w0 z w b y i bo tg l q d r g nu ns af pr ma fr mx u he hr hh
  · exact wf_20 hn hn2 w0 z w b y i bo tg l q d r g nu ns af pr ma fr mx u he hr hh
  · exact wf_21 hn hn2 w0 z w b y i bo tg l q d r g nu ns af pr ma fr mx u he hr hh
  · exact wf_22 hn hn2 w0 z w b y i bo tg l q d r g nu ns af pr ma fr mx u he hr hh
def encQ (e : Q) : List Int := eW e.1 ++ (eT e.2.1 ++ ((if 21 ≤ e.1 then [] else eT e.2.2.1) ++ eP e))
end Go.Proofs.YtcpkhpboemfglaaGreatDoor

namespace Go.Proofs.YtcpkhpboemfglaaGreatDoor
open Go Go.Va Go.Proofs
theorem spotEq {a b : D_api_Spot} (h : eqD T_api_Spot a b = true) : a = b := by
  have h : ((a.1 == b.1) && ((a.2.1 == b.2.1) && (decide (a.2.2.1 = b.2.2.1) && true))) = true := h
  simp only [Bool.and_eq_true, ba_beq, decide_eq_true_iff, and_true] at h
  obtain ⟨h1, h2, h3⟩ := h
  obtain ⟨a1, a2, a3, a4⟩ := a
  obtain ⟨b1, b2, b3, b4⟩ := b
  dsimp only at h1 h2 h3
  rw [h1, h2, h3]
theorem not_eq' {q : Bool} (h : (!q) = true) : q = false := by cases q; rfl; exact nomatch h
abbrev hdQ (k : Int) (w b : ByteArray) : Q := (k, w, b, (⟨#[]⟩ : ByteArray), 0, [], [], lockZ, false, (0, (0, ())), [], [], 0, [], (⟨#[]⟩ : ByteArray), (⟨#[]⟩ : ByteArray), (⟨#[]⟩ : ByteArray), spotZ, 0, ())
def bdBody (n : Nat) (l : List Int) : Prop := l.length < n ∧ BY l
def okBody (l : List Int) : Prop := l.length ≤ 16384 ∧ BY l
def okNums (l : List Int) : Prop := l.length ≤ 16 ∧ ∀ x ∈ l, I64 x
def bdQ (n : Nat) (e : Q) : Prop := QB n e ∧ QR e ∧ BY e.2.2.2.2.2.1
theorem rBody {n : Nat} (hn : 300 ≤ n) (hn2 : n ≤ 536870912) : Rd n (α := List Int) (F_wire_reader_body.f n) (fun bo => eT (bytesOf bo)) okBody (bdBody n) where
  any b e hb := by
    obtain ⟨x, b', e', h1, h2, h3⟩ := (rText hn hn2).any b e hb
    rw [F_wire_reader_body.e0, h1, bnd_some, hide_eq]
    try dsimp only
    cases eqS x ⟨#[]⟩
    · rw [Bool.not_false, bIf_true]
      exact ⟨_, _, _, rfl, h2, by rw [← size_of]; exact h3, fun y hy => ofBytes_range hy⟩
    · rw [Bool.not_true, bIf_false]
      exact ⟨_, _, _, rfl, h2, by change 0 < n; omega, BY_nil⟩
  enc x rest hx hb := by
    rw [F_wire_reader_body.e0, (rText hn hn2).enc _ _ (by rw [bytesOf_size]; exact hx.1) hb, bnd_some, hide_eq]
    try dsimp only
    cases h : eqS (bytesOf x) ⟨#[]⟩
    · rw [Bool.not_false, bIf_true, ofBytes_bytesOf hx.2]
    · rw [size0, bytesOf_size, decide_eq_true_iff] at h
      rw [Bool.not_true, bIf_false, List.eq_nil_of_length_eq_zero h]
theorem mkQ {n : Nat} {k : Int} {w b y : ByteArray} {i : Int} {bo : List Int} {tg : List D_api_Tag} {l : D_api_Lock} {q : Bool} {d : D_api_Default} {r : List D_api_Rule} {g : List D_api_Grant} {nu : Int} {ns : List Int} {af pr ma : ByteArray} {fr : D_api_Spot} {mx : Int} {u : Unit}
    (hw : w.size < n) (hb : b.size < n) (hy : y.size < n) (hi : U64 i) (hbo : bdBody n bo) (ht : TsB n tg) (hl : bdLock l) (hr : RusB n r) (hg : GrsB n g) (hns : okNums ns) (haf : af.size < n) (hpr : pr.size < n) (hma : ma.size < n) (hf1 : fr.1.size < n) (hf2 : fr.2.1.size < n) (hf3 : U64 fr.2.2.1) (h3 : 300 ≤ n) :
    bdQ n (k, w, b, y, i, bo, tg, l, q, d, r, g, nu, ns, af, pr, ma, fr, mx, u) :=
  ⟨⟨hw, hb, hy, hi.1, hbo.1, ht, hr, hg, Nat.lt_of_le_of_lt hns.1 (by omega), haf, hpr, hma, hf1, hf2, hf3.1⟩, ⟨hi, hl, hf3, hns.2⟩, hbo.2⟩
theorem qJ_enc_7 {n : Nat} (hn : 300 ≤ n) (hn2 : n ≤ 536870912) (w : ByteArray) (b : ByteArray) (y : ByteArray) (i : Int) (bo : List Int) (tg : List D_api_Tag) (l : D_api_Lock) (q : Bool) (d : D_api_Default) (r : List D_api_Rule) (g : List D_api_Grant) (nu : Int) (ns : List Int) (af : ByteArray) (pr : ByteArray) (ma : ByteArray) (fr : D_api_Spot) (mx : Int) (u : Unit) (hs : SndQ (7, w, b, y, i, bo, tg, l, q, d, r, g, nu, ns, af, pr, ma, fr, mx, u)) (hr : QR (7, w, b, y, i, bo, tg, l, q, d, r, g, nu, ns, af, pr, ma, fr, mx, u)) (hy : BY bo) (rest : List Int) (hb : BB n (eP (7, w, b, y, i, bo, tg, l, q, d, r, g, nu, ns, af, pr, ma, fr, mx, u) ++ rest)) :
    F_wire_reader_fields.f n (eP (7, w, b, y, i, bo, tg, l, q, d, r, g, nu, ns, af, pr, ma, fr, mx, u) ++ rest, 0, ()) (hdQ 7 w b) = some ((rest, 0, ()), (7, w, b, y, i, bo, tg, l, q, d, r, g, nu, ns, af, pr, ma, fr, mx, u), ()) := by
  have gk := fldq_yes hs.f107 (show inB (hasQ 7) 107 = true by decide +kernel)
  have gi := fldq_yes hs.f105 (show inB (hasQ 7) 105 = true by decide +kernel)
  have zB : bo = [] := len0 (fldq_no hs.f66 (show inB (hasQ 7) 66 = false by decide +kernel))
  have zt : tg = [] := len0 (fldq_no hs.f116 (show inB (hasQ 7) 116 = false by decide +kernel))
  have zl : l = lockZ := lockEq (fldq_no hs.f108 (show inB (hasQ 7) 108 = false by decide +kernel))
  have zy : q = false := not_eq' (fldq_no hs.f121 (show inB (hasQ 7) 121 = false by decide +kernel))
  have zd : d = (0, (0, ())) := defEq (fldq_no hs.f100 (show inB (hasQ 7) 100 = false by decide +kernel))
  have zr : r = [] := len0 (fldq_no hs.f114 (show inB (hasQ 7) 114 = false by decide +kernel))
  have zg : g = [] := len0 (fldq_no hs.f103 (show inB (hasQ 7) 103 = false by decide +kernel))
  have zn : nu = 0 := beq_iff_eq.1 (fldq_no hs.f110 (show inB (hasQ 7) 110 = false by decide +kernel))
  have zN : ns = [] := len0 (fldq_no hs.f78 (show inB (hasQ 7) 78 = false by decide +kernel))
  have za : af = (⟨#[]⟩ : ByteArray) := eqS_eq' (fldq_no hs.f97 (show inB (hasQ 7) 97 = false by decide +kernel))
  have zp : pr = (⟨#[]⟩ : ByteArray) := eqS_eq' (fldq_no hs.f112 (show inB (hasQ 7) 112 = false by decide +kernel))
  have zm : ma = (⟨#[]⟩ : ByteArray) := eqS_eq' (fldq_no hs.f109 (show inB (hasQ 7) 109 = false by decide +kernel))
  have zf : fr = spotZ := spotEq (fldq_no hs.f102 (show inB (hasQ 7) 102 = false by decide +kernel))
  have zx : mx = 0 := beq_iff_eq.1 (fldq_no hs.f120 (show inB (hasQ 7) 120 = false by decide +kernel))
  rw [eP_7] at hb ⊢
  try simp only [List.append_assoc] at hb ⊢
  rw [F_wire_reader_fields.e0]
  simp only [F_wire_reader_fields.e1, F_wire_reader_fields.e2, F_wire_reader_fields.e3, F_wire_reader_version.e0, F_wire_reader_key.e0, F_wire_reader_list.e0, F_wire_reader_list.e1, hide_n, Int.reduceBEq, bIf_t, bIf_f, bnd_bnd, bnd_s]
  rw [(rText hn hn2).enc _ _ (show y.size ≤ 16384 by have h200 : y.size ≤ 200 := keyB_len gk; omega) hb]
  try simp only [bnd_bnd, bnd_s, bIf_t, bIf_f, Int.reduceBEq]
  replace hb := BB_right hb
  rw [(rNum hn hn2).enc _ _ hr.i hb]
  try simp only [bnd_bnd, bnd_s, bIf_t, bIf_f, Int.reduceBEq]
  rw [zB, zt, zl, zy, zd, zr, zg, zn, zN, za, zp, zm, zf, zx]
end Go.Proofs.YtcpkhpboemfglaaGreatDoor

namespace Go.Proofs.YtcpkhpboemfglaaGreatDoor
open Go Go.Va Go.Proofs
theorem bnd_bIf {α β : Type} (q : Bool) (a b : Option α) (f : α → Option β) : bnd (bIf q a b) f = bIf q (bnd a f) (bnd b f) := by cases q <;> rfl
theorem wrapI (x : Int) : I64 (IntKind.i64.wrap x) := by
  unfold I64
  simp [IntKind.wrap, IntKind.bits, IntKind.signed]
  omega
theorem VI_of {n : Nat} {v : Ver} (h : bdVer n v) : VI n v := ⟨h.b, h.id, h.md, h.bl, h.lk, h.dy⟩
theorem VI_z {n : Nat} (h : 0 < n) : VI n verZ := ⟨VBz h, U64_0, I64_0, U64_0, I64_0, BY_zero 32⟩
theorem none_z {n : Nat} {v : Ver} (hi : VI n v) (h : noneB v = true) : v = verZ := verEq hi.b.dig rfl h
noncomputable def rowRd (n : Nat) (r : D_pack_Reader) : Option (Row × D_pack_Reader × Unit) :=
  bnd (F_pack_Reader_Text.f n r) fun u1 => bnd (F_pack_Reader_Flag.f n u1.2.1) fun u2 =>
    bIf (!u2.1) (bnd (F_entry_Reader_Version.f n u2.2.1) fun u3 => bnd (F_pack_Reader_Flag.f n u3.2.1) fun u4 => some ((u1.1, (u2.1, (u3.1, (u4.1, ())))), u4.2.1, ()))
      (some ((u1.1, (u2.1, (verZ, (false, ())))), u2.2.1, ()))
def okRow (x : Row) : Prop := okT x.1 ∧ (x.2.1 = false → okVer x.2.2.1) ∧ (x.2.1 = true → x.2.2 = (verZ, (false, ())))
theorem rRow {n : Nat} (hn : 300 ≤ n) (hn2 : n ≤ 536870912) : Rd n (α := Row) (rowRd n) eRow okRow (fun x => x.1.size < n ∧ VI n x.2.2.1) where
  any b0 e0 hb0 := by
    unfold rowRd
    obtain ⟨x1, b1, e1, h1, hb1, d1⟩ := (rText hn hn2).any b0 e0 hb0
    rw [h1, bnd_some]
    try dsimp only
    obtain ⟨x2, b2, e2, h2, hb2, d2⟩ := (rFlag hn hn2).any b1 e1 hb1
    rw [h2, bnd_some]
    try dsimp only
    cases x2
    · obtain ⟨x3, b3, e3, h3, hb3, d3⟩ := (rVer hn hn2).any b2 e2 hb2
      rw [Bool.not_false, bIf_true, h3, bnd_some]
      try dsimp only
      obtain ⟨x4, b4, e4, h4, hb4, d4⟩ := (rFlag hn hn2).any b3 e3 hb3
      rw [h4, bnd_some]
      exact ⟨_, _, _, rfl, hb4, d1, VI_of d3⟩
    · rw [Bool.not_true, bIf_false]
      exact ⟨_, _, _, rfl, hb2, d1, VI_z (by omega)⟩
  enc x rest hx hb := by
    obtain ⟨k1, k2, k3⟩ := hx
    unfold eRow at hb ⊢
    simp only [List.append_assoc] at hb ⊢
    unfold rowRd
    rw [(rText hn hn2).enc _ _ k1 hb, bnd_some]
    try dsimp only
    replace hb := BB_right hb
    rw [(rFlag hn hn2).enc _ _ trivial hb, bnd_some]
    try dsimp only
    replace hb := BB_right hb
    cases hz : x.2.1
    · rw [hz] at hb
      simp only [Bool.false_eq_true, if_false, List.append_assoc] at hb ⊢
      rw [Bool.not_false, bIf_true, (rVer hn hn2).enc _ _ (k2 hz) hb, bnd_some]
      try dsimp only
      replace hb := BB_right hb
      rw [(rFlag hn hn2).enc _ _ trivial hb, bnd_some, ← hz]
    · simp only [if_true, List.nil_append]
      rw [Bool.not_true, bIf_false, ← k3 hz, ← hz]
def okRows (l : List Row) : Prop := l.length ≤ 100 ∧ ∀ x ∈ l, okRow x
def bdRows (n : Nat) (l : List Row) : Prop := l.length < n ∧ ∀ x ∈ l, x.1.size < n ∧ VI n x.2.2.1
theorem rows_step {n : Nat} (c : Int) {m : Nat} {out : List Row} {k : Nat} {r : D_pack_Reader} {x : Row} {r' : D_pack_Reader} (hk : (k : Int) < c) (hc : k ≤ 200) (ho : out.length = k) (hF : rowRd n r = some (x, r', ())) :
    F_wire_reader_rows.J1 n (m + 1) (out, c, k, (((), ()), ()), r, ()) = F_wire_reader_rows.J1 n m (out ++ [x], c, ((k + 1 : Nat) : Int), (((), ()), ()), r', ()) := by
  rw [F_wire_reader_rows.e1, hide_eq, decide_eq_true hk, bIf_true]
  simp only [F_wire_reader_rows.e2]
  have : ∀ (K : Row → D_pack_Reader → Option (F_wire_reader_rows.R)), bnd (rowRd n r) (fun u => K u.1 u.2.1) = K x r' := by intro K; rw [hF, bnd_some]
  have h2 := this (fun x r' => gIf ((out.length + 1) * 152 ≤ 70368744177664) (F_wire_reader_rows.J1 n m (out ++ [x], c, IntKind.i64.wrap ((k : Int) + 1), (((), ()), ()), r', ())))
  rw [gIf_pos (by omega), cast_up k (by omega)] at h2
  unfold rowRd at h2
  simp only [bnd_bnd, bnd_bIf, bnd_some] at h2
  rw [cast_up k (by omega)]
  exact h2
theorem rows_end {n : Nat} {m : Nat} {out : List Row} (c : Nat) {r : D_pack_Reader} : F_wire_reader_rows.J1 n (m + 1) (out, ((c : Nat) : Int), ((c : Nat) : Int), (((), ()), ()), r, ()) = some (out, r, ()) := by
  rw [F_wire_reader_rows.e1, hide_eq, decide_eq_false (by omega), bIf_false, F_wire_reader_rows.e3]
theorem rRows {n : Nat} (hn : 300 ≤ n) (hn2 : n ≤ 536870912) : Rd n (α := List Row) (F_wire_reader_rows.f n) eRows okRows (bdRows n) where
  any b e hb := by
    obtain ⟨c, b1, e1, h1, hb1, h2, h3⟩ := (rCount hn hn2 (most := 100) (by omega)).any b e hb
    obtain ⟨y, rfl⟩ := Int.eq_ofNat_of_zero_le h2
    rw [F_wire_reader_rows.e0, h1, bnd_some]
    try dsimp only
    obtain ⟨out', b', e', h4, h5, h6, h7⟩ := rd_any (rRow hn hn2) y (fun m out k r => F_wire_reader_rows.J1 n m (out, (y : Int), k, (((), ()), ()), r, ())) (fun out r => some (out, r, ()))
      (fun m out k r x r' hk ho hF => rows_step _ (by omega) (by omega) ho hF)
      (fun m out r ho => rows_end y) n 0 [] b1 e1 (by omega) (by omega) rfl (by intro x hx; exact nomatch hx) hb1
    try dsimp only at h4
    rw [show ((0 : Nat) : Int) = 0 from rfl] at h4
    rw [h4]
    exact ⟨_, _, _, rfl, h5, by omega, h7⟩
  enc l rest hl hb := by
    unfold eRows at hb ⊢
    rw [List.append_assoc] at hb ⊢
    have hlen := hl.1
    rw [F_wire_reader_rows.e0, (rCount hn hn2 (most := 100) (by omega)).enc _ _ ⟨by omega, by omega⟩ hb, bnd_some]
    try dsimp only
    have h4 := rd_enc (rRow hn hn2) l.length (fun m out k r => F_wire_reader_rows.J1 n m (out, ((l.length : Nat) : Int), k, (((), ()), ()), r, ())) (fun out r => some (out, r, ()))
      (fun m out k r x r' hk ho hF => rows_step _ (by omega) (by omega) ho hF)
      (fun m out r ho => rows_end l.length) rest n l 0 [] (by omega) (by omega) rfl hl.2 (BB_right hb)
    try dsimp only at h4
    rw [show ((0 : Nat) : Int) = 0 from rfl] at h4
    rw [h4, List.nil_append]
noncomputable def intRd (n : Nat) (r : D_pack_Reader) : Option (Int × D_pack_Reader × Unit) := bnd (F_pack_Reader_Num.f n r) fun u1 => some (IntKind.i64.wrap u1.1, u1.2.1, ())
theorem rIntN {n : Nat} (hn : 300 ≤ n) (hn2 : n ≤ 536870912) : Rd n (α := Int) (intRd n) eW (fun x => 0 ≤ x ∧ x < 9223372036854775808) I64 where
  any b e hb := by
    obtain ⟨x, b', e', h1, h2, h3⟩ := (rNum hn hn2).any b e hb
    unfold intRd
    rw [h1, bnd_some]
    exact ⟨_, _, _, rfl, h2, wrapI _⟩
  enc x rest hx hb := by
    rw [eW_nat hn hn2 hx] at hb ⊢
    unfold intRd
    rw [(rNum hn hn2).enc x rest ⟨by omega, by omega⟩ hb, bnd_some, wrap_i64 (by omega)]
abbrev W0 : D_wire_reader := (((), ()), ())
abbrev zeroRP : RP := (0, (0, ([], (verZ, ([], (false, ([], ([], ()))))))))
theorem ints_step {n : Nat} (c : Int) {m : Nat} (e id : Int) (bo : List Int) (v : Ver) (rows : List Row) (mo : Bool) {out : List Int} {k : Nat} {r : D_pack_Reader} {x : Int} {r' : D_pack_Reader} (hk : (k : Int) < c) (hc : k ≤ 200) (ho : out.length = k) (hF : intRd n r = some (x, r', ())) :
    F_wire_reader_reply.J2 n (m + 1) (c, k, W0, zeroRP, (e, (id, (bo, (v, (rows, (mo, (out, ([], ())))))))), r, ()) = F_wire_reader_reply.J2 n m (c, ((k + 1 : Nat) : Int), W0, zeroRP, (e, (id, (bo, (v, (rows, (mo, (out ++ [x], ([], ())))))))), r', ()) := by
  rw [F_wire_reader_reply.e2, hide_eq, decide_eq_true hk, bIf_true]
  have : ∀ (K : Int → D_pack_Reader → Option (F_wire_reader_reply.R)), bnd (intRd n r) (fun u => K u.1 u.2.1) = K x r' := by intro K; rw [hF, bnd_some]
  have h2 := this (fun x r' => gIf ((out.length + 1) * 8 ≤ 70368744177664) (F_wire_reader_reply.J2 n m (c, IntKind.i64.wrap ((k : Int) + 1), W0, zeroRP, (e, (id, (bo, (v, (rows, (mo, (out ++ [x], ([], ())))))))), r', ())))
  rw [gIf_pos (by omega), cast_up k (by omega)] at h2
  unfold intRd at h2
  simp only [bnd_bnd, bnd_some] at h2
  rw [cast_up k (by omega)]
  exact h2
theorem strs_step {n : Nat} (c : Int) {m : Nat} (e id : Int) (bo : List Int) (v : Ver) (rows : List Row) (mo : Bool) (ns : List Int) {out : List ByteArray} {k : Nat} {r : D_pack_Reader} {x : ByteArray} {r' : D_pack_Reader} (hk : (k : Int) < c) (hc : k ≤ 200) (ho : out.length = k) (hF : F_pack_Reader_Text.f n r = some (x, r', ())) :
    F_wire_reader_reply.J4 n (m + 1) (c, k, W0, zeroRP, (e, (id, (bo, (v, (rows, (mo, (ns, (out, ())))))))), r, ()) = F_wire_reader_reply.J4 n m (c, ((k + 1 : Nat) : Int), W0, zeroRP, (e, (id, (bo, (v, (rows, (mo, (ns, (out ++ [x], ())))))))), r', ()) := by
  rw [F_wire_reader_reply.e4, hide_eq, decide_eq_true hk, bIf_true, hF, bnd_some]
  try dsimp only
  rw [gIf_pos (by omega), cast_up k (by omega)]
theorem r4_any {n : Nat} (hn : 300 ≤ n) (hn2 : n ≤ 536870912) (e id : Int) (bo : List Int) (v : Ver) (rows : List Row) (mo : Bool) (ns : List Int) (b0 : List Int) (e0 : Int) (hb0 : BB n b0) :
    ∃ l b' e', F_wire_reader_reply.J3 n (W0, zeroRP, (e, (id, (bo, (v, (rows, (mo, (ns, ([], ())))))))), (b0, e0, ()), ()) = some ((e, (id, (bo, (v, (rows, (mo, (ns, (l, ())))))))), (b', e', ()), ()) ∧ BB n b' ∧ l.length < n := by
  obtain ⟨c, b1, e1, h1, hb1, h2, h3⟩ := (rCount hn hn2 (most := 16) (by omega)).any b0 e0 hb0
  obtain ⟨y, rfl⟩ := Int.eq_ofNat_of_zero_le h2
  rw [F_wire_reader_reply.e3, h1, bnd_some]
  obtain ⟨out', b', e', h4, h5, h6, h7⟩ := rd_any (rText hn hn2) y (fun m out k r => F_wire_reader_reply.J4 n m ((y : Int), k, W0, zeroRP, (e, (id, (bo, (v, (rows, (mo, (ns, (out, ())))))))), r, ())) (fun out r => some ((e, (id, (bo, (v, (rows, (mo, (ns, (out, ())))))))), r, ()))
    (fun m out k r x r' hk ho hF => strs_step _ _ _ _ _ _ _ _ (by omega) (by omega) ho hF)
    (fun m out r ho => by
      try dsimp only
      rw [F_wire_reader_reply.e4, hide_eq, decide_eq_false (by omega), bIf_false, F_wire_reader_reply.e5]) n 0 [] b1 e1 (by omega) (by omega) rfl (by intro x hx; exact nomatch hx) hb1
  exact ⟨out', b', e', h4, h5, by omega⟩
theorem r4_enc {n : Nat} (hn : 300 ≤ n) (hn2 : n ≤ 536870912) (e id : Int) (bo : List Int) (v : Ver) (rows : List Row) (mo : Bool) (ns : List Int) (l : List ByteArray) (hl : l.length ≤ 16) (hs : ∀ x ∈ l, x.size ≤ 16384) (rest : List Int) (hb : BB n (eStrs l ++ rest)) :
    F_wire_reader_reply.J3 n (W0, zeroRP, (e, (id, (bo, (v, (rows, (mo, (ns, ([], ())))))))), (eStrs l ++ rest, 0, ()), ()) = some ((e, (id, (bo, (v, (rows, (mo, (ns, (l, ())))))))), (rest, 0, ()), ()) := by
  unfold eStrs at hb ⊢
  rw [List.append_assoc] at hb ⊢
  rw [F_wire_reader_reply.e3, (rCount hn hn2 (most := 16) (by omega)).enc _ _ ⟨by omega, by omega⟩ hb, bnd_some]
  have h4 := rd_enc (rText hn hn2) l.length (fun m out k r => F_wire_reader_reply.J4 n m (((l.length : Nat) : Int), k, W0, zeroRP, (e, (id, (bo, (v, (rows, (mo, (ns, (out, ())))))))), r, ())) (fun out r => some ((e, (id, (bo, (v, (rows, (mo, (ns, (out, ())))))))), r, ()))
    (fun m out k r x r' hk ho hF => strs_step _ _ _ _ _ _ _ _ (by omega) (by omega) ho hF)
    (fun m out r ho => by
      try dsimp only
      rw [F_wire_reader_reply.e4, hide_eq, decide_eq_false (by omega), bIf_false, F_wire_reader_reply.e5]) rest n l 0 [] (by omega) (by omega) rfl hs (BB_right hb)
  exact h4
theorem r1_any {n : Nat} (hn : 300 ≤ n) (hn2 : n ≤ 536870912) (e id : Int) (bo : List Int) (v : Ver) (b0 : List Int) (e0 : Int) (hb0 : BB n b0) :
    ∃ rows mo ns l b' e', F_wire_reader_reply.J1 n (W0, zeroRP, (e, (id, (bo, (v, ([], (false, ([], ([], ())))))))), (b0, e0, ()), ()) = some ((e, (id, (bo, (v, (rows, (mo, (ns, (l, ())))))))), (b', e', ()), ()) ∧ BB n b' ∧ bdRows n rows ∧ ns.length < n ∧ (∀ x ∈ ns, I64 x) ∧ l.length < n := by
  rw [F_wire_reader_reply.e1]
  obtain ⟨x1, b1, e1, h1, hb1, d1⟩ := (rRows hn hn2).any b0 e0 hb0
  rw [h1, bnd_some]
  obtain ⟨x2, b2, e2, h2, hb2, d2⟩ := (rFlag hn hn2).any b1 e1 hb1
  rw [h2, bnd_some]
  obtain ⟨c, b3, e3, h3, hb3, h5, h6⟩ := (rCount hn hn2 (most := 8) (by omega)).any b2 e2 hb2
  obtain ⟨y, rfl⟩ := Int.eq_ofNat_of_zero_le h5
  rw [h3, bnd_some]
  obtain ⟨out', b', e', h7, h8, h9, h10⟩ := rd_any (rIntN hn hn2) y (fun m out k r => F_wire_reader_reply.J2 n m ((y : Int), k, W0, zeroRP, (e, (id, (bo, (v, (x1, (x2, (out, ([], ())))))))), r, ())) (fun out r => F_wire_reader_reply.J3 n (W0, zeroRP, (e, (id, (bo, (v, (x1, (x2, (out, ([], ())))))))), r, ()))
    (fun m out k r x r' hk ho hF => ints_step _ _ _ _ _ _ _ (by omega) (by omega) ho hF)
    (fun m out r ho => by
      try dsimp only
      rw [F_wire_reader_reply.e2, hide_eq, decide_eq_false (by omega), bIf_false]) n 0 [] b3 e3 (by omega) (by omega) rfl (by intro x hx; exact nomatch hx) hb3
  obtain ⟨l, b4, e4, h11, h12, h13⟩ := r4_any hn hn2 e id bo v x1 x2 out' b' e' h8
  exact ⟨x1, x2, out', l, b4, e4, h7.trans h11, h12, d1, by omega, h10, h13⟩
theorem r1_enc {n : Nat} (hn : 300 ≤ n) (hn2 : n ≤ 536870912) (e id : Int) (bo : List Int) (v : Ver) (rows : List Row) (mo : Bool) (ns : List Int) (l : List ByteArray) (hr : okRows rows) (hns : ns.length ≤ 8) (hni : ∀ x ∈ ns, 0 ≤ x ∧ x < 9223372036854775808) (hl : l.length ≤ 16) (hs : ∀ x ∈ l, x.size ≤ 16384) (rest : List Int) (hb : BB n (eRows rows ++ (eF mo ++ (eInts ns ++ (eStrs l ++ rest))))) :
    F_wire_reader_reply.J1 n (W0, zeroRP, (e, (id, (bo, (v, ([], (false, ([], ([], ())))))))), (eRows rows ++ (eF mo ++ (eInts ns ++ (eStrs l ++ rest))), 0, ()), ()) = some ((e, (id, (bo, (v, (rows, (mo, (ns, (l, ())))))))), (rest, 0, ()), ()) := by
  rw [F_wire_reader_reply.e1, (rRows hn hn2).enc _ _ hr hb, bnd_some]
  replace hb := BB_right hb
  try dsimp only
  rw [(rFlag hn hn2).enc _ _ trivial hb, bnd_some]
  replace hb := BB_right hb
  unfold eInts at hb ⊢
  rw [List.append_assoc] at hb ⊢
  try dsimp only
  rw [(rCount hn hn2 (most := 8) (by omega)).enc _ _ ⟨by omega, by omega⟩ hb, bnd_some]
  replace hb := BB_right hb
  have h4 := rd_enc (rIntN hn hn2) ns.length (fun m out k r => F_wire_reader_reply.J2 n m (((ns.length : Nat) : Int), k, W0, zeroRP, (e, (id, (bo, (v, (rows, (mo, (out, ([], ())))))))), r, ())) (fun out r => F_wire_reader_reply.J3 n (W0, zeroRP, (e, (id, (bo, (v, (rows, (mo, (out, ([], ())))))))), r, ()))
    (fun m out k r x r' hk ho hF => ints_step _ _ _ _ _ _ _ (by omega) (by omega) ho hF)
    (fun m out r ho => by
      try dsimp only
      rw [F_wire_reader_reply.e2, hide_eq, decide_eq_false (by omega), bIf_false]) (eStrs l ++ rest) n ns 0 [] (by omega) (by omega) rfl hni hb
  exact h4.trans (r4_enc hn hn2 e id bo v rows mo ns l hl hs rest (BB_right hb))
theorem rReply {n : Nat} (hn : 300 ≤ n) (hn2 : n ≤ 536870912) : Rd n (α := RP) (F_wire_reader_reply.f n) encF (fun r => r.1 = 0 ∧ Fine r ∧ RI n r) (RI n) where
  any b0 e0 hb0 := by
    rw [F_wire_reader_reply.e0]
    obtain ⟨x1, b1, e1, h1, hb1, d1⟩ := (rNum hn hn2).any b0 e0 hb0
    rw [h1, bnd_some]
    try dsimp only
    obtain ⟨x2, b2, e2, h2, hb2, d2⟩ := (rBody hn hn2).any b1 e1 hb1
    rw [h2, bnd_some]
    try dsimp only
    obtain ⟨x3, b3, e3, h3, hb3, d3⟩ := (rFlag hn hn2).any b2 e2 hb2
    rw [h3, bnd_some]
    try dsimp only
    have key : ∀ (v : Ver) (b : List Int) (e : Int), VI n v → BB n b → ∃ x b' e', F_wire_reader_reply.J1 n (W0, zeroRP, (0, (x1, (x2, (v, ([], (false, ([], ([], ())))))))), (b, e, ()), ()) = some (x, (b', e', ()), ()) ∧ BB n b' ∧ RI n x := by
      intro v b e hv hb
      obtain ⟨rows, mo, ns, l, b', e', h4, h5, h6, h7, h8, h9⟩ := r1_any hn hn2 0 x1 x2 v b e hb
      exact ⟨_, _, _, h4, h5, ⟨⟨d2.1, hv.b, h6.1, fun x hx => ⟨(h6.2 x hx).1, (h6.2 x hx).2.b⟩, h7, h9⟩, d1, hv, h6.2, h8, d2.2⟩⟩
    cases x3
    · rw [bIf_false]
      exact key verZ _ _ (VI_z (by omega)) hb3
    · obtain ⟨x4, b4, e4, h4, hb4, d4⟩ := (rVer hn hn2).any b3 e3 hb3
      rw [bIf_true, h4, bnd_some]
      exact key x4 _ _ (VI_of d4) hb4
  enc x rest hx hb := by
    obtain ⟨k0, k, hi⟩ := hx
    have okR : okRows x.2.2.2.2.1 := ⟨k.rows, fun y hy => by
      have h1 := k.row y hy
      have h2 := (hi.row y hy).2
      unfold rowB at h1
      rw [Bool.and_eq_true, decide_eq_true_iff] at h1
      refine ⟨by unfold okT; omega, fun hz => ?_, fun hz => ?_⟩
      · rw [hz] at h1
        exact okVer_of h1.2 h2.id h2.md h2.bl h2.b.dig h2.lk
      · rw [hz, if_pos rfl, Bool.and_eq_true] at h1
        obtain ⟨y1, y2, y3, y4, y5⟩ := y
        have h3 := none_z h2 h1.2.2
        have h4 := not_eq' h1.2.1
        dsimp only at h3 h4 ⊢
        rw [h3, h4]⟩
    have okN : ∀ y ∈ x.2.2.2.2.2.2.1, 0 ≤ y ∧ y < 9223372036854775808 := fun y hy => ⟨k.num y hy, (hi.nums y hy).2⟩
    have okS : ∀ y ∈ x.2.2.2.2.2.2.2.1, y.size ≤ 16384 := fun y hy => Nat.le_trans (k.name y hy) (by omega)
    have kv := k.ver
    have kb := k.body
    have kn := k.nums
    have ks := k.names
    have iv := hi.ver
    have ib := hi.body
    have ii := hi.id
    obtain ⟨e, id, bo, v, rows, mo, ns, l, u⟩ := x
    dsimp only at k0 okR okN okS kv kb kn ks iv ib ii
    subst k0
    unfold encF at hb ⊢
    dsimp only at hb ⊢
    unfold eOpt at hb ⊢
    simp only [List.append_assoc] at hb ⊢
    rw [F_wire_reader_reply.e0, (rNum hn hn2).enc _ _ ii hb, bnd_some]
    try dsimp only
    replace hb := BB_right hb
    rw [(rBody hn hn2).enc bo _ ⟨kb, ib⟩ hb, bnd_some]
    try dsimp only
    replace hb := BB_right hb
    rw [(rFlag hn hn2).enc _ _ trivial hb, bnd_some]
    try dsimp only
    replace hb := BB_right hb
    cases hz : noneB v
    · rw [hz] at hb kv
      rw [Bool.false_or] at kv
      simp only [Bool.false_eq_true, if_false] at hb ⊢
      rw [Bool.not_false, bIf_true, (rVer hn hn2).enc _ _ (okVer_of kv iv.id iv.md iv.bl iv.b.dig iv.lk) hb, bnd_some]
      exact r1_enc hn hn2 0 id bo v rows mo ns l okR kn okN ks okS rest (BB_right hb)
    · rw [hz] at hb
      simp only [if_true, List.nil_append] at hb ⊢
      rw [Bool.not_true, bIf_false, none_z iv hz]
      exact r1_enc hn hn2 0 id bo verZ rows mo ns l okR kn okN ks okS rest hb
end Go.Proofs.YtcpkhpboemfglaaGreatDoor

namespace Go.Proofs.YtcpkhpboemfglaaGreatDoor
open Go Go.Va Go.Proofs
theorem BY_ite {c : Prop} [Decidable c] {a b : List Int} (ha : BY a) (hb : BY b) : BY (if c then a else b) := by split <;> assumption
end Go.Proofs.YtcpkhpboemfglaaGreatDoor

namespace Go.Proofs.YtcpkhpboemfglaaGreatDoor
open Go Go.Va Go.Proofs
abbrev qA : Q := (7, (⟨#[109, 101]⟩ : ByteArray), (⟨#[97, 98, 99]⟩ : ByteArray), (⟨#[107]⟩ : ByteArray), 0, [], [], lockZ, false, (0, (0, ())), [], [], 0, [], (⟨#[]⟩ : ByteArray), (⟨#[]⟩ : ByteArray), (⟨#[]⟩ : ByteArray), spotZ, 0, ())
theorem qA_good : goodQ qA = true := by decide +kernel
theorem qA_enc : encQ qA = [7, 2, 109, 101, 3, 97, 98, 99, 1, 107, 0] := by decide +kernel
theorem bdQ_small {n : Nat} (hn : 300 ≤ n) {k : Int} {w b y : ByteArray} (hw : w.size < n) (hb : b.size < n) (hy : y.size < n) : bdQ n (k, w, b, y, 0, [], [], lockZ, false, (0, (0, ())), [], [], 0, [], (⟨#[]⟩ : ByteArray), (⟨#[]⟩ : ByteArray), (⟨#[]⟩ : ByteArray), spotZ, 0, ()) := by
  have h0 : 0 < n := by omega
  exact mkQ hw hb hy U64_0 ⟨h0, BY_nil⟩ ⟨h0, by intro t ht; exact nomatch ht⟩ I64_0 ⟨h0, by intro t ht; exact nomatch ht⟩ ⟨h0, by intro t ht; exact nomatch ht⟩ ⟨Nat.zero_le 16, by intro t ht; exact nomatch ht⟩ h0 h0 h0 h0 h0 U64_0 hn
end Go.Proofs.YtcpkhpboemfglaaGreatDoor

namespace Go.Proofs.YtcpkhpboemfglaaGreatDoor
open Go Go.Va Go.Proofs
theorem RI_err {n : Nat} (h : 0 < n) (e : Int) : RI n (errRP e) := ⟨⟨h, VBz h, h, (fun x hx => nomatch hx), h, h⟩, U64_0, VI_z h, (fun x hx => nomatch hx), (fun x hx => nomatch hx), BY_nil⟩
noncomputable def finRP (b : List Int) (x : RP) (b' : List Int) (e' : Int) : Option (RP × Int × Unit) :=
  if e' = 0 ∧ b'.length = 0 ∧ (tellS x).2 = 0 ∧ eqS (bytesOf (tellS x).1) (bytesOf b) = true then some (x, 0, ()) else some (zeroRP, 2, ())
theorem toldJ {n : Nat} (hn : 300 ≤ n) (hn2 : n ≤ 536870912) (b : List Int) {x : RP} (b' : List Int) (e' : Int) (hx : RI n x) : F_wire_Told.J1 n (b, zeroRP, W0, x, (b', e', ()), ()) = finRP b x b' e' := by
  obtain ⟨r', h1⟩ := rEnd hn hn2 b' e'
  rw [F_wire_Told.e1, h1, bnd_some, hide_eq]
  unfold finRP
  try dsimp only
  by_cases h : e' = 0
  · rw [if_pos h]
    by_cases h0 : b'.length = 0
    · rw [if_pos h0, show ((0 : Int) != 0) = false from rfl, bIf_false]
      change (bnd (F_wire_Tell.f n x) _) = _
      rw [wire_Tell hn hn2 hx, bnd_some, hide_eq]
      try dsimp only
      by_cases h2 : (tellS x).2 = 0
      · rw [h2, show ((0 : Int) != 0) = false from rfl, bIf_false, F_bytes_Equal.e0, bnd_some, hide_eq]
        try dsimp only
        cases h3 : eqS (bytesOf (tellS x).1) (bytesOf b)
        · rw [if_neg (by rintro ⟨_, _, _, h⟩; exact nomatch h), F_wire_Told.e2]; rfl
        · rw [F_wire_Told.e2, Bool.not_true, bIf_false, F_wire_Told.e3, if_pos ⟨h, h0, rfl, rfl⟩]
      · rw [show ((tellS x).2 != 0) = true by rw [bne, beq_eq_false_iff_ne.2 h2]; rfl, bIf_true, if_neg (fun hh => h2 hh.2.2.1), F_wire_Told.e2]; rfl
    · rw [if_neg h0, if_neg (fun hh => h0 hh.2.1)]; rfl
  · rw [if_neg h, show (e' != 0) = true by rw [bne, beq_eq_false_iff_ne.2 h]; rfl, bIf_true, if_neg (fun hh => h hh.1)]
theorem told_any {n : Nat} (hn : 300 ≤ n) (hn2 : n ≤ 536870912) {b : List Int} (hb : BB n b) : ∃ (x : RP) (b' : List Int) (e' : Int), F_wire_Told.f n b = finRP b x b' e' ∧ RI n x := by
  have hlen := hb.len
  rw [F_wire_Told.e0, F_entry_NewReader.e0, F_pack_Read.e0, clone_byte (by omega), bnd_some, bnd_some, bnd_some]
  try dsimp only
  obtain ⟨k, b1, e1, h1, hb1, d1⟩ := (rSmall hn hn2).any b 0 hb
  rw [h1, bnd_some, hide_eq]
  try dsimp only
  cases (k == 0)
  · rw [bIf_false]
    exact ⟨errRP k, b1, e1, toldJ hn hn2 b b1 e1 (RI_err (by omega) k), RI_err (by omega) k⟩
  · obtain ⟨x, b2, e2, h2, hb2, d2⟩ := (rReply hn hn2).any b1 e1 hb1
    rw [bIf_true, h2, bnd_some]
    exact ⟨x, b2, e2, toldJ hn hn2 b b2 e2 d2, d2⟩
theorem alike_err {n : Nat} {r : RP} {e : Int} (hi : RI n r) (h : alikeB r (errRP e) = true) : r = errRP e := by
  unfold alikeB at h
  simp only [Bool.and_eq_true, beq_iff_eq, allB_nil] at h
  obtain ⟨h1, h2, h3, h4, h5, h6, h7, h8⟩ := h
  have h4 := bytes_inj hi.body BY_nil h4
  have h5 := verEq hi.ver.b.dig rfl h5
  have h6 := List.eq_nil_of_length_eq_zero (Int.ofNat_eq_zero.1 h6)
  have h7 := List.eq_nil_of_length_eq_zero (Int.ofNat_eq_zero.1 h7)
  have h8 := List.eq_nil_of_length_eq_zero (Int.ofNat_eq_zero.1 h8)
  obtain ⟨a1, a2, a3, a4, a5, a6, a7, a8, a9⟩ := r
  dsimp only at h1 h2 h3 h4 h5 h6 h7 h8
  rw [h1, h2, h3, h4, h5, h6, h7, h8]
theorem told_enc {n : Nat} (hn : 300 ≤ n) (hn2 : n ≤ 536870912) {r : RP} (hg : goodRP r = true) (hi : RI n r) {rest : List Int} (hb : BB n (encRP r ++ rest)) : F_wire_Told.f n (encRP r ++ rest) = finRP (encRP r ++ rest) r rest 0 := by
  have hlen := hb.len
  have hb2 := hb
  rw [F_wire_Told.e0, F_entry_NewReader.e0, F_pack_Read.e0, clone_byte (by omega), bnd_some, bnd_some, bnd_some]
  try dsimp only
  have e1 : encRP r ++ rest = eW r.1 ++ ((if r.1 = 0 then encF r else []) ++ rest) := by unfold encRP; rw [List.append_assoc]
  rw [e1] at hb2
  have hk : 0 ≤ r.1 ∧ r.1 ≤ 18 := by
    unfold goodRP at hg
    simp only [Bool.and_eq_true, decide_eq_true_iff] at hg
    exact ⟨hg.1, hg.2.1⟩
  have h1 := (rSmall hn hn2).enc r.1 _ ⟨hk.1, by omega⟩ hb2
  rw [← e1] at h1
  rw [h1, bnd_some, hide_eq]
  try dsimp only
  replace hb2 := BB_right hb2
  by_cases h0 : r.1 = 0
  · rw [if_pos h0] at hb2 ⊢
    rw [show (r.1 == 0) = true from beq_iff_eq.2 h0, bIf_true, (rReply hn hn2).enc r rest ⟨h0, good_fine hg h0, hi⟩ hb2, bnd_some]
    exact toldJ hn hn2 _ rest 0 hi
  · rw [if_neg h0, List.nil_append, show (r.1 == 0) = false from beq_eq_false_iff_ne.2 h0, bIf_false]
    have h2 : r = errRP r.1 := by
      unfold goodRP at hg
      rw [if_neg h0] at hg
      simp only [Bool.and_eq_true] at hg
      exact alike_err hi hg.2.2
    have h3 := toldJ hn hn2 (encRP r ++ rest) rest 0 hi
    rw [h2] at h3 ⊢
    exact h3
theorem tellS_ok {r : RP} (h : (tellS r).2 = 0) : goodRP r = true ∧ (tellS r).1 = encRP r := by
  unfold tellS at h ⊢
  cases hg : goodRP r
  · rw [hg] at h; exact absurd (show (2 : Int) = 0 from h) (by decide)
  · exact ⟨rfl, rfl⟩
theorem BY_RP {n : Nat} {r : RP} (hi : RI n r) : BY (encRP r) := by
  refine BY_app (BY_W _) (BY_ite ?_ BY_nil)
  refine BY_app (BY_N _) (BY_app (BY_T _) (BY_app ?_ (BY_app ?_ (BY_app (BY_F _) (BY_app (BY_app (BY_W _) (BY_flat fun x _ => BY_W x)) (BY_app (BY_W _) (BY_flat fun x _ => BY_T x)))))))
  · exact BY_app (BY_F _) (BY_ite BY_nil (BY_Ver hi.ver.dy))
  · exact BY_app (BY_W _) (BY_flat fun x hx => BY_app (BY_T _) (BY_app (BY_F _) (BY_ite BY_nil (BY_app (BY_Ver (hi.row x hx).2.dy) (BY_F _)))))
theorem encRP_len {n : Nat} {r : RP} (hg : goodRP r = true) (hi : RI n r) : (encRP r).length ≤ 200010 := by
  unfold encRP
  rw [List.length_append]
  have h1 := eW_len r.1
  by_cases h0 : r.1 = 0
  · rw [if_pos h0]
    have := encF_len (good_fine hg h0) hi
    omega
  · rw [if_neg h0, List.length_nil]; omega
theorem alike_refl (r : RP) : alikeB r r = true := by
  unfold alikeB
  rw [eqS_self, sameV_refl, allB_refl (q := sameRw) _ (fun x _ => by unfold sameRw; rw [eqS_self, sameV_refl]; simp only [beq_self_eq_true, Bool.and_true]), allB_refl (q := sameN) _ (fun x _ => beq_self_eq_true x), allB_refl _ (fun x _ => eqS_self x)]
  simp only [beq_self_eq_true, Bool.and_true]
theorem told_back {n : Nat} (hn : 300000 ≤ n) (hn2 : n ≤ 536870912) {r : RP} (hi : RI n r) (h : (tellS r).2 = 0) : F_wire_Told.f n (encRP r) = some (r, 0, ()) := by
  obtain ⟨hg, h1⟩ := tellS_ok h
  have := told_enc (by omega) hn2 hg hi (rest := []) ⟨by rw [List.append_nil]; have := encRP_len hg hi; omega, by rw [List.append_nil]; exact BY_RP hi⟩
  rw [List.append_nil] at this
  rw [this]
  unfold finRP
  rw [if_pos ⟨rfl, rfl, h, by rw [h1]; exact eqS_self _⟩]
theorem told_reads {n : Nat} (hn : 300 ≤ n) (hn2 : n ≤ 536870912) {b : List Int} (hb : BB n b) : F_wire_Told.f n b = some (zeroRP, 2, ()) ∨ ∃ x, F_wire_Told.f n b = some (x, 0, ()) ∧ RI n x ∧ (tellS x).2 = 0 ∧ encRP x = b := by
  obtain ⟨x, b', e', h1, h3⟩ := told_any (by omega) hn2 hb
  rw [h1]
  unfold finRP
  by_cases h : e' = 0 ∧ b'.length = 0 ∧ (tellS x).2 = 0 ∧ eqS (bytesOf (tellS x).1) (bytesOf b) = true
  · rw [if_pos h]
    have h4 := (tellS_ok h.2.2.1).2
    have h5 := h.2.2.2
    rw [h4] at h5
    exact .inr ⟨x, rfl, h3, h.2.2.1, bytes_inj (BY_RP h3) hb.byte h5⟩
  · rw [if_neg h]; exact .inl rfl
theorem qA_bd {n : Nat} (hn : 300 ≤ n) : bdQ n qA := bdQ_small hn (by change 2 < n; omega) (by change 3 < n; omega) (by change 1 < n; omega)
theorem askT {n : Nat} (hn : 300 ≤ n) (hn2 : n ≤ 536870912) : F_wire_Ask.f n qA = some (encQ qA, 0, ()) := by
  have hx := qA_bd hn
  have h1 : F_acts_Good.f n qA = some (goodQ qA, ()) := good_7 hn hn2 _ _ _ _ _ _ _ _ _ _ _ _ _ _ _ _ _ _ _ hx.1
  have hl : (encQ qA).length = 11 := by rw [qA_enc]; rfl
  have hs : encQ qA = eW 7 ++ (eT ⟨#[109, 101]⟩ ++ (eT ⟨#[97, 98, 99]⟩ ++ eP qA)) := rfl
  rw [hs] at hl ⊢
  simp only [List.length_append] at hl
  rw [F_wire_Ask.e0, h1, bnd_some, qA_good, Bool.not_true, bIf_false, F_entry_NewWriter.e0, F_pack_New.e0, bnd_some, bnd_some]
  try dsimp only
  rw [wW hn [] () (by rw [List.length_nil]; omega), bnd_some]
  try dsimp only
  rw [wText hn _ () (by simp only [List.length_append, List.length_nil]; omega), bnd_some]
  try dsimp only
  rw [hide_eq, show ((7 : Int) != 21) = true from rfl, bIf_true, hide_eq, show ((7 : Int) != 22) = true from rfl, F_wire_Ask.e1, bIf_true]
  try dsimp only
  rw [wText hn _ () (by simp only [List.length_append, List.length_nil]; omega), bnd_some, F_wire_Ask.e2]
  try dsimp only
  have h2 : ∀ (w : List Int), w.length + (eP qA).length ≤ 70368744177664 → F_wire_writer_fields.f n (w, ()) qA = some ((w ++ eP qA, ()), ()) := fun w hw => wf_7 hn hn2 w () _ _ _ _ _ _ _ _ _ _ _ _ _ _ _ _ _ _ _ hx.1 hx.2.1 hw
  rw [h2 _ (by simp only [List.length_append, List.length_nil]; omega), bnd_some]
  try dsimp only
  rw [wOut () (by simp only [List.length_append, List.length_nil]; omega), bnd_some]
  simp only [List.nil_append, List.append_assoc]
end Go.Proofs.YtcpkhpboemfglaaGreatDoor

namespace Go.Proofs.YtcpkhpboemfglaaGreatDoor
open Go Go.Va Go.Proofs
theorem askedT {n : Nat} (hn : 300 ≤ n) (hn2 : n ≤ 536870912) : F_wire_Asked.f n (encQ qA) = some (qA, 0, ()) := by
  have hx := qA_bd hn
  have hb : BB n (encQ qA) := by rw [qA_enc]; exact ⟨by change 11 < n; omega, by decide⟩
  have hlen := hb.len
  have hb2 := hb
  rw [F_wire_Asked.e0, F_entry_NewReader.e0, F_pack_Read.e0, clone_byte (by omega), bnd_some, bnd_some, bnd_some]
  try dsimp only
  have e1 : encQ qA = eW 7 ++ (eT ⟨#[109, 101]⟩ ++ (eT ⟨#[97, 98, 99]⟩ ++ (eP qA ++ []))) := by rw [List.append_nil]; rfl
  rw [e1] at hb2
  have h1 := (rSmall hn hn2).enc 7 _ ⟨by omega, by omega⟩ hb2
  rw [← e1] at h1
  rw [h1, bnd_some]
  try dsimp only
  replace hb2 := BB_right hb2
  rw [(rText hn hn2).enc _ _ (by decide) hb2, bnd_some, hide_eq, hide_eq]
  try dsimp only
  replace hb2 := BB_right hb2
  rw [show ((7 : Int) != 21) = true from rfl, bIf_true, show ((7 : Int) != 22) = true from rfl, F_wire_Asked.e1, bIf_true, (rText hn hn2).enc _ _ (by decide) hb2, bnd_some]
  replace hb2 := BB_right hb2
  rw [F_wire_Asked.e2]
  have h3 : F_wire_reader_fields.f n (eP qA ++ [], 0, ()) (hdQ 7 ⟨#[109, 101]⟩ ⟨#[97, 98, 99]⟩) = some (([], 0, ()), qA, ()) := qJ_enc_7 hn hn2 _ _ _ _ _ _ _ _ _ _ _ _ _ _ _ _ _ _ _ (sndQ_of qA_good) hx.2.1 hx.2.2 [] hb2
  change (bnd (F_wire_reader_fields.f n (eP qA ++ [], 0, ()) (hdQ 7 ⟨#[109, 101]⟩ ⟨#[97, 98, 99]⟩)) _) = _
  obtain ⟨r', h4⟩ := rEnd hn hn2 [] 0
  rw [h3, bnd_some]
  try dsimp only
  rw [h4, bnd_some, hide_eq]
  change (bIf ((0 : Int) != 0) _ (bnd (F_wire_Ask.f n qA) _)) = _
  rw [show ((0 : Int) != 0) = false from rfl, bIf_false]
  rw [askT hn hn2, bnd_some, hide_eq]
  try dsimp only
  rw [show ((0 : Int) != 0) = false from rfl, bIf_false, F_bytes_Equal.e0, bnd_some, hide_eq, eqS_self]
  try dsimp only
  rw [F_wire_Asked.e3, Bool.not_true, bIf_false, F_wire_Asked.e4]
theorem tellT : tellS (errRP 7) = ([7], 0) := by
  unfold tellS
  rw [if_pos (by decide +kernel)]
  exact congrArg (fun x => (x, (0 : Int))) (show encRP (errRP 7) = [7] by decide +kernel)
theorem awakeR {n : Nat} (hn : 300 ≤ n) (hn2 : n ≤ 536870912) : F_law26_awake.f n = some (true, ()) := by
  have ht := wire_Tell hn hn2 (RI_err (n := n) (by omega) 7)
  rw [tellT] at ht
  rw [F_law26_awake.e0]
  change (bnd (F_wire_Ask.f n qA) fun u1 => bnd (F_wire_Asked.f n u1.1) fun u2 => bnd (F_wire_Tell.f n (errRP 7)) _) = _
  rw [askT hn hn2, bnd_some]
  dsimp only
  rw [askedT hn hn2, bnd_some, ht, bnd_some, qA_enc]
  simp only [hide_n]
  rw [show ((0 : Int) == 0) = true from rfl, bIf_true, bIf_true, bIf_true, show eqS (bytesOf [7, 2, 109, 101, 3, 97, 98, 99, 1, 107, 0]) ⟨#[7, 2, 109, 101, 3, 97, 98, 99, 1, 107, 0]⟩ = true by decide +kernel, bIf_true, show eqS (⟨#[107]⟩ : ByteArray) ⟨#[107]⟩ = true by decide +kernel, bIf_true, show eqS (bytesOf [7]) ⟨#[7]⟩ = true by decide +kernel]
theorem lawTold {n : Nat} (hn : 300000 ≤ n) (hn2 : n ≤ 536870912) {r : RP} (hr : RI n r) {b : List Int} (hb : BB n b) : F_law26_WireTold.f n r b = some (true, ()) := by
  have hz : RI n zeroRP := RI_err (by omega) 0
  have h1 : F_law26_WireTold.J1 n (b, ()) = some (true, ()) := by
    rw [F_law26_WireTold.e1]
    rcases told_reads (by omega) hn2 hb with h | ⟨x, h1, h2, h3, h4⟩
    · rw [h, bnd_some, hide_eq]
      dsimp only
      rw [show ((2 : Int) != 0) = true from rfl, bIf_true, awakeR (by omega) hn2, bnd_some, bIf_true, hide_eq, show ((2 : Int) == 2) = true from rfl, bIf_true]
      change (bnd (F_ref24_Alike.f n zeroRP zeroRP) fun u3 => some (u3.1, ())) = _
      rw [ref24_Alike hn2 hz.b, bnd_some, alike_refl]
    · obtain ⟨hg, h5⟩ := tellS_ok h3
      rw [h1, bnd_some, hide_eq]
      dsimp only
      rw [show ((0 : Int) != 0) = false from rfl, bIf_false, ref26_Tell (by omega) hn2 h2, bnd_some, awakeR (by omega) hn2, bnd_some, bIf_true, h3, h5, h4]
      simp only [hide_n]
      rw [show ((0 : Int) == 0) = true from rfl, bIf_true, eqS_self]
  rw [F_law26_WireTold.e0, ref26_Tell (by omega) hn2 hr, bnd_some, hide_eq]
  dsimp only
  by_cases h : (tellS r).2 = 0
  · obtain ⟨hg, h5⟩ := tellS_ok h
    rw [h, show ((0 : Int) == 0) = true from rfl, bIf_true, h5, ofBytes_bytesOf (BY_RP hr), told_back hn hn2 hr h, bnd_some, hide_eq]
    dsimp only
    rw [show ((0 : Int) != 0) = false from rfl, bIf_false, ref24_Alike hn2 hr.b, bnd_some, alike_refl, Bool.not_true, bIf_false, h1]
  · rw [show ((tellS r).2 == 0) = false from beq_eq_false_iff_ne.2 h, bIf_false, h1]
end Go.Proofs.YtcpkhpboemfglaaGreatDoor

namespace Go.Proofs.YtcpkhpboemfglaaGreatDoor
open Go Go.Va Go.Proofs Go.ChangeShapes Go.WideShapes Go.ChangeAt Go.RowKit
theorem vol_Rw (x : Row) : vol T_api_Row x = x.1.size + 1 + (1 + (vol T_api_Version x.2.2.1 + (1 + 0))) := rfl
theorem vol_RP (r : RP) : vol T_api_Reply r = 1 + (1 + (((r.2.2.1.map (vol (.int .u8))).sum + 1) + (vol T_api_Version r.2.2.2.1 + (((r.2.2.2.2.1.map (vol T_api_Row)).sum + 1) + (1 + (((r.2.2.2.2.2.2.1.map (vol (.int .i64))).sum + 1) + (((r.2.2.2.2.2.2.2.1.map (vol .str)).sum + 1) + 0))))))) := rfl
theorem Wf_RP {r : RP} (hw : Wf T_api_Reply r) : Wf (.int .i64) r.1 ∧ Wf (.int .u64) r.2.1 ∧ Wf (.slice (.int .u8)) r.2.2.1 ∧ Wf T_api_Version r.2.2.2.1 ∧ Wf (.slice T_api_Row) r.2.2.2.2.1 ∧ Wf .bool r.2.2.2.2.2.1 ∧ Wf (.slice (.int .i64)) r.2.2.2.2.2.2.1 ∧ Wf (.slice .str) r.2.2.2.2.2.2.2.1 ∧ True := hw
theorem R_ofW {n : Nat} {r : RP} (hw : Wf T_api_Reply r) (h : vol T_api_Reply r < n) : RI n r := by
  obtain ⟨w1, w2, w3, w4, w5, w6, w7, w8, w9⟩ := Wf_RP hw
  rw [vol_RP] at h
  have hv : vol T_api_Version r.2.2.2.1 < n := by omega
  have l1 := vol_len (e := T_api_Row) (l := r.2.2.2.2.1) (fun x _ => by rw [vol_Rw]; omega)
  have l2 := vol_len (e := .int .u8) (l := r.2.2.1) (fun x _ => Nat.le_refl 1)
  have l3 := vol_len (e := .int .i64) (l := r.2.2.2.2.2.2.1) (fun x _ => Nat.le_refl 1)
  have l4 := vol_len (e := .str) (l := r.2.2.2.2.2.2.2.1) (fun x _ => Nat.le_add_left 1 _)
  have hV := VI_of (V_ofW w4 hv)
  have hR : ∀ x ∈ r.2.2.2.2.1, x.1.size < n ∧ VI n x.2.2.1 := fun x hx => by
    have h1 := vol_mem (e := T_api_Row) hx
    rw [vol_Rw] at h1
    have w := (w5.2 x hx).2.2.1
    exact ⟨by omega, VI_of (V_ofW w (by omega))⟩
  exact ⟨⟨by omega, hV.b, by omega, fun x hx => ⟨(hR x hx).1, (hR x hx).2.b⟩, by omega, by omega⟩, u64_of w2, hV, hR, fun x hx => i64_of (w7.2 x hx), fun x hx => u8_of (w3.2 x hx)⟩
set_option maxRecDepth 100000 in
def zR : Array Value := #[Value.int IntKind.i64 0, Value.int IntKind.u64 0, Value.slice none 0 0, Value.int IntKind.u64 0, Value.bool false, Value.int IntKind.i64 0, Value.int IntKind.u64 0, Value.int IntKind.u8 0, Value.int IntKind.u8 0, Value.int IntKind.u8 0, Value.int IntKind.u8 0, Value.int IntKind.u8 0, Value.int IntKind.u8 0, Value.int IntKind.u8 0, Value.int IntKind.u8 0, Value.int IntKind.u8 0, Value.int IntKind.u8 0, Value.int IntKind.u8 0, Value.int IntKind.u8 0, Value.int IntKind.u8 0, Value.int IntKind.u8 0, Value.int IntKind.u8 0, Value.int IntKind.u8 0, Value.int IntKind.u8 0, Value.int IntKind.u8 0, Value.int IntKind.u8 0, Value.int IntKind.u8 0, Value.int IntKind.u8 0, Value.int IntKind.u8 0, Value.int IntKind.u8 0, Value.int IntKind.u8 0, Value.int IntKind.u8 0, Value.int IntKind.u8 0, Value.int IntKind.u8 0, Value.int IntKind.u8 0, Value.int IntKind.u8 0, Value.int IntKind.u8 0, Value.int IntKind.u8 0, Value.int IntKind.u8 0, Value.int IntKind.i64 0, Value.int IntKind.i64 0, Value.int IntKind.i64 0, Value.bool false, Value.slice none 0 0, Value.slice none 0 0, Value.bool false, Value.slice none 0 0, Value.slice none 0 0]
def dR {H : Type} : DataW H := .agg [.lit (.int .i64 0), .lit (.int .u64 0), .nil, .agg [.lit (.int .u64 0), .lit (.bool false), .lit (.int .i64 0), .lit (.int .u64 0), .agg [.lit (.int .u8 0), .lit (.int .u8 0), .lit (.int .u8 0), .lit (.int .u8 0), .lit (.int .u8 0), .lit (.int .u8 0), .lit (.int .u8 0), .lit (.int .u8 0), .lit (.int .u8 0), .lit (.int .u8 0), .lit (.int .u8 0), .lit (.int .u8 0), .lit (.int .u8 0), .lit (.int .u8 0), .lit (.int .u8 0), .lit (.int .u8 0), .lit (.int .u8 0), .lit (.int .u8 0), .lit (.int .u8 0), .lit (.int .u8 0), .lit (.int .u8 0), .lit (.int .u8 0), .lit (.int .u8 0), .lit (.int .u8 0), .lit (.int .u8 0), .lit (.int .u8 0), .lit (.int .u8 0), .lit (.int .u8 0), .lit (.int .u8 0), .lit (.int .u8 0), .lit (.int .u8 0), .lit (.int .u8 0)], .lit (.int .i64 0), .agg [.lit (.int .i64 0), .lit (.int .i64 0), .lit (.bool false)], .nil], .nil, .lit (.bool false), .nil, .nil]
end Go.Proofs.YtcpkhpboemfglaaGreatDoor

