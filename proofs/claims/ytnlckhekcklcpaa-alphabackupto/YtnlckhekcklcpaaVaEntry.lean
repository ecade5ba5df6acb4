/-
  Va, part 28: a proved function as a row of the table of callees.
-/
import Derived.Test.YtnlckhekcklcpaaVaFn
set_option linter.unusedVariables false
set_option linter.unusedSimpArgs false
namespace Go.Va
open Go

/-- No slice in it: it reads the same wherever it stands. -/
def Ty.flat : Ty → Bool
  | .slice _ => false
  | .arr _ e => e.flat
  | .pair a b => a.flat && b.flat
  | _ => true

def flatSig : List Si → Bool
  | [] => true
  | .dat _ T :: g => T.flat && flatSig g
  | .ref _ _ _ :: g => flatSig g
  | .box _ T :: g => T.flat && flatSig g
  | .row _ _ e :: g => e.flat && flatSig g
  | .bor _ _ T :: g => T.flat && flatSig g

def nmN (dst j : Nat) : Nat := dst + 100000 * j

def bnd {α β : Type} (x : Option α) (k : α → Option β) : Option β :=
  match x with
  | none => none
  | some u => k u

def Ent.isUn : Ent → Bool
  | .un => true
  | _ => false

def killW (sl : List AV) : Nat → List Ai → List (Nat × Ent)
  | _, [] => []
  | j, .row _ :: as => match getAt .bad sl j with
    | .ow q _ _ => (q, .dead) :: killW sl (j + 1) as
    | _ => killW sl (j + 1) as
  | j, .dat _ :: as => killW sl (j + 1) as
  | j, .ptr _ :: as => killW sl (j + 1) as
def borP (sl : List AV) : Nat → List Ai → List (Nat × Nat)
  | _, [] => []
  | j, .ptr _ :: as => match getAt .bad sl j with
    | .po q _ _ => (q, nmA j) :: borP sl (j + 1) as
    | _ => borP sl (j + 1) as
  | j, .dat _ :: as => borP sl (j + 1) as
  | j, .row _ :: as => borP sl (j + 1) as
def backW (sl : List AV) : (j : Nat) → (as : List Ai) → Dens (boxSig j as) → List (Nat × Ent)
  | _, [], _ => []
  | j, .ptr T :: as, y => match getAt .bad sl j with
    | .po q _ _ => (q, .live (.box T (.data T y.1))) :: backW sl (j + 1) as y.2
    | _ => backW sl (j + 1) as y.2
  | j, .dat _ :: as, y => backW sl (j + 1) as y
  | j, .row _ :: as, y => backW sl (j + 1) as y
def newP (nm : Nat → Nat) : Nat → List (Nat × Oi) → List (Nat × Nat)
  | _, [] => []
  | j, (_, .row _) :: os => (nm j, nmO j) :: newP nm (j + 1) os
  | j, (_, .dat _) :: os => newP nm (j + 1) os
def newW (nm : Nat → Nat) : (j : Nat) → (os : List (Nat × Oi)) → (g : List Si) → Dens (outSig j os g) → List (Nat × Ent)
  | _, [], _, _ => []
  | j, (_, .dat _) :: os, g, u => newW nm (j + 1) os g u.2
  | j, (_, .row e) :: os, g, u => (nm j, .live (.row e u.1)) :: newW nm (j + 1) os g u.2
def tailD : (j : Nat) → (os : List (Nat × Oi)) → (g : List Si) → Dens (outSig j os g) → Dens g
  | _, [], _, u => u
  | j, (_, .dat _) :: os, g, u => tailD (j + 1) os g u.2
  | j, (_, .row _) :: os, g, u => tailD (j + 1) os g u.2

def sigsOk (as : List Ai) (os : List (Nat × Oi)) : Bool := nodup (namesOf (inSig 0 as)) && nodup (namesOf (gOut as os))

def mkEntry (fid : Nat) (as : List Ai) (os : List (Nat × Oi)) (f : DIn as → Option (DOut as os)) : Entry where
  fid := fid
  run := fun _ dst args look k =>
    if args.length = as.length ∧ sigsOk as os = true then
      match extr ⟨args, []⟩ look (inSig 0 as) with
      | none => none
      | some (v, rs, qs) =>
        if nodup qs = true ∧ meets qs rs = false then
          bnd (f v) fun u =>
            if ((newP (nmN dst) 0 os).all fun p => (look p.1).isUn) = true then
              k (oneAV (outAVs (nmN dst) 0 os (boxSig 0 as) u)) (rs ++ qs ++ (newP (nmN dst) 0 os).map Prod.fst)
                ((if flatSig (gOut as os) = true then [] else shut look rs) ++ (killW args 0 as ++ (backW args 0 as (tailD 0 os (boxSig 0 as) u) ++ newW (nmN dst) 0 os (boxSig 0 as) u)))
            else none
        else none
    else none

section
variable {P : Program} {P0 S0 : Nat → Prop} {w : World}

theorem RdL_flat {α : Type} {R R' : α → List Value → Prop} (h : ∀ x c, R x c → R' x c) {l : List α} {cs : List Value} (k : RdL R l cs) : RdL R' l cs := RdL.mono h _ _ k

theorem Rd_flat {S S' : Nat → Prop} {w w' : World} : ∀ (T : Ty) (x : Den T) (cs : List Value), T.flat = true → Rd S w T x cs → Rd S' w' T x cs
  | .int _, _, _, _, k => k
  | .bool, _, _, _, k => k
  | .str, _, _, _, k => k
  | .slice e, _, _, h, _ => by simp [Ty.flat] at h
  | .arr n e, l, cs, h, k => ⟨k.1, RdL.mono (fun x c => Rd_flat e x c h) _ _ k.2⟩
  | .pair a b, x, cs, h, k => by
    unfold Ty.flat at h
    rw [Bool.and_eq_true] at h
    obtain ⟨c1, c2, e, h1, h2⟩ := k
    exact ⟨c1, c2, e, Rd_flat a _ _ h.1 h1, Rd_flat b _ _ h.2 h2⟩
  | .unit, _, _, _, k => k
  | .opq _, _, _, _, k => k

theorem findW_append (r : Nat) : ∀ (a b : List (Nat × Ent)), findW r (a ++ b) = match findW r a with | some e => some e | none => findW r b
  | [], b => rfl
  | (q, e) :: a, b => by
    simp only [List.cons_append, findW]
    split
    · rfl
    · exact findW_append r a b

theorem findW_mem {q : Nat} {e : Ent} : ∀ {l : List (Nat × Ent)}, findW q l = some e → (q, e) ∈ l
  | [], h => by simp [findW] at h
  | (q', e') :: l, h => by
    simp only [findW] at h
    split at h
    · rename_i hqq
      injection h with h; subst h
      have : q = q' := by simpa using hqq
      subst this; exact List.mem_cons_self
    · exact List.mem_cons_of_mem _ (findW_mem h)

theorem heapOf_mem {g : List Si} {v : Dens g} {c : Nat} {e : Ent} (hn : nodup (namesOf g) = true) (h : (c, e) ∈ heapAll g v) : heapOf g v c = e := by
  have key : ∀ (l : List (Nat × Ent)), nodup (l.map Prod.fst) = true → (c, e) ∈ l → findW c l = some e := by
    intro l
    induction l with
    | nil => intro _ h; simp at h
    | cons x l ih =>
      obtain ⟨q, e'⟩ := x
      intro hn h
      obtain ⟨h1, h2⟩ := nodup_cons hn
      simp only [findW]
      rcases List.mem_cons.1 h with h | h
      · injection h with h3 h4; subst h3 h4; simp
      · have : c ≠ q := fun hh => h1 (hh ▸ List.mem_map.2 ⟨_, h, rfl⟩)
        rw [if_neg (by simpa using this)]
        exact ih h2 h
  unfold heapOf
  rw [updL_findW, key _ (by rw [heap_names]; exact hn) h]

theorem back_mem {sl : List AV} : ∀ (as : List Ai) (j : Nat) (y : Dens (boxSig j as)) (r : Nat) (e : Ent), (r, e) ∈ backW sl j as y → ∃ c T x, (r, c) ∈ borP sl j as ∧ e = .live (.box T (.data T x)) ∧ (c, e) ∈ heapAll (boxSig j as) y ∧ (flatSig (boxSig j as) = true → T.flat = true)
  | [], _, _, r, e, h => by simp [backW] at h
  | .dat _ :: as, j, y, r, e, h => back_mem as (j + 1) y r e h
  | .row _ :: as, j, y, r, e, h => back_mem as (j + 1) y r e h
  | .ptr T :: as, j, y, r, e, h => by
    have tl : (r, e) ∈ backW sl (j + 1) as y.2 → ∃ c T' x, (r, c) ∈ borP sl (j + 1) as ∧ e = .live (.box T' (.data T' x)) ∧ (c, e) ∈ heapAll (boxSig j (.ptr T :: as)) y ∧ (flatSig (boxSig j (.ptr T :: as)) = true → T'.flat = true) := by
      intro h
      obtain ⟨c, T', x, h1, h2, h3, h4⟩ := back_mem as (j + 1) y.2 r e h
      exact ⟨c, T', x, h1, h2, List.mem_cons_of_mem _ h3, fun hf => h4 (by simp only [boxSig, flatSig, Bool.and_eq_true] at hf; exact hf.2)⟩
    unfold backW at h
    split at h
    · rename_i q l p hv
      rcases List.mem_cons.1 h with h | h
      · injection h with h1 h2; subst h1 h2
        exact ⟨nmA j, T, y.1, by unfold borP; rw [hv]; simp, rfl, List.mem_cons_self, fun hf => by simp only [boxSig, flatSig, Bool.and_eq_true] at hf; exact hf.1⟩
      · obtain ⟨c, T', x, h1, h2⟩ := tl h
        exact ⟨c, T', x, by unfold borP; rw [hv]; simp [h1], h2⟩
    · rename_i hv
      obtain ⟨c, T', x, h1, h2⟩ := tl h
      refine ⟨c, T', x, ?_, h2⟩
      unfold borP
      split
      · rename_i q l p hv'; exact absurd hv' (hv q l p)
      · exact h1

theorem back_names {sl : List AV} : ∀ (as : List Ai) (j : Nat) (y : Dens (boxSig j as)), (backW sl j as y).map Prod.fst = (borP sl j as).map Prod.fst
  | [], _, _ => rfl
  | .dat _ :: as, j, y => back_names as (j + 1) y
  | .row _ :: as, j, y => back_names as (j + 1) y
  | .ptr T :: as, j, y => by
    unfold backW borP
    split
    · simp [back_names as (j + 1) y.2]
    · exact back_names as (j + 1) y.2

theorem new_mem {nm : Nat → Nat} {g : List Si} : ∀ (os : List (Nat × Oi)) (j : Nat) (u : Dens (outSig j os g)) (r : Nat) (e : Ent), (r, e) ∈ newW nm j os g u → ∃ c T l, (r, c) ∈ newP nm j os ∧ e = .live (.row T l) ∧ (c, e) ∈ heapAll (outSig j os g) u ∧ (flatSig (outSig j os g) = true → T.flat = true)
  | [], _, _, r, e, h => by simp [newW] at h
  | (t, .dat T) :: os, j, u, r, e, h => by
    obtain ⟨c, T', l, h1, h2, h3, h4⟩ := new_mem os (j + 1) u.2 r e h
    exact ⟨c, T', l, h1, h2, h3, fun hf => h4 (by simp only [outSig, flatSig, Bool.and_eq_true] at hf; exact hf.2)⟩
  | (t, .row T) :: os, j, u, r, e, h => by
    simp only [newW] at h
    rcases List.mem_cons.1 h with h | h
    · injection h with h1 h2; subst h1 h2
      exact ⟨nmO j, T, u.1, by simp [newP], rfl, List.mem_cons_self, fun hf => by simp only [outSig, flatSig, Bool.and_eq_true] at hf; exact hf.1⟩
    · obtain ⟨c, T', l, h1, h2, h3, h4⟩ := new_mem os (j + 1) u.2 r e h
      exact ⟨c, T', l, by simp [newP, h1], h2, List.mem_cons_of_mem _ h3, fun hf => h4 (by simp only [outSig, flatSig, Bool.and_eq_true] at hf; exact hf.2)⟩

theorem new_names {nm : Nat → Nat} {g : List Si} : ∀ (os : List (Nat × Oi)) (j : Nat) (u : Dens (outSig j os g)), (newW nm j os g u).map Prod.fst = (newP nm j os).map Prod.fst
  | [], _, _ => rfl
  | (t, .dat T) :: os, j, u => new_names os (j + 1) u.2
  | (t, .row T) :: os, j, u => by simp [newW, newP, new_names os (j + 1) u.2]

theorem tail_mem {g : List Si} : ∀ (os : List (Nat × Oi)) (j : Nat) (u : Dens (outSig j os g)) (p : Nat × Ent), p ∈ heapAll g (tailD j os g u) → p ∈ heapAll (outSig j os g) u
  | [], _, _, p, h => h
  | (t, .dat T) :: os, j, u, p, h => tail_mem os (j + 1) u.2 p h
  | (t, .row T) :: os, j, u, p, h => List.mem_cons_of_mem _ (tail_mem os (j + 1) u.2 p h)

theorem tail_flat {g : List Si} : ∀ (os : List (Nat × Oi)) (j : Nat), flatSig (outSig j os g) = true → flatSig g = true
  | [], _, h => h
  | (t, .dat T) :: os, j, h => tail_flat os (j + 1) (by simp only [outSig, flatSig, Bool.and_eq_true] at h; exact h.2)
  | (t, .row T) :: os, j, h => tail_flat os (j + 1) (by simp only [outSig, flatSig, Bool.and_eq_true] at h; exact h.2)

theorem kill_mem {sl : List AV} {look : Nat → Ent} : ∀ (as : List Ai) (j : Nat) (v : Dens (inSig j as)) (rs qs : List Nat), extr ⟨sl, []⟩ look (inSig j as) = some (v, rs, qs) →
    (∀ r e, (r, e) ∈ killW sl j as → e = .dead ∧ r ∈ qs) ∧ (∀ r c, (r, c) ∈ borP sl j as → r ∈ qs ∧ c ∈ bnOf j as) ∧ (∀ q ∈ qs, q ∈ (killW sl j as).map Prod.fst ∨ q ∈ (borP sl j as).map Prod.fst) ∧
    (∀ q ∈ qs, (look q).isLive = true)
  | [], j, v, rs, qs, h => by
    simp only [inSig, extr] at h
    injection h with h; injection h with _ h; injection h with _ h; subst h
    simp [killW, borP]
  | .dat T :: as, j, v, rs, qs, h => by
    obtain ⟨r1, r2, _, _, e2⟩ := extr_dat h
    exact kill_mem as (j + 1) v.2 r2 qs e2
  | .row e :: as, j, v, rs, qs, h => by
    rcases extr_row h with ⟨e', hv, _, e2⟩ | ⟨q, qs', hv, hl, eq, e2⟩
    · obtain ⟨k1, k2, k3, k4⟩ := kill_mem as (j + 1) v.2 rs qs e2
      have e0 : killW sl j (.row e :: as) = killW sl (j + 1) as := by
        conv => lhs; unfold killW
        simp only at hv; rw [hv]
      rw [e0]
      exact ⟨k1, k2, k3, k4⟩
    · obtain ⟨k1, k2, k3, k4⟩ := kill_mem as (j + 1) v.2 rs qs' e2
      have e0 : killW sl j (.row e :: as) = (q, .dead) :: killW sl (j + 1) as := by
        conv => lhs; unfold killW
        simp only at hv; rw [hv]
      rw [e0, eq]
      refine ⟨fun r e' h => ?_, fun r c h => ?_, fun q' h => ?_, fun q' h => ?_⟩
      · rcases List.mem_cons.1 h with h | h
        · injection h with h1 h2; exact ⟨h2, by simp [h1]⟩
        · exact ⟨(k1 r e' h).1, List.mem_cons_of_mem _ (k1 r e' h).2⟩
      · exact ⟨List.mem_cons_of_mem _ (k2 r c h).1, (k2 r c h).2⟩
      · rcases List.mem_cons.1 h with h | h
        · left; simp [h]
        · exact (k3 q' h).imp (fun h => List.mem_cons_of_mem _ h) id
      · rcases List.mem_cons.1 h with h | h
        · rw [h, hl]; rfl
        · exact k4 q' h
  | .ptr T :: as, j, v, rs, qs, h => by
    obtain ⟨q, c, r1, r2, qs', hv, hl, e1, eq, hres, e2⟩ := extr_bor h
    obtain ⟨k1, k2, k3, k4⟩ := kill_mem as (j + 1) v.2 r2 qs' e2
    have e0 : borP sl j (.ptr T :: as) = (q, nmA j) :: borP sl (j + 1) as := by
      conv => lhs; unfold borP
      simp only at hv; rw [hv]
    have e3 : killW sl j (.ptr T :: as) = killW sl (j + 1) as := rfl
    rw [e0, e3, eq]
    refine ⟨fun r e' h => ⟨(k1 r e' h).1, List.mem_cons_of_mem _ (k1 r e' h).2⟩, fun r c' h => ?_, fun q' h => ?_, fun q' h => ?_⟩
    · rcases List.mem_cons.1 h with h | h
      · injection h with h1 h2; exact ⟨by simp [h1], by simp [bnOf, h2]⟩
      · exact ⟨List.mem_cons_of_mem _ (k2 r c' h).1, List.mem_cons_of_mem _ (k2 r c' h).2⟩
    · rcases List.mem_cons.1 h with h | h
      · right; simp [h]
      · exact (k3 q' h).imp id (fun h => List.mem_cons_of_mem _ h)
    · rcases List.mem_cons.1 h with h | h
      · rw [h, hl]; rfl
      · exact k4 q' h

theorem bor_kept {sl : List AV} {E Ec : Env} : ∀ (as : List Ai) (j : Nat), KeptOk E ⟨sl, []⟩ Ec (inSig j as) → ∀ r c, (r, c) ∈ borP sl j as → Ec.U c ∧ Ec.β c = E.β r ∧ Ec.L c = E.L r
  | [], j, h, r, c, hm => by simp [borP] at hm
  | .dat T :: as, j, h, r, c, hm => bor_kept as (j + 1) h r c hm
  | .row e :: as, j, h, r, c, hm => bor_kept as (j + 1) h.2 r c hm
  | .ptr T :: as, j, ⟨⟨h1, h2⟩, h3⟩, r, c, hm => by
    unfold borP at hm
    split at hm
    · rename_i q l p hv
      rcases List.mem_cons.1 hm with hm | hm
      · injection hm with e1 e2; subst e1 e2
        exact ⟨h1, h2 _ _ _ hv⟩
      · exact bor_kept as (j + 1) h3 r c hm
    · exact bor_kept as (j + 1) h3 r c hm

theorem bor_inj {sl : List AV} : ∀ (as : List Ai) (j : Nat) (r c : Nat), (r, c) ∈ borP sl j as → ∃ i l p, j ≤ i ∧ c = nmA i ∧ getAt .bad sl i = .po r l p
  | [], j, r, c, hm => by simp [borP] at hm
  | .dat T :: as, j, r, c, hm => by obtain ⟨i, l, p, h1, h2⟩ := bor_inj as (j + 1) r c hm; exact ⟨i, l, p, by omega, h2⟩
  | .row e :: as, j, r, c, hm => by obtain ⟨i, l, p, h1, h2⟩ := bor_inj as (j + 1) r c hm; exact ⟨i, l, p, by omega, h2⟩
  | .ptr T :: as, j, r, c, hm => by
    unfold borP at hm
    split at hm
    · rename_i q l p hv
      rcases List.mem_cons.1 hm with hm | hm
      · injection hm with e1 e2; subst e1 e2
        exact ⟨j, l, p, Nat.le_refl _, rfl, hv⟩
      · obtain ⟨i, l, p, h1, h2⟩ := bor_inj as (j + 1) r c hm; exact ⟨i, l, p, by omega, h2⟩
    · obtain ⟨i, l, p, h1, h2⟩ := bor_inj as (j + 1) r c hm; exact ⟨i, l, p, by omega, h2⟩

theorem new_inj {nm : Nat → Nat} : ∀ (os : List (Nat × Oi)) (j : Nat) (r c : Nat), (r, c) ∈ newP nm j os → ∃ i, c = nmO i ∧ r = nm i
  | [], j, r, c, hm => by simp [newP] at hm
  | (_, .dat _) :: os, j, r, c, hm => new_inj os (j + 1) r c hm
  | (_, .row _) :: os, j, r, c, hm => by
    simp only [newP] at hm
    rcases List.mem_cons.1 hm with hm | hm
    · injection hm with e1 e2; exact ⟨j, e2, e1⟩
    · exact new_inj os (j + 1) r c hm

theorem in_boxes : ∀ (as : List Ai) (j : Nat), boxesOf (inSig j as) = []
  | [], _ => rfl
  | .dat T :: as, j => in_boxes as (j + 1)
  | .row e :: as, j => in_boxes as (j + 1)
  | .ptr T :: as, j => in_boxes as (j + 1)

/-- The arguments in the callee's words. -/
theorem args_in {E E1 Ec : Env} {sl : List AV} {look : Nat → Ent} {rs0 : List Nat} (h : HREL P0 S0 E look w) (x1 : Ext P0 E w E1 w)
    (hsh : ∀ r ∈ rs0, ∀ T l, look r = .live (.row T l) → ∀ b, E.β r = some b → E1.S b) (hS : Ec.S = E1.S) :
    ∀ (as : List Ai) (j : Nat) (v : Dens (inSig j as)) (rs qs : List Nat) (vals : List Value), extr ⟨sl, []⟩ look (inSig j as) = some (v, rs, qs) → (∀ r ∈ rs, r ∈ rs0) → KeptOk E ⟨sl, []⟩ Ec (inSig j as) →
      vals.length = as.length → (∀ i, i < as.length → V E w (getAt .bad sl (j + i)) (vals.getD i undef)) → C Ec w (listAV (argAVs j as v)) vals
  | [], j, v, rs, qs, vals, he, hr, hk, hl, hv => by
    have : vals = [] := List.eq_nil_of_length_eq_zero hl
    subst this; rfl
  | .dat T :: as, j, v, rs, qs, [], he, hr, hk, hl, hv => by simp at hl
  | .row e :: as, j, v, rs, qs, [], he, hr, hk, hl, hv => by simp at hl
  | .ptr T :: as, j, v, rs, qs, [], he, hr, hk, hl, hv => by simp at hl
  | .dat T :: as, j, v, rs, qs, x :: vals, he, hr, hk, hl, hv => by
    obtain ⟨r1, r2, e1, hres, e2⟩ := extr_dat he
    have h0 := hv 0 (by simp)
    refine ⟨x, vals, rfl, V_res h x1 hsh hres (fun r hr' => hr r (by simp [e1, hr'])) h0 hS, ?_⟩
    exact args_in h x1 hsh hS as (j + 1) v.2 r2 qs vals e2 (fun r hr' => hr r (by simp [e1, hr'])) hk (by simpa using hl) (fun i hi => by
      have := hv (i + 1) (by simp; omega)
      rw [show j + (i + 1) = j + 1 + i by omega] at this; simpa using this)
  | .row e :: as, j, v, rs, qs, x :: vals, he, hr, ⟨hk1, hk2⟩, hl, hv => by
    have h0 := hv 0 (by simp)
    have h1 : V E w (getAt .bad sl j) x := by simpa using h0
    rcases extr_row he with ⟨e', hva, hnil, e2⟩ | ⟨q, qs', hva, hl1, eq, e2⟩
    · refine ⟨x, vals, rfl, ?_, args_in h x1 hsh hS as (j + 1) v.2 rs qs vals e2 hr hk2 (by simpa using hl) (fun i hi => by
        have := hv (i + 1) (by simp; omega)
        rw [show j + (i + 1) = j + 1 + i by omega] at this; simpa using this)⟩
      simp only at hva
      simp only [hva] at hk1
      rw [hva, V_one rfl] at h1
      simp only [C] at h1
      injection h1 with h1 _
      simp only [AV.isAgg, Bool.false_eq_true, if_false]
      rw [h1]
      refine ⟨none, 0, 0, rfl, hk1.1, fun L hL' => ?_⟩
      rw [hk1.2.2] at hL'
      injection hL' with hL'; subst hL'
      rw [hk1.2.1]
      exact ⟨rfl, 0, ⟨rfl, rfl⟩, Nat.le_refl _, rfl⟩
    · refine ⟨x, vals, rfl, ?_, args_in h x1 hsh hS as (j + 1) v.2 rs qs' vals e2 hr hk2 (by simpa using hl) (fun i hi => by
        have := hv (i + 1) (by simp; omega)
        rw [show j + (i + 1) = j + 1 + i by omega] at this; simpa using this)⟩
      simp only at hva
      simp only [hva] at hk1
      rw [hva, V_one rfl] at h1
      simp only [AV.isAgg, Bool.false_eq_true, if_false]
      obtain ⟨a, len, cap, ea, hu, hL⟩ := h1
      refine ⟨a, len, cap, ea, hk1.1, fun L hL' => ?_⟩
      rw [hk1.2.1]
      exact hL L (hk1.2.2 ▸ hL')
  | .ptr T :: as, j, v, rs, qs, x :: vals, he, hr, ⟨hk1, hk2⟩, hl, hv => by
    have h0 := hv 0 (by simp)
    have h1 : V E w (getAt .bad sl j) x := by simpa using h0
    obtain ⟨q, c, r1, r2, qs', hva, hl0, e1, eq, hres, e2⟩ := extr_bor he
    refine ⟨x, vals, rfl, ?_, args_in h x1 hsh hS as (j + 1) v.2 r2 qs' vals e2 (fun r hr' => hr r (by simp [e1, hr'])) hk2 (by simpa using hl) (fun i hi => by
        have := hv (i + 1) (by simp; omega)
        rw [show j + (i + 1) = j + 1 + i by omega] at this; simpa using this)⟩
    obtain ⟨k1, k2⟩ := hk1.2 q _ _ hva
    simp only at hva
    rw [hva, V_one rfl] at h1
    simp only [AV.isAgg, Bool.false_eq_true, if_false]
    obtain ⟨a, ea, hu, hL⟩ := h1
    exact ⟨a, ea, hk1.1, fun L hL' => by rw [k1]; exact hL L (k2 ▸ hL')⟩


def lookN (r : Nat) : List (Nat × Nat) → Option Nat
  | [] => none
  | (q, c) :: t => if r == q then some c else lookN r t

theorem lookN_mem {r c : Nat} : ∀ {l : List (Nat × Nat)}, lookN r l = some c → (r, c) ∈ l
  | [], h => by simp [lookN] at h
  | (q, c') :: l, h => by
    simp only [lookN] at h
    split at h
    · rename_i hh
      injection h with h; subst h
      have : r = q := by simpa using hh
      subst this; simp
    · exact List.mem_cons_of_mem _ (lookN_mem h)
theorem lookN_none {r : Nat} : ∀ {l : List (Nat × Nat)}, r ∉ l.map Prod.fst → lookN r l = none
  | [], _ => rfl
  | (q, c) :: t, h => by
    simp only [List.map_cons, List.mem_cons, not_or] at h
    simp only [lookN]
    rw [if_neg (by simpa using h.1)]
    exact lookN_none h.2
theorem lookN_some {r : Nat} : ∀ {l : List (Nat × Nat)}, r ∈ l.map Prod.fst → ∃ c, lookN r l = some c
  | [], h => by simp at h
  | (q, c) :: t, h => by
    simp only [lookN]
    split
    · exact ⟨c, rfl⟩
    · rename_i hne
      simp only [List.map_cons, List.mem_cons] at h
      rcases h with h | h
      · exact absurd (by simpa using h) hne
      · exact lookN_some h

theorem outs_back {E' E'' : Env} {w' : World} {nm : Nat → Nat} {g : List Si} {flat : Bool} (hS : flat = false → E''.S = E'.S) :
    ∀ (os : List (Nat × Oi)) (j : Nat) (u : Dens (outSig j os g)) (vs : List Value), (flat = true → flatSig (outSig j os g) = true) → (∀ r c, (r, c) ∈ newP nm j os → E''.U r ∧ E''.β r = E'.β c ∧ E''.L r = E'.L c) →
      C E' w' (listAV (outAVs nmO j os g u)) vs → C E'' w' (listAV (outAVs nm j os g u)) vs
  | [], _, _, _, _, _, h => h
  | (t, .dat T) :: os, j, u, vs, hf, hp, ⟨x, vs', e, h1, h2⟩ => by
    refine ⟨x, vs', e, ?_, outs_back hS os (j + 1) u.2 vs' (fun h => by have := hf h; simp only [outSig, flatSig, Bool.and_eq_true] at this; exact this.2) hp h2⟩
    have key : ∀ cs, C E' w' (.data T u.1) cs → C E'' w' (.data T u.1) cs := by
      intro cs hc
      cases flat with
      | false => change Rd E''.S w' T u.1 cs; rw [hS rfl]; exact hc
      | true =>
        have := hf rfl
        simp only [outSig, flatSig, Bool.and_eq_true] at this
        exact Rd_flat T _ _ this.1 hc
    split at h1
    · rename_i ha; rw [if_pos ha]; obtain ⟨c, hc, h1⟩ := h1; exact ⟨c, hc, key _ h1⟩
    · rename_i ha; rw [if_neg ha]; exact key _ h1
  | (t, .row T) :: os, j, u, vs, hf, hp, ⟨x, vs', e, h1, h2⟩ => by
    obtain ⟨p1, p2, p3⟩ := hp (nm j) (nmO j) (by simp [newP])
    refine ⟨x, vs', e, ?_, outs_back hS os (j + 1) u.2 vs' (fun h => by have := hf h; simp only [outSig, flatSig, Bool.and_eq_true] at this; exact this.2) (fun r c hm => hp r c (by simp [newP, hm])) h2⟩
    simp only [AV.isAgg, Bool.false_eq_true, if_false] at h1 ⊢
    obtain ⟨a, len, cap, ea, hu, hL⟩ := h1
    exact ⟨a, len, cap, ea, p1, fun L hL' => by rw [p2]; exact hL L (p3 ▸ hL')⟩

theorem one_back {E' E'' : Env} {w' : World} : ∀ (l l' : List AV) (x : Value), l.length = l'.length → (∀ vs, C E' w' (listAV l) vs → C E'' w' (listAV l') vs) → V E' w' (oneAV l) x → V E'' w' (oneAV l') x
  | [], [], x, _, h, hv => by
    simp only [oneAV] at hv ⊢
    rw [V_one rfl] at hv ⊢
    obtain ⟨vs, e, h1⟩ := hv
    exact ⟨vs, e, h _ h1⟩
  | [a], [b], x, _, h, hv => by
    simp only [oneAV] at hv ⊢
    obtain ⟨y, vs, e, h1, h2⟩ := h [x] ⟨x, [], rfl, hv, rfl⟩
    injection e with e1 e2; subst e1
    exact h1
  | a :: a2 :: l, b :: b2 :: l', x, _, h, hv => by
    simp only [oneAV] at hv ⊢
    rw [V_one rfl] at hv ⊢
    obtain ⟨vs, e, h1⟩ := hv
    exact ⟨vs, e, h _ h1⟩
  | [], _ :: _, x, hl, _, _ => by simp at hl
  | _ :: _, [], x, hl, _, _ => by simp at hl
  | [_], _ :: _ :: _, x, hl, _, _ => by simp at hl
  | _ :: _ :: _, [_], x, hl, _, _ => by simp at hl

theorem outs_length (nm : Nat → Nat) : ∀ (j : Nat) (os : List (Nat × Oi)) (g : List Si) (u : Dens (outSig j os g)), (outAVs nm j os g u).length = os.length
  | _, [], _, _ => rfl
  | j, (_, .dat _) :: os, g, u => by simp [outAVs, outs_length nm (j + 1) os g u.2]
  | j, (_, .row _) :: os, g, u => by simp [outAVs, outs_length nm (j + 1) os g u.2]

/-- The caller behind a call. -/
theorem entry_post {E E1 Ec E' : Env} {w' : World} {look : Nat → Ent} {args : List AV} {as : List Ai} {os : List (Nat × Oi)} {v : DIn as} {u : DOut as os} {rs qs : List Nat} {nm : Nat → Nat} {x : Value}
    (h : HREL P0 S0 E look w) (he : extr ⟨args, []⟩ look (inSig 0 as) = some (v, rs, qs)) (hq1 : nodup qs = true) (hq2 : meets qs rs = false) (hso : sigsOk as os = true)
    (h1 : HREL P0 S0 E1 (updL (Va.shut look rs) look) w) (x1 : Ext P0 E w E1 w) (b1 : ∀ r, E1.β r = E.β r) (s1 : ∀ r ∈ rs, ∀ T l, look r = .live (.row T l) → ∀ b, E.β r = some b → E1.S b)
    (hS : Ec.S = E1.S) (hk : KeptOk E ⟨args, []⟩ Ec (inSig 0 as)) (hun : ∀ p ∈ newP nm 0 os, look p.1 = .un) (hnm : ∀ i j, nm i = nm j → i = j)
    (h' : HREL (fun b => P0 b ∨ ∃ r, r ∉ qs ∧ (look r).isLive = true ∧ E.β r = some b) E1.S E' (heapOf (gOut as os) u) w')
    (hp : Pub (bnOf 0 as) (fun b => P0 b ∨ ∃ r, r ∉ qs ∧ (look r).isLive = true ∧ E.β r = some b) Ec w E' w') (hv : V E' w' (oneAV (outAVs nmO 0 os (boxSig 0 as) u)) x) :
    OpPost P0 S0 E look w (oneAV (outAVs nm 0 os (boxSig 0 as) u)) ((if flatSig (gOut as os) = true then [] else shut look rs) ++ (killW args 0 as ++ (backW args 0 as (tailD 0 os (boxSig 0 as) u) ++ newW nm 0 os (boxSig 0 as) u))) x w' := by
  unfold sigsOk at hso
  rw [Bool.and_eq_true] at hso
  obtain ⟨hn1, hn2⟩ := hso
  obtain ⟨m1, m2, m3, m4⟩ := kill_mem as 0 v rs qs he
  have hbk := bor_kept as 0 hk
  have hsE : ∀ b, E1.S b → E'.S b := fun b hb => hp.s b (hS ▸ hb)
  have hqlive := m4
  -- the names of the new rows
  have hnew_un : ∀ r c, (r, c) ∈ newP nm 0 os → look r = .un := fun r c hm => hun (r, c) hm
  have hlook : ∀ r, look r ≠ .un → lookN r (newP nm 0 os) = none := by
    intro r hr
    refine lookN_none (fun hm => ?_)
    obtain ⟨⟨r', c⟩, h2, h3⟩ := List.mem_map.1 hm
    simp only at h3; subst h3
    exact hr (hnew_un _ _ h2)
  have hpair : ∀ r c, (r, c) ∈ newP nm 0 os → lookN r (newP nm 0 os) = some c := by
    intro r c hm
    obtain ⟨c', hc'⟩ := lookN_some (List.mem_map.2 ⟨(r, c), hm, rfl⟩)
    obtain ⟨i, e1, e2⟩ := new_inj os 0 r c hm
    obtain ⟨i', e3, e4⟩ := new_inj os 0 r c' (lookN_mem hc')
    have : i = i' := hnm _ _ (e2.symm.trans e4)
    rw [hc', e1, e3, this]
  let E2 : Env := { β := fun r => match lookN r (newP nm 0 os) with
                      | some c => E'.β c
                      | none => E.β r
                    L := fun r => match lookN r (newP nm 0 os) with
                      | some c => E'.L c
                      | none => if (killW args 0 as).any (fun p => p.1 == r) = true then none else E.L r
                    U := fun r => E.U r ∨ (lookN r (newP nm 0 os)).isSome = true
                    S := if flatSig (gOut as os) = true then E.S else E'.S }
  have e2β : ∀ r, look r ≠ .un → E2.β r = E.β r := fun r hr => by simp only [E2, hlook r hr]
  have e2L : ∀ r, look r ≠ .un → r ∉ (killW args 0 as).map Prod.fst → E2.L r = E.L r := fun r hr hk' => by
    simp only [E2, hlook r hr]
    rw [if_neg]
    intro hh
    obtain ⟨p, hp1, hp2⟩ := List.any_eq_true.1 hh
    exact hk' (List.mem_map.2 ⟨p, hp1, by simpa using hp2⟩)
  have e2Lk : ∀ r, look r ≠ .un → r ∈ (killW args 0 as).map Prod.fst → E2.L r = none := fun r hr hk' => by
    simp only [E2, hlook r hr]
    obtain ⟨p, hp1, hp2⟩ := List.mem_map.1 hk'
    rw [if_pos (List.any_eq_true.2 ⟨p, hp1, by simpa using hp2⟩)]
  have e2S : ∀ b, E2.S b → E'.S b := fun b hb => by
    simp only [E2] at hb
    split at hb
    · exact hsE b (x1.s b hb)
    · exact hb
  have sE2 : ∀ b, E.S b → E2.S b := fun b hb => by
    simp only [E2]
    split
    · exact hb
    · exact hsE b (x1.s b hb)
  have hx : Ext P0 E w E2 w' := by
    refine ⟨sE2, hp.keep.mono (fun b hb => by rw [hS]; exact x1.s b hb), hp.keepP.mono (fun b hb => .inl hb), fun r hr => ?_⟩
    have hne := (h.U_iff r).1 hr
    refine ⟨.inl hr, ?_⟩
    by_cases hkr : r ∈ (killW args 0 as).map Prod.fst
    · exact .inl (e2Lk r hne hkr)
    · exact .inr ⟨e2L r hne hkr, e2β r hne⟩
  -- lent variables
  have hbor : ∀ r c, (r, c) ∈ borP args 0 as → E'.U c ∧ (E'.L c = none ∨ (E'.L c = E.L r ∧ E'.β c = E.β r)) := by
    intro r c hm
    obtain ⟨k1, k2, k3⟩ := hbk r c hm
    obtain ⟨o1, o2⟩ := hp.obj c (m2 r c hm).2 k1
    exact ⟨o1, o2.imp id (fun hh => ⟨hh.1.trans k3, hh.2.trans k2⟩)⟩
  have hdata : ∀ {T : Ty} {d : Den T} {cs : List Value}, (flatSig (gOut as os) = true → T.flat = true) → Rd E'.S w' T d cs → Rd E2.S w' T d cs := by
    intro T d cs hf hr
    by_cases hfl : flatSig (gOut as os) = true
    · exact Rd_flat T _ _ (hf hfl) hr
    · have : E2.S = E'.S := by simp only [E2]; rw [if_neg hfl]
      rw [this]; exact hr
  -- an object that the callee has told
  have hback : ∀ r c T d, (r, c) ∈ borP args 0 as → heapOf (gOut as os) u c = .live (.box T (.data T d)) → (flatSig (gOut as os) = true → T.flat = true) → OREL E2 w' r (.box T (.data T d)) ∧ E'.β c = E.β r := by
    intro r c T d hm hl hf
    have hent := h'.ent c
    rw [hl] at hent
    obtain ⟨_, b, cs, t, fr, k1, k2, k3, k4, k5, k6⟩ := hent
    obtain ⟨_, ho⟩ := hbor r c hm
    rcases ho with ho | ⟨ho1, ho2⟩
    · rw [ho] at k2; exact absurd k2 (by simp)
    · have hne : look r ≠ .un := by
        intro hh
        have := hqlive r (m2 r c hm).1
        rw [hh] at this; simp [Ent.isLive] at this
      have hnk : r ∉ (killW args 0 as).map Prod.fst := by
        intro hkm
        obtain ⟨⟨r', e⟩, hk1, hk2⟩ := List.mem_map.1 hkm
        simp only at hk2; subst hk2
        -- killed names and lent names are apart: in qs once
        have : ∀ (as : List Ai) (j : Nat) (v : Dens (inSig j as)) (rs qs : List Nat), extr ⟨args, []⟩ look (inSig j as) = some (v, rs, qs) → ∀ r e, (r, e) ∈ killW args j as → ∃ T l, look r = .live (.row T l) := by
          intro as
          induction as with
          | nil => intro j v rs qs _ r e hh; simp [killW] at hh
          | cons a as ih =>
            intro j v rs qs he r e hh
            cases a with
            | dat T => obtain ⟨_, _, _, _, e2⟩ := extr_dat he; exact ih (j + 1) _ _ _ e2 r e hh
            | ptr T => obtain ⟨_, _, _, _, _, _, _, _, _, _, e2⟩ := extr_bor he; exact ih (j + 1) _ _ _ e2 r e hh
            | row T =>
              rcases extr_row he with ⟨e', hv, _, e2⟩ | ⟨q, qs', hv, hl, eq, e2⟩
              · have e0 : killW args j (.row T :: as) = killW args (j + 1) as := by
                  conv => lhs; unfold killW
                  simp only at hv; rw [hv]
                rw [e0] at hh
                exact ih (j + 1) _ _ _ e2 r e hh
              · have e0 : killW args j (.row T :: as) = (q, .dead) :: killW args (j + 1) as := by
                  conv => lhs; unfold killW
                  simp only at hv; rw [hv]
                rw [e0] at hh
                rcases List.mem_cons.1 hh with hh | hh
                · injection hh with h3 _; subst h3; exact ⟨_, _, hl⟩
                · exact ih (j + 1) _ _ _ e2 r e hh
        obtain ⟨T1, l1, hl1⟩ := this as 0 v rs qs he _ _ hk1
        have hent := h.ent r'
        rw [hl1] at hent
        obtain ⟨_, N, hN, _⟩ := hent
        rw [ho1, hN] at k2
        simp at k2
      refine ⟨⟨b, cs, t, fr, (e2β r hne).trans (ho2.symm.trans k1), (e2L r hne hnk).trans (ho1.symm.trans k2), k3, k4, rfl, hdata hf k6⟩, ho2⟩
  have hnewO : ∀ r c T l, (r, c) ∈ newP nm 0 os → heapOf (gOut as os) u c = .live (.row T l) → (flatSig (gOut as os) = true → T.flat = true) → OREL E2 w' r (.row T l) := by
    intro r c T l hm hl hf
    have hent := h'.ent c
    rw [hl] at hent
    obtain ⟨_, N, k1, k2⟩ := hent
    have hln := hpair r c hm
    refine ⟨N, by simp only [E2, hln]; exact k1, ?_⟩
    have eβ : E2.β r = E'.β c := by simp only [E2, hln]
    rw [eβ]
    split at k2
    · obtain ⟨cs, t, fr, c1, c2, g1, g2, g3, g4, g5⟩ := k2
      exact ⟨cs, t, fr, c1, c2, g1, g2, g3, g4, RdL.mono (fun x c hh => hdata hf hh) _ _ g5⟩
    · exact k2
  -- what stands at each name
  have hcase : ∀ r, (∃ T l, updL ((if flatSig (gOut as os) = true then [] else shut look rs) ++ (killW args 0 as ++ (backW args 0 as (tailD 0 os (boxSig 0 as) u) ++ newW nm 0 os (boxSig 0 as) u))) look r = .froz T l ∧ flatSig (gOut as os) = false ∧ r ∈ rs ∧ look r = .live (.row T l)) ∨
      (updL ((if flatSig (gOut as os) = true then [] else shut look rs) ++ (killW args 0 as ++ (backW args 0 as (tailD 0 os (boxSig 0 as) u) ++ newW nm 0 os (boxSig 0 as) u))) look r = .dead ∧ r ∈ qs ∧ r ∈ (killW args 0 as).map Prod.fst) ∨
      (∃ c T d, updL ((if flatSig (gOut as os) = true then [] else shut look rs) ++ (killW args 0 as ++ (backW args 0 as (tailD 0 os (boxSig 0 as) u) ++ newW nm 0 os (boxSig 0 as) u))) look r = .live (.box T (.data T d)) ∧ (r, c) ∈ borP args 0 as ∧ heapOf (gOut as os) u c = .live (.box T (.data T d)) ∧ (flatSig (gOut as os) = true → T.flat = true)) ∨
      (∃ c T l, updL ((if flatSig (gOut as os) = true then [] else shut look rs) ++ (killW args 0 as ++ (backW args 0 as (tailD 0 os (boxSig 0 as) u) ++ newW nm 0 os (boxSig 0 as) u))) look r = .live (.row T l) ∧ (r, c) ∈ newP nm 0 os ∧ heapOf (gOut as os) u c = .live (.row T l) ∧ (flatSig (gOut as os) = true → T.flat = true)) ∨
      (updL ((if flatSig (gOut as os) = true then [] else shut look rs) ++ (killW args 0 as ++ (backW args 0 as (tailD 0 os (boxSig 0 as) u) ++ newW nm 0 os (boxSig 0 as) u))) look r = look r ∧ r ∉ qs ∧ r ∉ (killW args 0 as).map Prod.fst ∧ lookN r (newP nm 0 os) = none ∧
        (flatSig (gOut as os) = false → ∀ T l, look r = .live (.row T l) → r ∉ rs)) := by
    intro r
    rw [updL_findW, findW_append, findW_append, findW_append]
    cases f1 : findW r (if flatSig (gOut as os) = true then [] else shut look rs) with
    | some e =>
      left
      have hm := findW_mem f1
      split at hm
      · simp at hm
      · rename_i hf
        obtain ⟨g1, T, l, g2, g3⟩ := shut_mem rs hm
        exact ⟨T, l, g3, by simpa using hf, g1, g2⟩
    | none =>
      right
      cases f2 : findW r (killW args 0 as) with
      | some e =>
        left
        have hm := findW_mem f2
        obtain ⟨g1, g2⟩ := m1 r e hm
        exact ⟨g1, g2, List.mem_map.2 ⟨_, hm, rfl⟩⟩
      | none =>
        right
        cases f3 : findW r (backW args 0 as (tailD 0 os (boxSig 0 as) u)) with
        | some e =>
          left
          obtain ⟨c, T, d, g1, g2, g3, g4⟩ := back_mem as 0 _ r e (findW_mem f3)
          exact ⟨c, T, d, g2, g1, g2 ▸ heapOf_mem hn2 (tail_mem os 0 u _ g3), fun hf => g4 (tail_flat os 0 hf)⟩
        | none =>
          right
          cases f4 : findW r (newW nm 0 os (boxSig 0 as) u) with
          | some e =>
            left
            obtain ⟨c, T, l, g1, g2, g3, g4⟩ := new_mem os 0 u r e (findW_mem f4)
            exact ⟨c, T, l, g2, g1, g2 ▸ heapOf_mem hn2 g3, g4⟩
          | none =>
            right
            have nn : ∀ (l : List (Nat × Ent)), findW r l = none → r ∉ l.map Prod.fst := by
              intro l
              induction l with
              | nil => intro _ hh; simp at hh
              | cons x l ih =>
                obtain ⟨q, e⟩ := x
                intro hh
                simp only [findW] at hh
                split at hh
                · exact absurd hh (by simp)
                · rename_i hne
                  simp only [List.map_cons, List.mem_cons, not_or]
                  exact ⟨by simpa using hne, ih hh⟩
            have n2 := nn _ f2
            have n3 := nn _ f3
            have n4 := nn _ f4
            rw [back_names] at n3
            rw [new_names] at n4
            refine ⟨rfl, fun hq => (m3 r hq).elim n2 n3, n2, lookN_none n4, fun hf T l hl hr => ?_⟩
            have n1 := nn _ f1
            rw [if_neg (by simp [hf])] at n1
            refine n1 ?_
            have : ∀ rs : List Nat, r ∈ rs → r ∈ (Va.shut look rs).map Prod.fst := by
              intro rs
              induction rs with
              | nil => intro hh; simp at hh
              | cons q rs ih =>
                intro hh
                unfold Va.shut
                rcases List.mem_cons.1 hh with hh | hh
                · subst hh; rw [hl]; simp
                · split
                  · exact List.mem_cons_of_mem _ (ih hh)
                  · exact ih hh
            exact this rs hr
  -- whose block is whose
  have hcls : ∀ r, (updL ((if flatSig (gOut as os) = true then [] else shut look rs) ++ (killW args 0 as ++ (backW args 0 as (tailD 0 os (boxSig 0 as) u) ++ newW nm 0 os (boxSig 0 as) u))) look r).isLive = true →
      (∃ c, (heapOf (gOut as os) u c).isLive = true ∧ E2.β r = E'.β c ∧ ((r, c) ∈ borP args 0 as ∨ (r, c) ∈ newP nm 0 os)) ∨
      ((look r).isLive = true ∧ r ∉ qs ∧ E2.β r = E.β r ∧ (flatSig (gOut as os) = false → ∀ T l, look r = .live (.row T l) → r ∉ rs)) := by
    intro r hl
    rcases hcase r with ⟨T, l, g1, _⟩ | ⟨g1, _⟩ | ⟨c, T, d, g1, g2, g3, g4⟩ | ⟨c, T, l, g1, g2, g3, g4⟩ | ⟨g1, g2, g3, g4, g5⟩
    · rw [g1] at hl; simp [Ent.isLive] at hl
    · rw [g1] at hl; simp [Ent.isLive] at hl
    · left
      have hne : look r ≠ .un := by
        intro hh
        have := hqlive r (m2 r c g2).1
        rw [hh] at this; simp [Ent.isLive] at this
      exact ⟨c, by rw [g3]; rfl, (e2β r hne).trans (hback r c T d g2 g3 g4).2.symm, .inl g2⟩
    · left
      exact ⟨c, by rw [g3]; rfl, by simp only [E2, hpair r c g2], .inr g2⟩
    · right
      rw [g1] at hl
      exact ⟨hl, g2, by simp only [E2, g4], g5⟩
  refine ⟨E2, ⟨fun r => ?_, ?_, ?_, ?_, ?_, ?_⟩, hx, ?_⟩
  · rcases hcase r with ⟨T, l, g1, g2, g3, g4⟩ | ⟨g1, g2, g3⟩ | ⟨c, T, d, g1, g2, g3, g4⟩ | ⟨c, T, l, g1, g2, g3, g4⟩ | ⟨g1, g2, g3, g4, g5⟩
    · rw [g1]
      have hent := h.ent r
      rw [g4] at hent
      have hne : look r ≠ .un := by rw [g4]; simp
      have hnk : r ∉ (killW args 0 as).map Prod.fst := by
        intro hkm
        obtain ⟨⟨r', e⟩, hk1, hk2⟩ := List.mem_map.1 hkm
        simp only at hk2; subst hk2
        exact meets_false hq2 (m1 _ _ hk1).2 g3
      refine ⟨.inl hent.1, hent.2.ext hx (e2L r hne hnk) (e2β r hne) (fun b hb => ?_), fun b hb => ?_⟩
      · exact hp.keep.block b (by rw [hS]; exact s1 r g3 T l g4 b hb) (hent.2.lt hb)
      · have : E2.S = E'.S := by simp only [E2]; rw [if_neg (by simp [g2])]
        rw [this]
        rw [e2β r hne] at hb
        exact hsE b (s1 r g3 T l g4 b hb)
    · rw [g1]
      have hne : look r ≠ .un := by
        intro hh
        have := hqlive r g2
        rw [hh] at this; simp [Ent.isLive] at this
      exact ⟨.inl ((h.U_iff r).2 hne), e2Lk r hne g3⟩
    · rw [g1]
      have hne : look r ≠ .un := by
        intro hh
        have := hqlive r (m2 r c g2).1
        rw [hh] at this; simp [Ent.isLive] at this
      exact ⟨.inl ((h.U_iff r).2 hne), (hback r c T d g2 g3 g4).1⟩
    · rw [g1]
      exact ⟨.inr (by rw [hpair r c g2]; rfl), hnewO r c T l g2 g3 g4⟩
    · rw [g1]
      have hL2 : E2.L r = E.L r := by
        simp only [E2, g4]
        rw [if_neg]
        intro hh
        obtain ⟨p, hp1, hp2⟩ := List.any_eq_true.1 hh
        exact g3 (List.mem_map.2 ⟨p, hp1, by simpa using hp2⟩)
      refine (h.ent r).ext' hx (by simp only [E2, g4]; simp) hL2 (by simp only [E2, g4]) (fun hh b hb => ?_)
      have hlt := (h.ent r).lt hh hb
      cases hlr : look r with
      | un => rw [hlr] at hh; simp [Ent.has] at hh
      | dead => rw [hlr] at hh; simp [Ent.has] at hh
      | live o => exact hp.keepP.block b (.inr ⟨r, g2, by rw [hlr]; rfl, hb⟩) hlt
      | froz e l =>
        have hent := h.ent r
        rw [hlr] at hent
        exact hp.keep.block b (by rw [hS]; exact x1.s b (hent.2.2 b hb)) hlt
  · intro r r' b hl hl' hb hb'
    rcases hcls r hl with ⟨c, k1, k2, k3⟩ | ⟨k1, k2, k3, _⟩
    · rcases hcls r' hl' with ⟨c', k1', k2', k3'⟩ | ⟨k1', k2', k3', _⟩
      · have hcc := h'.inj c c' b k1 k1' (k2.symm.trans hb) (k2'.symm.trans hb')
        subst hcc
        rcases k3 with k3 | k3
        · obtain ⟨i, l, p, _, e1, e2⟩ := bor_inj as 0 r c k3
          rcases k3' with k3' | k3'
          · obtain ⟨i', l', p', _, e1', e2'⟩ := bor_inj as 0 r' c k3'
            have : i = i' := by rw [e1] at e1'; unfold nmA at e1'; omega
            subst this
            rw [e2] at e2'; injection e2'
          · obtain ⟨i', e1', _⟩ := new_inj os 0 r' c k3'
            rw [e1] at e1'; unfold nmA nmO at e1'; omega
        · obtain ⟨i, e1, e2⟩ := new_inj os 0 r c k3
          rcases k3' with k3' | k3'
          · obtain ⟨i', l', p', _, e1', e2'⟩ := bor_inj as 0 r' c k3'
            rw [e1] at e1'; unfold nmA nmO at e1'; omega
          · obtain ⟨i', e1', e2'⟩ := new_inj os 0 r' c k3'
            have : i = i' := by rw [e1] at e1'; unfold nmO at e1'; omega
            rw [e2, e2', this]
      · exact absurd (.inr ⟨r', k2', k1', k3'.symm.trans hb'⟩) (h'.sep c b k1 (k2.symm.trans hb)).2
    · rcases hcls r' hl' with ⟨c', k1', k2', k3'⟩ | ⟨k1', k2', k3', _⟩
      · exact absurd (.inr ⟨r, k2, k1, k3.symm.trans hb⟩) (h'.sep c' b k1' (k2'.symm.trans hb')).2
      · exact h.inj r r' b k1 k1' (k3.symm.trans hb) (k3'.symm.trans hb')
  · intro r b hl hb
    rcases hcls r hl with ⟨c, k1, k2, k3⟩ | ⟨k1, k2, k3, k4⟩
    · obtain ⟨g1, g2⟩ := h'.sep c b k1 (k2.symm.trans hb)
      exact ⟨fun hs => g1 (e2S b hs), fun hp' => g2 (.inl hp')⟩
    · have hb' := k3.symm.trans hb
      refine ⟨fun hs => ?_, (h.sep r b k1 hb').2⟩
      by_cases hfl : flatSig (gOut as os) = true
      · have : E2.S = E.S := by simp only [E2]; rw [if_pos hfl]
        rw [this] at hs
        exact (h.sep r b k1 hb').1 hs
      · have h9 := k4 (by simpa using hfl)
        rcases h'.s0 b (e2S b hs) with h8 | h8
        · have hl1 : (updL (Va.shut look rs) look r).isLive = true := by
            have hnot : updL (Va.shut look rs) look r = look r := by
              rw [updL_findW]
              cases hf : findW r (Va.shut look rs) with
              | none => rfl
              | some e =>
                obtain ⟨g1, T, l, g2, _⟩ := shut_mem rs (findW_mem hf)
                exact absurd g1 (h9 T l g2)
            rw [hnot]; exact k1
          exact (h1.sep r b hl1 ((b1 r).trans hb')).1 h8
        · exact h8 (.inr ⟨r, k2, k1, hb'⟩)
  · intro b hb; exact h'.sIn b (e2S b hb)
  · intro b hb; exact h'.pIn b (.inl hb)
  · intro b hb
    rcases h'.s0 b (e2S b hb) with h8 | h8
    · exact h1.s0 b h8
    · exact .inr (fun hp' => h8 (.inl hp'))
  · refine one_back _ _ x (by rw [outs_length, outs_length]) (fun vs hc => ?_) hv
    refine outs_back (flat := flatSig (gOut as os)) (fun hf => by simp only [E2]; rw [if_neg (by simp [hf])]) os 0 u vs (fun hf => hf) (fun r c hm => ?_) hc
    have hln := hpair r c hm
    exact ⟨.inr (by rw [hln]; rfl), by simp only [E2, hln], by simp only [E2, hln]⟩


theorem bnd_some {α β : Type} {x : Option α} {k : α → Option β} {r : β} (h : bnd x k = some r) : ∃ u, x = some u ∧ k u = some r := by
  unfold bnd at h
  split at h
  · exact absurd h (by simp)
  · rename_i u; exact ⟨u, rfl, h⟩

theorem extr_loc {s : St} {look look' : Nat → Ent} : ∀ (as : List Ai) (j : Nat) (v : Dens (inSig j as)) (rs qs : List Nat), extr s look (inSig j as) = some (v, rs, qs) → (∀ q, q ∈ rs ∨ q ∈ qs → look' q = look q) → extr s look' (inSig j as) = some (v, rs, qs)
  | [], j, v, rs, qs, h, _ => h
  | .dat T :: as, j, v, rs, qs, h, hk => by
    obtain ⟨r1, r2, e1, hres, e2⟩ := extr_dat h
    have ih := extr_loc as (j + 1) v.2 r2 qs e2 (fun q hq => hk q (by rcases hq with hq | hq <;> simp [e1, hq]))
    simp only [inSig, extr]
    rw [res_loc T _ _ _ hres (fun q hq => hk q (by simp [e1, hq]))]
    simp only [ih, e1]
    rfl
  | .row e :: as, j, v, rs, qs, h, hk => by
    rcases extr_row h with ⟨e', hv, hnil, e2⟩ | ⟨q, qs', hv, hl, eq, e2⟩
    · have ih := extr_loc as (j + 1) v.2 rs qs e2 hk
      simp only [inSig, extr, hv, ih]
      rw [← hnil]
      rfl
    · have ih := extr_loc as (j + 1) v.2 rs qs' e2 (fun q hq => hk q (by rcases hq with hq | hq <;> simp [eq, hq]))
      simp only [inSig, extr, hv, hk q (by simp [eq]), hl, ih, eq]
      simp
      rfl
  | .ptr T :: as, j, v, rs, qs, h, hk => by
    obtain ⟨q, c, r1, r2, qs', hv, hl, e1, eq, hres, e2⟩ := extr_bor h
    have ih := extr_loc as (j + 1) v.2 r2 qs' e2 (fun q hq => hk q (by rcases hq with hq | hq <;> simp [e1, eq, hq]))
    simp only [inSig, extr, hv, hk q (by simp [eq]), hl]
    rw [res_loc T _ _ _ hres (fun q hq => hk q (by simp [e1, hq]))]
    simp only [ih, e1, eq]
    simp
    rfl

theorem shut_loc' {look look' : Nat → Ent} : ∀ (rs : List Nat), (∀ q ∈ rs, look' q = look q) → shut look' rs = shut look rs
  | [], _ => rfl
  | r :: t, h => by
    unfold Va.shut
    rw [h r (by simp), shut_loc' t (fun q hq => h q (by simp [hq]))]

theorem mkEntry_ok {fid : Nat} {as : List Ai} {os : List (Nat × Oi)} {f : DIn as → Option (DOut as os)} (hf : FnOk P fid as os f) : EntryOk P (mkEntry fid as os f) := by
  refine ⟨hf.fn, fun R n dst args look k r h => ?_⟩
  simp only [mkEntry] at h
  split at h
  · rename_i hc
    obtain ⟨hlen, hso⟩ := hc
    split at h
    · exact absurd h (by simp)
    · rename_i v rs qs he
      split at h
      · rename_i hc2
        obtain ⟨hq1, hq2⟩ := hc2
        obtain ⟨u, hu, h⟩ := bnd_some h
        split at h
        · rename_i hun
          have hun' : ∀ p ∈ newP (nmN dst) 0 os, look p.1 = .un := fun p hp => by
            have := List.all_eq_true.1 hun p hp
            cases hl : look p.1 <;> rw [hl] at this <;> simp [Ent.isUn] at this <;> rfl
          refine ⟨_, _, _, h, fun P0 S0 E w vals hh hcc => ?_, fun look' hk R' k' => ?_⟩
          · obtain ⟨E1, h1, x1, b1, l1, s1⟩ := HREL.shuts (look := look) rs E look hh (fun r _ => .inl rfl)
            obtain ⟨hl, hg⟩ := listAV_get _ _ hcc
            obtain ⟨m1, m2, m3, m4⟩ := kill_mem as 0 v rs qs he
            have hsame : ∀ q ∈ qs, updL (Va.shut look rs) look q = look q := by
              intro q hq
              rw [updL_findW]
              have : q ∉ (Va.shut look rs).map Prod.fst := by
                intro hh
                obtain ⟨⟨q', e⟩, h2, h3⟩ := List.mem_map.1 hh
                simp only at h3; subst h3
                exact meets_false hq2 hq (shut_mem rs h2).1
              rw [findW_none this]
            have hso' := hso
            unfold sigsOk at hso'
            rw [Bool.and_eq_true] at hso'
            obtain ⟨Ec, g1, g2, g3, g4, g5⟩ := cut_heap (s := ⟨args, []⟩) hh h1 x1 b1 s1 hsame (P1 := fun b => P0 b ∨ ∃ r, r ∉ qs ∧ (look r).isLive = true ∧ E.β r = some b) (S1 := E1.S)
              (fun b hb => by
                rcases hb with hb | ⟨r, _, hr1, hr2⟩
                · exact hh.pIn b hb
                · exact (hh.ent r).lt (by cases hlr : look r <;> rw [hlr] at hr1 <;> simp [Ent.isLive, Ent.has] at hr1 ⊢) hr2)
              (fun q hq b hl hb => by
                rintro (hb' | ⟨r, hr0, hr1, hr2⟩)
                · exact (hh.sep q b hl hb).2 hb'
                · exact hr0 (hh.inj r q b hr1 hl hr2 hb ▸ hq))
              (fun b hb => .inl hb) (inSig 0 as) v rs qs he (fun _ h => h) (fun _ h => h) (by rw [in_boxes]; simp) hso'.1 hq1 (by rw [in_boxes]; simp)
            have hargs := args_in hh x1 s1 g2 as 0 v rs qs vals he (fun _ h => h) g5 (by rw [← hl, hlen]) (fun i hi => by
              rw [Nat.zero_add]
              have e : args[i]? = some (getAt .bad args i) := by
                have : ∀ (l : List AV) (i : Nat), i < l.length → l[i]? = some (getAt .bad l i) := by
                  intro l
                  induction l with
                  | nil => intro i hi; simp at hi
                  | cons x l ih =>
                    intro i hi
                    cases i with
                    | zero => rfl
                    | succ i => simp only [List.getElem?_cons_succ, getAt]; exact ih i (by simpa using hi)
                exact this args i (by omega)
              exact hg i _ e)
            refine Calls.mono (hf.run v u hu _ E1.S Ec w vals g1 hargs) ?_
            rintro en w' ⟨E', x, rfl, k1, k2, k3⟩
            exact ⟨x, rfl, entry_post hh he hq1 hq2 hso h1 x1 b1 s1 g2 g5 hun' (fun i j e => by unfold nmN at e; omega) k1 k2 k3⟩
          · have hkill : ∀ q, q ∈ rs ∨ q ∈ qs → look' q = look q := fun q hq => hk q (.inl (by simp only [List.mem_append]; exact .inl hq))
            simp only [mkEntry]
            rw [if_pos ⟨hlen, hso⟩, extr_loc as 0 v rs qs he hkill]
            simp only []
            rw [if_pos ⟨hq1, hq2⟩, hu]
            simp only [bnd]
            rw [shut_loc' rs (fun q hq => hkill q (.inl hq)), if_pos]
            refine List.all_eq_true.2 (fun p hp => ?_)
            rw [hk p.1 (.inl (by simp only [List.mem_append]; exact .inr (List.mem_map.2 ⟨p, hp, rfl⟩)))]
            exact List.all_eq_true.1 hun p hp
        · exact absurd h (by simp)
      · exact absurd h (by simp)
  · exact absurd h (by simp)

end
end Go.Va

