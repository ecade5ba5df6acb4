/-
  Va, part 25: a cut: what is kept of a state, and the state that is built again of it.
-/
import Derived.Test.YtnlckhekcklcpaaVaDraw
set_option linter.unusedVariables false
set_option linter.unusedSimpArgs false
namespace Go.Va
open Go

section
variable {P0 S0 : Nat → Prop} {w : World}

/-- What holds of the names of a cut. -/
def KeptOk (E : Env) (s : St) (E' : Env) : List Si → Prop
  | [] => True
  | .dat _ _ :: g => KeptOk E s E' g
  | .ref _ _ _ :: g => KeptOk E s E' g
  | .box r _ :: g => (E'.U r ∧ E'.β r = E.β r ∧ E'.L r = E.L r) ∧ KeptOk E s E' g
  | .row i r e :: g => (E'.U r ∧ match getAt .bad s.sl i with
      | .ow q _ _ => E'.β r = E.β q ∧ E'.L r = E.L q
      | _ => E'.β r = none ∧ E'.L r = some ⟨.row e, 0, 0⟩) ∧ KeptOk E s E' g
  | .bor i r _ :: g => (E'.U r ∧ ∀ q l p, getAt .bad s.sl i = .po q l p → E'.β r = E.β q ∧ E'.L r = E.L q) ∧ KeptOk E s E' g

theorem KeptOk.mono {E E' E'' : Env} {s : St} : ∀ {g : List Si}, (∀ r ∈ namesOf g, (E'.U r → E''.U r) ∧ E''.β r = E'.β r ∧ E''.L r = E'.L r) → KeptOk E s E' g → KeptOk E s E'' g
  | [], _, _ => trivial
  | .dat _ _ :: g, h, k => KeptOk.mono (g := g) h k
  | .ref _ _ _ :: g, h, k => KeptOk.mono (g := g) h k
  | .box r _ :: g, h, ⟨⟨k1, k2, k3⟩, k4⟩ => by
    obtain ⟨h1, h2, h3⟩ := h r (by simp [namesOf])
    exact ⟨⟨h1 k1, h2.trans k2, h3.trans k3⟩, KeptOk.mono (fun q hq => h q (by simp [namesOf, hq])) k4⟩
  | .row i r e :: g, h, ⟨⟨k1, k2⟩, k4⟩ => by
    obtain ⟨h1, h2, h3⟩ := h r (by simp [namesOf])
    refine ⟨⟨h1 k1, ?_⟩, KeptOk.mono (fun q hq => h q (by simp [namesOf, hq])) k4⟩
    rw [h2, h3]
    exact k2
  | .bor i r e :: g, h, ⟨⟨k1, k2⟩, k4⟩ => by
    obtain ⟨h1, h2, h3⟩ := h r (by simp [namesOf])
    refine ⟨⟨h1 k1, ?_⟩, KeptOk.mono (fun q hq => h q (by simp [namesOf, hq])) k4⟩
    rw [h2, h3]
    exact k2

theorem nodup_cons {x : Nat} {l : List Nat} (h : nodup (x :: l) = true) : x ∉ l ∧ nodup l = true := by
  unfold nodup at h
  rw [Bool.and_eq_true] at h
  exact ⟨by simpa using h.1, h.2⟩

theorem heap_names {g : List Si} : ∀ (v : Dens g), (heapAll g v).map Prod.fst = namesOf g := by
  induction g with
  | nil => intro v; rfl
  | cons x g ih =>
    intro v
    cases x with
    | dat i T => exact ih v.2
    | ref i r T => exact ih v
    | box r T => simp only [heapAll, namesOf, List.map_cons]; rw [ih v.2]
    | row i r e => simp only [heapAll, namesOf, List.map_cons]; rw [ih v.2]
    | bor i r T => simp only [heapAll, namesOf, List.map_cons]; rw [ih v.2]

theorem look_none {g : List Si} {v : Dens g} {r : Nat} (h : r ∉ namesOf g) : updL (heapAll g v) (fun _ => Ent.un) r = .un := by
  rw [updL_findW, findW_none (by rw [heap_names]; exact h)]

/-- The parts of what 'extr' tells. -/
theorem extr_dat {s : St} {look : Nat → Ent} {i : Nat} {T : Ty} {g : List Si} {v : Dens (.dat i T :: g)} {rs qs : List Nat} (h : extr s look (.dat i T :: g) = some (v, rs, qs)) :
    ∃ r1 r2, rs = r1 ++ r2 ∧ res look T (getAt .bad s.sl i) = some (v.1, r1) ∧ extr s look g = some (v.2, r2, qs) := by
  simp only [extr] at h
  split at h
  · exact absurd h (by simp)
  · rename_i x r1 h1
    split at h
    · exact absurd h (by simp)
    · rename_i y a b h2
      injection h with h; injection h with e1 h; injection h with e2 e3
      subst e1 e2 e3
      exact ⟨r1, a, rfl, h1, h2⟩

theorem extr_ref {s : St} {look : Nat → Ent} {i r : Nat} {T : Ty} {g : List Si} {v : Dens (.ref i r T :: g)} {rs qs : List Nat} (h : extr s look (.ref i r T :: g) = some (v, rs, qs)) :
    getAt .bad s.sl i = .po r (.box T) [] ∧ extr s look g = some (v, rs, qs) := by
  simp only [extr] at h
  split at h
  · rename_i r' T' h1
    split at h
    · rename_i h2; obtain ⟨rfl, rfl⟩ := h2; exact ⟨h1, h⟩
    · exact absurd h (by simp)
  · exact absurd h (by simp)

theorem extr_box {s : St} {look : Nat → Ent} {r : Nat} {T : Ty} {g : List Si} {v : Dens (.box r T :: g)} {rs qs : List Nat} (h : extr s look (.box r T :: g) = some (v, rs, qs)) :
    ∃ c r1 r2, look r = .live (.box T c) ∧ rs = r1 ++ r2 ∧ res look T c = some (v.1, r1) ∧ extr s look g = some (v.2, r2, qs) := by
  simp only [extr] at h
  split at h
  · rename_i T' c h1
    split at h
    · rename_i hT; subst hT
      split at h
      · exact absurd h (by simp)
      · rename_i x r1 h2
        split at h
        · exact absurd h (by simp)
        · rename_i y a b h3
          injection h with h; injection h with e1 h; injection h with e2 e3
          subst e1 e2 e3
          exact ⟨c, r1, a, h1, rfl, h2, h3⟩
    · exact absurd h (by simp)
  · exact absurd h (by simp)

theorem extr_row {s : St} {look : Nat → Ent} {i r : Nat} {e : Ty} {g : List Si} {v : Dens (.row i r e :: g)} {rs qs : List Nat} (h : extr s look (.row i r e :: g) = some (v, rs, qs)) :
    (∃ e', getAt .bad s.sl i = .nils e' ∧ v.1 = [] ∧ extr s look g = some (v.2, rs, qs)) ∨
    (∃ q qs', getAt .bad s.sl i = .ow q e none ∧ look q = .live (.row e v.1) ∧ qs = q :: qs' ∧ extr s look g = some (v.2, rs, qs')) := by
  simp only [extr] at h
  split at h
  · rename_i e' h1
    split at h
    · exact absurd h (by simp)
    · rename_i y a b h2
      injection h with h; injection h with e1 h; injection h with e2 e3
      subst e1 e2 e3
      exact .inl ⟨e', h1, rfl, h2⟩
  · rename_i q e' h1
    split at h
    · rename_i e1 l h2
      split at h
      · rename_i hh
        obtain ⟨ha, hb⟩ := hh
        subst ha hb
        split at h
        · exact absurd h (by simp)
        · rename_i y a b h3
          injection h with h; injection h with e1 h; injection h with e2 e3
          subst e1 e2 e3
          exact .inr ⟨q, b, h1, h2, rfl, h3⟩
      · exact absurd h (by simp)
    · exact absurd h (by simp)
  · exact absurd h (by simp)

theorem extr_bor {s : St} {look : Nat → Ent} {i r : Nat} {T : Ty} {g : List Si} {v : Dens (.bor i r T :: g)} {rs qs : List Nat} (h : extr s look (.bor i r T :: g) = some (v, rs, qs)) :
    ∃ q c r1 r2 qs', getAt .bad s.sl i = .po q (.box T) [] ∧ look q = .live (.box T c) ∧ rs = r1 ++ r2 ∧ qs = q :: qs' ∧ res look T c = some (v.1, r1) ∧ extr s look g = some (v.2, r2, qs') := by
  simp only [extr] at h
  split at h
  · rename_i q T1 h0
    split at h
    · rename_i T' c h1
      split at h
      · rename_i hT
        obtain ⟨hT, hT1⟩ := hT
        subst hT hT1
        split at h
        · exact absurd h (by simp)
        · rename_i x r1 h2
          split at h
          · exact absurd h (by simp)
          · rename_i y a b h3
            injection h with h; injection h with e1 h; injection h with e2 e3
            subst e1 e2 e3
            exact ⟨q, c, r1, a, b, h0, h1, rfl, rfl, h2, h3⟩
      · exact absurd h (by simp)
    · exact absurd h (by simp)
  · exact absurd h (by simp)

/-- The heap of a cut. -/
theorem cut_heap {E E1 : Env} {s : St} {look look1 : Nat → Ent} (h : HREL P0 S0 E look w) (h1 : HREL P0 S0 E1 look1 w) (x1 : Ext P0 E w E1 w) (hβ : ∀ r, E1.β r = E.β r) {rs0 : List Nat}
    (hsh : ∀ r ∈ rs0, ∀ T l, look r = .live (.row T l) → ∀ b, E.β r = some b → E1.S b) {qs0 : List Nat} (hq : ∀ q ∈ qs0, look1 q = look q)
    {P1 S1 : Nat → Prop} (hp1 : ∀ b, P1 b → b < w.heap.size) (hp2 : ∀ q ∈ qs0, ∀ b, (look q).isLive = true → E.β q = some b → ¬ P1 b) (hs1 : ∀ b, E1.S b → S1 b ∨ ¬ P1 b) :
    ∀ (g : List Si) (v : Dens g) (rs qs : List Nat), extr s look g = some (v, rs, qs) → (∀ r ∈ rs, r ∈ rs0) → (∀ q ∈ qs, q ∈ qs0) → (∀ r ∈ (boxesOf g).map Prod.fst, r ∈ qs0) → nodup (namesOf g) = true → nodup qs = true → (∀ q ∈ qs, q ∉ (boxesOf g).map Prod.fst) →
    ∃ E', HREL P1 S1 E' (updL (heapAll g v) fun _ => .un) w ∧ E'.S = E1.S ∧ (∀ r b, E'.U r → E'.β r = some b → ∃ q, (q ∈ qs ∨ q ∈ (boxesOf g).map Prod.fst) ∧ (look q).isLive = true ∧ E.β q = some b) ∧
      (∀ r, E'.U r ↔ r ∈ namesOf g) ∧ KeptOk E s E' g
  | [], v, rs, qs, he, hr, hqs, hbx, hn, hnq, hd => by
    refine ⟨⟨fun _ => none, fun _ => none, fun _ => False, E1.S⟩, ⟨fun r => ⟨id, rfl⟩, fun r r' b hl => ?_, fun r b hl => ?_, h1.sIn, hp1, hs1⟩, rfl, fun r b hu => hu.elim, fun r => by simp [namesOf], trivial⟩
    · simp [heapAll, updL, Ent.isLive] at hl
    · simp [heapAll, updL, Ent.isLive] at hl
  | .dat i T :: g, v, rs, qs, he, hr, hqs, hbx, hn, hnq, hd => by
    obtain ⟨r1, r2, e1, _, e2⟩ := extr_dat he
    exact cut_heap h h1 x1 hβ hsh hq hp1 hp2 hs1 g v.2 r2 qs e2 (fun r hr' => hr r (by simp [e1, hr'])) hqs hbx hn hnq hd
  | .ref i r T :: g, v, rs, qs, he, hr, hqs, hbx, hn, hnq, hd => by
    obtain ⟨_, e2⟩ := extr_ref he
    exact cut_heap h h1 x1 hβ hsh hq hp1 hp2 hs1 g v rs qs e2 hr hqs hbx hn hnq hd
  | .box r T :: g, v, rs, qs, he, hr, hqs, hbx, hn, hnq, hd => by
    obtain ⟨c, r1, r2, hl, e1, hres, e2⟩ := extr_box he
    obtain ⟨hn1, hn2⟩ := nodup_cons hn
    obtain ⟨E', g1, g2, g3, g4, g5⟩ := cut_heap h h1 x1 hβ hsh hq hp1 hp2 hs1 g v.2 r2 qs e2 (fun r hr' => hr r (by simp [e1, hr'])) hqs (fun r hr' => hbx r (by simp [boxesOf] at hr' ⊢; exact .inr hr')) hn2 hnq
      (fun q hq hh => hd q hq (by simp [boxesOf] at hh ⊢; exact .inr hh))
    have hent := h.ent r
    rw [hl] at hent
    obtain ⟨hu, b, cs, t, fr, k1, k2, k3, k4, k5, k6⟩ := hent
    have hlive1 : (look1 r).isLive = true := by rw [hq r (hbx r (by simp [boxesOf])), hl]; rfl
    have hrd := res_rd T c v.1 r1 cs.toList E1 h hres k6 x1 (fun q hq' => hsh q (hr q (by simp [e1, hq'])))
    have hsep := h1.sep r b hlive1 ((hβ r).trans k1)
    have hsep1 := hp2 r (hbx r (by simp [boxesOf])) b (by rw [hl]; rfl) k1
    have hun := look_none (v := v.2) hn1
    have hnb : ∀ r', (updL (heapAll g v.2) (fun _ => Ent.un) r').isLive = true → E'.β r' ≠ some b := by
      intro r' hl' hb'
      have hu' : E'.U r' := (g1.U_iff r').2 (by intro hh; rw [hh] at hl'; simp [Ent.isLive] at hl')
      obtain ⟨q, hq1, hq2, hq3⟩ := g3 r' b hu' hb'
      have : q = r := h.inj q r b hq2 (by rw [hl]; rfl) hq3 k1
      subst this
      rcases hq1 with hq1 | hq1
      · exact hd q hq1 (by simp [boxesOf])
      · refine hn1 ?_
        have : ∀ (g : List Si), q ∈ (boxesOf g).map Prod.fst → q ∈ namesOf g := by
          intro g
          induction g with
          | nil => intro hh; simp [boxesOf] at hh
          | cons x g ih =>
            intro hh
            cases x with
            | dat => exact ih hh
            | ref => exact ih hh
            | box r' T' =>
              simp only [boxesOf, List.map_cons, List.mem_cons] at hh
              simp only [namesOf, List.mem_cons]
              exact hh.imp id ih
            | row i r' e' => simp only [namesOf, List.mem_cons]; exact .inr (ih hh)
            | bor i r' e' => simp only [namesOf, List.mem_cons]; exact .inr (ih hh)
        exact this g hq1
    have ho : OREL (E'.new r (some b) ⟨.box T, cs.size, 0⟩) w r (.box T (.data T v.1)) := by
      refine ⟨b, cs, t, fr, by simp [Env.new], by simp [Env.new], k3, k4, rfl, ?_⟩
      change Rd (E'.new r (some b) _).S w T v.1 cs.toList
      rw [show (E'.new r (some b) ⟨.box T, cs.size, 0⟩).S = E1.S from g2]
      exact hrd
    obtain ⟨g6, _⟩ := g1.adopt hun (Wr.refl w b) (by rw [g2]; exact hsep.1) hsep1 hnb ho
    refine ⟨E'.new r (some b) ⟨.box T, cs.size, 0⟩, ?_, g2, ?_, ?_, ?_⟩
    · simp only [heapAll, updL_cons]; exact g6
    · intro r' b' hu' hb'
      by_cases hrr : r' = r
      · subst hrr
        simp only [Env.new, if_true] at hb'
        injection hb' with hb'; subst hb'
        exact ⟨r', .inr (by simp [boxesOf]), by rw [hl]; rfl, k1⟩
      · simp only [Env.new, hrr, if_false, false_or] at hb' hu'
        obtain ⟨q, q1, q2⟩ := g3 r' b' hu' hb'
        exact ⟨q, q1.imp id (fun hh => by simp [boxesOf] at hh ⊢; exact .inr hh), q2⟩
    · intro r'
      simp only [Env.new, namesOf, List.mem_cons, g4]
    · refine ⟨⟨.inl rfl, by simp [Env.new, k1], by simp [Env.new, k2]⟩, g5.mono (fun q hq' => ?_)⟩
      have : q ≠ r := fun e => hn1 (e ▸ hq')
      exact ⟨.inr, by simp [Env.new, this], by simp [Env.new, this]⟩
  | .row i r e :: g, v, rs, qs, he, hr, hqs, hbx, hn, hnq, hd => by
    obtain ⟨hn1, hn2⟩ := nodup_cons hn
    have hun := look_none (v := v.2) hn1
    rcases extr_row he with ⟨e', hv, hnil, e2⟩ | ⟨q, qs', hv, hl, eq, e2⟩
    · obtain ⟨E', g1, g2, g3, g4, g5⟩ := cut_heap h h1 x1 hβ hsh hq hp1 hp2 hs1 g v.2 rs qs e2 hr hqs hbx hn2 hnq hd
      have ho : OREL (E'.new r none ⟨.row e, 0, 0⟩) w r (.row e v.1) := by
        refine ⟨0, by simp [Env.new, hnil], ?_⟩
        simp only [Env.new, if_true]; exact hnil
      obtain ⟨g6, _⟩ := g1.new hun (Grow.refl w) (by simp) ho
      refine ⟨E'.new r none ⟨.row e, 0, 0⟩, ?_, g2, ?_, ?_, ?_⟩
      · simp only [heapAll, updL_cons]; exact g6
      · intro r' b' hu' hb'
        by_cases hrr : r' = r
        · subst hrr; simp [Env.new] at hb'
        · simp only [Env.new, hrr, if_false, false_or] at hb' hu'
          exact g3 r' b' hu' hb'
      · intro r'; simp only [Env.new, namesOf, List.mem_cons, g4]
      · refine ⟨⟨.inl rfl, ?_⟩, g5.mono (fun q hq' => ?_)⟩
        · rw [hv]; simp [Env.new]
        · have : q ≠ r := fun e => hn1 (e ▸ hq')
          exact ⟨.inr, by simp [Env.new, this], by simp [Env.new, this]⟩
    · subst eq
      obtain ⟨hq1, hq2⟩ := nodup_cons hnq
      obtain ⟨E', g1, g2, g3, g4, g5⟩ := cut_heap h h1 x1 hβ hsh hq hp1 hp2 hs1 g v.2 rs qs' e2 hr (fun q hq => hqs q (by simp [hq])) hbx hn2 hq2 (fun q hq => hd q (by simp [hq]))
      have hent := h.ent q
      rw [hl] at hent
      obtain ⟨hu, N, k1, k2⟩ := hent
      have hlive1 : (look1 q).isLive = true := by rw [hq q (hqs q (by simp)), hl]; rfl
      have hS : ∀ b, E.S b → E1.S b := x1.s
      cases hb : E.β q with
      | none =>
        rw [hb] at k2
        have ho : OREL (E'.new r none ⟨.row e, N, v.1.length⟩) w r (.row e v.1) := by
          refine ⟨N, by simp [Env.new], ?_⟩
          simp only [Env.new, if_true]; exact k2
        obtain ⟨g6, _⟩ := g1.new hun (Grow.refl w) (by simp) ho
        refine ⟨E'.new r none ⟨.row e, N, v.1.length⟩, ?_, g2, ?_, ?_, ?_⟩
        · simp only [heapAll, updL_cons]; exact g6
        · intro r' b' hu' hb'
          by_cases hrr : r' = r
          · subst hrr; simp [Env.new] at hb'
          · simp only [Env.new, hrr, if_false, false_or] at hb' hu'
            obtain ⟨q', q1, q2⟩ := g3 r' b' hu' hb'
            exact ⟨q', q1.imp (fun hh => by simp [hh]) id, q2⟩
        · intro r'; simp only [Env.new, namesOf, List.mem_cons, g4]
        · refine ⟨⟨.inl rfl, ?_⟩, g5.mono (fun q hq' => ?_)⟩
          · rw [hv]; simp [Env.new, hb, k1]
          · have : q ≠ r := fun e => hn1 (e ▸ hq')
            exact ⟨.inr, by simp [Env.new, this], by simp [Env.new, this]⟩
      | some b =>
        rw [hb] at k2
        obtain ⟨cs, t, fr, c1, c2, m1, m2, m3, m4, m5⟩ := k2
        have hsep := h1.sep q b hlive1 ((hβ q).trans hb)
        have hsep1 := hp2 q (hqs q (by simp)) b (by rw [hl]; rfl) hb
        have hnb : ∀ r', (updL (heapAll g v.2) (fun _ => Ent.un) r').isLive = true → E'.β r' ≠ some b := by
          intro r' hl' hb'
          have hu' : E'.U r' := (g1.U_iff r').2 (by intro hh; rw [hh] at hl'; simp [Ent.isLive] at hl')
          obtain ⟨q', hq1', hq2', hq3'⟩ := g3 r' b hu' hb'
          have : q' = q := h.inj q' q b hq2' (by rw [hl]; rfl) hq3' hb
          subst this
          rcases hq1' with hq1' | hq1'
          · exact hq1 hq1'
          · exact hd q' (by simp) (by simpa [boxesOf] using hq1')
        have ho : OREL (E'.new r (some b) ⟨.row e, N, v.1.length⟩) w r (.row e v.1) := by
          refine ⟨N, by simp [Env.new], ?_⟩
          simp only [Env.new, if_true]
          refine ⟨cs, t, fr, c1, c2, m1, m2, m3, m4, RdL.mono (fun x c hh => ?_) _ _ m5⟩
          have : Rd E1.S w e x c := Rd.keep (.refl _ _) hS e x c hh
          rw [g2]; exact this
        obtain ⟨g6, _⟩ := g1.adopt hun (Wr.refl w b) (by rw [g2]; exact hsep.1) hsep1 hnb ho
        refine ⟨E'.new r (some b) ⟨.row e, N, v.1.length⟩, ?_, g2, ?_, ?_, ?_⟩
        · simp only [heapAll, updL_cons]; exact g6
        · intro r' b' hu' hb'
          by_cases hrr : r' = r
          · subst hrr
            simp only [Env.new, if_true] at hb'
            injection hb' with hb'; subst hb'
            exact ⟨q, .inl (by simp), by rw [hl]; rfl, hb⟩
          · simp only [Env.new, hrr, if_false, false_or] at hb' hu'
            obtain ⟨q', q1, q2⟩ := g3 r' b' hu' hb'
            exact ⟨q', q1.imp (fun hh => by simp [hh]) id, q2⟩
        · intro r'; simp only [Env.new, namesOf, List.mem_cons, g4]
        · refine ⟨⟨.inl rfl, ?_⟩, g5.mono (fun q hq' => ?_)⟩
          · rw [hv]; simp [Env.new, hb, k1]
          · have : q ≠ r := fun e => hn1 (e ▸ hq')
            exact ⟨.inr, by simp [Env.new, this], by simp [Env.new, this]⟩


  | .bor i r T :: g, v, rs, qs, he, hr, hqs, hbx, hn, hnq, hd => by
    obtain ⟨q, c, r1, r2, qs', hv, hl, e1, eq, hres, e2⟩ := extr_bor he
    obtain ⟨hn1, hn2⟩ := nodup_cons hn
    subst eq
    obtain ⟨hq1, hq2⟩ := nodup_cons hnq
    obtain ⟨E', g1, g2, g3, g4, g5⟩ := cut_heap h h1 x1 hβ hsh hq hp1 hp2 hs1 g v.2 r2 qs' e2 (fun r hr' => hr r (by simp [e1, hr'])) (fun q hq => hqs q (by simp [hq])) hbx hn2 hq2 (fun q hq => hd q (by simp [hq]))
    have hent := h.ent q
    rw [hl] at hent
    obtain ⟨hu, b, cs, t, fr, k1, k2, k3, k4, k5, k6⟩ := hent
    have hlive1 : (look1 q).isLive = true := by rw [hq q (hqs q (by simp)), hl]; rfl
    have hrd := res_rd T c v.1 r1 cs.toList E1 h hres k6 x1 (fun q hq' => hsh q (hr q (by simp [e1, hq'])))
    have hsep := h1.sep q b hlive1 ((hβ q).trans k1)
    have hsep1 := hp2 q (hqs q (by simp)) b (by rw [hl]; rfl) k1
    have hun := look_none (v := v.2) hn1
    have hnb : ∀ r', (updL (heapAll g v.2) (fun _ => Ent.un) r').isLive = true → E'.β r' ≠ some b := by
      intro r' hl' hb'
      have hu' : E'.U r' := (g1.U_iff r').2 (by intro hh; rw [hh] at hl'; simp [Ent.isLive] at hl')
      obtain ⟨q', hq1', hq2', hq3'⟩ := g3 r' b hu' hb'
      have : q' = q := h.inj q' q b hq2' (by rw [hl]; rfl) hq3' k1
      subst this
      rcases hq1' with hq1' | hq1'
      · exact hq1 hq1'
      · exact hd q' (by simp) (by simpa [boxesOf] using hq1')
    have ho : OREL (E'.new r (some b) ⟨.box T, cs.size, 0⟩) w r (.box T (.data T v.1)) := by
      refine ⟨b, cs, t, fr, by simp [Env.new], by simp [Env.new], k3, k4, rfl, ?_⟩
      change Rd (E'.new r (some b) _).S w T v.1 cs.toList
      rw [show (E'.new r (some b) ⟨.box T, cs.size, 0⟩).S = E1.S from g2]
      exact hrd
    obtain ⟨g6, _⟩ := g1.adopt hun (Wr.refl w b) (by rw [g2]; exact hsep.1) hsep1 hnb ho
    refine ⟨E'.new r (some b) ⟨.box T, cs.size, 0⟩, ?_, g2, ?_, ?_, ?_⟩
    · simp only [heapAll, updL_cons]; exact g6
    · intro r' b' hu' hb'
      by_cases hrr : r' = r
      · subst hrr
        simp only [Env.new, if_true] at hb'
        injection hb' with hb'; subst hb'
        exact ⟨q, .inl (by simp), by rw [hl]; rfl, k1⟩
      · simp only [Env.new, hrr, if_false, false_or] at hb' hu'
        obtain ⟨q', q1, q2⟩ := g3 r' b' hu' hb'
        exact ⟨q', q1.imp (fun hh => by simp [hh]) id, q2⟩
    · intro r'
      simp only [Env.new, namesOf, List.mem_cons, g4]
    · refine ⟨⟨.inl rfl, fun q2 l p hv2 => ?_⟩, g5.mono (fun q hq' => ?_)⟩
      · rw [hv] at hv2
        injection hv2 with e1 e2 e3
        subst e1
        simp [Env.new, k1, k2]
      · have : q ≠ r := fun e => hn1 (e ▸ hq')
        exact ⟨.inr, by simp [Env.new, this], by simp [Env.new, this]⟩

theorem res_agg {look : Nat → Ent} {T : Ty} {v : AV} {x : Den T} {rs : List Nat} (h : res look T v = some (x, rs)) : v.isAgg = T.agg := by
  cases v with
  | data T' y =>
    simp only [res] at h
    split at h
    · rename_i e; subst e; rfl
    · exact absurd h (by simp)
  | nils e => cases T with
    | slice e' => rfl
    | _ => simp [res] at h
  | ow r e g => cases T with
    | slice e' => rfl
    | _ => simp [res] at h
  | pr a b => cases T with
    | pair A B => rfl
    | _ => simp [res] at h
  | _ => cases T <;> simp [res] at h

theorem SREL.slot {E : Env} {w : World} {sl : List AV} {tmps : Array Value} (k : SREL E w sl tmps) (i : Nat) (v : AV) (hv : V E w v (tmps.getD i undef)) : SREL E w (setAt sl i v) tmps := by
  refine ⟨by rw [length_setAt, k.len], fun t => ?_⟩
  rw [getAt_setAt]
  split
  · rename_i h; rw [h.1]; exact hv
  · exact k.val t

theorem V_res {E E1 : Env} {look : Nat → Ent} {rs0 : List Nat} (h : HREL P0 S0 E look w) (x1 : Ext P0 E w E1 w)
    (hsh : ∀ r ∈ rs0, ∀ T l, look r = .live (.row T l) → ∀ b, E.β r = some b → E1.S b) {T : Ty} {v : AV} {x : Den T} {rs : List Nat} {y : Value} (hr : res look T v = some (x, rs)) (hrs : ∀ r ∈ rs, r ∈ rs0)
    (hv : V E w v y) {E' : Env} (hS : E'.S = E1.S) : V E' w (.data T x) y := by
  have ha := res_agg hr
  have hd : (AV.data T x).isAgg = T.agg := rfl
  unfold V at *
  rw [hd]
  rw [ha] at hv
  split at hv
  · rename_i hh; rw [if_pos hh]
    obtain ⟨c, rfl, hc⟩ := hv
    refine ⟨c, rfl, ?_⟩
    have := res_rd T v x rs c.toList E1 h hr hc x1 (fun r hr' => hsh r (hrs r hr'))
    change Rd E'.S w T x c.toList
    rw [hS]; exact this
  · rename_i hh; rw [if_neg hh]
    have := res_rd T v x rs [y] E1 h hr hv x1 (fun r hr' => hsh r (hrs r hr'))
    change Rd E'.S w T x [y]
    rw [hS]; exact this

theorem cut_slots {E E1 E' : Env} {s : St} {look : Nat → Ent} {tmps : Array Value} {rs0 : List Nat} (h : HREL P0 S0 E look w) (hs : SREL E w s.sl tmps) (x1 : Ext P0 E w E1 w)
    (hsh : ∀ r ∈ rs0, ∀ T l, look r = .live (.row T l) → ∀ b, E.β r = some b → E1.S b) (hS : E'.S = E1.S) {bs : List (Nat × Ty)} (hbs : ∀ b ∈ bs, E'.U b.1 ∧ E'.β b.1 = E.β b.1 ∧ E'.L b.1 = E.L b.1) {l : List AV} (hl : SREL E' w l tmps) :
    ∀ (g : List Si) (v : Dens g) (rs qs : List Nat), extr s look g = some (v, rs, qs) → (∀ r ∈ rs, r ∈ rs0) → refsOk bs g = true → KeptOk E s E' g → SREL E' w (putAll g v l) tmps
  | [], v, rs, qs, he, hr, hb, hk => hl
  | .dat i T :: g, v, rs, qs, he, hr, hb, hk => by
    obtain ⟨r1, r2, e1, hres, e2⟩ := extr_dat he
    have ih := cut_slots h hs x1 hsh hS hbs hl g v.2 r2 qs e2 (fun r hr' => hr r (by simp [e1, hr'])) hb hk
    exact ih.slot i _ (V_res h x1 hsh hres (fun r hr' => hr r (by simp [e1, hr'])) (hs.val i) hS)
  | .ref i r T :: g, v, rs, qs, he, hr, hb, hk => by
    obtain ⟨hv, e2⟩ := extr_ref he
    unfold refsOk at hb
    rw [Bool.and_eq_true] at hb
    have ih := cut_slots h hs x1 hsh hS hbs hl g v rs qs e2 hr hb.2 hk
    refine ih.slot i _ ?_
    have h1 := hs.val i
    rw [hv, V_one rfl] at h1
    rw [V_one rfl]
    obtain ⟨a, ea, hu, hL⟩ := h1
    obtain ⟨b, hb1, hb2⟩ := List.any_eq_true.1 hb.1
    rw [Bool.and_eq_true] at hb2
    have hbr : b.1 = r := by simpa using hb2.1
    obtain ⟨g1, g2, g3⟩ := hbs b hb1
    rw [hbr] at g1 g2 g3
    exact ⟨a, ea, g1, fun L hL' => by rw [g2]; exact hL L (g3 ▸ hL')⟩
  | .box r T :: g, v, rs, qs, he, hr, hb, hk => by
    obtain ⟨c, r1, r2, hl1, e1, hres, e2⟩ := extr_box he
    exact cut_slots h hs x1 hsh hS hbs hl g v.2 r2 qs e2 (fun r hr' => hr r (by simp [e1, hr'])) hb hk.2
  | .row i r e :: g, v, rs, qs, he, hr, hb, ⟨hk1, hk2⟩ => by
    rcases extr_row he with ⟨e', hv, hnil, e2⟩ | ⟨q, qs', hv, hl1, eq, e2⟩
    · have ih := cut_slots h hs x1 hsh hS hbs hl g v.2 rs qs e2 hr hb hk2
      refine ih.slot i _ ?_
      have h1 := hs.val i
      rw [hv] at hk1
      rw [hv, V_one rfl] at h1
      rw [V_one rfl]
      simp only [C] at h1
      injection h1 with h1 _
      rw [h1]
      refine ⟨none, 0, 0, rfl, hk1.1, fun L hL' => ?_⟩
      rw [hk1.2.2] at hL'
      injection hL' with hL'; subst hL'
      rw [hk1.2.1]
      exact ⟨rfl, 0, ⟨rfl, rfl⟩, Nat.le_refl _, rfl⟩
    · have ih := cut_slots h hs x1 hsh hS hbs hl g v.2 rs qs' e2 hr hb hk2
      refine ih.slot i _ ?_
      have h1 := hs.val i
      rw [hv] at hk1
      rw [hv, V_one rfl] at h1
      rw [V_one rfl]
      obtain ⟨a, len, cap, ea, hu, hL⟩ := h1
      refine ⟨a, len, cap, ea, hk1.1, fun L hL' => ?_⟩
      rw [hk1.2.1]
      exact hL L (hk1.2.2 ▸ hL')

  | .bor i r T :: g, v, rs, qs, he, hr, hb, ⟨hk1, hk2⟩ => by
    obtain ⟨q, c, r1, r2, qs', hv, hl0, e1, eq, hres, e2⟩ := extr_bor he
    have ih := cut_slots h hs x1 hsh hS hbs hl g v.2 r2 qs' e2 (fun r hr' => hr r (by simp [e1, hr'])) hb hk2
    refine ih.slot i _ ?_
    have h1 := hs.val i
    obtain ⟨k1, k2⟩ := hk1.2 q _ _ hv
    rw [hv, V_one rfl] at h1
    rw [V_one rfl]
    obtain ⟨a, ea, hu, hL⟩ := h1
    exact ⟨a, ea, hk1.1, fun L hL' => by rw [k1]; exact hL L (k2 ▸ hL')⟩

theorem boxes_kept {E E' : Env} {s : St} : ∀ {g : List Si}, KeptOk E s E' g → ∀ b ∈ boxesOf g, E'.U b.1 ∧ E'.β b.1 = E.β b.1 ∧ E'.L b.1 = E.L b.1
  | [], _, b, hb => by simp [boxesOf] at hb
  | .dat _ _ :: g, h, b, hb => boxes_kept (g := g) h b hb
  | .ref _ _ _ :: g, h, b, hb => boxes_kept (g := g) h b hb
  | .box r T :: g, ⟨h1, h2⟩, b, hb => by
    simp only [boxesOf, List.mem_cons] at hb
    rcases hb with rfl | hb
    · exact h1
    · exact boxes_kept h2 b hb
  | .row _ _ _ :: g, ⟨_, h2⟩, b, hb => boxes_kept h2 b hb
  | .bor _ _ _ :: g, ⟨_, h2⟩, b, hb => boxes_kept h2 b hb

theorem frame_len (n : Nat) : ∀ (g : List Si) (v : Dens g), (frameOf n g v).sl.length = n := by
  have : ∀ (l : List AV) (g : List Si) (v : Dens g), (putAll g v l).length = l.length := by
    intro l g
    induction g with
    | nil => intro v; rfl
    | cons x g ih =>
      intro v
      cases x with
      | dat i T => simp only [putAll, length_setAt]; exact ih v.2
      | ref i r T => simp only [putAll, length_setAt]; exact ih v
      | box r T => exact ih v.2
      | row i r e => simp only [putAll, length_setAt]; exact ih v.2
      | bor i r e => simp only [putAll, length_setAt]; exact ih v.2
  intro g v
  unfold frameOf
  rw [this]; simp

theorem replicate_bad (n t : Nat) : getAt AV.bad (List.replicate n .bad) t = .bad := by
  induction n generalizing t with
  | zero => rfl
  | succ n ih => cases t with
    | zero => rfl
    | succ t => exact ih t

/-- What a cut makes of a state. -/
theorem cut_ok {R : Type} {r : R} {bn : List Nat} {g : List Si} {s : St} {k : Dens g → Option R} (h : cutTo bn g s k = some r) :
    ∃ v, k v = some r ∧ ∀ P0 S0 E a w, REL P0 S0 E s a w → ∃ E', REL P0 S0 E' (frameOf s.sl.length g v) a w ∧ Pub bn P0 E w E' w := by
  unfold cutTo at h
  split at h
  · rename_i hok
    split at h
    · exact absurd h (by simp)
    · rename_i v rs qs he
      split at h
      · rename_i hc
        obtain ⟨hc1, hc2, hc3⟩ := hc
        refine ⟨v, h, fun P0 S0 E a w hr => ?_⟩
        unfold okSig at hok
        simp only [Bool.and_eq_true] at hok
        obtain ⟨⟨hn, hrf⟩, hbn⟩ := hok
        obtain ⟨E1, h1, x1, b1, l1, s1⟩ := HREL.shuts (look := s.look) rs E s.look hr.h (fun r _ => .inl rfl)
        have hnot : ∀ q, q ∉ rs → updL (Va.shut s.look rs) s.look q = s.look q := by
          intro q hq
          rw [updL_findW]
          have : q ∉ (Va.shut s.look rs).map Prod.fst := by
            intro hh
            obtain ⟨⟨q', e⟩, h2, h3⟩ := List.mem_map.1 hh
            simp only at h3; subst h3
            exact hq (shut_mem rs h2).1
          rw [findW_none this]
        -- boxes are no rows
        have hbox : ∀ (g : List Si) (v : Dens g) (rs qs : List Nat), extr s s.look g = some (v, rs, qs) → ∀ r ∈ (boxesOf g).map Prod.fst, ∃ T c, s.look r = .live (.box T c) := by
          intro g
          induction g with
          | nil => intro v rs qs he r hr; simp [boxesOf] at hr
          | cons x g ih =>
            intro v rs qs he r hr
            cases x with
            | dat i T => obtain ⟨_, _, _, _, e2⟩ := extr_dat he; exact ih _ _ _ e2 r hr
            | ref i q T => obtain ⟨_, e2⟩ := extr_ref he; exact ih _ _ _ e2 r hr
            | box q T =>
              obtain ⟨c, _, _, hl, _, _, e2⟩ := extr_box he
              simp only [boxesOf, List.map_cons, List.mem_cons] at hr
              rcases hr with rfl | hr
              · exact ⟨T, c, hl⟩
              · exact ih _ _ _ e2 r hr
            | row i q e =>
              rcases extr_row he with ⟨_, _, _, e2⟩ | ⟨_, _, _, _, _, e2⟩
              · exact ih _ _ _ e2 r hr
              · exact ih _ _ _ e2 r hr
            | bor i q e =>
              obtain ⟨_, _, _, _, _, _, _, _, _, _, e2⟩ := extr_bor he
              exact ih _ _ _ e2 r hr
        have hsame : ∀ q ∈ qs ++ (boxesOf g).map Prod.fst, updL (Va.shut s.look rs) s.look q = s.look q := by
          intro q hq
          rcases List.mem_append.1 hq with hq | hq
          · exact hnot q (meets_false hc2 hq)
          · obtain ⟨T, c, hl⟩ := hbox g v rs qs he q hq
            rw [updL_findW]
            cases hf : findW q (Va.shut s.look rs) with
            | none => rfl
            | some e =>
              exfalso
              have key : ∀ (l : List (Nat × Ent)), findW q l = some e → (q, e) ∈ l := by
                intro l
                induction l with
                | nil => intro hh; simp [findW] at hh
                | cons x l ih =>
                  obtain ⟨q', e'⟩ := x
                  intro hh
                  simp only [findW] at hh
                  split at hh
                  · rename_i hqq
                    injection hh with hh; subst hh
                    have : q = q' := by simpa using hqq
                    subst this; exact List.mem_cons_self
                  · exact List.mem_cons_of_mem _ (ih hh)
              obtain ⟨_, T', l', hl', _⟩ := shut_mem rs (key _ hf)
              rw [hl] at hl'; injection hl' with hl'; injection hl'
        have hpq : ∀ q ∈ qs ++ (boxesOf g).map Prod.fst, ∀ b, (s.look q).isLive = true → E.β q = some b → ¬ P0 b := fun q _ b hl hb => (hr.h.sep q b hl hb).2
        obtain ⟨E', g1, g2, g3, g4, g5⟩ := cut_heap hr.h h1 x1 b1 s1 (qs0 := qs ++ (boxesOf g).map Prod.fst) hsame h1.pIn hpq h1.s0 g v rs qs he (fun _ h => h) (fun q hq => List.mem_append.2 (.inl hq))
          (fun q hq => List.mem_append.2 (.inr hq)) hn hc1 (fun q hq => meets_false hc3 hq)
        refine ⟨E', ⟨g1, ?_, hr.d⟩, ⟨fun b hb => by rw [g2]; exact x1.s b hb, .refl _ _, .refl _ _, fun q hq hu => ?_⟩⟩
        · refine cut_slots hr.h hr.s x1 s1 g2 (boxes_kept g5) ?_ g v rs qs he (fun _ h => h) hrf g5
          exact ⟨by simp [hr.s.len], fun t => by rw [replicate_bad]; exact .bad⟩
        · obtain ⟨b, hb1, hb2⟩ := List.any_eq_true.1 (List.all_eq_true.1 hbn q hq)
          have hbq : b.1 = q := by simpa using hb2
          obtain ⟨k1, k2, k3⟩ := boxes_kept g5 b hb1
          rw [hbq] at k1 k2 k3
          exact ⟨k1, .inr ⟨k3, k2⟩⟩
      · exact absurd h (by simp)
  · exact absurd h (by simp)

end
end Go.Va

