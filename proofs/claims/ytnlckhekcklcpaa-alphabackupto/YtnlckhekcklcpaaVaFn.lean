/-
  Va, part 27: functions: what is handed in, what comes back; a body's run gives the function's law.
-/
import Derived.Test.YtnlckhekcklcpaaVaRun
set_option linter.unusedVariables false
set_option linter.unusedSimpArgs false
namespace Go.Va
open Go

/-- An argument: a datum · an own row that is handed over · a pointer to an own variable that is lent. -/
inductive Ai where
  | dat (T : Ty)
  | row (e : Ty)
  | ptr (T : Ty)
/-- A result: a datum · an own row. -/
inductive Oi where
  | dat (T : Ty)
  | row (e : Ty)

def nmA (j : Nat) : Nat := 500000 + 2 * j
def nmO (j : Nat) : Nat := 500001 + 2 * j

def boxSig : Nat → List Ai → List Si
  | _, [] => []
  | j, .ptr T :: as => .box (nmA j) T :: boxSig (j + 1) as
  | j, .dat _ :: as => boxSig (j + 1) as
  | j, .row _ :: as => boxSig (j + 1) as
def inSig : Nat → List Ai → List Si
  | _, [] => []
  | j, .dat T :: as => .dat j T :: inSig (j + 1) as
  | j, .row e :: as => .row j (nmA j) e :: inSig (j + 1) as
  | j, .ptr T :: as => .bor j (nmA j) T :: inSig (j + 1) as
def bnOf : Nat → List Ai → List Nat
  | _, [] => []
  | j, .ptr _ :: as => nmA j :: bnOf (j + 1) as
  | j, .dat _ :: as => bnOf (j + 1) as
  | j, .row _ :: as => bnOf (j + 1) as
def outSig : Nat → List (Nat × Oi) → List Si → List Si
  | _, [], g => g
  | j, (t, .dat T) :: os, g => .dat t T :: outSig (j + 1) os g
  | j, (t, .row e) :: os, g => .row t (nmO j) e :: outSig (j + 1) os g

def argAVs : (j : Nat) → (as : List Ai) → Dens (inSig j as) → List AV
  | _, [], _ => []
  | j, .dat T :: as, v => .data T v.1 :: argAVs (j + 1) as v.2
  | j, .row e :: as, v => .ow (nmA j) e none :: argAVs (j + 1) as v.2
  | j, .ptr T :: as, v => .po (nmA j) (.box T) [] :: argAVs (j + 1) as v.2
def outAVs (nm : Nat → Nat) : (j : Nat) → (os : List (Nat × Oi)) → (g : List Si) → Dens (outSig j os g) → List AV
  | _, [], _, _ => []
  | j, (_, .dat T) :: os, g, u => .data T u.1 :: outAVs nm (j + 1) os g u.2
  | j, (_, .row e) :: os, g, u => .ow (nm j) e none :: outAVs nm (j + 1) os g u.2
def oneAV : List AV → AV
  | [v] => v
  | l => .tup (listAV l)

abbrev DIn (as : List Ai) : Type := Dens (inSig 0 as)
abbrev gOut (as : List Ai) (os : List (Nat × Oi)) : List Si := outSig 0 os (boxSig 0 as)
abbrev DOut (as : List Ai) (os : List (Nat × Oi)) : Type := Dens (gOut as os)

def heapOf (g : List Si) (v : Dens g) : Nat → Ent := updL (heapAll g v) fun _ => .un

structure FnOk (P : Program) (fid : Nat) (as : List Ai) (os : List (Nat × Oi)) (f : DIn as → Option (DOut as os)) : Prop where
  fn : ∃ fn, P.funcs[fid]? = some fn ∧ (fn.name == "runtime.NumGoroutine") = false ∧ fn.body.isNone = false
  run : ∀ v u, f v = some u → ∀ P0 S0 E w vals, HREL P0 S0 E (heapOf (inSig 0 as) v) w → C E w (listAV (argAVs 0 as v)) vals →
    Calls P fid vals.toArray w fun en w' => ∃ E' x, en = .returned x ∧ HREL P0 S0 E' (heapOf (gOut as os) u) w' ∧ Pub (bnOf 0 as) P0 E w E' w' ∧ V E' w' (oneAV (outAVs nmO 0 os (boxSig 0 as) u)) x

def endK (as : List Ai) (os : List (Nat × Oi)) : KK (DOut as os)
  | .nrm, s => cutTo (bnOf 0 as) (gOut as os) s some
  | .ret, s => cutTo (bnOf 0 as) (gOut as os) s some
  | .ex _, _ => none

/-- The function's own numbers are as told. -/
def fnFits (fn : Func) (n : Nat) (as : List Ai) (os : List (Nat × Oi)) : Bool :=
  !(fn.name == "runtime.NumGoroutine") && (fn.ntmps == n) && decide (as.length ≤ n) &&
    (fn.results.toList.map fun | .tmp t => some t | _ => none) == (os.map fun o => some o.1) && nodup (os.map Prod.fst) && os.all fun o => decide (o.1 < n)

section
variable {P : Program}

theorem listAV_get {E : Env} {w : World} : ∀ (l : List AV) (vs : List Value), C E w (listAV l) vs → l.length = vs.length ∧ ∀ (i : Nat) (v : AV), l[i]? = some v → V E w v (vs.getD i undef)
  | [], vs, h => by simp only [listAV, C] at h; subst h; exact ⟨rfl, fun i v h => by simp at h⟩
  | a :: l, vs, ⟨x, vs', e, h1, h2⟩ => by
    subst e
    obtain ⟨h3, h4⟩ := listAV_get l vs' h2
    refine ⟨by simp [h3], fun i v hi => ?_⟩
    cases i with
    | zero => simp at hi; subst hi; exact h1
    | succ i => simp at hi; simpa using h4 i v hi

theorem argAVs_length : ∀ (j : Nat) (as : List Ai) (v : Dens (inSig j as)), (argAVs j as v).length = as.length
  | _, [], _ => rfl
  | j, .dat T :: as, v => by simp [argAVs, argAVs_length (j + 1) as v.2]
  | j, .row e :: as, v => by simp [argAVs, argAVs_length (j + 1) as v.2]
  | j, .ptr T :: as, v => by simp [argAVs, argAVs_length (j + 1) as v.2]

/-- The frame at the begin. -/
theorem in_slots {E : Env} {w : World} {tmps : Array Value} {l : List AV} (hl : SREL E w l tmps) : ∀ (as : List Ai) (j : Nat) (v : Dens (inSig j as)), (∀ (i : Nat) (a : AV), (argAVs j as v)[i]? = some a → V E w a (tmps.getD (j + i) undef)) →
    SREL E w (putAll (inSig j as) v l) tmps
  | [], _, _, _ => hl
  | .dat T :: as, j, v, h => by
    have ih := in_slots hl as (j + 1) v.2 (fun i a hi => by have := h (i + 1) a (by simpa [argAVs] using hi); rwa [show j + (i + 1) = j + 1 + i by omega] at this)
    exact ih.slot j _ (h 0 _ rfl)
  | .row e :: as, j, v, h => by
    have ih := in_slots hl as (j + 1) v.2 (fun i a hi => by have := h (i + 1) a (by simpa [argAVs] using hi); rwa [show j + (i + 1) = j + 1 + i by omega] at this)
    exact ih.slot j _ (h 0 _ rfl)
  | .ptr T :: as, j, v, h => by
    have ih := in_slots hl as (j + 1) v.2 (fun i a hi => by have := h (i + 1) a (by simpa [argAVs] using hi); rwa [show j + (i + 1) = j + 1 + i by omega] at this)
    exact ih.slot j _ (h 0 _ rfl)

/-- The results, out of the frame at the end. -/
theorem out_slots {E : Env} {w : World} {tmps : Array Value} {g : List Si} {l sl : List AV} : ∀ (os : List (Nat × Oi)) (j : Nat) (u : Dens (outSig j os g)), nodup (os.map Prod.fst) = true → (∀ o ∈ os, o.1 < l.length) →
    (∀ o ∈ os, getAt .bad sl o.1 = getAt .bad (putAll (outSig j os g) u l) o.1) → SREL E w sl tmps → C E w (listAV (outAVs nmO j os g u)) (os.map fun o => tmps.getD o.1 undef)
  | [], _, _, _, _, _, _ => rfl
  | (t, .dat T) :: os, j, u, hn, hlt, heq, hs => by
    obtain ⟨hn1, hn2⟩ := nodup_cons hn
    have hpl : ∀ (g : List Si) (v : Dens g), (putAll g v l).length = l.length := fun g v => by
      have : ∀ (g : List Si) (v : Dens g), (putAll g v l).length = l.length := by
        intro g
        induction g with
        | nil => intro v; rfl
        | cons x g ih =>
          intro v
          cases x with
          | dat i T => simp only [putAll, length_setAt]; exact ih v.2
          | ref i r T => simp only [putAll, length_setAt]; exact ih v
          | box r T => exact ih v.2
          | row i r e => simp only [putAll, length_setAt]; exact ih v.2
          | bor i r e => simp only [putAll, length_setAt]; exact ih v.2
      exact this g v
    have h1 := hs.val t
    have h0 := heq (t, .dat T) (by simp)
    simp only [outSig, putAll] at h0
    rw [h0, getAt_setAt, if_pos ⟨rfl, by rw [hpl]; exact hlt (t, .dat T) (by simp)⟩] at h1
    refine ⟨_, _, rfl, h1, out_slots os (j + 1) u.2 hn2 (fun o ho => hlt o (by simp [ho])) (fun o ho => ?_) hs⟩
    have h2 := heq o (by simp [ho])
    simp only [outSig, putAll] at h2
    rw [h2, getAt_setAt, if_neg]
    intro hh
    exact hn1 (hh.1 ▸ List.mem_map.2 ⟨o, ho, rfl⟩)
  | (t, .row T) :: os, j, u, hn, hlt, heq, hs => by
    obtain ⟨hn1, hn2⟩ := nodup_cons hn
    have hpl : ∀ (g : List Si) (v : Dens g), (putAll g v l).length = l.length := fun g v => by
      have : ∀ (g : List Si) (v : Dens g), (putAll g v l).length = l.length := by
        intro g
        induction g with
        | nil => intro v; rfl
        | cons x g ih =>
          intro v
          cases x with
          | dat i T => simp only [putAll, length_setAt]; exact ih v.2
          | ref i r T => simp only [putAll, length_setAt]; exact ih v
          | box r T => exact ih v.2
          | row i r e => simp only [putAll, length_setAt]; exact ih v.2
          | bor i r e => simp only [putAll, length_setAt]; exact ih v.2
      exact this g v
    have h1 := hs.val t
    have h0 := heq (t, .row T) (by simp)
    simp only [outSig, putAll] at h0
    rw [h0, getAt_setAt, if_pos ⟨rfl, by rw [hpl]; exact hlt (t, .row T) (by simp)⟩] at h1
    refine ⟨_, _, rfl, h1, out_slots os (j + 1) u.2 hn2 (fun o ho => hlt o (by simp [ho])) (fun o ho => ?_) hs⟩
    have h2 := heq o (by simp [ho])
    simp only [outSig, putAll] at h2
    rw [h2, getAt_setAt, if_neg]
    intro hh
    exact hn1 (hh.1 ▸ List.mem_map.2 ⟨o, ho, rfl⟩)

theorem V_one_or_tup {E : Env} {w : World} : ∀ (l : List AV) (vs : List Value), C E w (listAV l) vs → V E w (oneAV l) (if h : vs.toArray.size = 1 then vs.toArray[0] else .tuple vs.toArray)
  | [], vs, h => by
    simp only [listAV, C] at h; subst h
    simp only [oneAV]
    rw [V_one rfl]
    exact ⟨#[], by simp, rfl⟩
  | [a], vs, ⟨x, vs', e, h1, h2⟩ => by
    simp only [listAV, C] at h2
    subst e h2
    exact h1
  | a :: b :: l, vs, h => by
    have hl := (listAV_get _ _ h).1
    simp only [oneAV]
    rw [V_one rfl, dif_neg (by simp at hl ⊢; omega)]
    exact ⟨vs.toArray, rfl, by simpa using h⟩

theorem results_run {fn : Func} {tmps : Array Value} {w : World} : ∀ (os : List Nat), (fn.results.toList.map fun | .tmp t => some t | _ => none) = os.map some →
    (results fn tmps).run P w = .ok (if h : (os.map fun t => tmps.getD t undef).toArray.size = 1 then (os.map fun t => tmps.getD t undef).toArray[0] else .tuple (os.map fun t => tmps.getD t undef).toArray) w := by
  intro os h
  unfold results
  have key : ∀ (l : List ResultVar) (os : List Nat) (f : ResultVar → Sem Value), (∀ t, f (.tmp t) = pure (tmps.getD t undef)) → (l.map fun | .tmp t => some t | _ => none) = os.map some → (l.mapM f : Sem (List Value)) = pure (os.map fun t => tmps.getD t undef) := by
    intro l
    induction l with
    | nil => intro os f hf h; cases os with
      | nil => rfl
      | cons => simp at h
    | cons a l ih =>
      intro os f hf h
      cases os with
      | nil => simp at h
      | cons t os =>
        simp only [List.map_cons, List.cons.injEq] at h
        cases a with
        | cell => simp at h
        | tmp t' =>
          obtain ⟨h1, h2⟩ := h
          simp only [Option.some.injEq] at h1; subst h1
          rw [List.mapM_cons, ih os f hf h2, hf]
          simp
  rw [Array.mapM_eq_mapM_toList, key fn.results.toList os _ (fun t => rfl) h]
  simp [Sem.run_pure]

theorem fn_ok {x : Ctx} {fid : Nat} {fn : Func} {as : List Ai} {os : List (Nat × Oi)} {f : DIn as → Option (DOut as os)} {A : AC (DOut as os)} (hm : P.follows .mixedOrders = true) (hT : TabOk P x.c.tab) (hΦ : ∀ e ∈ x.c.Φ, EntryOk P e)
    (hf : P.funcs[fid]? = some fn) (hb : fn.body = some A.code) (hfit : fnFits fn x.len as os = true) (hbn : x.bn = bnOf 0 as) (hA : A.Ok P x)
    (hrun : ∀ v u, f v = some u → acRun x A (frameOf x.len (inSig 0 as) v) (endK as os) = some u) : FnOk P fid as os f := by
  unfold fnFits at hfit
  simp only [Bool.and_eq_true, Bool.not_eq_true', decide_eq_true_eq, beq_iff_eq, List.all_eq_true] at hfit
  obtain ⟨⟨⟨⟨⟨f1, f2⟩, f3⟩, f4⟩, f5⟩, f6⟩ := hfit
  refine ⟨⟨fn, hf, by simpa using f1, by simp [hb]⟩, fun v u hv P0 S0 E w vals hh hc => ?_⟩
  have hr := hrun v u hv
  obtain ⟨hl, hg⟩ := listAV_get _ _ hc
  rw [argAVs_length] at hl
  refine calls_of_wp hf hb ?_
  have hrel : REL P0 S0 E (frameOf x.len (inSig 0 as) v) { tmps := vals.toArray ++ Array.replicate (fn.ntmps - vals.toArray.size) undef, defers := [] } w := by
    refine ⟨hh, ?_, rfl⟩
    have hsz : (vals.toArray ++ Array.replicate (fn.ntmps - vals.toArray.size) undef).size = x.len := by simp [f2]; omega
    refine in_slots ⟨by rw [hsz]; simp, fun t => by rw [replicate_bad]; exact .bad⟩ as 0 v (fun i a hi => ?_)
    have hi' : i < vals.length := by
      have := (List.getElem?_eq_some_iff.1 hi).1
      rw [argAVs_length] at this; omega
    have := hg i a hi
    rw [Nat.zero_add]
    have e : (vals.toArray ++ Array.replicate (fn.ntmps - vals.toArray.size) undef).getD i undef = vals.getD i undef := by
      rw [Array.getD_eq_getD_getElem?, List.getD_eq_getElem?_getD, Array.getElem?_append_left (by simpa using hi')]
      simp
    rw [e]; exact this
  refine acRun_ok hm hT hΦ A hA _ _ u (frame_len _ _ _) hr P0 S0 E w _ _ hrel (frame_len _ _ _) (fun e s' E' a' w' h1 h2 h3 h4 => ?_)
  have fin : cutTo (bnOf 0 as) (gOut as os) s' some = some u → a'.defers = [] ∧ ∃ v, (results fn a'.tmps).run P w' = .ok v w' ∧ ∃ E' x, Ending.returned v = .returned x ∧ HREL P0 S0 E' (heapOf (gOut as os) u) w' ∧ Pub (bnOf 0 as) P0 E w E' w' ∧ V E' w' (oneAV (outAVs nmO 0 os (boxSig 0 as) u)) x := by
    intro h5
    obtain ⟨u', h6, h7⟩ := cut_ok h5
    injection h6 with h6; subst h6
    obtain ⟨E2, h8, h9⟩ := h7 P0 S0 E' a' w' h2
    refine ⟨h2.d, _, results_run (os.map Prod.fst) (by rw [f4, List.map_map]; rfl), E2, _, rfl, h8.h, ?_, ?_⟩
    · rw [← hbn]; rw [← hbn] at h9; exact h4.trans h9
    · refine V_one_or_tup _ _ ?_
      rw [List.map_map]
      exact out_slots (l := List.replicate s'.sl.length .bad) os 0 u' f5 (fun o ho => by rw [List.length_replicate, h3]; exact f6 o ho) (fun o ho => rfl) h8.s
  cases e with
  | nrm => exact fin h1
  | ret => exact fin h1
  | ex id => exact absurd h1 (by simp [endK])

end
end Go.Va

