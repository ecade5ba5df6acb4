/-
  Co, part 9: maps.
-/
import Derived.Test.YtfpedialdcgnhaaGreatDoorCoMk
set_option linter.unusedVariables false
set_option linter.unusedSimpArgs false
namespace Go.Co
open Go
open Go.Va (Grow getAt setAt NoFr Ty TE findT TabOk TyIs zc ofCells Wr At Keep Gl)
def findI (kind : TypeDesc) (x : Value) : List (Value × AV) → Nat → Option (Option (Nat × AV))
  | [], _ => some none
  | (k, v) :: es, i => match Instr.sameNow kind x k with
    | some true => some (some (i, v))
    | some false => findI kind x es (i + 1)
    | none => none
theorem findI_none {E : Env} {kind : TypeDesc} {x : Value} : ∀ (es : List (Value × AV)) (en : List MapEntry) (i : Nat), MREL E es en → findI kind x es i = some none → Instr.findNow kind x en i = some none
  | [], en, i, h, _ => by rw [show en = [] from h]; rfl
  | (k, v) :: es, en, i, ⟨e, r, h1, h2, h3, h4⟩, hf => by
    subst h1
    unfold findI at hf
    unfold Instr.findNow
    rw [h2]
    split at hf
    · exact nomatch hf
    · rename_i hs; rw [hs]; exact findI_none es r (i + 1) h4 hf
    · exact nomatch hf
theorem findI_some {E : Env} {kind : TypeDesc} {x : Value} : ∀ (es : List (Value × AV)) (en : List MapEntry) (i j : Nat) (v : AV), MREL E es en → findI kind x es i = some (some (j, v)) →
    ∃ y j', Instr.findNow kind x en i = some (some (j, y)) ∧ V E v y ∧ j = i + j' ∧ ∃ e k', en[j']? = some e ∧ es[j']? = some (k', v) ∧ e.key = k'
  | [], en, i, j, v, h, hf => nomatch hf
  | (k, v0) :: es, en, i, j, v, ⟨e, r, h1, h2, h3, h4⟩, hf => by
    subst h1
    unfold findI at hf
    unfold Instr.findNow
    rw [h2]
    split at hf
    · rename_i hs
      injection hf with hf; injection hf with hf; injection hf with e1 e2; subst e1 e2
      rw [hs]
      exact ⟨e.val, 0, rfl, h3, rfl, e, k, rfl, rfl, h2⟩
    · rename_i hs
      rw [hs]
      obtain ⟨y, j', g1, g2, g3, e', k', g4, g5, g6⟩ := findI_some es r (i + 1) j v h4 hf
      exact ⟨y, j' + 1, g1, g2, by omega, e', k', by simpa using g4, by simpa using g5, g6⟩
    · exact nomatch hf
theorem MREL_len {E : Env} : ∀ (es : List (Value × AV)) (en : List MapEntry), MREL E es en → es.length = en.length
  | [], en, h => by rw [show en = [] from h]; rfl
  | _ :: es, en, ⟨e, r, h1, _, _, h4⟩ => by subst h1; rw [List.length_cons, List.length_cons, MREL_len es r h4]
def setM : List (Value × AV) → Nat → Value × AV → List (Value × AV)
  | [], _, _ => []
  | _ :: r, 0, y => y :: r
  | x :: r, n + 1, y => x :: setM r n y
theorem MREL_set {E : Env} {x y : Value} {v : AV} (hv : V E v y) : ∀ (es : List (Value × AV)) (en : List MapEntry) (j : Nat), MREL E es en → MREL E (setM es j (x, v)) (en.modify j fun e => { e with key := x, val := y })
  | [], en, j, h => by rw [show en = [] from h]; cases j <;> rfl
  | _ :: es, en, 0, ⟨e, r, h1, _, _, h4⟩ => by subst h1; exact ⟨_, r, rfl, rfl, hv, h4⟩
  | (k, u) :: es, en, j + 1, ⟨e, r, h1, h2, h3, h4⟩ => by subst h1; exact ⟨e, _, rfl, h2, h3, MREL_set hv es r j h4⟩
theorem MREL_push {E : Env} {x y : Value} {v : AV} {b : Nat} (hv : V E v y) : ∀ (es : List (Value × AV)) (en : List MapEntry), MREL E es en → MREL E (es ++ [(x, v)]) (en ++ [{ key := x, val := y, born := b }])
  | [], en, h => by rw [show en = [] from h]; exact ⟨_, [], rfl, rfl, hv, rfl⟩
  | (k, u) :: es, en, ⟨e, r, h1, h2, h3, h4⟩ => by subst h1; exact ⟨e, _, rfl, h2, h3, MREL_push hv es r h4⟩
section
variable {R : Type} (P : Program) (h : Hs) (k : AV → Hs → Option R)
def cMakeMap (res : Option Operand) : Option R := match res with
  | none => newE h (.map []) fun q h => k (.mp q) h
  | some _ => none
def cLookup (t : TypeId) (m key : AV) (ok : Bool) : Option R := match P.underlying t, toVal key, m with
  | some (.map kt et), some x, .mp r => match h.H.get r, P.underlying kt with
    | .map es, some kind => match pureRun P (Instr.checkKey es.isEmpty 10000 kt x), findI kind x es 0, pureRun P (zeroValue et) with
      | some _, some (some (_, v)), _ => (match ok with
        | true => k (.tup (.cons v (.cons (.val (.bool true)) .done))) ⟨h.H, h.nx, r :: h.rl, h.wl⟩
        | false => k v ⟨h.H, h.nx, r :: h.rl, h.wl⟩)
      | some _, some none, some z => (match ok with
        | true => forceA (.tup (.cons (fromVal z) (.cons (.val (.bool false)) .done))) fun v => k v ⟨h.H, h.nx, r :: h.rl, h.wl⟩
        | false => forceA (fromVal z) fun v => k v ⟨h.H, h.nx, r :: h.rl, h.wl⟩)
      | _, _, _ => none
    | _, _ => none
  | _, _, _ => none
def cUpdate (t : TypeId) (m key v : AV) : Option R := match P.underlying t, toVal key, m with
  | some (.map kt _), some x, .mp r => match h.H.get r, P.underlying kt with
    | .map es, some kind => match pureRun P (Instr.checkKey false 10000 kt x), findI kind x es 0 with
      | some _, some (some (j, _)) => (match es[j]? with
        | some (k', _) => (match Instr.sameBits 10000 k' x with
          | true => putE h r (.map (setM es j (x, v))) h.nx [] fun h => k .bad h
          | false => none)
        | none => none)
      | some _, some none => putE h r (.map (es ++ [(x, v)])) h.nx [] fun h => k .bad h
      | _, _ => none
    | _, _ => none
  | _, _, _ => none
end
theorem ent_map {P0 : Nat → Prop} {E : Env} {look : Nat → Ent} {w : World} {r : Nat} {es : List (Value × AV)} (hh : HREL P0 E look w) (hl : look r = .map es) :
    ∃ b n en k, E r = some (b, n) ∧ w.heap[b]? = some (.map en k) ∧ MREL E es en.toList := by
  have := hh.ent r; rw [hl] at this; exact this
theorem isEmpty_len {α β : Type} {l : List α} {a : Array β} (h : l.length = a.toList.length) : a.isEmpty = l.isEmpty := by
  rw [Array.length_toList] at h
  cases l with
  | nil =>
    have : a.size = 0 := h.symm
    simp [Array.isEmpty, this]
  | cons x l =>
    have : a.size = l.length + 1 := h.symm
    simp [Array.isEmpty, this]
theorem run_getMap {P : Program} {w : World} {b ck : Nat} {en : Array MapEntry} (h : w.heap[b]? = some (.map en ck)) : (getObj b).run P w = .ok (.map en ck) w := by
  simp [getObj, Sem.run, h]
theorem run_setMap {P : Program} {w : World} {b ck : Nat} {en : Array MapEntry} (o : Obj) (h : w.heap[b]? = some (.map en ck)) : (setObj b o).run P w = .ok () { w with heap := w.heap.setIfInBounds b o } := by
  simp [setObj, Sem.run, h]
theorem wrSet {w : World} {b : Nat} {o : Obj} : Wr w { w with heap := w.heap.setIfInBounds b o } b := ⟨rfl, rfl, rfl, rfl, by simp, fun k hk => by
  show (w.heap.setIfInBounds b o)[k]? = _
  rw [Array.getElem?_setIfInBounds, if_neg (fun e => hk e.symm)]⟩
section
variable {P : Program} {R : Type} {r : R} {o : Oper} {ev : Operand → AV} {h : Hs} {k : AV → Hs → Option R}
theorem ok_makeMap {t : TypeId} {res : Option Operand} (ho : o.op = .makeMap t res) (hk : cMakeMap h k res = some r) : ∃ v h', k v h' = some r ∧ SOk P o ev h v h' := by
  unfold cMakeMap at hk
  cases res with
  | some _ => exact nomatch hk
  | none =>
    obtain ⟨hu, hk⟩ := newE_some hk
    refine ⟨_, _, hk, SOk.put (fun P0 E look w ρ hh hq _ hv => ?_)⟩
    have g : Grow w { w with heap := w.heap.push (.map #[] 0) } := growPush _ _
    obtain ⟨g1, g2⟩ := HREL.new (q := h.nx) (n := 0) (e := .map []) hh (hq.trans hu) g (by simp) ⟨w.heap.size, 0, #[], 0, if_pos rfl, by simp, rfl⟩
    refine .inl ⟨.map (some w.heap.size), _, ?_, _, g1, g2, w.heap.size, 0, if_pos rfl, rfl⟩
    unfold execOp; rw [ho]
    simp only [Option.map_none, Instr.makeMap, Sem.run_bind, Sem.run_pure, Result.andThen_ok, run_newObj]
theorem ok_lookup {t : TypeId} {x y : Operand} {ok : Bool} (ho : o.op = .lookup t x y ok) (hk : cLookup P h k t (ev x) (ev y) ok = some r) : ∃ v h', k v h' = some r ∧ SOk P o ev h v h' := by
  unfold cLookup at hk
  split at hk
  · rename_i kt et kx q hu hx hm
    split at hk
    · rename_i es kind hl hkt
      -- what the run asks
      have main : ∀ {P0 : Nat → Prop} {E : Env} {look : Nat → Ent} {w : World} {ρ : Operand → Value}, HREL P0 E look w → look q = h.look q → (∀ x ∈ o.op.operands.toList, V E (ev x) (ρ x)) →
          ∃ b en ck, ρ x = .map (some b) ∧ ρ y = kx ∧ w.heap[b]? = some (.map en ck) ∧ MREL E es en.toList ∧ en.isEmpty = es.isEmpty := by
        intro P0 E look w ρ hh hq hv
        have h1 := hv x (opnd ho (by simp [Op.operands]))
        have h2 := hv y (opnd ho (by simp [Op.operands]))
        rw [hm] at h1
        obtain ⟨b, n, e1, e2⟩ := h1
        injection e2 with e2 _
        obtain ⟨b', n', en, ck, e3, e4, e5⟩ := ent_map hh (hq.trans hl)
        rw [e1] at e3; injection e3 with e3; injection e3 with e3 _; subst e3
        refine ⟨b, en, ck, e2, toVal_ok hx h2, e4, e5, ?_⟩
        have := MREL_len _ _ e5
        exact isEmpty_len this
      have fin : ∀ {P0 : Nat → Prop} {E : Env} {look : Nat → Ent} {w : World} {ρ : Operand → Value} {b : Nat} {en : Array MapEntry} {ck : Nat} {u : Unit} {v0 : Value} {bb : Bool}, ρ x = .map (some b) → ρ y = kx → w.heap[b]? = some (.map en ck) → en.isEmpty = es.isEmpty →
          pureRun P (Instr.checkKey es.isEmpty 10000 kt kx) = some u → ((∃ j, Instr.findNow kind kx en.toList 0 = some (some (j, v0)) ∧ bb = true) ∨ (Instr.findNow kind kx en.toList 0 = some none ∧ pureRun P (zeroValue et) = some v0 ∧ bb = false)) →
          (execOp ρ o).run P w = .ok (.value (if ok = true then .tuple #[v0, .bool bb] else v0)) w := by
        intro P0 E look w ρ b en ck u v0 bb h1 h2 h3 h4 h5 h6
        unfold execOp; rw [ho]
        have hck := pureRun_ok _ _ w h5
        rw [← h4] at hck
        simp only [Instr.lookup, Sem.run_bind, Va.run_underlying hu, Result.andThen_ok, h1, h2, run_getMap h3, Sem.run_pure, hck, Instr.findKey, Va.run_underlying hkt]
        rcases h6 with ⟨j, h6, rfl⟩ | ⟨h6, h7, rfl⟩
        · simp only [h6, Sem.run_pure, Result.andThen_ok]
          try (cases ok <;> rfl)
        · simp only [h6, Sem.run_pure, Result.andThen_ok, Sem.run_bind, pureRun_ok _ _ w h7]
          try (cases ok <;> rfl)
      split at hk
      · rename_i u j v hc hf
        cases ok with
        | true =>
          simp only [] at hk
          refine ⟨_, _, hk, SOk.read (fun P0 E look w ρ hh hq hv => ?_)⟩
          obtain ⟨b, en, ck, g1, g2, g3, g4, g5⟩ := main hh hq hv
          obtain ⟨y0, j', k1, k2, _⟩ := findI_some _ _ _ _ _ g4 hf
          exact ⟨_, fin (P0 := P0) (E := E) (look := look) (bb := true) g1 g2 g3 g5 hc (.inl ⟨_, k1, rfl⟩), _, rfl, _, _, rfl, k2, _, _, rfl, rfl, rfl⟩
        | false =>
          simp only [] at hk
          refine ⟨_, _, hk, SOk.read (fun P0 E look w ρ hh hq hv => ?_)⟩
          obtain ⟨b, en, ck, g1, g2, g3, g4, g5⟩ := main hh hq hv
          obtain ⟨y0, j', k1, k2, _⟩ := findI_some _ _ _ _ _ g4 hf
          exact ⟨_, fin (P0 := P0) (E := E) (look := look) (bb := true) g1 g2 g3 g5 hc (.inl ⟨_, k1, rfl⟩), k2⟩
      · rename_i u z hc hf hz
        cases ok with
        | true =>
          simp only [forceA_eq] at hk
          refine ⟨_, _, hk, SOk.read (fun P0 E look w ρ hh hq hv => ?_)⟩
          obtain ⟨b, en, ck, g1, g2, g3, g4, g5⟩ := main hh hq hv
          have k1 := findI_none _ _ _ g4 hf
          exact ⟨_, fin (P0 := P0) (E := E) (look := look) (bb := false) g1 g2 g3 g5 hc (.inr ⟨k1, hz, rfl⟩), _, rfl, _, _, rfl, fromVal_ok z, _, _, rfl, rfl, rfl⟩
        | false =>
          simp only [forceA_eq] at hk
          refine ⟨_, _, hk, SOk.read (fun P0 E look w ρ hh hq hv => ?_)⟩
          obtain ⟨b, en, ck, g1, g2, g3, g4, g5⟩ := main hh hq hv
          have k1 := findI_none _ _ _ g4 hf
          exact ⟨_, fin (P0 := P0) (E := E) (look := look) (bb := false) g1 g2 g3 g5 hc (.inr ⟨k1, hz, rfl⟩), fromVal_ok z⟩
      · exact nomatch hk
    · exact nomatch hk
  · exact nomatch hk
theorem ok_update {t : TypeId} {x y z : Operand} (ho : o.op = .mapUpdate t x y z ∨ o.op = .insert t x y z) (hk : cUpdate P h k t (ev x) (ev y) (ev z) = some r) : ∃ v h', k v h' = some r ∧ SOk P o ev h v h' := by
  have hmem : ∀ a, (a = x ∨ a = y ∨ a = z) → a ∈ o.op.operands.toList := fun a ha => by
    rcases ho with ho | ho <;> exact opnd ho (by simp only [Op.operands]; rcases ha with rfl | rfl | rfl <;> simp)
  have hexec : ∀ {ρ : Operand → Value} {w w' : World}, (Instr.mapUpdate t (ρ x) (ρ y) (ρ z)).run P w = .ok () w' → (execOp ρ o).run P w = .ok .skip w' := by
    intro ρ w w' h1
    unfold execOp
    rcases ho with ho | ho <;> (rw [ho]; simp only [Sem.run_bind, h1, Result.andThen_ok, Sem.run_pure])
  unfold cUpdate at hk
  split at hk
  · rename_i kt et kx q hu hx hm
    split at hk
    · rename_i es kind hl hkt
      have main : ∀ {P0 : Nat → Prop} {E : Env} {look : Nat → Ent} {w : World} {ρ : Operand → Value}, HREL P0 E look w → look q = h.look q → (∀ x ∈ o.op.operands.toList, V E (ev x) (ρ x)) →
          ∃ b n en ck, E q = some (b, n) ∧ ρ x = .map (some b) ∧ ρ y = kx ∧ V E (ev z) (ρ z) ∧ w.heap[b]? = some (.map en ck) ∧ MREL E es en.toList := by
        intro P0 E look w ρ hh hq hv
        have h1 := hv x (hmem x (.inl rfl))
        have h2 := hv y (hmem y (.inr (.inl rfl)))
        rw [hm] at h1
        obtain ⟨b, n, e1, e2⟩ := h1
        injection e2 with e2 _
        obtain ⟨b', n', en, ck, e3, e4, e5⟩ := ent_map hh (hq.trans hl)
        rw [e1] at e3; injection e3 with e3; injection e3 with e3 e3'; subst e3 e3'
        exact ⟨b, n, en, ck, e1, e2, toVal_ok hx h2, hv z (hmem z (.inr (.inr rfl))), e4, e5⟩
      have hset : ∀ {w : World} {b : Nat} {en : Array MapEntry} {ck : Nat} (o' : Obj), w.heap[b]? = some (.map en ck) → ({ w with heap := w.heap.setIfInBounds b o' } : World).heap[b]? = some o' := by
        intro w b en ck o' h1
        show (w.heap.setIfInBounds b o')[b]? = _
        rw [Array.getElem?_setIfInBounds, if_pos rfl, if_pos (lt_of_some h1)]
      split at hk
      · rename_i u j v0 hc hf
        split at hk
        · rename_i k' v1 hj
          split at hk
          · rename_i hsb
            rw [putE_eq] at hk
            refine ⟨_, _, hk, SOk.put (fun P0 E look w ρ hh hq _ hv => ?_)⟩
            obtain ⟨b, n, en, ck, g0, g1, g2, g3, g4, g5⟩ := main hh hq hv
            obtain ⟨y0, j', k1, k2, k3, e, k'', k4, k5, k6⟩ := findI_some _ _ _ _ _ g5 hf
            rw [Nat.zero_add] at k3; subst k3
            rw [k5] at hj; injection hj with hj; injection hj with hj _; subst hj
            have hej : en[j]? = some e := by rw [← Array.getElem?_toList]; exact k4
            refine .inr (.inl ⟨_, hexec (w' := { w with heap := w.heap.setIfInBounds b (.map (en.modify j fun e => { e with key := kx, val := ρ z }) ck) }) ?_, E, ?_⟩)
            · rw [g1, g2]
              simp only [Instr.mapUpdate, Sem.run_bind, Va.run_underlying hu, Result.andThen_ok, run_getMap g4, Sem.run_pure, pureRun_ok _ _ w hc, Instr.findKey, Va.run_underlying hkt, k1, hej, Option.map_some, Option.getD_some, Instr.keyThatStays, k6, hsb, if_true, run_setMap _ g4]
            · obtain ⟨j1, j2⟩ := HREL.set (e := .map (setM es j (kx, ev z))) hh (by rw [hq]; show (h.look q).isLive = true; rw [show h.look q = .map es from hl]; rfl) g0 wrSet
                ⟨b, n, _, ck, g0, hset _ g4, by rw [Array.toList_modify]; exact MREL_set g3 _ _ j g5⟩ (.inl rfl)
              exact ⟨j1, j2, trivial⟩
          · exact nomatch hk
        · exact nomatch hk
      · rename_i u hc hf
        rw [putE_eq] at hk
        refine ⟨_, _, hk, SOk.put (fun P0 E look w ρ hh hq _ hv => ?_)⟩
        obtain ⟨b, n, en, ck, g0, g1, g2, g3, g4, g5⟩ := main hh hq hv
        have k1 := findI_none _ _ _ g5 hf
        refine .inr (.inl ⟨_, hexec (w' := { w with heap := w.heap.setIfInBounds b (.map (en.push { key := kx, val := ρ z, born := ck }) (ck + 1)) }) ?_, E, ?_⟩)
        · rw [g1, g2]
          simp only [Instr.mapUpdate, Sem.run_bind, Va.run_underlying hu, Result.andThen_ok, run_getMap g4, Sem.run_pure, pureRun_ok _ _ w hc, Instr.findKey, Va.run_underlying hkt, k1, run_setMap _ g4]
        · obtain ⟨j1, j2⟩ := HREL.set (e := .map (es ++ [(kx, ev z)])) hh (by rw [hq]; show (h.look q).isLive = true; rw [show h.look q = .map es from hl]; rfl) g0 wrSet
            ⟨b, n, en.push { key := kx, val := ρ z, born := ck }, ck + 1, g0, hset _ g4, by rw [Array.toList_push]; exact MREL_push g3 _ _ g5⟩ (.inl rfl)
          exact ⟨j1, j2, trivial⟩
      · exact nomatch hk
    · exact nomatch hk
  · exact nomatch hk
end
end Go.Co
