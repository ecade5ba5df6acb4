/- AlphaBack: what is written is read as it was, and what is read is written so again: where all three are of bulk at most 1048576. -/
import Derived.Test.YtnlckhekcklcpaaP0
import Derived.Test.YtnlckhekcklcpaaF0
set_option linter.unusedVariables false
set_option linter.unusedSimpArgs false
namespace Go.Proofs.Ytnlckhekcklcpaa
open Go Go.Va Go.Proofs Go.ChangeShapes Go.WideShapes Go.ChangeAt Go.RowKit

theorem unhex_facts : ∀ (l p : List Int), unhex l = some p → Bytes p ∧ p.length ≤ l.length
  | [], p, h => by simp [unhex] at h; subst h; exact ⟨(by intro x hx; cases hx), Nat.le_refl _⟩
  | [_], p, h => by simp [unhex] at h
  | a :: b :: r, p, h => by
    have ra := ix_range H16 a
    have rb := ix_range H16 b
    have h16 : (H16.size : Int) = 16 := rfl
    simp only [unhex] at h
    split at h
    · cases h
    · split at h
      · cases h
      · obtain ⟨p', h', rfl⟩ := Option.map_eq_some_iff.1 h
        obtain ⟨i1, i2⟩ := unhex_facts r p' h'
        refine ⟨?_, by simp; omega⟩
        intro x hx
        rcases List.mem_cons.1 hx with rfl | h''
        · omega
        · exact i1 x h''

theorem unbase_length {l q : List Int} (h : unbase l = some q) : q.length ≤ l.length := by
  unfold unbase at h
  cases hd : digs l with
  | none => rw [hd] at h; cases h
  | some d =>
    rw [hd] at h
    simp only [Option.bind_some] at h
    obtain ⟨⟨k, hk, e⟩, hq⟩ := dec_inv _ _ _ (fives_bit d) rfl h
    have hf := fives_length d
    have hdl := digs_length _ _ hd
    have := congrArg List.length e
    rw [hf, List.length_append, List.length_replicate, bitsL_length] at this
    omega

theorem bytes_of (s : ByteArray) : Bytes (ofBytes s) := fun _ h => ofBytes_range h

theorem f13_self (n : Nat) (l : List Int) : f13.f n l l = some (true, ()) := by
  unfold f13.f f13.S0
  rw [eqS_self]
  rfl

theorem alphaBack_true {b : List Int} {x : Int} {s : ByteArray} (hb : ∀ x ∈ b, 0 ≤ x ∧ x ≤ 255) (hx : 0 ≤ x ∧ x ≤ 18446744073709551615) (h : b.length + s.size ≤ 1048576) : f7.f (100000000 + 40) b x s = some (true, ()) := by
  have l1 := hex_length b
  have l2 := base_length b
  have hsz := size_of s
  unfold f7.f f7.S0
  rw [Hex_eq hb (by omega) (by omega)]
  simp only [bnd]
  rw [Unhex_eq (by rw [size_bytesOf]; omega) (by rw [size_bytesOf]; omega), Base_eq hb (by omega) (by omega)]
  simp only [bnd]
  rw [Unbase_eq (by rw [size_bytesOf]; omega) (by rw [size_bytesOf]; omega), Number_eq hx (by omega)]
  simp only [bnd]
  rw [Unnumber_eq (by omega), awake_ok, ofBytes_bytesOf (hex_range b), ofBytes_bytesOf (base_range b), ofBytes_bytesOf (num_range 13 x [] (by simp)), unhex_hex b hb, unbase_base hb, unnumber_num hx]
  simp only [bnd, back, backN, f13_self]
  rw [if_neg (by decide), if_neg (by decide), if_neg (by decide), if_neg (by decide), if_neg (by decide), if_neg (by decide)]
  refine Eq.trans (if_neg (by simp)) ?_
  change f7.S1 (100000000 + 40) s = _
  unfold f7.S1
  rw [Unhex_eq (by omega) (by omega), Unbase_eq (by omega) (by omega), Unnumber_eq (by omega)]
  have h1 : ∀ p, unhex (ofBytes s) = some p → f11.f (100000000 + 40) p = some (s, ()) := by
    intro p hp
    obtain ⟨k1, k2⟩ := unhex_facts _ _ hp
    rw [Hex_eq k1 (by omega) (by omega), hex_unhex _ _ (bytes_of s) hp, bytesOf_ofBytes]
  have h2 : ∀ q, unbase (ofBytes s) = some q → f20.f (100000000 + 40) q = some (s, ()) := by
    intro q hq
    obtain ⟨k1, k2⟩ := base_unbase (bytes_of s) hq
    have k3 := unbase_length hq
    rw [Base_eq k2 (by omega) (by omega), k1, bytesOf_ofBytes]
  have h3 : ∀ y, unnumber (ofBytes s) = some y → f16.f (100000000 + 40) y = some (s, ()) := by
    intro y hy
    obtain ⟨k1, k2⟩ := num_unnumber (bytes_of s) hy
    rw [Number_eq k2 (by omega), k1, bytesOf_ofBytes]
  cases e1 : unhex (ofBytes s) with
  | none =>
    cases e2 : unbase (ofBytes s) with
    | none =>
      cases e3 : unnumber (ofBytes s) with
      | none => rfl
      | some y => change bnd (f16.f _ y) _ = _; rw [h3 y e3]; change some (eqS s s, ()) = _; rw [eqS_self]
    | some q =>
      change bnd (f20.f _ q) _ = _
      rw [h2 q e2]
      refine Eq.trans (if_pos (eqS_self s)) ?_
      cases e3 : unnumber (ofBytes s) with
      | none => rfl
      | some y => change bnd (f16.f _ y) _ = _; rw [h3 y e3]; change some (eqS s s, ()) = _; rw [eqS_self]
  | some p =>
    change bnd (f11.f _ p) _ = _
    rw [h1 p e1]
    refine Eq.trans (if_pos (eqS_self s)) ?_
    cases e2 : unbase (ofBytes s) with
    | none =>
      cases e3 : unnumber (ofBytes s) with
      | none => rfl
      | some y => change bnd (f16.f _ y) _ = _; rw [h3 y e3]; change some (eqS s s, ()) = _; rw [eqS_self]
    | some q =>
      change bnd (f20.f _ q) _ = _
      rw [h2 q e2]
      refine Eq.trans (if_pos (eqS_self s)) ?_
      cases e3 : unnumber (ofBytes s) with
      | none => rfl
      | some y => change bnd (f16.f _ y) _ = _; rw [h3 y e3]; change some (eqS s s, ()) = _; rw [eqS_self]

theorem alphaBack_contract (H : Type) (enc : TypeId × Value → H) (W : World) (base : Nat) (args : Array Value) (ds gs : List (DataW H)) (before : List MemPlace)
    (hval : ∀ (j : Nat) t v, Try.f7.params[j]? = some t → args[j]? = some v → Value.okWide Try.prog W .any base t v)
    (hW : DataW.Whole enc Try.prog Try.f7.params.toList Rows.alphaBackSpec.vars false W args.toList ds gs before) (hk : Rows.uptoSmall H (ds ++ gs) = true) :
    Calls Try.prog 7 args W fun e W' => ∃ v, e = .returned v ∧ Rows.alphaBackSpec.post enc Try.prog Try.f7 false true false false W args v W' := by
  have hb := small_of hk
  have hW0 := hW
  obtain ⟨p, q, hA, hV, _, _, _⟩ := hW
  have hlen := (trodAll_length hA).2
  refine (law_calls (Ts := [.slice (.int .u8), .int .u64, .str]) (f := fun n v => f7.f n v.1 v.2.1 v.2.2.1) f7.ok (by decide) (tysB_ok (by kernel_rfl)) hA (fun i t v hi hv => hval i t v (by simpa using hi) hv) (fun v hw hv => ?_)).mono ?_
  · refine ⟨100000000 + 40, (), alphaBack_true (wf_bytes hw.1) hw.2.1 ?_⟩
    have h1 : vol (.slice (.int .u8)) v.1 = v.1.length + 1 := vol_ints v.1
    have h2 : vol .str v.2.2.1 = v.2.2.1.size + 1 := rfl
    simp only [volD] at hv
    omega
  · rintro e W' ⟨rfl, hs⟩
    refine ⟨_, rfl, law_post hs kids full (by intro t ht; exact of_decide_eq_true (List.all_eq_true.1 (show (Try.f7.params.toList.all fun t => decide (t < Try.prog.types.size)) = true by kernel_rfl) t ht)) hW0 rfl (t0 := 4) (by kernel_rfl) (by kernel_rfl) ?_⟩
    match ds, hlen with
    | [d1, d2, d3], _ => exact ⟨rfl, rfl, rfl⟩

set_option maxRecDepth 100000 in
theorem alphaBack_lifted (os : Os) (started : os.Started) (H : Type) (enc : TypeId × Value → H) (F : Stop.Interp) :
    ReturnsInHanded {} Try.checked os 7 .any ((Rows.OpenSpec.upto Rows.alphaBackSpec).pre6 enc Try.prog Try.f7 Rows.alphaBackUptoRow.domain false) (((Rows.OpenSpec.upto Rows.alphaBackSpec).at F).post enc Try.prog Try.f7 false true false false) := by
  refine returnsInHanded_of_cond (C := Try.checked) (s := Rows.OpenSpec.upto Rows.alphaBackSpec) (k := Rows.uptoSmall) rfl own started (by kernel_rfl) Try.func7
    (OpenSpec.witness (enc := enc) (C := Try.checked) (s := Rows.OpenSpec.upto Rows.alphaBackSpec) (k := Rows.uptoSmall) rfl false ⟨#[], #[.slice none 0 0, .int .u64 0, .string ⟨#[]⟩], []⟩ 8 (by kernel_rfl) (by kernel_rfl) (by kernel_rfl)
      (x := ([.nil, .lit (.int .u64 0), .lit (.string [])], [], [])) (by kernel_rfl) rfl (by kernel_rfl)) ?_
  intro W base args ds gs before hval hW _ hk _
  exact alphaBack_contract H enc W base args ds gs before hval hW hk

theorem alphaBackUpto : Rows.AlphaBackUptoSaid :=
  OpenClaim.holds_of_cond 7 Try.f7 rfl rfl rfl rfl rfl rfl rfl ⟨rfl, rfl, rfl, rfl, rfl⟩ rfl rfl rfl rfl rfl (by kernel_rfl) Try.func7 (by kernel_rfl)
    (of_decide_eq_true (by kernel_rfl)) (by unfold Func.isWrapper; first | (rw [if_pos (by decide +kernel)]; kernel_rfl) | (rw [if_neg (by decide +kernel)]; exact ⟨rfl, rfl⟩))
    (fun os started H enc _ F => alphaBack_lifted os started H enc F)
end Go.Proofs.Ytnlckhekcklcpaa

