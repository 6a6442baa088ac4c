import Derived.Test.YtpmbhgmifiianaaE5
open Go Go.Proofs Go.Eng Go.Shelf
namespace EB
set_option maxRecDepth 10000
/-! ### Bits -/
theorem wrap_nat {x : Nat} (h : x < 2 ^ 64) : IntKind.u64.wrap (x : Int) = x := by simp only [IntKind.wrap, IntKind.signed, IntKind.bits, Bool.false_and, Bool.false_eq_true, if_false]; omega
theorem bv_nat (a : Nat) (h : a < 2 ^ 64) : (BitVec.ofInt 64 (a : Int)).toNat = a := by
  rw [BitVec.ofInt_natCast, BitVec.toNat_ofNat, Nat.mod_eq_of_lt h]
theorem and_nat (a b : Nat) (ha : a < 2 ^ 64) (hb : b < 2 ^ 64) : bitsI .and .u64 a b = ((a &&& b : Nat) : Int) := by
  show IntKind.u64.wrap ((BitVec.ofInt 64 (a : Int) &&& BitVec.ofInt 64 (b : Int)).toNat : Int) = _
  rw [wrap_nat (BitVec.isLt _), BitVec.toNat_and, bv_nat a ha, bv_nat b hb]
theorem or_nat (a b : Nat) (ha : a < 2 ^ 64) (hb : b < 2 ^ 64) : bitsI .or .u64 a b = ((a ||| b : Nat) : Int) := by
  show IntKind.u64.wrap ((BitVec.ofInt 64 (a : Int) ||| BitVec.ofInt 64 (b : Int)).toNat : Int) = _
  rw [wrap_nat (BitVec.isLt _), BitVec.toNat_or, bv_nat a ha, bv_nat b hb]
theorem andNot_nat (a b : Nat) (ha : a < 2 ^ 64) (hb : b < 2 ^ 64) : bitsI .andNot .u64 a b = ((a &&& (2 ^ 64 - (b + 1)) : Nat) : Int) := by
  show IntKind.u64.wrap ((BitVec.ofInt 64 (a : Int) &&& ~~~(BitVec.ofInt 64 (b : Int))).toNat : Int) = _
  rw [wrap_nat (BitVec.isLt _), BitVec.toNat_and, BitVec.toNat_not, bv_nat a ha, bv_nat b hb, Nat.sub_sub, Nat.add_comm 1 b]
theorem shl_nat (k : Nat) (hk : k < 64) : shlI .u64 1 (k : Int) = ((2 ^ k : Nat) : Int) := by
  have h1 : (2 ^ k : Nat) < 2 ^ 64 := Nat.pow_lt_pow_right (by omega) hk
  show IntKind.u64.wrap (1 * 2 ^ (min (k : Int).toNat 64)) = _
  rw [show min (k : Int).toNat 64 = k by omega, Int.one_mul, show ((2 : Int) ^ k) = ((2 ^ k : Nat) : Int) by simp, wrap_nat h1]
theorem shr_nat (a k : Nat) (hk : k < 64) : shrI .u64 a (k : Int) = ((a >>> k : Nat) : Int) := by
  show (a : Int).fdiv (2 ^ (min (k : Int).toNat 64)) = _
  rw [show min (k : Int).toNat 64 = k by omega, show ((2 : Int) ^ k) = ((2 ^ k : Nat) : Int) by simp, Nat.shiftRight_eq_div_pow, Int.fdiv_eq_ediv_of_nonneg _ (Int.natCast_nonneg _)]
  rfl
theorem bit_has (a k : Nat) (ha : a < 2 ^ 64) (hk : k < 64) : bitsI .and .u64 (shrI .u64 a (k : Int)) 1 = 1 ↔ a.testBit k = true := by
  have h1 : a >>> k < 2 ^ 64 := Nat.lt_of_le_of_lt (by rw [Nat.shiftRight_eq_div_pow]; exact Nat.div_le_self _ _) ha
  rw [shr_nat a k hk, show (1 : Int) = ((1 : Nat) : Int) from rfl, and_nat _ _ h1 (by omega)]
  rw [Nat.testBit, Nat.and_comm]
  have : 1 &&& a >>> k = (a >>> k) % 2 := by rw [Nat.and_comm, Nat.and_one_is_mod]
  rw [this]
  constructor
  · intro h; have : (a >>> k) % 2 = 1 := by omega
    rw [this]; rfl
  · intro h
    have h2 : (a >>> k) % 2 ≠ 0 := by simpa using h
    omega
/-- Words of 64 bits. -/
def WOk (ws : List Int) : Prop := ∀ w, w < ws.length → ∃ m : Nat, m < 2 ^ 64 ∧ ws.getD w 0 = m
theorem hasW_bit {ws : List Int} (hw : WOk ws) (i : Nat) : hasW ws i ↔ i / 64 < ws.length ∧ ((ws.getD (i / 64) 0).toNat).testBit (i % 64) = true := by
  unfold hasW
  have e1 : ((i : Int) / 64).toNat = i / 64 := by omega
  have e2 : (i : Int) % 64 = ((i % 64 : Nat) : Int) := by omega
  rw [e1, e2]
  constructor
  · rintro ⟨h1, h2⟩
    have h1 : i / 64 < ws.length := by omega
    obtain ⟨m, hm, e⟩ := hw _ h1
    rw [e] at h2 ⊢
    rw [bit_has m _ hm (by omega)] at h2
    exact ⟨h1, by simpa using h2⟩
  · rintro ⟨h1, h2⟩
    obtain ⟨m, hm, e⟩ := hw _ h1
    rw [e] at h2 ⊢
    rw [bit_has m _ hm (by omega)]
    exact ⟨by omega, by simpa using h2⟩
theorem getD_set (xs : List Int) (i p : Nat) (v : Int) : (xs.set i v).getD p 0 = if p = i ∧ p < xs.length then v else xs.getD p 0 := by
  simp only [List.getD_eq_getElem?_getD, List.getElem?_set]
  by_cases h : i = p
  · subst h
    by_cases h2 : i < xs.length <;> simp [h2]
  · rw [if_neg h, if_neg (by omega)]
theorem putW_at {ws : List Int} (hw : WOk ws) (i : Nat) (hi : i / 64 < ws.length) : ∃ m : Nat, m < 2 ^ 64 ∧ ws.getD (i / 64) 0 = m ∧ putW ws i = ws.set (i / 64) ((m ||| 2 ^ (i % 64) : Nat) : Int) ∧ m ||| 2 ^ (i % 64) < 2 ^ 64 := by
  obtain ⟨m, hm, e⟩ := hw _ hi
  have e1 : ((i : Int) / 64).toNat = i / 64 := by omega
  have e2 : (i : Int) % 64 = ((i % 64 : Nat) : Int) := by omega
  have h2 : (2 ^ (i % 64) : Nat) < 2 ^ 64 := Nat.pow_lt_pow_right (by omega) (by omega)
  refine ⟨m, hm, e, ?_, Nat.or_lt_two_pow hm h2⟩
  unfold putW
  rw [e1, e2, e, shl_nat _ (by omega), or_nat _ _ hm h2]
theorem takeW_at {ws : List Int} (hw : WOk ws) (i : Nat) (hi : i / 64 < ws.length) : ∃ m : Nat, m < 2 ^ 64 ∧ ws.getD (i / 64) 0 = m ∧ takeW ws i = ws.set (i / 64) ((m &&& (2 ^ 64 - (2 ^ (i % 64) + 1)) : Nat) : Int) := by
  obtain ⟨m, hm, e⟩ := hw _ hi
  have e1 : ((i : Int) / 64).toNat = i / 64 := by omega
  have e2 : (i : Int) % 64 = ((i % 64 : Nat) : Int) := by omega
  have h2 : (2 ^ (i % 64) : Nat) < 2 ^ 64 := Nat.pow_lt_pow_right (by omega) (by omega)
  refine ⟨m, hm, e, ?_⟩
  unfold takeW
  rw [e1, e2, e, shl_nat _ (by omega), andNot_nat _ _ hm h2]
theorem putW_ok {ws : List Int} (hw : WOk ws) (i : Nat) (hi : i / 64 < ws.length) : WOk (putW ws i) := by
  obtain ⟨m, hm, e, hp, hlt⟩ := putW_at hw i hi
  rw [hp]
  intro w hlw
  rw [List.length_set] at hlw
  rw [getD_set]
  split
  · exact ⟨_, hlt, rfl⟩
  · exact hw w hlw
theorem takeW_ok {ws : List Int} (hw : WOk ws) (i : Nat) (hi : i / 64 < ws.length) : WOk (takeW ws i) := by
  obtain ⟨m, hm, e, hp⟩ := takeW_at hw i hi
  rw [hp]
  intro w hlw
  rw [List.length_set] at hlw
  rw [getD_set]
  split
  · exact ⟨_, Nat.lt_of_le_of_lt Nat.and_le_left hm, rfl⟩
  · exact hw w hlw
theorem hasW_put {ws : List Int} (hw : WOk ws) (i j : Nat) (hi : i / 64 < ws.length) : hasW (putW ws i) j ↔ j = i ∨ hasW ws j := by
  rw [hasW_bit (putW_ok hw i hi), hasW_bit hw, putW_len]
  obtain ⟨m, hm, e, hp, hlt⟩ := putW_at hw i hi
  rw [hp, getD_set]
  by_cases hq : j / 64 = i / 64
  · rw [if_pos ⟨hq, by omega⟩, hq, e]
    simp only [Int.toNat_natCast, Nat.testBit_or, Nat.testBit_two_pow, Bool.or_eq_true, decide_eq_true_eq]
    constructor
    · rintro ⟨_, h | h⟩
      · exact .inr ⟨hi, h⟩
      · exact .inl (by omega)
    · rintro (h | ⟨_, h⟩)
      · exact ⟨hi, .inr (by omega)⟩
      · exact ⟨hi, .inl h⟩
  · rw [if_neg (fun h => hq h.1)]
    constructor
    · intro h; exact .inr h
    · rintro (h | h)
      · subst h; exact absurd rfl hq
      · exact h
theorem hasW_take {ws : List Int} (hw : WOk ws) (i j : Nat) (hi : i / 64 < ws.length) : hasW (takeW ws i) j ↔ j ≠ i ∧ hasW ws j := by
  have hl : (takeW ws i).length = ws.length := by simp [takeW]
  rw [hasW_bit (takeW_ok hw i hi), hasW_bit hw, hl]
  obtain ⟨m, hm, e, hp⟩ := takeW_at hw i hi
  have h2 : (2 ^ (i % 64) : Nat) < 2 ^ 64 := Nat.pow_lt_pow_right (by omega) (by omega)
  rw [hp, getD_set]
  by_cases hq : j / 64 = i / 64
  · rw [if_pos ⟨hq, by omega⟩, hq, e]
    simp only [Int.toNat_natCast, Nat.testBit_and, Nat.testBit_two_pow_sub_succ h2, Nat.testBit_two_pow, Bool.and_eq_true, decide_eq_true_eq, Bool.not_eq_true', decide_eq_false_iff_not]
    constructor
    · rintro ⟨h0, h1, h3, h4⟩
      exact ⟨fun h => h4 (by omega), h0, h1⟩
    · rintro ⟨h0, h1, h3⟩
      exact ⟨h1, h3, by omega, fun h => h0 (by omega)⟩
  · rw [if_neg (fun h => hq h.1)]
    constructor
    · intro h; exact ⟨fun e => hq (by rw [e]), h⟩
    · exact fun h => h.2
theorem words_ok (n : Int) : WOk (words n) := by
  intro w hw
  have hw : w < ((n + 63) / 64).toNat := by simpa [words] using hw
  exact ⟨0, by omega, by simp [words, List.getD_eq_getElem?_getD, hw]⟩
theorem words_none (n : Int) (j : Nat) : ¬ hasW (words n) j := by
  rw [hasW_bit (words_ok n)]
  rintro ⟨h1, h2⟩
  have hw : j / 64 < ((n + 63) / 64).toNat := by simpa [words] using h1
  have : (words n).getD (j / 64) 0 = 0 := by simp [words, List.getD_eq_getElem?_getD, hw]
  rw [this] at h2
  simp at h2
/-- Members in their range. -/
def InN (n : Int) (ms : List Int) : Prop := ∀ m ∈ ms, 0 ≤ m ∧ m < n
theorem putL_ok {n : Int} (hn : 0 ≤ n) : ∀ (ms : List Int) (ws : List Int), WOk ws → (ws.length : Int) = (n + 63) / 64 → InN n ms → WOk (putL ws ms) ∧ ∀ j : Nat, hasW (putL ws ms) j ↔ (j : Int) ∈ ms ∨ hasW ws j
  | [], ws, h, _, _ => ⟨h, fun j => by simp [putL]⟩
  | m :: r, ws, h, hl, hm => by
    have h0 := hm m List.mem_cons_self
    have e : m = (m.toNat : Int) := by omega
    have hlt : m.toNat / 64 < ws.length := by omega
    obtain ⟨h1, h2⟩ := putL_ok hn r (putW ws m) (by rw [e]; exact putW_ok h _ hlt) (by rw [putW_len]; exact hl) (fun x hx => hm x (List.mem_cons_of_mem _ hx))
    refine ⟨h1, fun j => ?_⟩
    show hasW (putL (putW ws m) r) j ↔ _
    rw [h2 j, e, hasW_put h _ _ hlt, List.mem_cons]
    constructor
    · rintro (h | h | h)
      · exact .inl (.inr h)
      · exact .inl (.inl (by omega))
      · exact .inr h
    · rintro ((h | h) | h)
      · exact .inr (.inl (by omega))
      · exact .inl h
      · exact .inr (.inr h)
theorem has_mem {n : Int} (hn : 0 ≤ n) {ms : List Int} (hm : InN n ms) {j : Int} (hj : 0 ≤ j) : hasW (putL (words n) ms) j ↔ j ∈ ms := by
  have := (putL_ok hn ms (words n) (words_ok n) (words_len n hn) hm).2 j.toNat
  have e : j = (j.toNat : Int) := by omega
  rw [e, this]
  constructor
  · rintro (h | h)
    · exact h
    · exact absurd h (words_none _ _)
  · exact .inl
end EB
