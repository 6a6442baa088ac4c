import Derived.Test.YtpmbhgmifiianaaE6
open Go Go.Proofs Go.Eng Go.Shelf
namespace EB
set_option maxRecDepth 10000
/-! ### The order -/
/-- The least member that is ready; -1: none. -/
def nxt (on : List (List Int)) (n : Int) (ms : List Int) : Int := idxOf (fun i : Nat => decide (readyP on (putL (words n) ms) i)) (List.range n.toNat)
def msAt (on : List (List Int)) (n : Int) : Nat → List Int
  | 0 => []
  | k + 1 => if 0 ≤ nxt on n (msAt on n k) then msAt on n k ++ [nxt on n (msAt on n k)] else msAt on n k
theorem msAt_succ (on : List (List Int)) (n : Int) (k : Nat) : msAt on n (k + 1) = if 0 ≤ nxt on n (msAt on n k) then msAt on n k ++ [nxt on n (msAt on n k)] else msAt on n k := rfl
theorem idxOf_cases {α : Type} (p : α → Bool) (xs : List α) (d : α) : (idxOf p xs = -1 ∧ ∀ j, j < xs.length → p (xs.getD j d) = false) ∨ ∃ i, i < xs.length ∧ idxOf p xs = (i : Int) ∧ p (xs.getD i d) = true ∧ ∀ j, j < i → p (xs.getD j d) = false := by
  unfold idxOf
  cases h : xs.findIdx? p with
  | none =>
    rw [List.findIdx?_eq_none_iff] at h
    refine .inl ⟨rfl, fun j hj => ?_⟩
    rw [List.getD_eq_getElem?_getD, List.getElem?_eq_getElem hj]
    exact h _ (List.getElem_mem hj)
  | some i =>
    rw [List.findIdx?_eq_some_iff_getElem] at h
    obtain ⟨hi, hp, hb⟩ := h
    refine .inr ⟨i, hi, rfl, by simpa [List.getD_eq_getElem?_getD, hi] using hp, fun j hj => ?_⟩
    have := hb j hj
    have hj' : j < xs.length := by omega
    simpa [List.getD_eq_getElem?_getD, hj'] using this
theorem range_getD (n j : Nat) (h : j < n) : (List.range n).getD j 0 = j := by simp [List.getD_eq_getElem?_getD, h]
theorem nxt_cases (on : List (List Int)) (n : Int) (ms : List Int) : (nxt on n ms = -1 ∧ ∀ j : Nat, j < n.toNat → ¬ readyP on (putL (words n) ms) j) ∨ ∃ i : Nat, i < n.toNat ∧ nxt on n ms = (i : Int) ∧ readyP on (putL (words n) ms) i ∧ ∀ j : Nat, j < i → ¬ readyP on (putL (words n) ms) j := by
  rcases idxOf_cases (fun i : Nat => decide (readyP on (putL (words n) ms) i)) (List.range n.toNat) 0 with ⟨h1, h2⟩ | ⟨i, h1, h2, h3, h4⟩
  · refine .inl ⟨h1, fun j hj => ?_⟩
    have := h2 j (by simpa using hj)
    rw [range_getD _ _ hj] at this
    exact of_decide_eq_false this
  · have h1 : i < n.toNat := by simpa using h1
    rw [range_getD _ _ h1] at h3
    refine .inr ⟨i, h1, h2, of_decide_eq_true h3, fun j hj => ?_⟩
    have := h4 j hj
    rw [range_getD _ _ (by omega)] at this
    exact of_decide_eq_false this
theorem nxt_none {on : List (List Int)} {n : Int} {ms : List Int} (h : ∀ j : Nat, j < n.toNat → ¬ readyP on (putL (words n) ms) j) : nxt on n ms = -1 := by
  rcases nxt_cases on n ms with h1 | ⟨i, h1, _, h3, _⟩
  · exact h1.1
  · exact absurd h3 (h i h1)
theorem nxt_some {on : List (List Int)} {n : Int} {ms : List Int} {i : Nat} (hi : i < n.toNat) (hr : readyP on (putL (words n) ms) i) (h : ∀ j : Nat, j < i → ¬ readyP on (putL (words n) ms) j) : nxt on n ms = i := by
  rcases nxt_cases on n ms with h1 | ⟨i', h1, h2, h3, h4⟩
  · exact absurd hr (h1.2 i hi)
  · have : i' = i := by
      rcases Nat.lt_trichotomy i' i with hlt | he | hlt
      · exact absurd h3 (h i' hlt)
      · exact he
      · exact absurd hr (h4 i hlt)
    rw [h2, this]
theorem msAt_in (on : List (List Int)) (n : Int) : ∀ k, InN n (msAt on n k)
  | 0 => by intro m hm; cases hm
  | k + 1 => by
    have ih := msAt_in on n k
    unfold msAt
    split
    · intro m hm
      rcases List.mem_append.1 hm with hm | hm
      · exact ih m hm
      · rw [List.mem_singleton.1 hm]
        rcases nxt_cases on n (msAt on n k) with h | ⟨i, h1, h2, _⟩
        · omega
        · omega
    · exact ih
theorem msAt_nodup (on : List (List Int)) {n : Int} (hn : 0 ≤ n) : ∀ k, (msAt on n k).Nodup
  | 0 => List.nodup_nil
  | k + 1 => by
    have ih := msAt_nodup on hn k
    have hin := msAt_in on n k
    unfold msAt
    split
    · rename_i h0
      rw [List.nodup_append]
      refine ⟨ih, by simp, fun a ha b hb => ?_⟩
      rw [List.mem_singleton.1 hb]
      rintro rfl
      rcases nxt_cases on n (msAt on n k) with h | ⟨i, h1, h2, h3, _⟩
      · omega
      · rw [h2] at ha
        exact h3.1 ((has_mem hn hin (by omega)).2 ha)
    · exact ih
theorem nodup_below : ∀ (n : Nat) (xs : List Nat), xs.Nodup → (∀ x ∈ xs, x < n) → xs.length ≤ n
  | 0, xs, _, h => by
    cases xs with
    | nil => exact Nat.le_refl _
    | cons x r => exact absurd (h x List.mem_cons_self) (Nat.not_lt_zero _)
  | n + 1, xs, hx, h => by
    by_cases hm : n ∈ xs
    · have h1 := nodup_below n (xs.erase n) (hx.erase n) fun x hx' => by
        rw [hx.mem_erase_iff] at hx'
        have := h x hx'.2
        omega
      rw [List.length_erase_of_mem hm] at h1
      omega
    · have h1 := nodup_below n xs hx fun x hx' => by
        have := h x hx'
        have : x ≠ n := fun e => hm (e ▸ hx')
        omega
      omega
theorem nodup_len {n : Int} {ms : List Int} (hn : 0 ≤ n) (h1 : ms.Nodup) (h2 : InN n ms) : ms.length ≤ n.toNat := by
  have : (ms.map Int.toNat).Nodup := by
    rw [List.nodup_iff_pairwise_ne, List.pairwise_map]
    refine List.Pairwise.imp_of_mem ?_ h1
    intro a b ha hb hne e
    have := h2 a ha
    have := h2 b hb
    exact hne (by omega)
  have h3 : (ms.map Int.toNat) ⊆ List.range n.toNat := by
    intro x hx
    rw [List.mem_map] at hx
    obtain ⟨m, hm, rfl⟩ := hx
    have := h2 m hm
    rw [List.mem_range]; omega
  have := nodup_below n.toNat _ this fun x hx => List.mem_range.1 (h3 hx)
  simpa using this
theorem msAt_len (on : List (List Int)) {n : Int} (hn : 0 ≤ n) (k : Nat) : (msAt on n k).length ≤ n.toNat := nodup_len hn (msAt_nodup on hn k) (msAt_in on n k)
theorem msAt_stay {on : List (List Int)} {n : Int} {k : Nat} (h : ¬ 0 ≤ nxt on n (msAt on n k)) : ∀ j, msAt on n (k + j) = msAt on n k
  | 0 => rfl
  | j + 1 => by
    rw [← Nat.add_assoc, msAt_succ, msAt_stay h j, if_neg h]
theorem msAt_pre (on : List (List Int)) (n : Int) (k : Nat) : ∀ j, ∃ r, msAt on n (k + j) = msAt on n k ++ r
  | 0 => ⟨[], by simp⟩
  | j + 1 => by
    obtain ⟨r, hr⟩ := msAt_pre on n k j
    rw [← Nat.add_assoc, msAt_succ]
    split
    · exact ⟨r ++ [nxt on n (msAt on n (k + j))], by rw [← List.append_assoc, ← hr]⟩
    · exact ⟨r, hr⟩
def stepOf (rs : List Bool) (m : Int) : List (Int × Int) := if rs.getD m.toNat false = true then [(1, m)] else [(2, m), (1, m)]
def stepsOf (rs : List Bool) (ms : List Int) : List (Int × Int) := ms.flatMap (stepOf rs)
def ordS (on : List (List Int)) (rs : List Bool) (n : Int) : List (Int × Int) := stepsOf rs (msAt on n n.toNat)
theorem stepsOf_append (rs : List Bool) (a b : List Int) : stepsOf rs (a ++ b) = stepsOf rs a ++ stepsOf rs b := List.flatMap_append
theorem stepsOf_len (rs : List Bool) : ∀ ms : List Int, (stepsOf rs ms).length ≤ 2 * ms.length
  | [] => by simp [stepsOf]
  | m :: r => by
    have := stepsOf_len rs r
    have e : stepsOf rs (m :: r) = stepOf rs m ++ stepsOf rs r := rfl
    rw [e, List.length_append, List.length_cons]
    have : (stepOf rs m).length ≤ 2 := by unfold stepOf; split <;> simp
    omega
/-- The end: nothing is ready. -/
theorem ordS_end {on : List (List Int)} {rs : List Bool} {n : Int} {k : Nat} (hk : k ≤ n.toNat) (h : ¬ 0 ≤ nxt on n (msAt on n k)) : ordS on rs n = stepsOf rs (msAt on n k) := by
  obtain ⟨j, hj⟩ := Nat.exists_eq_add_of_le hk
  unfold ordS
  rw [hj, msAt_stay h j]
/-- The steps of the next member. -/
theorem ordS_next {on : List (List Int)} {rs : List Bool} {n : Int} {k : Nat} (hk : k + 1 ≤ n.toNat) (h : 0 ≤ nxt on n (msAt on n k)) : ∃ r, ordS on rs n = stepsOf rs (msAt on n k) ++ (stepOf rs (nxt on n (msAt on n k)) ++ r) := by
  obtain ⟨j, hj⟩ := Nat.exists_eq_add_of_le hk
  obtain ⟨r, hr⟩ := msAt_pre on n (k + 1) j
  refine ⟨stepsOf rs r, ?_⟩
  unfold ordS
  rw [hj, hr, stepsOf_append, show msAt on n (k + 1) = msAt on n k ++ [nxt on n (msAt on n k)] by rw [msAt_succ, if_pos h], stepsOf_append, List.append_assoc]
  simp [stepsOf]
end EB
