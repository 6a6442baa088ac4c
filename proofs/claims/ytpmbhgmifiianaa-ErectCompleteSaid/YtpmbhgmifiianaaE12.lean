import Derived.Test.YtpmbhgmifiianaaE11
open Go Go.Proofs Go.Eng Go.Shelf
namespace EB
set_option maxRecDepth 10000
/-! ### The plain law of ErectNext -/
def raisedL (S : List (Int × Int)) (i : Nat) : List Int := ((S.take i).filter fun x => decide (x.1 = 1)).map (·.2)
theorem raisedL_succ (S : List (Int × Int)) (k : Nat) (h : k < S.length) : raisedL S (k + 1) = if (S.getD k (0, 0)).1 = 1 then raisedL S k ++ [(S.getD k (0, 0)).2] else raisedL S k := by
  unfold raisedL
  rw [take_pair S k h, List.filter_append, List.map_append]
  by_cases e : (S.getD k (0, 0)).1 = 1
  · rw [if_pos e]; simp only [List.filter_cons, decide_eq_true e]; rfl
  · rw [if_neg e]; simp only [List.filter_cons, decide_eq_false e]; simp
theorem raisedL_len (S : List (Int × Int)) (k : Nat) : (raisedL S k).length ≤ S.length := by
  unfold raisedL
  rw [List.length_map]
  refine Nat.le_trans (List.length_filter_le _ _) ?_
  rw [List.length_take]; omega
theorem raisedIn_eq (S : List (Int × Int)) (k : Nat) : raisedIn S k = ((raisedL S k).length : Int) := by
  unfold raisedIn raisedL; rw [List.length_map]
theorem raisedL_app (A B : List (Int × Int)) (i : Nat) : raisedL (A ++ B) (A.length + i) = raisedL A A.length ++ raisedL B i := by
  unfold raisedL
  rw [List.take_length, List.take_append, List.take_of_length_le (by omega), show A.length + i - A.length = i by omega, List.filter_append, List.map_append]
theorem raised_step (rs : List Bool) (m : Int) : raisedL (stepOf rs m) (stepOf rs m).length = [m] := by
  unfold stepOf; split <;> rfl
theorem raised_all (rs : List Bool) : ∀ ms : List Int, raisedL (stepsOf rs ms) (stepsOf rs ms).length = ms
  | [] => rfl
  | m :: r => by
    have e : stepsOf rs (m :: r) = stepOf rs m ++ stepsOf rs r := rfl
    rw [e, List.length_append, raisedL_app, raised_step, raised_all rs r]; rfl
theorem raised_at (rs : List Bool) : ∀ (ms : List Int) (i : Nat), i < (stepsOf rs ms).length → ((stepsOf rs ms).getD i (0, 0)).1 = 1 → ∃ k, k < ms.length ∧ raisedL (stepsOf rs ms) i = ms.take k ∧ ((stepsOf rs ms).getD i (0, 0)).2 = ms.getD k 0
  | [], i, h, _ => absurd h (Nat.not_lt_zero _)
  | m :: r, i, h, h1 => by
    have e : stepsOf rs (m :: r) = stepOf rs m ++ stepsOf rs r := rfl
    by_cases hi : i < (stepOf rs m).length
    · refine ⟨0, by simp, ?_⟩
      have hg : (stepsOf rs (m :: r)).getD i (0, 0) = (stepOf rs m).getD i (0, 0) := by
        rw [e, List.getD_eq_getElem?_getD, List.getD_eq_getElem?_getD, List.getElem?_append_left hi]
      have ht : (stepsOf rs (m :: r)).take i = (stepOf rs m).take i := by
        rw [e, List.take_append, show i - (stepOf rs m).length = 0 by omega]; simp
      rw [hg] at h1 ⊢
      unfold raisedL
      rw [ht]
      unfold stepOf at h1 hi ⊢
      split at hi
      · rename_i hr
        rw [if_pos hr] at h1 ⊢
        have : i = 0 := by simpa using hi
        subst this; exact ⟨rfl, rfl⟩
      · rename_i hr
        rw [if_neg hr] at h1 ⊢
        have hi : i < 2 := hi
        have : i = 1 := by
          rcases Nat.lt_or_ge i 1 with h0 | h0
          · have : i = 0 := by omega
            subst this; simp at h1
          · omega
        subst this; exact ⟨rfl, rfl⟩
    · have hl : (stepsOf rs (m :: r)).length = (stepOf rs m).length + (stepsOf rs r).length := by rw [e, List.length_append]
      obtain ⟨j, hj⟩ := Nat.exists_eq_add_of_le (Nat.le_of_not_lt hi)
      have hg : (stepsOf rs (m :: r)).getD i (0, 0) = (stepsOf rs r).getD j (0, 0) := by
        rw [e, List.getD_eq_getElem?_getD, List.getD_eq_getElem?_getD, List.getElem?_append_right (by omega), show i - (stepOf rs m).length = j by omega]
      rw [hg] at h1 ⊢
      obtain ⟨k, k1, k2, k3⟩ := raised_at rs r j (by omega) h1
      refine ⟨k + 1, by simpa using k1, ?_, by simpa using k3⟩
      rw [e, hj, raisedL_app, raised_step, k2]; rfl
theorem msAt_len_le (on : List (List Int)) (n : Int) : ∀ k, (msAt on n k).length ≤ k
  | 0 => Nat.le_refl _
  | k + 1 => by
    have := msAt_len_le on n k
    rw [msAt_succ]
    split
    · rw [List.length_append, List.length_singleton]; omega
    · omega
theorem msAt_short (on : List (List Int)) (n : Int) : ∀ k, (msAt on n k).length < k → ∀ j, msAt on n (k + j) = msAt on n k
  | 0, h, _ => absurd h (Nat.not_lt_zero _)
  | k + 1, h, j => by
    by_cases h0 : 0 ≤ nxt on n (msAt on n k)
    · have e : msAt on n (k + 1) = msAt on n k ++ [nxt on n (msAt on n k)] := by rw [msAt_succ, if_pos h0]
      rw [e, List.length_append, List.length_singleton] at h
      have ih := msAt_short on n k (by omega)
      rw [show k + 1 + j = k + (1 + j) by omega, ih (1 + j), ih 1]
    · rw [show k + 1 + j = k + (1 + j) by omega, msAt_stay h0, msAt_stay h0]
theorem msAt_take {on : List (List Int)} {n : Int} {N k : Nat} (hk : k ≤ (msAt on n N).length) : msAt on n k = (msAt on n N).take k ∧ (msAt on n k).length = k := by
  have hN := msAt_len_le on n N
  obtain ⟨j, hj⟩ := Nat.exists_eq_add_of_le (show k ≤ N by omega)
  have h1 := msAt_len_le on n k
  have hlen : (msAt on n k).length = k := by
    rcases Nat.lt_or_ge (msAt on n k).length k with h | h
    · have := msAt_short on n k h j
      rw [← hj] at this
      rw [this] at hk; omega
    · omega
  obtain ⟨r, hr⟩ := msAt_pre on n k j
  refine ⟨?_, hlen⟩
  rw [hj, hr, List.take_append, hlen, Nat.sub_self, List.take_zero, List.append_nil, List.take_of_length_le (by omega)]
theorem nxt_at {on : List (List Int)} {n : Int} {N k : Nat} (hk : k < (msAt on n N).length) : 0 ≤ nxt on n (msAt on n k) ∧ nxt on n (msAt on n k) = (msAt on n N).getD k 0 := by
  obtain ⟨e1, l1⟩ := msAt_take (Nat.le_of_lt hk)
  obtain ⟨e2, l2⟩ := msAt_take (show k + 1 ≤ _ from hk)
  by_cases h0 : 0 ≤ nxt on n (msAt on n k)
  · refine ⟨h0, ?_⟩
    have e : msAt on n (k + 1) = msAt on n k ++ [nxt on n (msAt on n k)] := by rw [msAt_succ, if_pos h0]
    rw [e2, List.take_succ_eq_append_getElem hk, ← e1] at e
    have := List.append_cancel_left e
    rw [List.getD_eq_getElem?_getD, List.getElem?_eq_getElem hk]
    simpa using this.symm
  · have : msAt on n (k + 1) = msAt on n k := by rw [msAt_succ, if_neg h0]
    rw [this] at l2; omega
theorem readyTo_none {on : List (List Int)} {ws : List Int} : ∀ k : Nat, (∀ j : Nat, j < k → ¬ readyP on ws j) → readyTo on ws k = []
  | 0, _ => rfl
  | k + 1, h => by rw [readyTo_succ, if_neg (h k (by omega)), readyTo_none k fun j hj => h j (by omega)]
theorem readyTo_head {on : List (List Int)} {ws : List Int} {i : Nat} (hr : readyP on ws i) (hb : ∀ j : Nat, j < i → ¬ readyP on ws j) : ∀ d : Nat, ∃ r, readyTo on ws (i + 1 + d) = (i : Int) :: r
  | 0 => ⟨[], by rw [Nat.add_zero, readyTo_succ, if_pos hr, readyTo_none i hb]; rfl⟩
  | d + 1 => by
    obtain ⟨r, h⟩ := readyTo_head hr hb d
    rw [← Nat.add_assoc, readyTo_succ, h]
    split
    · exact ⟨r ++ [((i + 1 + d : Nat) : Int)], rfl⟩
    · exact ⟨r, rfl⟩
theorem readyTo_sorted (on : List (List Int)) (ws : List Int) (k : Nat) : sortedP (readyTo on ws k) := by
  have : (readyTo on ws k).Pairwise (· ≤ ·) := by
    unfold readyTo
    rw [List.pairwise_map]
    refine List.Pairwise.imp (fun h => ?_) (List.pairwise_lt_range.filter _)
    omega
  intro j hj
  have h := List.pairwise_iff_getElem.1 this j (j + 1) (by omega) (by omega) (by omega)
  simpa [List.getD_eq_getElem?_getD, show j < (readyTo on ws k).length by omega, show j + 1 < (readyTo on ws k).length by omega] using h
theorem out_none {n : Int} {ms : List Int} (h : InN n ms) : ms.any (outB n) = false := by
  rw [List.any_eq_false]
  intro m hm
  have := h m hm
  unfold outB; simp; omega
/-- What the law has of an order. -/
structure Ordered (n : Int) (l : List (Int × Int)) (S : List (Int × Int)) : Prop where
  len : S.length ≤ 2048
  step : ∀ i, i < S.length → (S.getD i (0, 0)).1 = 1 → readyErr n l (raisedL S i) = 0 ∧ sortedP (readyRes n l (raisedL S i)) ∧ ∃ r, readyRes n l (raisedL S i) = (S.getD i (0, 0)).2 :: r
  stop : readyErr n l (raisedL S S.length) = 0 ∧ readyRes n l (raisedL S S.length) = [] ∧ ((raisedL S S.length).length : Int) = n
theorem ordered {n : Int} {l : List (Int × Int)} (h : orderErr n l = 0) : Ordered n l (orderRes n l) := by
  unfold orderErr at h
  split at h
  · cases h
  rename_i hs
  split at h
  · cases h
  rename_i hr
  have hs := Classical.not_not.1 hs
  have hro := supE_rests hs
  obtain ⟨r1, r2, r3, r4⟩ := id hro
  have hS : orderRes n l = ordL n l := by unfold orderRes; rw [if_pos ⟨hs, hr⟩]
  rw [hS]
  have hms := msAt_len (onL n l) r2 n.toNat
  have hraise : raisedL (ordL n l) (ordL n l).length = msAt (onL n l) n n.toNat := raised_all _ _
  rw [raisedIn_eq, hraise] at hr
  have hfull : (msAt (onL n l) n n.toNat).length = n.toNat := by omega
  have hpos : ∀ {ms : List Int}, InN n ms → readyErr n l ms = 0 ∧ readyRes n l ms = readyTo (onL n l) (putL (words n) ms) n.toNat := fun hm => by
    have ho := out_none hm
    refine ⟨?_, ?_⟩
    · unfold readyErr; rw [if_neg (by rw [hs]; simp), if_neg (by rw [ho]; simp)]
    · unfold readyRes; rw [if_pos ⟨hs, ho⟩]
  refine ⟨?_, fun i hi h1 => ?_, ?_⟩
  · have := stepsOf_len (restL n l) (msAt (onL n l) n n.toNat)
    show (stepsOf _ _).length ≤ _
    omega
  · obtain ⟨k, k1, k2, k3⟩ := raised_at (restL n l) (msAt (onL n l) n n.toNat) i hi h1
    obtain ⟨e1, _⟩ := msAt_take (Nat.le_of_lt k1)
    have hk : raisedL (ordL n l) i = msAt (onL n l) n k := by rw [e1]; exact k2
    obtain ⟨p1, p2⟩ := hpos (msAt_in (onL n l) n k)
    obtain ⟨q1, q2⟩ := nxt_at k1
    rw [hk, p2]
    refine ⟨p1, readyTo_sorted _ _ _, ?_⟩
    rcases nxt_cases (onL n l) n (msAt (onL n l) n k) with h | ⟨i', h1, h2, h3, h4⟩
    · omega
    · obtain ⟨d, hd⟩ := Nat.exists_eq_add_of_le (show i' + 1 ≤ n.toNat from h1)
      obtain ⟨r, hr⟩ := readyTo_head h3 h4 d
      refine ⟨r, ?_⟩
      rw [hd, hr, ← h2, q2]
      exact congrArg (· :: r) k3.symm
  · rw [hraise]
    obtain ⟨p1, p2⟩ := hpos (msAt_in (onL n l) n n.toNat)
    refine ⟨p1, ?_, by omega⟩
    rw [p2]
    refine readyTo_none _ ?_
    rcases nxt_cases (onL n l) n (msAt (onL n l) n n.toNat) with h | ⟨i', h1, h2, h3, h4⟩
    · exact h.2
    · exfalso
      have h5 := msAt_len (onL n l) r2 (n.toNat + 1)
      rw [msAt_succ, if_pos (by omega), List.length_append, List.length_singleton] at h5
      omega
end EB
