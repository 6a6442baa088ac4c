import Derived.Test.YtpmbhgmifiianaaE15
open Go Go.Proofs Go.Eng Go.Shelf
namespace EB
set_option maxRecDepth 10000
/-! ### An order is accepted -/
def doOne (on : List (List Int)) (rs : List Bool) (c : CS) (x : Int × Int) : CS :=
  if c.err = true then c
  else if ¬ canDo on rs c x then ⟨c.st, c.pr, true⟩
  else if x.1 = 1 then ⟨putW c.st x.2, c.pr, false⟩
  else if x.1 = 2 then ⟨c.st, putW c.pr x.2, false⟩
  else ⟨c.st, takeW c.pr x.2, false⟩
theorem doAt_fold (on : List (List Int)) (rs : List Bool) (n : Int) (S : List (Int × Int)) : ∀ i, i ≤ S.length → doAt on rs n S i = (S.take i).foldl (doOne on rs) ⟨words n, words n, false⟩
  | 0, _ => rfl
  | i + 1, h => by
    rw [doAt_succ, doAt_fold on rs n S i (by omega), take_pair S i h, List.foldl_append]
    rfl
def propsOf (rs : List Bool) (ms : List Int) : List Int := ms.filter fun m => !(rs.getD m.toNat false)
theorem propsOf_in {n : Int} {rs : List Bool} {ms : List Int} (h : InN n ms) : InN n (propsOf rs ms) := fun m hm => h m (List.mem_filter.1 hm).1
theorem in_snoc {n : Int} {ms : List Int} {m : Int} (h : InN n ms) (h0 : 0 ≤ m ∧ m < n) : InN n (ms ++ [m]) := by
  intro x hx
  rcases List.mem_append.1 hx with hx | hx
  · exact h x hx
  · rw [List.mem_singleton.1 hx]; exact h0
theorem do_order {on : List (List Int)} (rs : List Bool) {n : Int} (hn : 0 ≤ n) : ∀ k : Nat, (stepsOf rs (msAt on n k)).foldl (doOne on rs) ⟨words n, words n, false⟩ = ⟨putL (words n) (msAt on n k), putL (words n) (propsOf rs (msAt on n k)), false⟩
  | 0 => rfl
  | k + 1 => by
    have ih := do_order (on := on) rs hn k
    have hin := msAt_in on n k
    rw [msAt_succ]
    split
    · rename_i h0
      rcases nxt_cases on n (msAt on n k) with h | ⟨i, h1, h2, h3, _⟩
      · omega
      rw [h2]
      have hii : 0 ≤ (i : Int) ∧ (i : Int) < n := by omega
      have hni : ¬ (i : Int) ∈ msAt on n k := fun hm => h3.1 ((has_mem hn hin hii.1).2 hm)
      rw [stepsOf_append, List.foldl_append, ih, show stepsOf rs [(i : Int)] = stepOf rs i from List.append_nil _, putL_snoc]
      unfold stepOf
      by_cases hr : rs.getD (i : Int).toNat false = true
      · rw [if_pos hr]
        have hp : propsOf rs (msAt on n k ++ [(i : Int)]) = propsOf rs (msAt on n k) := by
          unfold propsOf; rw [List.filter_append, List.filter_cons_of_neg (by rw [hr]; simp), List.filter_nil, List.append_nil]
        rw [hp]
        have hc : canDo on rs ⟨putL (words n) (msAt on n k), putL (words n) (propsOf rs (msAt on n k)), false⟩ (1, (i : Int)) := by
          unfold canDo; rw [if_pos rfl]; exact ⟨h3, .inl hr⟩
        rw [List.foldl_cons, List.foldl_nil]
        unfold doOne
        rw [if_neg (by simp), if_neg (Classical.not_not.2 hc), if_pos rfl]
      · rw [if_neg hr]
        have hp : propsOf rs (msAt on n k ++ [(i : Int)]) = propsOf rs (msAt on n k) ++ [(i : Int)] := by
          unfold propsOf; rw [List.filter_append, List.filter_cons_of_pos (by rw [Bool.eq_false_iff.2 hr]; rfl), List.filter_nil]
        rw [hp, putL_snoc]
        have hpi := propsOf_in (rs := rs) hin
        have hc : canDo on rs ⟨putL (words n) (msAt on n k), putL (words n) (propsOf rs (msAt on n k)), false⟩ (2, (i : Int)) := by
          unfold canDo; rw [if_neg (show ¬ (2 : Int) = 1 by decide), if_pos rfl]
          exact fun hh => hni (List.mem_filter.1 ((has_mem hn hpi hii.1).1 hh)).1
        have hc2 : canDo on rs ⟨putL (words n) (msAt on n k), putW (putL (words n) (propsOf rs (msAt on n k))) i, false⟩ (1, (i : Int)) := by
          unfold canDo; rw [if_pos rfl]
          refine ⟨h3, .inr ?_⟩
          show hasW (putW (putL (words n) (propsOf rs (msAt on n k))) i) i
          rw [← putL_snoc, has_mem hn (in_snoc hpi hii) hii.1]
          simp
        rw [List.foldl_cons, List.foldl_cons, List.foldl_nil]
        have e1 : doOne on rs ⟨putL (words n) (msAt on n k), putL (words n) (propsOf rs (msAt on n k)), false⟩ (2, (i : Int)) = ⟨putL (words n) (msAt on n k), putW (putL (words n) (propsOf rs (msAt on n k))) i, false⟩ := by
          unfold doOne
          rw [if_neg (by simp), if_neg (Classical.not_not.2 hc), if_neg (show ¬ (2 : Int) = 1 by decide), if_pos rfl]
        rw [e1]
        unfold doOne
        rw [if_neg (by simp), if_neg (Classical.not_not.2 hc2), if_pos rfl]
    · exact ih
theorem steps_mem (rs : List Bool) : ∀ (ms : List Int) (x : Int × Int), x ∈ stepsOf rs ms → (x.1 = 1 ∨ x.1 = 2) ∧ x.2 ∈ ms := by
  intro ms x hx
  unfold stepsOf at hx
  rw [List.mem_flatMap] at hx
  obtain ⟨m, hm, hx⟩ := hx
  unfold stepOf at hx
  split at hx
  · rw [List.mem_singleton] at hx; subst hx; exact ⟨.inl rfl, hm⟩
  · rcases List.mem_cons.1 hx with h | h
    · subst h; exact ⟨.inr rfl, hm⟩
    · rw [List.mem_singleton] at h; subst h; exact ⟨.inl rfl, hm⟩
theorem all_in {n : Int} (hn : 0 ≤ n) {ms : List Int} (h1 : ms.Nodup) (h2 : InN n ms) (h3 : ms.length = n.toNat) {j : Int} (hj : 0 ≤ j ∧ j < n) : j ∈ ms := by
  apply Classical.byContradiction
  intro hne
  have h4 : (ms ++ [j]).Nodup := by
    rw [List.nodup_append]
    refine ⟨h1, by simp, fun a ha b hb => ?_⟩
    rw [List.mem_singleton.1 hb]; rintro rfl; exact hne ha
  have := nodup_len hn h4 (in_snoc h2 hj)
  rw [List.length_append, List.length_singleton] at this
  omega
theorem memsTo_full (ws : List Int) : ∀ k : Nat, (∀ j : Nat, j < k → hasW ws j) → (memsTo ws k).length = k
  | 0, _ => rfl
  | k + 1, h => by rw [memsTo_succ, if_pos (h k (by omega)), List.length_append, memsTo_full ws k fun j hj => h j (by omega)]; rfl
theorem memsTo_grow (ws : List Int) (k : Nat) : ∀ d : Nat, (memsTo ws k).length ≤ (memsTo ws (k + d)).length
  | 0 => Nat.le_refl _
  | d + 1 => by
    have := memsTo_grow ws k d
    rw [← Nat.add_assoc, memsTo_succ]
    split
    · rw [List.length_append]; omega
    · exact this
theorem chkE_zero {n : Int} {S : List (Int × Int)} (hl : S.length ≤ 4096) (h : ∀ x ∈ S, (x.1 = 1 ∨ x.1 = 2 ∨ x.1 = 3) ∧ 0 ≤ x.2 ∧ x.2 < n) : chkE n S = 0 := by
  unfold chkE
  rw [if_neg (by omega), firstE_none]
  intro i hi
  have hm : S.getD i (0, 0) ∈ S := by rw [List.getD_eq_getElem?_getD, List.getElem?_eq_getElem hi]; exact List.getElem_mem hi
  have := h _ hm
  unfold chkAt
  rw [if_neg (by omega), if_neg (by omega)]
/-- What is known of an order that is whole. -/
theorem whole {n : Int} {l : List (Int × Int)} (h : orderErr n l = 0) : supE n l = 0 ∧ orderRes n l = ordL n l ∧ (msAt (onL n l) n n.toNat).length = n.toNat ∧ 0 ≤ n ∧ n ≤ 512 := by
  unfold orderErr at h
  split at h
  · cases h
  rename_i hs
  split at h
  · cases h
  rename_i hr
  have hs := Classical.not_not.1 hs
  obtain ⟨r1, r2, r3, r4⟩ := supE_rests hs
  have hms := msAt_len (onL n l) r2 n.toNat
  have hraise : raisedL (ordL n l) (ordL n l).length = msAt (onL n l) n n.toNat := raised_all _ _
  have hr2 := hr
  rw [raisedIn_eq, hraise] at hr2
  exact ⟨hs, by unfold orderRes; rw [if_pos ⟨hs, hr⟩], by omega, r2, r3⟩
theorem order_chk {n : Int} {l : List (Int × Int)} (h : orderErr n l = 0) : checkE n l (orderRes n l) = 0 := by
  obtain ⟨hs, hS, hfull, r2, r3⟩ := whole h
  have hin := msAt_in (onL n l) n n.toNat
  have hlen : (ordL n l).length ≤ 4096 := by
    have := stepsOf_len (restL n l) (msAt (onL n l) n n.toNat)
    show (stepsOf _ _).length ≤ _
    omega
  have hc : chkE n (ordL n l) = 0 := chkE_zero hlen fun x hx => by
    obtain ⟨h1, h2⟩ := steps_mem _ _ _ hx
    exact ⟨by omega, hin _ h2⟩
  have hd : doAt (onL n l) (restL n l) n (ordL n l) (ordL n l).length = ⟨putL (words n) (msAt (onL n l) n n.toNat), putL (words n) (propsOf (restL n l) (msAt (onL n l) n n.toNat)), false⟩ := by
    rw [doAt_fold _ _ _ _ _ (Nat.le_refl _), List.take_length]
    exact do_order _ r2 n.toNat
  unfold checkE
  rw [hS, if_neg (by rw [hs]; simp), if_neg (by rw [hc]; simp), hd]
  unfold endE
  rw [if_neg (by simp), if_neg]
  have hw := words_len n r2
  have hpl := putL_len (msAt (onL n l) n n.toNat) (words n)
  have h1 := memsTo_full (putL (words n) (msAt (onL n l) n n.toNat)) n.toNat fun j hj => (has_mem r2 hin (by omega)).2 (all_in r2 (msAt_nodup _ r2 _) hin hfull ⟨by omega, by omega⟩)
  obtain ⟨d, hd⟩ := Nat.exists_eq_add_of_le (show n.toNat ≤ 64 * (putL (words n) (msAt (onL n l) n n.toNat)).length by rw [hpl]; omega)
  have h2 := memsTo_grow (putL (words n) (msAt (onL n l) n n.toNat)) n.toNat d
  rw [← hd, h1] at h2
  show ¬ ((memsTo (putL (words n) (msAt (onL n l) n n.toNat)) (64 * (putL (words n) (msAt (onL n l) n n.toNat)).length)).length : Int) < n
  omega
end EB
