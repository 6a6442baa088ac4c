/-
  Part 5: a symbolic executor over the model, contracts of functions and plain laws.
-/
import Derived.Test.YtpmbhgmifiianaaP4
section
set_option linter.unusedVariables false
open Go Go.Proofs Go.Eng Go.Shelf
namespace EB
set_option maxRecDepth 10000
/-! ### The example -/
def exL : List (Int × Int) := [(0, -1), (1, 0)]
def exS : List (Int × Int) := [(1, 0), (1, 1), (2, 2), (1, 2)]
theorem ex_order : orderRes 3 exL = exS ∧ orderErr 3 exL = 0 := by decide +kernel
theorem ex_props : propsN exS = 1 ∧ propsE exS = 0 := by decide +kernel
theorem b13 : body Try.prog [c22, c32, c38, c45] {} true Try.f13 [] (.val (.bool true)) := by
  have h1 : orderRes 3 [(0, -1), (1, 0)] = [(1, 0), (1, 1), (2, 2), (1, 2)] := ex_order.1
  have h2 : orderErr 3 [(0, -1), (1, 0)] = 0 := ex_order.2
  have h3 : propsN (orderRes 3 [(0, -1), (1, 0)]) = 1 := by rw [h1]; exact ex_props.1
  have h4 : propsE (orderRes 3 [(0, -1), (1, 0)]) = 0 := by rw [h1]; exact ex_props.2
  (repeat' ((conv => whnf); first | (refine Giv.mk fun _ => ?_) | (refine Alt.l (Need.mk ?h ?_); case h => omega) | (refine Alt.r (Need.mk ?h ?_); case h => omega) | (refine Need.mk ?h ?_; case h => first | omega | (intro _; rfl) | assumption | (simp <;> omega)) | refine Ix.zero ?_ | refine Ix.one ?_ | refine Ix.two ?_ | refine Ix.nat ?_ | refine Ix.add ?_ | (apply Go.Eng.Pin.mk; apply Exists.intro) | apply Go.Eng.Pinned.mk rfl rfl | (apply Go.Eng.PinH.mk; apply Exists.intro; apply Exists.intro) | exact Go.Eng.Fin0.mk | refine Go.Eng.Chk.mk ?_ ?_ | refine Own.l ?_ | (refine Br.mkY ?h ?_; case h => first | omega | assumption) | (refine Br.mkN ?h ?_; case h => first | omega | assumption | exact not_not_intro (by assumption)) | (refine Br.mk (fun _ => ?_) (fun _ => ?_)) | fail))
  (conv => whnf)
  exact ⟨fun _ => rfl, fun _ => h1⟩
def c13 : Con := mkCon 13 true fun args K => match args with | [] => K (.val (.bool true)) | _ => False
theorem k13 : ConOK Try.prog c13 := by
  refine conOK_of rfl (enters_of Try.func13 (by kernel_rfl) rfl) ?_
  intro args K h
  simp only [c13] at h
  split at h
  · exact ⟨_, h, tri_of_body (Γ := [c22, c32, c38, c45]) (by simp [k22, k32, k38, k45]) Try.func13 (by simp [Try.ntmps13]) rfl b13⟩
  · exact h.elim
/-! ### slices.IsSorted -/
theorem b50 (a b : Int) : body Try.prog [c74] {} true Try.f50 [I a, I b] (.bl (a < b) inferInstance) := by
  (repeat' ((conv => whnf); first | (refine Giv.mk fun _ => ?_) | (refine Alt.l (Need.mk ?h ?_); case h => omega) | (refine Alt.r (Need.mk ?h ?_); case h => omega) | (refine Need.mk ?h ?_; case h => first | omega | (intro _; rfl) | assumption | (simp <;> omega)) | refine Ix.zero ?_ | refine Ix.one ?_ | refine Ix.two ?_ | refine Ix.nat ?_ | refine Ix.add ?_ | (apply Go.Eng.Pin.mk; apply Exists.intro) | apply Go.Eng.Pinned.mk rfl rfl | (apply Go.Eng.PinH.mk; apply Exists.intro; apply Exists.intro) | exact Go.Eng.Fin0.mk | refine Go.Eng.Chk.mk ?_ ?_ | refine Own.l ?_ | (refine Br.mkY ?h ?_; case h => first | omega | assumption) | (refine Br.mkN ?h ?_; case h => first | omega | assumption | exact not_not_intro (by assumption)) | fail))
  (conv => whnf)
def c50 : Con := mkCon 50 true fun args K => match args with | [.val (.int .i64 a), .val (.int .i64 b)] => K (.bl (a < b) inferInstance) | _ => False
theorem k50 : ConOK Try.prog c50 := by
  refine conOK_of rfl (enters_of Try.func50 (by kernel_rfl) rfl) ?_
  intro args K h
  simp only [c50] at h
  split at h
  · rename_i a b; exact ⟨_, h, tri_of_body (Γ := [c74]) (by simp [k74]) Try.func50 (by simp [Try.ntmps50]) rfl (b50 a b)⟩
  · exact h.elim
def sortedP (xs : List Int) : Prop := ∀ j, j < xs.length - 1 → xs.getD j 0 ≤ xs.getD (j + 1) 0
instance (xs : List Int) : Decidable (sortedP xs) := by unfold sortedP; exact inferInstance
theorem b15 (xs : List Int) : body Try.prog [c50] { loops := [(0, { X := Nat, pre := fun k => k ≤ xs.length ∧ (∀ j, xs.length ≤ j + 1 + k → j < xs.length - 1 → xs.getD j 0 ≤ xs.getD (j + 1) 0), mod := fun k _ => [(3, I ((xs.length : Int) - 1 - k))], mu := fun k => xs.length - k })] } true Try.f15 [Ls xs] (.bl (sortedP xs) inferInstance) := by
  (repeat' ((conv => whnf); first | (refine Giv.mk fun _ => ?_) | (refine Alt.l (Need.mk ?h ?_); case h => omega) | (refine Alt.r (Need.mk ?h ?_); case h => omega) | (refine Need.mk ?h ?_; case h => first | omega | (intro _; rfl) | assumption | (simp <;> omega)) | refine Ix.zero ?_ | refine Ix.one ?_ | refine Ix.two ?_ | refine Ix.nat ?_ | refine Ix.add ?_ | (apply Go.Eng.Pin.mk; apply Exists.intro) | apply Go.Eng.Pinned.mk rfl rfl | (apply Go.Eng.PinH.mk; apply Exists.intro; apply Exists.intro) | exact Go.Eng.Fin0.mk | refine Go.Eng.Chk.mk ?_ ?_ | refine Own.l ?_ | fail))
  refine ⟨⟨(0 : Nat), ⟨Nat.zero_le _, fun j h1 h2 => by omega⟩, by (repeat' (first | exact trivial | rfl | exact Nat.one_pos | (refine And.intro ?_ ?_) | omega | ((conv => whnf); (refine And.intro ?_ ?_)) | ((conv => whnf); exact trivial)))⟩, fun (k : Nat) hi => ?_⟩
  obtain ⟨hi, hb⟩ := hi
  (repeat' ((conv => whnf); first | (refine Giv.mk fun _ => ?_) | (refine Alt.l (Need.mk ?h ?_); case h => omega) | (refine Alt.r (Need.mk ?h ?_); case h => omega) | (refine Need.mk ?h ?_; case h => first | omega | (intro _; rfl) | assumption | (simp <;> omega)) | refine Ix.zero ?_ | refine Ix.one ?_ | refine Ix.two ?_ | refine Ix.nat ?_ | refine Ix.add ?_ | (apply Go.Eng.Pin.mk; apply Exists.intro) | apply Go.Eng.Pinned.mk rfl rfl | (apply Go.Eng.PinH.mk; apply Exists.intro; apply Exists.intro) | exact Go.Eng.Fin0.mk | refine Go.Eng.Chk.mk ?_ ?_ | refine Own.l ?_ | fail))
  (refine Br.mk (fun _ => ?_) (fun _ => ?_))
  · rename_i h0
    have h0 : 0 < (xs.length : Int) - 1 - k := h0
    (repeat' ((conv => whnf); first | (refine Giv.mk fun _ => ?_) | (refine Alt.l (Need.mk ?h ?_); case h => omega) | (refine Alt.r (Need.mk ?h ?_); case h => omega) | (refine Need.mk ?h ?_; case h => first | omega | (intro _; rfl) | assumption | (simp <;> omega)) | refine Ix.zero ?_ | refine Ix.one ?_ | refine Ix.two ?_ | refine Ix.nat ?_ | refine Ix.add ?_ | (apply Go.Eng.Pin.mk; apply Exists.intro) | apply Go.Eng.Pinned.mk rfl rfl | (apply Go.Eng.PinH.mk; apply Exists.intro; apply Exists.intro) | exact Go.Eng.Fin0.mk | refine Go.Eng.Chk.mk ?_ ?_ | refine Own.l ?_ | fail))
    refine ix_at (xs.length - 1 - k) (by omega) ?_
    (repeat' ((conv => whnf); first | (refine Giv.mk fun _ => ?_) | (refine Alt.l (Need.mk ?h ?_); case h => omega) | (refine Alt.r (Need.mk ?h ?_); case h => omega) | (refine Need.mk ?h ?_; case h => first | omega | (intro _; rfl) | assumption | (simp <;> omega)) | refine Ix.zero ?_ | refine Ix.one ?_ | refine Ix.two ?_ | refine Ix.nat ?_ | refine Ix.add ?_ | (apply Go.Eng.Pin.mk; apply Exists.intro) | apply Go.Eng.Pinned.mk rfl rfl | (apply Go.Eng.PinH.mk; apply Exists.intro; apply Exists.intro) | exact Go.Eng.Fin0.mk | refine Go.Eng.Chk.mk ?_ ?_ | refine Own.l ?_ | fail))
    refine ix_at (xs.length - 1 - k - 1) (by omega) ?_
    (repeat' ((conv => whnf); first | (refine Giv.mk fun _ => ?_) | (refine Alt.l (Need.mk ?h ?_); case h => omega) | (refine Alt.r (Need.mk ?h ?_); case h => omega) | (refine Need.mk ?h ?_; case h => first | omega | (intro _; rfl) | assumption | (simp <;> omega)) | refine Ix.zero ?_ | refine Ix.one ?_ | refine Ix.two ?_ | refine Ix.nat ?_ | refine Ix.add ?_ | (apply Go.Eng.Pin.mk; apply Exists.intro) | apply Go.Eng.Pinned.mk rfl rfl | (apply Go.Eng.PinH.mk; apply Exists.intro; apply Exists.intro) | exact Go.Eng.Fin0.mk | refine Go.Eng.Chk.mk ?_ ?_ | refine Own.l ?_ | fail))
    (refine Br.mk (fun _ => ?_) (fun _ => ?_))
    · rename_i hlt
      (repeat' ((conv => whnf); first | (refine Giv.mk fun _ => ?_) | (refine Alt.l (Need.mk ?h ?_); case h => omega) | (refine Alt.r (Need.mk ?h ?_); case h => omega) | (refine Need.mk ?h ?_; case h => first | omega | (intro _; rfl) | assumption | (simp <;> omega)) | refine Ix.zero ?_ | refine Ix.one ?_ | refine Ix.two ?_ | refine Ix.nat ?_ | refine Ix.add ?_ | (apply Go.Eng.Pin.mk; apply Exists.intro) | apply Go.Eng.Pinned.mk rfl rfl | (apply Go.Eng.PinH.mk; apply Exists.intro; apply Exists.intro) | exact Go.Eng.Fin0.mk | refine Go.Eng.Chk.mk ?_ ?_ | refine Own.l ?_ | fail))
      (conv => whnf)
      intro hs
      have := hs (xs.length - 1 - k - 1) (by omega)
      rw [show xs.length - 1 - k - 1 + 1 = xs.length - 1 - k by omega] at this
      omega
    · rename_i hlt
      (repeat' ((conv => whnf); first | (refine Giv.mk fun _ => ?_) | (refine Alt.l (Need.mk ?h ?_); case h => omega) | (refine Alt.r (Need.mk ?h ?_); case h => omega) | (refine Need.mk ?h ?_; case h => first | omega | (intro _; rfl) | assumption | (simp <;> omega)) | refine Ix.zero ?_ | refine Ix.one ?_ | refine Ix.two ?_ | refine Ix.nat ?_ | refine Ix.add ?_ | (apply Go.Eng.Pin.mk; apply Exists.intro) | apply Go.Eng.Pinned.mk rfl rfl | (apply Go.Eng.PinH.mk; apply Exists.intro; apply Exists.intro) | exact Go.Eng.Fin0.mk | refine Go.Eng.Chk.mk ?_ ?_ | refine Own.l ?_ | fail))
      refine ⟨(k + 1 : Nat), by show xs.length - (k + 1) < xs.length - k; omega, ⟨by omega, fun j h1 h2 => ?_⟩, by (repeat' (first | exact trivial | rfl | exact Nat.one_pos | (refine And.intro ?_ ?_) | omega | ((conv => whnf); (refine And.intro ?_ ?_)) | ((conv => whnf); exact trivial)))⟩
      by_cases e : j = xs.length - 1 - k - 1
      · subst e
        rw [show xs.length - 1 - k - 1 + 1 = xs.length - 1 - k by omega]
        omega
      · exact hb j (by omega) h2
  · rename_i h0
    (repeat' ((conv => whnf); first | (refine Giv.mk fun _ => ?_) | (refine Alt.l (Need.mk ?h ?_); case h => omega) | (refine Alt.r (Need.mk ?h ?_); case h => omega) | (refine Need.mk ?h ?_; case h => first | omega | (intro _; rfl) | assumption | (simp <;> omega)) | refine Ix.zero ?_ | refine Ix.one ?_ | refine Ix.two ?_ | refine Ix.nat ?_ | refine Ix.add ?_ | (apply Go.Eng.Pin.mk; apply Exists.intro) | apply Go.Eng.Pinned.mk rfl rfl | (apply Go.Eng.PinH.mk; apply Exists.intro; apply Exists.intro) | exact Go.Eng.Fin0.mk | refine Go.Eng.Chk.mk ?_ ?_ | refine Own.l ?_ | fail))
    (conv => whnf)
    intro j hj
    exact hb j (by omega) hj
def c15 : Con := mkCon 15 true fun args K => match args with | [.seq (.int .i64) xs] => K (.bl (sortedP xs) inferInstance) | _ => False
theorem k15 : ConOK Try.prog c15 := by
  refine conOK_of rfl (enters_of Try.func15 (by kernel_rfl) rfl) ?_
  intro args K h
  simp only [c15] at h
  split at h
  · rename_i xs; exact ⟨_, h, tri_of_body (Γ := [c50]) (by simp [k50]) Try.func15 (by simp [Try.ntmps15]) rfl (b15 xs)⟩
  · exact h.elim
end EB
end
section
set_option linter.unusedVariables false
open Go Go.Proofs Go.Eng Go.Shelf
namespace EB
set_option maxRecDepth 10000
/-! ### The plain law of ErectNext -/
def raisedL (S : List (Int × Int)) (i : Nat) : List Int := ((S.take i).filter fun x => decide (x.1 = 1)).map (·.2)
theorem raisedL_succ (S : List (Int × Int)) (k : Nat) (h : k < S.length) : raisedL S (k + 1) = if (S.getD k (0, 0)).1 = 1 then raisedL S k ++ [(S.getD k (0, 0)).2] else raisedL S k := by
  unfold raisedL
  rw [take_pair S k h, List.filter_append, List.map_append]
  by_cases e : (S.getD k (0, 0)).1 = 1
  · rw [if_pos e]; simp only [List.filter_cons, decide_eq_true e]; rfl
  · rw [if_neg e]; simp only [List.filter_cons, decide_eq_false e]; simp
theorem raisedL_len (S : List (Int × Int)) (k : Nat) : (raisedL S k).length ≤ S.length := by
  unfold raisedL
  rw [List.length_map]
  refine Nat.le_trans (List.length_filter_le _ _) ?_
  rw [List.length_take]; omega
theorem raisedIn_eq (S : List (Int × Int)) (k : Nat) : raisedIn S k = ((raisedL S k).length : Int) := by
  unfold raisedIn raisedL; rw [List.length_map]
theorem raisedL_app (A B : List (Int × Int)) (i : Nat) : raisedL (A ++ B) (A.length + i) = raisedL A A.length ++ raisedL B i := by
  unfold raisedL
  rw [List.take_length, List.take_append, List.take_of_length_le (by omega), show A.length + i - A.length = i by omega, List.filter_append, List.map_append]
theorem raised_step (rs : List Bool) (m : Int) : raisedL (stepOf rs m) (stepOf rs m).length = [m] := by
  unfold stepOf; split <;> rfl
theorem raised_all (rs : List Bool) : ∀ ms : List Int, raisedL (stepsOf rs ms) (stepsOf rs ms).length = ms
  | [] => rfl
  | m :: r => by
    have e : stepsOf rs (m :: r) = stepOf rs m ++ stepsOf rs r := rfl
    rw [e, List.length_append, raisedL_app, raised_step, raised_all rs r]; rfl
theorem raised_at (rs : List Bool) : ∀ (ms : List Int) (i : Nat), i < (stepsOf rs ms).length → ((stepsOf rs ms).getD i (0, 0)).1 = 1 → ∃ k, k < ms.length ∧ raisedL (stepsOf rs ms) i = ms.take k ∧ ((stepsOf rs ms).getD i (0, 0)).2 = ms.getD k 0
  | [], i, h, _ => absurd h (Nat.not_lt_zero _)
  | m :: r, i, h, h1 => by
    have e : stepsOf rs (m :: r) = stepOf rs m ++ stepsOf rs r := rfl
    by_cases hi : i < (stepOf rs m).length
    · refine ⟨0, by simp, ?_⟩
      have hg : (stepsOf rs (m :: r)).getD i (0, 0) = (stepOf rs m).getD i (0, 0) := by
        rw [e, List.getD_eq_getElem?_getD, List.getD_eq_getElem?_getD, List.getElem?_append_left hi]
      have ht : (stepsOf rs (m :: r)).take i = (stepOf rs m).take i := by
        rw [e, List.take_append, show i - (stepOf rs m).length = 0 by omega]; simp
      rw [hg] at h1 ⊢
      unfold raisedL
      rw [ht]
      unfold stepOf at h1 hi ⊢
      split at hi
      · rename_i hr
        rw [if_pos hr] at h1 ⊢
        have : i = 0 := by simpa using hi
        subst this; exact ⟨rfl, rfl⟩
      · rename_i hr
        rw [if_neg hr] at h1 ⊢
        have hi : i < 2 := hi
        have : i = 1 := by
          rcases Nat.lt_or_ge i 1 with h0 | h0
          · have : i = 0 := by omega
            subst this; simp at h1
          · omega
        subst this; exact ⟨rfl, rfl⟩
    · have hl : (stepsOf rs (m :: r)).length = (stepOf rs m).length + (stepsOf rs r).length := by rw [e, List.length_append]
      obtain ⟨j, hj⟩ := Nat.exists_eq_add_of_le (Nat.le_of_not_lt hi)
      have hg : (stepsOf rs (m :: r)).getD i (0, 0) = (stepsOf rs r).getD j (0, 0) := by
        rw [e, List.getD_eq_getElem?_getD, List.getD_eq_getElem?_getD, List.getElem?_append_right (by omega), show i - (stepOf rs m).length = j by omega]
      rw [hg] at h1 ⊢
      obtain ⟨k, k1, k2, k3⟩ := raised_at rs r j (by omega) h1
      refine ⟨k + 1, by simpa using k1, ?_, by simpa using k3⟩
      rw [e, hj, raisedL_app, raised_step, k2]; rfl
theorem msAt_len_le (on : List (List Int)) (n : Int) : ∀ k, (msAt on n k).length ≤ k
  | 0 => Nat.le_refl _
  | k + 1 => by
    have := msAt_len_le on n k
    rw [msAt_succ]
    split
    · rw [List.length_append, List.length_singleton]; omega
    · omega
theorem msAt_short (on : List (List Int)) (n : Int) : ∀ k, (msAt on n k).length < k → ∀ j, msAt on n (k + j) = msAt on n k
  | 0, h, _ => absurd h (Nat.not_lt_zero _)
  | k + 1, h, j => by
    by_cases h0 : 0 ≤ nxt on n (msAt on n k)
    · have e : msAt on n (k + 1) = msAt on n k ++ [nxt on n (msAt on n k)] := by rw [msAt_succ, if_pos h0]
      rw [e, List.length_append, List.length_singleton] at h
      have ih := msAt_short on n k (by omega)
      rw [show k + 1 + j = k + (1 + j) by omega, ih (1 + j), ih 1]
    · rw [show k + 1 + j = k + (1 + j) by omega, msAt_stay h0, msAt_stay h0]
theorem msAt_take {on : List (List Int)} {n : Int} {N k : Nat} (hk : k ≤ (msAt on n N).length) : msAt on n k = (msAt on n N).take k ∧ (msAt on n k).length = k := by
  have hN := msAt_len_le on n N
  obtain ⟨j, hj⟩ := Nat.exists_eq_add_of_le (show k ≤ N by omega)
  have h1 := msAt_len_le on n k
  have hlen : (msAt on n k).length = k := by
    rcases Nat.lt_or_ge (msAt on n k).length k with h | h
    · have := msAt_short on n k h j
      rw [← hj] at this
      rw [this] at hk; omega
    · omega
  obtain ⟨r, hr⟩ := msAt_pre on n k j
  refine ⟨?_, hlen⟩
  rw [hj, hr, List.take_append, hlen, Nat.sub_self, List.take_zero, List.append_nil, List.take_of_length_le (by omega)]
theorem nxt_at {on : List (List Int)} {n : Int} {N k : Nat} (hk : k < (msAt on n N).length) : 0 ≤ nxt on n (msAt on n k) ∧ nxt on n (msAt on n k) = (msAt on n N).getD k 0 := by
  obtain ⟨e1, l1⟩ := msAt_take (Nat.le_of_lt hk)
  obtain ⟨e2, l2⟩ := msAt_take (show k + 1 ≤ _ from hk)
  by_cases h0 : 0 ≤ nxt on n (msAt on n k)
  · refine ⟨h0, ?_⟩
    have e : msAt on n (k + 1) = msAt on n k ++ [nxt on n (msAt on n k)] := by rw [msAt_succ, if_pos h0]
    rw [e2, List.take_succ_eq_append_getElem hk, ← e1] at e
    have := List.append_cancel_left e
    rw [List.getD_eq_getElem?_getD, List.getElem?_eq_getElem hk]
    simpa using this.symm
  · have : msAt on n (k + 1) = msAt on n k := by rw [msAt_succ, if_neg h0]
    rw [this] at l2; omega
theorem readyTo_none {on : List (List Int)} {ws : List Int} : ∀ k : Nat, (∀ j : Nat, j < k → ¬ readyP on ws j) → readyTo on ws k = []
  | 0, _ => rfl
  | k + 1, h => by rw [readyTo_succ, if_neg (h k (by omega)), readyTo_none k fun j hj => h j (by omega)]
theorem readyTo_head {on : List (List Int)} {ws : List Int} {i : Nat} (hr : readyP on ws i) (hb : ∀ j : Nat, j < i → ¬ readyP on ws j) : ∀ d : Nat, ∃ r, readyTo on ws (i + 1 + d) = (i : Int) :: r
  | 0 => ⟨[], by rw [Nat.add_zero, readyTo_succ, if_pos hr, readyTo_none i hb]; rfl⟩
  | d + 1 => by
    obtain ⟨r, h⟩ := readyTo_head hr hb d
    rw [← Nat.add_assoc, readyTo_succ, h]
    split
    · exact ⟨r ++ [((i + 1 + d : Nat) : Int)], rfl⟩
    · exact ⟨r, rfl⟩
theorem readyTo_sorted (on : List (List Int)) (ws : List Int) (k : Nat) : sortedP (readyTo on ws k) := by
  have : (readyTo on ws k).Pairwise (· ≤ ·) := by
    unfold readyTo
    rw [List.pairwise_map]
    refine List.Pairwise.imp (fun h => ?_) (List.pairwise_lt_range.filter _)
    omega
  intro j hj
  have h := List.pairwise_iff_getElem.1 this j (j + 1) (by omega) (by omega) (by omega)
  simpa [List.getD_eq_getElem?_getD, show j < (readyTo on ws k).length by omega, show j + 1 < (readyTo on ws k).length by omega] using h
theorem out_none {n : Int} {ms : List Int} (h : InN n ms) : ms.any (outB n) = false := by
  rw [List.any_eq_false]
  intro m hm
  have := h m hm
  unfold outB; simp; omega
/-- What the law has of an order. -/
structure Ordered (n : Int) (l : List (Int × Int)) (S : List (Int × Int)) : Prop where
  len : S.length ≤ 2048
  step : ∀ i, i < S.length → (S.getD i (0, 0)).1 = 1 → readyErr n l (raisedL S i) = 0 ∧ sortedP (readyRes n l (raisedL S i)) ∧ ∃ r, readyRes n l (raisedL S i) = (S.getD i (0, 0)).2 :: r
  stop : readyErr n l (raisedL S S.length) = 0 ∧ readyRes n l (raisedL S S.length) = [] ∧ ((raisedL S S.length).length : Int) = n
theorem ordered {n : Int} {l : List (Int × Int)} (h : orderErr n l = 0) : Ordered n l (orderRes n l) := by
  unfold orderErr at h
  split at h
  · cases h
  rename_i hs
  split at h
  · cases h
  rename_i hr
  have hs := Classical.not_not.1 hs
  have hro := supE_rests hs
  obtain ⟨r1, r2, r3, r4⟩ := id hro
  have hS : orderRes n l = ordL n l := by unfold orderRes; rw [if_pos ⟨hs, hr⟩]
  rw [hS]
  have hms := msAt_len (onL n l) r2 n.toNat
  have hraise : raisedL (ordL n l) (ordL n l).length = msAt (onL n l) n n.toNat := raised_all _ _
  rw [raisedIn_eq, hraise] at hr
  have hfull : (msAt (onL n l) n n.toNat).length = n.toNat := by omega
  have hpos : ∀ {ms : List Int}, InN n ms → readyErr n l ms = 0 ∧ readyRes n l ms = readyTo (onL n l) (putL (words n) ms) n.toNat := fun hm => by
    have ho := out_none hm
    refine ⟨?_, ?_⟩
    · unfold readyErr; rw [if_neg (by rw [hs]; simp), if_neg (by rw [ho]; simp)]
    · unfold readyRes; rw [if_pos ⟨hs, ho⟩]
  refine ⟨?_, fun i hi h1 => ?_, ?_⟩
  · have := stepsOf_len (restL n l) (msAt (onL n l) n n.toNat)
    show (stepsOf _ _).length ≤ _
    omega
  · obtain ⟨k, k1, k2, k3⟩ := raised_at (restL n l) (msAt (onL n l) n n.toNat) i hi h1
    obtain ⟨e1, _⟩ := msAt_take (Nat.le_of_lt k1)
    have hk : raisedL (ordL n l) i = msAt (onL n l) n k := by rw [e1]; exact k2
    obtain ⟨p1, p2⟩ := hpos (msAt_in (onL n l) n k)
    obtain ⟨q1, q2⟩ := nxt_at k1
    rw [hk, p2]
    refine ⟨p1, readyTo_sorted _ _ _, ?_⟩
    rcases nxt_cases (onL n l) n (msAt (onL n l) n k) with h | ⟨i', h1, h2, h3, h4⟩
    · omega
    · obtain ⟨d, hd⟩ := Nat.exists_eq_add_of_le (show i' + 1 ≤ n.toNat from h1)
      obtain ⟨r, hr⟩ := readyTo_head h3 h4 d
      refine ⟨r, ?_⟩
      rw [hd, hr, ← h2, q2]
      exact congrArg (· :: r) k3.symm
  · rw [hraise]
    obtain ⟨p1, p2⟩ := hpos (msAt_in (onL n l) n n.toNat)
    refine ⟨p1, ?_, by omega⟩
    rw [p2]
    refine readyTo_none _ ?_
    rcases nxt_cases (onL n l) n (msAt (onL n l) n n.toNat) with h | ⟨i', h1, h2, h3, h4⟩
    · exact h.2
    · exfalso
      have h5 := msAt_len (onL n l) r2 (n.toNat + 1)
      rw [msAt_succ, if_pos (by omega), List.length_append, List.length_singleton] at h5
      omega
end EB
end
section
set_option linter.unusedVariables false
open Go Go.Proofs Go.Eng Go.Shelf
namespace EB
set_option maxRecDepth 10000
/-! ### erect.Check -/
theorem firstE_zero {f : Nat → Int} {m : Nat} (h : firstE f m = 0) : ∀ j, j < m → f j = 0 := by
  intro i hi
  by_cases hz : f i = 0
  · exact hz
  · exfalso
    have : ∃ j, j < m ∧ f j ≠ 0 ∧ ∀ q, q < j → f q = 0 := by
      induction i using Nat.strongRecOn with
      | _ j ih =>
        by_cases hm : ∀ q, q < j → f q = 0
        · exact ⟨j, hi, hz, hm⟩
        · rw [Classical.not_forall] at hm
          obtain ⟨q, hm⟩ := hm
          rw [Classical.not_imp] at hm
          exact ih q hm.1 (by omega) hm.2
    obtain ⟨j, h1, h2, h3⟩ := this
    rw [firstE_some h1 h2 h3] at h
    exact h2 h
theorem chkE_ok {n : Int} {S : List (Int × Int)} (hn : 0 ≤ n) (h : chkE n S = 0) : ∀ i, i < S.length → (1 ≤ (S.getD i (0, 0)).1 ∧ (S.getD i (0, 0)).1 ≤ 3) ∧ 0 ≤ (S.getD i (0, 0)).2 ∧ (S.getD i (0, 0)).2 < n := by
  intro i hi
  unfold chkE at h
  split at h
  · cases h
  have := firstE_zero h i hi
  unfold chkAt at this
  split at this
  · cases this
  split at this
  · cases this
  omega
/-- What stands, which props, and whether a step was not possible. -/
structure CS where
  st : List Int
  pr : List Int
  err : Bool
def canDo (on : List (List Int)) (rs : List Bool) (c : CS) (x : Int × Int) : Prop :=
  if x.1 = 1 then readyP on c.st x.2 ∧ (rs.getD x.2.toNat false = true ∨ hasW c.pr x.2)
  else if x.1 = 2 then ¬ hasW c.pr x.2
  else hasW c.pr x.2 ∧ (¬ hasW c.st x.2 ∨ rs.getD x.2.toNat false = true)
instance (on : List (List Int)) (rs : List Bool) (c : CS) (x : Int × Int) : Decidable (canDo on rs c x) := by unfold canDo; exact inferInstance
def doStep (on : List (List Int)) (rs : List Bool) (S : List (Int × Int)) (c : CS) (i : Nat) : CS :=
  if c.err = true then c
  else if ¬ canDo on rs c (S.getD i (0, 0)) then ⟨c.st, c.pr, true⟩
  else if (S.getD i (0, 0)).1 = 1 then ⟨putW c.st (S.getD i (0, 0)).2, c.pr, false⟩
  else if (S.getD i (0, 0)).1 = 2 then ⟨c.st, putW c.pr (S.getD i (0, 0)).2, false⟩
  else ⟨c.st, takeW c.pr (S.getD i (0, 0)).2, false⟩
def doAt (on : List (List Int)) (rs : List Bool) (n : Int) (S : List (Int × Int)) (i : Nat) : CS := (List.range i).foldl (doStep on rs S) ⟨words n, words n, false⟩
theorem doAt_succ (on : List (List Int)) (rs : List Bool) (n : Int) (S : List (Int × Int)) (i : Nat) : doAt on rs n S (i + 1) = doStep on rs S (doAt on rs n S i) i := by
  unfold doAt; rw [List.range_succ, List.foldl_append]; rfl
theorem doAt_stay {on : List (List Int)} {rs : List Bool} {n : Int} {S : List (Int × Int)} {i : Nat} (h : (doAt on rs n S i).err = true) : ∀ j, doAt on rs n S (i + j) = doAt on rs n S i
  | 0 => rfl
  | j + 1 => by rw [← Nat.add_assoc, doAt_succ, doAt_stay h j]; unfold doStep; rw [if_pos h]
def endE (n : Int) (c : CS) : Int := if c.err = true then 26 else if ((memsTo c.st (64 * c.st.length)).length : Int) < n then 9 else 0
def checkE (n : Int) (l S : List (Int × Int)) : Int := if ¬ supE n l = 0 then 1 else if ¬ chkE n S = 0 then chkE n S else endE n (doAt (onL n l) (restL n l) n S S.length)
theorem checkE_bad {n : Int} {l S : List (Int × Int)} (h1 : supE n l = 0) (h2 : chkE n S = 0) {i : Nat} (hi : i < S.length) (he : (doAt (onL n l) (restL n l) n S (i + 1)).err = true) : 26 = checkE n l S := by
  obtain ⟨j, hj⟩ := Nat.exists_eq_add_of_le (show i + 1 ≤ S.length from hi)
  have : (doAt (onL n l) (restL n l) n S S.length).err = true := by rw [hj, doAt_stay he, he]
  unfold checkE endE; rw [if_neg (fun e => e h1), if_neg (fun e => e h2), if_pos this]
theorem b16 (n : Int) (l S : List (Int × Int)) : body Try.prog [c43, c46, c47, c48, c49, c51, c52, c53, c54] { asks := [(0, [])] } true Try.f16 [I n, Ps l, Ps S] (I (checkE n l S)) := by
  (repeat' ((conv => whnf); first | (refine Giv.mk fun _ => ?_) | (refine Alt.l (Need.mk ?h ?_); case h => omega) | (refine Alt.r (Need.mk ?h ?_); case h => omega) | (refine Need.mk ?h ?_; case h => first | omega | (intro _; rfl) | assumption | (simp <;> omega)) | refine Ix.zero ?_ | refine Ix.one ?_ | refine Ix.two ?_ | refine Ix.nat ?_ | refine Ix.add ?_ | (apply Go.Eng.Pin.mk; apply Exists.intro) | apply Go.Eng.Pinned.mk rfl rfl | (apply Go.Eng.PinH.mk; apply Exists.intro; apply Exists.intro) | exact Go.Eng.Fin0.mk | refine Go.Eng.Chk.mk ?_ ?_ | refine Own.l ?_ | fail))
  (refine Br.mk (fun _ => ?_) (fun _ => ?_))
  · rename_i h
    (repeat' ((conv => whnf); first | (refine Giv.mk fun _ => ?_) | (refine Alt.l (Need.mk ?h ?_); case h => omega) | (refine Alt.r (Need.mk ?h ?_); case h => omega) | (refine Need.mk ?h ?_; case h => first | omega | (intro _; rfl) | assumption | (simp <;> omega)) | refine Ix.zero ?_ | refine Ix.one ?_ | refine Ix.two ?_ | refine Ix.nat ?_ | refine Ix.add ?_ | (apply Go.Eng.Pin.mk; apply Exists.intro) | apply Go.Eng.Pinned.mk rfl rfl | (apply Go.Eng.PinH.mk; apply Exists.intro; apply Exists.intro) | exact Go.Eng.Fin0.mk | refine Go.Eng.Chk.mk ?_ ?_ | refine Own.l ?_ | fail))
    (conv => whnf)
    exact ⟨rfl, by unfold checkE; rw [if_pos h]⟩
  rename_i h
  have h := Classical.not_not.1 h
  have hro := supE_rests h
  obtain ⟨r1, r2, r3, r4⟩ := id hro
  (repeat' ((conv => whnf); first | (refine Giv.mk fun _ => ?_) | (refine Alt.l (Need.mk ?h ?_); case h => omega) | (refine Alt.r (Need.mk ?h ?_); case h => omega) | (refine Need.mk ?h ?_; case h => first | omega | (intro _; rfl) | assumption | (simp <;> omega)) | refine Ix.zero ?_ | refine Ix.one ?_ | refine Ix.two ?_ | refine Ix.nat ?_ | refine Ix.add ?_ | (apply Go.Eng.Pin.mk; apply Exists.intro) | apply Go.Eng.Pinned.mk rfl rfl | (apply Go.Eng.PinH.mk; apply Exists.intro; apply Exists.intro) | exact Go.Eng.Fin0.mk | refine Go.Eng.Chk.mk ?_ ?_ | refine Own.l ?_ | fail))
  (refine Br.mk (fun _ => ?_) (fun _ => ?_))
  · rename_i hc
    (repeat' ((conv => whnf); first | (refine Giv.mk fun _ => ?_) | (refine Alt.l (Need.mk ?h ?_); case h => omega) | (refine Alt.r (Need.mk ?h ?_); case h => omega) | (refine Need.mk ?h ?_; case h => first | omega | (intro _; rfl) | assumption | (simp <;> omega)) | refine Ix.zero ?_ | refine Ix.one ?_ | refine Ix.two ?_ | refine Ix.nat ?_ | refine Ix.add ?_ | (apply Go.Eng.Pin.mk; apply Exists.intro) | apply Go.Eng.Pinned.mk rfl rfl | (apply Go.Eng.PinH.mk; apply Exists.intro; apply Exists.intro) | exact Go.Eng.Fin0.mk | refine Go.Eng.Chk.mk ?_ ?_ | refine Own.l ?_ | fail))
    (conv => whnf)
    exact ⟨rfl, by unfold checkE; rw [if_neg (fun e => e h), if_pos hc]⟩
  rename_i hc
  have hc := Classical.not_not.1 hc
  have hco := chkE_ok r2 hc
  have hok := onL_ok n l
  have hol := onL_len n l
  have hrl : (restL n l).length = n.toNat := restN_len _ _ _
  (repeat' ((conv => whnf); first | (refine Giv.mk fun _ => ?_) | (refine Alt.l (Need.mk ?h ?_); case h => omega) | (refine Alt.r (Need.mk ?h ?_); case h => omega) | (refine Need.mk ?h ?_; case h => first | omega | (intro _; rfl) | assumption | (simp <;> omega)) | refine Ix.zero ?_ | refine Ix.one ?_ | refine Ix.two ?_ | refine Ix.nat ?_ | refine Ix.add ?_ | (apply Go.Eng.Pin.mk; apply Exists.intro) | apply Go.Eng.Pinned.mk rfl rfl | (apply Go.Eng.PinH.mk; apply Exists.intro; apply Exists.intro) | exact Go.Eng.Fin0.mk | refine Go.Eng.Chk.mk ?_ ?_ | refine Own.l ?_ | fail))
  refine Ask.mk ⟨{ X := Nat, pre := fun i => i ≤ S.length ∧ (doAt (onL n l) (restL n l) n S i).err = false ∧ ((doAt (onL n l) (restL n l) n S i).st.length : Int) = (n + 63) / 64 ∧ ((doAt (onL n l) (restL n l) n S i).pr.length : Int) = (n + 63) / 64, mod := fun i _ => [(34, I i)], heap := fun i _ => [.vec 1 (.int .u64) (doAt (onL n l) (restL n l) n S i).st 103, .vec 1 (.int .u64) (doAt (onL n l) (restL n l) n S i).pr 103, .cells [.seq (.slice (.int .i64)) (onL n l), .seq .bool (restL n l)] 75], mu := fun i => S.length - i }, rfl, ?_⟩
  (repeat' ((conv => whnf); first | (refine Giv.mk fun _ => ?_) | (refine Alt.l (Need.mk ?h ?_); case h => omega) | (refine Alt.r (Need.mk ?h ?_); case h => omega) | (refine Need.mk ?h ?_; case h => first | omega | (intro _; rfl) | assumption | (simp <;> omega)) | refine Ix.zero ?_ | refine Ix.one ?_ | refine Ix.two ?_ | refine Ix.nat ?_ | refine Ix.add ?_ | (apply Go.Eng.Pin.mk; apply Exists.intro) | apply Go.Eng.Pinned.mk rfl rfl | (apply Go.Eng.PinH.mk; apply Exists.intro; apply Exists.intro) | exact Go.Eng.Fin0.mk | refine Go.Eng.Chk.mk ?_ ?_ | refine Own.l ?_ | fail))
  refine ⟨⟨(0 : Nat), ⟨Nat.zero_le _, rfl, words_len n r2, words_len n r2⟩, ?_⟩, fun (i : Nat) hi => ?_⟩
  · (repeat' (first | exact trivial | rfl | exact Nat.one_pos | (refine And.intro ?_ ?_) | omega | ((conv => whnf); (refine And.intro ?_ ?_)) | ((conv => whnf); exact trivial)))
  · obtain ⟨hi, he, hs1, hs2⟩ := hi
    have hst := doAt_succ (onL n l) (restL n l) n S i
    unfold doStep at hst
    rw [if_neg (by rw [he]; simp)] at hst
    (repeat' ((conv => whnf); first | (refine Giv.mk fun _ => ?_) | (refine Alt.l (Need.mk ?h ?_); case h => omega) | (refine Alt.r (Need.mk ?h ?_); case h => omega) | (refine Need.mk ?h ?_; case h => first | omega | (intro _; rfl) | assumption | (simp <;> omega)) | refine Ix.zero ?_ | refine Ix.one ?_ | refine Ix.two ?_ | refine Ix.nat ?_ | refine Ix.add ?_ | (apply Go.Eng.Pin.mk; apply Exists.intro) | apply Go.Eng.Pinned.mk rfl rfl | (apply Go.Eng.PinH.mk; apply Exists.intro; apply Exists.intro) | exact Go.Eng.Fin0.mk | refine Go.Eng.Chk.mk ?_ ?_ | refine Own.l ?_ | fail))
    (refine Br.mk (fun _ => ?_) (fun _ => ?_))
    · have hlt : i < S.length := by omega
      obtain ⟨q1, q2, q3⟩ := hco i hlt
      have bad : ¬ canDo (onL n l) (restL n l) (doAt (onL n l) (restL n l) n S i) (S.getD i (0, 0)) → 26 = checkE n l S := fun hb => checkE_bad h hc hlt (by rw [hst, if_pos hb])
      have arr : ∀ {a b : List Int}, doAt (onL n l) (restL n l) n S (i + 1) = ⟨a, b, false⟩ → (a.length : Int) = (n + 63) / 64 → (b.length : Int) = (n + 63) / 64 → i + 1 ≤ S.length ∧ (doAt (onL n l) (restL n l) n S (i + 1)).err = false ∧ ((doAt (onL n l) (restL n l) n S (i + 1)).st.length : Int) = (n + 63) / 64 ∧ ((doAt (onL n l) (restL n l) n S (i + 1)).pr.length : Int) = (n + 63) / 64 := fun e ha hb => ⟨hlt, by rw [e], by rw [e]; exact ha, by rw [e]; exact hb⟩
      have lp1 := putW_len (doAt (onL n l) (restL n l) n S i).st (S.getD i (0, 0)).2
      have lp2 := putW_len (doAt (onL n l) (restL n l) n S i).pr (S.getD i (0, 0)).2
      have lp3 : (takeW (doAt (onL n l) (restL n l) n S i).pr (S.getD i (0, 0)).2).length = (doAt (onL n l) (restL n l) n S i).pr.length := by simp [takeW]
      have hrl2 : (S.getD i (0, 0)).2.toNat < (restL n l).length := by omega
      (repeat' ((conv => whnf); first | (refine Giv.mk fun _ => ?_) | (refine Alt.l (Need.mk ?h ?_); case h => omega) | (refine Alt.r (Need.mk ?h ?_); case h => omega) | (refine Need.mk ?h ?_; case h => first | omega | (intro _; rfl) | assumption | (simp <;> omega)) | refine Ix.zero ?_ | refine Ix.one ?_ | refine Ix.two ?_ | refine Ix.nat ?_ | refine Ix.add ?_ | (apply Go.Eng.Pin.mk; apply Exists.intro) | apply Go.Eng.Pinned.mk rfl rfl | (apply Go.Eng.PinH.mk; apply Exists.intro; apply Exists.intro) | exact Go.Eng.Fin0.mk | refine Go.Eng.Chk.mk ?_ ?_ | refine Own.l ?_ | fail))
      (refine Br.mk (fun _ => ?_) (fun _ => ?_))
      · rename_i k1
        have hcd : canDo (onL n l) (restL n l) (doAt (onL n l) (restL n l) n S i) (S.getD i (0, 0)) ↔ readyP (onL n l) (doAt (onL n l) (restL n l) n S i).st (S.getD i (0, 0)).2 ∧ ((restL n l).getD (S.getD i (0, 0)).2.toNat false = true ∨ hasW (doAt (onL n l) (restL n l) n S i).pr (S.getD i (0, 0)).2) := by unfold canDo; rw [if_pos k1]
        refine Need.mk ⟨hok, q2, by omega⟩ ?_
        (repeat' ((conv => whnf); first | (refine Giv.mk fun _ => ?_) | (refine Alt.l (Need.mk ?h ?_); case h => omega) | (refine Alt.r (Need.mk ?h ?_); case h => omega) | (refine Need.mk ?h ?_; case h => first | omega | (intro _; rfl) | assumption | (simp <;> omega)) | refine Ix.zero ?_ | refine Ix.one ?_ | refine Ix.two ?_ | refine Ix.nat ?_ | refine Ix.add ?_ | (apply Go.Eng.Pin.mk; apply Exists.intro) | apply Go.Eng.Pinned.mk rfl rfl | (apply Go.Eng.PinH.mk; apply Exists.intro; apply Exists.intro) | exact Go.Eng.Fin0.mk | refine Go.Eng.Chk.mk ?_ ?_ | refine Own.l ?_ | fail))
        (refine Br.mk (fun _ => ?_) (fun _ => ?_))
        · rename_i m1
          (repeat' ((conv => whnf); first | (refine Giv.mk fun _ => ?_) | (refine Alt.l (Need.mk ?h ?_); case h => omega) | (refine Alt.r (Need.mk ?h ?_); case h => omega) | (refine Need.mk ?h ?_; case h => first | omega | (intro _; rfl) | assumption | (simp <;> omega)) | refine Ix.zero ?_ | refine Ix.one ?_ | refine Ix.two ?_ | refine Ix.nat ?_ | refine Ix.add ?_ | (apply Go.Eng.Pin.mk; apply Exists.intro) | apply Go.Eng.Pinned.mk rfl rfl | (apply Go.Eng.PinH.mk; apply Exists.intro; apply Exists.intro) | exact Go.Eng.Fin0.mk | refine Go.Eng.Chk.mk ?_ ?_ | refine Own.l ?_ | fail))
          refine ix_at (S.getD i (0, 0)).2.toNat (by omega) ?_
          (repeat' ((conv => whnf); first | (refine Giv.mk fun _ => ?_) | (refine Alt.l (Need.mk ?h ?_); case h => omega) | (refine Alt.r (Need.mk ?h ?_); case h => omega) | (refine Need.mk ?h ?_; case h => first | omega | (intro _; rfl) | assumption | (simp <;> omega)) | refine Ix.zero ?_ | refine Ix.one ?_ | refine Ix.two ?_ | refine Ix.nat ?_ | refine Ix.add ?_ | (apply Go.Eng.Pin.mk; apply Exists.intro) | apply Go.Eng.Pinned.mk rfl rfl | (apply Go.Eng.PinH.mk; apply Exists.intro; apply Exists.intro) | exact Go.Eng.Fin0.mk | refine Go.Eng.Chk.mk ?_ ?_ | refine Own.l ?_ | fail))
          (refine Br.mk (fun _ => ?_) (fun _ => ?_))
          · rename_i m2
            have e := hst
            rw [if_neg (Classical.not_not.2 (hcd.2 ⟨m1, .inl m2⟩)), if_pos k1] at e
            (repeat' ((conv => whnf); first | (refine Giv.mk fun _ => ?_) | (refine Alt.l (Need.mk ?h ?_); case h => omega) | (refine Alt.r (Need.mk ?h ?_); case h => omega) | (refine Need.mk ?h ?_; case h => first | omega | (intro _; rfl) | assumption | (simp <;> omega)) | refine Ix.zero ?_ | refine Ix.one ?_ | refine Ix.two ?_ | refine Ix.nat ?_ | refine Ix.add ?_ | (apply Go.Eng.Pin.mk; apply Exists.intro) | apply Go.Eng.Pinned.mk rfl rfl | (apply Go.Eng.PinH.mk; apply Exists.intro; apply Exists.intro) | exact Go.Eng.Fin0.mk | refine Go.Eng.Chk.mk ?_ ?_ | refine Own.l ?_ | fail))
            refine ⟨(i + 1 : Nat), by show S.length - (i + 1) < S.length - i; omega, arr e (by omega) (by omega), ?_⟩
            (repeat' (first | exact trivial | rfl | exact Nat.one_pos | (refine And.intro ?_ ?_) | omega | ((conv => whnf); (refine And.intro ?_ ?_)) | ((conv => whnf); exact trivial)))
            · exact (congrArg CS.st e).symm
            · exact (congrArg CS.pr e).symm
          · rename_i m2
            (repeat' ((conv => whnf); first | (refine Giv.mk fun _ => ?_) | (refine Alt.l (Need.mk ?h ?_); case h => omega) | (refine Alt.r (Need.mk ?h ?_); case h => omega) | (refine Need.mk ?h ?_; case h => first | omega | (intro _; rfl) | assumption | (simp <;> omega)) | refine Ix.zero ?_ | refine Ix.one ?_ | refine Ix.two ?_ | refine Ix.nat ?_ | refine Ix.add ?_ | (apply Go.Eng.Pin.mk; apply Exists.intro) | apply Go.Eng.Pinned.mk rfl rfl | (apply Go.Eng.PinH.mk; apply Exists.intro; apply Exists.intro) | exact Go.Eng.Fin0.mk | refine Go.Eng.Chk.mk ?_ ?_ | refine Own.l ?_ | fail))
            (refine Br.mk (fun _ => ?_) (fun _ => ?_))
            · rename_i m3
              (repeat' ((conv => whnf); first | (refine Giv.mk fun _ => ?_) | (refine Alt.l (Need.mk ?h ?_); case h => omega) | (refine Alt.r (Need.mk ?h ?_); case h => omega) | (refine Need.mk ?h ?_; case h => first | omega | (intro _; rfl) | assumption | (simp <;> omega)) | refine Ix.zero ?_ | refine Ix.one ?_ | refine Ix.two ?_ | refine Ix.nat ?_ | refine Ix.add ?_ | (apply Go.Eng.Pin.mk; apply Exists.intro) | apply Go.Eng.Pinned.mk rfl rfl | (apply Go.Eng.PinH.mk; apply Exists.intro; apply Exists.intro) | exact Go.Eng.Fin0.mk | refine Go.Eng.Chk.mk ?_ ?_ | refine Own.l ?_ | fail))
              (conv => whnf)
              exact ⟨rfl, bad fun e => by exact (hcd.1 e).2.elim m2 m3⟩
            · rename_i m3
              have m3 := Classical.not_not.1 m3
              have e := hst
              rw [if_neg (Classical.not_not.2 (hcd.2 ⟨m1, .inr m3⟩)), if_pos k1] at e
              (repeat' ((conv => whnf); first | (refine Giv.mk fun _ => ?_) | (refine Alt.l (Need.mk ?h ?_); case h => omega) | (refine Alt.r (Need.mk ?h ?_); case h => omega) | (refine Need.mk ?h ?_; case h => first | omega | (intro _; rfl) | assumption | (simp <;> omega)) | refine Ix.zero ?_ | refine Ix.one ?_ | refine Ix.two ?_ | refine Ix.nat ?_ | refine Ix.add ?_ | (apply Go.Eng.Pin.mk; apply Exists.intro) | apply Go.Eng.Pinned.mk rfl rfl | (apply Go.Eng.PinH.mk; apply Exists.intro; apply Exists.intro) | exact Go.Eng.Fin0.mk | refine Go.Eng.Chk.mk ?_ ?_ | refine Own.l ?_ | fail))
              refine ⟨(i + 1 : Nat), by show S.length - (i + 1) < S.length - i; omega, arr e (by omega) (by omega), ?_⟩
              (repeat' (first | exact trivial | rfl | exact Nat.one_pos | (refine And.intro ?_ ?_) | omega | ((conv => whnf); (refine And.intro ?_ ?_)) | ((conv => whnf); exact trivial)))
              · exact (congrArg CS.st e).symm
              · exact (congrArg CS.pr e).symm
        · rename_i m1
          (repeat' ((conv => whnf); first | (refine Giv.mk fun _ => ?_) | (refine Alt.l (Need.mk ?h ?_); case h => omega) | (refine Alt.r (Need.mk ?h ?_); case h => omega) | (refine Need.mk ?h ?_; case h => first | omega | (intro _; rfl) | assumption | (simp <;> omega)) | refine Ix.zero ?_ | refine Ix.one ?_ | refine Ix.two ?_ | refine Ix.nat ?_ | refine Ix.add ?_ | (apply Go.Eng.Pin.mk; apply Exists.intro) | apply Go.Eng.Pinned.mk rfl rfl | (apply Go.Eng.PinH.mk; apply Exists.intro; apply Exists.intro) | exact Go.Eng.Fin0.mk | refine Go.Eng.Chk.mk ?_ ?_ | refine Own.l ?_ | fail))
          (conv => whnf)
          exact ⟨rfl, bad fun e => m1 (hcd.1 e).1⟩
      · rename_i k1
        (repeat' ((conv => whnf); first | (refine Giv.mk fun _ => ?_) | (refine Alt.l (Need.mk ?h ?_); case h => omega) | (refine Alt.r (Need.mk ?h ?_); case h => omega) | (refine Need.mk ?h ?_; case h => first | omega | (intro _; rfl) | assumption | (simp <;> omega)) | refine Ix.zero ?_ | refine Ix.one ?_ | refine Ix.two ?_ | refine Ix.nat ?_ | refine Ix.add ?_ | (apply Go.Eng.Pin.mk; apply Exists.intro) | apply Go.Eng.Pinned.mk rfl rfl | (apply Go.Eng.PinH.mk; apply Exists.intro; apply Exists.intro) | exact Go.Eng.Fin0.mk | refine Go.Eng.Chk.mk ?_ ?_ | refine Own.l ?_ | fail))
        (refine Br.mk (fun _ => ?_) (fun _ => ?_))
        · rename_i k2
          have hcd : canDo (onL n l) (restL n l) (doAt (onL n l) (restL n l) n S i) (S.getD i (0, 0)) ↔ ¬ hasW (doAt (onL n l) (restL n l) n S i).pr (S.getD i (0, 0)).2 := by unfold canDo; rw [if_neg k1, if_pos k2]
          (repeat' ((conv => whnf); first | (refine Giv.mk fun _ => ?_) | (refine Alt.l (Need.mk ?h ?_); case h => omega) | (refine Alt.r (Need.mk ?h ?_); case h => omega) | (refine Need.mk ?h ?_; case h => first | omega | (intro _; rfl) | assumption | (simp <;> omega)) | refine Ix.zero ?_ | refine Ix.one ?_ | refine Ix.two ?_ | refine Ix.nat ?_ | refine Ix.add ?_ | (apply Go.Eng.Pin.mk; apply Exists.intro) | apply Go.Eng.Pinned.mk rfl rfl | (apply Go.Eng.PinH.mk; apply Exists.intro; apply Exists.intro) | exact Go.Eng.Fin0.mk | refine Go.Eng.Chk.mk ?_ ?_ | refine Own.l ?_ | fail))
          (refine Br.mk (fun _ => ?_) (fun _ => ?_))
          · rename_i m1
            (repeat' ((conv => whnf); first | (refine Giv.mk fun _ => ?_) | (refine Alt.l (Need.mk ?h ?_); case h => omega) | (refine Alt.r (Need.mk ?h ?_); case h => omega) | (refine Need.mk ?h ?_; case h => first | omega | (intro _; rfl) | assumption | (simp <;> omega)) | refine Ix.zero ?_ | refine Ix.one ?_ | refine Ix.two ?_ | refine Ix.nat ?_ | refine Ix.add ?_ | (apply Go.Eng.Pin.mk; apply Exists.intro) | apply Go.Eng.Pinned.mk rfl rfl | (apply Go.Eng.PinH.mk; apply Exists.intro; apply Exists.intro) | exact Go.Eng.Fin0.mk | refine Go.Eng.Chk.mk ?_ ?_ | refine Own.l ?_ | fail))
            (conv => whnf)
            exact ⟨rfl, bad fun e => m1 (hcd.1 e)⟩
          · rename_i m1
            have m1 := Classical.not_not.1 m1
            have e := hst
            rw [if_neg (Classical.not_not.2 (hcd.2 m1)), if_neg k1, if_pos k2] at e
            (repeat' ((conv => whnf); first | (refine Giv.mk fun _ => ?_) | (refine Alt.l (Need.mk ?h ?_); case h => omega) | (refine Alt.r (Need.mk ?h ?_); case h => omega) | (refine Need.mk ?h ?_; case h => first | omega | (intro _; rfl) | assumption | (simp <;> omega)) | refine Ix.zero ?_ | refine Ix.one ?_ | refine Ix.two ?_ | refine Ix.nat ?_ | refine Ix.add ?_ | (apply Go.Eng.Pin.mk; apply Exists.intro) | apply Go.Eng.Pinned.mk rfl rfl | (apply Go.Eng.PinH.mk; apply Exists.intro; apply Exists.intro) | exact Go.Eng.Fin0.mk | refine Go.Eng.Chk.mk ?_ ?_ | refine Own.l ?_ | fail))
            refine ⟨(i + 1 : Nat), by show S.length - (i + 1) < S.length - i; omega, arr e (by omega) (by omega), ?_⟩
            (repeat' (first | exact trivial | rfl | exact Nat.one_pos | (refine And.intro ?_ ?_) | omega | ((conv => whnf); (refine And.intro ?_ ?_)) | ((conv => whnf); exact trivial)))
            · exact (congrArg CS.st e).symm
            · exact (congrArg CS.pr e).symm
        · rename_i k2
          have hcd : canDo (onL n l) (restL n l) (doAt (onL n l) (restL n l) n S i) (S.getD i (0, 0)) ↔ hasW (doAt (onL n l) (restL n l) n S i).pr (S.getD i (0, 0)).2 ∧ (¬ hasW (doAt (onL n l) (restL n l) n S i).st (S.getD i (0, 0)).2 ∨ (restL n l).getD (S.getD i (0, 0)).2.toNat false = true) := by unfold canDo; rw [if_neg k1, if_neg k2]
          (repeat' ((conv => whnf); first | (refine Giv.mk fun _ => ?_) | (refine Alt.l (Need.mk ?h ?_); case h => omega) | (refine Alt.r (Need.mk ?h ?_); case h => omega) | (refine Need.mk ?h ?_; case h => first | omega | (intro _; rfl) | assumption | (simp <;> omega)) | refine Ix.zero ?_ | refine Ix.one ?_ | refine Ix.two ?_ | refine Ix.nat ?_ | refine Ix.add ?_ | (apply Go.Eng.Pin.mk; apply Exists.intro) | apply Go.Eng.Pinned.mk rfl rfl | (apply Go.Eng.PinH.mk; apply Exists.intro; apply Exists.intro) | exact Go.Eng.Fin0.mk | refine Go.Eng.Chk.mk ?_ ?_ | refine Own.l ?_ | fail))
          (refine Br.mk (fun _ => ?_) (fun _ => ?_))
          · rename_i m1
            (repeat' ((conv => whnf); first | (refine Giv.mk fun _ => ?_) | (refine Alt.l (Need.mk ?h ?_); case h => omega) | (refine Alt.r (Need.mk ?h ?_); case h => omega) | (refine Need.mk ?h ?_; case h => first | omega | (intro _; rfl) | assumption | (simp <;> omega)) | refine Ix.zero ?_ | refine Ix.one ?_ | refine Ix.two ?_ | refine Ix.nat ?_ | refine Ix.add ?_ | (apply Go.Eng.Pin.mk; apply Exists.intro) | apply Go.Eng.Pinned.mk rfl rfl | (apply Go.Eng.PinH.mk; apply Exists.intro; apply Exists.intro) | exact Go.Eng.Fin0.mk | refine Go.Eng.Chk.mk ?_ ?_ | refine Own.l ?_ | fail))
            (refine Br.mk (fun _ => ?_) (fun _ => ?_))
            · rename_i m2
              have e := hst
              rw [if_neg (Classical.not_not.2 (hcd.2 ⟨m1, .inl m2⟩)), if_neg k1, if_neg k2] at e
              (repeat' ((conv => whnf); first | (refine Giv.mk fun _ => ?_) | (refine Alt.l (Need.mk ?h ?_); case h => omega) | (refine Alt.r (Need.mk ?h ?_); case h => omega) | (refine Need.mk ?h ?_; case h => first | omega | (intro _; rfl) | assumption | (simp <;> omega)) | refine Ix.zero ?_ | refine Ix.one ?_ | refine Ix.two ?_ | refine Ix.nat ?_ | refine Ix.add ?_ | (apply Go.Eng.Pin.mk; apply Exists.intro) | apply Go.Eng.Pinned.mk rfl rfl | (apply Go.Eng.PinH.mk; apply Exists.intro; apply Exists.intro) | exact Go.Eng.Fin0.mk | refine Go.Eng.Chk.mk ?_ ?_ | refine Own.l ?_ | fail))
              refine ⟨(i + 1 : Nat), by show S.length - (i + 1) < S.length - i; omega, arr e (by omega) (by omega), ?_⟩
              (repeat' (first | exact trivial | rfl | exact Nat.one_pos | (refine And.intro ?_ ?_) | omega | ((conv => whnf); (refine And.intro ?_ ?_)) | ((conv => whnf); exact trivial)))
              · exact (congrArg CS.st e).symm
              · exact (congrArg CS.pr e).symm
            · rename_i m2
              have m2 := Classical.not_not.1 m2
              (repeat' ((conv => whnf); first | (refine Giv.mk fun _ => ?_) | (refine Alt.l (Need.mk ?h ?_); case h => omega) | (refine Alt.r (Need.mk ?h ?_); case h => omega) | (refine Need.mk ?h ?_; case h => first | omega | (intro _; rfl) | assumption | (simp <;> omega)) | refine Ix.zero ?_ | refine Ix.one ?_ | refine Ix.two ?_ | refine Ix.nat ?_ | refine Ix.add ?_ | (apply Go.Eng.Pin.mk; apply Exists.intro) | apply Go.Eng.Pinned.mk rfl rfl | (apply Go.Eng.PinH.mk; apply Exists.intro; apply Exists.intro) | exact Go.Eng.Fin0.mk | refine Go.Eng.Chk.mk ?_ ?_ | refine Own.l ?_ | fail))
              refine ix_at (S.getD i (0, 0)).2.toNat (by omega) ?_
              (repeat' ((conv => whnf); first | (refine Giv.mk fun _ => ?_) | (refine Alt.l (Need.mk ?h ?_); case h => omega) | (refine Alt.r (Need.mk ?h ?_); case h => omega) | (refine Need.mk ?h ?_; case h => first | omega | (intro _; rfl) | assumption | (simp <;> omega)) | refine Ix.zero ?_ | refine Ix.one ?_ | refine Ix.two ?_ | refine Ix.nat ?_ | refine Ix.add ?_ | (apply Go.Eng.Pin.mk; apply Exists.intro) | apply Go.Eng.Pinned.mk rfl rfl | (apply Go.Eng.PinH.mk; apply Exists.intro; apply Exists.intro) | exact Go.Eng.Fin0.mk | refine Go.Eng.Chk.mk ?_ ?_ | refine Own.l ?_ | fail))
              (refine Br.mk (fun _ => ?_) (fun _ => ?_))
              · rename_i m3
                (repeat' ((conv => whnf); first | (refine Giv.mk fun _ => ?_) | (refine Alt.l (Need.mk ?h ?_); case h => omega) | (refine Alt.r (Need.mk ?h ?_); case h => omega) | (refine Need.mk ?h ?_; case h => first | omega | (intro _; rfl) | assumption | (simp <;> omega)) | refine Ix.zero ?_ | refine Ix.one ?_ | refine Ix.two ?_ | refine Ix.nat ?_ | refine Ix.add ?_ | (apply Go.Eng.Pin.mk; apply Exists.intro) | apply Go.Eng.Pinned.mk rfl rfl | (apply Go.Eng.PinH.mk; apply Exists.intro; apply Exists.intro) | exact Go.Eng.Fin0.mk | refine Go.Eng.Chk.mk ?_ ?_ | refine Own.l ?_ | fail))
                (conv => whnf)
                exact ⟨rfl, bad fun e => by exact (hcd.1 e).2.elim (fun h => h m2) m3⟩
              · rename_i m3
                have m3 := Classical.not_not.1 m3
                have e := hst
                rw [if_neg (Classical.not_not.2 (hcd.2 ⟨m1, .inr m3⟩)), if_neg k1, if_neg k2] at e
                (repeat' ((conv => whnf); first | (refine Giv.mk fun _ => ?_) | (refine Alt.l (Need.mk ?h ?_); case h => omega) | (refine Alt.r (Need.mk ?h ?_); case h => omega) | (refine Need.mk ?h ?_; case h => first | omega | (intro _; rfl) | assumption | (simp <;> omega)) | refine Ix.zero ?_ | refine Ix.one ?_ | refine Ix.two ?_ | refine Ix.nat ?_ | refine Ix.add ?_ | (apply Go.Eng.Pin.mk; apply Exists.intro) | apply Go.Eng.Pinned.mk rfl rfl | (apply Go.Eng.PinH.mk; apply Exists.intro; apply Exists.intro) | exact Go.Eng.Fin0.mk | refine Go.Eng.Chk.mk ?_ ?_ | refine Own.l ?_ | fail))
                refine ⟨(i + 1 : Nat), by show S.length - (i + 1) < S.length - i; omega, arr e (by omega) (by omega), ?_⟩
                (repeat' (first | exact trivial | rfl | exact Nat.one_pos | (refine And.intro ?_ ?_) | omega | ((conv => whnf); (refine And.intro ?_ ?_)) | ((conv => whnf); exact trivial)))
                · exact (congrArg CS.st e).symm
                · exact (congrArg CS.pr e).symm
          · rename_i m1
            (repeat' ((conv => whnf); first | (refine Giv.mk fun _ => ?_) | (refine Alt.l (Need.mk ?h ?_); case h => omega) | (refine Alt.r (Need.mk ?h ?_); case h => omega) | (refine Need.mk ?h ?_; case h => first | omega | (intro _; rfl) | assumption | (simp <;> omega)) | refine Ix.zero ?_ | refine Ix.one ?_ | refine Ix.two ?_ | refine Ix.nat ?_ | refine Ix.add ?_ | (apply Go.Eng.Pin.mk; apply Exists.intro) | apply Go.Eng.Pinned.mk rfl rfl | (apply Go.Eng.PinH.mk; apply Exists.intro; apply Exists.intro) | exact Go.Eng.Fin0.mk | refine Go.Eng.Chk.mk ?_ ?_ | refine Own.l ?_ | fail))
            (conv => whnf)
            exact ⟨rfl, bad fun e => m1 (hcd.1 e).1⟩
    · have hii : i = S.length := by omega
      subst hii
      have hend : checkE n l S = endE n (doAt (onL n l) (restL n l) n S S.length) := by unfold checkE; rw [if_neg (fun e => e h), if_neg (fun e => e hc)]
      (repeat' ((conv => whnf); first | (refine Giv.mk fun _ => ?_) | (refine Alt.l (Need.mk ?h ?_); case h => omega) | (refine Alt.r (Need.mk ?h ?_); case h => omega) | (refine Need.mk ?h ?_; case h => first | omega | (intro _; rfl) | assumption | (simp <;> omega)) | refine Ix.zero ?_ | refine Ix.one ?_ | refine Ix.two ?_ | refine Ix.nat ?_ | refine Ix.add ?_ | (apply Go.Eng.Pin.mk; apply Exists.intro) | apply Go.Eng.Pinned.mk rfl rfl | (apply Go.Eng.PinH.mk; apply Exists.intro; apply Exists.intro) | exact Go.Eng.Fin0.mk | refine Go.Eng.Chk.mk ?_ ?_ | refine Own.l ?_ | fail))
      (refine Br.mk (fun _ => ?_) (fun _ => ?_))
      · rename_i hx
        (repeat' ((conv => whnf); first | (refine Giv.mk fun _ => ?_) | (refine Alt.l (Need.mk ?h ?_); case h => omega) | (refine Alt.r (Need.mk ?h ?_); case h => omega) | (refine Need.mk ?h ?_; case h => first | omega | (intro _; rfl) | assumption | (simp <;> omega)) | refine Ix.zero ?_ | refine Ix.one ?_ | refine Ix.two ?_ | refine Ix.nat ?_ | refine Ix.add ?_ | (apply Go.Eng.Pin.mk; apply Exists.intro) | apply Go.Eng.Pinned.mk rfl rfl | (apply Go.Eng.PinH.mk; apply Exists.intro; apply Exists.intro) | exact Go.Eng.Fin0.mk | refine Go.Eng.Chk.mk ?_ ?_ | refine Own.l ?_ | fail))
        (conv => whnf)
        exact ⟨rfl, by rw [hend]; unfold endE; rw [if_neg (by rw [he]; simp), if_pos hx]⟩
      · rename_i hx
        (repeat' ((conv => whnf); first | (refine Giv.mk fun _ => ?_) | (refine Alt.l (Need.mk ?h ?_); case h => omega) | (refine Alt.r (Need.mk ?h ?_); case h => omega) | (refine Need.mk ?h ?_; case h => first | omega | (intro _; rfl) | assumption | (simp <;> omega)) | refine Ix.zero ?_ | refine Ix.one ?_ | refine Ix.two ?_ | refine Ix.nat ?_ | refine Ix.add ?_ | (apply Go.Eng.Pin.mk; apply Exists.intro) | apply Go.Eng.Pinned.mk rfl rfl | (apply Go.Eng.PinH.mk; apply Exists.intro; apply Exists.intro) | exact Go.Eng.Fin0.mk | refine Go.Eng.Chk.mk ?_ ?_ | refine Own.l ?_ | fail))
        (conv => whnf)
        exact ⟨rfl, by rw [hend]; unfold endE; rw [if_neg (by rw [he]; simp), if_neg hx]⟩
def c16 : Con := mkCon 16 true fun args K => match args with | [.val (.int .i64 n), .seq (.pair (.int .i64) (.int .i64)) l, .seq (.pair (.int .i64) (.int .i64)) S] => K (I (checkE n l S)) | _ => False
theorem k16 : ConOK Try.prog c16 := by
  refine conOK_of rfl (enters_of Try.func16 (by kernel_rfl) rfl) ?_
  intro args K h
  simp only [c16] at h
  split at h
  · rename_i n l S; exact ⟨_, h, tri_of_body (Γ := [c43, c46, c47, c48, c49, c51, c52, c53, c54]) (by simp [k43, k46, k47, k48, k49, k51, k52, k53, k54]) Try.func16 (by simp [Try.ntmps16]) rfl (b16 n l S)⟩
  · exact h.elim
end EB
end
section
set_option linter.unusedVariables false
open Go Go.Proofs Go.Eng Go.Shelf
namespace EB
set_option maxRecDepth 10000
/-! ### Members that rest on nothing -/
theorem b55 (a b m : Int) : body Try.prog [] {} true Try.f55 [.agg [I a, I b], .lelem [I m] 0] (.bl (a = m) inferInstance) := by
  (repeat' ((conv => whnf); first | (refine Giv.mk fun _ => ?_) | (refine Alt.l (Need.mk ?h ?_); case h => omega) | (refine Alt.r (Need.mk ?h ?_); case h => omega) | (refine Need.mk ?h ?_; case h => first | omega | (intro _; rfl) | assumption | (simp <;> omega)) | refine Ix.zero ?_ | refine Ix.one ?_ | refine Ix.two ?_ | refine Ix.nat ?_ | refine Ix.add ?_ | (apply Go.Eng.Pin.mk; apply Exists.intro) | apply Go.Eng.Pinned.mk rfl rfl | (apply Go.Eng.PinH.mk; apply Exists.intro; apply Exists.intro) | exact Go.Eng.Fin0.mk | refine Go.Eng.Chk.mk ?_ ?_ | refine Own.l ?_ | fail))
  (conv => whnf)
def c55 : Con := mkCon 55 true fun args K => match args with | [.agg [.val (.int .i64 a), .val (.int .i64 b)], .lelem [.val (.int .i64 m)] 0] => K (.bl (a = m) inferInstance) | _ => False
theorem k55 : ConOK Try.prog c55 := by
  refine conOK_of rfl (enters_of Try.func55 (by kernel_rfl) rfl) ?_
  intro args K h
  simp only [c55] at h
  split at h
  · rename_i a b m; exact ⟨_, h, tri_of_body (Γ := []) (by simp) Try.func55 (by simp [Try.ntmps55]) rfl (b55 a b m)⟩
  · exact h.elim
def upP (m : Int) (r : Int × Int) : Bool := decide (r.1 = m)
theorem b65 (xs : List (Int × Int)) (m : Int) : body Try.prog [c55] { loops := [(0, anIx 8 (upP m) xs (0, 0))] } false Try.f65 [Ps xs, .clo 55 [] [.lelem [I m] 0]] (I (idxOf (upP m) xs)) := by
  (repeat' ((conv => whnf); first | (refine Giv.mk fun _ => ?_) | (refine Alt.l (Need.mk ?h ?_); case h => omega) | (refine Alt.r (Need.mk ?h ?_); case h => omega) | (refine Need.mk ?h ?_; case h => first | omega | (intro _; rfl) | assumption | (simp <;> omega)) | refine Ix.zero ?_ | refine Ix.one ?_ | refine Ix.two ?_ | refine Ix.nat ?_ | refine Ix.add ?_ | (apply Go.Eng.Pin.mk; apply Exists.intro) | apply Go.Eng.Pinned.mk rfl rfl | (apply Go.Eng.PinH.mk; apply Exists.intro; apply Exists.intro) | exact Go.Eng.Fin0.mk | refine Go.Eng.Chk.mk ?_ ?_ | refine Own.l ?_ | fail))
  refine ⟨⟨(0 : Nat), ⟨Nat.zero_le _, fun j hj => absurd hj (Nat.not_lt_zero _)⟩, by (repeat' (first | exact trivial | rfl | exact Nat.one_pos | (refine And.intro ?_ ?_) | omega | ((conv => whnf); (refine And.intro ?_ ?_)) | ((conv => whnf); exact trivial)))⟩, fun (i : Nat) hi => ?_⟩
  obtain ⟨hi, hb⟩ := hi
  (repeat' ((conv => whnf); first | (refine Giv.mk fun _ => ?_) | (refine Alt.l (Need.mk ?h ?_); case h => omega) | (refine Alt.r (Need.mk ?h ?_); case h => omega) | (refine Need.mk ?h ?_; case h => first | omega | (intro _; rfl) | assumption | (simp <;> omega)) | refine Ix.zero ?_ | refine Ix.one ?_ | refine Ix.two ?_ | refine Ix.nat ?_ | refine Ix.add ?_ | (apply Go.Eng.Pin.mk; apply Exists.intro) | apply Go.Eng.Pinned.mk rfl rfl | (apply Go.Eng.PinH.mk; apply Exists.intro; apply Exists.intro) | exact Go.Eng.Fin0.mk | refine Go.Eng.Chk.mk ?_ ?_ | refine Own.l ?_ | fail))
  (refine Br.mk (fun _ => ?_) (fun _ => ?_))
  · have hlt : i < xs.length := by omega
    (repeat' ((conv => whnf); first | (refine Giv.mk fun _ => ?_) | (refine Alt.l (Need.mk ?h ?_); case h => omega) | (refine Alt.r (Need.mk ?h ?_); case h => omega) | (refine Need.mk ?h ?_; case h => first | omega | (intro _; rfl) | assumption | (simp <;> omega)) | refine Ix.zero ?_ | refine Ix.one ?_ | refine Ix.two ?_ | refine Ix.nat ?_ | refine Ix.add ?_ | (apply Go.Eng.Pin.mk; apply Exists.intro) | apply Go.Eng.Pinned.mk rfl rfl | (apply Go.Eng.PinH.mk; apply Exists.intro; apply Exists.intro) | exact Go.Eng.Fin0.mk | refine Go.Eng.Chk.mk ?_ ?_ | refine Own.l ?_ | fail))
    (refine Br.mk (fun _ => ?_) (fun _ => ?_))
    · rename_i hh
      (repeat' ((conv => whnf); first | (refine Giv.mk fun _ => ?_) | (refine Alt.l (Need.mk ?h ?_); case h => omega) | (refine Alt.r (Need.mk ?h ?_); case h => omega) | (refine Need.mk ?h ?_; case h => first | omega | (intro _; rfl) | assumption | (simp <;> omega)) | refine Ix.zero ?_ | refine Ix.one ?_ | refine Ix.two ?_ | refine Ix.nat ?_ | refine Ix.add ?_ | (apply Go.Eng.Pin.mk; apply Exists.intro) | apply Go.Eng.Pinned.mk rfl rfl | (apply Go.Eng.PinH.mk; apply Exists.intro; apply Exists.intro) | exact Go.Eng.Fin0.mk | refine Go.Eng.Chk.mk ?_ ?_ | refine Own.l ?_ | fail))
      (conv => whnf)
      exact ⟨rfl, (idxOf_some (0, 0) hlt (decide_eq_true hh) hb).symm⟩
    · rename_i hh
      (repeat' ((conv => whnf); first | (refine Giv.mk fun _ => ?_) | (refine Alt.l (Need.mk ?h ?_); case h => omega) | (refine Alt.r (Need.mk ?h ?_); case h => omega) | (refine Need.mk ?h ?_; case h => first | omega | (intro _; rfl) | assumption | (simp <;> omega)) | refine Ix.zero ?_ | refine Ix.one ?_ | refine Ix.two ?_ | refine Ix.nat ?_ | refine Ix.add ?_ | (apply Go.Eng.Pin.mk; apply Exists.intro) | apply Go.Eng.Pinned.mk rfl rfl | (apply Go.Eng.PinH.mk; apply Exists.intro; apply Exists.intro) | exact Go.Eng.Fin0.mk | refine Go.Eng.Chk.mk ?_ ?_ | refine Own.l ?_ | fail))
      refine ⟨(i + 1 : Nat), by show xs.length - (i + 1) < xs.length - i; omega, ⟨hlt, fun j hj => ?_⟩, by (repeat' (first | exact trivial | rfl | exact Nat.one_pos | (refine And.intro ?_ ?_) | omega | ((conv => whnf); (refine And.intro ?_ ?_)) | ((conv => whnf); exact trivial)))⟩
      by_cases e : j = i
      · subst e; exact decide_eq_false hh
      · exact hb j (by omega)
  · have hii : i = xs.length := by omega
    subst hii
    (repeat' ((conv => whnf); first | (refine Giv.mk fun _ => ?_) | (refine Alt.l (Need.mk ?h ?_); case h => omega) | (refine Alt.r (Need.mk ?h ?_); case h => omega) | (refine Need.mk ?h ?_; case h => first | omega | (intro _; rfl) | assumption | (simp <;> omega)) | refine Ix.zero ?_ | refine Ix.one ?_ | refine Ix.two ?_ | refine Ix.nat ?_ | refine Ix.add ?_ | (apply Go.Eng.Pin.mk; apply Exists.intro) | apply Go.Eng.Pinned.mk rfl rfl | (apply Go.Eng.PinH.mk; apply Exists.intro; apply Exists.intro) | exact Go.Eng.Fin0.mk | refine Go.Eng.Chk.mk ?_ ?_ | refine Own.l ?_ | fail))
    (conv => whnf)
    exact ⟨rfl, (idxOf_none (0, 0) hb).symm⟩
def c65 : Con := mkCon 65 false fun args K => match args with | [.seq (.pair (.int .i64) (.int .i64)) xs, .clo 55 [] [.lelem [.val (.int .i64 m)] 0]] => K (I (idxOf (upP m) xs)) | _ => False
theorem k65 : ConOK Try.prog c65 := by
  refine conOK_of rfl (enters_of Try.func65 (by kernel_rfl) rfl) ?_
  intro args K h
  simp only [c65] at h
  split at h
  · rename_i xs m; exact ⟨_, h, tri_of_body (Γ := [c55]) (by simp [k55]) Try.func65 (by simp [Try.ntmps65]) rfl (b65 xs m)⟩
  · exact h.elim
theorem b40 (xs : List (Int × Int)) (m : Int) : body Try.prog [c65] {} false Try.f40 [Ps xs, .clo 55 [] [.lelem [I m] 0]] (.bl (xs.any (upP m) = true) inferInstance) := by
  (repeat' ((conv => whnf); first | (refine Giv.mk fun _ => ?_) | (refine Alt.l (Need.mk ?h ?_); case h => omega) | (refine Alt.r (Need.mk ?h ?_); case h => omega) | (refine Need.mk ?h ?_; case h => first | omega | (intro _; rfl) | assumption | (simp <;> omega)) | refine Ix.zero ?_ | refine Ix.one ?_ | refine Ix.two ?_ | refine Ix.nat ?_ | refine Ix.add ?_ | (apply Go.Eng.Pin.mk; apply Exists.intro) | apply Go.Eng.Pinned.mk rfl rfl | (apply Go.Eng.PinH.mk; apply Exists.intro; apply Exists.intro) | exact Go.Eng.Fin0.mk | refine Go.Eng.Chk.mk ?_ ?_ | refine Own.l ?_ | fail))
  (conv => whnf)
  exact idxOf_pos _ _
def c40 : Con := mkCon 40 false fun args K => match args with | [.seq (.pair (.int .i64) (.int .i64)) xs, .clo 55 [] [.lelem [.val (.int .i64 m)] 0]] => K (.bl (xs.any (upP m) = true) inferInstance) | _ => False
theorem k40 : ConOK Try.prog c40 := by
  refine conOK_of rfl (enters_of Try.func40 (by kernel_rfl) rfl) ?_
  intro args K h
  simp only [c40] at h
  split at h
  · rename_i xs m; exact ⟨_, h, tri_of_body (Γ := [c65]) (by simp [k65]) Try.func40 (by simp [Try.ntmps40]) rfl (b40 xs m)⟩
  · exact h.elim
theorem b17 (xs : List (Int × Int)) (m : Int) : body Try.prog [c40] {} true Try.f17 [Ps xs, I m] (.bl (¬ xs.any (upP m) = true) inferInstance) := by
  (repeat' ((conv => whnf); first | (refine Giv.mk fun _ => ?_) | (refine Alt.l (Need.mk ?h ?_); case h => omega) | (refine Alt.r (Need.mk ?h ?_); case h => omega) | (refine Need.mk ?h ?_; case h => first | omega | (intro _; rfl) | assumption | (simp <;> omega)) | refine Ix.zero ?_ | refine Ix.one ?_ | refine Ix.two ?_ | refine Ix.nat ?_ | refine Ix.add ?_ | (apply Go.Eng.Pin.mk; apply Exists.intro) | apply Go.Eng.Pinned.mk rfl rfl | (apply Go.Eng.PinH.mk; apply Exists.intro; apply Exists.intro) | exact Go.Eng.Fin0.mk | refine Go.Eng.Chk.mk ?_ ?_ | refine Own.l ?_ | fail))
  (conv => whnf)
def c17 : Con := mkCon 17 true fun args K => match args with | [.seq (.pair (.int .i64) (.int .i64)) xs, .val (.int .i64 m)] => K (.bl (¬ xs.any (upP m) = true) inferInstance) | _ => False
theorem k17 : ConOK Try.prog c17 := by
  refine conOK_of rfl (enters_of Try.func17 (by kernel_rfl) rfl) ?_
  intro args K h
  simp only [c17] at h
  split at h
  · rename_i xs m; exact ⟨_, h, tri_of_body (Γ := [c40]) (by simp [k40]) Try.func17 (by simp [Try.ntmps17]) rfl (b17 xs m)⟩
  · exact h.elim
/-- What a rest list says of a member: the site's flag. -/
theorem rest_up (n : Int) (l : List (Int × Int)) (m : Nat) (h : m < n.toNat) : (restL n l).getD m false = l.any (upP m) := by
  show (restN n.toNat l l.length).getD m false = _
  rw [restN_get _ _ _ _ h]
  unfold restB
  rw [List.take_length]; rfl
/-! ### All ones -/
theorem b19 (k : Int) : body Try.prog [] {} true Try.f19 [I k] (.bl (¬ k = 1) inferInstance) := by
  (repeat' ((conv => whnf); first | (refine Giv.mk fun _ => ?_) | (refine Alt.l (Need.mk ?h ?_); case h => omega) | (refine Alt.r (Need.mk ?h ?_); case h => omega) | (refine Need.mk ?h ?_; case h => first | omega | (intro _; rfl) | assumption | (simp <;> omega)) | refine Ix.zero ?_ | refine Ix.one ?_ | refine Ix.two ?_ | refine Ix.nat ?_ | refine Ix.add ?_ | (apply Go.Eng.Pin.mk; apply Exists.intro) | apply Go.Eng.Pinned.mk rfl rfl | (apply Go.Eng.PinH.mk; apply Exists.intro; apply Exists.intro) | exact Go.Eng.Fin0.mk | refine Go.Eng.Chk.mk ?_ ?_ | refine Own.l ?_ | fail))
  (conv => whnf)
def c19 : Con := mkCon 19 true fun args K => match args with | [.val (.int .i64 k)] => K (.bl (¬ k = 1) inferInstance) | _ => False
theorem k19 : ConOK Try.prog c19 := by
  refine conOK_of rfl (enters_of Try.func19 (by kernel_rfl) rfl) ?_
  intro args K h
  simp only [c19] at h
  split at h
  · rename_i k; exact ⟨_, h, tri_of_body (Γ := []) (by simp) Try.func19 (by simp [Try.ntmps19]) rfl (b19 k)⟩
  · exact h.elim
end EB
end
section
set_option linter.unusedVariables false
open Go Go.Proofs Go.Eng Go.Shelf
namespace EB
set_option maxRecDepth 10000
/-! ### An order is accepted -/
def doOne (on : List (List Int)) (rs : List Bool) (c : CS) (x : Int × Int) : CS :=
  if c.err = true then c
  else if ¬ canDo on rs c x then ⟨c.st, c.pr, true⟩
  else if x.1 = 1 then ⟨putW c.st x.2, c.pr, false⟩
  else if x.1 = 2 then ⟨c.st, putW c.pr x.2, false⟩
  else ⟨c.st, takeW c.pr x.2, false⟩
theorem doAt_fold (on : List (List Int)) (rs : List Bool) (n : Int) (S : List (Int × Int)) : ∀ i, i ≤ S.length → doAt on rs n S i = (S.take i).foldl (doOne on rs) ⟨words n, words n, false⟩
  | 0, _ => rfl
  | i + 1, h => by
    rw [doAt_succ, doAt_fold on rs n S i (by omega), take_pair S i h, List.foldl_append]
    rfl
def propsOf (rs : List Bool) (ms : List Int) : List Int := ms.filter fun m => !(rs.getD m.toNat false)
theorem propsOf_in {n : Int} {rs : List Bool} {ms : List Int} (h : InN n ms) : InN n (propsOf rs ms) := fun m hm => h m (List.mem_filter.1 hm).1
theorem in_snoc {n : Int} {ms : List Int} {m : Int} (h : InN n ms) (h0 : 0 ≤ m ∧ m < n) : InN n (ms ++ [m]) := by
  intro x hx
  rcases List.mem_append.1 hx with hx | hx
  · exact h x hx
  · rw [List.mem_singleton.1 hx]; exact h0
theorem do_order {on : List (List Int)} (rs : List Bool) {n : Int} (hn : 0 ≤ n) : ∀ k : Nat, (stepsOf rs (msAt on n k)).foldl (doOne on rs) ⟨words n, words n, false⟩ = ⟨putL (words n) (msAt on n k), putL (words n) (propsOf rs (msAt on n k)), false⟩
  | 0 => rfl
  | k + 1 => by
    have ih := do_order (on := on) rs hn k
    have hin := msAt_in on n k
    rw [msAt_succ]
    split
    · rename_i h0
      rcases nxt_cases on n (msAt on n k) with h | ⟨i, h1, h2, h3, _⟩
      · omega
      rw [h2]
      have hii : 0 ≤ (i : Int) ∧ (i : Int) < n := by omega
      have hni : ¬ (i : Int) ∈ msAt on n k := fun hm => h3.1 ((has_mem hn hin hii.1).2 hm)
      rw [stepsOf_append, List.foldl_append, ih, show stepsOf rs [(i : Int)] = stepOf rs i from List.append_nil _, putL_snoc]
      unfold stepOf
      by_cases hr : rs.getD (i : Int).toNat false = true
      · rw [if_pos hr]
        have hp : propsOf rs (msAt on n k ++ [(i : Int)]) = propsOf rs (msAt on n k) := by
          unfold propsOf; rw [List.filter_append, List.filter_cons_of_neg (by rw [hr]; simp), List.filter_nil, List.append_nil]
        rw [hp]
        have hc : canDo on rs ⟨putL (words n) (msAt on n k), putL (words n) (propsOf rs (msAt on n k)), false⟩ (1, (i : Int)) := by
          unfold canDo; rw [if_pos rfl]; exact ⟨h3, .inl hr⟩
        rw [List.foldl_cons, List.foldl_nil]
        unfold doOne
        rw [if_neg (by simp), if_neg (Classical.not_not.2 hc), if_pos rfl]
      · rw [if_neg hr]
        have hp : propsOf rs (msAt on n k ++ [(i : Int)]) = propsOf rs (msAt on n k) ++ [(i : Int)] := by
          unfold propsOf; rw [List.filter_append, List.filter_cons_of_pos (by rw [Bool.eq_false_iff.2 hr]; rfl), List.filter_nil]
        rw [hp, putL_snoc]
        have hpi := propsOf_in (rs := rs) hin
        have hc : canDo on rs ⟨putL (words n) (msAt on n k), putL (words n) (propsOf rs (msAt on n k)), false⟩ (2, (i : Int)) := by
          unfold canDo; rw [if_neg (show ¬ (2 : Int) = 1 by decide), if_pos rfl]
          exact fun hh => hni (List.mem_filter.1 ((has_mem hn hpi hii.1).1 hh)).1
        have hc2 : canDo on rs ⟨putL (words n) (msAt on n k), putW (putL (words n) (propsOf rs (msAt on n k))) i, false⟩ (1, (i : Int)) := by
          unfold canDo; rw [if_pos rfl]
          refine ⟨h3, .inr ?_⟩
          show hasW (putW (putL (words n) (propsOf rs (msAt on n k))) i) i
          rw [← putL_snoc, has_mem hn (in_snoc hpi hii) hii.1]
          simp
        rw [List.foldl_cons, List.foldl_cons, List.foldl_nil]
        have e1 : doOne on rs ⟨putL (words n) (msAt on n k), putL (words n) (propsOf rs (msAt on n k)), false⟩ (2, (i : Int)) = ⟨putL (words n) (msAt on n k), putW (putL (words n) (propsOf rs (msAt on n k))) i, false⟩ := by
          unfold doOne
          rw [if_neg (by simp), if_neg (Classical.not_not.2 hc), if_neg (show ¬ (2 : Int) = 1 by decide), if_pos rfl]
        rw [e1]
        unfold doOne
        rw [if_neg (by simp), if_neg (Classical.not_not.2 hc2), if_pos rfl]
    · exact ih
theorem steps_mem (rs : List Bool) : ∀ (ms : List Int) (x : Int × Int), x ∈ stepsOf rs ms → (x.1 = 1 ∨ x.1 = 2) ∧ x.2 ∈ ms := by
  intro ms x hx
  unfold stepsOf at hx
  rw [List.mem_flatMap] at hx
  obtain ⟨m, hm, hx⟩ := hx
  unfold stepOf at hx
  split at hx
  · rw [List.mem_singleton] at hx; subst hx; exact ⟨.inl rfl, hm⟩
  · rcases List.mem_cons.1 hx with h | h
    · subst h; exact ⟨.inr rfl, hm⟩
    · rw [List.mem_singleton] at h; subst h; exact ⟨.inl rfl, hm⟩
theorem all_in {n : Int} (hn : 0 ≤ n) {ms : List Int} (h1 : ms.Nodup) (h2 : InN n ms) (h3 : ms.length = n.toNat) {j : Int} (hj : 0 ≤ j ∧ j < n) : j ∈ ms := by
  apply Classical.byContradiction
  intro hne
  have h4 : (ms ++ [j]).Nodup := by
    rw [List.nodup_append]
    refine ⟨h1, by simp, fun a ha b hb => ?_⟩
    rw [List.mem_singleton.1 hb]; rintro rfl; exact hne ha
  have := nodup_len hn h4 (in_snoc h2 hj)
  rw [List.length_append, List.length_singleton] at this
  omega
theorem memsTo_full (ws : List Int) : ∀ k : Nat, (∀ j : Nat, j < k → hasW ws j) → (memsTo ws k).length = k
  | 0, _ => rfl
  | k + 1, h => by rw [memsTo_succ, if_pos (h k (by omega)), List.length_append, memsTo_full ws k fun j hj => h j (by omega)]; rfl
theorem memsTo_grow (ws : List Int) (k : Nat) : ∀ d : Nat, (memsTo ws k).length ≤ (memsTo ws (k + d)).length
  | 0 => Nat.le_refl _
  | d + 1 => by
    have := memsTo_grow ws k d
    rw [← Nat.add_assoc, memsTo_succ]
    split
    · rw [List.length_append]; omega
    · exact this
theorem chkE_zero {n : Int} {S : List (Int × Int)} (hl : S.length ≤ 4096) (h : ∀ x ∈ S, (x.1 = 1 ∨ x.1 = 2 ∨ x.1 = 3) ∧ 0 ≤ x.2 ∧ x.2 < n) : chkE n S = 0 := by
  unfold chkE
  rw [if_neg (by omega), firstE_none]
  intro i hi
  have hm : S.getD i (0, 0) ∈ S := by rw [List.getD_eq_getElem?_getD, List.getElem?_eq_getElem hi]; exact List.getElem_mem hi
  have := h _ hm
  unfold chkAt
  rw [if_neg (by omega), if_neg (by omega)]
/-- What is known of an order that is whole. -/
theorem whole {n : Int} {l : List (Int × Int)} (h : orderErr n l = 0) : supE n l = 0 ∧ orderRes n l = ordL n l ∧ (msAt (onL n l) n n.toNat).length = n.toNat ∧ 0 ≤ n ∧ n ≤ 512 := by
  unfold orderErr at h
  split at h
  · cases h
  rename_i hs
  split at h
  · cases h
  rename_i hr
  have hs := Classical.not_not.1 hs
  obtain ⟨r1, r2, r3, r4⟩ := supE_rests hs
  have hms := msAt_len (onL n l) r2 n.toNat
  have hraise : raisedL (ordL n l) (ordL n l).length = msAt (onL n l) n n.toNat := raised_all _ _
  have hr2 := hr
  rw [raisedIn_eq, hraise] at hr2
  exact ⟨hs, by unfold orderRes; rw [if_pos ⟨hs, hr⟩], by omega, r2, r3⟩
theorem order_chk {n : Int} {l : List (Int × Int)} (h : orderErr n l = 0) : checkE n l (orderRes n l) = 0 := by
  obtain ⟨hs, hS, hfull, r2, r3⟩ := whole h
  have hin := msAt_in (onL n l) n n.toNat
  have hlen : (ordL n l).length ≤ 4096 := by
    have := stepsOf_len (restL n l) (msAt (onL n l) n n.toNat)
    show (stepsOf _ _).length ≤ _
    omega
  have hc : chkE n (ordL n l) = 0 := chkE_zero hlen fun x hx => by
    obtain ⟨h1, h2⟩ := steps_mem _ _ _ hx
    exact ⟨by omega, hin _ h2⟩
  have hd : doAt (onL n l) (restL n l) n (ordL n l) (ordL n l).length = ⟨putL (words n) (msAt (onL n l) n n.toNat), putL (words n) (propsOf (restL n l) (msAt (onL n l) n n.toNat)), false⟩ := by
    rw [doAt_fold _ _ _ _ _ (Nat.le_refl _), List.take_length]
    exact do_order _ r2 n.toNat
  unfold checkE
  rw [hS, if_neg (by rw [hs]; simp), if_neg (by rw [hc]; simp), hd]
  unfold endE
  rw [if_neg (by simp), if_neg]
  have hw := words_len n r2
  have hpl := putL_len (msAt (onL n l) n n.toNat) (words n)
  have h1 := memsTo_full (putL (words n) (msAt (onL n l) n n.toNat)) n.toNat fun j hj => (has_mem r2 hin (by omega)).2 (all_in r2 (msAt_nodup _ r2 _) hin hfull ⟨by omega, by omega⟩)
  obtain ⟨d, hd⟩ := Nat.exists_eq_add_of_le (show n.toNat ≤ 64 * (putL (words n) (msAt (onL n l) n n.toNat)).length by rw [hpl]; omega)
  have h2 := memsTo_grow (putL (words n) (msAt (onL n l) n n.toNat)) n.toNat d
  rw [← hd, h1] at h2
  show ¬ ((memsTo (putL (words n) (msAt (onL n l) n n.toNat)) (64 * (putL (words n) (msAt (onL n l) n n.toNat)).length)).length : Int) < n
  omega
end EB
end
section
set_option linter.unusedVariables false
open Go Go.Proofs Go.Eng Go.Shelf
namespace EB
set_option maxRecDepth 10000
/-! ### The plain law of ErectComplete -/
theorem app_get {α : Type} (A B : List α) (d : α) (i : Nat) : (A ++ B).getD i d = if i < A.length then A.getD i d else B.getD (i - A.length) d := by
  simp only [List.getD_eq_getElem?_getD]
  split
  · rename_i h; rw [List.getElem?_append_left h]
  · rename_i h; rw [List.getElem?_append_right (by omega)]
/-- A prop's step: the member rests on nothing, and is raised at once. A raise's: if it rests on nothing, its prop came just ahead. -/
theorem steps_at (rs : List Bool) : ∀ (ms : List Int) (i : Nat), i < (stepsOf rs ms).length →
    (((stepsOf rs ms).getD i (0, 0)).1 = 2 → rs.getD ((stepsOf rs ms).getD i (0, 0)).2.toNat false = false ∧ i + 1 < (stepsOf rs ms).length ∧ (stepsOf rs ms).getD (i + 1) (0, 0) = (1, ((stepsOf rs ms).getD i (0, 0)).2)) ∧
    (((stepsOf rs ms).getD i (0, 0)).1 = 1 → rs.getD ((stepsOf rs ms).getD i (0, 0)).2.toNat false = false → 0 < i ∧ ((stepsOf rs ms).getD (i - 1) (0, 0)).1 = 2)
  | [], i, h => absurd h (Nat.not_lt_zero _)
  | m :: r, i, h => by
    have e : stepsOf rs (m :: r) = stepOf rs m ++ stepsOf rs r := rfl
    rw [e] at h ⊢
    rw [List.length_append] at h
    simp only [app_get, List.length_append]
    by_cases hr : rs.getD m.toNat false = true
    · have e1 : stepOf rs m = [(1, m)] := by unfold stepOf; rw [if_pos hr]
      rw [e1] at h ⊢
      simp only [List.length_singleton] at h ⊢
      by_cases h0 : i = 0
      · subst h0
        refine ⟨fun hk => ?_, fun _ hf => ?_⟩
        · rw [if_pos (by omega)] at hk; exact absurd hk (by show ¬ (1 : Int) = 2; decide)
        · rw [if_pos (by omega)] at hf
          have hf : rs.getD m.toNat false = false := hf
          rw [hr] at hf; cases hf
      · obtain ⟨p1, p2⟩ := steps_at rs r (i - 1) (by omega)
        rw [if_neg (by omega), if_neg (by omega)]
        refine ⟨fun hk => ?_, fun hk hf => ?_⟩
        · obtain ⟨a, b, c⟩ := p1 hk
          exact ⟨a, by omega, by rw [show i + 1 - 1 = i - 1 + 1 by omega]; exact c⟩
        · obtain ⟨a, b⟩ := p2 hk hf
          exact ⟨by omega, by rw [if_neg (by omega)]; exact b⟩
    · have e1 : stepOf rs m = [(2, m), (1, m)] := by unfold stepOf; rw [if_neg hr]
      have hr' := Bool.eq_false_iff.2 hr
      rw [e1] at h ⊢
      have hl2 : [((2 : Int), m), (1, m)].length = 2 := rfl
      rw [hl2] at h ⊢
      by_cases h0 : i = 0
      · subst h0
        refine ⟨fun _ => ⟨?_, by omega, ?_⟩, fun hk => ?_⟩
        · rw [if_pos (by omega)]; exact hr'
        · rw [if_pos (by omega), if_pos (by omega)]; rfl
        · rw [if_pos (by omega)] at hk; exact absurd hk (by show ¬ (2 : Int) = 1; decide)
      · by_cases h1 : i = 1
        · subst h1
          refine ⟨fun hk => ?_, fun _ _ => ⟨by omega, ?_⟩⟩
          · rw [if_pos (by omega)] at hk; exact absurd hk (by show ¬ (1 : Int) = 2; decide)
          · rw [if_pos (by omega)]; rfl
        · obtain ⟨p1, p2⟩ := steps_at rs r (i - 2) (by omega)
          rw [if_neg (by omega), if_neg (by omega)]
          refine ⟨fun hk => ?_, fun hk hf => ?_⟩
          · obtain ⟨a, b, c⟩ := p1 hk
            exact ⟨a, by omega, by rw [show i + 1 - 2 = i - 2 + 1 by omega]; exact c⟩
          · obtain ⟨a, b⟩ := p2 hk hf
            exact ⟨by omega, by rw [if_neg (by omega), show i - 1 - 2 = i - 2 - 1 by omega]; exact b⟩
end EB
end
section
set_option linter.unusedVariables false
open Go Go.Proofs Go.Eng Go.Shelf
set_option linter.unusedVariables false
namespace EB.Q
set_option maxRecDepth 10000
/-! ### Whether all are ones -/
def notOne (k : Int) : Bool := decide (¬ k = 1)
theorem b56 (xs : List Int) : body Try.prog [c19] { loops := [(0, anIx 8 notOne xs 0)] } false Try.f56 [Ls xs, .clo 19 [] []] (I (idxOf notOne xs)) := by
  (repeat' ((conv => whnf); first | (refine Giv.mk fun _ => ?_) | (refine Alt.l (Need.mk ?h ?_); case h => omega) | (refine Alt.r (Need.mk ?h ?_); case h => omega) | (refine Need.mk ?h ?_; case h => first | omega | (intro _; rfl) | assumption | (simp <;> omega)) | refine Ix.zero ?_ | refine Ix.one ?_ | refine Ix.two ?_ | refine Ix.nat ?_ | refine Ix.add ?_ | (apply Go.Eng.Pin.mk; apply Exists.intro) | apply Go.Eng.Pinned.mk rfl rfl | (apply Go.Eng.PinH.mk; apply Exists.intro; apply Exists.intro) | exact Go.Eng.Fin0.mk | refine Go.Eng.Chk.mk ?_ ?_ | refine Own.l ?_ | fail))
  refine ⟨⟨(0 : Nat), ⟨Nat.zero_le _, fun j hj => absurd hj (Nat.not_lt_zero _)⟩, by (repeat' (first | exact trivial | rfl | exact Nat.one_pos | (refine And.intro ?_ ?_) | omega | ((conv => whnf); (refine And.intro ?_ ?_)) | ((conv => whnf); exact trivial)))⟩, fun (i : Nat) hi => ?_⟩
  obtain ⟨hi, hb⟩ := hi
  (repeat' ((conv => whnf); first | (refine Giv.mk fun _ => ?_) | (refine Alt.l (Need.mk ?h ?_); case h => omega) | (refine Alt.r (Need.mk ?h ?_); case h => omega) | (refine Need.mk ?h ?_; case h => first | omega | (intro _; rfl) | assumption | (simp <;> omega)) | refine Ix.zero ?_ | refine Ix.one ?_ | refine Ix.two ?_ | refine Ix.nat ?_ | refine Ix.add ?_ | (apply Go.Eng.Pin.mk; apply Exists.intro) | apply Go.Eng.Pinned.mk rfl rfl | (apply Go.Eng.PinH.mk; apply Exists.intro; apply Exists.intro) | exact Go.Eng.Fin0.mk | refine Go.Eng.Chk.mk ?_ ?_ | refine Own.l ?_ | fail))
  (refine Br.mk (fun _ => ?_) (fun _ => ?_))
  · have hlt : i < xs.length := by omega
    (repeat' ((conv => whnf); first | (refine Giv.mk fun _ => ?_) | (refine Alt.l (Need.mk ?h ?_); case h => omega) | (refine Alt.r (Need.mk ?h ?_); case h => omega) | (refine Need.mk ?h ?_; case h => first | omega | (intro _; rfl) | assumption | (simp <;> omega)) | refine Ix.zero ?_ | refine Ix.one ?_ | refine Ix.two ?_ | refine Ix.nat ?_ | refine Ix.add ?_ | (apply Go.Eng.Pin.mk; apply Exists.intro) | apply Go.Eng.Pinned.mk rfl rfl | (apply Go.Eng.PinH.mk; apply Exists.intro; apply Exists.intro) | exact Go.Eng.Fin0.mk | refine Go.Eng.Chk.mk ?_ ?_ | refine Own.l ?_ | fail))
    (refine Br.mk (fun _ => ?_) (fun _ => ?_))
    · rename_i hh
      (repeat' ((conv => whnf); first | (refine Giv.mk fun _ => ?_) | (refine Alt.l (Need.mk ?h ?_); case h => omega) | (refine Alt.r (Need.mk ?h ?_); case h => omega) | (refine Need.mk ?h ?_; case h => first | omega | (intro _; rfl) | assumption | (simp <;> omega)) | refine Ix.zero ?_ | refine Ix.one ?_ | refine Ix.two ?_ | refine Ix.nat ?_ | refine Ix.add ?_ | (apply Go.Eng.Pin.mk; apply Exists.intro) | apply Go.Eng.Pinned.mk rfl rfl | (apply Go.Eng.PinH.mk; apply Exists.intro; apply Exists.intro) | exact Go.Eng.Fin0.mk | refine Go.Eng.Chk.mk ?_ ?_ | refine Own.l ?_ | fail))
      (conv => whnf)
      exact ⟨rfl, (idxOf_some 0 hlt (decide_eq_true hh) hb).symm⟩
    · rename_i hh
      (repeat' ((conv => whnf); first | (refine Giv.mk fun _ => ?_) | (refine Alt.l (Need.mk ?h ?_); case h => omega) | (refine Alt.r (Need.mk ?h ?_); case h => omega) | (refine Need.mk ?h ?_; case h => first | omega | (intro _; rfl) | assumption | (simp <;> omega)) | refine Ix.zero ?_ | refine Ix.one ?_ | refine Ix.two ?_ | refine Ix.nat ?_ | refine Ix.add ?_ | (apply Go.Eng.Pin.mk; apply Exists.intro) | apply Go.Eng.Pinned.mk rfl rfl | (apply Go.Eng.PinH.mk; apply Exists.intro; apply Exists.intro) | exact Go.Eng.Fin0.mk | refine Go.Eng.Chk.mk ?_ ?_ | refine Own.l ?_ | fail))
      refine ⟨(i + 1 : Nat), by show xs.length - (i + 1) < xs.length - i; omega, ⟨hlt, fun j hj => ?_⟩, by (repeat' (first | exact trivial | rfl | exact Nat.one_pos | (refine And.intro ?_ ?_) | omega | ((conv => whnf); (refine And.intro ?_ ?_)) | ((conv => whnf); exact trivial)))⟩
      by_cases e : j = i
      · subst e; exact decide_eq_false hh
      · exact hb j (by omega)
  · have hii : i = xs.length := by omega
    subst hii
    (repeat' ((conv => whnf); first | (refine Giv.mk fun _ => ?_) | (refine Alt.l (Need.mk ?h ?_); case h => omega) | (refine Alt.r (Need.mk ?h ?_); case h => omega) | (refine Need.mk ?h ?_; case h => first | omega | (intro _; rfl) | assumption | (simp <;> omega)) | refine Ix.zero ?_ | refine Ix.one ?_ | refine Ix.two ?_ | refine Ix.nat ?_ | refine Ix.add ?_ | (apply Go.Eng.Pin.mk; apply Exists.intro) | apply Go.Eng.Pinned.mk rfl rfl | (apply Go.Eng.PinH.mk; apply Exists.intro; apply Exists.intro) | exact Go.Eng.Fin0.mk | refine Go.Eng.Chk.mk ?_ ?_ | refine Own.l ?_ | fail))
    (conv => whnf)
    exact ⟨rfl, (idxOf_none 0 hb).symm⟩
def c56 : Con := mkCon 56 false fun args K => match args with | [.seq (.int .i64) xs, .clo 19 [] []] => K (I (idxOf notOne xs)) | _ => False
theorem k56 : ConOK Try.prog c56 := by
  refine conOK_of rfl (enters_of Try.func56 (by kernel_rfl) rfl) ?_
  intro args K h
  simp only [c56] at h
  split at h
  · rename_i xs; exact ⟨_, h, tri_of_body (Γ := [c19]) (by simp [k19]) Try.func56 (by simp [Try.ntmps56]) rfl (b56 xs)⟩
  · exact h.elim
theorem b18 (xs : List Int) : body Try.prog [c56] {} false Try.f18 [Ls xs, .clo 19 [] []] (.bl (xs.any notOne = true) inferInstance) := by
  (repeat' ((conv => whnf); first | (refine Giv.mk fun _ => ?_) | (refine Alt.l (Need.mk ?h ?_); case h => omega) | (refine Alt.r (Need.mk ?h ?_); case h => omega) | (refine Need.mk ?h ?_; case h => first | omega | (intro _; rfl) | assumption | (simp <;> omega)) | refine Ix.zero ?_ | refine Ix.one ?_ | refine Ix.two ?_ | refine Ix.nat ?_ | refine Ix.add ?_ | (apply Go.Eng.Pin.mk; apply Exists.intro) | apply Go.Eng.Pinned.mk rfl rfl | (apply Go.Eng.PinH.mk; apply Exists.intro; apply Exists.intro) | exact Go.Eng.Fin0.mk | refine Go.Eng.Chk.mk ?_ ?_ | refine Own.l ?_ | fail))
  (conv => whnf)
  exact idxOf_pos _ _
def c18 : Con := mkCon 18 false fun args K => match args with | [.seq (.int .i64) xs, .clo 19 [] []] => K (.bl (xs.any notOne = true) inferInstance) | _ => False
theorem k18 : ConOK Try.prog c18 := by
  refine conOK_of rfl (enters_of Try.func18 (by kernel_rfl) rfl) ?_
  intro args K h
  simp only [c18] at h
  split at h
  · rename_i xs; exact ⟨_, h, tri_of_body (Γ := [c56]) (by simp [k56]) Try.func18 (by simp [Try.ntmps18]) rfl (b18 xs)⟩
  · exact h.elim
end EB.Q
end
section
set_option linter.unusedVariables false
open Go Go.Proofs Go.Eng Go.Shelf
set_option linter.unusedVariables false
namespace EB
set_option maxRecDepth 10000
/-! ### How often each member is raised -/
def cntN (n : Nat) (ms : List Int) : List Int := (List.range n).map fun m : Nat => (ms.count (m : Int) : Int)
theorem cntN_len (n : Nat) (ms : List Int) : (cntN n ms).length = n := by simp [cntN]
theorem cntN_get (n : Nat) (ms : List Int) (m : Nat) (h : m < n) : (cntN n ms).getD m 0 = ms.count (m : Int) := by simp [cntN, List.getD_eq_getElem?_getD, h]
theorem cntN_nil (n : Nat) : cntN n [] = List.replicate n 0 := by
  apply List.ext_getElem <;> simp [cntN]
theorem cntN_step (n : Nat) (ms : List Int) (x : Int) (hx : 0 ≤ x ∧ x < n) : (cntN n ms).set x.toNat ((cntN n ms).getD x.toNat 0 + 1) = cntN n (ms ++ [x]) := by
  have hxn : x.toNat < n := by omega
  apply List.ext_getElem?
  intro m
  rw [List.getElem?_set, cntN_len, cntN_get _ _ _ hxn]
  by_cases e : x.toNat = m
  · subst e
    rw [if_pos rfl, if_pos hxn]
    have e1 : ((x.toNat : Nat) : Int) = x := by omega
    simp only [cntN, List.getElem?_map, List.getElem?_range hxn, Option.map_some, e1, List.count_append, List.count_singleton_self]
    rfl
  · rw [if_neg e]
    by_cases hm : m < n
    · have e1 : ¬ x = (m : Int) := by omega
      simp only [cntN, List.getElem?_map, List.getElem?_range hm, Option.map_some, List.count_append]
      rw [List.count_singleton]
      simp [e1]
    · rw [List.getElem?_eq_none (by rw [cntN_len]; omega), List.getElem?_eq_none (by rw [cntN_len]; omega)]
end EB
end
section
set_option linter.unusedVariables false
open Go Go.Proofs Go.Eng Go.Shelf
set_option linter.unusedVariables false
namespace EB
set_option maxRecDepth 10000
/-! ### The plain law of ErectComplete -/
/-- What the laws have of a whole order. -/
structure Whole (n : Int) (l S : List (Int × Int)) : Prop where
  n0 : 0 ≤ n
  n1 : n ≤ 512
  sup : supE n l = 0
  chk : checkE n l S = 0
  len : S.length ≤ 1024
  at_ : ∀ i, i < S.length → ((S.getD i (0, 0)).1 = 1 ∨ (S.getD i (0, 0)).1 = 2) ∧ 0 ≤ (S.getD i (0, 0)).2 ∧ (S.getD i (0, 0)).2 < n
  prop_ : ∀ i, i < S.length → (S.getD i (0, 0)).1 = 2 → ¬ l.any (upP (S.getD i (0, 0)).2) = true ∧ i + 1 < S.length ∧ S.getD (i + 1) (0, 0) = (1, (S.getD i (0, 0)).2)
  raise : ∀ i, i < S.length → (S.getD i (0, 0)).1 = 1 → ¬ l.any (upP (S.getD i (0, 0)).2) = true → 0 < i ∧ (S.getD (i - 1) (0, 0)).1 = 2
  once : ∀ m : Int, 0 ≤ m → m < n → (raisedL S S.length).count m = 1
theorem whole_ord {n : Int} {l : List (Int × Int)} (h : orderErr n l = 0) : Whole n l (orderRes n l) := by
  obtain ⟨hs, hS, hfull, r2, r3⟩ := whole h
  have hin := msAt_in (onL n l) n n.toNat
  have hnd := msAt_nodup (onL n l) r2 n.toNat
  have hmem : ∀ i, i < (ordL n l).length → (((ordL n l).getD i (0, 0)).1 = 1 ∨ ((ordL n l).getD i (0, 0)).1 = 2) ∧ 0 ≤ ((ordL n l).getD i (0, 0)).2 ∧ ((ordL n l).getD i (0, 0)).2 < n := fun i hi => by
    have hm : (ordL n l).getD i (0, 0) ∈ ordL n l := by rw [List.getD_eq_getElem?_getD, List.getElem?_eq_getElem hi]; exact List.getElem_mem hi
    obtain ⟨h1, h2⟩ := steps_mem _ _ _ hm
    exact ⟨h1, hin _ h2⟩
  have hup : ∀ i, i < (ordL n l).length → (restL n l).getD ((ordL n l).getD i (0, 0)).2.toNat false = l.any (upP ((ordL n l).getD i (0, 0)).2) := fun i hi => by
    obtain ⟨_, h1, h2⟩ := hmem i hi
    rw [rest_up n l _ (by omega), Int.toNat_of_nonneg h1]
  have hck := order_chk h
  rw [hS] at hck ⊢
  refine ⟨r2, r3, hs, hck, ?_, hmem, fun i hi hk => ?_, fun i hi hk hl => ?_, fun m h0 h1 => ?_⟩
  · have := stepsOf_len (restL n l) (msAt (onL n l) n n.toNat)
    show (stepsOf _ _).length ≤ _
    omega
  · obtain ⟨a, b, c⟩ := (steps_at (restL n l) (msAt (onL n l) n n.toNat) i hi).1 hk
    have a : (restL n l).getD ((ordL n l).getD i (0, 0)).2.toNat false = false := a
    rw [hup i hi] at a
    exact ⟨by rw [a]; simp, b, c⟩
  · refine (steps_at (restL n l) (msAt (onL n l) n n.toNat) i hi).2 hk ?_
    show (restL n l).getD ((ordL n l).getD i (0, 0)).2.toNat false = false
    rw [hup i hi]; exact Bool.eq_false_iff.2 hl
  · have hraise : raisedL (ordL n l) (ordL n l).length = msAt (onL n l) n n.toNat := raised_all _ _
    rw [hraise]
    exact hnd.count.trans (if_pos (all_in r2 hnd hin hfull ⟨h0, h1⟩))
theorem Whole.ones {n : Int} {l S : List (Int × Int)} (h : Whole n l S) : ¬ (cntN n.toNat (raisedL S S.length)).any Q.notOne = true := by
  rw [Bool.not_eq_true, List.any_eq_false]
  intro x hx
  unfold cntN at hx
  rw [List.mem_map] at hx
  obtain ⟨m, hm, rfl⟩ := hx
  rw [List.mem_range] at hm
  rw [h.once m (by omega) (by omega)]
  decide
theorem cntN_bound (S : List (Int × Int)) (n i m : Nat) (hm : m < n) (hs : S.length ≤ 1024) : 0 ≤ (cntN n (raisedL S i)).getD m 0 ∧ (cntN n (raisedL S i)).getD m 0 ≤ 1024 := by
  rw [cntN_get _ _ _ hm]
  have h1 := raisedL_len S i
  have h2 := List.count_le_length (a := (m : Int)) (l := raisedL S i)
  omega
theorem b4 (s : Int) (l : List (Int × Int)) (hs : inK .u8 s) : body Try.prog [c12, c13, c16, c17, Q.c18] { asks := [(0, [])] } true Try.f4 [.val (.int .u8 s), Ps l] (.val (.bool true)) := by
  have h1 : 0 ≤ s := by have := hs.1; simpa [lo] using this
  have h2 : s ≤ 255 := by have := hs.2; simpa [hi] using this
  (repeat' ((conv => whnf); first | (refine Giv.mk fun _ => ?_) | (refine Alt.l (Need.mk ?h ?_); case h => omega) | (refine Alt.r (Need.mk ?h ?_); case h => omega) | (refine Need.mk ?h ?_; case h => first | omega | (intro _; rfl) | assumption | (simp <;> omega)) | refine Ix.zero ?_ | refine Ix.one ?_ | refine Ix.two ?_ | refine Ix.nat ?_ | refine Ix.add ?_ | (apply Go.Eng.Pin.mk; apply Exists.intro) | apply Go.Eng.Pinned.mk rfl rfl | (apply Go.Eng.PinH.mk; apply Exists.intro; apply Exists.intro) | exact Go.Eng.Fin0.mk | refine Go.Eng.Chk.mk ?_ ?_ | refine Own.l ?_ | fail))
  (refine Br.mk (fun _ => ?_) (fun _ => ?_))
  · (repeat' ((conv => whnf); first | (refine Giv.mk fun _ => ?_) | (refine Alt.l (Need.mk ?h ?_); case h => omega) | (refine Alt.r (Need.mk ?h ?_); case h => omega) | (refine Need.mk ?h ?_; case h => first | omega | (intro _; rfl) | assumption | (simp <;> omega)) | refine Ix.zero ?_ | refine Ix.one ?_ | refine Ix.two ?_ | refine Ix.nat ?_ | refine Ix.add ?_ | (apply Go.Eng.Pin.mk; apply Exists.intro) | apply Go.Eng.Pinned.mk rfl rfl | (apply Go.Eng.PinH.mk; apply Exists.intro; apply Exists.intro) | exact Go.Eng.Fin0.mk | refine Go.Eng.Chk.mk ?_ ?_ | refine Own.l ?_ | fail))
    (conv => whnf)
  · rename_i hok
    have hok := Classical.not_not.1 hok
    have hw := whole_ord hok.2
    have hr12 : res12 s l = orderRes (n12 s) l := by unfold res12; rw [if_pos hok.1]
    rw [← hr12] at hw
    obtain ⟨w0, w1, w2, w3, w4, w5, w6, w7, w8⟩ := id hw
    (repeat' ((conv => whnf); first | (refine Giv.mk fun _ => ?_) | (refine Alt.l (Need.mk ?h ?_); case h => omega) | (refine Alt.r (Need.mk ?h ?_); case h => omega) | (refine Need.mk ?h ?_; case h => first | omega | (intro _; rfl) | assumption | (simp <;> omega)) | refine Ix.zero ?_ | refine Ix.one ?_ | refine Ix.two ?_ | refine Ix.nat ?_ | refine Ix.add ?_ | (apply Go.Eng.Pin.mk; apply Exists.intro) | apply Go.Eng.Pinned.mk rfl rfl | (apply Go.Eng.PinH.mk; apply Exists.intro; apply Exists.intro) | exact Go.Eng.Fin0.mk | refine Go.Eng.Chk.mk ?_ ?_ | refine Own.l ?_ | fail))
    refine Br.mkN (fun e => e w3) ?_
    (repeat' ((conv => whnf); first | (refine Giv.mk fun _ => ?_) | (refine Alt.l (Need.mk ?h ?_); case h => omega) | (refine Alt.r (Need.mk ?h ?_); case h => omega) | (refine Need.mk ?h ?_; case h => first | omega | (intro _; rfl) | assumption | (simp <;> omega)) | refine Ix.zero ?_ | refine Ix.one ?_ | refine Ix.two ?_ | refine Ix.nat ?_ | refine Ix.add ?_ | (apply Go.Eng.Pin.mk; apply Exists.intro) | apply Go.Eng.Pinned.mk rfl rfl | (apply Go.Eng.PinH.mk; apply Exists.intro; apply Exists.intro) | exact Go.Eng.Fin0.mk | refine Go.Eng.Chk.mk ?_ ?_ | refine Own.l ?_ | fail))
    refine Need.mk (show 0 ≤ n12 s ∧ n12 s ≤ n12 s ∧ n12 s ≤ 140737488355328 ∧ n12 s * ((8 : Nat) : Int) ≤ 140737488355328 by omega) ?_
    (repeat' ((conv => whnf); first | (refine Giv.mk fun _ => ?_) | (refine Alt.l (Need.mk ?h ?_); case h => omega) | (refine Alt.r (Need.mk ?h ?_); case h => omega) | (refine Need.mk ?h ?_; case h => first | omega | (intro _; rfl) | assumption | (simp <;> omega)) | refine Ix.zero ?_ | refine Ix.one ?_ | refine Ix.two ?_ | refine Ix.nat ?_ | refine Ix.add ?_ | (apply Go.Eng.Pin.mk; apply Exists.intro) | apply Go.Eng.Pinned.mk rfl rfl | (apply Go.Eng.PinH.mk; apply Exists.intro; apply Exists.intro) | exact Go.Eng.Fin0.mk | refine Go.Eng.Chk.mk ?_ ?_ | refine Own.l ?_ | fail))
    refine Ask.mk ⟨{ X := Nat, pre := fun i => i ≤ (res12 s l).length, mod := fun i _ => [(30, I i)], heap := fun i _ => [.vec 1 (.int .i64) (cntN (n12 s).toNat (raisedL (res12 s l) i)) 3], mu := fun i => (res12 s l).length - i }, rfl, ?_⟩
    (repeat' ((conv => whnf); first | (refine Giv.mk fun _ => ?_) | (refine Alt.l (Need.mk ?h ?_); case h => omega) | (refine Alt.r (Need.mk ?h ?_); case h => omega) | (refine Need.mk ?h ?_; case h => first | omega | (intro _; rfl) | assumption | (simp <;> omega)) | refine Ix.zero ?_ | refine Ix.one ?_ | refine Ix.two ?_ | refine Ix.nat ?_ | refine Ix.add ?_ | (apply Go.Eng.Pin.mk; apply Exists.intro) | apply Go.Eng.Pinned.mk rfl rfl | (apply Go.Eng.PinH.mk; apply Exists.intro; apply Exists.intro) | exact Go.Eng.Fin0.mk | refine Go.Eng.Chk.mk ?_ ?_ | refine Own.l ?_ | fail))
    refine ⟨⟨(0 : Nat), Nat.zero_le _, ?_⟩, fun (i : Nat) (hi : i ≤ (res12 s l).length) => ?_⟩
    · (repeat' (first | exact trivial | rfl | exact Nat.one_pos | (refine And.intro ?_ ?_) | omega | ((conv => whnf); (refine And.intro ?_ ?_)) | ((conv => whnf); exact trivial)))
      exact (cntN_nil _).symm
    · (repeat' ((conv => whnf); first | (refine Giv.mk fun _ => ?_) | (refine Alt.l (Need.mk ?h ?_); case h => omega) | (refine Alt.r (Need.mk ?h ?_); case h => omega) | (refine Need.mk ?h ?_; case h => first | omega | (intro _; rfl) | assumption | (simp <;> omega)) | refine Ix.zero ?_ | refine Ix.one ?_ | refine Ix.two ?_ | refine Ix.nat ?_ | refine Ix.add ?_ | (apply Go.Eng.Pin.mk; apply Exists.intro) | apply Go.Eng.Pinned.mk rfl rfl | (apply Go.Eng.PinH.mk; apply Exists.intro; apply Exists.intro) | exact Go.Eng.Fin0.mk | refine Go.Eng.Chk.mk ?_ ?_ | refine Own.l ?_ | fail))
      (refine Br.mk (fun _ => ?_) (fun _ => ?_))
      · have hlt : i < (res12 s l).length := by omega
        have hsu := raisedL_succ (res12 s l) i hlt
        obtain ⟨q1, q2, q3⟩ := w5 i hlt
        have hmn : ((res12 s l).getD i (0, 0)).2.toNat < (n12 s).toNat := by omega
        have hcl := cntN_len (n12 s).toNat (raisedL (res12 s l) i)
        have hcb := cntN_bound (res12 s l) (n12 s).toNat i _ hmn w4
        have hcs := cntN_step (n12 s).toNat (raisedL (res12 s l) i) ((res12 s l).getD i (0, 0)).2 ⟨by omega, by omega⟩
        rcases q1 with k | k
        · rw [if_pos k] at hsu
          rw [← hsu] at hcs
          (repeat' ((conv => whnf); first | (refine Giv.mk fun _ => ?_) | (refine Alt.l (Need.mk ?h ?_); case h => omega) | (refine Alt.r (Need.mk ?h ?_); case h => omega) | (refine Need.mk ?h ?_; case h => first | omega | (intro _; rfl) | assumption | (simp <;> omega)) | refine Ix.zero ?_ | refine Ix.one ?_ | refine Ix.two ?_ | refine Ix.nat ?_ | refine Ix.add ?_ | (apply Go.Eng.Pin.mk; apply Exists.intro) | apply Go.Eng.Pinned.mk rfl rfl | (apply Go.Eng.PinH.mk; apply Exists.intro; apply Exists.intro) | exact Go.Eng.Fin0.mk | refine Go.Eng.Chk.mk ?_ ?_ | refine Own.l ?_ | (refine Br.mkY ?h ?_; case h => first | omega | assumption) | (refine Br.mkN ?h ?_; case h => first | omega | assumption | exact not_not_intro (by assumption)) | fail))
          refine ix_at ((res12 s l).getD i (0, 0)).2.toNat (by omega) ?_
          (repeat' ((conv => whnf); first | (refine Giv.mk fun _ => ?_) | (refine Alt.l (Need.mk ?h ?_); case h => omega) | (refine Alt.r (Need.mk ?h ?_); case h => omega) | (refine Need.mk ?h ?_; case h => first | omega | (intro _; rfl) | assumption | (simp <;> omega)) | refine Ix.zero ?_ | refine Ix.one ?_ | refine Ix.two ?_ | refine Ix.nat ?_ | refine Ix.add ?_ | (apply Go.Eng.Pin.mk; apply Exists.intro) | apply Go.Eng.Pinned.mk rfl rfl | (apply Go.Eng.PinH.mk; apply Exists.intro; apply Exists.intro) | exact Go.Eng.Fin0.mk | refine Go.Eng.Chk.mk ?_ ?_ | refine Own.l ?_ | (refine Br.mkY ?h ?_; case h => first | omega | assumption) | (refine Br.mkN ?h ?_; case h => first | omega | assumption | exact not_not_intro (by assumption)) | fail))
          refine ix_at ((res12 s l).getD i (0, 0)).2.toNat (by omega) ?_
          (repeat' ((conv => whnf); first | (refine Giv.mk fun _ => ?_) | (refine Alt.l (Need.mk ?h ?_); case h => omega) | (refine Alt.r (Need.mk ?h ?_); case h => omega) | (refine Need.mk ?h ?_; case h => first | omega | (intro _; rfl) | assumption | (simp <;> omega)) | refine Ix.zero ?_ | refine Ix.one ?_ | refine Ix.two ?_ | refine Ix.nat ?_ | refine Ix.add ?_ | (apply Go.Eng.Pin.mk; apply Exists.intro) | apply Go.Eng.Pinned.mk rfl rfl | (apply Go.Eng.PinH.mk; apply Exists.intro; apply Exists.intro) | exact Go.Eng.Fin0.mk | refine Go.Eng.Chk.mk ?_ ?_ | refine Own.l ?_ | (refine Br.mkY ?h ?_; case h => first | omega | assumption) | (refine Br.mkN ?h ?_; case h => first | omega | assumption | exact not_not_intro (by assumption)) | fail))
          (refine Br.mk (fun _ => ?_) (fun _ => ?_))
          · rename_i hu
            obtain ⟨p1, p2⟩ := w7 i hlt k hu
            have hi1 : (i : Int) - 1 = ((i - 1 : Nat) : Int) := by omega
            (repeat' ((conv => whnf); first | (refine Giv.mk fun _ => ?_) | (refine Alt.l (Need.mk ?h ?_); case h => omega) | (refine Alt.r (Need.mk ?h ?_); case h => omega) | (refine Need.mk ?h ?_; case h => first | omega | (intro _; rfl) | assumption | (simp <;> omega)) | refine Ix.zero ?_ | refine Ix.one ?_ | refine Ix.two ?_ | refine Ix.nat ?_ | refine Ix.add ?_ | (apply Go.Eng.Pin.mk; apply Exists.intro) | apply Go.Eng.Pinned.mk rfl rfl | (apply Go.Eng.PinH.mk; apply Exists.intro; apply Exists.intro) | exact Go.Eng.Fin0.mk | refine Go.Eng.Chk.mk ?_ ?_ | refine Own.l ?_ | (refine Br.mkY ?h ?_; case h => first | omega | assumption) | (refine Br.mkN ?h ?_; case h => first | omega | assumption | exact not_not_intro (by assumption)) | fail))
            refine ix_at (i - 1) hi1 ?_
            (repeat' ((conv => whnf); first | (refine Giv.mk fun _ => ?_) | (refine Alt.l (Need.mk ?h ?_); case h => omega) | (refine Alt.r (Need.mk ?h ?_); case h => omega) | (refine Need.mk ?h ?_; case h => first | omega | (intro _; rfl) | assumption | (simp <;> omega)) | refine Ix.zero ?_ | refine Ix.one ?_ | refine Ix.two ?_ | refine Ix.nat ?_ | refine Ix.add ?_ | (apply Go.Eng.Pin.mk; apply Exists.intro) | apply Go.Eng.Pinned.mk rfl rfl | (apply Go.Eng.PinH.mk; apply Exists.intro; apply Exists.intro) | exact Go.Eng.Fin0.mk | refine Go.Eng.Chk.mk ?_ ?_ | refine Own.l ?_ | (refine Br.mkY ?h ?_; case h => first | omega | assumption) | (refine Br.mkN ?h ?_; case h => first | omega | assumption | exact not_not_intro (by assumption)) | fail))
            refine ⟨(i + 1 : Nat), by show (res12 s l).length - (i + 1) < (res12 s l).length - i; omega, hlt, ?_⟩
            (repeat' (first | exact trivial | rfl | exact Nat.one_pos | (refine And.intro ?_ ?_) | omega | ((conv => whnf); (refine And.intro ?_ ?_)) | ((conv => whnf); exact trivial)))
            exact hcs
          · (repeat' ((conv => whnf); first | (refine Giv.mk fun _ => ?_) | (refine Alt.l (Need.mk ?h ?_); case h => omega) | (refine Alt.r (Need.mk ?h ?_); case h => omega) | (refine Need.mk ?h ?_; case h => first | omega | (intro _; rfl) | assumption | (simp <;> omega)) | refine Ix.zero ?_ | refine Ix.one ?_ | refine Ix.two ?_ | refine Ix.nat ?_ | refine Ix.add ?_ | (apply Go.Eng.Pin.mk; apply Exists.intro) | apply Go.Eng.Pinned.mk rfl rfl | (apply Go.Eng.PinH.mk; apply Exists.intro; apply Exists.intro) | exact Go.Eng.Fin0.mk | refine Go.Eng.Chk.mk ?_ ?_ | refine Own.l ?_ | (refine Br.mkY ?h ?_; case h => first | omega | assumption) | (refine Br.mkN ?h ?_; case h => first | omega | assumption | exact not_not_intro (by assumption)) | fail))
            refine ⟨(i + 1 : Nat), by show (res12 s l).length - (i + 1) < (res12 s l).length - i; omega, hlt, ?_⟩
            (repeat' (first | exact trivial | rfl | exact Nat.one_pos | (refine And.intro ?_ ?_) | omega | ((conv => whnf); (refine And.intro ?_ ?_)) | ((conv => whnf); exact trivial)))
            exact hcs
        · rw [if_neg (by omega)] at hsu
          obtain ⟨p1, p2, p3⟩ := w6 i hlt k
          have p4 : ((res12 s l).getD (i + 1) (0, 0)).1 = 1 ∧ ((res12 s l).getD (i + 1) (0, 0)).2 = ((res12 s l).getD i (0, 0)).2 := by rw [p3]; exact ⟨rfl, rfl⟩
          (repeat' ((conv => whnf); first | (refine Giv.mk fun _ => ?_) | (refine Alt.l (Need.mk ?h ?_); case h => omega) | (refine Alt.r (Need.mk ?h ?_); case h => omega) | (refine Need.mk ?h ?_; case h => first | omega | (intro _; rfl) | assumption | (simp <;> omega)) | refine Ix.zero ?_ | refine Ix.one ?_ | refine Ix.two ?_ | refine Ix.nat ?_ | refine Ix.add ?_ | (apply Go.Eng.Pin.mk; apply Exists.intro) | apply Go.Eng.Pinned.mk rfl rfl | (apply Go.Eng.PinH.mk; apply Exists.intro; apply Exists.intro) | exact Go.Eng.Fin0.mk | refine Go.Eng.Chk.mk ?_ ?_ | refine Own.l ?_ | (refine Br.mkY ?h ?_; case h => first | omega | assumption) | (refine Br.mkN ?h ?_; case h => first | omega | assumption | exact not_not_intro (by assumption)) | fail))
          refine ⟨(i + 1 : Nat), by show (res12 s l).length - (i + 1) < (res12 s l).length - i; omega, hlt, ?_⟩
          (repeat' (first | exact trivial | rfl | exact Nat.one_pos | (refine And.intro ?_ ?_) | omega | ((conv => whnf); (refine And.intro ?_ ?_)) | ((conv => whnf); exact trivial)))
          exact congrArg (cntN (n12 s).toNat) hsu.symm
      · have hii : i = (res12 s l).length := by omega
        subst hii
        have w9 := hw.ones
        (repeat' ((conv => whnf); first | (refine Giv.mk fun _ => ?_) | (refine Alt.l (Need.mk ?h ?_); case h => omega) | (refine Alt.r (Need.mk ?h ?_); case h => omega) | (refine Need.mk ?h ?_; case h => first | omega | (intro _; rfl) | assumption | (simp <;> omega)) | refine Ix.zero ?_ | refine Ix.one ?_ | refine Ix.two ?_ | refine Ix.nat ?_ | refine Ix.add ?_ | (apply Go.Eng.Pin.mk; apply Exists.intro) | apply Go.Eng.Pinned.mk rfl rfl | (apply Go.Eng.PinH.mk; apply Exists.intro; apply Exists.intro) | exact Go.Eng.Fin0.mk | refine Go.Eng.Chk.mk ?_ ?_ | refine Own.l ?_ | (refine Br.mkY ?h ?_; case h => first | omega | assumption) | (refine Br.mkN ?h ?_; case h => first | omega | assumption | exact not_not_intro (by assumption)) | fail))
        (conv => whnf)
theorem t4 (s : Int) (l : List (Int × Int)) (hs : inK .u8 s) (hl : Okd (.slice Two) l) :
    Tri Try.prog true 4 [.val (.int .u8 s), Ps l] (.val (.bool true)) :=
  tri_of_body (Γ := [c12, c13, c16, c17, Q.c18]) (by simp [k12, k13, k16, k17, Q.k18]) Try.func4 (by simp [Try.ntmps4]) rfl (b4 s l hs)
end EB
end
section
set_option linter.unusedVariables false
open Go Go.Proofs Go.Eng Go.Shelf
set_option linter.unusedVariables false
namespace EB
set_option maxRecDepth 10000
/-! ### What stands behind some steps -/
def wStep (c : List Int × List Int) (x : Int × Int) : List Int × List Int := if x.1 = 1 then (putW c.1 x.2, c.2) else if x.1 = 2 then (c.1, putW c.2 x.2) else (c.1, takeW c.2 x.2)
def wF (n : Int) (T : List (Int × Int)) : List Int × List Int := T.foldl wStep (words n, words n)
def stB (T : List (Int × Int)) (m : Nat) : Bool := T.foldl (fun b x => if x.2 = (m : Int) ∧ x.1 = 1 then true else b) false
def prB (T : List (Int × Int)) (m : Nat) : Bool := T.foldl (fun b x => if x.2 = (m : Int) then (if x.1 = 1 then b else decide (x.1 = 2)) else b) false
def memL (n : Int) (f : Nat → Bool) : List Int := ((List.range n.toNat).filter f).map fun (i : Nat) => (i : Int)
theorem wF_snoc (n : Int) (T : List (Int × Int)) (x : Int × Int) : wF n (T ++ [x]) = wStep (wF n T) x := by simp [wF]
theorem stB_snoc (T : List (Int × Int)) (x : Int × Int) (m : Nat) : stB (T ++ [x]) m = if x.2 = (m : Int) ∧ x.1 = 1 then true else stB T m := by simp [stB]
theorem prB_snoc (T : List (Int × Int)) (x : Int × Int) (m : Nat) : prB (T ++ [x]) m = if x.2 = (m : Int) then (if x.1 = 1 then prB T m else decide (x.1 = 2)) else prB T m := by simp [prB]
/-- Steps that may be. -/
def StepsOk (n : Int) (T : List (Int × Int)) : Prop := ∀ i, i < T.length → (1 ≤ (T.getD i (0, 0)).1 ∧ (T.getD i (0, 0)).1 ≤ 3) ∧ 0 ≤ (T.getD i (0, 0)).2 ∧ (T.getD i (0, 0)).2 < n
structure WF (n : Int) (T : List (Int × Int)) : Prop where
  l1 : ((wF n T).1.length : Int) = (n + 63) / 64
  l2 : ((wF n T).2.length : Int) = (n + 63) / 64
  o1 : WOk (wF n T).1
  o2 : WOk (wF n T).2
  s1 : ∀ j : Nat, hasW (wF n T).1 j ↔ stB T j = true
  s2 : ∀ j : Nat, hasW (wF n T).2 j ↔ prB T j = true
  b1 : ∀ j : Nat, stB T j = true → (j : Int) < n
  b2 : ∀ j : Nat, prB T j = true → (j : Int) < n
theorem wf_nil {n : Int} (hn : 0 ≤ n) : WF n [] := ⟨words_len n hn, words_len n hn, words_ok n, words_ok n, (fun j => ⟨fun h => absurd h (words_none _ _), fun h => nomatch h⟩), (fun j => ⟨fun h => absurd h (words_none _ _), fun h => nomatch h⟩), (fun j h => nomatch h), (fun j h => nomatch h)⟩
theorem takeW_len (ws : List Int) (i : Int) : (takeW ws i).length = ws.length := by simp [takeW]
theorem wf_snoc {n : Int} {T : List (Int × Int)} {x : Int × Int} (h : WF n T) (hx : 0 ≤ x.2 ∧ x.2 < n) (hk : 1 ≤ x.1 ∧ x.1 ≤ 3) : WF n (T ++ [x]) := by
  obtain ⟨l1, l2, o1, o2, s1, s2, b1, b2⟩ := h
  have e : x.2 = (x.2.toNat : Int) := by omega
  have h1 : x.2.toNat / 64 < (wF n T).1.length := by omega
  have h2 : x.2.toNat / 64 < (wF n T).2.length := by omega
  have hw := wF_snoc n T x
  unfold wStep at hw
  by_cases k1 : x.1 = 1
  · rw [if_pos k1] at hw
    refine ⟨by rw [hw]; show ((putW _ _).length : Int) = _; rw [putW_len]; exact l1, by rw [hw]; exact l2, by rw [hw, e]; exact putW_ok o1 _ h1, by rw [hw]; exact o2, fun j => ?_, fun j => ?_, fun j hj => ?_, fun j hj => ?_⟩
    · rw [hw, stB_snoc, e]
      show hasW (putW _ _) _ ↔ _
      rw [hasW_put o1 _ _ h1, s1 j]
      by_cases c : j = x.2.toNat
      · rw [if_pos ⟨by omega, k1⟩]; simp [c]
      · rw [if_neg (by omega)]; simp [c]
    · rw [hw, prB_snoc, s2 j, if_pos k1]; simp
    · rw [stB_snoc] at hj
      split at hj
      · omega
      · exact b1 j hj
    · rw [prB_snoc, if_pos k1] at hj
      simp at hj
      exact b2 j hj
  · rw [if_neg k1] at hw
    by_cases k2 : x.1 = 2
    · rw [if_pos k2] at hw
      refine ⟨by rw [hw]; exact l1, by rw [hw]; show ((putW _ _).length : Int) = _; rw [putW_len]; exact l2, by rw [hw]; exact o1, by rw [hw, e]; exact putW_ok o2 _ h2, fun j => ?_, fun j => ?_, fun j hj => ?_, fun j hj => ?_⟩
      · rw [hw, stB_snoc, if_neg (by omega), s1 j]
      · rw [hw, prB_snoc, e, if_neg k1]
        show hasW (putW _ _) _ ↔ _
        rw [hasW_put o2 _ _ h2, s2 j]
        by_cases c : j = x.2.toNat
        · rw [if_pos (by omega), decide_eq_true k2]; simp [c]
        · rw [if_neg (by omega)]; simp [c]
      · rw [stB_snoc, if_neg (by omega)] at hj
        exact b1 j hj
      · rw [prB_snoc] at hj
        split at hj
        · omega
        · exact b2 j hj
    · rw [if_neg k2] at hw
      refine ⟨by rw [hw]; exact l1, by rw [hw]; show ((takeW _ _).length : Int) = _; rw [takeW_len]; exact l2, by rw [hw]; exact o1, by rw [hw, e]; exact takeW_ok o2 _ h2, fun j => ?_, fun j => ?_, fun j hj => ?_, fun j hj => ?_⟩
      · rw [hw, stB_snoc, if_neg (by omega), s1 j]
      · rw [hw, prB_snoc, e, if_neg k1]
        show hasW (takeW _ _) _ ↔ _
        rw [hasW_take o2 _ _ h2, s2 j]
        by_cases c : j = x.2.toNat
        · rw [if_pos (by omega), decide_eq_false k2]; simp [c]
        · rw [if_neg (by omega)]; simp [c]
      · rw [stB_snoc, if_neg (by omega)] at hj
        exact b1 j hj
      · rw [prB_snoc] at hj
        split at hj
        · omega
        · exact b2 j hj
theorem wf_take {n : Int} (hn : 0 ≤ n) {T : List (Int × Int)} (h : StepsOk n T) : ∀ i, i ≤ T.length → WF n (T.take i)
  | 0, _ => wf_nil hn
  | i + 1, hi => by
    rw [take_pair T i hi]
    exact wf_snoc (wf_take hn h i (by omega)) (h i hi).2 (h i hi).1
theorem wf_all {n : Int} (hn : 0 ≤ n) {T : List (Int × Int)} (h : StepsOk n T) : WF n T := by
  have := wf_take hn h T.length (Nat.le_refl _)
  rwa [List.take_length] at this
theorem memsTo_eq {ws : List Int} {n : Int} (hn : 0 ≤ n) (hl : (ws.length : Int) = (n + 63) / 64) {f : Nat → Bool} (h : ∀ j : Nat, hasW ws j ↔ f j = true) (hb : ∀ j : Nat, f j = true → (j : Int) < n) : memsTo ws (64 * ws.length) = memL n f := by
  unfold memsTo memL
  obtain ⟨d, hd⟩ := Nat.exists_eq_add_of_le (show n.toNat ≤ 64 * ws.length by omega)
  rw [hd, List.range_add, List.filter_append]
  have h1 : (List.range n.toNat).filter (fun (i : Nat) => decide (hasW ws i)) = (List.range n.toNat).filter f := by
    refine List.filter_congr fun j _ => ?_
    rw [Bool.eq_iff_iff, decide_eq_true_iff]; exact h j
  have h2 : ((List.range d).map (n.toNat + ·)).filter (fun (i : Nat) => decide (hasW ws i)) = [] := by
    rw [List.filter_eq_nil_iff]
    intro j hj
    rw [List.mem_map] at hj
    obtain ⟨a, _, rfl⟩ := hj
    rw [decide_eq_true_iff, h]
    intro hf
    have := hb _ hf
    omega
  rw [h1, h2, List.append_nil]
theorem take_ok {n : Int} {S : List (Int × Int)} (h : StepsOk n S) (k : Nat) : StepsOk n (S.take k) := by
  intro i hi
  rw [List.length_take] at hi
  have e : (S.take k).getD i (0, 0) = S.getD i (0, 0) := by
    rw [List.getD_eq_getElem?_getD, List.getD_eq_getElem?_getD, List.getElem?_take_of_lt (by omega)]
  rw [e]
  exact h i (by omega)
def stdE (n : Int) (S : List (Int × Int)) (k : Int) : Int := if n < 0 ∨ 512 < n then 1 else if ¬ chkE n S = 0 then chkE n S else if k < 0 ∨ (S.length : Int) < k then 2 else 0
def stdM (n : Int) (S : List (Int × Int)) (k : Int) : List Int := if stdE n S k = 0 then memL n (stB (S.take k.toNat)) else []
def stdP (n : Int) (S : List (Int × Int)) (k : Int) : List Int := if stdE n S k = 0 then memL n (prB (S.take k.toNat)) else []
theorem std_bad {n k e : Int} {S : List (Int × Int)} (h : e = stdE n S k) (h0 : ¬ e = 0) : [] = stdM n S k ∧ [] = stdP n S k := by
  unfold stdM stdP
  rw [if_neg (by rw [← h]; exact h0), if_neg (by rw [← h]; exact h0)]
  exact ⟨rfl, rfl⟩
theorem b20 (n : Int) (S : List (Int × Int)) (k : Int) : body Try.prog [c46, c47, c51, c53, c54] { asks := [(0, [])] } false Try.f20 [I n, Ps S, I k] (.tup [Ls (stdM n S k), Ls (stdP n S k), I (stdE n S k)]) := by
  have hend : ∀ {e : Int}, e = stdE n S k → ¬ e = 0 → [] = stdM n S k ∧ [] = stdP n S k ∧ e = stdE n S k := fun h h0 => ⟨(std_bad h h0).1, (std_bad h h0).2, h⟩
  (repeat' ((conv => whnf); first | (refine Giv.mk fun _ => ?_) | (refine Alt.l (Need.mk ?h ?_); case h => omega) | (refine Alt.r (Need.mk ?h ?_); case h => omega) | (refine Need.mk ?h ?_; case h => first | omega | (intro _; rfl) | assumption | (simp <;> omega)) | refine Ix.zero ?_ | refine Ix.one ?_ | refine Ix.two ?_ | refine Ix.nat ?_ | refine Ix.add ?_ | (apply Go.Eng.Pin.mk; apply Exists.intro) | apply Go.Eng.Pinned.mk rfl rfl | (apply Go.Eng.PinH.mk; apply Exists.intro; apply Exists.intro) | exact Go.Eng.Fin0.mk | refine Go.Eng.Chk.mk ?_ ?_ | refine Own.l ?_ | fail))
  (repeat' ((conv => whnf); first | (refine Giv.mk fun _ => ?_) | (refine Alt.l (Need.mk ?h ?_); case h => omega) | (refine Alt.r (Need.mk ?h ?_); case h => omega) | (refine Need.mk ?h ?_; case h => first | omega | (intro _; rfl) | assumption | (simp <;> omega)) | refine Ix.zero ?_ | refine Ix.one ?_ | refine Ix.two ?_ | refine Ix.nat ?_ | refine Ix.add ?_ | (apply Go.Eng.Pin.mk; apply Exists.intro) | apply Go.Eng.Pinned.mk rfl rfl | (apply Go.Eng.PinH.mk; apply Exists.intro; apply Exists.intro) | exact Go.Eng.Fin0.mk | refine Go.Eng.Chk.mk ?_ ?_ | refine Own.l ?_ | (refine Br.mkY ?h ?_; case h => first | omega | assumption) | (refine Br.mkN ?h ?_; case h => first | omega | assumption | exact not_not_intro (by assumption)) | (refine Br.mk (fun _ => ?_) (fun _ => ?_)) | fail))
  · have e : (1 : Int) = stdE n S k := by unfold stdE; rw [if_pos (by omega)]
    obtain ⟨e1, e2, e3⟩ := hend e (by omega)
    (conv => whnf)
    (repeat' (first | exact trivial | rfl | exact Nat.one_pos | (refine And.intro ?_ ?_) | ((conv => whnf); (refine And.intro ?_ ?_)) | ((conv => whnf); exact trivial)))
    all_goals assumption
  · have e : (1 : Int) = stdE n S k := by unfold stdE; rw [if_pos (by omega)]
    obtain ⟨e1, e2, e3⟩ := hend e (by omega)
    (conv => whnf)
    (repeat' (first | exact trivial | rfl | exact Nat.one_pos | (refine And.intro ?_ ?_) | ((conv => whnf); (refine And.intro ?_ ?_)) | ((conv => whnf); exact trivial)))
    all_goals assumption
  · rename_i hc
    have e : chkE n S = stdE n S k := by unfold stdE; rw [if_neg (by omega), if_pos hc]
    obtain ⟨e1, e2, e3⟩ := hend e hc
    (conv => whnf)
    (repeat' (first | exact trivial | rfl | exact Nat.one_pos | (refine And.intro ?_ ?_) | ((conv => whnf); (refine And.intro ?_ ?_)) | ((conv => whnf); exact trivial)))
    all_goals assumption
  · rename_i hc _
    have e : 2 = stdE n S k := by unfold stdE; rw [if_neg (by omega), if_neg hc, if_pos (by omega)]
    obtain ⟨e1, e2, e3⟩ := hend e (by omega)
    (conv => whnf)
    (repeat' (first | exact trivial | rfl | exact Nat.one_pos | (refine And.intro ?_ ?_) | ((conv => whnf); (refine And.intro ?_ ?_)) | ((conv => whnf); exact trivial)))
    all_goals assumption
  · rename_i hc _ _ _
    have e : 2 = stdE n S k := by unfold stdE; rw [if_neg (by omega), if_neg hc, if_pos (by omega)]
    obtain ⟨e1, e2, e3⟩ := hend e (by omega)
    (conv => whnf)
    (repeat' (first | exact trivial | rfl | exact Nat.one_pos | (refine And.intro ?_ ?_) | ((conv => whnf); (refine And.intro ?_ ?_)) | ((conv => whnf); exact trivial)))
    all_goals assumption
  · rename_i hc _ _ _
    have hc := Classical.not_not.1 hc
    have hn : 0 ≤ n := by omega
    have hT := take_ok (chkE_ok hn hc) k.toNat
    have hso : stdE n S k = 0 := by unfold stdE; rw [if_neg (by omega), if_neg (not_not_intro hc), if_neg (by omega)]
    refine ix_at k.toNat (by omega) ?_
    (repeat' ((conv => whnf); first | (refine Giv.mk fun _ => ?_) | (refine Alt.l (Need.mk ?h ?_); case h => omega) | (refine Alt.r (Need.mk ?h ?_); case h => omega) | (refine Need.mk ?h ?_; case h => first | omega | (intro _; rfl) | assumption | (simp <;> omega)) | refine Ix.zero ?_ | refine Ix.one ?_ | refine Ix.two ?_ | refine Ix.nat ?_ | refine Ix.add ?_ | (apply Go.Eng.Pin.mk; apply Exists.intro) | apply Go.Eng.Pinned.mk rfl rfl | (apply Go.Eng.PinH.mk; apply Exists.intro; apply Exists.intro) | exact Go.Eng.Fin0.mk | refine Go.Eng.Chk.mk ?_ ?_ | refine Own.l ?_ | fail))
    refine Ask.mk ⟨{ X := Nat, pre := fun i => i ≤ (S.take k.toNat).length, mod := fun i _ => [(42, I i)], heap := fun i _ => [.vec 1 (.int .i64) [] 3, .vec 1 (.int .i64) [] 3, .vec 1 (.int .u64) (wF n ((S.take k.toNat).take i)).1 103, .vec 1 (.int .u64) (wF n ((S.take k.toNat).take i)).2 103], mu := fun i => (S.take k.toNat).length - i }, rfl, ?_⟩
    (repeat' ((conv => whnf); first | (refine Giv.mk fun _ => ?_) | (refine Alt.l (Need.mk ?h ?_); case h => omega) | (refine Alt.r (Need.mk ?h ?_); case h => omega) | (refine Need.mk ?h ?_; case h => first | omega | (intro _; rfl) | assumption | (simp <;> omega)) | refine Ix.zero ?_ | refine Ix.one ?_ | refine Ix.two ?_ | refine Ix.nat ?_ | refine Ix.add ?_ | (apply Go.Eng.Pin.mk; apply Exists.intro) | apply Go.Eng.Pinned.mk rfl rfl | (apply Go.Eng.PinH.mk; apply Exists.intro; apply Exists.intro) | exact Go.Eng.Fin0.mk | refine Go.Eng.Chk.mk ?_ ?_ | refine Own.l ?_ | fail))
    refine ⟨⟨(0 : Nat), Nat.zero_le _, ?_⟩, fun (i : Nat) (hi : i ≤ (S.take k.toNat).length) => ?_⟩
    · (repeat' (first | exact trivial | rfl | exact Nat.one_pos | (refine And.intro ?_ ?_) | omega | ((conv => whnf); (refine And.intro ?_ ?_)) | ((conv => whnf); exact trivial)))
    · obtain ⟨l1, l2, _, _, _, _, _, _⟩ := wf_take hn hT i hi
      (repeat' ((conv => whnf); first | (refine Giv.mk fun _ => ?_) | (refine Alt.l (Need.mk ?h ?_); case h => omega) | (refine Alt.r (Need.mk ?h ?_); case h => omega) | (refine Need.mk ?h ?_; case h => first | omega | (intro _; rfl) | assumption | (simp <;> omega)) | refine Ix.zero ?_ | refine Ix.one ?_ | refine Ix.two ?_ | refine Ix.nat ?_ | refine Ix.add ?_ | (apply Go.Eng.Pin.mk; apply Exists.intro) | apply Go.Eng.Pinned.mk rfl rfl | (apply Go.Eng.PinH.mk; apply Exists.intro; apply Exists.intro) | exact Go.Eng.Fin0.mk | refine Go.Eng.Chk.mk ?_ ?_ | refine Own.l ?_ | fail))
      (refine Br.mk (fun _ => ?_) (fun _ => ?_))
      · have hlt : i < (S.take k.toNat).length := by omega
        obtain ⟨q1, q2, q3⟩ := hT i hlt
        have hsn := wF_snoc n ((S.take k.toNat).take i) ((S.take k.toNat).getD i (0, 0))
        rw [← take_pair _ i hlt] at hsn
        unfold wStep at hsn
        (repeat' ((conv => whnf); first | (refine Giv.mk fun _ => ?_) | (refine Alt.l (Need.mk ?h ?_); case h => omega) | (refine Alt.r (Need.mk ?h ?_); case h => omega) | (refine Need.mk ?h ?_; case h => first | omega | (intro _; rfl) | assumption | (simp <;> omega)) | refine Ix.zero ?_ | refine Ix.one ?_ | refine Ix.two ?_ | refine Ix.nat ?_ | refine Ix.add ?_ | (apply Go.Eng.Pin.mk; apply Exists.intro) | apply Go.Eng.Pinned.mk rfl rfl | (apply Go.Eng.PinH.mk; apply Exists.intro; apply Exists.intro) | exact Go.Eng.Fin0.mk | refine Go.Eng.Chk.mk ?_ ?_ | refine Own.l ?_ | (refine Br.mkY ?h ?_; case h => first | omega | assumption) | (refine Br.mkN ?h ?_; case h => first | omega | assumption | exact not_not_intro (by assumption)) | (refine Br.mk (fun _ => ?_) (fun _ => ?_)) | fail))
        · rename_i k1
          rw [if_pos k1] at hsn
          refine ⟨(i + 1 : Nat), by show (S.take k.toNat).length - (i + 1) < (S.take k.toNat).length - i; omega, hlt, ?_⟩
          (repeat' (first | exact trivial | rfl | exact Nat.one_pos | (refine And.intro ?_ ?_) | omega | ((conv => whnf); (refine And.intro ?_ ?_)) | ((conv => whnf); exact trivial)))
          · exact (congrArg Prod.fst hsn).symm
          · exact (congrArg Prod.snd hsn).symm
        · rename_i k1 k2
          rw [if_neg k1, if_pos k2] at hsn
          refine ⟨(i + 1 : Nat), by show (S.take k.toNat).length - (i + 1) < (S.take k.toNat).length - i; omega, hlt, ?_⟩
          (repeat' (first | exact trivial | rfl | exact Nat.one_pos | (refine And.intro ?_ ?_) | omega | ((conv => whnf); (refine And.intro ?_ ?_)) | ((conv => whnf); exact trivial)))
          · exact (congrArg Prod.fst hsn).symm
          · exact (congrArg Prod.snd hsn).symm
        · rename_i k1 k2
          rw [if_neg k1, if_neg k2] at hsn
          refine ⟨(i + 1 : Nat), by show (S.take k.toNat).length - (i + 1) < (S.take k.toNat).length - i; omega, hlt, ?_⟩
          (repeat' (first | exact trivial | rfl | exact Nat.one_pos | (refine And.intro ?_ ?_) | omega | ((conv => whnf); (refine And.intro ?_ ?_)) | ((conv => whnf); exact trivial)))
          · exact (congrArg Prod.fst hsn).symm
          · exact (congrArg Prod.snd hsn).symm
      · have hii : i = (S.take k.toNat).length := by omega
        have hT2 : (S.take k.toNat).take i = S.take k.toNat := by rw [hii, List.take_length]
        obtain ⟨_, _, _, _, s1, s2, b1, b2⟩ := wf_take hn hT i hi
        have e1 := memsTo_eq hn l1 s1 b1
        have e2 := memsTo_eq hn l2 s2 b2
        rw [hT2] at e1 e2
        (repeat' ((conv => whnf); first | (refine Giv.mk fun _ => ?_) | (refine Alt.l (Need.mk ?h ?_); case h => omega) | (refine Alt.r (Need.mk ?h ?_); case h => omega) | (refine Need.mk ?h ?_; case h => first | omega | (intro _; rfl) | assumption | (simp <;> omega)) | refine Ix.zero ?_ | refine Ix.one ?_ | refine Ix.two ?_ | refine Ix.nat ?_ | refine Ix.add ?_ | (apply Go.Eng.Pin.mk; apply Exists.intro) | apply Go.Eng.Pinned.mk rfl rfl | (apply Go.Eng.PinH.mk; apply Exists.intro; apply Exists.intro) | exact Go.Eng.Fin0.mk | refine Go.Eng.Chk.mk ?_ ?_ | refine Own.l ?_ | (refine Br.mkY ?h ?_; case h => first | omega | assumption) | (refine Br.mkN ?h ?_; case h => first | omega | assumption | exact not_not_intro (by assumption)) | fail))
        (conv => whnf)
        (repeat' (first | exact trivial | rfl | exact Nat.one_pos | (refine And.intro ?_ ?_) | ((conv => whnf); (refine And.intro ?_ ?_)) | ((conv => whnf); exact trivial)))
        · (conv => whnf)
          rw [hT2, e1]; unfold stdM; rw [if_pos hso]
        · (conv => whnf)
          rw [hT2, e2]; unfold stdP; rw [if_pos hso]
        · exact hso.symm
def c20 : Con := mkCon 20 false fun args K => match args with | [.val (.int .i64 n), .seq (.pair (.int .i64) (.int .i64)) S, .val (.int .i64 k)] => K (.tup [Ls (stdM n S k), Ls (stdP n S k), I (stdE n S k)]) | _ => False
theorem k20 : ConOK Try.prog c20 := by
  refine conOK_of rfl (enters_of Try.func20 (by kernel_rfl) rfl) ?_
  intro args K h
  simp only [c20] at h
  split at h
  · rename_i n S k; exact ⟨_, h, tri_of_body (Γ := [c46, c47, c51, c53, c54]) (by simp [k46, k47, k51, k53, k54]) Try.func20 (by simp [Try.ntmps20]) rfl (b20 n S k)⟩
  · exact h.elim
/-! ### slices.Contains -/
def isV (v x : Int) : Bool := decide (x = v)
theorem b57 (xs : List Int) (v : Int) : body Try.prog [] { loops := [(0, anIx 8 (isV v) xs 0)] } true Try.f57 [Ls xs, I v] (I (idxOf (isV v) xs)) := by
  (repeat' ((conv => whnf); first | (refine Giv.mk fun _ => ?_) | (refine Alt.l (Need.mk ?h ?_); case h => omega) | (refine Alt.r (Need.mk ?h ?_); case h => omega) | (refine Need.mk ?h ?_; case h => first | omega | (intro _; rfl) | assumption | (simp <;> omega)) | refine Ix.zero ?_ | refine Ix.one ?_ | refine Ix.two ?_ | refine Ix.nat ?_ | refine Ix.add ?_ | (apply Go.Eng.Pin.mk; apply Exists.intro) | apply Go.Eng.Pinned.mk rfl rfl | (apply Go.Eng.PinH.mk; apply Exists.intro; apply Exists.intro) | exact Go.Eng.Fin0.mk | refine Go.Eng.Chk.mk ?_ ?_ | refine Own.l ?_ | fail))
  refine ⟨⟨(0 : Nat), ⟨Nat.zero_le _, fun j hj => absurd hj (Nat.not_lt_zero _)⟩, by (repeat' (first | exact trivial | rfl | exact Nat.one_pos | (refine And.intro ?_ ?_) | omega | ((conv => whnf); (refine And.intro ?_ ?_)) | ((conv => whnf); exact trivial)))⟩, fun (i : Nat) hi => ?_⟩
  obtain ⟨hi, hb⟩ := hi
  (repeat' ((conv => whnf); first | (refine Giv.mk fun _ => ?_) | (refine Alt.l (Need.mk ?h ?_); case h => omega) | (refine Alt.r (Need.mk ?h ?_); case h => omega) | (refine Need.mk ?h ?_; case h => first | omega | (intro _; rfl) | assumption | (simp <;> omega)) | refine Ix.zero ?_ | refine Ix.one ?_ | refine Ix.two ?_ | refine Ix.nat ?_ | refine Ix.add ?_ | (apply Go.Eng.Pin.mk; apply Exists.intro) | apply Go.Eng.Pinned.mk rfl rfl | (apply Go.Eng.PinH.mk; apply Exists.intro; apply Exists.intro) | exact Go.Eng.Fin0.mk | refine Go.Eng.Chk.mk ?_ ?_ | refine Own.l ?_ | fail))
  (refine Br.mk (fun _ => ?_) (fun _ => ?_))
  · have hlt : i < xs.length := by omega
    (repeat' ((conv => whnf); first | (refine Giv.mk fun _ => ?_) | (refine Alt.l (Need.mk ?h ?_); case h => omega) | (refine Alt.r (Need.mk ?h ?_); case h => omega) | (refine Need.mk ?h ?_; case h => first | omega | (intro _; rfl) | assumption | (simp <;> omega)) | refine Ix.zero ?_ | refine Ix.one ?_ | refine Ix.two ?_ | refine Ix.nat ?_ | refine Ix.add ?_ | (apply Go.Eng.Pin.mk; apply Exists.intro) | apply Go.Eng.Pinned.mk rfl rfl | (apply Go.Eng.PinH.mk; apply Exists.intro; apply Exists.intro) | exact Go.Eng.Fin0.mk | refine Go.Eng.Chk.mk ?_ ?_ | refine Own.l ?_ | fail))
    (refine Br.mk (fun _ => ?_) (fun _ => ?_))
    · rename_i hh
      (repeat' ((conv => whnf); first | (refine Giv.mk fun _ => ?_) | (refine Alt.l (Need.mk ?h ?_); case h => omega) | (refine Alt.r (Need.mk ?h ?_); case h => omega) | (refine Need.mk ?h ?_; case h => first | omega | (intro _; rfl) | assumption | (simp <;> omega)) | refine Ix.zero ?_ | refine Ix.one ?_ | refine Ix.two ?_ | refine Ix.nat ?_ | refine Ix.add ?_ | (apply Go.Eng.Pin.mk; apply Exists.intro) | apply Go.Eng.Pinned.mk rfl rfl | (apply Go.Eng.PinH.mk; apply Exists.intro; apply Exists.intro) | exact Go.Eng.Fin0.mk | refine Go.Eng.Chk.mk ?_ ?_ | refine Own.l ?_ | fail))
      (conv => whnf)
      exact ⟨rfl, (idxOf_some 0 hlt (decide_eq_true (by omega)) hb).symm⟩
    · rename_i hh
      (repeat' ((conv => whnf); first | (refine Giv.mk fun _ => ?_) | (refine Alt.l (Need.mk ?h ?_); case h => omega) | (refine Alt.r (Need.mk ?h ?_); case h => omega) | (refine Need.mk ?h ?_; case h => first | omega | (intro _; rfl) | assumption | (simp <;> omega)) | refine Ix.zero ?_ | refine Ix.one ?_ | refine Ix.two ?_ | refine Ix.nat ?_ | refine Ix.add ?_ | (apply Go.Eng.Pin.mk; apply Exists.intro) | apply Go.Eng.Pinned.mk rfl rfl | (apply Go.Eng.PinH.mk; apply Exists.intro; apply Exists.intro) | exact Go.Eng.Fin0.mk | refine Go.Eng.Chk.mk ?_ ?_ | refine Own.l ?_ | fail))
      refine ⟨(i + 1 : Nat), by show xs.length - (i + 1) < xs.length - i; omega, ⟨hlt, fun j hj => ?_⟩, by (repeat' (first | exact trivial | rfl | exact Nat.one_pos | (refine And.intro ?_ ?_) | omega | ((conv => whnf); (refine And.intro ?_ ?_)) | ((conv => whnf); exact trivial)))⟩
      by_cases e : j = i
      · subst e; exact decide_eq_false (by omega)
      · exact hb j (by omega)
  · have hii : i = xs.length := by omega
    subst hii
    (repeat' ((conv => whnf); first | (refine Giv.mk fun _ => ?_) | (refine Alt.l (Need.mk ?h ?_); case h => omega) | (refine Alt.r (Need.mk ?h ?_); case h => omega) | (refine Need.mk ?h ?_; case h => first | omega | (intro _; rfl) | assumption | (simp <;> omega)) | refine Ix.zero ?_ | refine Ix.one ?_ | refine Ix.two ?_ | refine Ix.nat ?_ | refine Ix.add ?_ | (apply Go.Eng.Pin.mk; apply Exists.intro) | apply Go.Eng.Pinned.mk rfl rfl | (apply Go.Eng.PinH.mk; apply Exists.intro; apply Exists.intro) | exact Go.Eng.Fin0.mk | refine Go.Eng.Chk.mk ?_ ?_ | refine Own.l ?_ | fail))
    (conv => whnf)
    exact ⟨rfl, (idxOf_none 0 hb).symm⟩
def c57 : Con := mkCon 57 true fun args K => match args with | [.seq (.int .i64) xs, .val (.int .i64 v)] => K (I (idxOf (isV v) xs)) | _ => False
theorem k57 : ConOK Try.prog c57 := by
  refine conOK_of rfl (enters_of Try.func57 (by kernel_rfl) rfl) ?_
  intro args K h
  simp only [c57] at h
  split at h
  · rename_i xs v; exact ⟨_, h, tri_of_body (Γ := []) (by simp) Try.func57 (by simp [Try.ntmps57]) rfl (b57 xs v)⟩
  · exact h.elim
theorem any_isV (xs : List Int) (v : Int) : xs.any (isV v) = true ↔ v ∈ xs := by
  rw [List.any_eq_true]
  constructor
  · rintro ⟨x, hx, h⟩
    have := of_decide_eq_true h
    subst this; exact hx
  · intro h; exact ⟨v, h, decide_eq_true rfl⟩
theorem b21 (xs : List Int) (v : Int) : body Try.prog [c57] {} true Try.f21 [Ls xs, I v] (.bl (v ∈ xs) inferInstance) := by
  (repeat' ((conv => whnf); first | (refine Giv.mk fun _ => ?_) | (refine Alt.l (Need.mk ?h ?_); case h => omega) | (refine Alt.r (Need.mk ?h ?_); case h => omega) | (refine Need.mk ?h ?_; case h => first | omega | (intro _; rfl) | assumption | (simp <;> omega)) | refine Ix.zero ?_ | refine Ix.one ?_ | refine Ix.two ?_ | refine Ix.nat ?_ | refine Ix.add ?_ | (apply Go.Eng.Pin.mk; apply Exists.intro) | apply Go.Eng.Pinned.mk rfl rfl | (apply Go.Eng.PinH.mk; apply Exists.intro; apply Exists.intro) | exact Go.Eng.Fin0.mk | refine Go.Eng.Chk.mk ?_ ?_ | refine Own.l ?_ | fail))
  (conv => whnf)
  exact (idxOf_pos _ _).trans (any_isV xs v)
def c21 : Con := mkCon 21 true fun args K => match args with | [.seq (.int .i64) xs, .val (.int .i64 v)] => K (.bl (v ∈ xs) inferInstance) | _ => False
theorem k21 : ConOK Try.prog c21 := by
  refine conOK_of rfl (enters_of Try.func21 (by kernel_rfl) rfl) ?_
  intro args K h
  simp only [c21] at h
  split at h
  · rename_i xs v; exact ⟨_, h, tri_of_body (Γ := [c57]) (by simp [k57]) Try.func21 (by simp [Try.ntmps21]) rfl (b21 xs v)⟩
  · exact h.elim
end EB
end
section
set_option linter.unusedVariables false
open Go Go.Proofs Go.Eng Go.Shelf
set_option linter.unusedVariables false
namespace EB
set_option maxRecDepth 10000
/-! ### The plain law of ErectPrefixes -/
theorem fold_st (m : Int) : ∀ (T : List (Int × Int)) (b : Bool), T.foldl (fun b x => if x.2 = m ∧ x.1 = 1 then true else b) b = true ↔ b = true ∨ (1, m) ∈ T
  | [], b => by simp
  | x :: r, b => by
    rw [List.foldl_cons, fold_st m r, List.mem_cons]
    by_cases h : x.2 = m ∧ x.1 = 1
    · rw [if_pos h]
      have : (1, m) = x := Prod.ext h.2.symm h.1.symm
      simp [this]
    · rw [if_neg h]
      have : ¬ (1, m) = x := fun e => h (by rw [← e]; exact ⟨rfl, rfl⟩)
      simp [this]
theorem stB_iff (T : List (Int × Int)) (m : Nat) : stB T m = true ↔ (1, (m : Int)) ∈ T := by
  unfold stB; rw [fold_st]; simp
theorem fold_pr (m : Int) : ∀ (T : List (Int × Int)) (b : Bool), (∀ x ∈ T, x.1 = 1 ∨ x.1 = 2) → (T.foldl (fun b x => if x.2 = m then (if x.1 = 1 then b else decide (x.1 = 2)) else b) b = true ↔ b = true ∨ (2, m) ∈ T)
  | [], b, _ => by simp
  | x :: r, b, h => by
    rw [List.foldl_cons, fold_pr m r _ fun y hy => h y (List.mem_cons_of_mem _ hy), List.mem_cons]
    have hx := h x List.mem_cons_self
    by_cases h1 : x.2 = m
    · rw [if_pos h1]
      by_cases h2 : x.1 = 1
      · rw [if_pos h2]
        have : ¬ (2, m) = x := fun e => by rw [← e] at h2; exact absurd h2 (show ¬ (2 : Int) = 1 by decide)
        simp [this]
      · rw [if_neg h2]
        have h3 : x.1 = 2 := by omega
        have : (2, m) = x := Prod.ext h3.symm h1.symm
        simp [this, h3]
    · rw [if_neg h1]
      have : ¬ (2, m) = x := fun e => h1 (by rw [← e])
      simp [this]
theorem prB_iff {T : List (Int × Int)} (h : ∀ x ∈ T, x.1 = 1 ∨ x.1 = 2) (m : Nat) : prB T m = true ↔ (2, (m : Int)) ∈ T := by
  unfold prB; rw [fold_pr _ _ _ h]; simp
theorem memL_iff (n : Int) (f : Nat → Bool) (m : Int) : m ∈ memL n f ↔ 0 ≤ m ∧ m < n ∧ f m.toNat = true := by
  unfold memL
  simp only [List.mem_map, List.mem_filter, List.mem_range]
  constructor
  · rintro ⟨a, ⟨h1, h2⟩, rfl⟩
    exact ⟨by omega, by omega, h2⟩
  · rintro ⟨h1, h2, h3⟩
    exact ⟨m.toNat, ⟨by omega, h3⟩, by omega⟩
theorem mem_at {T : List (Int × Int)} {x : Int × Int} (h : x ∈ T) : ∃ i, i < T.length ∧ T.getD i (0, 0) = x := by
  obtain ⟨i, hi, rfl⟩ := List.getElem_of_mem h
  exact ⟨i, hi, by simp [List.getD_eq_getElem?_getD, hi]⟩
theorem at_mem (T : List (Int × Int)) (i : Nat) (h : i < T.length) : T.getD i (0, 0) ∈ T := by
  rw [List.getD_eq_getElem?_getD, List.getElem?_eq_getElem h]; exact List.getElem_mem h
theorem take_mem {T : List (Int × Int)} {k : Nat} {x : Int × Int} : x ∈ T.take k ↔ ∃ i, i < k ∧ i < T.length ∧ T.getD i (0, 0) = x := by
  constructor
  · intro h
    obtain ⟨i, hi, e⟩ := mem_at h
    rw [List.length_take] at hi
    refine ⟨i, by omega, by omega, ?_⟩
    rw [← e, List.getD_eq_getElem?_getD, List.getD_eq_getElem?_getD, List.getElem?_take_of_lt (by omega)]
  · rintro ⟨i, h1, h2, e⟩
    have : (T.take k).getD i (0, 0) = x := by rw [← e, List.getD_eq_getElem?_getD, List.getD_eq_getElem?_getD, List.getElem?_take_of_lt h1]
    rw [← this]
    exact at_mem _ _ (by rw [List.length_take]; omega)
theorem raisedL_mem (S : List (Int × Int)) (k : Nat) (m : Int) : m ∈ raisedL S k ↔ (1, m) ∈ S.take k := by
  unfold raisedL
  simp only [List.mem_map, List.mem_filter, decide_eq_true_eq]
  constructor
  · rintro ⟨x, ⟨h1, h2⟩, rfl⟩
    have : x = (1, x.2) := Prod.ext h2 rfl
    rw [← this]; exact h1
  · intro h; exact ⟨_, ⟨h, rfl⟩, rfl⟩
theorem take_mono {S : List (Int × Int)} {i k : Nat} (h : i ≤ k) {x : Int × Int} (hx : x ∈ S.take i) : x ∈ S.take k := by
  rw [take_mem] at hx ⊢
  obtain ⟨j, h1, h2, h3⟩ := hx
  exact ⟨j, by omega, h2, h3⟩
/-- A member that is raised was ready. -/
theorem ready_at {n : Int} {l : List (Int × Int)} (h : orderErr n l = 0) {i : Nat} (hi : i < (orderRes n l).length) (hk : ((orderRes n l).getD i (0, 0)).1 = 1) : readyP (onL n l) (putL (words n) (raisedL (orderRes n l) i)) ((orderRes n l).getD i (0, 0)).2 := by
  obtain ⟨_, _, r, h3⟩ := (ordered h).step i hi hk
  unfold readyRes at h3
  split at h3
  · have : ((orderRes n l).getD i (0, 0)).2 ∈ readyTo (onL n l) (putL (words n) (raisedL (orderRes n l) i)) n.toNat := by rw [h3]; exact List.mem_cons_self
    unfold readyTo at this
    rw [List.mem_map] at this
    obtain ⟨a, h1, h2⟩ := this
    rw [← h2]
    exact of_decide_eq_true (List.mem_filter.1 h1).2
  · cases h3
theorem lower_in {n : Int} {l : List (Int × Int)} {ms : List Int} (hn : 0 ≤ n) (hm : InN n ms) {u : Int} (hu : 0 ≤ u ∧ u < n) (h : readyP (onL n l) (putL (words n) ms) u) {r : Int × Int} (hr : r ∈ l) (h1 : r.1 = u) (h2 : 0 ≤ r.2) : r.2 ∈ ms := by
  have h3 := h.2
  have e : (onL n l).getD u.toNat [] = rowOf l l.length u.toNat := onN_get _ _ _ _ (by omega)
  rw [e, Bool.not_eq_true, List.any_eq_false] at h3
  have h4 : r.2 ∈ rowOf l l.length u.toNat := by
    unfold rowOf
    rw [List.take_length, List.mem_map]
    exact ⟨r, List.mem_filter.2 ⟨hr, decide_eq_true ⟨by omega, h2⟩⟩, rfl⟩
  have h5 := h3 _ h4
  unfold lackP at h5
  rw [decide_eq_true_iff] at h5
  exact (has_mem hn hm h2).1 (Classical.not_not.1 h5)
structure Pref (n : Int) (l S : List (Int × Int)) : Prop where
  ok : ∀ k : Nat, k ≤ S.length → stdE n S k = 0
  low : ∀ k : Nat, k ≤ S.length → ∀ r ∈ l, r.1 ∈ stdM n S k → 0 ≤ r.2 → r.2 ∈ stdM n S k
  prop_ : ∀ k : Nat, k ≤ S.length → ∀ m ∈ stdM n S k, ¬ l.any (upP m) = true → m ∈ stdP n S k
  all : ((stdM n S S.length).length : Int) = n
theorem chk_parts {n : Int} {l S : List (Int × Int)} (h : checkE n l S = 0) : supE n l = 0 ∧ chkE n S = 0 ∧ endE n (doAt (onL n l) (restL n l) n S S.length) = 0 := by
  unfold checkE at h
  split at h
  · cases h
  split at h
  · rename_i h1 h2; exact absurd h h2
  · rename_i h1 h2; exact ⟨Classical.not_not.1 h1, Classical.not_not.1 h2, h⟩
theorem pref {n : Int} {l : List (Int × Int)} (h : orderErr n l = 0) : Pref n l (orderRes n l) := by
  obtain ⟨w0, w1, w2, w3, w4, w5, w6, w7, w8⟩ := whole_ord h
  obtain ⟨_, hc, _⟩ := chk_parts w3
  have hok : ∀ k : Nat, k ≤ (orderRes n l).length → stdE n (orderRes n l) k = 0 := fun k hk => by
    unfold stdE; rw [if_neg (by omega), if_neg (not_not_intro hc), if_neg (by omega)]
  have hM : ∀ k : Nat, k ≤ (orderRes n l).length → ∀ m : Int, m ∈ stdM n (orderRes n l) k ↔ (0 ≤ m ∧ m < n) ∧ (1, m) ∈ (orderRes n l).take k := fun k hk m => by
    unfold stdM
    rw [if_pos (hok k hk), memL_iff, Int.toNat_natCast, stB_iff]
    constructor
    · rintro ⟨h1, h2, h3⟩
      rw [Int.toNat_of_nonneg h1] at h3
      exact ⟨⟨h1, h2⟩, h3⟩
    · rintro ⟨⟨h1, h2⟩, h3⟩
      refine ⟨h1, h2, ?_⟩
      rw [Int.toNat_of_nonneg h1]; exact h3
  have hin : ∀ i, InN n (raisedL (orderRes n l) i) := fun i m hm => by
    rw [raisedL_mem, take_mem] at hm
    obtain ⟨j, h1, h2, h3⟩ := hm
    have := (w5 j h2).2
    rw [h3] at this
    exact this
  have k12 : ∀ k : Nat, ∀ x ∈ (orderRes n l).take k, x.1 = 1 ∨ x.1 = 2 := fun k x hx => by
    rw [take_mem] at hx
    obtain ⟨j, h1, h2, h3⟩ := hx
    rw [← h3]; exact (w5 j h2).1
  refine ⟨hok, fun k hk r hr h1 h2 => ?_, fun k hk m hm hl => ?_, ?_⟩
  · rw [hM k hk] at h1 ⊢
    obtain ⟨h1, h3⟩ := h1
    rw [take_mem] at h3
    obtain ⟨i, i1, i2, i3⟩ := h3
    have hra := ready_at h i2 (by rw [i3])
    rw [i3] at hra
    have := lower_in w0 (hin i) h1 hra hr rfl h2
    refine ⟨hin i _ this, ?_⟩
    rw [raisedL_mem] at this
    exact take_mono (by omega) this
  · rw [hM k hk] at hm
    obtain ⟨h1, h3⟩ := hm
    rw [take_mem] at h3
    obtain ⟨i, i1, i2, i3⟩ := h3
    obtain ⟨p1, p2⟩ := w7 i i2 (by rw [i3]) (by rw [i3]; exact hl)
    have p3 := (w6 (i - 1) (by omega) p2).2.2
    rw [show i - 1 + 1 = i by omega, i3] at p3
    have p4 : (orderRes n l).getD (i - 1) (0, 0) = (2, m) := Prod.ext p2 (congrArg Prod.snd p3).symm
    unfold stdP
    rw [if_pos (hok k hk), memL_iff, Int.toNat_natCast, prB_iff (k12 k), Int.toNat_of_nonneg h1.1]
    exact ⟨h1.1, h1.2, take_mem.2 ⟨i - 1, by omega, by omega, p4⟩⟩
  · unfold stdM
    rw [if_pos (hok _ (Nat.le_refl _)), Int.toNat_natCast, List.take_length]
    have : (List.range n.toNat).filter (stB (orderRes n l)) = List.range n.toNat := by
      rw [List.filter_eq_self]
      intro m hm
      rw [List.mem_range] at hm
      have h1 := w8 m (by omega) (by omega)
      have h2 : (m : Int) ∈ raisedL (orderRes n l) (orderRes n l).length := by
        rw [← List.count_pos_iff]; omega
      rw [raisedL_mem, List.take_length] at h2
      rw [stB_iff]; exact h2
    unfold memL
    rw [this, List.length_map, List.length_range]; omega
end EB
end
section
set_option linter.unusedVariables false
open Go Go.Proofs Go.Eng Go.Shelf
set_option linter.unusedVariables false
namespace EB
set_option maxRecDepth 10000
theorem b5 (s : Int) (l : List (Int × Int)) (hs : inK .u8 s) : body Try.prog [c12, c13, c17, c20, c21] { asks := [(0, []), (2, []), (4, [])] } true Try.f5 [.val (.int .u8 s), Ps l] (.val (.bool true)) := by
  have h1 : 0 ≤ s := by have := hs.1; simpa [lo] using this
  have h2 : s ≤ 255 := by have := hs.2; simpa [hi] using this
  (repeat' ((conv => whnf); first | (refine Giv.mk fun _ => ?_) | (refine Alt.l (Need.mk ?h ?_); case h => omega) | (refine Alt.r (Need.mk ?h ?_); case h => omega) | (refine Need.mk ?h ?_; case h => first | omega | (intro _; rfl) | assumption | (simp <;> omega)) | refine Ix.zero ?_ | refine Ix.one ?_ | refine Ix.two ?_ | refine Ix.nat ?_ | refine Ix.add ?_ | (apply Go.Eng.Pin.mk; apply Exists.intro) | apply Go.Eng.Pinned.mk rfl rfl | (apply Go.Eng.PinH.mk; apply Exists.intro; apply Exists.intro) | exact Go.Eng.Fin0.mk | refine Go.Eng.Chk.mk ?_ ?_ | refine Own.l ?_ | fail))
  (refine Br.mk (fun _ => ?_) (fun _ => ?_))
  · (repeat' ((conv => whnf); first | (refine Giv.mk fun _ => ?_) | (refine Alt.l (Need.mk ?h ?_); case h => omega) | (refine Alt.r (Need.mk ?h ?_); case h => omega) | (refine Need.mk ?h ?_; case h => first | omega | (intro _; rfl) | assumption | (simp <;> omega)) | refine Ix.zero ?_ | refine Ix.one ?_ | refine Ix.two ?_ | refine Ix.nat ?_ | refine Ix.add ?_ | (apply Go.Eng.Pin.mk; apply Exists.intro) | apply Go.Eng.Pinned.mk rfl rfl | (apply Go.Eng.PinH.mk; apply Exists.intro; apply Exists.intro) | exact Go.Eng.Fin0.mk | refine Go.Eng.Chk.mk ?_ ?_ | refine Own.l ?_ | fail))
    (conv => whnf)
  · rename_i hok
    have hok := Classical.not_not.1 hok
    have hp := pref hok.2
    have hw := whole_ord hok.2
    have hr12 : res12 s l = orderRes (n12 s) l := by unfold res12; rw [if_pos hok.1]
    rw [← hr12] at hp hw
    obtain ⟨p1, p2, p3, p4⟩ := hp
    have w4 := hw.len
    (repeat' ((conv => whnf); first | (refine Giv.mk fun _ => ?_) | (refine Alt.l (Need.mk ?h ?_); case h => omega) | (refine Alt.r (Need.mk ?h ?_); case h => omega) | (refine Need.mk ?h ?_; case h => first | omega | (intro _; rfl) | assumption | (simp <;> omega)) | refine Ix.zero ?_ | refine Ix.one ?_ | refine Ix.two ?_ | refine Ix.nat ?_ | refine Ix.add ?_ | (apply Go.Eng.Pin.mk; apply Exists.intro) | apply Go.Eng.Pinned.mk rfl rfl | (apply Go.Eng.PinH.mk; apply Exists.intro; apply Exists.intro) | exact Go.Eng.Fin0.mk | refine Go.Eng.Chk.mk ?_ ?_ | refine Own.l ?_ | fail))
    refine Ask.mk ⟨{ X := Nat, pre := fun k => k ≤ (res12 s l).length + 1, mod := fun k _ => [(29, I k)], mu := fun k => (res12 s l).length + 1 - k }, rfl, ?_⟩
    (repeat' ((conv => whnf); first | (refine Giv.mk fun _ => ?_) | (refine Alt.l (Need.mk ?h ?_); case h => omega) | (refine Alt.r (Need.mk ?h ?_); case h => omega) | (refine Need.mk ?h ?_; case h => first | omega | (intro _; rfl) | assumption | (simp <;> omega)) | refine Ix.zero ?_ | refine Ix.one ?_ | refine Ix.two ?_ | refine Ix.nat ?_ | refine Ix.add ?_ | (apply Go.Eng.Pin.mk; apply Exists.intro) | apply Go.Eng.Pinned.mk rfl rfl | (apply Go.Eng.PinH.mk; apply Exists.intro; apply Exists.intro) | exact Go.Eng.Fin0.mk | refine Go.Eng.Chk.mk ?_ ?_ | refine Own.l ?_ | fail))
    refine ⟨⟨(0 : Nat), Nat.zero_le _, ?_⟩, fun (k : Nat) (hk : k ≤ (res12 s l).length + 1) => ?_⟩
    · (repeat' (first | exact trivial | rfl | exact Nat.one_pos | (refine And.intro ?_ ?_) | omega | ((conv => whnf); (refine And.intro ?_ ?_)) | ((conv => whnf); exact trivial)))
    · (repeat' ((conv => whnf); first | (refine Giv.mk fun _ => ?_) | (refine Alt.l (Need.mk ?h ?_); case h => omega) | (refine Alt.r (Need.mk ?h ?_); case h => omega) | (refine Need.mk ?h ?_; case h => first | omega | (intro _; rfl) | assumption | (simp <;> omega)) | refine Ix.zero ?_ | refine Ix.one ?_ | refine Ix.two ?_ | refine Ix.nat ?_ | refine Ix.add ?_ | (apply Go.Eng.Pin.mk; apply Exists.intro) | apply Go.Eng.Pinned.mk rfl rfl | (apply Go.Eng.PinH.mk; apply Exists.intro; apply Exists.intro) | exact Go.Eng.Fin0.mk | refine Go.Eng.Chk.mk ?_ ?_ | refine Own.l ?_ | fail))
      (refine Br.mk (fun _ => ?_) (fun _ => ?_))
      · have hkl : k ≤ (res12 s l).length := by omega
        have e1 := p1 k hkl
        (repeat' ((conv => whnf); first | (refine Giv.mk fun _ => ?_) | (refine Alt.l (Need.mk ?h ?_); case h => omega) | (refine Alt.r (Need.mk ?h ?_); case h => omega) | (refine Need.mk ?h ?_; case h => first | omega | (intro _; rfl) | assumption | (simp <;> omega)) | refine Ix.zero ?_ | refine Ix.one ?_ | refine Ix.two ?_ | refine Ix.nat ?_ | refine Ix.add ?_ | (apply Go.Eng.Pin.mk; apply Exists.intro) | apply Go.Eng.Pinned.mk rfl rfl | (apply Go.Eng.PinH.mk; apply Exists.intro; apply Exists.intro) | exact Go.Eng.Fin0.mk | refine Go.Eng.Chk.mk ?_ ?_ | refine Own.l ?_ | (refine Br.mkY ?h ?_; case h => first | omega | assumption) | (refine Br.mkN ?h ?_; case h => first | omega | assumption | exact not_not_intro (by assumption)) | fail))
        refine Ask.mk ⟨{ X := Nat, pre := fun i => i ≤ l.length, mod := fun i _ => [(44, I i)], mu := fun i => l.length - i }, rfl, ?_⟩
        (repeat' ((conv => whnf); first | (refine Giv.mk fun _ => ?_) | (refine Alt.l (Need.mk ?h ?_); case h => omega) | (refine Alt.r (Need.mk ?h ?_); case h => omega) | (refine Need.mk ?h ?_; case h => first | omega | (intro _; rfl) | assumption | (simp <;> omega)) | refine Ix.zero ?_ | refine Ix.one ?_ | refine Ix.two ?_ | refine Ix.nat ?_ | refine Ix.add ?_ | (apply Go.Eng.Pin.mk; apply Exists.intro) | apply Go.Eng.Pinned.mk rfl rfl | (apply Go.Eng.PinH.mk; apply Exists.intro; apply Exists.intro) | exact Go.Eng.Fin0.mk | refine Go.Eng.Chk.mk ?_ ?_ | refine Own.l ?_ | fail))
        refine ⟨⟨(0 : Nat), Nat.zero_le _, ?_⟩, fun (i : Nat) (hi : i ≤ l.length) => ?_⟩
        · (repeat' (first | exact trivial | rfl | exact Nat.one_pos | (refine And.intro ?_ ?_) | omega | ((conv => whnf); (refine And.intro ?_ ?_)) | ((conv => whnf); exact trivial)))
        · (repeat' ((conv => whnf); first | (refine Giv.mk fun _ => ?_) | (refine Alt.l (Need.mk ?h ?_); case h => omega) | (refine Alt.r (Need.mk ?h ?_); case h => omega) | (refine Need.mk ?h ?_; case h => first | omega | (intro _; rfl) | assumption | (simp <;> omega)) | refine Ix.zero ?_ | refine Ix.one ?_ | refine Ix.two ?_ | refine Ix.nat ?_ | refine Ix.add ?_ | (apply Go.Eng.Pin.mk; apply Exists.intro) | apply Go.Eng.Pinned.mk rfl rfl | (apply Go.Eng.PinH.mk; apply Exists.intro; apply Exists.intro) | exact Go.Eng.Fin0.mk | refine Go.Eng.Chk.mk ?_ ?_ | refine Own.l ?_ | fail))
          (refine Br.mk (fun _ => ?_) (fun _ => ?_))
          · have hlt : i < l.length := by omega
            have a1 := p2 k hkl _ (at_mem l i hlt)
            have arr : ∃ x', (l.length - x' < l.length - i) ∧ x' = i + 1 := ⟨i + 1, by omega, rfl⟩
            (repeat' ((conv => whnf); first | (refine Giv.mk fun _ => ?_) | (refine Alt.l (Need.mk ?h ?_); case h => omega) | (refine Alt.r (Need.mk ?h ?_); case h => omega) | (refine Need.mk ?h ?_; case h => first | omega | (intro _; rfl) | assumption | (simp <;> omega)) | refine Ix.zero ?_ | refine Ix.one ?_ | refine Ix.two ?_ | refine Ix.nat ?_ | refine Ix.add ?_ | (apply Go.Eng.Pin.mk; apply Exists.intro) | apply Go.Eng.Pinned.mk rfl rfl | (apply Go.Eng.PinH.mk; apply Exists.intro; apply Exists.intro) | exact Go.Eng.Fin0.mk | refine Go.Eng.Chk.mk ?_ ?_ | refine Own.l ?_ | fail))
            (refine Br.mk (fun _ => ?_) (fun _ => ?_))
            · rename_i b1
              (repeat' ((conv => whnf); first | (refine Giv.mk fun _ => ?_) | (refine Alt.l (Need.mk ?h ?_); case h => omega) | (refine Alt.r (Need.mk ?h ?_); case h => omega) | (refine Need.mk ?h ?_; case h => first | omega | (intro _; rfl) | assumption | (simp <;> omega)) | refine Ix.zero ?_ | refine Ix.one ?_ | refine Ix.two ?_ | refine Ix.nat ?_ | refine Ix.add ?_ | (apply Go.Eng.Pin.mk; apply Exists.intro) | apply Go.Eng.Pinned.mk rfl rfl | (apply Go.Eng.PinH.mk; apply Exists.intro; apply Exists.intro) | exact Go.Eng.Fin0.mk | refine Go.Eng.Chk.mk ?_ ?_ | refine Own.l ?_ | fail))
              (refine Br.mk (fun _ => ?_) (fun _ => ?_))
              · rename_i b2
                have a2 := a1 b1 (by omega)
                (repeat' ((conv => whnf); first | (refine Giv.mk fun _ => ?_) | (refine Alt.l (Need.mk ?h ?_); case h => omega) | (refine Alt.r (Need.mk ?h ?_); case h => omega) | (refine Need.mk ?h ?_; case h => first | omega | (intro _; rfl) | assumption | (simp <;> omega)) | refine Ix.zero ?_ | refine Ix.one ?_ | refine Ix.two ?_ | refine Ix.nat ?_ | refine Ix.add ?_ | (apply Go.Eng.Pin.mk; apply Exists.intro) | apply Go.Eng.Pinned.mk rfl rfl | (apply Go.Eng.PinH.mk; apply Exists.intro; apply Exists.intro) | exact Go.Eng.Fin0.mk | refine Go.Eng.Chk.mk ?_ ?_ | refine Own.l ?_ | (refine Br.mkY ?h ?_; case h => first | omega | assumption) | (refine Br.mkN ?h ?_; case h => first | omega | assumption | exact not_not_intro (by assumption)) | fail))
                refine ⟨(i + 1 : Nat), by show l.length - (i + 1) < l.length - i; omega, hlt, ?_⟩
                (repeat' (first | exact trivial | rfl | exact Nat.one_pos | (refine And.intro ?_ ?_) | omega | ((conv => whnf); (refine And.intro ?_ ?_)) | ((conv => whnf); exact trivial)))
              · (repeat' ((conv => whnf); first | (refine Giv.mk fun _ => ?_) | (refine Alt.l (Need.mk ?h ?_); case h => omega) | (refine Alt.r (Need.mk ?h ?_); case h => omega) | (refine Need.mk ?h ?_; case h => first | omega | (intro _; rfl) | assumption | (simp <;> omega)) | refine Ix.zero ?_ | refine Ix.one ?_ | refine Ix.two ?_ | refine Ix.nat ?_ | refine Ix.add ?_ | (apply Go.Eng.Pin.mk; apply Exists.intro) | apply Go.Eng.Pinned.mk rfl rfl | (apply Go.Eng.PinH.mk; apply Exists.intro; apply Exists.intro) | exact Go.Eng.Fin0.mk | refine Go.Eng.Chk.mk ?_ ?_ | refine Own.l ?_ | (refine Br.mkY ?h ?_; case h => first | omega | assumption) | (refine Br.mkN ?h ?_; case h => first | omega | assumption | exact not_not_intro (by assumption)) | fail))
                refine ⟨(i + 1 : Nat), by show l.length - (i + 1) < l.length - i; omega, hlt, ?_⟩
                (repeat' (first | exact trivial | rfl | exact Nat.one_pos | (refine And.intro ?_ ?_) | omega | ((conv => whnf); (refine And.intro ?_ ?_)) | ((conv => whnf); exact trivial)))
            · (repeat' ((conv => whnf); first | (refine Giv.mk fun _ => ?_) | (refine Alt.l (Need.mk ?h ?_); case h => omega) | (refine Alt.r (Need.mk ?h ?_); case h => omega) | (refine Need.mk ?h ?_; case h => first | omega | (intro _; rfl) | assumption | (simp <;> omega)) | refine Ix.zero ?_ | refine Ix.one ?_ | refine Ix.two ?_ | refine Ix.nat ?_ | refine Ix.add ?_ | (apply Go.Eng.Pin.mk; apply Exists.intro) | apply Go.Eng.Pinned.mk rfl rfl | (apply Go.Eng.PinH.mk; apply Exists.intro; apply Exists.intro) | exact Go.Eng.Fin0.mk | refine Go.Eng.Chk.mk ?_ ?_ | refine Own.l ?_ | (refine Br.mkY ?h ?_; case h => first | omega | assumption) | (refine Br.mkN ?h ?_; case h => first | omega | assumption | exact not_not_intro (by assumption)) | fail))
              refine ⟨(i + 1 : Nat), by show l.length - (i + 1) < l.length - i; omega, hlt, ?_⟩
              (repeat' (first | exact trivial | rfl | exact Nat.one_pos | (refine And.intro ?_ ?_) | omega | ((conv => whnf); (refine And.intro ?_ ?_)) | ((conv => whnf); exact trivial)))
          · (repeat' ((conv => whnf); first | (refine Giv.mk fun _ => ?_) | (refine Alt.l (Need.mk ?h ?_); case h => omega) | (refine Alt.r (Need.mk ?h ?_); case h => omega) | (refine Need.mk ?h ?_; case h => first | omega | (intro _; rfl) | assumption | (simp <;> omega)) | refine Ix.zero ?_ | refine Ix.one ?_ | refine Ix.two ?_ | refine Ix.nat ?_ | refine Ix.add ?_ | (apply Go.Eng.Pin.mk; apply Exists.intro) | apply Go.Eng.Pinned.mk rfl rfl | (apply Go.Eng.PinH.mk; apply Exists.intro; apply Exists.intro) | exact Go.Eng.Fin0.mk | refine Go.Eng.Chk.mk ?_ ?_ | refine Own.l ?_ | fail))
            refine Ask.mk ⟨{ X := Nat, pre := fun i => i ≤ (stdM (n12 s) (res12 s l) k).length, mod := fun i _ => [(67, I i)], mu := fun i => (stdM (n12 s) (res12 s l) k).length - i }, rfl, ?_⟩
            (repeat' ((conv => whnf); first | (refine Giv.mk fun _ => ?_) | (refine Alt.l (Need.mk ?h ?_); case h => omega) | (refine Alt.r (Need.mk ?h ?_); case h => omega) | (refine Need.mk ?h ?_; case h => first | omega | (intro _; rfl) | assumption | (simp <;> omega)) | refine Ix.zero ?_ | refine Ix.one ?_ | refine Ix.two ?_ | refine Ix.nat ?_ | refine Ix.add ?_ | (apply Go.Eng.Pin.mk; apply Exists.intro) | apply Go.Eng.Pinned.mk rfl rfl | (apply Go.Eng.PinH.mk; apply Exists.intro; apply Exists.intro) | exact Go.Eng.Fin0.mk | refine Go.Eng.Chk.mk ?_ ?_ | refine Own.l ?_ | fail))
            refine ⟨⟨(0 : Nat), Nat.zero_le _, ?_⟩, fun (j : Nat) (hj : j ≤ (stdM (n12 s) (res12 s l) k).length) => ?_⟩
            · (repeat' (first | exact trivial | rfl | exact Nat.one_pos | (refine And.intro ?_ ?_) | omega | ((conv => whnf); (refine And.intro ?_ ?_)) | ((conv => whnf); exact trivial)))
            · (repeat' ((conv => whnf); first | (refine Giv.mk fun _ => ?_) | (refine Alt.l (Need.mk ?h ?_); case h => omega) | (refine Alt.r (Need.mk ?h ?_); case h => omega) | (refine Need.mk ?h ?_; case h => first | omega | (intro _; rfl) | assumption | (simp <;> omega)) | refine Ix.zero ?_ | refine Ix.one ?_ | refine Ix.two ?_ | refine Ix.nat ?_ | refine Ix.add ?_ | (apply Go.Eng.Pin.mk; apply Exists.intro) | apply Go.Eng.Pinned.mk rfl rfl | (apply Go.Eng.PinH.mk; apply Exists.intro; apply Exists.intro) | exact Go.Eng.Fin0.mk | refine Go.Eng.Chk.mk ?_ ?_ | refine Own.l ?_ | fail))
              (refine Br.mk (fun _ => ?_) (fun _ => ?_))
              · have hlt : j < (stdM (n12 s) (res12 s l) k).length := by omega
                have a1 := p3 k hkl ((stdM (n12 s) (res12 s l) k).getD j 0) (by rw [List.getD_eq_getElem?_getD, List.getElem?_eq_getElem hlt]; exact List.getElem_mem hlt)
                (repeat' ((conv => whnf); first | (refine Giv.mk fun _ => ?_) | (refine Alt.l (Need.mk ?h ?_); case h => omega) | (refine Alt.r (Need.mk ?h ?_); case h => omega) | (refine Need.mk ?h ?_; case h => first | omega | (intro _; rfl) | assumption | (simp <;> omega)) | refine Ix.zero ?_ | refine Ix.one ?_ | refine Ix.two ?_ | refine Ix.nat ?_ | refine Ix.add ?_ | (apply Go.Eng.Pin.mk; apply Exists.intro) | apply Go.Eng.Pinned.mk rfl rfl | (apply Go.Eng.PinH.mk; apply Exists.intro; apply Exists.intro) | exact Go.Eng.Fin0.mk | refine Go.Eng.Chk.mk ?_ ?_ | refine Own.l ?_ | fail))
                (refine Br.mk (fun _ => ?_) (fun _ => ?_))
                · rename_i b1
                  have a2 := a1 b1
                  (repeat' ((conv => whnf); first | (refine Giv.mk fun _ => ?_) | (refine Alt.l (Need.mk ?h ?_); case h => omega) | (refine Alt.r (Need.mk ?h ?_); case h => omega) | (refine Need.mk ?h ?_; case h => first | omega | (intro _; rfl) | assumption | (simp <;> omega)) | refine Ix.zero ?_ | refine Ix.one ?_ | refine Ix.two ?_ | refine Ix.nat ?_ | refine Ix.add ?_ | (apply Go.Eng.Pin.mk; apply Exists.intro) | apply Go.Eng.Pinned.mk rfl rfl | (apply Go.Eng.PinH.mk; apply Exists.intro; apply Exists.intro) | exact Go.Eng.Fin0.mk | refine Go.Eng.Chk.mk ?_ ?_ | refine Own.l ?_ | (refine Br.mkY ?h ?_; case h => first | omega | assumption) | (refine Br.mkN ?h ?_; case h => first | omega | assumption | exact not_not_intro (by assumption)) | fail))
                  refine ⟨(j + 1 : Nat), by show (stdM (n12 s) (res12 s l) k).length - (j + 1) < (stdM (n12 s) (res12 s l) k).length - j; omega, hlt, ?_⟩
                  (repeat' (first | exact trivial | rfl | exact Nat.one_pos | (refine And.intro ?_ ?_) | omega | ((conv => whnf); (refine And.intro ?_ ?_)) | ((conv => whnf); exact trivial)))
                · (repeat' ((conv => whnf); first | (refine Giv.mk fun _ => ?_) | (refine Alt.l (Need.mk ?h ?_); case h => omega) | (refine Alt.r (Need.mk ?h ?_); case h => omega) | (refine Need.mk ?h ?_; case h => first | omega | (intro _; rfl) | assumption | (simp <;> omega)) | refine Ix.zero ?_ | refine Ix.one ?_ | refine Ix.two ?_ | refine Ix.nat ?_ | refine Ix.add ?_ | (apply Go.Eng.Pin.mk; apply Exists.intro) | apply Go.Eng.Pinned.mk rfl rfl | (apply Go.Eng.PinH.mk; apply Exists.intro; apply Exists.intro) | exact Go.Eng.Fin0.mk | refine Go.Eng.Chk.mk ?_ ?_ | refine Own.l ?_ | (refine Br.mkY ?h ?_; case h => first | omega | assumption) | (refine Br.mkN ?h ?_; case h => first | omega | assumption | exact not_not_intro (by assumption)) | fail))
                  refine ⟨(j + 1 : Nat), by show (stdM (n12 s) (res12 s l) k).length - (j + 1) < (stdM (n12 s) (res12 s l) k).length - j; omega, hlt, ?_⟩
                  (repeat' (first | exact trivial | rfl | exact Nat.one_pos | (refine And.intro ?_ ?_) | omega | ((conv => whnf); (refine And.intro ?_ ?_)) | ((conv => whnf); exact trivial)))
              · (repeat' ((conv => whnf); first | (refine Giv.mk fun _ => ?_) | (refine Alt.l (Need.mk ?h ?_); case h => omega) | (refine Alt.r (Need.mk ?h ?_); case h => omega) | (refine Need.mk ?h ?_; case h => first | omega | (intro _; rfl) | assumption | (simp <;> omega)) | refine Ix.zero ?_ | refine Ix.one ?_ | refine Ix.two ?_ | refine Ix.nat ?_ | refine Ix.add ?_ | (apply Go.Eng.Pin.mk; apply Exists.intro) | apply Go.Eng.Pinned.mk rfl rfl | (apply Go.Eng.PinH.mk; apply Exists.intro; apply Exists.intro) | exact Go.Eng.Fin0.mk | refine Go.Eng.Chk.mk ?_ ?_ | refine Own.l ?_ | fail))
                (refine Br.mk (fun _ => ?_) (fun _ => ?_))
                · rename_i b1
                  have hkk : k = (res12 s l).length := by omega
                  subst hkk
                  (repeat' ((conv => whnf); first | (refine Giv.mk fun _ => ?_) | (refine Alt.l (Need.mk ?h ?_); case h => omega) | (refine Alt.r (Need.mk ?h ?_); case h => omega) | (refine Need.mk ?h ?_; case h => first | omega | (intro _; rfl) | assumption | (simp <;> omega)) | refine Ix.zero ?_ | refine Ix.one ?_ | refine Ix.two ?_ | refine Ix.nat ?_ | refine Ix.add ?_ | (apply Go.Eng.Pin.mk; apply Exists.intro) | apply Go.Eng.Pinned.mk rfl rfl | (apply Go.Eng.PinH.mk; apply Exists.intro; apply Exists.intro) | exact Go.Eng.Fin0.mk | refine Go.Eng.Chk.mk ?_ ?_ | refine Own.l ?_ | (refine Br.mkY ?h ?_; case h => first | omega | assumption) | (refine Br.mkN ?h ?_; case h => first | omega | assumption | exact not_not_intro (by assumption)) | fail))
                  refine ⟨((res12 s l).length + 1 : Nat), by show (res12 s l).length + 1 - ((res12 s l).length + 1) < (res12 s l).length + 1 - (res12 s l).length; omega, Nat.le_refl _, ?_⟩
                  (repeat' (first | exact trivial | rfl | exact Nat.one_pos | (refine And.intro ?_ ?_) | omega | ((conv => whnf); (refine And.intro ?_ ?_)) | ((conv => whnf); exact trivial)))
                · (repeat' ((conv => whnf); first | (refine Giv.mk fun _ => ?_) | (refine Alt.l (Need.mk ?h ?_); case h => omega) | (refine Alt.r (Need.mk ?h ?_); case h => omega) | (refine Need.mk ?h ?_; case h => first | omega | (intro _; rfl) | assumption | (simp <;> omega)) | refine Ix.zero ?_ | refine Ix.one ?_ | refine Ix.two ?_ | refine Ix.nat ?_ | refine Ix.add ?_ | (apply Go.Eng.Pin.mk; apply Exists.intro) | apply Go.Eng.Pinned.mk rfl rfl | (apply Go.Eng.PinH.mk; apply Exists.intro; apply Exists.intro) | exact Go.Eng.Fin0.mk | refine Go.Eng.Chk.mk ?_ ?_ | refine Own.l ?_ | (refine Br.mkY ?h ?_; case h => first | omega | assumption) | (refine Br.mkN ?h ?_; case h => first | omega | assumption | exact not_not_intro (by assumption)) | fail))
                  refine ⟨(k + 1 : Nat), by show (res12 s l).length + 1 - (k + 1) < (res12 s l).length + 1 - k; omega, by show k + 1 ≤ _; omega, ?_⟩
                  (repeat' (first | exact trivial | rfl | exact Nat.one_pos | (refine And.intro ?_ ?_) | omega | ((conv => whnf); (refine And.intro ?_ ?_)) | ((conv => whnf); exact trivial)))
      · (repeat' ((conv => whnf); first | (refine Giv.mk fun _ => ?_) | (refine Alt.l (Need.mk ?h ?_); case h => omega) | (refine Alt.r (Need.mk ?h ?_); case h => omega) | (refine Need.mk ?h ?_; case h => first | omega | (intro _; rfl) | assumption | (simp <;> omega)) | refine Ix.zero ?_ | refine Ix.one ?_ | refine Ix.two ?_ | refine Ix.nat ?_ | refine Ix.add ?_ | (apply Go.Eng.Pin.mk; apply Exists.intro) | apply Go.Eng.Pinned.mk rfl rfl | (apply Go.Eng.PinH.mk; apply Exists.intro; apply Exists.intro) | exact Go.Eng.Fin0.mk | refine Go.Eng.Chk.mk ?_ ?_ | refine Own.l ?_ | (refine Br.mkY ?h ?_; case h => first | omega | assumption) | (refine Br.mkN ?h ?_; case h => first | omega | assumption | exact not_not_intro (by assumption)) | fail))
        (conv => whnf)
theorem t5 (s : Int) (l : List (Int × Int)) (hs : inK .u8 s) (hl : Okd (.slice Two) l) :
    Tri Try.prog true 5 [.val (.int .u8 s), Ps l] (.val (.bool true)) :=
  tri_of_body (Γ := [c12, c13, c17, c20, c21]) (by simp [k12, k13, k17, k20, k21]) Try.func5 (by simp [Try.ntmps5]) rfl (b5 s l hs)
end EB
end
section
set_option linter.unusedVariables false
open Go Go.Proofs Go.Eng Go.Shelf
set_option linter.unusedVariables false
namespace EB
set_option maxRecDepth 10000
/-! ### Props, as a list of members -/
theorem snoc_ind {α : Type} {P : List α → Prop} (h0 : P []) (h1 : ∀ l a, P l → P (l ++ [a])) : ∀ l, P l := by
  have : ∀ l : List α, P l.reverse := by
    intro l
    induction l with
    | nil => exact h0
    | cons a r ih => rw [List.reverse_cons]; exact h1 _ _ ih
  intro l
  have h := this l.reverse
  rwa [List.reverse_reverse] at h
structure RS where
  set : List Int
  most : Int
  err : Int
def refStep (s : RS) (x : Int × Int) : RS :=
  if s.err ≠ 0 then s
  else if x.1 = 2 then (if x.2 ∈ s.set then ⟨s.set, 0, 7⟩ else ⟨s.set ++ [x.2], max s.most ((s.set.length + 1 : Nat) : Int), 0⟩)
  else if x.1 = 3 then (if x.2 ∈ s.set then ⟨s.set.erase x.2, s.most, 0⟩ else ⟨s.set, 0, 6⟩)
  else s
def refF (T : List (Int × Int)) : RS := T.foldl refStep ⟨[], 0, 0⟩
theorem refF_snoc (T : List (Int × Int)) (x : Int × Int) : refF (T ++ [x]) = refStep (refF T) x := by simp [refF]
def keysOf (m : MapS Bool) : List Int := m.es.map fun e => e.2.1
def AllT (m : MapS Bool) : Prop := ∀ e ∈ m.es, e.2.2 = true
theorem findK_keys : ∀ (es : List (Nat × Int × Bool)), (∀ e ∈ es, e.2.2 = true) → ∀ n, ((findK es n).getD false = true ↔ n ∈ es.map fun e => e.2.1)
  | [], _, n => by simp [findK]
  | e :: r, h, n => by
    have ih := findK_keys r (fun x hx => h x (List.mem_cons_of_mem _ hx)) n
    unfold findK
    rw [List.map_cons, List.mem_cons]
    by_cases hn : e.2.1 = n
    · rw [if_pos hn]; simp [hn, h e List.mem_cons_self]
    · rw [if_neg hn, ih]
      constructor
      · exact .inr
      · rintro (h | h)
        · exact absurd h.symm hn
        · exact h
theorem get_keys {m : MapS Bool} (h : AllT m) (n : Int) : (m.get n).getD false = true ↔ n ∈ keysOf m := findK_keys m.es h n
theorem findK_none : ∀ (es : List (Nat × Int × Bool)) (n : Int), ¬ n ∈ (es.map fun e => e.2.1) → findK es n = none
  | [], _, _ => rfl
  | e :: r, n, h => by
    rw [List.map_cons, List.mem_cons] at h
    unfold findK
    rw [if_neg fun e => h (.inl e.symm), findK_none r n fun e => h (.inr e)]
theorem put_keys {m : MapS Bool} {n : Int} (ha : AllT m) (h : ¬ n ∈ keysOf m) : keysOf (m.put n true) = keysOf m ++ [n] ∧ AllT (m.put n true) := by
  have hf : findK m.es n = none := findK_none _ _ h
  unfold MapS.put keysOf AllT
  rw [hf]
  refine ⟨by simp, fun e he => ?_⟩
  rcases List.mem_append.1 he with h | h
  · exact ha e h
  · rw [List.mem_singleton.1 h]
theorem delK_keys : ∀ (es : List (Nat × Int × Bool)) (n : Int), (delK es n).map (fun e => e.2.1) = (es.map fun e => e.2.1).erase n
  | [], _ => rfl
  | e :: r, n => by
    unfold delK
    rw [List.map_cons, List.erase_cons]
    by_cases h : e.2.1 = n
    · rw [if_pos h, if_pos (by simpa using h)]
    · rw [if_neg h, if_neg (by simpa using h), List.map_cons, delK_keys r n]
theorem delK_sub : ∀ (es : List (Nat × Int × Bool)) (n : Int) (e), e ∈ delK es n → e ∈ es
  | [], _, _, h => h
  | x :: r, n, e, h => by
    unfold delK at h
    split at h
    · exact List.mem_cons_of_mem _ h
    · rcases List.mem_cons.1 h with h | h
      · rw [h]; exact List.mem_cons_self
      · exact List.mem_cons_of_mem _ (delK_sub r n e h)
theorem del_keys {m : MapS Bool} {n : Int} (ha : AllT m) : keysOf (m.del n) = (keysOf m).erase n ∧ AllT (m.del n) :=
  ⟨delK_keys m.es n, fun e he => ha e (delK_sub m.es n e he)⟩
structure Sim (p : PS) (r : RS) : Prop where
  err : p.err = r.err
  most : p.most = r.most
  keys : p.err = 0 → keysOf p.m = r.set ∧ AllT p.m
theorem keys_len (m : MapS Bool) : (keysOf m).length = m.es.length := by simp [keysOf]
theorem sim_take (S : List (Int × Int)) : ∀ i, i ≤ S.length → Sim (propAt S i) (refF (S.take i))
  | 0, _ => ⟨rfl, rfl, fun _ => ⟨rfl, fun e he => nomatch he⟩⟩
  | i + 1, hi => by
    obtain ⟨h1, h2, h3⟩ := sim_take S i (by omega)
    rw [take_pair S i hi, refF_snoc, propAt_succ]
    unfold propStep refStep
    rw [← h1]
    by_cases he : (propAt S i).err ≠ 0
    · rw [if_pos he, if_pos he]; exact ⟨h1, h2, h3⟩
    · rw [if_neg he, if_neg he]
      have he := Classical.not_not.1 he
      obtain ⟨k1, k2⟩ := h3 he
      have hg := get_keys k2 (S.getD i (0, 0)).2
      rw [k1] at hg
      by_cases c2 : (S.getD i (0, 0)).1 = 2
      · rw [if_pos c2, if_pos c2]
        by_cases hm : (S.getD i (0, 0)).2 ∈ (refF (S.take i)).set
        · rw [if_pos (hg.2 hm), if_pos hm]
          exact ⟨rfl, rfl, fun h => by cases h⟩
        · rw [if_neg (fun h => hm (hg.1 h)), if_neg hm]
          obtain ⟨p1, p2⟩ := put_keys (n := (S.getD i (0, 0)).2) k2 (by rw [k1]; exact hm)
          refine ⟨rfl, ?_, fun _ => ⟨by rw [p1, k1], p2⟩⟩
          show max _ _ = max _ _
          rw [h2, ← keys_len, p1, k1, List.length_append]; rfl
      · rw [if_neg c2, if_neg c2]
        by_cases c3 : (S.getD i (0, 0)).1 = 3
        · rw [if_pos c3, if_pos c3]
          by_cases hm : (S.getD i (0, 0)).2 ∈ (refF (S.take i)).set
          · rw [if_pos (hg.2 hm), if_pos hm]
            obtain ⟨p1, p2⟩ := del_keys (n := (S.getD i (0, 0)).2) k2
            exact ⟨rfl, h2, fun _ => ⟨by rw [p1, k1], p2⟩⟩
          · rw [if_neg (fun h => hm (hg.1 h)), if_neg hm]
            exact ⟨rfl, rfl, fun h => by cases h⟩
        · rw [if_neg c3, if_neg c3]
          exact ⟨h1, h2, h3⟩
theorem props_ref {S : List (Int × Int)} (hc : chkE (-1) S = 0) : propsE S = (refF S).err ∧ propsN S = if (refF S).err = 0 then (refF S).most else 0 := by
  have hs := sim_take S S.length (Nat.le_refl _)
  rw [List.take_length] at hs
  have e : propsE S = (refF S).err := by unfold propsE; rw [if_neg (not_not_intro hc), hs.err]
  refine ⟨e, ?_⟩
  unfold propsN
  rw [e]
  by_cases h : (refF S).err = 0
  · rw [if_neg (not_not_intro h), if_pos h, hs.most]
  · rw [if_pos h, if_neg h]
/-! ### The props of an order -/
theorem ref_order (rs : List Bool) : ∀ ms : List Int, ms.Nodup → refF (stepsOf rs ms) = ⟨propsOf rs ms, (propsOf rs ms).length, 0⟩ := by
  refine snoc_ind (fun _ => rfl) fun ms m ih hnd => ?_
  rw [List.nodup_append] at hnd
  have hni : ¬ m ∈ ms := fun h => hnd.2.2 m h m (List.mem_singleton.2 rfl) rfl
  have ih := ih hnd.1
  rw [stepsOf_append, show stepsOf rs [m] = stepOf rs m from List.append_nil _]
  unfold stepOf
  by_cases hr : rs.getD m.toNat false = true
  · rw [if_pos hr, refF_snoc, ih]
    have hp : propsOf rs (ms ++ [m]) = propsOf rs ms := by
      unfold propsOf; rw [List.filter_append, List.filter_cons_of_neg (by rw [hr]; simp), List.filter_nil, List.append_nil]
    rw [hp]
    unfold refStep
    rw [if_neg (by simp), if_neg (show ¬ (1 : Int) = 2 by decide), if_neg (show ¬ (1 : Int) = 3 by decide)]
  · rw [if_neg hr, show stepsOf rs ms ++ [(2, m), (1, m)] = (stepsOf rs ms ++ [(2, m)]) ++ [(1, m)] by simp, refF_snoc, refF_snoc, ih]
    have hp : propsOf rs (ms ++ [m]) = propsOf rs ms ++ [m] := by
      unfold propsOf; rw [List.filter_append, List.filter_cons_of_pos (by rw [Bool.eq_false_iff.2 hr]; rfl), List.filter_nil]
    rw [hp]
    have hn : ¬ m ∈ propsOf rs ms := fun h => hni (List.mem_filter.1 h).1
    have e1 : refStep ⟨propsOf rs ms, (propsOf rs ms).length, 0⟩ (2, m) = ⟨propsOf rs ms ++ [m], ((propsOf rs ms ++ [m]).length : Nat), 0⟩ := by
      unfold refStep
      rw [if_neg (by simp), if_pos rfl, if_neg hn]
      congr 1
      show max ((propsOf rs ms).length : Int) (((propsOf rs ms).length + 1 : Nat) : Int) = _
      rw [List.length_append, List.length_singleton]
      omega
    rw [e1]
    unfold refStep
    rw [if_neg (by simp), if_neg (show ¬ (1 : Int) = 2 by decide), if_neg (show ¬ (1 : Int) = 3 by decide)]
def cntFree (l : List (Int × Int)) (i : Nat) : Int := ((List.range i).filter fun m : Nat => !(l.any (upP m))).length
theorem cntFree_succ (l : List (Int × Int)) (i : Nat) : cntFree l (i + 1) = if ¬ l.any (upP i) = true then cntFree l i + 1 else cntFree l i := by
  unfold cntFree
  rw [List.range_succ, List.filter_append, List.length_append]
  by_cases h : l.any (upP i) = true
  · rw [if_neg (not_not_intro h), List.filter_cons_of_neg (by rw [h]; simp)]; simp
  · rw [if_pos h, List.filter_cons_of_pos (by rw [Bool.eq_false_iff.2 h]; rfl)]; simp
theorem cntFree_le (l : List (Int × Int)) (i : Nat) : 0 ≤ cntFree l i ∧ cntFree l i ≤ i := by
  have := List.length_filter_le (fun m : Nat => !(l.any (upP m))) (List.range i)
  rw [List.length_range] at this
  unfold cntFree
  omega
theorem ms_perm {n : Int} (hn : 0 ≤ n) {ms : List Int} (h1 : ms.Nodup) (h2 : InN n ms) (h3 : ms.length = n.toNat) : ms.Perm ((List.range n.toNat).map fun i : Nat => (i : Int)) := by
  rw [List.perm_iff_count]
  intro a
  have h4 : ((List.range n.toNat).map fun i : Nat => (i : Int)).Nodup := by
    rw [List.nodup_iff_pairwise_ne, List.pairwise_map]
    exact List.Pairwise.imp (fun h => by omega) List.pairwise_lt_range
  rw [h1.count, h4.count]
  by_cases ha : a ∈ ms
  · have := h2 a ha
    rw [if_pos ha, if_pos (List.mem_map.2 ⟨a.toNat, List.mem_range.2 (by omega), by omega⟩)]
  · rw [if_neg ha, if_neg]
    intro hm
    rw [List.mem_map] at hm
    obtain ⟨i, hi, rfl⟩ := hm
    rw [List.mem_range] at hi
    exact ha (all_in hn h1 h2 h3 ⟨by omega, by omega⟩)
theorem propsOf_len {n : Int} {l : List (Int × Int)} (hn : 0 ≤ n) {ms : List Int} (h1 : ms.Nodup) (h2 : InN n ms) (h3 : ms.length = n.toNat) : ((propsOf (restL n l) ms).length : Int) = cntFree l n.toNat := by
  have hp := (ms_perm hn h1 h2 h3).filter fun m => !((restL n l).getD m.toNat false)
  have := hp.length_eq
  unfold propsOf cntFree
  rw [this, List.filter_map, List.length_map]
  congr 2
  refine List.filter_congr fun i hi => ?_
  rw [List.mem_range] at hi
  show (!((restL n l).getD (i : Int).toNat false)) = _
  rw [Int.toNat_natCast, rest_up n l i hi]
/-- The props of a whole order. -/
theorem order_props {n : Int} {l : List (Int × Int)} (h : orderErr n l = 0) : propsE (orderRes n l) = 0 ∧ propsN (orderRes n l) = cntFree l n.toNat := by
  obtain ⟨hs, hS, hfull, r2, r3⟩ := whole h
  have hw := whole_ord h
  have hin := msAt_in (onL n l) n n.toNat
  have hnd := msAt_nodup (onL n l) r2 n.toNat
  have hc : chkE (-1) (orderRes n l) = 0 := by
    unfold chkE
    have := hw.len
    rw [if_neg (by omega), firstE_none]
    intro i hi
    have := hw.at_ i hi
    unfold chkAt
    rw [if_neg (by omega), if_neg (by omega)]
  obtain ⟨e1, e2⟩ := props_ref hc
  have hr : refF (orderRes n l) = ⟨propsOf (restL n l) (msAt (onL n l) n n.toNat), (propsOf (restL n l) (msAt (onL n l) n n.toNat)).length, 0⟩ := by
    rw [hS]; exact ref_order _ _ hnd
  rw [hr] at e1 e2
  refine ⟨e1, ?_⟩
  rw [e2, if_pos rfl]
  exact propsOf_len r2 hnd hin hfull
end EB
end
section
set_option linter.unusedVariables false
open Go Go.Proofs Go.Eng Go.Shelf
set_option linter.unusedVariables false
namespace EB
set_option maxRecDepth 10000
/-! ### An order with a prop more, taken away behind it -/
theorem do_order2 {on : List (List Int)} (rs : List Bool) {n : Int} (hn : 0 ≤ n) {ps : List Int} (hps : InN n ps) (hpr : ∀ p ∈ ps, rs.getD p.toNat false = true) : ∀ k : Nat, (stepsOf rs (msAt on n k)).foldl (doOne on rs) ⟨words n, putL (words n) ps, false⟩ = ⟨putL (words n) (msAt on n k), putL (words n) (ps ++ propsOf rs (msAt on n k)), false⟩
  | 0 => by simp [msAt, stepsOf, propsOf]; rfl
  | k + 1 => by
    have ih := do_order2 (on := on) rs hn hps hpr k
    have hin := msAt_in on n k
    rw [msAt_succ]
    split
    · rename_i h0
      rcases nxt_cases on n (msAt on n k) with h | ⟨i, h1, h2, h3, _⟩
      · omega
      rw [h2]
      have hii : 0 ≤ (i : Int) ∧ (i : Int) < n := by omega
      have hni : ¬ (i : Int) ∈ msAt on n k := fun hm => h3.1 ((has_mem hn hin hii.1).2 hm)
      rw [stepsOf_append, List.foldl_append, ih, show stepsOf rs [(i : Int)] = stepOf rs i from List.append_nil _, putL_snoc]
      unfold stepOf
      by_cases hr : rs.getD (i : Int).toNat false = true
      · rw [if_pos hr]
        have hp : propsOf rs (msAt on n k ++ [(i : Int)]) = propsOf rs (msAt on n k) := by
          unfold propsOf; rw [List.filter_append, List.filter_cons_of_neg (by rw [hr]; simp), List.filter_nil, List.append_nil]
        rw [hp]
        have hc : canDo on rs ⟨putL (words n) (msAt on n k), putL (words n) (ps ++ propsOf rs (msAt on n k)), false⟩ (1, (i : Int)) := by
          unfold canDo; rw [if_pos rfl]; exact ⟨h3, .inl hr⟩
        rw [List.foldl_cons, List.foldl_nil]
        unfold doOne
        rw [if_neg (by simp), if_neg (Classical.not_not.2 hc), if_pos rfl]
      · rw [if_neg hr]
        have hp : propsOf rs (msAt on n k ++ [(i : Int)]) = propsOf rs (msAt on n k) ++ [(i : Int)] := by
          unfold propsOf; rw [List.filter_append, List.filter_cons_of_pos (by rw [Bool.eq_false_iff.2 hr]; rfl), List.filter_nil]
        rw [hp, ← List.append_assoc, putL_snoc]
        have hpi : InN n (ps ++ propsOf rs (msAt on n k)) := fun m hm => (List.mem_append.1 hm).elim (hps m) (propsOf_in hin m)
        have hnp : ¬ (i : Int) ∈ ps ++ propsOf rs (msAt on n k) := fun hm => (List.mem_append.1 hm).elim (fun h => hr (hpr _ h)) fun h => hni (List.mem_filter.1 h).1
        have hc : canDo on rs ⟨putL (words n) (msAt on n k), putL (words n) (ps ++ propsOf rs (msAt on n k)), false⟩ (2, (i : Int)) := by
          unfold canDo; rw [if_neg (show ¬ (2 : Int) = 1 by decide), if_pos rfl]
          exact fun hh => hnp ((has_mem hn hpi hii.1).1 hh)
        have hc2 : canDo on rs ⟨putL (words n) (msAt on n k), putW (putL (words n) (ps ++ propsOf rs (msAt on n k))) i, false⟩ (1, (i : Int)) := by
          unfold canDo; rw [if_pos rfl]
          refine ⟨h3, .inr ?_⟩
          show hasW (putW (putL (words n) (ps ++ propsOf rs (msAt on n k))) i) i
          rw [← putL_snoc, has_mem hn (in_snoc hpi hii) hii.1]
          simp
        rw [List.foldl_cons, List.foldl_cons, List.foldl_nil]
        have e1 : doOne on rs ⟨putL (words n) (msAt on n k), putL (words n) (ps ++ propsOf rs (msAt on n k)), false⟩ (2, (i : Int)) = ⟨putL (words n) (msAt on n k), putW (putL (words n) (ps ++ propsOf rs (msAt on n k))) i, false⟩ := by
          unfold doOne
          rw [if_neg (by simp), if_neg (Classical.not_not.2 hc), if_neg (show ¬ (2 : Int) = 1 by decide), if_pos rfl]
        rw [e1]
        unfold doOne
        rw [if_neg (by simp), if_neg (Classical.not_not.2 hc2), if_pos rfl]
    · exact ih
/-- What a list of steps does from the beginning. -/
def doF (on : List (List Int)) (rs : List Bool) (n : Int) (T : List (Int × Int)) : CS := T.foldl (doOne on rs) ⟨words n, words n, false⟩
theorem check_doF {n : Int} {l T : List (Int × Int)} (hs : supE n l = 0) (hc : chkE n T = 0) : checkE n l T = endE n (doF (onL n l) (restL n l) n T) := by
  unfold checkE
  rw [if_neg (not_not_intro hs), if_neg (not_not_intro hc), doAt_fold _ _ _ _ _ (Nat.le_refl _), List.take_length]; rfl
theorem endE_st {n : Int} {a b : CS} (h1 : a.err = b.err) (h2 : a.st = b.st) : endE n a = endE n b := by unfold endE; rw [h1, h2]
theorem order_doF {n : Int} {l : List (Int × Int)} (h : orderErr n l = 0) : doF (onL n l) (restL n l) n (orderRes n l) = ⟨putL (words n) (msAt (onL n l) n n.toNat), putL (words n) (propsOf (restL n l) (msAt (onL n l) n n.toNat)), false⟩ := by
  obtain ⟨hs, hS, hfull, r2, r3⟩ := whole h
  rw [hS]
  exact do_order _ r2 n.toNat
theorem order_more1 {n : Int} {l : List (Int × Int)} (h : orderErr n l = 0) {m : Int} (hm : 0 ≤ m ∧ m < n) (hl : ¬ l.any (upP m) = true) : checkE n l (orderRes n l ++ [(3, m)]) = 26 := by
  obtain ⟨hs, hS, hfull, r2, r3⟩ := whole h
  have hw := whole_ord h
  have hin := msAt_in (onL n l) n n.toNat
  have hc : chkE n (orderRes n l ++ [(3, m)]) = 0 := chkE_zero (by have := hw.len; simp; omega) fun x hx => by
    rcases List.mem_append.1 hx with hx | hx
    · obtain ⟨i, h1, h2⟩ := mem_at hx
      have := hw.at_ i h1
      rw [h2] at this
      omega
    · rw [List.mem_singleton.1 hx]; exact ⟨.inr (.inr rfl), hm⟩
  rw [check_doF hs hc]
  unfold doF
  rw [List.foldl_append]
  show endE n (List.foldl _ (doF (onL n l) (restL n l) n (orderRes n l)) _) = 26
  rw [order_doF h, List.foldl_cons, List.foldl_nil]
  have hst : hasW (putL (words n) (msAt (onL n l) n n.toNat)) m := (has_mem r2 hin hm.1).2 (all_in r2 (msAt_nodup _ r2 _) hin hfull hm)
  have hre : ¬ (restL n l).getD m.toNat false = true := by
    rw [rest_up n l _ (by omega), Int.toNat_of_nonneg hm.1]; exact hl
  unfold doOne
  rw [if_neg (by simp), if_pos]
  · rfl
  · unfold canDo
    rw [if_neg (show ¬ (3 : Int) = 1 by decide), if_neg (show ¬ (3 : Int) = 2 by decide)]
    rintro ⟨_, h | h⟩
    · exact h hst
    · exact hre h
theorem order_more2 {n : Int} {l : List (Int × Int)} (h : orderErr n l = 0) {m : Int} (hm : 0 ≤ m ∧ m < n) (hl : l.any (upP m) = true) : checkE n l ((2, m) :: orderRes n l ++ [(3, m)]) = 0 := by
  obtain ⟨hs, hS, hfull, r2, r3⟩ := whole h
  have hw := whole_ord h
  have hin := msAt_in (onL n l) n n.toNat
  obtain ⟨_, hcS, hend⟩ := chk_parts hw.chk
  have hc : chkE n ((2, m) :: orderRes n l ++ [(3, m)]) = 0 := chkE_zero (by have := hw.len; simp; omega) fun x hx => by
    rcases List.mem_append.1 hx with hx | hx
    · rcases List.mem_cons.1 hx with hx | hx
      · rw [hx]; exact ⟨.inr (.inl rfl), hm⟩
      · obtain ⟨i, h1, h2⟩ := mem_at hx
        have := hw.at_ i h1
        rw [h2] at this
        omega
    · rw [List.mem_singleton.1 hx]; exact ⟨.inr (.inr rfl), hm⟩
  rw [check_doF hs hc]
  have hre : (restL n l).getD m.toNat false = true := by
    rw [rest_up n l _ (by omega), Int.toNat_of_nonneg hm.1]; exact hl
  have hps : InN n [m] := fun x hx => by rw [List.mem_singleton.1 hx]; exact hm
  have e0 : doOne (onL n l) (restL n l) ⟨words n, words n, false⟩ (2, m) = ⟨words n, putL (words n) [m], false⟩ := by
    unfold doOne
    rw [if_neg (by simp), if_neg, if_neg (show ¬ (2 : Int) = 1 by decide), if_pos rfl]
    · rfl
    · refine not_not_intro ?_
      unfold canDo
      rw [if_neg (show ¬ (2 : Int) = 1 by decide), if_pos rfl]
      have := words_none n m.toNat
      rwa [Int.toNat_of_nonneg hm.1] at this
  have e1 := do_order2 (on := onL n l) (restL n l) r2 hps (fun p hp => by rw [List.mem_singleton.1 hp]; exact hre) n.toNat
  unfold doF
  rw [List.cons_append, List.foldl_cons, List.foldl_append, e0]
  have e2 : orderRes n l = stepsOf (restL n l) (msAt (onL n l) n n.toNat) := hS
  rw [e2, e1, List.foldl_cons, List.foldl_nil]
  have hpi : InN n ([m] ++ propsOf (restL n l) (msAt (onL n l) n n.toNat)) := fun x hx => (List.mem_append.1 hx).elim (hps x) (propsOf_in hin x)
  have hpr : hasW (putL (words n) ([m] ++ propsOf (restL n l) (msAt (onL n l) n n.toNat))) m := (has_mem r2 hpi hm.1).2 (List.mem_append.2 (.inl (List.mem_singleton.2 rfl)))
  have hd : doAt (onL n l) (restL n l) n (orderRes n l) (orderRes n l).length = doF (onL n l) (restL n l) n (orderRes n l) := by
    rw [doAt_fold _ _ _ _ _ (Nat.le_refl _), List.take_length]; rfl
  rw [hd, order_doF h] at hend
  refine Eq.trans (endE_st ?_ ?_) hend
  all_goals
    unfold doOne
    rw [if_neg (by simp), if_neg, if_neg (show ¬ (3 : Int) = 1 by decide), if_neg (show ¬ (3 : Int) = 2 by decide)]
    refine not_not_intro ?_
    unfold canDo
    rw [if_neg (show ¬ (3 : Int) = 1 by decide), if_neg (show ¬ (3 : Int) = 2 by decide)]
    exact ⟨hpr, .inr hre⟩
/-! ### slices.Clone -/
theorem b23 (S : List (Int × Int)) (h : S.length ≤ 100000) : bodyO Try.prog [] {} Try.f23 [Ps S] (.ref 0 1) Two S 29 := by
  (conv => whnf)
  intro q hq
  (repeat' ((conv => whnf); first | (refine Giv.mk fun _ => ?_) | (refine Alt.l (Need.mk ?h ?_); case h => omega) | (refine Alt.r (Need.mk ?h ?_); case h => omega) | (refine Need.mk ?h ?_; case h => first | omega | (intro _; rfl) | assumption | (simp <;> omega)) | refine Ix.zero ?_ | refine Ix.one ?_ | refine Ix.two ?_ | refine Ix.nat ?_ | refine Ix.add ?_ | (apply Go.Eng.Pin.mk; apply Exists.intro) | apply Go.Eng.Pinned.mk rfl rfl | (apply Go.Eng.PinH.mk; apply Exists.intro; apply Exists.intro) | exact Go.Eng.Fin0.mk | refine Go.Eng.Chk.mk ?_ ?_ | refine Own.l ?_ | fail))
  (refine Br.mk (fun _ => ?_) (fun _ => ?_))
  · rename_i hx
    have hx := hq hx
    subst hx
    (repeat' ((conv => whnf); first | (refine Giv.mk fun _ => ?_) | (refine Alt.l (Need.mk ?h ?_); case h => omega) | (refine Alt.r (Need.mk ?h ?_); case h => omega) | (refine Need.mk ?h ?_; case h => first | omega | (intro _; rfl) | assumption | (simp <;> omega)) | refine Ix.zero ?_ | refine Ix.one ?_ | refine Ix.two ?_ | refine Ix.nat ?_ | refine Ix.add ?_ | (apply Go.Eng.Pin.mk; apply Exists.intro) | apply Go.Eng.Pinned.mk rfl rfl | (apply Go.Eng.PinH.mk; apply Exists.intro; apply Exists.intro) | exact Go.Eng.Fin0.mk | refine Go.Eng.Chk.mk ?_ ?_ | refine Own.l ?_ | fail))
    (conv => whnf)
    (repeat' (first | exact trivial | rfl | exact Nat.one_pos | (refine And.intro ?_ ?_) | ((conv => whnf); (refine And.intro ?_ ?_)) | ((conv => whnf); exact trivial)))
  · (repeat' ((conv => whnf); first | (refine Giv.mk fun _ => ?_) | (refine Alt.l (Need.mk ?h ?_); case h => omega) | (refine Alt.r (Need.mk ?h ?_); case h => omega) | (refine Need.mk ?h ?_; case h => first | omega | (intro _; rfl) | assumption | (simp <;> omega)) | refine Ix.zero ?_ | refine Ix.one ?_ | refine Ix.two ?_ | refine Ix.nat ?_ | refine Ix.add ?_ | (apply Go.Eng.Pin.mk; apply Exists.intro) | apply Go.Eng.Pinned.mk rfl rfl | (apply Go.Eng.PinH.mk; apply Exists.intro; apply Exists.intro) | exact Go.Eng.Fin0.mk | refine Go.Eng.Chk.mk ?_ ?_ | refine Own.l ?_ | fail))
    (conv => whnf)
    (repeat' (first | exact trivial | rfl | exact Nat.one_pos | (refine And.intro ?_ ?_) | ((conv => whnf); (refine And.intro ?_ ?_)) | ((conv => whnf); exact trivial)))
def c23 : Con := ownCon 23 fun args K => match args with | [.seq (.pair (.int .i64) (.int .i64)) S] => Need (S.length ≤ 100000) (K (.ref 0 1) (.vec 1 (Two) (S) 29)) | _ => False
theorem k23 : ConOK Try.prog c23 := by
  refine ownOK_of (enters_of Try.func23 (by kernel_rfl) rfl) ?_
  intro args K h
  split at h
  · rename_i S; exact ⟨_, _, _, _, _, h.go, fun hfl => otri_of_body (Γ := []) (by simp) Try.func23 (by simp [Try.ntmps23]) hfl (b23 S h.ok)⟩
  · exact h.elim
theorem b6 (s : Int) (l : List (Int × Int)) (w : Int) (hs : inK .u8 s) (hw0 : inK .u8 w) : body Try.prog [c12, c13, c16, c17, c22, c23] { asks := [(0, [])] } true Try.f6 [.val (.int .u8 s), Ps l, .val (.int .u8 w)] (.val (.bool true)) := by
  have h1 : 0 ≤ s := by have := hs.1; simpa [lo] using this
  have h2 : s ≤ 255 := by have := hs.2; simpa [hi] using this
  have h3 : 0 ≤ w := by have := hw0.1; simpa [lo] using this
  have h4 : w ≤ 255 := by have := hw0.2; simpa [hi] using this
  (repeat' ((conv => whnf); first | (refine Giv.mk fun _ => ?_) | (refine Alt.l (Need.mk ?h ?_); case h => omega) | (refine Alt.r (Need.mk ?h ?_); case h => omega) | (refine Need.mk ?h ?_; case h => first | omega | (intro _; rfl) | assumption | (simp <;> omega)) | refine Ix.zero ?_ | refine Ix.one ?_ | refine Ix.two ?_ | refine Ix.nat ?_ | refine Ix.add ?_ | (apply Go.Eng.Pin.mk; apply Exists.intro) | apply Go.Eng.Pinned.mk rfl rfl | (apply Go.Eng.PinH.mk; apply Exists.intro; apply Exists.intro) | exact Go.Eng.Fin0.mk | refine Go.Eng.Chk.mk ?_ ?_ | refine Own.l ?_ | fail))
  (refine Br.mk (fun _ => ?_) (fun _ => ?_))
  · (repeat' ((conv => whnf); first | (refine Giv.mk fun _ => ?_) | (refine Alt.l (Need.mk ?h ?_); case h => omega) | (refine Alt.r (Need.mk ?h ?_); case h => omega) | (refine Need.mk ?h ?_; case h => first | omega | (intro _; rfl) | assumption | (simp <;> omega)) | refine Ix.zero ?_ | refine Ix.one ?_ | refine Ix.two ?_ | refine Ix.nat ?_ | refine Ix.add ?_ | (apply Go.Eng.Pin.mk; apply Exists.intro) | apply Go.Eng.Pinned.mk rfl rfl | (apply Go.Eng.PinH.mk; apply Exists.intro; apply Exists.intro) | exact Go.Eng.Fin0.mk | refine Go.Eng.Chk.mk ?_ ?_ | refine Own.l ?_ | fail))
    (conv => whnf)
  · rename_i hok
    have hok := Classical.not_not.1 hok
    have hw := whole_ord hok.2
    have hp := order_props hok.2
    have hm1 := fun m => order_more1 (m := m) hok.2
    have hm2 := fun m => order_more2 (m := m) hok.2
    have hr12 : res12 s l = orderRes (n12 s) l := by unfold res12; rw [if_pos hok.1]
    rw [← hr12] at hw hp hm1 hm2
    have w0 := hw.n0
    have w1 := hw.n1
    have w4 := hw.len
    obtain ⟨q1, q2⟩ := hp
    (repeat' ((conv => whnf); first | (refine Giv.mk fun _ => ?_) | (refine Alt.l (Need.mk ?h ?_); case h => omega) | (refine Alt.r (Need.mk ?h ?_); case h => omega) | (refine Need.mk ?h ?_; case h => first | omega | (intro _; rfl) | assumption | (simp <;> omega)) | refine Ix.zero ?_ | refine Ix.one ?_ | refine Ix.two ?_ | refine Ix.nat ?_ | refine Ix.add ?_ | (apply Go.Eng.Pin.mk; apply Exists.intro) | apply Go.Eng.Pinned.mk rfl rfl | (apply Go.Eng.PinH.mk; apply Exists.intro; apply Exists.intro) | exact Go.Eng.Fin0.mk | refine Go.Eng.Chk.mk ?_ ?_ | refine Own.l ?_ | fail))
    refine Ask.mk ⟨{ X := Nat, pre := fun i => i ≤ (n12 s).toNat, mod := fun i _ => [(10, I (cntFree l i)), (28, I i)], mu := fun i => (n12 s).toNat - i }, rfl, ?_⟩
    (repeat' ((conv => whnf); first | (refine Giv.mk fun _ => ?_) | (refine Alt.l (Need.mk ?h ?_); case h => omega) | (refine Alt.r (Need.mk ?h ?_); case h => omega) | (refine Need.mk ?h ?_; case h => first | omega | (intro _; rfl) | assumption | (simp <;> omega)) | refine Ix.zero ?_ | refine Ix.one ?_ | refine Ix.two ?_ | refine Ix.nat ?_ | refine Ix.add ?_ | (apply Go.Eng.Pin.mk; apply Exists.intro) | apply Go.Eng.Pinned.mk rfl rfl | (apply Go.Eng.PinH.mk; apply Exists.intro; apply Exists.intro) | exact Go.Eng.Fin0.mk | refine Go.Eng.Chk.mk ?_ ?_ | refine Own.l ?_ | fail))
    refine ⟨⟨(0 : Nat), Nat.zero_le _, ?_⟩, fun (i : Nat) (hi : i ≤ (n12 s).toNat) => ?_⟩
    · (repeat' (first | exact trivial | rfl | exact Nat.one_pos | (refine And.intro ?_ ?_) | omega | ((conv => whnf); (refine And.intro ?_ ?_)) | ((conv => whnf); exact trivial)))
    · have hsu := cntFree_succ l i
      have hle := cntFree_le l i
      (repeat' ((conv => whnf); first | (refine Giv.mk fun _ => ?_) | (refine Alt.l (Need.mk ?h ?_); case h => omega) | (refine Alt.r (Need.mk ?h ?_); case h => omega) | (refine Need.mk ?h ?_; case h => first | omega | (intro _; rfl) | assumption | (simp <;> omega)) | refine Ix.zero ?_ | refine Ix.one ?_ | refine Ix.two ?_ | refine Ix.nat ?_ | refine Ix.add ?_ | (apply Go.Eng.Pin.mk; apply Exists.intro) | apply Go.Eng.Pinned.mk rfl rfl | (apply Go.Eng.PinH.mk; apply Exists.intro; apply Exists.intro) | exact Go.Eng.Fin0.mk | refine Go.Eng.Chk.mk ?_ ?_ | refine Own.l ?_ | fail))
      (refine Br.mk (fun _ => ?_) (fun _ => ?_))
      · (repeat' ((conv => whnf); first | (refine Giv.mk fun _ => ?_) | (refine Alt.l (Need.mk ?h ?_); case h => omega) | (refine Alt.r (Need.mk ?h ?_); case h => omega) | (refine Need.mk ?h ?_; case h => first | omega | (intro _; rfl) | assumption | (simp <;> omega)) | refine Ix.zero ?_ | refine Ix.one ?_ | refine Ix.two ?_ | refine Ix.nat ?_ | refine Ix.add ?_ | (apply Go.Eng.Pin.mk; apply Exists.intro) | apply Go.Eng.Pinned.mk rfl rfl | (apply Go.Eng.PinH.mk; apply Exists.intro; apply Exists.intro) | exact Go.Eng.Fin0.mk | refine Go.Eng.Chk.mk ?_ ?_ | refine Own.l ?_ | fail))
        (refine Br.mk (fun _ => ?_) (fun _ => ?_))
        · rename_i hf
          rw [if_pos hf] at hsu
          (repeat' ((conv => whnf); first | (refine Giv.mk fun _ => ?_) | (refine Alt.l (Need.mk ?h ?_); case h => omega) | (refine Alt.r (Need.mk ?h ?_); case h => omega) | (refine Need.mk ?h ?_; case h => first | omega | (intro _; rfl) | assumption | (simp <;> omega)) | refine Ix.zero ?_ | refine Ix.one ?_ | refine Ix.two ?_ | refine Ix.nat ?_ | refine Ix.add ?_ | (apply Go.Eng.Pin.mk; apply Exists.intro) | apply Go.Eng.Pinned.mk rfl rfl | (apply Go.Eng.PinH.mk; apply Exists.intro; apply Exists.intro) | exact Go.Eng.Fin0.mk | refine Go.Eng.Chk.mk ?_ ?_ | refine Own.l ?_ | (refine Br.mkY ?h ?_; case h => first | omega | assumption) | (refine Br.mkN ?h ?_; case h => first | omega | assumption | exact not_not_intro (by assumption)) | fail))
          refine ⟨(i + 1 : Nat), by show (n12 s).toNat - (i + 1) < (n12 s).toNat - i; omega, by show i + 1 ≤ (n12 s).toNat; omega, ?_⟩
          (repeat' (first | exact trivial | rfl | exact Nat.one_pos | (refine And.intro ?_ ?_) | omega | ((conv => whnf); (refine And.intro ?_ ?_)) | ((conv => whnf); exact trivial)))
        · rename_i hf
          rw [if_neg hf] at hsu
          (repeat' ((conv => whnf); first | (refine Giv.mk fun _ => ?_) | (refine Alt.l (Need.mk ?h ?_); case h => omega) | (refine Alt.r (Need.mk ?h ?_); case h => omega) | (refine Need.mk ?h ?_; case h => first | omega | (intro _; rfl) | assumption | (simp <;> omega)) | refine Ix.zero ?_ | refine Ix.one ?_ | refine Ix.two ?_ | refine Ix.nat ?_ | refine Ix.add ?_ | (apply Go.Eng.Pin.mk; apply Exists.intro) | apply Go.Eng.Pinned.mk rfl rfl | (apply Go.Eng.PinH.mk; apply Exists.intro; apply Exists.intro) | exact Go.Eng.Fin0.mk | refine Go.Eng.Chk.mk ?_ ?_ | refine Own.l ?_ | (refine Br.mkY ?h ?_; case h => first | omega | assumption) | (refine Br.mkN ?h ?_; case h => first | omega | assumption | exact not_not_intro (by assumption)) | fail))
          refine ⟨(i + 1 : Nat), by show (n12 s).toNat - (i + 1) < (n12 s).toNat - i; omega, by show i + 1 ≤ (n12 s).toNat; omega, ?_⟩
          (repeat' (first | exact trivial | rfl | exact Nat.one_pos | (refine And.intro ?_ ?_) | omega | ((conv => whnf); (refine And.intro ?_ ?_)) | ((conv => whnf); exact trivial)))
      · have hii : i = (n12 s).toNat := by omega
        subst hii
        (repeat' ((conv => whnf); first | (refine Giv.mk fun _ => ?_) | (refine Alt.l (Need.mk ?h ?_); case h => omega) | (refine Alt.r (Need.mk ?h ?_); case h => omega) | (refine Need.mk ?h ?_; case h => first | omega | (intro _; rfl) | assumption | (simp <;> omega)) | refine Ix.zero ?_ | refine Ix.one ?_ | refine Ix.two ?_ | refine Ix.nat ?_ | refine Ix.add ?_ | (apply Go.Eng.Pin.mk; apply Exists.intro) | apply Go.Eng.Pinned.mk rfl rfl | (apply Go.Eng.PinH.mk; apply Exists.intro; apply Exists.intro) | exact Go.Eng.Fin0.mk | refine Go.Eng.Chk.mk ?_ ?_ | refine Own.l ?_ | (refine Br.mkY ?h ?_; case h => first | omega | assumption) | (refine Br.mkN ?h ?_; case h => first | omega | assumption | exact not_not_intro (by assumption)) | fail))
        (refine Br.mk (fun _ => ?_) (fun _ => ?_))
        · (repeat' ((conv => whnf); first | (refine Giv.mk fun _ => ?_) | (refine Alt.l (Need.mk ?h ?_); case h => omega) | (refine Alt.r (Need.mk ?h ?_); case h => omega) | (refine Need.mk ?h ?_; case h => first | omega | (intro _; rfl) | assumption | (simp <;> omega)) | refine Ix.zero ?_ | refine Ix.one ?_ | refine Ix.two ?_ | refine Ix.nat ?_ | refine Ix.add ?_ | (apply Go.Eng.Pin.mk; apply Exists.intro) | apply Go.Eng.Pinned.mk rfl rfl | (apply Go.Eng.PinH.mk; apply Exists.intro; apply Exists.intro) | exact Go.Eng.Fin0.mk | refine Go.Eng.Chk.mk ?_ ?_ | refine Own.l ?_ | fail))
          (conv => whnf)
        · have hmn : 0 ≤ w % n12 s ∧ w % n12 s < n12 s := ⟨Int.emod_nonneg _ (by omega), Int.emod_lt_of_pos _ (by omega)⟩
          have hm1 := hm1 _ hmn
          have hm2 := hm2 _ hmn
          (repeat' ((conv => whnf); first | (refine Giv.mk fun _ => ?_) | (refine Alt.l (Need.mk ?h ?_); case h => omega) | (refine Alt.r (Need.mk ?h ?_); case h => omega) | (refine Need.mk ?h ?_; case h => first | omega | (intro _; rfl) | assumption | (simp <;> omega)) | refine Ix.zero ?_ | refine Ix.one ?_ | refine Ix.two ?_ | refine Ix.nat ?_ | refine Ix.add ?_ | (apply Go.Eng.Pin.mk; apply Exists.intro) | apply Go.Eng.Pinned.mk rfl rfl | (apply Go.Eng.PinH.mk; apply Exists.intro; apply Exists.intro) | exact Go.Eng.Fin0.mk | refine Go.Eng.Chk.mk ?_ ?_ | refine Own.l ?_ | (refine Br.mkY ?h ?_; case h => first | omega | assumption) | (refine Br.mkN ?h ?_; case h => first | omega | assumption | exact not_not_intro (by assumption)) | fail))
          (refine Br.mk (fun _ => ?_) (fun _ => ?_))
          · rename_i hf
            have hf := Classical.not_not.1 hf
            have hm2 := hm2 hf
            (repeat' ((conv => whnf); first | (refine Giv.mk fun _ => ?_) | (refine Alt.l (Need.mk ?h ?_); case h => omega) | (refine Alt.r (Need.mk ?h ?_); case h => omega) | (refine Need.mk ?h ?_; case h => first | omega | (intro _; rfl) | assumption | (simp <;> omega)) | refine Ix.zero ?_ | refine Ix.one ?_ | refine Ix.two ?_ | refine Ix.nat ?_ | refine Ix.add ?_ | (apply Go.Eng.Pin.mk; apply Exists.intro) | apply Go.Eng.Pinned.mk rfl rfl | (apply Go.Eng.PinH.mk; apply Exists.intro; apply Exists.intro) | exact Go.Eng.Fin0.mk | refine Go.Eng.Chk.mk ?_ ?_ | (refine Br.mkY ?h ?_; case h => first | omega | assumption) | (refine Br.mkN ?h ?_; case h => first | omega | assumption | exact not_not_intro (by assumption)) | fail))
            refine Own.r ?_
            (repeat' ((conv => whnf); first | (refine Giv.mk fun _ => ?_) | (refine Alt.l (Need.mk ?h ?_); case h => omega) | (refine Alt.r (Need.mk ?h ?_); case h => omega) | (refine Need.mk ?h ?_; case h => first | omega | (intro _; rfl) | assumption | (simp <;> omega)) | refine Ix.zero ?_ | refine Ix.one ?_ | refine Ix.two ?_ | refine Ix.nat ?_ | refine Ix.add ?_ | (apply Go.Eng.Pin.mk; apply Exists.intro) | apply Go.Eng.Pinned.mk rfl rfl | (apply Go.Eng.PinH.mk; apply Exists.intro; apply Exists.intro) | exact Go.Eng.Fin0.mk | refine Go.Eng.Chk.mk ?_ ?_ | (refine Br.mkY ?h ?_; case h => first | omega | assumption) | (refine Br.mkN ?h ?_; case h => first | omega | assumption | exact not_not_intro (by assumption)) | fail))
            refine Own.l ?_
            (repeat' ((conv => whnf); first | (refine Giv.mk fun _ => ?_) | (refine Alt.l (Need.mk ?h ?_); case h => omega) | (refine Alt.r (Need.mk ?h ?_); case h => omega) | (refine Need.mk ?h ?_; case h => first | omega | (intro _; rfl) | assumption | (simp <;> omega)) | refine Ix.zero ?_ | refine Ix.one ?_ | refine Ix.two ?_ | refine Ix.nat ?_ | refine Ix.add ?_ | (apply Go.Eng.Pin.mk; apply Exists.intro) | apply Go.Eng.Pinned.mk rfl rfl | (apply Go.Eng.PinH.mk; apply Exists.intro; apply Exists.intro) | exact Go.Eng.Fin0.mk | refine Go.Eng.Chk.mk ?_ ?_ | refine Own.l ?_ | (refine Br.mkY ?h ?_; case h => first | omega | assumption) | (refine Br.mkN ?h ?_; case h => first | omega | assumption | exact not_not_intro (by assumption)) | fail))
            (conv => whnf)
          · rename_i hf
            have hf : ¬ l.any (upP (w % n12 s)) = true := fun e => hf (not_not_intro e)
            have hm1 := hm1 hf
            (repeat' ((conv => whnf); first | (refine Giv.mk fun _ => ?_) | (refine Alt.l (Need.mk ?h ?_); case h => omega) | (refine Alt.r (Need.mk ?h ?_); case h => omega) | (refine Need.mk ?h ?_; case h => first | omega | (intro _; rfl) | assumption | (simp <;> omega)) | refine Ix.zero ?_ | refine Ix.one ?_ | refine Ix.two ?_ | refine Ix.nat ?_ | refine Ix.add ?_ | (apply Go.Eng.Pin.mk; apply Exists.intro) | apply Go.Eng.Pinned.mk rfl rfl | (apply Go.Eng.PinH.mk; apply Exists.intro; apply Exists.intro) | exact Go.Eng.Fin0.mk | refine Go.Eng.Chk.mk ?_ ?_ | refine Own.l ?_ | (refine Br.mkY ?h ?_; case h => first | omega | assumption) | (refine Br.mkN ?h ?_; case h => first | omega | assumption | exact not_not_intro (by assumption)) | fail))
            (conv => whnf)
theorem t6 (s : Int) (l : List (Int × Int)) (w : Int) (hs : inK .u8 s) (hl : Okd (.slice Two) l) (hw : inK .u8 w) :
    Tri Try.prog true 6 [.val (.int .u8 s), Ps l, .val (.int .u8 w)] (.val (.bool true)) :=
  tri_of_body (Γ := [c12, c13, c16, c17, c22, c23]) (by simp [k12, k13, k16, k17, k22, k23]) Try.func6 (by simp [Try.ntmps6]) rfl (b6 s l w hs hw)
end EB
end
