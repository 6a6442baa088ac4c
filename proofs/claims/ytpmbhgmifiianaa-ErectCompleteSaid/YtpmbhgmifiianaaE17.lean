import Derived.Test.YtpmbhgmifiianaaE16
open Go Go.Proofs Go.Eng Go.Shelf
namespace EB
set_option maxRecDepth 10000
/-! ### The plain law of ErectComplete -/
theorem app_get {α : Type} (A B : List α) (d : α) (i : Nat) : (A ++ B).getD i d = if i < A.length then A.getD i d else B.getD (i - A.length) d := by
  simp only [List.getD_eq_getElem?_getD]
  split
  · rename_i h; rw [List.getElem?_append_left h]
  · rename_i h; rw [List.getElem?_append_right (by omega)]
/-- A prop's step: the member rests on nothing, and is raised at once. A raise's: if it rests on nothing, its prop came just ahead. -/
theorem steps_at (rs : List Bool) : ∀ (ms : List Int) (i : Nat), i < (stepsOf rs ms).length →
    (((stepsOf rs ms).getD i (0, 0)).1 = 2 → rs.getD ((stepsOf rs ms).getD i (0, 0)).2.toNat false = false ∧ i + 1 < (stepsOf rs ms).length ∧ (stepsOf rs ms).getD (i + 1) (0, 0) = (1, ((stepsOf rs ms).getD i (0, 0)).2)) ∧
    (((stepsOf rs ms).getD i (0, 0)).1 = 1 → rs.getD ((stepsOf rs ms).getD i (0, 0)).2.toNat false = false → 0 < i ∧ ((stepsOf rs ms).getD (i - 1) (0, 0)).1 = 2)
  | [], i, h => absurd h (Nat.not_lt_zero _)
  | m :: r, i, h => by
    have e : stepsOf rs (m :: r) = stepOf rs m ++ stepsOf rs r := rfl
    rw [e] at h ⊢
    rw [List.length_append] at h
    simp only [app_get, List.length_append]
    by_cases hr : rs.getD m.toNat false = true
    · have e1 : stepOf rs m = [(1, m)] := by unfold stepOf; rw [if_pos hr]
      rw [e1] at h ⊢
      simp only [List.length_singleton] at h ⊢
      by_cases h0 : i = 0
      · subst h0
        refine ⟨fun hk => ?_, fun _ hf => ?_⟩
        · rw [if_pos (by omega)] at hk; exact absurd hk (by show ¬ (1 : Int) = 2; decide)
        · rw [if_pos (by omega)] at hf
          have hf : rs.getD m.toNat false = false := hf
          rw [hr] at hf; cases hf
      · obtain ⟨p1, p2⟩ := steps_at rs r (i - 1) (by omega)
        rw [if_neg (by omega), if_neg (by omega)]
        refine ⟨fun hk => ?_, fun hk hf => ?_⟩
        · obtain ⟨a, b, c⟩ := p1 hk
          exact ⟨a, by omega, by rw [show i + 1 - 1 = i - 1 + 1 by omega]; exact c⟩
        · obtain ⟨a, b⟩ := p2 hk hf
          exact ⟨by omega, by rw [if_neg (by omega)]; exact b⟩
    · have e1 : stepOf rs m = [(2, m), (1, m)] := by unfold stepOf; rw [if_neg hr]
      have hr' := Bool.eq_false_iff.2 hr
      rw [e1] at h ⊢
      have hl2 : [((2 : Int), m), (1, m)].length = 2 := rfl
      rw [hl2] at h ⊢
      by_cases h0 : i = 0
      · subst h0
        refine ⟨fun _ => ⟨?_, by omega, ?_⟩, fun hk => ?_⟩
        · rw [if_pos (by omega)]; exact hr'
        · rw [if_pos (by omega), if_pos (by omega)]; rfl
        · rw [if_pos (by omega)] at hk; exact absurd hk (by show ¬ (2 : Int) = 1; decide)
      · by_cases h1 : i = 1
        · subst h1
          refine ⟨fun hk => ?_, fun _ _ => ⟨by omega, ?_⟩⟩
          · rw [if_pos (by omega)] at hk; exact absurd hk (by show ¬ (1 : Int) = 2; decide)
          · rw [if_pos (by omega)]; rfl
        · obtain ⟨p1, p2⟩ := steps_at rs r (i - 2) (by omega)
          rw [if_neg (by omega), if_neg (by omega)]
          refine ⟨fun hk => ?_, fun hk hf => ?_⟩
          · obtain ⟨a, b, c⟩ := p1 hk
            exact ⟨a, by omega, by rw [show i + 1 - 2 = i - 2 + 1 by omega]; exact c⟩
          · obtain ⟨a, b⟩ := p2 hk hf
            exact ⟨by omega, by rw [if_neg (by omega), show i - 1 - 2 = i - 2 - 1 by omega]; exact b⟩
end EB
