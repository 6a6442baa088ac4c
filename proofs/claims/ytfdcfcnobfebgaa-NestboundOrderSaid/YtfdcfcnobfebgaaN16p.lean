import Derived.Test.YtfdcfcnobfebgaaN15
open Go Go.Proofs Go.Eng Go.Shelf
namespace NB
/-! ### The bounds and the order of the pieces -/
theorem sum_perm {xs ys : List Int} (h : xs.Perm ys) : xs.sum = ys.sum := by
  induction h with
  | nil => rfl
  | cons x _ ih => simp [ih]
  | swap x y l => simp; omega
  | trans _ _ h1 h2 => rw [h1, h2]
theorem any_perm {xs ys : List Int} (h : xs.Perm ys) (p : Int → Bool) : xs.any p = ys.any p := by
  rw [Bool.eq_iff_iff, List.any_eq_true, List.any_eq_true]
  exact ⟨fun ⟨x, h1, h2⟩ => ⟨x, h.mem_iff.1 h1, h2⟩, fun ⟨x, h1, h2⟩ => ⟨x, h.mem_iff.2 h1, h2⟩⟩
theorem piecesE_perm {xs ys : List Int} (h : xs.Perm ys) (k : Int) : piecesE xs k = piecesE ys k := by
  unfold piecesE; rw [h.length_eq, any_perm h]
theorem checkE_perm {xs ys : List Int} (h : xs.Perm ys) (L k : Int) : checkE xs L k = checkE ys L k := by
  unfold checkE; rw [piecesE_perm h, any_perm h]
theorem matE_perm {xs ys : List Int} (h : xs.Perm ys) (k C : Int) : matE xs k C = matE ys k C := by
  unfold matE; rw [sum_perm (h.map _)]
theorem matR_perm {xs ys : List Int} (h : xs.Perm ys) (L k : Int) : matR xs L k = matR ys L k := by
  unfold matR; rw [checkE_perm h, matE_perm h]
theorem pairE_perm {xs ys : List Int} (h : xs.Perm ys) (k C : Int) : pairE xs k C = pairE ys k C := by
  unfold pairE; rw [sum_perm (h.map _)]
theorem pairR_perm {xs ys : List Int} (h : xs.Perm ys) (L k : Int) : pairR xs L k = pairR ys L k := by
  unfold pairR; rw [checkE_perm h, pairE_perm h]
theorem sumE_perm {xs ys : List Int} (h : xs.Perm ys) (f : Int → Int) (k : Int) : sumE f xs k = sumE f ys k := by
  unfold sumE; rw [sum_perm (h.map _)]
theorem belowE_perm {xs ys : List Int} (h : xs.Perm ys) (k C a : Int) : belowE xs k C a = belowE ys k C a := by
  unfold belowE; rw [sumE_perm h, sumE_perm h, sumE_perm h]
theorem greatE_perm {xs ys : List Int} (h : xs.Perm ys) {k C : Int} (hC : 0 < C) : greatE xs k C = greatE ys k C := by
  refine Int.le_antisymm (great_le hC fun a ha => ?_) (great_le hC fun a ha => ?_)
  · rw [belowE_perm h]; exact great_ge hC ha
  · rw [← belowE_perm h]; exact great_ge hC ha
theorem bestR_perm {xs ys : List Int} (h : xs.Perm ys) {L k : Int} (hC : 0 < L + k) : bestR xs L k = bestR ys L k := by
  unfold bestR; rw [checkE_perm h, matE_perm h, pairE_perm h, greatE_perm h hC]
theorem perm_rot (xs : List Int) (m : Nat) : (xs.drop m ++ xs.take m).Perm xs := by
  have := List.perm_append_comm (l₁ := xs.drop m) (l₂ := xs.take m)
  rwa [List.take_append_drop] at this
end NB
