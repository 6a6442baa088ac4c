import Derived.Test.YtfdcfcnobfebgaaN3b
open Go Go.Proofs Go.Eng Go.Shelf
namespace NB
/-! ### Plain: the greatest bound is the reference's -/
def okA (C a : Int) : Prop := 0 ≤ a ∧ 2 * a ≤ C
theorem bstep_cases (xs : List Int) (k C b a : Int) : (okA C a ∧ bstep xs k C b a = max b (belowE xs k C a)) ∨ (¬ okA C a ∧ bstep xs k C b a = b) := by
  unfold bstep
  split
  · rename_i h; exact .inl ⟨h, rfl⟩
  · rename_i h; exact .inr ⟨h, rfl⟩
theorem bfold_ge (xs : List Int) (k C : Int) : ∀ (l : List Int) (b : Int), b ≤ bfold xs k C l b
  | [], b => Int.le_refl _
  | a :: l, b => by
    have h := bfold_ge xs k C l (bstep xs k C b a)
    have e : bfold xs k C (a :: l) b = bfold xs k C l (bstep xs k C b a) := rfl
    rcases bstep_cases xs k C b a with ⟨_, h1⟩ | ⟨_, h1⟩ <;> omega
theorem bfold_mem (xs : List Int) (k C : Int) : ∀ (l : List Int) (b a : Int), a ∈ l → okA C a → belowE xs k C a ≤ bfold xs k C l b
  | c :: l, b, a, hm, ho => by
    have e : bfold xs k C (c :: l) b = bfold xs k C l (bstep xs k C b c) := rfl
    rcases List.mem_cons.1 hm with rfl | hm
    · have h := bfold_ge xs k C l (bstep xs k C b a)
      rcases bstep_cases xs k C b a with ⟨_, h1⟩ | ⟨h1, _⟩
      · omega
      · exact absurd ho h1
    · rw [e]; exact bfold_mem xs k C l _ a hm ho
theorem bfold_is (xs : List Int) (k C : Int) : ∀ (l : List Int) (b : Int), bfold xs k C l b = b ∨ ∃ a, okA C a ∧ bfold xs k C l b = belowE xs k C a
  | [], b => .inl rfl
  | c :: l, b => by
    have e : bfold xs k C (c :: l) b = bfold xs k C l (bstep xs k C b c) := rfl
    rcases bfold_is xs k C l (bstep xs k C b c) with h | ⟨a, h1, h2⟩
    · rcases bstep_cases xs k C b c with ⟨h1, h2⟩ | ⟨h1, h2⟩
      · rcases (by omega : max b (belowE xs k C c) = b ∨ max b (belowE xs k C c) = belowE xs k C c) with h3 | h3
        · exact .inl (by omega)
        · exact .inr ⟨c, h1, by omega⟩
      · exact .inl (by omega)
    · exact .inr ⟨a, h1, by omega⟩
theorem dfold_eq (xs : List Int) (k C : Int) (f : Int → List Int) : ∀ (ys : List Int) (b : Int), ys.foldl (fun b x => bfold xs k C (f x) b) b = bfold xs k C (ys.flatMap f) b
  | [], b => rfl
  | y :: ys, b => by
    simp only [List.foldl_cons, List.flatMap_cons]
    rw [dfold_eq xs k C f ys]
    unfold bfold
    rw [List.foldl_append]
theorem sumE_le {f g : Int → Int} {k : Int} : ∀ {xs : List Int}, (∀ x ∈ xs, f (x + k) ≤ g (x + k)) → sumE f xs k ≤ sumE g xs k
  | [], _ => Int.le_refl _
  | x :: xs, h => by
    have h1 := h x List.mem_cons_self
    have h2 := sumE_le (xs := xs) fun y hy => h y (List.mem_cons_of_mem _ hy)
    simp only [sumE, List.map_cons, List.sum_cons] at h2 ⊢
    omega
theorem sumE_congr {f g : Int → Int} {k : Int} {xs : List Int} (h : ∀ x ∈ xs, f (x + k) = g (x + k)) : sumE f xs k = sumE g xs k :=
  Int.le_antisymm (sumE_le fun x hx => Int.le_of_eq (h x hx)) (sumE_le fun x hx => Int.le_of_eq (h x hx).symm)
theorem upE_mono {a b C : Int} (hC : 0 < C) (h : a ≤ b) : upE a C ≤ upE b C := by
  unfold upE
  exact Int.ediv_le_ediv hC (by omega)
/-- A lesser number with as much room bounds at least as well. -/
theorem belowE_mono {xs : List Int} {k C a a' : Int} (hC : 0 < C) (h : okA C a) (h' : okA C a') (hle : a' ≤ a) (hroom : ∀ x ∈ xs, C < 2 * (x + k) → C - a < x + k → C - a' < x + k) : belowE xs k C a ≤ belowE xs k C a' := by
  have h1 : sumE (cntF a C) xs k = sumE (cntF a' C) xs k := sumE_congr fun x hx => by
    unfold okA at h h'
    unfold cntF
    split <;> split <;> (try split) <;> omega
  have h2 : sumE (roomF a C) xs k = sumE (roomF a' C) xs k := sumE_congr fun x hx => by
    have := hroom x hx
    unfold okA at h h'
    unfold roomF
    split <;> split <;> (try split) <;> omega
  have h3 : sumE (smallF a C) xs k ≤ sumE (smallF a' C) xs k := by
    refine sumE_le fun x hx => ?_
    unfold okA at h h'
    unfold smallF
    split <;> (try split) <;> (try split) <;> (try split) <;> (try split) <;> (try split) <;> omega
  unfold belowE
  rw [h1, h2]
  have := upE_mono (C := C) hC (a := max 0 (sumE (smallF a C) xs k - sumE (roomF a' C) xs k)) (b := max 0 (sumE (smallF a' C) xs k - sumE (roomF a' C) xs k)) (by omega)
  omega
theorem pick (k C a : Int) (h : okA C a) : ∀ ys : List Int, ∃ a', (a' = 0 ∨ ∃ x ∈ ys, a' = C - (x + k) + 1) ∧ 0 ≤ a' ∧ a' ≤ a ∧ ∀ x ∈ ys, C < 2 * (x + k) → C - a < x + k → C - a' < x + k
  | [] => ⟨0, .inl rfl, Int.le_refl _, h.1, fun x hx => by cases hx⟩
  | y :: ys => by
    obtain ⟨a', h1, h2, h3, h4⟩ := pick k C a h ys
    by_cases hc : C < 2 * (y + k) ∧ C - a < y + k ∧ ¬ C - a' < y + k
    · refine ⟨C - (y + k) + 1, .inr ⟨y, List.mem_cons_self, rfl⟩, by omega, by omega, fun x hx q1 q2 => ?_⟩
      rcases List.mem_cons.1 hx with rfl | hx
      · omega
      · have := h4 x hx q1 q2
        omega
    · refine ⟨a', ?_, h2, h3, fun x hx q1 q2 => ?_⟩
      · rcases h1 with h1 | ⟨x, hx, h1⟩
        · exact .inl h1
        · exact .inr ⟨x, List.mem_cons_of_mem _ hx, h1⟩
      · rcases List.mem_cons.1 hx with rfl | hx
        · omega
        · exact h4 x hx q1 q2
theorem bound_pick {xs : List Int} {k C a : Int} (hC : 0 < C) (h : okA C a) : ∃ a', (a' = 0 ∨ ∃ x ∈ xs, a' = C - (x + k) + 1) ∧ okA C a' ∧ belowE xs k C a ≤ belowE xs k C a' := by
  obtain ⟨a', h1, h2, h3, h4⟩ := pick k C a h xs
  have h' : okA C a' := by unfold okA at h ⊢; omega
  exact ⟨a', h1, h', belowE_mono hC h h' h3 h4⟩
theorem great_ge {xs : List Int} {k C a : Int} (hC : 0 < C) (h : okA C a) : belowE xs k C a ≤ greatE xs k C := by
  obtain ⟨a', h1, h2, h3⟩ := bound_pick (xs := xs) (k := k) hC h
  refine Int.le_trans h3 ?_
  unfold greatE
  rw [dfold_eq xs k C fun x => cand C (x + k)]
  rcases h1 with rfl | ⟨x, hx, rfl⟩
  · exact bfold_ge _ _ _ _ _
  · exact bfold_mem _ _ _ _ _ _ (List.mem_flatMap.2 ⟨x, hx, by simp [cand]⟩) h2
theorem great_is {xs : List Int} {k C : Int} (hC : 0 < C) : ∃ a, okA C a ∧ greatE xs k C = belowE xs k C a := by
  unfold greatE
  rw [dfold_eq xs k C fun x => cand C (x + k)]
  rcases bfold_is xs k C (xs.flatMap fun x => cand C (x + k)) (belowE xs k C 0) with h | h
  · exact ⟨0, by unfold okA; omega, h⟩
  · exact h
theorem ref_ge {xs : List Int} {k C a : Int} (hC : 0 < C) (hx : xs ≠ []) (h : okA C a) : belowE xs k C a ≤ refE xs k C := by
  obtain ⟨a', h1, h2, h3⟩ := bound_pick (xs := xs) (k := k) hC h
  refine Int.le_trans h3 ?_
  unfold refE
  rw [dfold_eq xs k C fun x => cand6 C (x + k)]
  rcases h1 with rfl | ⟨x, hx, rfl⟩
  · obtain ⟨x, hx⟩ := List.exists_mem_of_ne_nil _ hx
    exact bfold_mem _ _ _ _ _ _ (List.mem_flatMap.2 ⟨x, hx, by simp [cand6]⟩) h2
  · exact bfold_mem _ _ _ _ _ _ (List.mem_flatMap.2 ⟨x, hx, by simp [cand6]⟩) h2
theorem ref_is (xs : List Int) (k C : Int) : refE xs k C = max (matE xs k C) (pairE xs k C) ∨ ∃ a, okA C a ∧ refE xs k C = belowE xs k C a := by
  unfold refE
  rw [dfold_eq xs k C fun x => cand6 C (x + k)]
  exact bfold_is _ _ _ _ _
theorem ref_base (xs : List Int) (k C : Int) : max (matE xs k C) (pairE xs k C) ≤ refE xs k C := by
  unfold refE
  rw [dfold_eq xs k C fun x => cand6 C (x + k)]
  exact bfold_ge _ _ _ _ _
theorem matE_nonneg {xs : List Int} {k C : Int} (ho : Okx xs k C) : 0 ≤ matE xs k C := by
  have h1 := psum_range xs k C ho xs.length (Nat.le_refl _)
  rw [psum_all _ _ _ rfl] at h1
  have := ho.c0
  unfold matE upE
  exact Int.ediv_nonneg (by omega) (by omega)
theorem fin1 {m p g r : Int} (h1 : r ≤ max (max (max 0 m) p) g) (h2 : 0 ≤ m) (h3 : max m p ≤ r) (h4 : g ≤ r) : max (max (max 0 m) p) g = r := by omega
theorem fin2 {m p g : Int} (h1 : m = 0) (h2 : p = 0) (h3 : g = 0) : max (max (max 0 m) p) g = max m p := by omega
theorem fin3 {m p g r : Int} (h : r = max m p) : r ≤ max (max (max 0 m) p) g := by omega
theorem fin4 {m p g r c : Int} (h : r = c) (h' : c ≤ g) : r ≤ max (max (max 0 m) p) g := by omega
theorem best_eq (xs : List Int) (L k : Int) : bestR xs L k = refR xs L k := by
  unfold bestR refR
  split
  · rename_i h
    have ho := okx_of h
    have hC : 0 < L + k := by have := ho.c0; omega
    have hm := matE_nonneg ho
    have hb := ref_base xs k (L + k)
    obtain ⟨a, ha, hg⟩ := great_is (xs := xs) (k := k) hC
    have hr := ref_is xs k (L + k)
    have h1 : refE xs k (L + k) ≤ max (max (max 0 (matE xs k (L + k))) (pairE xs k (L + k))) (greatE xs k (L + k)) := by
      rcases hr with hr | ⟨c, hc, hr⟩
      · exact fin3 hr
      · exact fin4 hr (great_ge (xs := xs) (k := k) hC hc)
    by_cases hx : xs = []
    · clear h1 hr hb hm ho h
      subst hx
      have e1 : matE [] k (L + k) = 0 := upE_zero hC
      have e2 : belowE [] k (L + k) a = 0 := by
        have e : belowE [] k (L + k) a = 0 + upE 0 (L + k) := rfl
        rw [e, upE_zero hC]; rfl
      have e3 : pairE [] k (L + k) = 0 := rfl
      exact fin2 e1 e3 (hg.trans e2)
    · have h5 := ref_ge (xs := xs) (k := k) hC hx ha
      exact fin1 h1 hm hb (by rw [hg]; exact h5)
  · rfl
end NB
