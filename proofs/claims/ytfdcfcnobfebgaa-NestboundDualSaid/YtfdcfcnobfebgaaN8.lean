import Derived.Test.YtfdcfcnobfebgaaN7
open Go Go.Proofs Go.Eng Go.Shelf
namespace NB
/-! ### Plain: laws of the bounds -/
theorem checkE_of {xs : List Int} {L k : Int} (h1 : xs.length ≤ 64) (h2 : ∀ x ∈ xs, 1 ≤ x ∧ x ≤ 65536 ∧ x ≤ L) (h3 : 0 ≤ k) (h4 : k ≤ 1000) (h5 : 1 ≤ L) (h6 : L ≤ 65536) : checkE xs L k = 0 := by
  have e : xs.any badP = false := by
    rw [List.any_eq_false]
    intro x hx
    have := h2 x hx
    simp [badP]; omega
  have e2 : xs.any (longP L) = false := by
    rw [List.any_eq_false]
    intro x hx
    have := h2 x hx
    simp [longP]; omega
  unfold checkE piecesE
  rw [if_neg (by rw [if_neg (by omega), e, if_neg (by simp), if_neg (by omega)]; simp), if_neg (by omega), e2, if_neg (by simp)]
theorem pieces_mem {l : List Int} (hl : ∀ i, i < l.length → 0 ≤ l.getD i 0 ∧ l.getD i 0 ≤ 255) : ∀ x ∈ pieces l, 1 ≤ x ∧ x ≤ 256 := by
  intro x hx
  obtain ⟨i, hi, rfl⟩ := List.getElem_of_mem hx
  have hi' : i < l.length := by rwa [pieces_len] at hi
  have := hl i hi'
  have e := pieces_get l i hi'
  rw [List.getD_eq_getElem?_getD, List.getElem?_eq_getElem hi, Option.getD_some] at e
  omega
theorem foldl_max_ge : ∀ (xs : List Int) (b : Int), b ≤ xs.foldl max b ∧ ∀ x ∈ xs, x ≤ xs.foldl max b
  | [], b => ⟨Int.le_refl _, fun x hx => by cases hx⟩
  | y :: xs, b => by
    obtain ⟨h1, h2⟩ := foldl_max_ge xs (max b y)
    refine ⟨by simp only [List.foldl_cons]; omega, fun x hx => ?_⟩
    rcases List.mem_cons.1 hx with rfl | hx
    · simp only [List.foldl_cons]; omega
    · exact h2 x hx
theorem most_ge (l : List Int) : ∀ x ∈ pieces l, x ≤ most l := (foldl_max_ge _ _).2
structure Fine (l : List Int) (a b : Int) : Prop where
  len : l.length ≤ 8
  el : ∀ i, i < l.length → 0 ≤ l.getD i 0 ∧ l.getD i 0 ≤ 255
  a0 : 0 ≤ a
  a1 : a ≤ 255
  b0 : 0 ≤ b
  b1 : b ≤ 255
theorem most_range {l : List Int} {a b : Int} (h : Fine l a b) : 1 ≤ most l ∧ most l ≤ 256 := by
  have := mostAt_range l h.el l.length (Nat.le_refl _)
  have e : mostAt l l.length = most l := by rw [mostAt, List.take_of_length_le (by rw [pieces_len]; omega)]; rfl
  rwa [e] at this
theorem fine_check {l : List Int} {a b : Int} (h : Fine l a b) {c : Int} (hc : 0 ≤ c) (hc1 : c ≤ 255) : checkE (pieces l) (most l + a + c) (b % 20) = 0 := by
  have hm := most_range h
  have := h.a0; have := h.a1; have := h.b0; have := h.b1
  refine checkE_of (by rw [pieces_len]; have := h.len; omega) (fun x hx => ?_) (by omega) (by omega) (by omega) (by omega)
  have h1 := pieces_mem h.el x hx
  have h2 := most_ge l x hx
  omega
theorem fine_check0 {l : List Int} {a b : Int} (h : Fine l a b) : checkE (pieces l) (most l + a) (b % 20) = 0 := by
  have := fine_check h (c := 0) (by omega) (by omega)
  rwa [Int.add_zero] at this
/-! #### The best bound -/
theorem sum_le_len {f : Int → Int} {c : Int} : ∀ {xs : List Int}, (∀ x ∈ xs, f x ≤ c) → (xs.map f).sum ≤ xs.length * c
  | [], _ => by simp
  | x :: xs, h => by
    have h1 := h x List.mem_cons_self
    have h2 := sum_le_len (f := f) (c := c) (xs := xs) fun y hy => h y (List.mem_cons_of_mem _ hy)
    simp only [List.map_cons, List.sum_cons, List.length_cons]
    have e : ((xs.length + 1 : Nat) : Int) * c = xs.length * c + c := by
      rw [Int.natCast_add, Int.add_mul]; simp
    omega
theorem upE_le {a n C : Int} (hC : 0 < C) (h : a ≤ n * C) : upE a C ≤ n := by
  unfold upE
  have : (a + C - 1) / C < n + 1 := Int.ediv_lt_of_lt_mul hC (by rw [Int.add_mul]; omega)
  omega
theorem upE_pos {a C : Int} (hC : 0 < C) (h : 0 < a) : 0 < upE a C := by
  unfold upE
  have : 1 ≤ (a + C - 1) / C := Int.le_ediv_of_mul_le hC (by omega)
  omega
theorem okx_mem {xs : List Int} {k C : Int} (ho : Okx xs k C) : ∀ x ∈ xs, 1 ≤ x ∧ x + k ≤ C := by
  intro x hx
  obtain ⟨i, hi, rfl⟩ := List.getElem_of_mem hx
  have := ho.el i hi
  rw [List.getD_eq_getElem?_getD, List.getElem?_eq_getElem hi, Option.getD_some] at this
  omega
theorem mat_le {xs : List Int} {k C : Int} (ho : Okx xs k C) : matE xs k C ≤ xs.length :=
  upE_le (by have := ho.c0; omega) (sum_le_len fun x hx => (okx_mem ho x hx).2)
theorem pair_le {xs : List Int} {k C : Int} : pairE xs k C ≤ xs.length := by
  have := sum_le_len (f := big2 k C) (c := 1) (xs := xs) fun x hx => (big2_range k C x).2
  unfold pairE; omega
/-- What a piece adds to a bound, and to what the small ones need. -/
theorem below_split (xs : List Int) (k C a : Int) (ho : Okx xs k C) : ∃ s : Int, sumE (smallF a C) xs k ≤ s * C ∧ sumE (cntF a C) xs k + s ≤ xs.length ∧ 0 ≤ s ∧ 0 ≤ sumE (roomF a C) xs k := by
  have hC := ho.c0
  have h := okx_mem ho
  have hk := ho.k0
  clear ho
  induction xs with
  | nil => exact ⟨0, by simp [sumE], by simp [sumE], Int.le_refl _, by simp [sumE]⟩
  | cons x xs ih =>
    obtain ⟨s, h1, h2, h3, h4⟩ := ih fun y hy => h y (List.mem_cons_of_mem _ hy)
    have h5 := h x List.mem_cons_self
    have e : ∀ f : Int → Int, sumE f (x :: xs) k = f (x + k) + sumE f xs k := fun f => rfl
    simp only [e, List.length_cons]
    rcases three a C (x + k) with ⟨_, q1, q2, q3⟩ | ⟨_, _, q1, q2, q3⟩ | ⟨_, _, _, q1, q2, q3⟩ | ⟨_, _, _, q1, q2, q3⟩
    · exact ⟨s, by omega, by omega, h3, by omega⟩
    · exact ⟨s, by omega, by omega, h3, by omega⟩
    · exact ⟨s + 1, by rw [Int.add_mul]; omega, by omega, by omega, by omega⟩
    · exact ⟨s, by omega, by omega, h3, by omega⟩
theorem below_le {xs : List Int} {k C a : Int} (ho : Okx xs k C) : belowE xs k C a ≤ xs.length := by
  obtain ⟨s, h1, h2, h3, h4⟩ := below_split xs k C a ho
  have hC := ho.c0
  have : upE (max 0 (sumE (smallF a C) xs k - sumE (roomF a C) xs k)) C ≤ s := upE_le (by omega) (by
    have : 0 ≤ s * C := Int.mul_nonneg h3 (by omega)
    omega)
  unfold belowE
  omega
def bestE (xs : List Int) (k C : Int) : Int := max (max (max 0 (matE xs k C)) (pairE xs k C)) (greatE xs k C)
theorem bestR_ok {xs : List Int} {L k : Int} (h : checkE xs L k = 0) : bestR xs L k = bestE xs k (L + k) := if_pos h
theorem matR_ok {xs : List Int} {L k : Int} (h : checkE xs L k = 0) : matR xs L k = matE xs k (L + k) := if_pos h
theorem pairR_ok {xs : List Int} {L k : Int} (h : checkE xs L k = 0) : pairR xs L k = pairE xs k (L + k) := if_pos h
theorem best_ge (xs : List Int) (k C : Int) : matE xs k C ≤ bestE xs k C ∧ pairE xs k C ≤ bestE xs k C ∧ greatE xs k C ≤ bestE xs k C ∧ 0 ≤ bestE xs k C := by
  unfold bestE
  generalize matE xs k C = m
  generalize pairE xs k C = p
  generalize greatE xs k C = g
  omega
theorem max4 {m p g c : Int} (h0 : 0 ≤ c) (h1 : m ≤ c) (h2 : p ≤ c) (h3 : g ≤ c) : max (max (max 0 m) p) g ≤ c := by omega
theorem best_le_of {xs : List Int} {k C c : Int} (hC : 0 < C) (h0 : 0 ≤ c) (h1 : matE xs k C ≤ c) (h2 : pairE xs k C ≤ c) (h3 : ∀ a, okA C a → belowE xs k C a ≤ c) : bestE xs k C ≤ c := by
  obtain ⟨a, ha, hg⟩ := great_is (xs := xs) (k := k) hC
  have := h3 a ha
  exact max4 h0 h1 h2 (by rw [hg]; exact this)
theorem best_le {xs : List Int} {k C : Int} (ho : Okx xs k C) : bestE xs k C ≤ xs.length :=
  best_le_of (by have := ho.c0; omega) (by omega) (mat_le ho) pair_le fun a _ => below_le ho
theorem mat_pos {xs : List Int} {k C : Int} (ho : Okx xs k C) (hx : xs.length ≠ 0) : 0 < matE xs k C := by
  have hC := ho.c0
  have hk := ho.k0
  refine upE_pos (by omega) ?_
  cases xs with
  | nil => simp at hx
  | cons x xs =>
    have h := okx_mem ho
    have h1 := h x List.mem_cons_self
    have h2 : ∀ ys : List Int, (∀ y ∈ ys, 1 ≤ y) → 0 ≤ (ys.map (· + k)).sum := by
      intro ys
      induction ys with
      | nil => intro _; simp
      | cons y ys ih =>
        intro hy
        have h3 := hy y List.mem_cons_self
        have h4 := ih fun z hz => hy z (List.mem_cons_of_mem _ hz)
        simp only [List.map_cons, List.sum_cons]
        omega
    have h5 := h2 xs fun y hy => (h y (List.mem_cons_of_mem _ hy)).1
    simp only [List.map_cons, List.sum_cons]
    omega
/-! #### Kerfs -/
theorem sumE_kerf (f : Int → Int) (xs : List Int) (k : Int) : sumE f (xs.map (· + k)) 0 = sumE f xs k := by
  simp [sumE, List.map_map, Function.comp_def]
theorem below_kerf (xs : List Int) (k C a : Int) : belowE (xs.map (· + k)) 0 C a = belowE xs k C a := by
  simp only [belowE, sumE_kerf]
theorem mat_kerf (xs : List Int) (k C : Int) : matE (xs.map (· + k)) 0 C = matE xs k C := by
  simp [matE, List.map_map, Function.comp_def]
theorem pair_kerf (xs : List Int) (k C : Int) : pairE (xs.map (· + k)) 0 C = pairE xs k C := by
  simp [pairE, big2, List.map_map, Function.comp_def]
  rfl
theorem great_kerf (xs : List Int) (k C : Int) : greatE (xs.map (· + k)) 0 C = greatE xs k C := by
  have e : ∀ l b, bfold (xs.map (· + k)) 0 C l b = bfold xs k C l b := by
    intro l b
    have : bstep (xs.map (· + k)) 0 C = bstep xs k C := by
      funext b a
      simp only [bstep, below_kerf]
    unfold bfold
    rw [this]
  simp only [greatE, List.foldl_map, below_kerf, e, Int.add_zero]
theorem best_kerf (xs : List Int) (k C : Int) : bestE (xs.map (· + k)) 0 C = bestE xs k C := by
  simp only [bestE, mat_kerf, pair_kerf, great_kerf]
end NB
