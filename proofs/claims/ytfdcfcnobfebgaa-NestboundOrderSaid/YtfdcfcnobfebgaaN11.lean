import Derived.Test.YtfdcfcnobfebgaaN10
open Go Go.Proofs Go.Eng Go.Shelf
namespace NB
/-! #### A further piece; a longer bar -/
theorem upE_add {s C : Int} (hC : 0 < C) : upE (s + C) C = upE s C + 1 := by
  unfold upE
  have e : s + C + C - 1 = (s + C - 1) + C * 1 := by omega
  rw [e, Int.add_mul_ediv_left _ _ (by omega)]
theorem upE_step {s t C : Int} (hC : 0 < C) (h : s ≤ t) (h' : t ≤ s + C) : upE s C ≤ upE t C ∧ upE t C ≤ upE s C + 1 := by
  refine ⟨upE_mono hC h, ?_⟩
  rw [← upE_add hC]
  exact upE_mono hC h'
theorem mat_more {x : Int} {xs : List Int} {k C : Int} (hC : 0 < C) (h0 : 0 ≤ x + k) (h1 : x + k ≤ C) : matE xs k C ≤ matE (x :: xs) k C ∧ matE (x :: xs) k C ≤ matE xs k C + 1 := by
  unfold matE
  simp only [List.map_cons, List.sum_cons]
  exact upE_step hC (by omega) (by omega)
theorem pair_more {x : Int} {xs : List Int} {k C : Int} : pairE xs k C ≤ pairE (x :: xs) k C ∧ pairE (x :: xs) k C ≤ pairE xs k C + 1 := by
  have := big2_range k C x
  unfold pairE
  simp only [List.map_cons, List.sum_cons]
  omega
theorem below_more {x : Int} {xs : List Int} {k C a : Int} (hC : 0 < C) (h0 : 0 ≤ x + k) (h1 : x + k ≤ C) : belowE xs k C a ≤ belowE (x :: xs) k C a ∧ belowE (x :: xs) k C a ≤ belowE xs k C a + 1 := by
  have e : ∀ f : Int → Int, sumE f (x :: xs) k = f (x + k) + sumE f xs k := fun f => rfl
  unfold belowE
  simp only [e]
  generalize sumE (cntF a C) xs k = c
  generalize sumE (roomF a C) xs k = r
  generalize sumE (smallF a C) xs k = s
  rcases three a C (x + k) with ⟨_, q1, q2, q3⟩ | ⟨_, _, q1, q2, q3⟩ | ⟨_, _, _, q1, q2, q3⟩ | ⟨_, _, _, q1, q2, q3⟩
  · rw [q1, q2, q3]; simp only [Int.zero_add]; omega
  · have := upE_step (s := max 0 (0 + s - (C - (x + k) + r))) (t := max 0 (s - r)) hC (by omega) (by omega)
    rw [q1, q2, q3]; omega
  · have := upE_step (s := max 0 (s - r)) (t := max 0 (x + k + s - (0 + r))) hC (by omega) (by omega)
    rw [q1, q2, q3]; omega
  · rw [q1, q2, q3]; simp only [Int.zero_add]; omega
theorem great_le {xs : List Int} {k C c : Int} (hC : 0 < C) (h : ∀ a, okA C a → belowE xs k C a ≤ c) : greatE xs k C ≤ c := by
  obtain ⟨a, ha, hg⟩ := great_is (xs := xs) (k := k) hC
  have := h a ha
  omega
theorem best_more {x : Int} {xs : List Int} {k C : Int} (hC : 0 < C) (h0 : 0 ≤ x + k) (h1 : x + k ≤ C) : bestE xs k C ≤ bestE (x :: xs) k C ∧ bestE (x :: xs) k C ≤ bestE xs k C + 1 := by
  obtain ⟨m1, m2⟩ := mat_more (xs := xs) hC h0 h1
  obtain ⟨p1, p2⟩ := pair_more (x := x) (xs := xs) (k := k) (C := C)
  obtain ⟨g1, g2, g3, g4⟩ := best_ge xs k C
  obtain ⟨i1, i2, i3, i4⟩ := best_ge (x :: xs) k C
  refine ⟨best_le_of hC i4 (by omega) (by omega) fun a ha => ?_, best_le_of hC (by omega) (by omega) (by omega) fun a ha => ?_⟩
  · have := (below_more (xs := xs) (a := a) hC h0 h1).1
    have := great_ge (xs := x :: xs) (k := k) hC ha
    omega
  · have := (below_more (xs := xs) (a := a) hC h0 h1).2
    have := great_ge (xs := xs) (k := k) hC ha
    omega
theorem upE_anti {s C C' : Int} (h0 : 0 ≤ s) (hC : 0 < C) (h : C ≤ C') : upE s C' ≤ upE s C := by
  refine upE_le (by omega) ?_
  have h1 : s ≤ upE s C * C := by
    unfold upE
    have := Int.lt_ediv_add_one_mul_self (s + C - 1) hC
    rw [Int.add_mul] at this
    omega
  have h2 : 0 ≤ upE s C := by unfold upE; exact Int.ediv_nonneg (by omega) (by omega)
  exact Int.le_trans h1 (Int.mul_le_mul_of_nonneg_left h h2)
theorem mat_longer {xs : List Int} {k C C' : Int} (ho : Okx xs k C) (h : C ≤ C') : matE xs k C' ≤ matE xs k C := by
  have h1 := psum_range xs k C ho xs.length (Nat.le_refl _)
  rw [psum_all _ _ _ rfl] at h1
  have := ho.c0
  exact upE_anti h1.1 (by omega) h
theorem pair_longer {xs : List Int} {k C C' : Int} (h : C ≤ C') : pairE xs k C' ≤ pairE xs k C := by
  unfold pairE
  induction xs with
  | nil => simp
  | cons x xs ih =>
    simp only [List.map_cons, List.sum_cons]
    have : big2 k C' x ≤ big2 k C x := by unfold big2; split <;> split <;> omega
    omega
theorem drop_check {l : List Int} {a b : Int} (h : Fine l a b) : checkE ((pieces l).drop 1) (most l + a) (b % 20) = 0 := by
  have hm := most_range h
  have := h.a0; have := h.a1; have := h.b0; have := h.b1
  refine checkE_of (by rw [List.length_drop, pieces_len]; have := h.len; omega) (fun x hx => ?_) (by omega) (by omega) (by omega) (by omega)
  have hx := List.mem_of_mem_drop hx
  have h1 := pieces_mem h.el x hx
  have h2 := most_ge l x hx
  omega
/-- The bounds of all pieces, held against those of all but the first. -/
theorem more_all {l : List Int} {a b : Int} (h : Fine l a b) (h0 : l.length ≠ 0) :
    matE ((pieces l).drop 1) (b % 20) (most l + a + b % 20) ≤ matE (pieces l) (b % 20) (most l + a + b % 20) ∧ matE (pieces l) (b % 20) (most l + a + b % 20) ≤ matE ((pieces l).drop 1) (b % 20) (most l + a + b % 20) + 1 ∧
    pairE ((pieces l).drop 1) (b % 20) (most l + a + b % 20) ≤ pairE (pieces l) (b % 20) (most l + a + b % 20) ∧ pairE (pieces l) (b % 20) (most l + a + b % 20) ≤ pairE ((pieces l).drop 1) (b % 20) (most l + a + b % 20) + 1 ∧
    bestE ((pieces l).drop 1) (b % 20) (most l + a + b % 20) ≤ bestE (pieces l) (b % 20) (most l + a + b % 20) ∧ bestE (pieces l) (b % 20) (most l + a + b % 20) ≤ bestE ((pieces l).drop 1) (b % 20) (most l + a + b % 20) + 1 := by
  have ho := okx_of (fine_check0 h)
  have hC := ho.c0
  have hk := ho.k0
  have hx := okx_mem ho
  cases hp : pieces l with
  | nil => have := pieces_len l; rw [hp] at this; simp at this; omega
  | cons x xs =>
    rw [hp] at hx
    have h1 := hx x List.mem_cons_self
    simp only [List.drop_succ_cons, List.drop_zero]
    obtain ⟨m1, m2⟩ := mat_more (x := x) (xs := xs) (k := b % 20) (C := most l + a + b % 20) (by omega) (by omega) (by omega)
    obtain ⟨p1, p2⟩ := pair_more (x := x) (xs := xs) (k := b % 20) (C := most l + a + b % 20)
    obtain ⟨g1, g2⟩ := best_more (x := x) (xs := xs) (k := b % 20) (C := most l + a + b % 20) (by omega) (by omega) (by omega)
    exact ⟨m1, m2, p1, p2, g1, g2⟩
end NB
