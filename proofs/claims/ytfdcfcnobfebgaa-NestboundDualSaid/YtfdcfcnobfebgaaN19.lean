import Derived.Test.YtfdcfcnobfebgaaN18
open Go Go.Proofs Go.Eng Go.Shelf
namespace NB
set_option maxRecDepth 10000
theorem sumI_range (f : Int → Int) : ∀ xs : List Int, sumI (fun j => f (xs.getD j 0)) (List.range xs.length) = (xs.map f).sum
  | [] => rfl
  | x :: xs => by
    have ih := sumI_range f xs
    rw [List.length_cons, List.range_succ_eq_map, sumI_cons]
    simp only [sumI, List.map_map] at ih ⊢
    simp only [List.map_cons, List.sum_cons]
    rw [← ih]
    rfl
/-! #### A bar's weights -/
theorem sumI_le {f g : Nat → Int} : ∀ {js : List Nat}, (∀ j ∈ js, f j ≤ g j) → sumI f js ≤ sumI g js
  | [], _ => Int.le_refl _
  | j :: js, h => by
    have h1 := h j List.mem_cons_self
    have h2 := sumI_le (js := js) fun i hi => h i (List.mem_cons_of_mem _ hi)
    rw [sumI_cons, sumI_cons]; omega
theorem pairs_bar {C : Int} {w : Nat → Int} : ∀ {js : List Nat}, (∀ j ∈ js, 0 ≤ w j) → sumI w js ≤ C → 0 ≤ C → sumI (fun j => if C < 2 * w j then 1 else 0) js ≤ 1 ∧ (2 * sumI w js ≤ C → sumI (fun j => if C < 2 * w j then 1 else 0) js = 0)
  | [], _, _, _ => by simp [sumI]
  | j :: js, h, hs, hC => by
    have h1 := h j List.mem_cons_self
    have h3 : 0 ≤ sumI w js := by
      have := sumI_le (f := fun _ => 0) (g := w) (js := js) fun i hi => h i (List.mem_cons_of_mem _ hi)
      have e : sumI (fun _ => 0) js = 0 := by clear this hs h; induction js with | nil => rfl | cons a r ih => rw [sumI_cons, ih]; rfl
      omega
    rw [sumI_cons] at hs
    obtain ⟨h4, h5⟩ := pairs_bar (js := js) (fun i hi => h i (List.mem_cons_of_mem _ hi)) (by omega) hC
    rw [sumI_cons, sumI_cons]
    by_cases hb : C < 2 * w j
    · rw [if_pos hb, h5 (by omega)]; exact ⟨by omega, fun h => by omega⟩
    · rw [if_neg hb]; exact ⟨by omega, fun h => by rw [h5 (by omega)]; rfl⟩
def belF (a C w : Int) : Int := smallF a C w - roomF a C w + C * cntF a C w
theorem belF_cases {a C w : Int} (h0 : 0 ≤ a) (h1 : 2 * a ≤ C) (hw : 0 ≤ w) : (C < 2 * w ∧ C - a < w ∧ belF a C w = C) ∨ (C < 2 * w ∧ w ≤ C - a ∧ belF a C w = w) ∨ (2 * w ≤ C ∧ a ≤ w ∧ belF a C w = w) ∨ (2 * w ≤ C ∧ w < a ∧ belF a C w = 0) := by
  unfold belF smallF roomF cntF
  by_cases hb : C - a < w
  · left; rw [if_pos hb, if_pos hb, if_pos hb]; exact ⟨by omega, hb, by omega⟩
  · right
    rw [if_neg hb, if_neg hb, if_neg hb]
    by_cases h2 : C < 2 * w
    · left; rw [if_pos h2, if_pos h2, if_pos h2]; exact ⟨h2, by omega, by omega⟩
    · right
      rw [if_neg h2, if_neg h2, if_neg h2]
      by_cases h3 : a ≤ w
      · left; rw [if_pos h3]; exact ⟨by omega, h3, by omega⟩
      · right; rw [if_neg h3]; exact ⟨by omega, by omega, by omega⟩
theorem below_bar {a C : Int} (h0 : 0 ≤ a) (h1 : 2 * a ≤ C) {w : Nat → Int} : ∀ {js : List Nat}, (∀ j ∈ js, 0 ≤ w j) → sumI w js ≤ C →
    (sumI w js < a → sumI (fun j => belF a C (w j)) js = 0) ∧ (sumI (fun j => belF a C (w j)) js ≤ sumI w js ∨ (sumI (fun j => belF a C (w j)) js ≤ C ∧ C - a < sumI w js)) ∧ 0 ≤ sumI w js
  | [], _, _ => by simp [sumI]
  | j :: js, h, hs => by
    have hw := h j List.mem_cons_self
    rw [sumI_cons] at hs
    have hj := belF_cases h0 h1 hw
    have h3 : 0 ≤ sumI w js := by
      have := sumI_le (f := fun _ => 0) (g := w) (js := js) fun i hi => h i (List.mem_cons_of_mem _ hi)
      have e : sumI (fun _ => 0) js = 0 := by clear this hs h; induction js with | nil => rfl | cons a r ih => rw [sumI_cons, ih]; rfl
      omega
    obtain ⟨h4, h5, _⟩ := below_bar h0 h1 (js := js) (fun i hi => h i (List.mem_cons_of_mem _ hi)) (by omega)
    rw [sumI_cons, sumI_cons]
    generalize sumI w js = S at *
    generalize sumI (fun j => belF a C (w j)) js = T at *
    generalize belF a C (w j) = b at *
    refine ⟨fun hlt => ?_, ?_, by omega⟩
    · have := h4 (by omega); omega
    · rcases hj with ⟨q1, q2, q3⟩ | ⟨q1, q2, q3⟩ | ⟨q1, q2, q3⟩ | ⟨q1, q2, q3⟩
      · have := h4 (by omega); omega
      · omega
      · omega
      · omega
/-! #### The bounds -/
theorem sizes_nonneg {xs : List Int} {k : Int} (h : SizesOk xs k) {js : List Nat} (hj : js.Sublist (List.range xs.length)) : ∀ j ∈ js, 0 ≤ xs.getD j 0 + k := fun j hm => by
  have := hj.subset hm
  have := h.2.1 j (by simpa using this)
  have := h.2.2.1
  omega
theorem true_mat {bars xs : List Int} {L k : Int} (hf : fitP bars xs L k) (hC : 0 < L + k) : matE xs k (L + k) ≤ (usedM bars xs k xs.length).es.length := by
  have h := fit_weights hf (fun j => xs.getD j 0 + k) (L + k) fun js _ h => h
  rw [sumI_range (· + k)] at h
  exact upE_le hC h
theorem true_pair {bars xs : List Int} {L k : Int} (hf : fitP bars xs L k) (hs : SizesOk xs k) (hC : 0 < L + k) : pairE xs k (L + k) ≤ (usedM bars xs k xs.length).es.length := by
  have h := fit_weights hf (fun j => big2 k (L + k) (xs.getD j 0)) 1 fun js hj h => (pairs_bar (sizes_nonneg hs hj) h (by omega)).1
  rw [sumI_range (big2 k (L + k))] at h
  unfold pairE
  omega
theorem sum3 (f g h : Int → Int) (C k : Int) : ∀ xs : List Int, (xs.map fun x => f (x + k) - g (x + k) + C * h (x + k)).sum = sumE f xs k - sumE g xs k + C * sumE h xs k
  | [] => by simp [sumE]
  | x :: xs => by
    have ih := sum3 f g h C k xs
    simp only [sumE, List.map_cons, List.sum_cons] at ih ⊢
    rw [ih, Int.mul_add]; omega
theorem cnt_pair {xs : List Int} {k C a : Int} (h0 : 0 ≤ a) (h1 : 2 * a ≤ C) : sumE (cntF a C) xs k = pairE xs k C := by
  unfold sumE pairE
  congr 1
  refine List.map_congr_left fun x _ => ?_
  unfold cntF big2
  by_cases h2 : C < 2 * (x + k)
  · rw [if_pos h2]; split <;> rfl
  · rw [if_neg h2, if_neg (by omega)]
theorem true_below {bars xs : List Int} {L k a : Int} (hf : fitP bars xs L k) (hs : SizesOk xs k) (hC : 0 < L + k) (ha : okA (L + k) a) : belowE xs k (L + k) a ≤ (usedM bars xs k xs.length).es.length := by
  have h := fit_weights hf (fun j => belF a (L + k) (xs.getD j 0 + k)) (L + k) fun js hj h => by
    have := (below_bar ha.1 ha.2 (sizes_nonneg hs hj) h).2.1
    omega
  have hp := true_pair hf hs hC
  rw [sumI_range fun x => belF a (L + k) (x + k)] at h
  unfold belF at h
  rw [sum3 (smallF a (L + k)) (roomF a (L + k)) (cntF a (L + k)) (L + k) k xs] at h
  rw [← cnt_pair ha.1 ha.2] at hp
  unfold belowE
  generalize sumE (cntF a (L + k)) xs k = c at *
  generalize ((usedM bars xs k xs.length).es.length : Int) = n at *
  have h2 : upE (max 0 (sumE (smallF a (L + k)) xs k - sumE (roomF a (L + k)) xs k)) (L + k) ≤ n - c := by
    refine upE_le hC ?_
    have h3 : 0 ≤ (n - c) * (L + k) := Int.mul_nonneg (by omega) (by omega)
    have h4 : (n - c) * (L + k) = n * (L + k) - (L + k) * c := by rw [Int.sub_mul, Int.mul_comm c]
    omega
  omega
theorem true_best {bars xs : List Int} {L k : Int} (hf : fitP bars xs L k) (hs : SizesOk xs k) (hC : 0 < L + k) : bestE xs k (L + k) ≤ (usedM bars xs k xs.length).es.length :=
  best_le_of hC (by omega) (true_mat hf hC) (true_pair hf hs hC) fun a ha => true_below hf hs hC ha
theorem sizesOk_fine {l : List Int} {a b : Int} (h : Fine l a b) : SizesOk (pieces l) (b % 20) := by
  have h1 := h.b0; have h2 := h.b1; have h3 := h.len
  refine ⟨by rw [pieces_len]; omega, fun i hi => ?_, by omega, by omega⟩
  rw [pieces_len] at hi
  have := h.el i hi
  rw [pieces_get l i hi]
  omega
theorem b4 (l bars : List Int) (a b : Int) (hl : Okd (.slice (.int .u8)) l) (hbs : Okd (.slice (.int .u8)) bars) (ha : inK .u8 a) (hb : inK .u8 b) : body Try.prog [c11, c12, c14, c16, c18, c19] {} true Try.f4 [Bs l, Bs bars, U a, U b] (.val (.bool true)) := by
  (repeat' ((conv => whnf); first | (refine Giv.mk (fun _ => ?_)) | (refine Alt.l (Need.mk ?h ?_); case h => omega) | (refine Alt.r (Need.mk ?h ?_); case h => omega) | (refine Need.mk ?h ?_; case h => omega) | (refine Need.mk ?h ?_; case h => (intro _; rfl)) | (refine Need.mk ?h ?_; case h => assumption) | (refine Need.mk ?h ?_; case h => (simp <;> omega)) | (refine Ix.zero ?_) | (refine Ix.one ?_) | (refine Ix.two ?_) | (refine Ix.nat ?_) | (refine Ix.add ?_) | (apply Go.Eng.Pin.mk; apply Exists.intro) | (apply Go.Eng.Pinned.mk (Eq.refl _) (Eq.refl _)) | (apply Go.Eng.PinH.mk; apply Exists.intro; apply Exists.intro) | (exact Go.Eng.Fin0.mk) | (refine Go.Eng.Chk.mk ?_ ?_) | (refine Br.mkY ?h ?_; case h => omega) | (refine Br.mkN ?h ?_; case h => omega) | fail))
  (refine Br.mk (fun _ => ?_) (fun _ => ?_))
  · (repeat' ((conv => whnf); first | (refine Giv.mk (fun _ => ?_)) | (refine Alt.l (Need.mk ?h ?_); case h => omega) | (refine Alt.r (Need.mk ?h ?_); case h => omega) | (refine Need.mk ?h ?_; case h => omega) | (refine Need.mk ?h ?_; case h => (intro _; rfl)) | (refine Need.mk ?h ?_; case h => assumption) | (refine Need.mk ?h ?_; case h => (simp <;> omega)) | (refine Ix.zero ?_) | (refine Ix.one ?_) | (refine Ix.two ?_) | (refine Ix.nat ?_) | (refine Ix.add ?_) | (apply Go.Eng.Pin.mk; apply Exists.intro) | (apply Go.Eng.Pinned.mk (Eq.refl _) (Eq.refl _)) | (apply Go.Eng.PinH.mk; apply Exists.intro; apply Exists.intro) | (exact Go.Eng.Fin0.mk) | (refine Go.Eng.Chk.mk ?_ ?_) | fail))
    (conv => whnf)
  · (repeat' ((conv => whnf); first | (refine Giv.mk (fun _ => ?_)) | (refine Alt.l (Need.mk ?h ?_); case h => omega) | (refine Alt.r (Need.mk ?h ?_); case h => omega) | (refine Need.mk ?h ?_; case h => omega) | (refine Need.mk ?h ?_; case h => (intro _; rfl)) | (refine Need.mk ?h ?_; case h => assumption) | (refine Need.mk ?h ?_; case h => (simp <;> omega)) | (refine Ix.zero ?_) | (refine Ix.one ?_) | (refine Ix.two ?_) | (refine Ix.nat ?_) | (refine Ix.add ?_) | (apply Go.Eng.Pin.mk; apply Exists.intro) | (apply Go.Eng.Pinned.mk (Eq.refl _) (Eq.refl _)) | (apply Go.Eng.PinH.mk; apply Exists.intro; apply Exists.intro) | (exact Go.Eng.Fin0.mk) | (refine Go.Eng.Chk.mk ?_ ?_) | fail))
    (refine Br.mk (fun _ => ?_) (fun _ => ?_))
    · (repeat' ((conv => whnf); first | (refine Giv.mk (fun _ => ?_)) | (refine Alt.l (Need.mk ?h ?_); case h => omega) | (refine Alt.r (Need.mk ?h ?_); case h => omega) | (refine Need.mk ?h ?_; case h => omega) | (refine Need.mk ?h ?_; case h => (intro _; rfl)) | (refine Need.mk ?h ?_; case h => assumption) | (refine Need.mk ?h ?_; case h => (simp <;> omega)) | (refine Ix.zero ?_) | (refine Ix.one ?_) | (refine Ix.two ?_) | (refine Ix.nat ?_) | (refine Ix.add ?_) | (apply Go.Eng.Pin.mk; apply Exists.intro) | (apply Go.Eng.Pinned.mk (Eq.refl _) (Eq.refl _)) | (apply Go.Eng.PinH.mk; apply Exists.intro; apply Exists.intro) | (exact Go.Eng.Fin0.mk) | (refine Go.Eng.Chk.mk ?_ ?_) | fail))
      (conv => whnf)
    · have hf := fine_of (by omega) hl ha hb
      have hz := fine_check0 hf
      have ho := okx_of hz
      have hC : 0 < most l + a + b % 20 := by have := ho.c0; omega
      have hs := sizesOk_fine hf
      have hm := most_range hf
      have e1 := bestR_ok hz
      have e2 := matR_ok hz
      have e3 := pairR_ok hz
      have hpl := pieces_len l
      have hfa := hf.a1
      have hfa0 := hf.a0
      (repeat' ((conv => whnf); first | (refine Giv.mk (fun _ => ?_)) | (refine Alt.l (Need.mk ?h ?_); case h => omega) | (refine Alt.r (Need.mk ?h ?_); case h => omega) | (refine Need.mk ?h ?_; case h => omega) | (refine Need.mk ?h ?_; case h => (intro _; rfl)) | (refine Need.mk ?h ?_; case h => assumption) | (refine Need.mk ?h ?_; case h => (simp <;> omega)) | (refine Ix.zero ?_) | (refine Ix.one ?_) | (refine Ix.two ?_) | (refine Ix.nat ?_) | (refine Ix.add ?_) | (apply Go.Eng.Pin.mk; apply Exists.intro) | (apply Go.Eng.Pinned.mk (Eq.refl _) (Eq.refl _)) | (apply Go.Eng.PinH.mk; apply Exists.intro; apply Exists.intro) | (exact Go.Eng.Fin0.mk) | (refine Go.Eng.Chk.mk ?_ ?_) | fail))
      refine Need.mk ⟨hf.len, hf.el, hf.a0, hf.a1, hf.b0, hf.b1⟩ ?_
      (repeat' ((conv => whnf); first | (refine Giv.mk (fun _ => ?_)) | (refine Alt.l (Need.mk ?h ?_); case h => omega) | (refine Alt.r (Need.mk ?h ?_); case h => omega) | (refine Need.mk ?h ?_; case h => omega) | (refine Need.mk ?h ?_; case h => (intro _; rfl)) | (refine Need.mk ?h ?_; case h => assumption) | (refine Need.mk ?h ?_; case h => (simp <;> omega)) | (refine Ix.zero ?_) | (refine Ix.one ?_) | (refine Ix.two ?_) | (refine Ix.nat ?_) | (refine Ix.add ?_) | (apply Go.Eng.Pin.mk; apply Exists.intro) | (apply Go.Eng.Pinned.mk (Eq.refl _) (Eq.refl _)) | (apply Go.Eng.PinH.mk; apply Exists.intro; apply Exists.intro) | (exact Go.Eng.Fin0.mk) | (refine Go.Eng.Chk.mk ?_ ?_) | fail))
      refine Need.mk ⟨hs, by omega, by omega, by omega⟩ ?_
      (repeat' ((conv => whnf); first | (refine Giv.mk (fun _ => ?_)) | (refine Alt.l (Need.mk ?h ?_); case h => omega) | (refine Alt.r (Need.mk ?h ?_); case h => omega) | (refine Need.mk ?h ?_; case h => omega) | (refine Need.mk ?h ?_; case h => (intro _; rfl)) | (refine Need.mk ?h ?_; case h => assumption) | (refine Need.mk ?h ?_; case h => (simp <;> omega)) | (refine Ix.zero ?_) | (refine Ix.one ?_) | (refine Ix.two ?_) | (refine Ix.nat ?_) | (refine Ix.add ?_) | (apply Go.Eng.Pin.mk; apply Exists.intro) | (apply Go.Eng.Pinned.mk (Eq.refl _) (Eq.refl _)) | (apply Go.Eng.PinH.mk; apply Exists.intro; apply Exists.intro) | (exact Go.Eng.Fin0.mk) | (refine Go.Eng.Chk.mk ?_ ?_) | fail))
      (refine Br.mk (fun _ => ?_) (fun _ => ?_))
      · (repeat' ((conv => whnf); first | (refine Giv.mk (fun _ => ?_)) | (refine Alt.l (Need.mk ?h ?_); case h => omega) | (refine Alt.r (Need.mk ?h ?_); case h => omega) | (refine Need.mk ?h ?_; case h => omega) | (refine Need.mk ?h ?_; case h => (intro _; rfl)) | (refine Need.mk ?h ?_; case h => assumption) | (refine Need.mk ?h ?_; case h => (simp <;> omega)) | (refine Ix.zero ?_) | (refine Ix.one ?_) | (refine Ix.two ?_) | (refine Ix.nat ?_) | (refine Ix.add ?_) | (apply Go.Eng.Pin.mk; apply Exists.intro) | (apply Go.Eng.Pinned.mk (Eq.refl _) (Eq.refl _)) | (apply Go.Eng.PinH.mk; apply Exists.intro; apply Exists.intro) | (exact Go.Eng.Fin0.mk) | (refine Go.Eng.Chk.mk ?_ ?_) | fail))
        (refine Br.mk (fun _ => ?_) (fun _ => ?_))
        · (repeat' ((conv => whnf); first | (refine Giv.mk (fun _ => ?_)) | (refine Alt.l (Need.mk ?h ?_); case h => omega) | (refine Alt.r (Need.mk ?h ?_); case h => omega) | (refine Need.mk ?h ?_; case h => omega) | (refine Need.mk ?h ?_; case h => (intro _; rfl)) | (refine Need.mk ?h ?_; case h => assumption) | (refine Need.mk ?h ?_; case h => (simp <;> omega)) | (refine Ix.zero ?_) | (refine Ix.one ?_) | (refine Ix.two ?_) | (refine Ix.nat ?_) | (refine Ix.add ?_) | (apply Go.Eng.Pin.mk; apply Exists.intro) | (apply Go.Eng.Pinned.mk (Eq.refl _) (Eq.refl _)) | (apply Go.Eng.PinH.mk; apply Exists.intro; apply Exists.intro) | (exact Go.Eng.Fin0.mk) | (refine Go.Eng.Chk.mk ?_ ?_) | fail))
          (conv => whnf)
        · rename_i hnf
          have hfit := Classical.not_not.1 hnf
          have t1 := true_mat hfit hC
          have t2 := true_pair hfit hs hC
          have t3 := true_best hfit hs hC
          have hN : fitN bars (pieces l) (most l + a) (b % 20) = (usedM bars (pieces l) (b % 20) (pieces l).length).es.length := if_pos hfit
          rw [← e2, ← hN] at t1
          rw [← e3, ← hN] at t2
          rw [← e1, ← hN] at t3
          (repeat' ((conv => whnf); first | (refine Giv.mk (fun _ => ?_)) | (refine Alt.l (Need.mk ?h ?_); case h => omega) | (refine Alt.r (Need.mk ?h ?_); case h => omega) | (refine Need.mk ?h ?_; case h => omega) | (refine Need.mk ?h ?_; case h => (intro _; rfl)) | (refine Need.mk ?h ?_; case h => assumption) | (refine Need.mk ?h ?_; case h => (simp <;> omega)) | (refine Ix.zero ?_) | (refine Ix.one ?_) | (refine Ix.two ?_) | (refine Ix.nat ?_) | (refine Ix.add ?_) | (apply Go.Eng.Pin.mk; apply Exists.intro) | (apply Go.Eng.Pinned.mk (Eq.refl _) (Eq.refl _)) | (apply Go.Eng.PinH.mk; apply Exists.intro; apply Exists.intro) | (exact Go.Eng.Fin0.mk) | (refine Go.Eng.Chk.mk ?_ ?_) | fail))
          refine Br.mkY t1 ?_
          (repeat' ((conv => whnf); first | (refine Giv.mk (fun _ => ?_)) | (refine Alt.l (Need.mk ?h ?_); case h => omega) | (refine Alt.r (Need.mk ?h ?_); case h => omega) | (refine Need.mk ?h ?_; case h => omega) | (refine Need.mk ?h ?_; case h => (intro _; rfl)) | (refine Need.mk ?h ?_; case h => assumption) | (refine Need.mk ?h ?_; case h => (simp <;> omega)) | (refine Ix.zero ?_) | (refine Ix.one ?_) | (refine Ix.two ?_) | (refine Ix.nat ?_) | (refine Ix.add ?_) | (apply Go.Eng.Pin.mk; apply Exists.intro) | (apply Go.Eng.Pinned.mk (Eq.refl _) (Eq.refl _)) | (apply Go.Eng.PinH.mk; apply Exists.intro; apply Exists.intro) | (exact Go.Eng.Fin0.mk) | (refine Go.Eng.Chk.mk ?_ ?_) | fail))
          refine Br.mkY t2 ?_
          (repeat' ((conv => whnf); first | (refine Giv.mk (fun _ => ?_)) | (refine Alt.l (Need.mk ?h ?_); case h => omega) | (refine Alt.r (Need.mk ?h ?_); case h => omega) | (refine Need.mk ?h ?_; case h => omega) | (refine Need.mk ?h ?_; case h => (intro _; rfl)) | (refine Need.mk ?h ?_; case h => assumption) | (refine Need.mk ?h ?_; case h => (simp <;> omega)) | (refine Ix.zero ?_) | (refine Ix.one ?_) | (refine Ix.two ?_) | (refine Ix.nat ?_) | (refine Ix.add ?_) | (apply Go.Eng.Pin.mk; apply Exists.intro) | (apply Go.Eng.Pinned.mk (Eq.refl _) (Eq.refl _)) | (apply Go.Eng.PinH.mk; apply Exists.intro; apply Exists.intro) | (exact Go.Eng.Fin0.mk) | (refine Go.Eng.Chk.mk ?_ ?_) | fail))
          refine Br.mkY t3 ?_
          (repeat' ((conv => whnf); first | (refine Giv.mk (fun _ => ?_)) | (refine Alt.l (Need.mk ?h ?_); case h => omega) | (refine Alt.r (Need.mk ?h ?_); case h => omega) | (refine Need.mk ?h ?_; case h => omega) | (refine Need.mk ?h ?_; case h => (intro _; rfl)) | (refine Need.mk ?h ?_; case h => assumption) | (refine Need.mk ?h ?_; case h => (simp <;> omega)) | (refine Ix.zero ?_) | (refine Ix.one ?_) | (refine Ix.two ?_) | (refine Ix.nat ?_) | (refine Ix.add ?_) | (apply Go.Eng.Pin.mk; apply Exists.intro) | (apply Go.Eng.Pinned.mk (Eq.refl _) (Eq.refl _)) | (apply Go.Eng.PinH.mk; apply Exists.intro; apply Exists.intro) | (exact Go.Eng.Fin0.mk) | (refine Go.Eng.Chk.mk ?_ ?_) | fail))
          (conv => whnf)
      · rename_i hbad
        exfalso
        apply hbad
        rw [hz]; rfl
theorem t4 (l bars : List Int) (a b : Int) (hl : Okd (.slice (.int .u8)) l) (hbs : Okd (.slice (.int .u8)) bars) (ha : inK .u8 a) (hb : inK .u8 b) : Tri Try.prog true 4 [Bs l, Bs bars, U a, U b] (.val (.bool true)) :=
  tri_of_body (Γ := [c11, c12, c14, c16, c18, c19]) (by simp [k11, k12, k14, k16, k18, k19]) Try.func4 (by simp [Try.ntmps4]) rfl (b4 l bars a b hl hbs ha hb)
end NB