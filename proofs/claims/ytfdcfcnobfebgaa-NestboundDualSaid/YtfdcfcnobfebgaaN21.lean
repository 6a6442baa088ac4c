import Derived.Test.YtfdcfcnobfebgaaN19
import Derived.Test.YtfdcfcnobfebgaaN20
import Derived.Test.YtfdcfcnobfebgaaN10
open Go Go.Proofs Go.Eng Go.Shelf
namespace NB
set_option maxRecDepth 10000
/-! ### Plain: the table knows each choice of pieces that fits -/
theorem dpNext_get (ys : List Int) (w v : Int) (r : Nat) (h : r < ys.length) : (dpNext ys w v).getD r 0 = if w ≤ (r : Int) then max (ys.getD r 0) (ys.getD ((r : Int) - w).toNat 0 + v) else ys.getD r 0 := by
  rw [dpNext, dpAt_get _ _ _ _ r h]
  by_cases h2 : w ≤ (r : Int)
  · rw [if_pos ⟨by omega, h2⟩, if_pos h2]
  · rw [if_neg (fun e => h2 e.2), if_neg h2]
theorem sumI_one (g : Nat → Int) (i : Nat) : sumI g [i] = g i := by simp [sumI]
theorem sumI_app (g : Nat → Int) (a b : List Nat) : sumI g (a ++ b) = sumI g a + sumI g b := by simp [sumI]
theorem dp_ge {xs ws : List Int} {k C : Int} (hx : ∀ i, 0 ≤ xs.getD i 0 + k) (hw : ∀ w ∈ ws, 0 ≤ w ∧ w ≤ 1048576) : ∀ (i : Nat) (js : List Nat) (r : Nat), js.Sublist (List.range i) → (r : Int) ≤ C → sumI (fun j => xs.getD j 0 + k) js ≤ r → sumI (fun j => ws.getD j 0) js ≤ (dpE xs ws k C i).getD r 0
  | 0, js, r, hs, _, _ => by
    have : js = [] := by simpa using hs
    subst this
    have := (dpE_range xs k C hw 0 r).1
    simpa [sumI] using this
  | i + 1, js, r, hs, hr, hsum => by
    have hl := dpE_len xs ws k C i
    rw [dpE_succ, dpNext_get _ _ _ _ (by rw [hl]; omega)]
    rw [List.range_succ, List.sublist_append_iff] at hs
    obtain ⟨j1, j2, rfl, h1, h2⟩ := hs
    have hpos : 0 ≤ sumI (fun j => xs.getD j 0 + k) j1 := by
      have := sumI_le (f := fun _ => 0) (g := fun j => xs.getD j 0 + k) (js := j1) fun j _ => hx j
      have e : sumI (fun _ => 0) j1 = 0 := by clear this h1 hsum; induction j1 with | nil => rfl | cons a r ih => rw [sumI_cons, ih]; rfl
      omega
    rcases List.sublist_cons_iff.1 h2 with h3 | ⟨l, rfl, h3⟩
    · have : j2 = [] := by simpa using h3
      subst this
      rw [List.append_nil] at hsum ⊢
      have := dp_ge hx hw i j1 r h1 hr hsum
      split
      · exact Int.le_trans this (Int.le_max_left _ _)
      · exact this
    · have : l = [] := by simpa using h3
      subst this
      rw [sumI_app, sumI_one] at hsum ⊢
      have hxi := hx i
      have hsum : sumI (fun j => xs.getD j 0 + k) j1 + (xs.getD i 0 + k) ≤ r := hsum
      have := dp_ge (C := C) hx hw i j1 ((r : Int) - (xs.getD i 0 + k)).toNat h1 (by omega) (by omega)
      rw [if_pos (by omega)]
      exact Int.le_trans (by omega) (Int.le_max_right _ _)
/-- With the sizes as weights no place holds more than its number. -/
theorem dp_own {xs : List Int} {k C : Int} (hx : ∀ i, i < xs.length → 0 ≤ xs.getD i 0 + k) : ∀ (i : Nat) (r : Nat), i ≤ xs.length → (r : Int) ≤ C → (dpE xs (xs.map (· + k)) k C i).getD r 0 ≤ r
  | 0, r, _, _ => by
    have : (dpE xs (xs.map (· + k)) k C 0).getD r 0 = 0 := by
      simp only [dpE, List.range_zero, List.foldl_nil, List.getD_eq_getElem?_getD, List.getElem?_replicate]
      split <;> rfl
    omega
  | i + 1, r, hi, hr => by
    have hl := dpE_len xs (xs.map (· + k)) k C i
    rw [dpE_succ, dpNext_get _ _ _ _ (by rw [hl]; omega)]
    have h1 := dp_own hx i r (by omega) hr
    have h2 := hx i (by omega)
    have e : (xs.map (· + k)).getD i 0 = xs.getD i 0 + k := by
      simp [List.getD_eq_getElem?_getD, show i < xs.length by omega]
    split
    · rename_i hle
      have h3 := dp_own (C := C) hx i ((r : Int) - (xs.getD i 0 + k)).toNat (by omega) (by omega)
      rw [e]; omega
    · exact h1
theorem any_badW {ws : List Int} (h : ∀ w ∈ ws, 0 ≤ w ∧ w ≤ 1048576) : ws.any badW = false := by
  rw [List.any_eq_false]
  intro w hw
  have := h w hw
  simp only [badW, decide_eq_true_eq, Classical.not_not]; exact this
theorem dual_own {xs : List Int} {L k : Int} (hz : checkE xs L k = 0) (hn : xs.length ≤ 8) (hC : L + k ≤ 1000) : dualE xs (xs.map (· + k)) (L + k) L k = 0 ∧ dualR xs (xs.map (· + k)) (L + k) L k = matE xs k (L + k) := by
  have ho := okx_of hz
  have hc0 := ho.c0
  have hw : ∀ w ∈ xs.map (· + k), 0 ≤ w ∧ w ≤ 1048576 := fun w hw => by
    obtain ⟨x, hx, rfl⟩ := List.mem_map.1 hw
    have := okx_mem ho x hx
    have := ho.k0
    show 0 ≤ x + k ∧ x + k ≤ 1048576
    omega
  have h1 := dp_own (xs := xs) (k := k) (C := L + k) (fun i hi => by have := ho.el i hi; have := ho.k0; omega) xs.length (L + k).toNat (Nat.le_refl _) (by omega)
  have hm : (xs.length : Int) * (L + k + 1) ≤ 8 * 1001 := Int.mul_le_mul (by omega) (by omega) (by omega) (by omega)
  have hE : dualE xs (xs.map (· + k)) (L + k) L k = 0 := by
    unfold dualE
    rw [if_neg (by simp [hz]), if_neg (by simp), if_neg (by simp [any_badW hw]), if_neg (by omega), if_neg (by omega), if_neg (by omega)]
  refine ⟨hE, ?_⟩
  unfold dualR matE
  rw [if_pos hE]
theorem dual_any {xs ws : List Int} {s L k : Int} (hz : checkE xs L k = 0) (hn : xs.length ≤ 8) (hC : L + k ≤ 1000) (hl : ws.length = xs.length) (hw : ∀ w ∈ ws, 0 ≤ w ∧ w ≤ 1048576) (hs : 1 ≤ s ∧ s ≤ 1048576) :
    (dualE xs ws s L k = 0 ∧ dualR xs ws s L k = upE ws.sum s ∧ (dpE xs ws k (L + k) xs.length).getD (L + k).toNat 0 ≤ s) ∨ (dualE xs ws s L k = 23 ∧ dualR xs ws s L k = 0) := by
  have ho := okx_of hz
  have hc0 := ho.c0
  have hm : (xs.length : Int) * (L + k + 1) ≤ 8 * 1001 := Int.mul_le_mul (by omega) (by omega) (by omega) (by omega)
  by_cases hd : s < (dpE xs ws k (L + k) xs.length).getD (L + k).toNat 0
  · right
    have hE : dualE xs ws s L k = 23 := by
      unfold dualE
      rw [if_neg (by simp [hz]), if_neg (by omega), if_neg (by simp [any_badW hw]), if_neg (by omega), if_neg (by omega), if_pos hd]
    exact ⟨hE, by unfold dualR; rw [hE]; rfl⟩
  · left
    have hE : dualE xs ws s L k = 0 := by
      unfold dualE
      rw [if_neg (by simp [hz]), if_neg (by omega), if_neg (by simp [any_badW hw]), if_neg (by omega), if_neg (by omega), if_neg hd]
    exact ⟨hE, by unfold dualR; rw [if_pos hE], by omega⟩
theorem true_dual {bars xs ws : List Int} {s L k : Int} (hf : fitP bars xs L k) (hs : SizesOk xs k) (hC : 0 < L + k) (hl : ws.length = xs.length) (hw : ∀ w ∈ ws, 0 ≤ w ∧ w ≤ 1048576) (hs0 : 1 ≤ s) (hd : (dpE xs ws k (L + k) xs.length).getD (L + k).toNat 0 ≤ s) : upE ws.sum s ≤ (usedM bars xs k xs.length).es.length := by
  have hx : ∀ i, 0 ≤ xs.getD i 0 + k := fun i => by
    have := hs.2.2.1
    by_cases hi : i < xs.length
    · have := hs.2.1 i hi; omega
    · rw [List.getD_eq_getElem?_getD, List.getElem?_eq_none (by omega)]; simpa using this
  have h := fit_weights hf (fun j => ws.getD j 0) s fun js hj h => by
    have := dp_ge (C := L + k) hx hw xs.length js (L + k).toNat hj (by omega) (by omega)
    omega
  rw [← hl, sumI_range (fun x => x) ws, hl] at h
  rw [List.map_id'] at h
  exact upE_le (by omega) h
theorem b8 (l bars wl : List Int) (sc a b : Int) (hl : Okd (.slice (.int .u8)) l) (hbs : Okd (.slice (.int .u8)) bars) (hwl : Okd (.slice (.int .u8)) wl) (hsc : inK .u16 sc) (ha : inK .u8 a) (hb : inK .u8 b) :
    body Try.prog [c11, c12, c18, c19, c20] { asks := [(0, [0, 1])] } true Try.f8 [Bs l, Bs bars, Bs wl, .val (.int .u16 sc), U a, U b] (.val (.bool true)) := by
  (repeat' ((conv => whnf); first | (refine Giv.mk (fun _ => ?_)) | (refine Alt.l (Need.mk ?h ?_); case h => omega) | (refine Alt.r (Need.mk ?h ?_); case h => omega) | (refine Need.mk ?h ?_; case h => omega) | (refine Need.mk ?h ?_; case h => (intro _; rfl)) | (refine Need.mk ?h ?_; case h => assumption) | (refine Need.mk ?h ?_; case h => (simp <;> omega)) | (refine Ix.zero ?_) | (refine Ix.one ?_) | (refine Ix.two ?_) | (refine Ix.nat ?_) | (refine Ix.add ?_) | (apply Go.Eng.Pin.mk; apply Exists.intro) | (apply Go.Eng.Pinned.mk (Eq.refl _) (Eq.refl _)) | (apply Go.Eng.PinH.mk; apply Exists.intro; apply Exists.intro) | (exact Go.Eng.Fin0.mk) | (refine Go.Eng.Chk.mk ?_ ?_) | fail))
  (refine Br.mk (fun _ => ?_) (fun _ => ?_))
  · (repeat' ((conv => whnf); first | (refine Giv.mk (fun _ => ?_)) | (refine Alt.l (Need.mk ?h ?_); case h => omega) | (refine Alt.r (Need.mk ?h ?_); case h => omega) | (refine Need.mk ?h ?_; case h => omega) | (refine Need.mk ?h ?_; case h => (intro _; rfl)) | (refine Need.mk ?h ?_; case h => assumption) | (refine Need.mk ?h ?_; case h => (simp <;> omega)) | (refine Ix.zero ?_) | (refine Ix.one ?_) | (refine Ix.two ?_) | (refine Ix.nat ?_) | (refine Ix.add ?_) | (apply Go.Eng.Pin.mk; apply Exists.intro) | (apply Go.Eng.Pinned.mk (Eq.refl _) (Eq.refl _)) | (apply Go.Eng.PinH.mk; apply Exists.intro; apply Exists.intro) | (exact Go.Eng.Fin0.mk) | (refine Go.Eng.Chk.mk ?_ ?_) | fail))
    (conv => whnf)
  · (repeat' ((conv => whnf); first | (refine Giv.mk (fun _ => ?_)) | (refine Alt.l (Need.mk ?h ?_); case h => omega) | (refine Alt.r (Need.mk ?h ?_); case h => omega) | (refine Need.mk ?h ?_; case h => omega) | (refine Need.mk ?h ?_; case h => (intro _; rfl)) | (refine Need.mk ?h ?_; case h => assumption) | (refine Need.mk ?h ?_; case h => (simp <;> omega)) | (refine Ix.zero ?_) | (refine Ix.one ?_) | (refine Ix.two ?_) | (refine Ix.nat ?_) | (refine Ix.add ?_) | (apply Go.Eng.Pin.mk; apply Exists.intro) | (apply Go.Eng.Pinned.mk (Eq.refl _) (Eq.refl _)) | (apply Go.Eng.PinH.mk; apply Exists.intro; apply Exists.intro) | (exact Go.Eng.Fin0.mk) | (refine Go.Eng.Chk.mk ?_ ?_) | fail))
    (refine Br.mk (fun _ => ?_) (fun _ => ?_))
    · (repeat' ((conv => whnf); first | (refine Giv.mk (fun _ => ?_)) | (refine Alt.l (Need.mk ?h ?_); case h => omega) | (refine Alt.r (Need.mk ?h ?_); case h => omega) | (refine Need.mk ?h ?_; case h => omega) | (refine Need.mk ?h ?_; case h => (intro _; rfl)) | (refine Need.mk ?h ?_; case h => assumption) | (refine Need.mk ?h ?_; case h => (simp <;> omega)) | (refine Ix.zero ?_) | (refine Ix.one ?_) | (refine Ix.two ?_) | (refine Ix.nat ?_) | (refine Ix.add ?_) | (apply Go.Eng.Pin.mk; apply Exists.intro) | (apply Go.Eng.Pinned.mk (Eq.refl _) (Eq.refl _)) | (apply Go.Eng.PinH.mk; apply Exists.intro; apply Exists.intro) | (exact Go.Eng.Fin0.mk) | (refine Go.Eng.Chk.mk ?_ ?_) | fail))
      (conv => whnf)
    · (repeat' ((conv => whnf); first | (refine Giv.mk (fun _ => ?_)) | (refine Alt.l (Need.mk ?h ?_); case h => omega) | (refine Alt.r (Need.mk ?h ?_); case h => omega) | (refine Need.mk ?h ?_; case h => omega) | (refine Need.mk ?h ?_; case h => (intro _; rfl)) | (refine Need.mk ?h ?_; case h => assumption) | (refine Need.mk ?h ?_; case h => (simp <;> omega)) | (refine Ix.zero ?_) | (refine Ix.one ?_) | (refine Ix.two ?_) | (refine Ix.nat ?_) | (refine Ix.add ?_) | (apply Go.Eng.Pin.mk; apply Exists.intro) | (apply Go.Eng.Pinned.mk (Eq.refl _) (Eq.refl _)) | (apply Go.Eng.PinH.mk; apply Exists.intro; apply Exists.intro) | (exact Go.Eng.Fin0.mk) | (refine Go.Eng.Chk.mk ?_ ?_) | fail))
      (refine Br.mk (fun _ => ?_) (fun _ => ?_))
      · (repeat' ((conv => whnf); first | (refine Giv.mk (fun _ => ?_)) | (refine Alt.l (Need.mk ?h ?_); case h => omega) | (refine Alt.r (Need.mk ?h ?_); case h => omega) | (refine Need.mk ?h ?_; case h => omega) | (refine Need.mk ?h ?_; case h => (intro _; rfl)) | (refine Need.mk ?h ?_; case h => assumption) | (refine Need.mk ?h ?_; case h => (simp <;> omega)) | (refine Ix.zero ?_) | (refine Ix.one ?_) | (refine Ix.two ?_) | (refine Ix.nat ?_) | (refine Ix.add ?_) | (apply Go.Eng.Pin.mk; apply Exists.intro) | (apply Go.Eng.Pinned.mk (Eq.refl _) (Eq.refl _)) | (apply Go.Eng.PinH.mk; apply Exists.intro; apply Exists.intro) | (exact Go.Eng.Fin0.mk) | (refine Go.Eng.Chk.mk ?_ ?_) | fail))
        (conv => whnf)
      · have hf := fine_of (by omega) hl ha hb
        have hz := fine_check0 hf
        have ho := okx_of hz
        have hC : 0 < most l + a + b % 20 := by have := ho.c0; omega
        have hs := sizesOk_fine hf
        have hm := most_range hf
        have e2 := matR_ok hz
        have hpl := pieces_len l
        have hfa := hf.a1
        have hfa0 := hf.a0
        have hfb := hf.b0
        have hwb : ∀ i, i < wl.length → 0 ≤ wl.getD i 0 ∧ wl.getD i 0 ≤ 255 := fun i hi => hwl.2 i hi
        have hsc0 : 0 ≤ sc ∧ sc ≤ 65535 := hsc
        (repeat' ((conv => whnf); first | (refine Giv.mk (fun _ => ?_)) | (refine Alt.l (Need.mk ?h ?_); case h => omega) | (refine Alt.r (Need.mk ?h ?_); case h => omega) | (refine Need.mk ?h ?_; case h => omega) | (refine Need.mk ?h ?_; case h => (intro _; rfl)) | (refine Need.mk ?h ?_; case h => assumption) | (refine Need.mk ?h ?_; case h => (simp <;> omega)) | (refine Ix.zero ?_) | (refine Ix.one ?_) | (refine Ix.two ?_) | (refine Ix.nat ?_) | (refine Ix.add ?_) | (apply Go.Eng.Pin.mk; apply Exists.intro) | (apply Go.Eng.Pinned.mk (Eq.refl _) (Eq.refl _)) | (apply Go.Eng.PinH.mk; apply Exists.intro; apply Exists.intro) | (exact Go.Eng.Fin0.mk) | (refine Go.Eng.Chk.mk ?_ ?_) | fail))
        refine Need.mk ⟨hf.len, hf.el, hf.a0, hf.a1, hf.b0, hf.b1⟩ ?_
        (repeat' ((conv => whnf); first | (refine Giv.mk (fun _ => ?_)) | (refine Alt.l (Need.mk ?h ?_); case h => omega) | (refine Alt.r (Need.mk ?h ?_); case h => omega) | (refine Need.mk ?h ?_; case h => omega) | (refine Need.mk ?h ?_; case h => (intro _; rfl)) | (refine Need.mk ?h ?_; case h => assumption) | (refine Need.mk ?h ?_; case h => (simp <;> omega)) | (refine Ix.zero ?_) | (refine Ix.one ?_) | (refine Ix.two ?_) | (refine Ix.nat ?_) | (refine Ix.add ?_) | (apply Go.Eng.Pin.mk; apply Exists.intro) | (apply Go.Eng.Pinned.mk (Eq.refl _) (Eq.refl _)) | (apply Go.Eng.PinH.mk; apply Exists.intro; apply Exists.intro) | (exact Go.Eng.Fin0.mk) | (refine Go.Eng.Chk.mk ?_ ?_) | fail))
        refine Ask.mk ⟨{ X := Nat, pre := fun i => i ≤ wl.length, mod := fun i _ => [(16, .ref 0 1), (17, .ref 1 1), (56, I i)], heap := fun i _ => [.vec 1 (.int .i64) (wl.take i) 3, .vec 1 (.int .i64) (((pieces l).map (· + b % 20)).take i) 3], objs := [0, 1], mu := fun i => wl.length - i }, rfl, ?_⟩
        (repeat' ((conv => whnf); first | (refine Giv.mk (fun _ => ?_)) | (refine Alt.l (Need.mk ?h ?_); case h => omega) | (refine Alt.r (Need.mk ?h ?_); case h => omega) | (refine Need.mk ?h ?_; case h => omega) | (refine Need.mk ?h ?_; case h => (intro _; rfl)) | (refine Need.mk ?h ?_; case h => assumption) | (refine Need.mk ?h ?_; case h => (simp <;> omega)) | (refine Ix.zero ?_) | (refine Ix.one ?_) | (refine Ix.two ?_) | (refine Ix.nat ?_) | (refine Ix.add ?_) | (apply Go.Eng.Pin.mk; apply Exists.intro) | (apply Go.Eng.Pinned.mk (Eq.refl _) (Eq.refl _)) | (apply Go.Eng.PinH.mk; apply Exists.intro; apply Exists.intro) | (exact Go.Eng.Fin0.mk) | (refine Go.Eng.Chk.mk ?_ ?_) | fail))
        refine ⟨⟨(0 : Nat), Nat.zero_le _, by (repeat' (first | exact trivial | rfl | exact Nat.one_pos | (refine And.intro ?_ ?_) | omega | ((conv => whnf); (refine And.intro ?_ ?_)) | ((conv => whnf); exact trivial)))⟩, fun (i : Nat) (hi : i ≤ wl.length) => ?_⟩
        (repeat' ((conv => whnf); first | (refine Giv.mk (fun _ => ?_)) | (refine Alt.l (Need.mk ?h ?_); case h => omega) | (refine Alt.r (Need.mk ?h ?_); case h => omega) | (refine Need.mk ?h ?_; case h => omega) | (refine Need.mk ?h ?_; case h => (intro _; rfl)) | (refine Need.mk ?h ?_; case h => assumption) | (refine Need.mk ?h ?_; case h => (simp <;> omega)) | (refine Ix.zero ?_) | (refine Ix.one ?_) | (refine Ix.two ?_) | (refine Ix.nat ?_) | (refine Ix.add ?_) | (apply Go.Eng.Pin.mk; apply Exists.intro) | (apply Go.Eng.Pinned.mk (Eq.refl _) (Eq.refl _)) | (apply Go.Eng.PinH.mk; apply Exists.intro; apply Exists.intro) | (exact Go.Eng.Fin0.mk) | (refine Go.Eng.Chk.mk ?_ ?_) | fail))
        (refine Br.mk (fun _ => ?_) (fun _ => ?_))
        · have hlt : i < wl.length := by omega
          have q1 := hs.2.1 i (by omega)
          have t1 := thick_take (pieces l) (b % 20) i (by omega)
          have t2 : wl.take (i + 1) = wl.take i ++ [wl.getD i 0] := by
            rw [List.take_succ_eq_append_getElem hlt]
            simp [List.getD_eq_getElem?_getD, hlt]
          (repeat' ((conv => whnf); first | (refine Giv.mk (fun _ => ?_)) | (refine Alt.l (Need.mk ?h ?_); case h => omega) | (refine Alt.r (Need.mk ?h ?_); case h => omega) | (refine Need.mk ?h ?_; case h => omega) | (refine Need.mk ?h ?_; case h => (intro _; rfl)) | (refine Need.mk ?h ?_; case h => assumption) | (refine Need.mk ?h ?_; case h => (simp <;> omega)) | (refine Ix.zero ?_) | (refine Ix.one ?_) | (refine Ix.two ?_) | (refine Ix.nat ?_) | (refine Ix.add ?_) | (apply Go.Eng.Pin.mk; apply Exists.intro) | (apply Go.Eng.Pinned.mk (Eq.refl _) (Eq.refl _)) | (apply Go.Eng.PinH.mk; apply Exists.intro; apply Exists.intro) | (exact Go.Eng.Fin0.mk) | (refine Go.Eng.Chk.mk ?_ ?_) | fail))
          refine ⟨(i + 1 : Nat), by show wl.length - (i + 1) < wl.length - i; omega, hlt, ?_⟩
          (repeat' (first | exact trivial | rfl | exact Nat.one_pos | (refine And.intro ?_ ?_) | ((conv => whnf); (refine And.intro ?_ ?_)) | ((conv => whnf); exact trivial)))
          · exact t2.symm
          · exact t1.symm
        · have hi2 : i = wl.length := by omega
          subst hi2
          have hlw : wl.length = (pieces l).length := by omega
          rw [List.take_length, hlw, List.take_of_length_le (by simp)]
          (repeat' ((conv => whnf); first | (refine Giv.mk (fun _ => ?_)) | (refine Alt.l (Need.mk ?h ?_); case h => omega) | (refine Alt.r (Need.mk ?h ?_); case h => omega) | (refine Need.mk ?h ?_; case h => omega) | (refine Need.mk ?h ?_; case h => (intro _; rfl)) | (refine Need.mk ?h ?_; case h => assumption) | (refine Need.mk ?h ?_; case h => (simp <;> omega)) | (refine Ix.zero ?_) | (refine Ix.one ?_) | (refine Ix.two ?_) | (refine Ix.nat ?_) | (refine Ix.add ?_) | (apply Go.Eng.Pin.mk; apply Exists.intro) | (apply Go.Eng.Pinned.mk (Eq.refl _) (Eq.refl _)) | (apply Go.Eng.PinH.mk; apply Exists.intro; apply Exists.intro) | (exact Go.Eng.Fin0.mk) | (refine Go.Eng.Chk.mk ?_ ?_) | fail))
          refine Need.mk ⟨hs, by omega, by omega, by omega⟩ ?_
          have hl2 : ∀ w ∈ wl, 0 ≤ w ∧ w ≤ 1048576 := fun w hw => by
            obtain ⟨j, hj, rfl⟩ := List.getElem_of_mem hw
            have := hwb j hj
            rw [List.getD_eq_getElem?_getD, List.getElem?_eq_getElem hj, Option.getD_some] at this
            omega
          obtain ⟨d1, d2⟩ := dual_own (xs := pieces l) (L := most l + a) (k := b % 20) hz (by omega) (by omega)
          have d3 := dual_any (xs := pieces l) (ws := wl) (s := 1 + sc) (L := most l + a) (k := b % 20) hz (by omega) (by omega) hlw hl2 (by omega)
          (repeat' ((conv => whnf); first | (refine Giv.mk (fun _ => ?_)) | (refine Alt.l (Need.mk ?h ?_); case h => omega) | (refine Alt.r (Need.mk ?h ?_); case h => omega) | (refine Need.mk ?h ?_; case h => omega) | (refine Need.mk ?h ?_; case h => (intro _; rfl)) | (refine Need.mk ?h ?_; case h => assumption) | (refine Need.mk ?h ?_; case h => (simp <;> omega)) | (refine Ix.zero ?_) | (refine Ix.one ?_) | (refine Ix.two ?_) | (refine Ix.nat ?_) | (refine Ix.add ?_) | (apply Go.Eng.Pin.mk; apply Exists.intro) | (apply Go.Eng.Pinned.mk (Eq.refl _) (Eq.refl _)) | (apply Go.Eng.PinH.mk; apply Exists.intro; apply Exists.intro) | (exact Go.Eng.Fin0.mk) | (refine Go.Eng.Chk.mk ?_ ?_) | (refine Br.mkY ?h ?_; case h => omega) | (refine Br.mkN ?h ?_; case h => omega) | fail))
          rcases d3 with ⟨d4, d5, d6⟩ | ⟨d4, d5⟩
          · (repeat' ((conv => whnf); first | (refine Giv.mk (fun _ => ?_)) | (refine Alt.l (Need.mk ?h ?_); case h => omega) | (refine Alt.r (Need.mk ?h ?_); case h => omega) | (refine Need.mk ?h ?_; case h => omega) | (refine Need.mk ?h ?_; case h => (intro _; rfl)) | (refine Need.mk ?h ?_; case h => assumption) | (refine Need.mk ?h ?_; case h => (simp <;> omega)) | (refine Ix.zero ?_) | (refine Ix.one ?_) | (refine Ix.two ?_) | (refine Ix.nat ?_) | (refine Ix.add ?_) | (apply Go.Eng.Pin.mk; apply Exists.intro) | (apply Go.Eng.Pinned.mk (Eq.refl _) (Eq.refl _)) | (apply Go.Eng.PinH.mk; apply Exists.intro; apply Exists.intro) | (exact Go.Eng.Fin0.mk) | (refine Go.Eng.Chk.mk ?_ ?_) | (refine Br.mkY ?h ?_; case h => omega) | (refine Br.mkN ?h ?_; case h => omega) | fail))
            (refine Br.mk (fun _ => ?_) (fun _ => ?_))
            · (repeat' ((conv => whnf); first | (refine Giv.mk (fun _ => ?_)) | (refine Alt.l (Need.mk ?h ?_); case h => omega) | (refine Alt.r (Need.mk ?h ?_); case h => omega) | (refine Need.mk ?h ?_; case h => omega) | (refine Need.mk ?h ?_; case h => (intro _; rfl)) | (refine Need.mk ?h ?_; case h => assumption) | (refine Need.mk ?h ?_; case h => (simp <;> omega)) | (refine Ix.zero ?_) | (refine Ix.one ?_) | (refine Ix.two ?_) | (refine Ix.nat ?_) | (refine Ix.add ?_) | (apply Go.Eng.Pin.mk; apply Exists.intro) | (apply Go.Eng.Pinned.mk (Eq.refl _) (Eq.refl _)) | (apply Go.Eng.PinH.mk; apply Exists.intro; apply Exists.intro) | (exact Go.Eng.Fin0.mk) | (refine Go.Eng.Chk.mk ?_ ?_) | (refine Br.mkY ?h ?_; case h => omega) | (refine Br.mkN ?h ?_; case h => omega) | fail))
              (conv => whnf)
            · rename_i hnf
              have hfit := Classical.not_not.1 hnf
              have t1 := true_dual hfit hs hC hlw hl2 (by omega) d6
              have hN : fitN bars (pieces l) (most l + a) (b % 20) = (usedM bars (pieces l) (b % 20) (pieces l).length).es.length := if_pos hfit
              rw [← hN, ← d5] at t1
              (repeat' ((conv => whnf); first | (refine Giv.mk (fun _ => ?_)) | (refine Alt.l (Need.mk ?h ?_); case h => omega) | (refine Alt.r (Need.mk ?h ?_); case h => omega) | (refine Need.mk ?h ?_; case h => omega) | (refine Need.mk ?h ?_; case h => (intro _; rfl)) | (refine Need.mk ?h ?_; case h => assumption) | (refine Need.mk ?h ?_; case h => (simp <;> omega)) | (refine Ix.zero ?_) | (refine Ix.one ?_) | (refine Ix.two ?_) | (refine Ix.nat ?_) | (refine Ix.add ?_) | (apply Go.Eng.Pin.mk; apply Exists.intro) | (apply Go.Eng.Pinned.mk (Eq.refl _) (Eq.refl _)) | (apply Go.Eng.PinH.mk; apply Exists.intro; apply Exists.intro) | (exact Go.Eng.Fin0.mk) | (refine Go.Eng.Chk.mk ?_ ?_) | (refine Br.mkY ?h ?_; case h => omega) | (refine Br.mkN ?h ?_; case h => omega) | fail))
              (conv => whnf)
          · (repeat' ((conv => whnf); first | (refine Giv.mk (fun _ => ?_)) | (refine Alt.l (Need.mk ?h ?_); case h => omega) | (refine Alt.r (Need.mk ?h ?_); case h => omega) | (refine Need.mk ?h ?_; case h => omega) | (refine Need.mk ?h ?_; case h => (intro _; rfl)) | (refine Need.mk ?h ?_; case h => assumption) | (refine Need.mk ?h ?_; case h => (simp <;> omega)) | (refine Ix.zero ?_) | (refine Ix.one ?_) | (refine Ix.two ?_) | (refine Ix.nat ?_) | (refine Ix.add ?_) | (apply Go.Eng.Pin.mk; apply Exists.intro) | (apply Go.Eng.Pinned.mk (Eq.refl _) (Eq.refl _)) | (apply Go.Eng.PinH.mk; apply Exists.intro; apply Exists.intro) | (exact Go.Eng.Fin0.mk) | (refine Go.Eng.Chk.mk ?_ ?_) | (refine Br.mkY ?h ?_; case h => omega) | (refine Br.mkN ?h ?_; case h => omega) | fail))
            (conv => whnf)
theorem t8 (l bars wl : List Int) (sc a b : Int) (hl : Okd (.slice (.int .u8)) l) (hbs : Okd (.slice (.int .u8)) bars) (hwl : Okd (.slice (.int .u8)) wl) (hsc : inK .u16 sc) (ha : inK .u8 a) (hb : inK .u8 b) :
    Tri Try.prog true 8 [Bs l, Bs bars, Bs wl, .val (.int .u16 sc), U a, U b] (.val (.bool true)) :=
  tri_of_body (Γ := [c11, c12, c18, c19, c20]) (by simp [k11, k12, k18, k19, k20]) Try.func8 (by simp [Try.ntmps8]) rfl (b8 l bars wl sc a b hl hbs hwl hsc ha hb)
end NB
