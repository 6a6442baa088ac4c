import Derived.Test.YtfdcfcnobfebgaaN12
open Go Go.Proofs Go.Eng Go.Shelf
namespace NB
set_option maxRecDepth 10000
theorem ix_at {n : Int} {C : Nat → Prop} (j : Nat) (e : n = (j : Int)) (h : C j) : Ix n C := by
  refine ⟨fun i e' => ?_⟩
  have : j = i := by omega
  subst this; exact h
/-! ### The library's slices -/
theorem b21 (xs : List Int) (h : xs.length ≤ 1000000) : bodyO Try.prog [] {} Try.f21 [Ls xs] (.ref 0 1) (.int .i64) xs 3 := by
  (repeat' ((conv => whnf); first | (refine Giv.mk (fun _ => ?_)) | (refine Alt.l (Need.mk ?h ?_); case h => omega) | (refine Alt.r (Need.mk ?h ?_); case h => omega) | (refine Need.mk ?h ?_; case h => omega) | (refine Need.mk ?h ?_; case h => (intro _; rfl)) | (refine Need.mk ?h ?_; case h => assumption) | (refine Need.mk ?h ?_; case h => (simp <;> omega)) | (refine Ix.zero ?_) | (refine Ix.one ?_) | (refine Ix.two ?_) | (refine Ix.nat ?_) | (refine Ix.add ?_) | (apply Go.Eng.Pin.mk; apply Exists.intro) | (apply Go.Eng.Pinned.mk (Eq.refl _) (Eq.refl _)) | fail))
  intro q hq
  (repeat' ((conv => whnf); first | (refine Giv.mk (fun _ => ?_)) | (refine Alt.l (Need.mk ?h ?_); case h => omega) | (refine Alt.r (Need.mk ?h ?_); case h => omega) | (refine Need.mk ?h ?_; case h => omega) | (refine Need.mk ?h ?_; case h => (intro _; rfl)) | (refine Need.mk ?h ?_; case h => assumption) | (refine Need.mk ?h ?_; case h => (simp <;> omega)) | (refine Ix.zero ?_) | (refine Ix.one ?_) | (refine Ix.two ?_) | (refine Ix.nat ?_) | (refine Ix.add ?_) | (apply Go.Eng.Pin.mk; apply Exists.intro) | (apply Go.Eng.Pinned.mk (Eq.refl _) (Eq.refl _)) | fail))
  (refine Br.mk (fun _ => ?_) (fun _ => ?_))
  · rename_i hn
    (repeat' ((conv => whnf); first | (refine Giv.mk (fun _ => ?_)) | (refine Alt.l (Need.mk ?h ?_); case h => omega) | (refine Alt.r (Need.mk ?h ?_); case h => omega) | (refine Need.mk ?h ?_; case h => omega) | (refine Need.mk ?h ?_; case h => (intro _; rfl)) | (refine Need.mk ?h ?_; case h => assumption) | (refine Need.mk ?h ?_; case h => (simp <;> omega)) | (refine Ix.zero ?_) | (refine Ix.one ?_) | (refine Ix.two ?_) | (refine Ix.nat ?_) | (refine Ix.add ?_) | (apply Go.Eng.Pin.mk; apply Exists.intro) | (apply Go.Eng.Pinned.mk (Eq.refl _) (Eq.refl _)) | fail))
    (conv => whnf)
    (repeat' (first | exact trivial | rfl | exact Nat.one_pos | (refine And.intro ?_ ?_) | ((conv => whnf); (refine And.intro ?_ ?_)) | ((conv => whnf); exact trivial)))
    exact (hq hn).symm
  · (repeat' ((conv => whnf); first | (refine Giv.mk (fun _ => ?_)) | (refine Alt.l (Need.mk ?h ?_); case h => omega) | (refine Alt.r (Need.mk ?h ?_); case h => omega) | (refine Need.mk ?h ?_; case h => omega) | (refine Need.mk ?h ?_; case h => (intro _; rfl)) | (refine Need.mk ?h ?_; case h => assumption) | (refine Need.mk ?h ?_; case h => (simp <;> omega)) | (refine Ix.zero ?_) | (refine Ix.one ?_) | (refine Ix.two ?_) | (refine Ix.nat ?_) | (refine Ix.add ?_) | (apply Go.Eng.Pin.mk; apply Exists.intro) | (apply Go.Eng.Pinned.mk (Eq.refl _) (Eq.refl _)) | fail))
    (conv => whnf)
    (repeat' (first | exact trivial | rfl | exact Nat.one_pos | (refine And.intro ?_ ?_) | ((conv => whnf); (refine And.intro ?_ ?_)) | ((conv => whnf); exact trivial)))
def c21 : Con := ownCon 21 fun args K => match args with | [.seq (.int .i64) xs] => Need (xs.length ≤ 1000000) (K (.ref 0 1) (.vec 1 (.int .i64) (xs) 3)) | _ => False
theorem k21 : ConOK Try.prog c21 := by
  refine ownOK_of (enters_of Try.func21 (by kernel_rfl) rfl) ?_
  intro args K h
  split at h
  · rename_i xs; exact ⟨_, _, _, _, _, h.go, fun hfl => otri_of_body (Γ := []) (by simp) Try.func21 (by simp [Try.ntmps21]) hfl (b21 xs h.ok)⟩
  · exact h.elim
/-- A list of which so many have been put in the opposite order at either end. -/
def revAt (xs : List Int) (i : Nat) : List Int := (List.range xs.length).map fun p => if p < i ∨ xs.length - i ≤ p then xs.getD (xs.length - 1 - p) 0 else xs.getD p 0
theorem revAt_len (xs : List Int) (i : Nat) : (revAt xs i).length = xs.length := by simp [revAt]
theorem revAt_get (xs : List Int) (i p : Nat) (h : p < xs.length) : (revAt xs i).getD p 0 = if p < i ∨ xs.length - i ≤ p then xs.getD (xs.length - 1 - p) 0 else xs.getD p 0 := by
  simp [revAt, List.getD_eq_getElem?_getD, h]
theorem list_ext {xs ys : List Int} (h : xs.length = ys.length) (hg : ∀ p, p < xs.length → xs.getD p 0 = ys.getD p 0) : xs = ys := by
  apply List.ext_getElem h
  intro i h1 h2
  have := hg i h1
  simpa [List.getD_eq_getElem?_getD, h1, h2] using this
theorem revAt_zero (xs : List Int) : revAt xs 0 = xs := by
  refine list_ext (revAt_len _ _) fun p hp => ?_
  rw [revAt_len] at hp
  rw [revAt_get _ _ _ hp, if_neg (by omega)]
theorem revAt_end (xs : List Int) (i : Nat) (h : xs.length ≤ 2 * i + 1) : revAt xs i = xs.reverse := by
  refine list_ext (by simp [revAt_len]) fun p hp => ?_
  rw [revAt_len] at hp
  rw [revAt_get _ _ _ hp]
  have e : xs.reverse.getD p 0 = xs.getD (xs.length - 1 - p) 0 := by
    have h2 : xs.length - 1 - p < xs.length := by omega
    simp [List.getD_eq_getElem?_getD, hp, h2]
  rw [e]
  split
  · rfl
  · have : xs.length - 1 - p = p := by omega
    rw [this]
theorem set_get (xs : List Int) (i p : Nat) (v : Int) : (xs.set i v).getD p 0 = if p = i ∧ p < xs.length then v else xs.getD p 0 := by
  simp only [List.getD_eq_getElem?_getD, List.getElem?_set]
  by_cases h : i = p
  · subst h
    by_cases h2 : i < xs.length
    · simp [h2]
    · simp [h2]
  · rw [if_neg h, if_neg (by omega)]
theorem revAt_step (xs : List Int) (i j : Nat) (h : i < j) (hj : i + j + 1 = xs.length) : ((revAt xs i).set i ((revAt xs i).getD j 0)).set j ((revAt xs i).getD i 0) = revAt xs (i + 1) := by
  refine list_ext (by simp [revAt_len]) fun p hp => ?_
  have hp : p < xs.length := by simpa [revAt_len] using hp
  have hp2 : p < (revAt xs i).length := by rw [revAt_len]; exact hp
  rw [set_get, set_get, revAt_get _ _ _ hp, revAt_get _ _ j (by omega), revAt_get _ _ i (by omega), revAt_get _ _ p hp]
  simp only [List.length_set, revAt_len]
  by_cases h1 : p = j
  · subst h1
    rw [if_pos ⟨rfl, by omega⟩, if_neg (by omega), if_pos (by omega)]
    congr 1; omega
  · rw [if_neg (by omega)]
    by_cases h2 : p = i
    · subst h2
      rw [if_pos ⟨rfl, by omega⟩, if_neg (by omega), if_pos (by omega)]
      congr 1; omega
    · rw [if_neg (by omega)]
      by_cases h3 : p < i ∨ xs.length - i ≤ p
      · rw [if_pos h3, if_pos (by omega)]
      · rw [if_neg h3, if_neg (by omega)]
theorem b22 (xs : List Int) (h : xs.length ≤ 1000000) : bodyL Try.prog [] { asks := [(0, [])] } Try.f22 0 true [.any] (.int .i64) xs 3 (.tup []) xs.reverse := by
  (repeat' ((conv => whnf); first | (refine Giv.mk (fun _ => ?_)) | (refine Alt.l (Need.mk ?h ?_); case h => omega) | (refine Alt.r (Need.mk ?h ?_); case h => omega) | (refine Need.mk ?h ?_; case h => omega) | (refine Need.mk ?h ?_; case h => (intro _; rfl)) | (refine Need.mk ?h ?_; case h => assumption) | (refine Need.mk ?h ?_; case h => (simp <;> omega)) | (refine Ix.zero ?_) | (refine Ix.one ?_) | (refine Ix.two ?_) | (refine Ix.nat ?_) | (refine Ix.add ?_) | (apply Go.Eng.Pin.mk; apply Exists.intro) | (apply Go.Eng.Pinned.mk (Eq.refl _) (Eq.refl _)) | fail))
  refine Ask.mk ⟨{ X := Nat, pre := fun i => 2 * i ≤ xs.length, mod := fun i _ => [(2, I i), (3, I (xs.length - 1 - i))], heap := fun i _ => [.vec 1 (.int .i64) (revAt xs i) 3], mu := fun i => xs.length - i }, rfl, ?_⟩
  (repeat' ((conv => whnf); first | (refine Giv.mk (fun _ => ?_)) | (refine Alt.l (Need.mk ?h ?_); case h => omega) | (refine Alt.r (Need.mk ?h ?_); case h => omega) | (refine Need.mk ?h ?_; case h => omega) | (refine Need.mk ?h ?_; case h => (intro _; rfl)) | (refine Need.mk ?h ?_; case h => assumption) | (refine Need.mk ?h ?_; case h => (simp <;> omega)) | (refine Ix.zero ?_) | (refine Ix.one ?_) | (refine Ix.two ?_) | (refine Ix.nat ?_) | (refine Ix.add ?_) | (apply Go.Eng.Pin.mk; apply Exists.intro) | (apply Go.Eng.Pinned.mk (Eq.refl _) (Eq.refl _)) | fail))
  refine ⟨⟨(0 : Nat), Nat.zero_le _, ?_⟩, fun (i : Nat) (hi : 2 * i ≤ xs.length) => ?_⟩
  · (repeat' (first | exact trivial | rfl | exact Nat.one_pos | (refine And.intro ?_ ?_) | omega | ((conv => whnf); (refine And.intro ?_ ?_)) | ((conv => whnf); exact trivial)))
    exact (revAt_zero xs).symm
  · have hl := revAt_len xs i
    (repeat' ((conv => whnf); first | (refine Giv.mk (fun _ => ?_)) | (refine Alt.l (Need.mk ?h ?_); case h => omega) | (refine Alt.r (Need.mk ?h ?_); case h => omega) | (refine Need.mk ?h ?_; case h => omega) | (refine Need.mk ?h ?_; case h => (intro _; rfl)) | (refine Need.mk ?h ?_; case h => assumption) | (refine Need.mk ?h ?_; case h => (simp <;> omega)) | (refine Ix.zero ?_) | (refine Ix.one ?_) | (refine Ix.two ?_) | (refine Ix.nat ?_) | (refine Ix.add ?_) | (apply Go.Eng.Pin.mk; apply Exists.intro) | (apply Go.Eng.Pinned.mk (Eq.refl _) (Eq.refl _)) | fail))
    (refine Br.mk (fun _ => ?_) (fun _ => ?_))
    · have hj : i < xs.length - 1 - i := by omega
      have hst := revAt_step xs i (xs.length - 1 - i) hj (by omega)
      (repeat' ((conv => whnf); first | (refine Giv.mk (fun _ => ?_)) | (refine Alt.l (Need.mk ?h ?_); case h => omega) | (refine Alt.r (Need.mk ?h ?_); case h => omega) | (refine Need.mk ?h ?_; case h => omega) | (refine Need.mk ?h ?_; case h => (intro _; rfl)) | (refine Need.mk ?h ?_; case h => assumption) | (refine Need.mk ?h ?_; case h => (simp <;> omega)) | (refine Ix.zero ?_) | (refine Ix.one ?_) | (refine Ix.two ?_) | (refine Ix.nat ?_) | (refine Ix.add ?_) | (apply Go.Eng.Pin.mk; apply Exists.intro) | (apply Go.Eng.Pinned.mk (Eq.refl _) (Eq.refl _)) | fail))
      refine ix_at (xs.length - 1 - i) (by omega) ?_
      (repeat' ((conv => whnf); first | (refine Giv.mk (fun _ => ?_)) | (refine Alt.l (Need.mk ?h ?_); case h => omega) | (refine Alt.r (Need.mk ?h ?_); case h => omega) | (refine Need.mk ?h ?_; case h => omega) | (refine Need.mk ?h ?_; case h => (intro _; rfl)) | (refine Need.mk ?h ?_; case h => assumption) | (refine Need.mk ?h ?_; case h => (simp <;> omega)) | (refine Ix.zero ?_) | (refine Ix.one ?_) | (refine Ix.two ?_) | (refine Ix.nat ?_) | (refine Ix.add ?_) | (apply Go.Eng.Pin.mk; apply Exists.intro) | (apply Go.Eng.Pinned.mk (Eq.refl _) (Eq.refl _)) | fail))
      refine ix_at (xs.length - 1 - i) (by omega) ?_
      (repeat' ((conv => whnf); first | (refine Giv.mk (fun _ => ?_)) | (refine Alt.l (Need.mk ?h ?_); case h => omega) | (refine Alt.r (Need.mk ?h ?_); case h => omega) | (refine Need.mk ?h ?_; case h => omega) | (refine Need.mk ?h ?_; case h => (intro _; rfl)) | (refine Need.mk ?h ?_; case h => assumption) | (refine Need.mk ?h ?_; case h => (simp <;> omega)) | (refine Ix.zero ?_) | (refine Ix.one ?_) | (refine Ix.two ?_) | (refine Ix.nat ?_) | (refine Ix.add ?_) | (apply Go.Eng.Pin.mk; apply Exists.intro) | (apply Go.Eng.Pinned.mk (Eq.refl _) (Eq.refl _)) | fail))
      refine ⟨(i + 1 : Nat), ?_, ?_, ?_⟩
      · show xs.length - (i + 1) < xs.length - i
        omega
      · show 2 * (i + 1) ≤ xs.length
        omega
      · rw [hst]
        (repeat' (first | exact trivial | rfl | exact Nat.one_pos | (refine And.intro ?_ ?_) | omega | ((conv => whnf); (refine And.intro ?_ ?_)) | ((conv => whnf); exact trivial)))
    · (repeat' ((conv => whnf); first | (refine Giv.mk (fun _ => ?_)) | (refine Alt.l (Need.mk ?h ?_); case h => omega) | (refine Alt.r (Need.mk ?h ?_); case h => omega) | (refine Need.mk ?h ?_; case h => omega) | (refine Need.mk ?h ?_; case h => (intro _; rfl)) | (refine Need.mk ?h ?_; case h => assumption) | (refine Need.mk ?h ?_; case h => (simp <;> omega)) | (refine Ix.zero ?_) | (refine Ix.one ?_) | (refine Ix.two ?_) | (refine Ix.nat ?_) | (refine Ix.add ?_) | (apply Go.Eng.Pin.mk; apply Exists.intro) | (apply Go.Eng.Pinned.mk (Eq.refl _) (Eq.refl _)) | fail))
      (conv => whnf)
      (repeat' (first | exact trivial | rfl | exact Nat.one_pos | (refine And.intro ?_ ?_) | ((conv => whnf); (refine And.intro ?_ ?_)) | ((conv => whnf); exact trivial)))
      exact revAt_end xs i (by omega)
def c22 : Con := linCon 22 0 true fun args o K => match args, o with | [.any], .vec 1 (.int .i64) xs 3 => Need (xs.length ≤ 1000000) (K (.tup []) (.vec 1 (.int .i64) (xs.reverse) 3)) | _, _ => False
theorem k22 : ConOK Try.prog c22 := by
  refine linOK_of (enters_of Try.func22 (by kernel_rfl) rfl) ?_
  intro args t xs e K hfl h
  split at h
  · rename_i zs heq
    cases heq
    first | exact ⟨_, _, h.go, ltri_of_body (Γ := []) (by simp) Try.func22 (by simp [Try.ntmps22]) rfl (b22 zs h.ok)⟩ | exact ⟨_, _, h.go, ltri_of_body (Γ := []) (by simp) Try.func22 (by simp [Try.ntmps22]) rfl (b22 xs h.ok)⟩
  · exact h.elim
end NB
