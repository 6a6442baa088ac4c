/-
  Part 6: a symbolic executor over the model, contracts of functions and plain laws.
-/
import Derived.Test.YtpmbhgmifiianaaP5
section
set_option linter.unusedVariables false
open Go Go.Proofs Go.Eng Go.Shelf
set_option linter.unusedVariables false
namespace EB
set_option maxRecDepth 10000
/-! ### The reference's own checks -/
theorem b58 (n : Int) (S : List (Int × Int)) : body Try.prog [] { loops := [(0, { X := Nat, pre := fun i => i ≤ S.length ∧ ∀ j, j < i → chkAt n S j = 0, mod := fun i _ => [(5, I i)], mu := fun i => S.length - i })] } true Try.f58 [I n, Ps S] (I (chkE n S)) := by
  (repeat' ((conv => whnf); first | (refine Giv.mk fun _ => ?_) | (refine Alt.l (Need.mk ?h ?_); case h => omega) | (refine Alt.r (Need.mk ?h ?_); case h => omega) | (refine Need.mk ?h ?_; case h => first | omega | (intro _; rfl) | assumption | (simp <;> omega)) | refine Ix.zero ?_ | refine Ix.one ?_ | refine Ix.two ?_ | refine Ix.nat ?_ | refine Ix.add ?_ | (apply Go.Eng.Pin.mk; apply Exists.intro) | apply Go.Eng.Pinned.mk rfl rfl | (apply Go.Eng.PinH.mk; apply Exists.intro; apply Exists.intro) | exact Go.Eng.Fin0.mk | refine Go.Eng.Chk.mk ?_ ?_ | refine Own.l ?_ | fail))
  (refine Br.mk (fun _ => ?_) (fun _ => ?_))
  · rename_i h
    (repeat' ((conv => whnf); first | (refine Giv.mk fun _ => ?_) | (refine Alt.l (Need.mk ?h ?_); case h => omega) | (refine Alt.r (Need.mk ?h ?_); case h => omega) | (refine Need.mk ?h ?_; case h => first | omega | (intro _; rfl) | assumption | (simp <;> omega)) | refine Ix.zero ?_ | refine Ix.one ?_ | refine Ix.two ?_ | refine Ix.nat ?_ | refine Ix.add ?_ | (apply Go.Eng.Pin.mk; apply Exists.intro) | apply Go.Eng.Pinned.mk rfl rfl | (apply Go.Eng.PinH.mk; apply Exists.intro; apply Exists.intro) | exact Go.Eng.Fin0.mk | refine Go.Eng.Chk.mk ?_ ?_ | refine Own.l ?_ | fail))
    (conv => whnf)
    exact ⟨rfl, by unfold chkE; rw [if_pos (by omega)]⟩
  rename_i g3
  (repeat' ((conv => whnf); first | (refine Giv.mk fun _ => ?_) | (refine Alt.l (Need.mk ?h ?_); case h => omega) | (refine Alt.r (Need.mk ?h ?_); case h => omega) | (refine Need.mk ?h ?_; case h => first | omega | (intro _; rfl) | assumption | (simp <;> omega)) | refine Ix.zero ?_ | refine Ix.one ?_ | refine Ix.two ?_ | refine Ix.nat ?_ | refine Ix.add ?_ | (apply Go.Eng.Pin.mk; apply Exists.intro) | apply Go.Eng.Pinned.mk rfl rfl | (apply Go.Eng.PinH.mk; apply Exists.intro; apply Exists.intro) | exact Go.Eng.Fin0.mk | refine Go.Eng.Chk.mk ?_ ?_ | refine Own.l ?_ | fail))
  refine ⟨⟨(0 : Nat), ⟨Nat.zero_le _, fun j hj => absurd hj (Nat.not_lt_zero _)⟩, by (repeat' (first | exact trivial | rfl | exact Nat.one_pos | (refine And.intro ?_ ?_) | omega | ((conv => whnf); (refine And.intro ?_ ?_)) | ((conv => whnf); exact trivial)))⟩, fun (i : Nat) hi => ?_⟩
  obtain ⟨hi, hb⟩ := hi
  (repeat' ((conv => whnf); first | (refine Giv.mk fun _ => ?_) | (refine Alt.l (Need.mk ?h ?_); case h => omega) | (refine Alt.r (Need.mk ?h ?_); case h => omega) | (refine Need.mk ?h ?_; case h => first | omega | (intro _; rfl) | assumption | (simp <;> omega)) | refine Ix.zero ?_ | refine Ix.one ?_ | refine Ix.two ?_ | refine Ix.nat ?_ | refine Ix.add ?_ | (apply Go.Eng.Pin.mk; apply Exists.intro) | apply Go.Eng.Pinned.mk rfl rfl | (apply Go.Eng.PinH.mk; apply Exists.intro; apply Exists.intro) | exact Go.Eng.Fin0.mk | refine Go.Eng.Chk.mk ?_ ?_ | refine Own.l ?_ | fail))
  (refine Br.mk (fun _ => ?_) (fun _ => ?_))
  · have hlt : i < S.length := by omega
    have e8 : ((S.getD i (0, 0)).1 < 1 ∨ 3 < (S.getD i (0, 0)).1) → 8 = chkE n S := fun h => chkE_at g3 hlt hb (by unfold chkAt; rw [if_pos h]) (by decide)
    have e2 : ¬ ((S.getD i (0, 0)).1 < 1 ∨ 3 < (S.getD i (0, 0)).1) → ((S.getD i (0, 0)).2 < 0 ∨ (0 ≤ n ∧ n ≤ (S.getD i (0, 0)).2)) → 2 = chkE n S := fun h h2 => chkE_at g3 hlt hb (by unfold chkAt; rw [if_neg h, if_pos h2]) (by decide)
    have e0 : ¬ ((S.getD i (0, 0)).1 < 1 ∨ 3 < (S.getD i (0, 0)).1) → ¬ ((S.getD i (0, 0)).2 < 0 ∨ (0 ≤ n ∧ n ≤ (S.getD i (0, 0)).2)) → ∀ j, j < i + 1 → chkAt n S j = 0 := fun h h2 j hj => by
      by_cases e : j = i
      · subst e; unfold chkAt; rw [if_neg h, if_neg h2]
      · exact hb j (by omega)
    (repeat' ((conv => whnf); first | (refine Giv.mk fun _ => ?_) | (refine Alt.l (Need.mk ?h ?_); case h => omega) | (refine Alt.r (Need.mk ?h ?_); case h => omega) | (refine Need.mk ?h ?_; case h => first | omega | (intro _; rfl) | assumption | (simp <;> omega)) | refine Ix.zero ?_ | refine Ix.one ?_ | refine Ix.two ?_ | refine Ix.nat ?_ | refine Ix.add ?_ | (apply Go.Eng.Pin.mk; apply Exists.intro) | apply Go.Eng.Pinned.mk rfl rfl | (apply Go.Eng.PinH.mk; apply Exists.intro; apply Exists.intro) | exact Go.Eng.Fin0.mk | refine Go.Eng.Chk.mk ?_ ?_ | refine Own.l ?_ | (refine Br.mkY ?h ?_; case h => first | omega | assumption) | (refine Br.mkN ?h ?_; case h => first | omega | assumption | exact not_not_intro (by assumption)) | (refine Br.mk (fun _ => ?_) (fun _ => ?_)) | fail))
    · (conv => whnf)
      exact ⟨rfl, e8 (.inl ‹_›)⟩
    · (conv => whnf)
      exact ⟨rfl, e8 (.inr ‹_›)⟩
    · (conv => whnf)
      exact ⟨rfl, e2 (by omega) (.inl ‹_›)⟩
    · (conv => whnf)
      exact ⟨rfl, e2 (by omega) (.inr ⟨‹_›, ‹_›⟩)⟩
    · refine ⟨(i + 1 : Nat), by show S.length - (i + 1) < S.length - i; omega, ⟨hlt, e0 (by omega) (by omega)⟩, by (repeat' (first | exact trivial | rfl | exact Nat.one_pos | (refine And.intro ?_ ?_) | omega | ((conv => whnf); (refine And.intro ?_ ?_)) | ((conv => whnf); exact trivial)))⟩
    · refine ⟨(i + 1 : Nat), by show S.length - (i + 1) < S.length - i; omega, ⟨hlt, e0 (by omega) (by omega)⟩, by (repeat' (first | exact trivial | rfl | exact Nat.one_pos | (refine And.intro ?_ ?_) | omega | ((conv => whnf); (refine And.intro ?_ ?_)) | ((conv => whnf); exact trivial)))⟩
  · have hii : i = S.length := by omega
    subst hii
    (repeat' ((conv => whnf); first | (refine Giv.mk fun _ => ?_) | (refine Alt.l (Need.mk ?h ?_); case h => omega) | (refine Alt.r (Need.mk ?h ?_); case h => omega) | (refine Need.mk ?h ?_; case h => first | omega | (intro _; rfl) | assumption | (simp <;> omega)) | refine Ix.zero ?_ | refine Ix.one ?_ | refine Ix.two ?_ | refine Ix.nat ?_ | refine Ix.add ?_ | (apply Go.Eng.Pin.mk; apply Exists.intro) | apply Go.Eng.Pinned.mk rfl rfl | (apply Go.Eng.PinH.mk; apply Exists.intro; apply Exists.intro) | exact Go.Eng.Fin0.mk | refine Go.Eng.Chk.mk ?_ ?_ | refine Own.l ?_ | (refine Br.mkY ?h ?_; case h => first | omega | assumption) | (refine Br.mkN ?h ?_; case h => first | omega | assumption | exact not_not_intro (by assumption)) | fail))
    (conv => whnf)
    exact ⟨rfl, by unfold chkE; rw [if_neg (by omega), firstE_none hb]⟩
def c58 : Con := mkCon 58 true fun args K => match args with | [.val (.int .i64 n), .seq (.pair (.int .i64) (.int .i64)) S] => K (I (chkE n S)) | _ => False
theorem k58 : ConOK Try.prog c58 := by
  refine conOK_of rfl (enters_of Try.func58 (by kernel_rfl) rfl) ?_
  intro args K h
  simp only [c58] at h
  split at h
  · rename_i n S; exact ⟨_, h, tri_of_body (Γ := []) (by simp) Try.func58 (by simp [Try.ntmps58]) rfl (b58 n S)⟩
  · exact h.elim
theorem orI_two (a b : Int) : orI [a, b] = if a ≠ 0 then a else b := by
  by_cases h : a = 0
  · subst h
    by_cases hb : b = 0
    · subst hb; rfl
    · have h0 : ∀ j, j < 1 → [0, b].getD j 0 = 0 := fun j hj => by
        obtain rfl : j = 0 := by omega
        rfl
      rw [orI_at [0, b] 1 (show 1 < 2 by decide) hb h0]
      rfl
  · rw [orI_at [a, b] 0 (show 0 < 2 by decide) h (fun j hj => absurd hj (Nat.not_lt_zero _)), if_pos h]; rfl
theorem ordAt (a b c d : Int) : 0 ≤ orI [cmpI a c, cmpI b d] ↔ c < a ∨ (c = a ∧ d ≤ b) := by
  rw [orI_two]
  unfold cmpI
  by_cases h1 : a < c
  · rw [if_pos h1]; simp; omega
  · rw [if_neg h1]
    by_cases h2 : c < a
    · rw [if_pos h2]; simp; omega
    · rw [if_neg h2]
      simp
      have : c = a := by omega
      by_cases h3 : b < d
      · rw [if_pos h3]; omega
      · rw [if_neg h3]
        by_cases h4 : d < b
        · rw [if_pos h4]; omega
        · rw [if_neg h4]; omega
theorem b62 (n : Int) (l : List (Int × Int)) : body Try.prog [] { asks := [(0, [])] } true Try.f62 [I n, Ps l] (I (supE n l)) := by
  (repeat' ((conv => whnf); first | (refine Giv.mk fun _ => ?_) | (refine Alt.l (Need.mk ?h ?_); case h => omega) | (refine Alt.r (Need.mk ?h ?_); case h => omega) | (refine Need.mk ?h ?_; case h => first | omega | (intro _; rfl) | assumption | (simp <;> omega)) | refine Ix.zero ?_ | refine Ix.one ?_ | refine Ix.two ?_ | refine Ix.nat ?_ | refine Ix.add ?_ | (apply Go.Eng.Pin.mk; apply Exists.intro) | apply Go.Eng.Pinned.mk rfl rfl | (apply Go.Eng.PinH.mk; apply Exists.intro; apply Exists.intro) | exact Go.Eng.Fin0.mk | refine Go.Eng.Chk.mk ?_ ?_ | refine Own.l ?_ | fail))
  (refine Br.mk (fun _ => ?_) (fun _ => ?_))
  · rename_i h
    (repeat' ((conv => whnf); first | (refine Giv.mk fun _ => ?_) | (refine Alt.l (Need.mk ?h ?_); case h => omega) | (refine Alt.r (Need.mk ?h ?_); case h => omega) | (refine Need.mk ?h ?_; case h => first | omega | (intro _; rfl) | assumption | (simp <;> omega)) | refine Ix.zero ?_ | refine Ix.one ?_ | refine Ix.two ?_ | refine Ix.nat ?_ | refine Ix.add ?_ | (apply Go.Eng.Pin.mk; apply Exists.intro) | apply Go.Eng.Pinned.mk rfl rfl | (apply Go.Eng.PinH.mk; apply Exists.intro; apply Exists.intro) | exact Go.Eng.Fin0.mk | refine Go.Eng.Chk.mk ?_ ?_ | refine Own.l ?_ | fail))
    (conv => whnf)
    exact ⟨rfl, supE_out (.inl h)⟩
  rename_i g1
  (repeat' ((conv => whnf); first | (refine Giv.mk fun _ => ?_) | (refine Alt.l (Need.mk ?h ?_); case h => omega) | (refine Alt.r (Need.mk ?h ?_); case h => omega) | (refine Need.mk ?h ?_; case h => first | omega | (intro _; rfl) | assumption | (simp <;> omega)) | refine Ix.zero ?_ | refine Ix.one ?_ | refine Ix.two ?_ | refine Ix.nat ?_ | refine Ix.add ?_ | (apply Go.Eng.Pin.mk; apply Exists.intro) | apply Go.Eng.Pinned.mk rfl rfl | (apply Go.Eng.PinH.mk; apply Exists.intro; apply Exists.intro) | exact Go.Eng.Fin0.mk | refine Go.Eng.Chk.mk ?_ ?_ | refine Own.l ?_ | fail))
  (refine Br.mk (fun _ => ?_) (fun _ => ?_))
  · rename_i h
    (repeat' ((conv => whnf); first | (refine Giv.mk fun _ => ?_) | (refine Alt.l (Need.mk ?h ?_); case h => omega) | (refine Alt.r (Need.mk ?h ?_); case h => omega) | (refine Need.mk ?h ?_; case h => first | omega | (intro _; rfl) | assumption | (simp <;> omega)) | refine Ix.zero ?_ | refine Ix.one ?_ | refine Ix.two ?_ | refine Ix.nat ?_ | refine Ix.add ?_ | (apply Go.Eng.Pin.mk; apply Exists.intro) | apply Go.Eng.Pinned.mk rfl rfl | (apply Go.Eng.PinH.mk; apply Exists.intro; apply Exists.intro) | exact Go.Eng.Fin0.mk | refine Go.Eng.Chk.mk ?_ ?_ | refine Own.l ?_ | fail))
    (conv => whnf)
    exact ⟨rfl, supE_out (.inr h)⟩
  rename_i g2
  (repeat' ((conv => whnf); first | (refine Giv.mk fun _ => ?_) | (refine Alt.l (Need.mk ?h ?_); case h => omega) | (refine Alt.r (Need.mk ?h ?_); case h => omega) | (refine Need.mk ?h ?_; case h => first | omega | (intro _; rfl) | assumption | (simp <;> omega)) | refine Ix.zero ?_ | refine Ix.one ?_ | refine Ix.two ?_ | refine Ix.nat ?_ | refine Ix.add ?_ | (apply Go.Eng.Pin.mk; apply Exists.intro) | apply Go.Eng.Pinned.mk rfl rfl | (apply Go.Eng.PinH.mk; apply Exists.intro; apply Exists.intro) | exact Go.Eng.Fin0.mk | refine Go.Eng.Chk.mk ?_ ?_ | refine Own.l ?_ | fail))
  (refine Br.mk (fun _ => ?_) (fun _ => ?_))
  · rename_i h
    (repeat' ((conv => whnf); first | (refine Giv.mk fun _ => ?_) | (refine Alt.l (Need.mk ?h ?_); case h => omega) | (refine Alt.r (Need.mk ?h ?_); case h => omega) | (refine Need.mk ?h ?_; case h => first | omega | (intro _; rfl) | assumption | (simp <;> omega)) | refine Ix.zero ?_ | refine Ix.one ?_ | refine Ix.two ?_ | refine Ix.nat ?_ | refine Ix.add ?_ | (apply Go.Eng.Pin.mk; apply Exists.intro) | apply Go.Eng.Pinned.mk rfl rfl | (apply Go.Eng.PinH.mk; apply Exists.intro; apply Exists.intro) | exact Go.Eng.Fin0.mk | refine Go.Eng.Chk.mk ?_ ?_ | refine Own.l ?_ | fail))
    (conv => whnf)
    exact ⟨rfl, supE_long g1 g2 h⟩
  rename_i g3
  (repeat' ((conv => whnf); first | (refine Giv.mk fun _ => ?_) | (refine Alt.l (Need.mk ?h ?_); case h => omega) | (refine Alt.r (Need.mk ?h ?_); case h => omega) | (refine Need.mk ?h ?_; case h => first | omega | (intro _; rfl) | assumption | (simp <;> omega)) | refine Ix.zero ?_ | refine Ix.one ?_ | refine Ix.two ?_ | refine Ix.nat ?_ | refine Ix.add ?_ | (apply Go.Eng.Pin.mk; apply Exists.intro) | apply Go.Eng.Pinned.mk rfl rfl | (apply Go.Eng.PinH.mk; apply Exists.intro; apply Exists.intro) | exact Go.Eng.Fin0.mk | refine Go.Eng.Chk.mk ?_ ?_ | refine Own.l ?_ | fail))
  refine Ask.mk ⟨{ X := Nat, pre := fun i => i ≤ l.length ∧ ∀ j, j < i → supAt n l j = 0, mod := fun i _ => [(5, I i)], mu := fun i => l.length - i }, rfl, ?_⟩
  (repeat' ((conv => whnf); first | (refine Giv.mk fun _ => ?_) | (refine Alt.l (Need.mk ?h ?_); case h => omega) | (refine Alt.r (Need.mk ?h ?_); case h => omega) | (refine Need.mk ?h ?_; case h => first | omega | (intro _; rfl) | assumption | (simp <;> omega)) | refine Ix.zero ?_ | refine Ix.one ?_ | refine Ix.two ?_ | refine Ix.nat ?_ | refine Ix.add ?_ | (apply Go.Eng.Pin.mk; apply Exists.intro) | apply Go.Eng.Pinned.mk rfl rfl | (apply Go.Eng.PinH.mk; apply Exists.intro; apply Exists.intro) | exact Go.Eng.Fin0.mk | refine Go.Eng.Chk.mk ?_ ?_ | refine Own.l ?_ | fail))
  refine ⟨⟨(0 : Nat), ⟨Nat.zero_le _, by omega⟩, by (repeat' (first | exact trivial | rfl | exact Nat.one_pos | (refine And.intro ?_ ?_) | omega | ((conv => whnf); (refine And.intro ?_ ?_)) | ((conv => whnf); exact trivial)))⟩, fun (i : Nat) hi => ?_⟩
  obtain ⟨hi, hb⟩ := hi
  (repeat' ((conv => whnf); first | (refine Giv.mk fun _ => ?_) | (refine Alt.l (Need.mk ?h ?_); case h => omega) | (refine Alt.r (Need.mk ?h ?_); case h => omega) | (refine Need.mk ?h ?_; case h => first | omega | (intro _; rfl) | assumption | (simp <;> omega)) | refine Ix.zero ?_ | refine Ix.one ?_ | refine Ix.two ?_ | refine Ix.nat ?_ | refine Ix.add ?_ | (apply Go.Eng.Pin.mk; apply Exists.intro) | apply Go.Eng.Pinned.mk rfl rfl | (apply Go.Eng.PinH.mk; apply Exists.intro; apply Exists.intro) | exact Go.Eng.Fin0.mk | refine Go.Eng.Chk.mk ?_ ?_ | refine Own.l ?_ | fail))
  (refine Br.mk (fun _ => ?_) (fun _ => ?_))
  · have hlt : i < l.length := by omega
    have bad : ((l.getD i (0, 0)).1 < 0 ∨ n ≤ (l.getD i (0, 0)).1 ∨ (l.getD i (0, 0)).2 < -1 ∨ n ≤ (l.getD i (0, 0)).2) → 2 = supE n l := fun h =>
      supE_at g1 g2 g3 hlt hb (by unfold supAt; rw [if_pos h]) (by decide)
    have hord := ordAt (l.getD (i - 1) (0, 0)).1 (l.getD (i - 1) (0, 0)).2 (l.getD i (0, 0)).1 (l.getD i (0, 0)).2
    have bad3 : 0 < (i : Int) → ((l.getD i (0, 0)).1 < (l.getD (i - 1) (0, 0)).1 ∨ ((l.getD i (0, 0)).1 = (l.getD (i - 1) (0, 0)).1 ∧ (l.getD i (0, 0)).2 ≤ (l.getD (i - 1) (0, 0)).2)) → ¬ ((l.getD i (0, 0)).1 < 0 ∨ n ≤ (l.getD i (0, 0)).1 ∨ (l.getD i (0, 0)).2 < -1 ∨ n ≤ (l.getD i (0, 0)).2) → ¬ (l.getD i (0, 0)).1 = (l.getD i (0, 0)).2 → 10 = supE n l := fun h1 h2 h3 h4 =>
      supE_at g1 g2 g3 hlt hb (by unfold supAt; rw [if_neg h3, if_neg h4, if_pos ⟨by omega, hord.2 h2⟩]) (by decide)
    have good : ¬ ((l.getD i (0, 0)).1 < 0 ∨ n ≤ (l.getD i (0, 0)).1 ∨ (l.getD i (0, 0)).2 < -1 ∨ n ≤ (l.getD i (0, 0)).2) → ¬ (l.getD i (0, 0)).1 = (l.getD i (0, 0)).2 → (0 < (i : Int) → ¬ ((l.getD i (0, 0)).1 < (l.getD (i - 1) (0, 0)).1 ∨ ((l.getD i (0, 0)).1 = (l.getD (i - 1) (0, 0)).1 ∧ (l.getD i (0, 0)).2 ≤ (l.getD (i - 1) (0, 0)).2))) → ∀ j, j < i + 1 → supAt n l j = 0 := fun h3 h4 h5 j hj => by
      by_cases e : j = i
      · subst e
        unfold supAt
        rw [if_neg h3, if_neg h4, if_neg fun h => h5 (by omega) (hord.1 h.2)]
      · exact hb j (by omega)
    (repeat' ((conv => whnf); first | (refine Giv.mk fun _ => ?_) | (refine Alt.l (Need.mk ?h ?_); case h => omega) | (refine Alt.r (Need.mk ?h ?_); case h => omega) | (refine Need.mk ?h ?_; case h => first | omega | (intro _; rfl) | assumption | (simp <;> omega)) | refine Ix.zero ?_ | refine Ix.one ?_ | refine Ix.two ?_ | refine Ix.nat ?_ | refine Ix.add ?_ | (apply Go.Eng.Pin.mk; apply Exists.intro) | apply Go.Eng.Pinned.mk rfl rfl | (apply Go.Eng.PinH.mk; apply Exists.intro; apply Exists.intro) | exact Go.Eng.Fin0.mk | refine Go.Eng.Chk.mk ?_ ?_ | refine Own.l ?_ | (refine Br.mkY ?h ?_; case h => first | omega | assumption) | (refine Br.mkN ?h ?_; case h => first | omega | assumption | exact not_not_intro (by assumption)) | (refine Br.mk (fun _ => ?_) (fun _ => ?_)) | fail))
    · (conv => whnf)
      exact ⟨rfl, bad (.inl ‹_›)⟩
    · (conv => whnf)
      exact ⟨rfl, bad (.inr (.inl ‹_›))⟩
    · (conv => whnf)
      exact ⟨rfl, bad (.inr (.inr (.inl ‹_›)))⟩
    · (conv => whnf)
      exact ⟨rfl, bad (.inr (.inr (.inr ‹_›)))⟩
    · rename_i k1 k2 k3 k4 k5
      (conv => whnf)
      exact ⟨rfl, supE_at g1 g2 g3 hlt hb (by unfold supAt; rw [if_neg (by omega), if_pos k5]) (by decide)⟩
    · refine ix_at (i - 1) (by omega) ?_
      (repeat' ((conv => whnf); first | (refine Giv.mk fun _ => ?_) | (refine Alt.l (Need.mk ?h ?_); case h => omega) | (refine Alt.r (Need.mk ?h ?_); case h => omega) | (refine Need.mk ?h ?_; case h => first | omega | (intro _; rfl) | assumption | (simp <;> omega)) | refine Ix.zero ?_ | refine Ix.one ?_ | refine Ix.two ?_ | refine Ix.nat ?_ | refine Ix.add ?_ | (apply Go.Eng.Pin.mk; apply Exists.intro) | apply Go.Eng.Pinned.mk rfl rfl | (apply Go.Eng.PinH.mk; apply Exists.intro; apply Exists.intro) | exact Go.Eng.Fin0.mk | refine Go.Eng.Chk.mk ?_ ?_ | refine Own.l ?_ | (refine Br.mkY ?h ?_; case h => first | omega | assumption) | (refine Br.mkN ?h ?_; case h => first | omega | assumption | exact not_not_intro (by assumption)) | (refine Br.mk (fun _ => ?_) (fun _ => ?_)) | fail))
      · exact ⟨rfl, bad3 ‹_› (.inl ‹_›) (by omega) (by omega)⟩
      · refine ix_at (i - 1) (by omega) ?_
        (repeat' ((conv => whnf); first | (refine Giv.mk fun _ => ?_) | (refine Alt.l (Need.mk ?h ?_); case h => omega) | (refine Alt.r (Need.mk ?h ?_); case h => omega) | (refine Need.mk ?h ?_; case h => first | omega | (intro _; rfl) | assumption | (simp <;> omega)) | refine Ix.zero ?_ | refine Ix.one ?_ | refine Ix.two ?_ | refine Ix.nat ?_ | refine Ix.add ?_ | (apply Go.Eng.Pin.mk; apply Exists.intro) | apply Go.Eng.Pinned.mk rfl rfl | (apply Go.Eng.PinH.mk; apply Exists.intro; apply Exists.intro) | exact Go.Eng.Fin0.mk | refine Go.Eng.Chk.mk ?_ ?_ | refine Own.l ?_ | (refine Br.mkY ?h ?_; case h => first | omega | assumption) | (refine Br.mkN ?h ?_; case h => first | omega | assumption | exact not_not_intro (by assumption)) | (refine Br.mk (fun _ => ?_) (fun _ => ?_)) | fail))
        · refine ix_at (i - 1) (by omega) ?_
          (repeat' ((conv => whnf); first | (refine Giv.mk fun _ => ?_) | (refine Alt.l (Need.mk ?h ?_); case h => omega) | (refine Alt.r (Need.mk ?h ?_); case h => omega) | (refine Need.mk ?h ?_; case h => first | omega | (intro _; rfl) | assumption | (simp <;> omega)) | refine Ix.zero ?_ | refine Ix.one ?_ | refine Ix.two ?_ | refine Ix.nat ?_ | refine Ix.add ?_ | (apply Go.Eng.Pin.mk; apply Exists.intro) | apply Go.Eng.Pinned.mk rfl rfl | (apply Go.Eng.PinH.mk; apply Exists.intro; apply Exists.intro) | exact Go.Eng.Fin0.mk | refine Go.Eng.Chk.mk ?_ ?_ | refine Own.l ?_ | (refine Br.mkY ?h ?_; case h => first | omega | assumption) | (refine Br.mkN ?h ?_; case h => first | omega | assumption | exact not_not_intro (by assumption)) | (refine Br.mk (fun _ => ?_) (fun _ => ?_)) | fail))
          · exact ⟨rfl, bad3 ‹_› (.inr ⟨by omega, by omega⟩) (by omega) (by omega)⟩
          · refine ⟨(i + 1 : Nat), by show l.length - (i + 1) < l.length - i; omega, ⟨hlt, good (by omega) (by omega) fun _ => by omega⟩, by (repeat' (first | exact trivial | rfl | exact Nat.one_pos | (refine And.intro ?_ ?_) | omega | ((conv => whnf); (refine And.intro ?_ ?_)) | ((conv => whnf); exact trivial)))⟩
        · refine ⟨(i + 1 : Nat), by show l.length - (i + 1) < l.length - i; omega, ⟨hlt, good (by omega) (by omega) fun _ => by omega⟩, by (repeat' (first | exact trivial | rfl | exact Nat.one_pos | (refine And.intro ?_ ?_) | omega | ((conv => whnf); (refine And.intro ?_ ?_)) | ((conv => whnf); exact trivial)))⟩
    · refine ⟨(i + 1 : Nat), by show l.length - (i + 1) < l.length - i; omega, ⟨hlt, good (by omega) (by omega) fun _ => by omega⟩, by (repeat' (first | exact trivial | rfl | exact Nat.one_pos | (refine And.intro ?_ ?_) | omega | ((conv => whnf); (refine And.intro ?_ ?_)) | ((conv => whnf); exact trivial)))⟩
  · have hii : i = l.length := by omega
    subst hii
    (repeat' ((conv => whnf); first | (refine Giv.mk fun _ => ?_) | (refine Alt.l (Need.mk ?h ?_); case h => omega) | (refine Alt.r (Need.mk ?h ?_); case h => omega) | (refine Need.mk ?h ?_; case h => first | omega | (intro _; rfl) | assumption | (simp <;> omega)) | refine Ix.zero ?_ | refine Ix.one ?_ | refine Ix.two ?_ | refine Ix.nat ?_ | refine Ix.add ?_ | (apply Go.Eng.Pin.mk; apply Exists.intro) | apply Go.Eng.Pinned.mk rfl rfl | (apply Go.Eng.PinH.mk; apply Exists.intro; apply Exists.intro) | exact Go.Eng.Fin0.mk | refine Go.Eng.Chk.mk ?_ ?_ | refine Own.l ?_ | (refine Br.mkY ?h ?_; case h => first | omega | assumption) | (refine Br.mkN ?h ?_; case h => first | omega | assumption | exact not_not_intro (by assumption)) | fail))
    (conv => whnf)
    exact ⟨rfl, supE_ok g1 g2 g3 hb⟩
def c62 : Con := mkCon 62 true fun args K => match args with | [.val (.int .i64 n), .seq (.pair (.int .i64) (.int .i64)) l] => K (I (supE n l)) | _ => False
theorem k62 : ConOK Try.prog c62 := by
  refine conOK_of rfl (enters_of Try.func62 (by kernel_rfl) rfl) ?_
  intro args K h
  simp only [c62] at h
  split at h
  · rename_i n l; exact ⟨_, h, tri_of_body (Γ := []) (by simp) Try.func62 (by simp [Try.ntmps62]) rfl (b62 n l)⟩
  · exact h.elim
/-! ### What the reference looks up -/
def someF (l : List (Int × Int)) (m : Int) (k : Nat) : Bool := (l.take k).any (upP m)
def allF (l : List (Int × Int)) (st : List Bool) (m : Int) (k : Nat) : Bool := (l.take k).all fun r => !(upP m r) || (decide (r.2 < 0) || st.getD r.2.toNat false)
theorem someF_succ (l : List (Int × Int)) (m : Int) (k : Nat) (h : k < l.length) : someF l m (k + 1) = (someF l m k || upP m (l.getD k (0, 0))) := by
  unfold someF; rw [take_pair l k h, List.any_append]; simp
theorem allF_succ (l : List (Int × Int)) (st : List Bool) (m : Int) (k : Nat) (h : k < l.length) : allF l st m (k + 1) = (allF l st m k && (!(upP m (l.getD k (0, 0))) || (decide ((l.getD k (0, 0)).2 < 0) || st.getD (l.getD k (0, 0)).2.toNat false))) := by
  unfold allF; rw [take_pair l k h, List.all_append]; simp
abbrev Bs (xs : List Bool) : SV := .seq .bool xs
theorem b63 (l : List (Int × Int)) (m : Int) (st : List Bool) (h : ∀ i, i < l.length → (l.getD i (0, 0)).2 < st.length) : body Try.prog [] { asks := [(0, [])] } true Try.f63 [Ps l, I m, Bs st] (.tup [.bl (l.any (upP m) = true) inferInstance, .bl (allF l st m l.length = true) inferInstance]) := by
  (repeat' ((conv => whnf); first | (refine Giv.mk fun _ => ?_) | (refine Alt.l (Need.mk ?h ?_); case h => omega) | (refine Alt.r (Need.mk ?h ?_); case h => omega) | (refine Need.mk ?h ?_; case h => first | omega | (intro _; rfl) | assumption | (simp <;> omega)) | refine Ix.zero ?_ | refine Ix.one ?_ | refine Ix.two ?_ | refine Ix.nat ?_ | refine Ix.add ?_ | (apply Go.Eng.Pin.mk; apply Exists.intro) | apply Go.Eng.Pinned.mk rfl rfl | (apply Go.Eng.PinH.mk; apply Exists.intro; apply Exists.intro) | exact Go.Eng.Fin0.mk | refine Go.Eng.Chk.mk ?_ ?_ | refine Own.l ?_ | fail))
  refine Ask.mk ⟨{ X := Nat, pre := fun i => i ≤ l.length, mod := fun i _ => [(8, .bl (someF l m i = true) inferInstance), (9, .bl (allF l st m i = true) inferInstance), (10, I i)], mu := fun i => l.length - i }, rfl, ?_⟩
  (repeat' ((conv => whnf); first | (refine Giv.mk fun _ => ?_) | (refine Alt.l (Need.mk ?h ?_); case h => omega) | (refine Alt.r (Need.mk ?h ?_); case h => omega) | (refine Need.mk ?h ?_; case h => first | omega | (intro _; rfl) | assumption | (simp <;> omega)) | refine Ix.zero ?_ | refine Ix.one ?_ | refine Ix.two ?_ | refine Ix.nat ?_ | refine Ix.add ?_ | (apply Go.Eng.Pin.mk; apply Exists.intro) | apply Go.Eng.Pinned.mk rfl rfl | (apply Go.Eng.PinH.mk; apply Exists.intro; apply Exists.intro) | exact Go.Eng.Fin0.mk | refine Go.Eng.Chk.mk ?_ ?_ | refine Own.l ?_ | fail))
  refine ⟨⟨(0 : Nat), Nat.zero_le _, ?_⟩, fun (i : Nat) (hi : i ≤ l.length) => ?_⟩
  · (repeat' (first | exact trivial | rfl | exact Nat.one_pos | (refine And.intro ?_ ?_) | omega | ((conv => whnf); (refine And.intro ?_ ?_)) | ((conv => whnf); exact trivial)))
    all_goals (conv => whnf)
    all_goals first | rfl | (intro h; cases h)
  · (repeat' ((conv => whnf); first | (refine Giv.mk fun _ => ?_) | (refine Alt.l (Need.mk ?h ?_); case h => omega) | (refine Alt.r (Need.mk ?h ?_); case h => omega) | (refine Need.mk ?h ?_; case h => first | omega | (intro _; rfl) | assumption | (simp <;> omega)) | refine Ix.zero ?_ | refine Ix.one ?_ | refine Ix.two ?_ | refine Ix.nat ?_ | refine Ix.add ?_ | (apply Go.Eng.Pin.mk; apply Exists.intro) | apply Go.Eng.Pinned.mk rfl rfl | (apply Go.Eng.PinH.mk; apply Exists.intro; apply Exists.intro) | exact Go.Eng.Fin0.mk | refine Go.Eng.Chk.mk ?_ ?_ | refine Own.l ?_ | fail))
    (refine Br.mk (fun _ => ?_) (fun _ => ?_))
    · have hlt : i < l.length := by omega
      have e1 := someF_succ l m i hlt
      have e2 := allF_succ l st m i hlt
      have e3 := h i hlt
      have arr : ∀ {p q : Prop}, (p ↔ someF l m (i + 1) = true) → (q ↔ allF l st m (i + 1) = true) → (p ↔ someF l m (i + 1) = true) ∧ (q ↔ allF l st m (i + 1) = true) := fun a b => ⟨a, b⟩
      (repeat' ((conv => whnf); first | (refine Giv.mk fun _ => ?_) | (refine Alt.l (Need.mk ?h ?_); case h => omega) | (refine Alt.r (Need.mk ?h ?_); case h => omega) | (refine Need.mk ?h ?_; case h => first | omega | (intro _; rfl) | assumption | (simp <;> omega)) | refine Ix.zero ?_ | refine Ix.one ?_ | refine Ix.two ?_ | refine Ix.nat ?_ | refine Ix.add ?_ | (apply Go.Eng.Pin.mk; apply Exists.intro) | apply Go.Eng.Pinned.mk rfl rfl | (apply Go.Eng.PinH.mk; apply Exists.intro; apply Exists.intro) | exact Go.Eng.Fin0.mk | refine Go.Eng.Chk.mk ?_ ?_ | refine Own.l ?_ | fail))
      (refine Br.mk (fun _ => ?_) (fun _ => ?_))
      · rename_i hu
        rw [show upP m (l.getD i (0, 0)) = true from decide_eq_true hu, Bool.or_true] at e1
        rw [show upP m (l.getD i (0, 0)) = true from decide_eq_true hu, Bool.not_true, Bool.false_or] at e2
        (repeat' ((conv => whnf); first | (refine Giv.mk fun _ => ?_) | (refine Alt.l (Need.mk ?h ?_); case h => omega) | (refine Alt.r (Need.mk ?h ?_); case h => omega) | (refine Need.mk ?h ?_; case h => first | omega | (intro _; rfl) | assumption | (simp <;> omega)) | refine Ix.zero ?_ | refine Ix.one ?_ | refine Ix.two ?_ | refine Ix.nat ?_ | refine Ix.add ?_ | (apply Go.Eng.Pin.mk; apply Exists.intro) | apply Go.Eng.Pinned.mk rfl rfl | (apply Go.Eng.PinH.mk; apply Exists.intro; apply Exists.intro) | exact Go.Eng.Fin0.mk | refine Go.Eng.Chk.mk ?_ ?_ | refine Own.l ?_ | fail))
        (refine Br.mk (fun _ => ?_) (fun _ => ?_))
        · rename_i ha
          rw [ha, Bool.true_and] at e2
          (repeat' ((conv => whnf); first | (refine Giv.mk fun _ => ?_) | (refine Alt.l (Need.mk ?h ?_); case h => omega) | (refine Alt.r (Need.mk ?h ?_); case h => omega) | (refine Need.mk ?h ?_; case h => first | omega | (intro _; rfl) | assumption | (simp <;> omega)) | refine Ix.zero ?_ | refine Ix.one ?_ | refine Ix.two ?_ | refine Ix.nat ?_ | refine Ix.add ?_ | (apply Go.Eng.Pin.mk; apply Exists.intro) | apply Go.Eng.Pinned.mk rfl rfl | (apply Go.Eng.PinH.mk; apply Exists.intro; apply Exists.intro) | exact Go.Eng.Fin0.mk | refine Go.Eng.Chk.mk ?_ ?_ | refine Own.l ?_ | fail))
          (refine Br.mk (fun _ => ?_) (fun _ => ?_))
          · rename_i hn
            rw [decide_eq_true hn, Bool.true_or] at e2
            (repeat' ((conv => whnf); first | (refine Giv.mk fun _ => ?_) | (refine Alt.l (Need.mk ?h ?_); case h => omega) | (refine Alt.r (Need.mk ?h ?_); case h => omega) | (refine Need.mk ?h ?_; case h => first | omega | (intro _; rfl) | assumption | (simp <;> omega)) | refine Ix.zero ?_ | refine Ix.one ?_ | refine Ix.two ?_ | refine Ix.nat ?_ | refine Ix.add ?_ | (apply Go.Eng.Pin.mk; apply Exists.intro) | apply Go.Eng.Pinned.mk rfl rfl | (apply Go.Eng.PinH.mk; apply Exists.intro; apply Exists.intro) | exact Go.Eng.Fin0.mk | refine Go.Eng.Chk.mk ?_ ?_ | refine Own.l ?_ | fail))
            refine ⟨(i + 1 : Nat), by show l.length - (i + 1) < l.length - i; omega, hlt, ?_⟩
            (repeat' (first | exact trivial | rfl | exact Nat.one_pos | (refine And.intro ?_ ?_) | omega | ((conv => whnf); (refine And.intro ?_ ?_)) | ((conv => whnf); exact trivial)))
            · exact e1
            · exact e2
          · rename_i hn
            rw [decide_eq_false hn, Bool.false_or] at e2
            (repeat' ((conv => whnf); first | (refine Giv.mk fun _ => ?_) | (refine Alt.l (Need.mk ?h ?_); case h => omega) | (refine Alt.r (Need.mk ?h ?_); case h => omega) | (refine Need.mk ?h ?_; case h => first | omega | (intro _; rfl) | assumption | (simp <;> omega)) | refine Ix.zero ?_ | refine Ix.one ?_ | refine Ix.two ?_ | refine Ix.nat ?_ | refine Ix.add ?_ | (apply Go.Eng.Pin.mk; apply Exists.intro) | apply Go.Eng.Pinned.mk rfl rfl | (apply Go.Eng.PinH.mk; apply Exists.intro; apply Exists.intro) | exact Go.Eng.Fin0.mk | refine Go.Eng.Chk.mk ?_ ?_ | refine Own.l ?_ | (refine Br.mkY ?h ?_; case h => first | omega | assumption) | (refine Br.mkN ?h ?_; case h => first | omega | assumption | exact not_not_intro (by assumption)) | fail))
            refine ix_at (l.getD i (0, 0)).2.toNat (by omega) ?_
            (repeat' ((conv => whnf); first | (refine Giv.mk fun _ => ?_) | (refine Alt.l (Need.mk ?h ?_); case h => omega) | (refine Alt.r (Need.mk ?h ?_); case h => omega) | (refine Need.mk ?h ?_; case h => first | omega | (intro _; rfl) | assumption | (simp <;> omega)) | refine Ix.zero ?_ | refine Ix.one ?_ | refine Ix.two ?_ | refine Ix.nat ?_ | refine Ix.add ?_ | (apply Go.Eng.Pin.mk; apply Exists.intro) | apply Go.Eng.Pinned.mk rfl rfl | (apply Go.Eng.PinH.mk; apply Exists.intro; apply Exists.intro) | exact Go.Eng.Fin0.mk | refine Go.Eng.Chk.mk ?_ ?_ | refine Own.l ?_ | fail))
            refine ⟨(i + 1 : Nat), by show l.length - (i + 1) < l.length - i; omega, hlt, ?_⟩
            (repeat' (first | exact trivial | rfl | exact Nat.one_pos | (refine And.intro ?_ ?_) | omega | ((conv => whnf); (refine And.intro ?_ ?_)) | ((conv => whnf); exact trivial)))
            · exact e1
            · (conv => whnf)
              rw [e2]
        · rename_i ha
          rw [Bool.eq_false_iff.2 ha, Bool.false_and] at e2
          (repeat' ((conv => whnf); first | (refine Giv.mk fun _ => ?_) | (refine Alt.l (Need.mk ?h ?_); case h => omega) | (refine Alt.r (Need.mk ?h ?_); case h => omega) | (refine Need.mk ?h ?_; case h => first | omega | (intro _; rfl) | assumption | (simp <;> omega)) | refine Ix.zero ?_ | refine Ix.one ?_ | refine Ix.two ?_ | refine Ix.nat ?_ | refine Ix.add ?_ | (apply Go.Eng.Pin.mk; apply Exists.intro) | apply Go.Eng.Pinned.mk rfl rfl | (apply Go.Eng.PinH.mk; apply Exists.intro; apply Exists.intro) | exact Go.Eng.Fin0.mk | refine Go.Eng.Chk.mk ?_ ?_ | refine Own.l ?_ | fail))
          refine ⟨(i + 1 : Nat), by show l.length - (i + 1) < l.length - i; omega, hlt, ?_⟩
          (repeat' (first | exact trivial | rfl | exact Nat.one_pos | (refine And.intro ?_ ?_) | omega | ((conv => whnf); (refine And.intro ?_ ?_)) | ((conv => whnf); exact trivial)))
          · exact e1
          · (conv => whnf)
            rw [e2]; simp
      · rename_i hu
        rw [show upP m (l.getD i (0, 0)) = false from decide_eq_false hu, Bool.or_false] at e1
        rw [show upP m (l.getD i (0, 0)) = false from decide_eq_false hu, Bool.not_false, Bool.true_or, Bool.and_true] at e2
        (repeat' ((conv => whnf); first | (refine Giv.mk fun _ => ?_) | (refine Alt.l (Need.mk ?h ?_); case h => omega) | (refine Alt.r (Need.mk ?h ?_); case h => omega) | (refine Need.mk ?h ?_; case h => first | omega | (intro _; rfl) | assumption | (simp <;> omega)) | refine Ix.zero ?_ | refine Ix.one ?_ | refine Ix.two ?_ | refine Ix.nat ?_ | refine Ix.add ?_ | (apply Go.Eng.Pin.mk; apply Exists.intro) | apply Go.Eng.Pinned.mk rfl rfl | (apply Go.Eng.PinH.mk; apply Exists.intro; apply Exists.intro) | exact Go.Eng.Fin0.mk | refine Go.Eng.Chk.mk ?_ ?_ | refine Own.l ?_ | fail))
        refine ⟨(i + 1 : Nat), by show l.length - (i + 1) < l.length - i; omega, hlt, ?_⟩
        (repeat' (first | exact trivial | rfl | exact Nat.one_pos | (refine And.intro ?_ ?_) | omega | ((conv => whnf); (refine And.intro ?_ ?_)) | ((conv => whnf); exact trivial)))
        · (conv => whnf)
          rw [e1]
        · (conv => whnf)
          rw [e2]
    · have hii : i = l.length := by omega
      subst hii
      (repeat' ((conv => whnf); first | (refine Giv.mk fun _ => ?_) | (refine Alt.l (Need.mk ?h ?_); case h => omega) | (refine Alt.r (Need.mk ?h ?_); case h => omega) | (refine Need.mk ?h ?_; case h => first | omega | (intro _; rfl) | assumption | (simp <;> omega)) | refine Ix.zero ?_ | refine Ix.one ?_ | refine Ix.two ?_ | refine Ix.nat ?_ | refine Ix.add ?_ | (apply Go.Eng.Pin.mk; apply Exists.intro) | apply Go.Eng.Pinned.mk rfl rfl | (apply Go.Eng.PinH.mk; apply Exists.intro; apply Exists.intro) | exact Go.Eng.Fin0.mk | refine Go.Eng.Chk.mk ?_ ?_ | refine Own.l ?_ | fail))
      (conv => whnf)
      (repeat' (first | exact trivial | rfl | exact Nat.one_pos | (refine And.intro ?_ ?_) | ((conv => whnf); (refine And.intro ?_ ?_)) | ((conv => whnf); exact trivial)))
      unfold someF
      rw [List.take_length]
      (conv => whnf)
def c63 : Con := mkCon 63 true fun args K => match args with | [.seq (.pair (.int .i64) (.int .i64)) l, .val (.int .i64 m), .seq .bool st] => Need (∀ i, i < l.length → (l.getD i (0, 0)).2 < st.length) (K (.tup [.bl (l.any (upP m) = true) inferInstance, .bl (allF l st m l.length = true) inferInstance])) | _ => False
theorem k63 : ConOK Try.prog c63 := by
  refine conOK_of rfl (enters_of Try.func63 (by kernel_rfl) rfl) ?_
  intro args K h
  simp only [c63] at h
  split at h
  · rename_i l m st; exact ⟨_, h.go, tri_of_body (Γ := []) (by simp) Try.func63 (by simp [Try.ntmps63]) rfl (b63 l m st h.ok)⟩
  · exact h.elim
/-! ### The places of a list that are true -/
def idxL (st : List Bool) (k : Nat) : List Int := ((List.range k).filter fun i => st.getD i false).map fun (i : Nat) => (i : Int)
theorem idxL_succ (st : List Bool) (k : Nat) : idxL st (k + 1) = if st.getD k false = true then idxL st k ++ [(k : Int)] else idxL st k := by
  unfold idxL
  rw [List.range_succ, List.filter_append, List.map_append]
  by_cases h : st.getD k false = true
  · rw [if_pos h, List.filter_cons_of_pos (p := fun i => st.getD i false) h]; rfl
  · rw [if_neg h, List.filter_cons_of_neg (p := fun i => st.getD i false) h]; simp
theorem idxL_len (st : List Bool) (k : Nat) : (idxL st k).length ≤ k := by
  unfold idxL
  rw [List.length_map]
  exact Nat.le_trans (List.length_filter_le _ _) (by simp)
theorem b59 (st : List Bool) (h : st.length ≤ 100000) : body Try.prog [] { asks := [(0, [1])] } true Try.f59 [Bs st] (Ls (idxL st st.length)) := by
  (repeat' ((conv => whnf); first | (refine Giv.mk fun _ => ?_) | (refine Alt.l (Need.mk ?h ?_); case h => omega) | (refine Alt.r (Need.mk ?h ?_); case h => omega) | (refine Need.mk ?h ?_; case h => first | omega | (intro _; rfl) | assumption | (simp <;> omega)) | refine Ix.zero ?_ | refine Ix.one ?_ | refine Ix.two ?_ | refine Ix.nat ?_ | refine Ix.add ?_ | (apply Go.Eng.Pin.mk; apply Exists.intro) | apply Go.Eng.Pinned.mk rfl rfl | (apply Go.Eng.PinH.mk; apply Exists.intro; apply Exists.intro) | exact Go.Eng.Fin0.mk | refine Go.Eng.Chk.mk ?_ ?_ | refine Own.l ?_ | fail))
  refine Ask.mk ⟨{ X := Nat, pre := fun i => i ≤ st.length, mod := fun i _ => [(3, .ref 1 1), (4, I i)], objs := [1], heap := fun i _ => [.vec 1 (.int .i64) [] 3, .vec 1 (.int .i64) (idxL st i) 3], mu := fun i => st.length - i }, rfl, ?_⟩
  (repeat' ((conv => whnf); first | (refine Giv.mk fun _ => ?_) | (refine Alt.l (Need.mk ?h ?_); case h => omega) | (refine Alt.r (Need.mk ?h ?_); case h => omega) | (refine Need.mk ?h ?_; case h => first | omega | (intro _; rfl) | assumption | (simp <;> omega)) | refine Ix.zero ?_ | refine Ix.one ?_ | refine Ix.two ?_ | refine Ix.nat ?_ | refine Ix.add ?_ | (apply Go.Eng.Pin.mk; apply Exists.intro) | apply Go.Eng.Pinned.mk rfl rfl | (apply Go.Eng.PinH.mk; apply Exists.intro; apply Exists.intro) | exact Go.Eng.Fin0.mk | refine Go.Eng.Chk.mk ?_ ?_ | refine Own.l ?_ | fail))
  refine ⟨⟨(0 : Nat), Nat.zero_le _, ?_⟩, fun (i : Nat) (hi : i ≤ st.length) => ?_⟩
  · (repeat' (first | exact trivial | rfl | exact Nat.one_pos | (refine And.intro ?_ ?_) | omega | ((conv => whnf); (refine And.intro ?_ ?_)) | ((conv => whnf); exact trivial)))
  · have hl := idxL_len st i
    have hsu := idxL_succ st i
    (repeat' ((conv => whnf); first | (refine Giv.mk fun _ => ?_) | (refine Alt.l (Need.mk ?h ?_); case h => omega) | (refine Alt.r (Need.mk ?h ?_); case h => omega) | (refine Need.mk ?h ?_; case h => first | omega | (intro _; rfl) | assumption | (simp <;> omega)) | refine Ix.zero ?_ | refine Ix.one ?_ | refine Ix.two ?_ | refine Ix.nat ?_ | refine Ix.add ?_ | (apply Go.Eng.Pin.mk; apply Exists.intro) | apply Go.Eng.Pinned.mk rfl rfl | (apply Go.Eng.PinH.mk; apply Exists.intro; apply Exists.intro) | exact Go.Eng.Fin0.mk | refine Go.Eng.Chk.mk ?_ ?_ | refine Own.l ?_ | fail))
    (refine Br.mk (fun _ => ?_) (fun _ => ?_))
    · (repeat' ((conv => whnf); first | (refine Giv.mk fun _ => ?_) | (refine Alt.l (Need.mk ?h ?_); case h => omega) | (refine Alt.r (Need.mk ?h ?_); case h => omega) | (refine Need.mk ?h ?_; case h => first | omega | (intro _; rfl) | assumption | (simp <;> omega)) | refine Ix.zero ?_ | refine Ix.one ?_ | refine Ix.two ?_ | refine Ix.nat ?_ | refine Ix.add ?_ | (apply Go.Eng.Pin.mk; apply Exists.intro) | apply Go.Eng.Pinned.mk rfl rfl | (apply Go.Eng.PinH.mk; apply Exists.intro; apply Exists.intro) | exact Go.Eng.Fin0.mk | refine Go.Eng.Chk.mk ?_ ?_ | refine Own.l ?_ | fail))
      (refine Br.mk (fun _ => ?_) (fun _ => ?_))
      · rename_i hh
        rw [if_pos hh] at hsu
        (repeat' ((conv => whnf); first | (refine Giv.mk fun _ => ?_) | (refine Alt.l (Need.mk ?h ?_); case h => omega) | (refine Alt.r (Need.mk ?h ?_); case h => omega) | (refine Need.mk ?h ?_; case h => first | omega | (intro _; rfl) | assumption | (simp <;> omega)) | refine Ix.zero ?_ | refine Ix.one ?_ | refine Ix.two ?_ | refine Ix.nat ?_ | refine Ix.add ?_ | (apply Go.Eng.Pin.mk; apply Exists.intro) | apply Go.Eng.Pinned.mk rfl rfl | (apply Go.Eng.PinH.mk; apply Exists.intro; apply Exists.intro) | exact Go.Eng.Fin0.mk | refine Go.Eng.Chk.mk ?_ ?_ | refine Own.l ?_ | fail))
        refine ⟨(i + 1 : Nat), by show st.length - (i + 1) < st.length - i; omega, by show i + 1 ≤ st.length; omega, ?_⟩
        (repeat' (first | exact trivial | rfl | exact Nat.one_pos | (refine And.intro ?_ ?_) | omega | ((conv => whnf); (refine And.intro ?_ ?_)) | ((conv => whnf); exact trivial)))
        exact hsu.symm
      · rename_i hh
        rw [if_neg hh] at hsu
        (repeat' ((conv => whnf); first | (refine Giv.mk fun _ => ?_) | (refine Alt.l (Need.mk ?h ?_); case h => omega) | (refine Alt.r (Need.mk ?h ?_); case h => omega) | (refine Need.mk ?h ?_; case h => first | omega | (intro _; rfl) | assumption | (simp <;> omega)) | refine Ix.zero ?_ | refine Ix.one ?_ | refine Ix.two ?_ | refine Ix.nat ?_ | refine Ix.add ?_ | (apply Go.Eng.Pin.mk; apply Exists.intro) | apply Go.Eng.Pinned.mk rfl rfl | (apply Go.Eng.PinH.mk; apply Exists.intro; apply Exists.intro) | exact Go.Eng.Fin0.mk | refine Go.Eng.Chk.mk ?_ ?_ | refine Own.l ?_ | fail))
        refine ⟨(i + 1 : Nat), by show st.length - (i + 1) < st.length - i; omega, by show i + 1 ≤ st.length; omega, ?_⟩
        (repeat' (first | exact trivial | rfl | exact Nat.one_pos | (refine And.intro ?_ ?_) | omega | ((conv => whnf); (refine And.intro ?_ ?_)) | ((conv => whnf); exact trivial)))
        exact hsu.symm
    · have hii : i = st.length := by omega
      subst hii
      (repeat' ((conv => whnf); first | (refine Giv.mk fun _ => ?_) | (refine Alt.l (Need.mk ?h ?_); case h => omega) | (refine Alt.r (Need.mk ?h ?_); case h => omega) | (refine Need.mk ?h ?_; case h => first | omega | (intro _; rfl) | assumption | (simp <;> omega)) | refine Ix.zero ?_ | refine Ix.one ?_ | refine Ix.two ?_ | refine Ix.nat ?_ | refine Ix.add ?_ | (apply Go.Eng.Pin.mk; apply Exists.intro) | apply Go.Eng.Pinned.mk rfl rfl | (apply Go.Eng.PinH.mk; apply Exists.intro; apply Exists.intro) | exact Go.Eng.Fin0.mk | refine Go.Eng.Chk.mk ?_ ?_ | refine Own.l ?_ | fail))
      (conv => whnf)
      (repeat' (first | exact trivial | rfl | exact Nat.one_pos | (refine And.intro ?_ ?_) | ((conv => whnf); (refine And.intro ?_ ?_)) | ((conv => whnf); exact trivial)))
def c59 : Con := mkCon 59 true fun args K => match args with | [.seq .bool st] => Need (st.length ≤ 100000) (K (Ls (idxL st st.length))) | _ => False
theorem k59 : ConOK Try.prog c59 := by
  refine conOK_of rfl (enters_of Try.func59 (by kernel_rfl) rfl) ?_
  intro args K h
  simp only [c59] at h
  split at h
  · rename_i st; exact ⟨_, h.go, tri_of_body (Γ := []) (by simp) Try.func59 (by simp [Try.ntmps59]) rfl (b59 st h.ok)⟩
  · exact h.elim
/-! ### Comparisons -/
theorem int_ext {xs ys : List Int} (h : xs.length = ys.length) (hg : ∀ p, p < xs.length → xs.getD p 0 = ys.getD p 0) : xs = ys := by
  apply List.ext_getElem h
  intro p h1 h2
  have := hg p h1
  simpa [List.getD_eq_getElem?_getD, h1, h2] using this
theorem b30 (xs ys : List Int) : body Try.prog [] { loops := [(0, { X := Nat, pre := fun i => i ≤ xs.length ∧ ∀ j, j < i → xs.getD j 0 = ys.getD j 0, mod := fun i _ => [(13, I i)], mu := fun i => xs.length - i })] } true Try.f30 [Ls xs, Ls ys] (.bl (xs = ys) inferInstance) := by
  (repeat' ((conv => whnf); first | (refine Giv.mk fun _ => ?_) | (refine Alt.l (Need.mk ?h ?_); case h => omega) | (refine Alt.r (Need.mk ?h ?_); case h => omega) | (refine Need.mk ?h ?_; case h => first | omega | (intro _; rfl) | assumption | (simp <;> omega)) | refine Ix.zero ?_ | refine Ix.one ?_ | refine Ix.two ?_ | refine Ix.nat ?_ | refine Ix.add ?_ | (apply Go.Eng.Pin.mk; apply Exists.intro) | apply Go.Eng.Pinned.mk rfl rfl | (apply Go.Eng.PinH.mk; apply Exists.intro; apply Exists.intro) | exact Go.Eng.Fin0.mk | refine Go.Eng.Chk.mk ?_ ?_ | refine Own.l ?_ | fail))
  (refine Br.mk (fun _ => ?_) (fun _ => ?_))
  · rename_i h
    (conv => whnf)
    exact fun e => h (by rw [e])
  · rename_i hl
    (repeat' ((conv => whnf); first | (refine Giv.mk fun _ => ?_) | (refine Alt.l (Need.mk ?h ?_); case h => omega) | (refine Alt.r (Need.mk ?h ?_); case h => omega) | (refine Need.mk ?h ?_; case h => first | omega | (intro _; rfl) | assumption | (simp <;> omega)) | refine Ix.zero ?_ | refine Ix.one ?_ | refine Ix.two ?_ | refine Ix.nat ?_ | refine Ix.add ?_ | (apply Go.Eng.Pin.mk; apply Exists.intro) | apply Go.Eng.Pinned.mk rfl rfl | (apply Go.Eng.PinH.mk; apply Exists.intro; apply Exists.intro) | exact Go.Eng.Fin0.mk | refine Go.Eng.Chk.mk ?_ ?_ | refine Own.l ?_ | fail))
    refine ⟨⟨(0 : Nat), ⟨Nat.zero_le _, fun j hj => absurd hj (Nat.not_lt_zero _)⟩, by (repeat' (first | exact trivial | rfl | exact Nat.one_pos | (refine And.intro ?_ ?_) | omega | ((conv => whnf); (refine And.intro ?_ ?_)) | ((conv => whnf); exact trivial)))⟩, fun (i : Nat) hi => ?_⟩
    obtain ⟨hi, hb⟩ := hi
    (repeat' ((conv => whnf); first | (refine Giv.mk fun _ => ?_) | (refine Alt.l (Need.mk ?h ?_); case h => omega) | (refine Alt.r (Need.mk ?h ?_); case h => omega) | (refine Need.mk ?h ?_; case h => first | omega | (intro _; rfl) | assumption | (simp <;> omega)) | refine Ix.zero ?_ | refine Ix.one ?_ | refine Ix.two ?_ | refine Ix.nat ?_ | refine Ix.add ?_ | (apply Go.Eng.Pin.mk; apply Exists.intro) | apply Go.Eng.Pinned.mk rfl rfl | (apply Go.Eng.PinH.mk; apply Exists.intro; apply Exists.intro) | exact Go.Eng.Fin0.mk | refine Go.Eng.Chk.mk ?_ ?_ | refine Own.l ?_ | fail))
    (refine Br.mk (fun _ => ?_) (fun _ => ?_))
    · have hlt : i < xs.length := by omega
      have hlt2 : i < ys.length := by omega
      (repeat' ((conv => whnf); first | (refine Giv.mk fun _ => ?_) | (refine Alt.l (Need.mk ?h ?_); case h => omega) | (refine Alt.r (Need.mk ?h ?_); case h => omega) | (refine Need.mk ?h ?_; case h => first | omega | (intro _; rfl) | assumption | (simp <;> omega)) | refine Ix.zero ?_ | refine Ix.one ?_ | refine Ix.two ?_ | refine Ix.nat ?_ | refine Ix.add ?_ | (apply Go.Eng.Pin.mk; apply Exists.intro) | apply Go.Eng.Pinned.mk rfl rfl | (apply Go.Eng.PinH.mk; apply Exists.intro; apply Exists.intro) | exact Go.Eng.Fin0.mk | refine Go.Eng.Chk.mk ?_ ?_ | refine Own.l ?_ | fail))
      (refine Br.mk (fun _ => ?_) (fun _ => ?_))
      · rename_i hne
        (repeat' ((conv => whnf); first | (refine Giv.mk fun _ => ?_) | (refine Alt.l (Need.mk ?h ?_); case h => omega) | (refine Alt.r (Need.mk ?h ?_); case h => omega) | (refine Need.mk ?h ?_; case h => first | omega | (intro _; rfl) | assumption | (simp <;> omega)) | refine Ix.zero ?_ | refine Ix.one ?_ | refine Ix.two ?_ | refine Ix.nat ?_ | refine Ix.add ?_ | (apply Go.Eng.Pin.mk; apply Exists.intro) | apply Go.Eng.Pinned.mk rfl rfl | (apply Go.Eng.PinH.mk; apply Exists.intro; apply Exists.intro) | exact Go.Eng.Fin0.mk | refine Go.Eng.Chk.mk ?_ ?_ | refine Own.l ?_ | fail))
        (conv => whnf)
        exact fun e => hne (by rw [e])
      · rename_i hne
        have hne := Classical.not_not.1 hne
        (repeat' ((conv => whnf); first | (refine Giv.mk fun _ => ?_) | (refine Alt.l (Need.mk ?h ?_); case h => omega) | (refine Alt.r (Need.mk ?h ?_); case h => omega) | (refine Need.mk ?h ?_; case h => first | omega | (intro _; rfl) | assumption | (simp <;> omega)) | refine Ix.zero ?_ | refine Ix.one ?_ | refine Ix.two ?_ | refine Ix.nat ?_ | refine Ix.add ?_ | (apply Go.Eng.Pin.mk; apply Exists.intro) | apply Go.Eng.Pinned.mk rfl rfl | (apply Go.Eng.PinH.mk; apply Exists.intro; apply Exists.intro) | exact Go.Eng.Fin0.mk | refine Go.Eng.Chk.mk ?_ ?_ | refine Own.l ?_ | fail))
        refine ⟨(i + 1 : Nat), by show xs.length - (i + 1) < xs.length - i; omega, ⟨hlt, fun j hj => ?_⟩, by (repeat' (first | exact trivial | rfl | exact Nat.one_pos | (refine And.intro ?_ ?_) | omega | ((conv => whnf); (refine And.intro ?_ ?_)) | ((conv => whnf); exact trivial)))⟩
        by_cases e : j = i
        · subst e; exact hne
        · exact hb j (by omega)
    · have hii : i = xs.length := by omega
      subst hii
      (conv => whnf)
      exact int_ext (by omega) hb
def c30 : Con := mkCon 30 true fun args K => match args with | [.seq (.int .i64) xs, .seq (.int .i64) ys] => K (.bl (xs = ys) inferInstance) | _ => False
theorem k30 : ConOK Try.prog c30 := by
  refine conOK_of rfl (enters_of Try.func30 (by kernel_rfl) rfl) ?_
  intro args K h
  simp only [c30] at h
  split at h
  · rename_i xs ys; exact ⟨_, h, tri_of_body (Γ := []) (by simp) Try.func30 (by simp [Try.ntmps30]) rfl (b30 xs ys)⟩
  · exact h.elim
theorem b31 (xs ys : List (Int × Int)) : body Try.prog [] { loops := [(0, { X := Nat, pre := fun i => i ≤ xs.length ∧ ∀ j, j < i → xs.getD j (0, 0) = ys.getD j (0, 0), mod := fun i _ => [(5, I i)], mu := fun i => xs.length - i })] } true Try.f31 [Ps xs, Ps ys] (.bl (xs = ys) inferInstance) := by
  (repeat' ((conv => whnf); first | (refine Giv.mk fun _ => ?_) | (refine Alt.l (Need.mk ?h ?_); case h => omega) | (refine Alt.r (Need.mk ?h ?_); case h => omega) | (refine Need.mk ?h ?_; case h => first | omega | (intro _; rfl) | assumption | (simp <;> omega)) | refine Ix.zero ?_ | refine Ix.one ?_ | refine Ix.two ?_ | refine Ix.nat ?_ | refine Ix.add ?_ | (apply Go.Eng.Pin.mk; apply Exists.intro) | apply Go.Eng.Pinned.mk rfl rfl | (apply Go.Eng.PinH.mk; apply Exists.intro; apply Exists.intro) | exact Go.Eng.Fin0.mk | refine Go.Eng.Chk.mk ?_ ?_ | refine Own.l ?_ | fail))
  (refine Br.mk (fun _ => ?_) (fun _ => ?_))
  · rename_i h
    (conv => whnf)
    exact fun e => h (by rw [e])
  · rename_i hl
    (repeat' ((conv => whnf); first | (refine Giv.mk fun _ => ?_) | (refine Alt.l (Need.mk ?h ?_); case h => omega) | (refine Alt.r (Need.mk ?h ?_); case h => omega) | (refine Need.mk ?h ?_; case h => first | omega | (intro _; rfl) | assumption | (simp <;> omega)) | refine Ix.zero ?_ | refine Ix.one ?_ | refine Ix.two ?_ | refine Ix.nat ?_ | refine Ix.add ?_ | (apply Go.Eng.Pin.mk; apply Exists.intro) | apply Go.Eng.Pinned.mk rfl rfl | (apply Go.Eng.PinH.mk; apply Exists.intro; apply Exists.intro) | exact Go.Eng.Fin0.mk | refine Go.Eng.Chk.mk ?_ ?_ | refine Own.l ?_ | fail))
    refine ⟨⟨(0 : Nat), ⟨Nat.zero_le _, fun j hj => absurd hj (Nat.not_lt_zero _)⟩, by (repeat' (first | exact trivial | rfl | exact Nat.one_pos | (refine And.intro ?_ ?_) | omega | ((conv => whnf); (refine And.intro ?_ ?_)) | ((conv => whnf); exact trivial)))⟩, fun (i : Nat) hi => ?_⟩
    obtain ⟨hi, hb⟩ := hi
    (repeat' ((conv => whnf); first | (refine Giv.mk fun _ => ?_) | (refine Alt.l (Need.mk ?h ?_); case h => omega) | (refine Alt.r (Need.mk ?h ?_); case h => omega) | (refine Need.mk ?h ?_; case h => first | omega | (intro _; rfl) | assumption | (simp <;> omega)) | refine Ix.zero ?_ | refine Ix.one ?_ | refine Ix.two ?_ | refine Ix.nat ?_ | refine Ix.add ?_ | (apply Go.Eng.Pin.mk; apply Exists.intro) | apply Go.Eng.Pinned.mk rfl rfl | (apply Go.Eng.PinH.mk; apply Exists.intro; apply Exists.intro) | exact Go.Eng.Fin0.mk | refine Go.Eng.Chk.mk ?_ ?_ | refine Own.l ?_ | fail))
    (refine Br.mk (fun _ => ?_) (fun _ => ?_))
    · have hlt : i < xs.length := by omega
      have hlt2 : i < ys.length := by omega
      (repeat' ((conv => whnf); first | (refine Giv.mk fun _ => ?_) | (refine Alt.l (Need.mk ?h ?_); case h => omega) | (refine Alt.r (Need.mk ?h ?_); case h => omega) | (refine Need.mk ?h ?_; case h => first | omega | (intro _; rfl) | assumption | (simp <;> omega)) | refine Ix.zero ?_ | refine Ix.one ?_ | refine Ix.two ?_ | refine Ix.nat ?_ | refine Ix.add ?_ | (apply Go.Eng.Pin.mk; apply Exists.intro) | apply Go.Eng.Pinned.mk rfl rfl | (apply Go.Eng.PinH.mk; apply Exists.intro; apply Exists.intro) | exact Go.Eng.Fin0.mk | refine Go.Eng.Chk.mk ?_ ?_ | refine Own.l ?_ | fail))
      (refine Br.mk (fun _ => ?_) (fun _ => ?_))
      · rename_i hne
        (repeat' ((conv => whnf); first | (refine Giv.mk fun _ => ?_) | (refine Alt.l (Need.mk ?h ?_); case h => omega) | (refine Alt.r (Need.mk ?h ?_); case h => omega) | (refine Need.mk ?h ?_; case h => first | omega | (intro _; rfl) | assumption | (simp <;> omega)) | refine Ix.zero ?_ | refine Ix.one ?_ | refine Ix.two ?_ | refine Ix.nat ?_ | refine Ix.add ?_ | (apply Go.Eng.Pin.mk; apply Exists.intro) | apply Go.Eng.Pinned.mk rfl rfl | (apply Go.Eng.PinH.mk; apply Exists.intro; apply Exists.intro) | exact Go.Eng.Fin0.mk | refine Go.Eng.Chk.mk ?_ ?_ | refine Own.l ?_ | fail))
        (conv => whnf)
        exact fun e => hne (by rw [e]; exact ⟨rfl, rfl⟩)
      · rename_i hne
        have hne := Classical.not_not.1 hne
        (repeat' ((conv => whnf); first | (refine Giv.mk fun _ => ?_) | (refine Alt.l (Need.mk ?h ?_); case h => omega) | (refine Alt.r (Need.mk ?h ?_); case h => omega) | (refine Need.mk ?h ?_; case h => first | omega | (intro _; rfl) | assumption | (simp <;> omega)) | refine Ix.zero ?_ | refine Ix.one ?_ | refine Ix.two ?_ | refine Ix.nat ?_ | refine Ix.add ?_ | (apply Go.Eng.Pin.mk; apply Exists.intro) | apply Go.Eng.Pinned.mk rfl rfl | (apply Go.Eng.PinH.mk; apply Exists.intro; apply Exists.intro) | exact Go.Eng.Fin0.mk | refine Go.Eng.Chk.mk ?_ ?_ | refine Own.l ?_ | fail))
        refine ⟨(i + 1 : Nat), by show xs.length - (i + 1) < xs.length - i; omega, ⟨hlt, fun j hj => ?_⟩, by (repeat' (first | exact trivial | rfl | exact Nat.one_pos | (refine And.intro ?_ ?_) | omega | ((conv => whnf); (refine And.intro ?_ ?_)) | ((conv => whnf); exact trivial)))⟩
        by_cases e : j = i
        · subst e; exact Prod.ext hne.1 hne.2
        · exact hb j (by omega)
    · have hii : i = xs.length := by omega
      subst hii
      (repeat' ((conv => whnf); first | (refine Giv.mk fun _ => ?_) | (refine Alt.l (Need.mk ?h ?_); case h => omega) | (refine Alt.r (Need.mk ?h ?_); case h => omega) | (refine Need.mk ?h ?_; case h => first | omega | (intro _; rfl) | assumption | (simp <;> omega)) | refine Ix.zero ?_ | refine Ix.one ?_ | refine Ix.two ?_ | refine Ix.nat ?_ | refine Ix.add ?_ | (apply Go.Eng.Pin.mk; apply Exists.intro) | apply Go.Eng.Pinned.mk rfl rfl | (apply Go.Eng.PinH.mk; apply Exists.intro; apply Exists.intro) | exact Go.Eng.Fin0.mk | refine Go.Eng.Chk.mk ?_ ?_ | refine Own.l ?_ | (refine Br.mkY ?h ?_; case h => first | omega | assumption) | (refine Br.mkN ?h ?_; case h => first | omega | assumption | exact not_not_intro (by assumption)) | fail))
      (conv => whnf)
      exact pair_ext (by omega) hb
def c31 : Con := mkCon 31 true fun args K => match args with | [.seq (.pair (.int .i64) (.int .i64)) xs, .seq (.pair (.int .i64) (.int .i64)) ys] => K (.bl (xs = ys) inferInstance) | _ => False
theorem k31 : ConOK Try.prog c31 := by
  refine conOK_of rfl (enters_of Try.func31 (by kernel_rfl) rfl) ?_
  intro args K h
  simp only [c31] at h
  split at h
  · rename_i xs ys; exact ⟨_, h, tri_of_body (Γ := []) (by simp) Try.func31 (by simp [Try.ntmps31]) rfl (b31 xs ys)⟩
  · exact h.elim
/-! ### Sizes -/
def greatN (n : Int) (l : List (Int × Int)) : Prop := (12 < n ∧ n ≤ 512) ∨ 30 < l.length
instance (n : Int) (l : List (Int × Int)) : Decidable (greatN n l) := by unfold greatN; exact inferInstance
theorem b24 (n : Int) (l : List (Int × Int)) : body Try.prog [] {} true Try.f24 [I n, Ps l] (.bl (greatN n l) inferInstance) := by
  (repeat' ((conv => whnf); first | (refine Giv.mk fun _ => ?_) | (refine Alt.l (Need.mk ?h ?_); case h => omega) | (refine Alt.r (Need.mk ?h ?_); case h => omega) | (refine Need.mk ?h ?_; case h => first | omega | (intro _; rfl) | assumption | (simp <;> omega)) | refine Ix.zero ?_ | refine Ix.one ?_ | refine Ix.two ?_ | refine Ix.nat ?_ | refine Ix.add ?_ | (apply Go.Eng.Pin.mk; apply Exists.intro) | apply Go.Eng.Pinned.mk rfl rfl | (apply Go.Eng.PinH.mk; apply Exists.intro; apply Exists.intro) | exact Go.Eng.Fin0.mk | refine Go.Eng.Chk.mk ?_ ?_ | refine Own.l ?_ | fail))
  all_goals unfold greatN
  (repeat' ((conv => whnf); first | (refine Giv.mk fun _ => ?_) | (refine Alt.l (Need.mk ?h ?_); case h => omega) | (refine Alt.r (Need.mk ?h ?_); case h => omega) | (refine Need.mk ?h ?_; case h => first | omega | (intro _; rfl) | assumption | (simp <;> omega)) | refine Ix.zero ?_ | refine Ix.one ?_ | refine Ix.two ?_ | refine Ix.nat ?_ | refine Ix.add ?_ | (apply Go.Eng.Pin.mk; apply Exists.intro) | apply Go.Eng.Pinned.mk rfl rfl | (apply Go.Eng.PinH.mk; apply Exists.intro; apply Exists.intro) | exact Go.Eng.Fin0.mk | refine Go.Eng.Chk.mk ?_ ?_ | refine Own.l ?_ | (refine Br.mkY ?h ?_; case h => first | omega | assumption) | (refine Br.mkN ?h ?_; case h => first | omega | assumption | exact not_not_intro (by assumption)) | (refine Br.mk (fun _ => ?_) (fun _ => ?_)) | fail))
  all_goals (conv => whnf)
  all_goals first | omega | (constructor <;> omega)
def c24 : Con := mkCon 24 true fun args K => match args with | [.val (.int .i64 n), .seq (.pair (.int .i64) (.int .i64)) l] => K (.bl (greatN n l) inferInstance) | _ => False
theorem k24 : ConOK Try.prog c24 := by
  refine conOK_of rfl (enters_of Try.func24 (by kernel_rfl) rfl) ?_
  intro args K h
  simp only [c24] at h
  split at h
  · rename_i n l; exact ⟨_, h, tri_of_body (Γ := []) (by simp) Try.func24 (by simp [Try.ntmps24]) rfl (b24 n l)⟩
  · exact h.elim
def greatS (S : List (Int × Int)) : Prop := (30 < S.length ∧ S.length ≤ 4096) ∨ 4098 < S.length
instance (S : List (Int × Int)) : Decidable (greatS S) := by unfold greatS; exact inferInstance
theorem b25 (S : List (Int × Int)) : body Try.prog [] {} true Try.f25 [Ps S] (.bl (greatS S) inferInstance) := by
  (repeat' ((conv => whnf); first | (refine Giv.mk fun _ => ?_) | (refine Alt.l (Need.mk ?h ?_); case h => omega) | (refine Alt.r (Need.mk ?h ?_); case h => omega) | (refine Need.mk ?h ?_; case h => first | omega | (intro _; rfl) | assumption | (simp <;> omega)) | refine Ix.zero ?_ | refine Ix.one ?_ | refine Ix.two ?_ | refine Ix.nat ?_ | refine Ix.add ?_ | (apply Go.Eng.Pin.mk; apply Exists.intro) | apply Go.Eng.Pinned.mk rfl rfl | (apply Go.Eng.PinH.mk; apply Exists.intro; apply Exists.intro) | exact Go.Eng.Fin0.mk | refine Go.Eng.Chk.mk ?_ ?_ | refine Own.l ?_ | fail))
  all_goals unfold greatS
  (repeat' ((conv => whnf); first | (refine Giv.mk fun _ => ?_) | (refine Alt.l (Need.mk ?h ?_); case h => omega) | (refine Alt.r (Need.mk ?h ?_); case h => omega) | (refine Need.mk ?h ?_; case h => first | omega | (intro _; rfl) | assumption | (simp <;> omega)) | refine Ix.zero ?_ | refine Ix.one ?_ | refine Ix.two ?_ | refine Ix.nat ?_ | refine Ix.add ?_ | (apply Go.Eng.Pin.mk; apply Exists.intro) | apply Go.Eng.Pinned.mk rfl rfl | (apply Go.Eng.PinH.mk; apply Exists.intro; apply Exists.intro) | exact Go.Eng.Fin0.mk | refine Go.Eng.Chk.mk ?_ ?_ | refine Own.l ?_ | (refine Br.mkY ?h ?_; case h => first | omega | assumption) | (refine Br.mkN ?h ?_; case h => first | omega | assumption | exact not_not_intro (by assumption)) | (refine Br.mk (fun _ => ?_) (fun _ => ?_)) | fail))
  all_goals (conv => whnf)
  all_goals first | omega | (constructor <;> omega)
def c25 : Con := mkCon 25 true fun args K => match args with | [.seq (.pair (.int .i64) (.int .i64)) S] => K (.bl (greatS S) inferInstance) | _ => False
theorem k25 : ConOK Try.prog c25 := by
  refine conOK_of rfl (enters_of Try.func25 (by kernel_rfl) rfl) ?_
  intro args K h
  simp only [c25] at h
  split at h
  · rename_i S; exact ⟨_, h, tri_of_body (Γ := []) (by simp) Try.func25 (by simp [Try.ntmps25]) rfl (b25 S)⟩
  · exact h.elim
end EB
end
section
set_option linter.unusedVariables false
open Go Go.Proofs Go.Eng Go.Shelf
set_option linter.unusedVariables false
namespace EB
set_option maxRecDepth 10000
/-! ### Sets of members as lists of truths -/
def bitsL (n : Int) (ws : List Int) : List Bool := (List.range n.toNat).map fun (i : Nat) => decide (hasW ws i)
theorem bitsL_len (n : Int) (ws : List Int) : (bitsL n ws).length = n.toNat := by simp [bitsL]
theorem bitsL_get (n : Int) (ws : List Int) (i : Nat) (h : i < n.toNat) : (bitsL n ws).getD i false = decide (hasW ws i) := by
  simp [bitsL, List.getD_eq_getElem?_getD, h]
theorem bitsL_nil (n : Int) : bitsL n (words n) = List.replicate n.toNat false := by
  apply List.ext_getElem
  · simp [bitsL]
  · intro i h1 h2
    simp only [bitsL, List.getElem_map, List.getElem_range, List.getElem_replicate]
    exact decide_eq_false (words_none n i)
theorem bitsL_set {n : Int} {ws ws' : List Int} {m : Nat} {b : Bool} (hm : m < n.toNat) (h1 : decide (hasW ws' m) = b) (h2 : ∀ j : Nat, j ≠ m → (hasW ws' j ↔ hasW ws j)) : (bitsL n ws).set m b = bitsL n ws' := by
  apply List.ext_getElem?
  intro j
  rw [List.getElem?_set, bitsL_len]
  by_cases e : m = j
  · subst e
    rw [if_pos rfl, if_pos hm]
    simp only [bitsL, List.getElem?_map, List.getElem?_range hm, Option.map_some]
    rw [h1]
  · rw [if_neg e]
    simp only [bitsL, List.getElem?_map]
    by_cases hj : j < n.toNat
    · rw [List.getElem?_range hj]
      simp only [Option.map_some]
      have := h2 j (fun h => e h.symm)
      rw [decide_eq_decide.2 this]
    · rw [List.getElem?_eq_none (by simpa using Nat.le_of_not_lt hj)]; rfl
theorem bitsL_put {n : Int} {ws : List Int} (hw : WOk ws) (hl : (ws.length : Int) = (n + 63) / 64) {m : Int} (hm : 0 ≤ m ∧ m < n) : (bitsL n ws).set m.toNat true = bitsL n (putW ws m) := by
  have e : m = (m.toNat : Int) := by omega
  have hlt : m.toNat / 64 < ws.length := by omega
  refine bitsL_set (by omega) ?_ fun j hj => ?_
  · refine decide_eq_true ?_
    rw [e, Int.toNat_natCast]
    exact (hasW_put hw _ _ hlt).2 (.inl rfl)
  · rw [e, hasW_put hw _ _ hlt]
    constructor
    · rintro (h | h)
      · exact absurd h hj
      · exact h
    · exact .inr
theorem bitsL_take {n : Int} {ws : List Int} (hw : WOk ws) (hl : (ws.length : Int) = (n + 63) / 64) {m : Int} (hm : 0 ≤ m ∧ m < n) : (bitsL n ws).set m.toNat false = bitsL n (takeW ws m) := by
  have e : m = (m.toNat : Int) := by omega
  have hlt : m.toNat / 64 < ws.length := by omega
  refine bitsL_set (by omega) ?_ fun j hj => ?_
  · refine decide_eq_false ?_
    rw [e, Int.toNat_natCast]
    exact fun h => ((hasW_take hw _ _ hlt).1 h).1 rfl
  · rw [e, hasW_take hw _ _ hlt]
    constructor
    · exact fun h => h.2
    · exact fun h => ⟨hj, h⟩
/-- Whether all on which a member rests stand. -/
theorem ready_iff {n : Int} {l : List (Int × Int)} (h : RestsOk n l) (ws : List Int) {m : Int} (hm : 0 ≤ m ∧ m < n) : readyP (onL n l) ws m ↔ ¬ hasW ws m ∧ allF l (bitsL n ws) m l.length = true := by
  unfold readyP
  have e : (onL n l).getD m.toNat [] = rowOf l l.length m.toNat := onN_get _ _ _ _ (by omega)
  rw [e]
  refine and_congr Iff.rfl ?_
  unfold allF rowOf
  rw [List.take_length, Bool.not_eq_true, List.any_eq_false, List.all_eq_true]
  constructor
  · intro h1 r hr
    by_cases hu : r.1 = m
    · by_cases h0 : r.2 < 0
      · rw [decide_eq_true h0]; simp
      · obtain ⟨i, hi, hi2⟩ := mem_at hr
        have h4 := (h.2.2.2 i hi)
        rw [hi2] at h4
        have h2 := h1 r.2 (List.mem_map.2 ⟨r, List.mem_filter.2 ⟨hr, decide_eq_true ⟨by omega, by omega⟩⟩, rfl⟩)
        unfold lackP at h2
        rw [decide_eq_true_iff, Classical.not_not] at h2
        rw [bitsL_get _ _ _ (by omega), Int.toNat_of_nonneg (by omega), decide_eq_true h2]; simp
    · unfold upP
      rw [decide_eq_false hu]; simp
  · intro h1 k hk
    rw [List.mem_map] at hk
    obtain ⟨r, hr, rfl⟩ := hk
    rw [List.mem_filter] at hr
    obtain ⟨hr, h2⟩ := hr
    have h2 := of_decide_eq_true h2
    have h3 := h1 r hr
    obtain ⟨i, hi, hi2⟩ := mem_at hr
    have h4 := (h.2.2.2 i hi)
    rw [hi2] at h4
    rw [show upP m r = true from decide_eq_true (by omega), decide_eq_false (show ¬ r.2 < 0 by omega), bitsL_get _ _ _ (by omega), Int.toNat_of_nonneg h2.2] at h3
    unfold lackP
    rw [decide_eq_true_iff, Classical.not_not]
    simpa using h3
theorem rest_any {n : Int} {l : List (Int × Int)} {m : Int} (hm : 0 ≤ m ∧ m < n) : (restL n l).getD m.toNat false = l.any (upP m) := by
  rw [rest_up n l _ (by omega), Int.toNat_of_nonneg hm.1]
/-! ### The least one, looked for from the end -/
def nf (on : List (List Int)) (n : Int) (ws : List Int) : Nat → Int
  | 0 => -1
  | j + 1 => if readyP on ws (n - 1 - j) then n - 1 - j else nf on n ws j
theorem nf_spec (on : List (List Int)) {n : Int} (hn : 0 ≤ n) (ws : List Int) : ∀ j : Nat, j ≤ n.toNat → (nf on n ws j = -1 ∧ ∀ i : Nat, n.toNat - j ≤ i → i < n.toNat → ¬ readyP on ws i) ∨ ∃ i : Nat, n.toNat - j ≤ i ∧ i < n.toNat ∧ nf on n ws j = i ∧ readyP on ws i ∧ ∀ q : Nat, n.toNat - j ≤ q → q < i → ¬ readyP on ws q
  | 0, _ => .inl ⟨rfl, fun i h1 h2 => by omega⟩
  | j + 1, hj => by
    have e : n - 1 - (j : Int) = ((n.toNat - (j + 1) : Nat) : Int) := by omega
    by_cases hr : readyP on ws (n - 1 - j)
    · refine .inr ⟨n.toNat - (j + 1), Nat.le_refl _, by omega, ?_, by rw [← e]; exact hr, fun q h1 h2 => by omega⟩
      unfold nf; rw [if_pos hr, e]
    · have e2 : nf on n ws (j + 1) = nf on n ws j := by show (if _ then _ else _) = _; rw [if_neg hr]
      rw [e2]
      have hno : ∀ i : Nat, n.toNat - (j + 1) ≤ i → i < n.toNat - j → ¬ readyP on ws i := fun i h1 h2 => by
        have : (i : Int) = n - 1 - j := by omega
        rw [this]; exact hr
      rcases nf_spec on hn ws j (by omega) with ⟨h1, h2⟩ | ⟨i, h1, h2, h3, h4, h5⟩
      · refine .inl ⟨h1, fun i q1 q2 => ?_⟩
        by_cases hi : i < n.toNat - j
        · exact hno i q1 hi
        · exact h2 i (by omega) q2
      · refine .inr ⟨i, by omega, h2, h3, h4, fun q q1 q2 => ?_⟩
        by_cases hi : q < n.toNat - j
        · exact hno q q1 hi
        · exact h5 q (by omega) q2
theorem nf_nxt (on : List (List Int)) {n : Int} (hn : 0 ≤ n) (ms : List Int) : nf on n (putL (words n) ms) n.toNat = nxt on n ms := by
  rcases nf_spec on hn (putL (words n) ms) n.toNat (Nat.le_refl _) with ⟨h1, h2⟩ | ⟨i, h1, h2, h3, h4, h5⟩
  · rw [h1, nxt_none fun j hj => h2 j (by omega) hj]
  · rw [h3, nxt_some h2 h4 fun j hj => h5 j (by omega) hj]
theorem nf_bound (on : List (List Int)) {n : Int} (hn : 0 ≤ n) (ws : List Int) (j : Nat) (hj : j ≤ n.toNat) : -1 ≤ nf on n ws j ∧ nf on n ws j < n := by
  rcases nf_spec on hn ws j hj with ⟨h1, h2⟩ | ⟨i, h1, h2, h3, h4, h5⟩ <;> omega
theorem raised_ms {n : Int} {l : List (Int × Int)} (k : Nat) : raisedL (stepsOf (restL n l) (msAt (onL n l) n k)) (stepsOf (restL n l) (msAt (onL n l) n k)).length = msAt (onL n l) n k := raised_all _ _
/-- None is ready, and some are left. -/
theorem order_cycle {n : Int} {l : List (Int × Int)} (hs : supE n l = 0) {k : Nat} (hk : k < n.toNat) (hl : (msAt (onL n l) n k).length = k) (h : nxt (onL n l) n (msAt (onL n l) n k) < 0) : orderErr n l = 27 ∧ orderRes n l = [] := by
  have e : ordL n l = stepsOf (restL n l) (msAt (onL n l) n k) := ordS_end (by omega) (by omega)
  have hr : raisedIn (ordL n l) (ordL n l).length < n := by
    rw [raisedIn_eq, e, raised_ms, hl]; omega
  refine ⟨?_, ?_⟩
  · unfold orderErr; rw [if_neg (not_not_intro hs), if_pos hr]
  · unfold orderRes; rw [if_neg fun h => h.2 hr]
theorem order_full {n : Int} {l : List (Int × Int)} (hs : supE n l = 0) (hn : 0 ≤ n) (hl : (msAt (onL n l) n n.toNat).length = n.toNat) : orderErr n l = 0 ∧ orderRes n l = stepsOf (restL n l) (msAt (onL n l) n n.toNat) := by
  have e : ordL n l = stepsOf (restL n l) (msAt (onL n l) n n.toNat) := rfl
  have hr : ¬ raisedIn (ordL n l) (ordL n l).length < n := by
    rw [raisedIn_eq, e, raised_ms, hl]; omega
  refine ⟨?_, ?_⟩
  · unfold orderErr; rw [if_neg (not_not_intro hs), if_neg hr]
  · unfold orderRes; rw [if_pos ⟨hs, hr⟩]; rfl
/-! ### Steps that are possible turn the sets as they say -/
theorem doAt_wF {on : List (List Int)} {rs : List Bool} {n : Int} {S : List (Int × Int)} : ∀ i, i ≤ S.length → (doAt on rs n S i).err = false → (doAt on rs n S i).st = (wF n (S.take i)).1 ∧ (doAt on rs n S i).pr = (wF n (S.take i)).2
  | 0, _, _ => ⟨rfl, rfl⟩
  | i + 1, hi, h => by
    rw [doAt_succ] at h ⊢
    have h0 : (doAt on rs n S i).err = false := by
      unfold doStep at h
      by_cases he : (doAt on rs n S i).err = true
      · rw [if_pos he, he] at h; cases h
      · exact Bool.eq_false_iff.2 he
    obtain ⟨e1, e2⟩ := doAt_wF i (by omega) h0
    rw [take_pair S i hi, wF_snoc]
    unfold doStep at h ⊢
    unfold wStep
    rw [if_neg (by rw [h0]; simp)] at h ⊢
    by_cases hc : canDo on rs (doAt on rs n S i) (S.getD i (0, 0))
    · rw [if_neg (not_not_intro hc)] at h ⊢
      by_cases k1 : (S.getD i (0, 0)).1 = 1
      · rw [if_pos k1, if_pos k1, ← e1, ← e2]; exact ⟨rfl, rfl⟩
      · rw [if_neg k1, if_neg k1]
        by_cases k2 : (S.getD i (0, 0)).1 = 2
        · rw [if_pos k2, if_pos k2, ← e1, ← e2]; exact ⟨rfl, rfl⟩
        · rw [if_neg k2, if_neg k2, ← e1, ← e2]; exact ⟨rfl, rfl⟩
    · rw [if_pos hc] at h; cases h
theorem memL_full {n : Int} {f : Nat → Bool} (h : ∀ j : Nat, j < n.toNat → f j = true) : (memL n f).length = n.toNat := by
  unfold memL
  rw [List.length_map, List.filter_eq_self.2 fun j hj => h j (List.mem_range.1 hj), List.length_range]
theorem memL_less {n : Int} {f : Nat → Bool} {j : Nat} (hj : j < n.toNat) (h : f j = false) : (memL n f).length < n.toNat := by
  unfold memL
  rw [List.length_map]
  have : ((List.range n.toNat).filter f).length < (List.range n.toNat).length := List.length_filter_lt_length_iff_exists.2 ⟨j, List.mem_range.2 hj, by rw [h]; simp⟩
  rwa [List.length_range] at this
end EB
end
section
set_option linter.unusedVariables false
open Go Go.Proofs Go.Eng Go.Shelf
set_option linter.unusedVariables false
namespace EB
set_option maxRecDepth 10000
/-! ### The reference's Ready -/
theorem in_take {n : Int} {st : List Int} {i : Nat} (h : (st.take i).any (outB n) = false) : InN n (st.take i) := by
  intro m hm
  rw [List.any_eq_false] at h
  have := h m hm
  unfold outB at this
  rw [decide_eq_true_iff] at this
  omega
theorem putL_all {n : Int} (hn : 0 ≤ n) {ms : List Int} (h : InN n ms) : WOk (putL (words n) ms) ∧ ((putL (words n) ms).length : Int) = (n + 63) / 64 :=
  ⟨(putL_ok hn ms (words n) (words_ok n) (words_len n hn) h).1, by rw [putL_len]; exact words_len n hn⟩
theorem b34 (n : Int) (l : List (Int × Int)) (st : List Int) : body Try.prog [c62, c63] { asks := [(0, []), (2, [2])] } true Try.f34 [I n, Ps l, Ls st] (.tup [Ls (readyRes n l st), I (readyErr n l st)]) := by
  (repeat' ((conv => whnf); first | (refine Giv.mk fun _ => ?_) | (refine Alt.l (Need.mk ?h ?_); case h => omega) | (refine Alt.r (Need.mk ?h ?_); case h => omega) | (refine Need.mk ?h ?_; case h => first | omega | (intro _; rfl) | assumption | (simp <;> omega)) | refine Ix.zero ?_ | refine Ix.one ?_ | refine Ix.two ?_ | refine Ix.nat ?_ | refine Ix.add ?_ | (apply Go.Eng.Pin.mk; apply Exists.intro) | apply Go.Eng.Pinned.mk rfl rfl | (apply Go.Eng.PinH.mk; apply Exists.intro; apply Exists.intro) | exact Go.Eng.Fin0.mk | refine Go.Eng.Chk.mk ?_ ?_ | refine Own.l ?_ | fail))
  (refine Br.mk (fun _ => ?_) (fun _ => ?_))
  · rename_i h
    (repeat' ((conv => whnf); first | (refine Giv.mk fun _ => ?_) | (refine Alt.l (Need.mk ?h ?_); case h => omega) | (refine Alt.r (Need.mk ?h ?_); case h => omega) | (refine Need.mk ?h ?_; case h => first | omega | (intro _; rfl) | assumption | (simp <;> omega)) | refine Ix.zero ?_ | refine Ix.one ?_ | refine Ix.two ?_ | refine Ix.nat ?_ | refine Ix.add ?_ | (apply Go.Eng.Pin.mk; apply Exists.intro) | apply Go.Eng.Pinned.mk rfl rfl | (apply Go.Eng.PinH.mk; apply Exists.intro; apply Exists.intro) | exact Go.Eng.Fin0.mk | refine Go.Eng.Chk.mk ?_ ?_ | refine Own.l ?_ | fail))
    (conv => whnf)
    refine ⟨?_, ?_, trivial⟩
    · (conv => whnf)
      unfold readyRes; rw [if_neg fun e => h e.1]
    · exact ⟨rfl, by unfold readyErr; rw [if_pos h]⟩
  · rename_i h
    have h : supE n l = 0 := Classical.not_not.1 h
    have hro := supE_rests h
    obtain ⟨r1, r2, r3, r4⟩ := id hro
    (repeat' ((conv => whnf); first | (refine Giv.mk fun _ => ?_) | (refine Alt.l (Need.mk ?h ?_); case h => omega) | (refine Alt.r (Need.mk ?h ?_); case h => omega) | (refine Need.mk ?h ?_; case h => first | omega | (intro _; rfl) | assumption | (simp <;> omega)) | refine Ix.zero ?_ | refine Ix.one ?_ | refine Ix.two ?_ | refine Ix.nat ?_ | refine Ix.add ?_ | (apply Go.Eng.Pin.mk; apply Exists.intro) | apply Go.Eng.Pinned.mk rfl rfl | (apply Go.Eng.PinH.mk; apply Exists.intro; apply Exists.intro) | exact Go.Eng.Fin0.mk | refine Go.Eng.Chk.mk ?_ ?_ | refine Own.l ?_ | fail))
    refine Need.mk (show 0 ≤ n ∧ n ≤ n ∧ n ≤ 140737488355328 ∧ n * ((1 : Nat) : Int) ≤ 140737488355328 by omega) ?_
    (repeat' ((conv => whnf); first | (refine Giv.mk fun _ => ?_) | (refine Alt.l (Need.mk ?h ?_); case h => omega) | (refine Alt.r (Need.mk ?h ?_); case h => omega) | (refine Need.mk ?h ?_; case h => first | omega | (intro _; rfl) | assumption | (simp <;> omega)) | refine Ix.zero ?_ | refine Ix.one ?_ | refine Ix.two ?_ | refine Ix.nat ?_ | refine Ix.add ?_ | (apply Go.Eng.Pin.mk; apply Exists.intro) | apply Go.Eng.Pinned.mk rfl rfl | (apply Go.Eng.PinH.mk; apply Exists.intro; apply Exists.intro) | exact Go.Eng.Fin0.mk | refine Go.Eng.Chk.mk ?_ ?_ | refine Own.l ?_ | fail))
    refine Ask.mk ⟨{ X := Nat, pre := fun i => i ≤ st.length ∧ (st.take i).any (outB n) = false, mod := fun i _ => [(9, I i)], heap := fun i _ => [.vec 1 (.int .i64) [] 3, .vec 1 .bool (bitsL n (putL (words n) (st.take i))) 4], mu := fun i => st.length - i }, rfl, ?_⟩
    (repeat' ((conv => whnf); first | (refine Giv.mk fun _ => ?_) | (refine Alt.l (Need.mk ?h ?_); case h => omega) | (refine Alt.r (Need.mk ?h ?_); case h => omega) | (refine Need.mk ?h ?_; case h => first | omega | (intro _; rfl) | assumption | (simp <;> omega)) | refine Ix.zero ?_ | refine Ix.one ?_ | refine Ix.two ?_ | refine Ix.nat ?_ | refine Ix.add ?_ | (apply Go.Eng.Pin.mk; apply Exists.intro) | apply Go.Eng.Pinned.mk rfl rfl | (apply Go.Eng.PinH.mk; apply Exists.intro; apply Exists.intro) | exact Go.Eng.Fin0.mk | refine Go.Eng.Chk.mk ?_ ?_ | refine Own.l ?_ | fail))
    refine ⟨⟨(0 : Nat), ⟨Nat.zero_le _, by simp⟩, ?_⟩, fun (i : Nat) hi => ?_⟩
    · (repeat' (first | exact trivial | rfl | exact Nat.one_pos | (refine And.intro ?_ ?_) | omega | ((conv => whnf); (refine And.intro ?_ ?_)) | ((conv => whnf); exact trivial)))
      exact (bitsL_nil n).symm
    · obtain ⟨hi, hb⟩ := hi
      obtain ⟨w1, w2⟩ := putL_all r2 (in_take hb)
      have hbl := bitsL_len n (putL (words n) (st.take i))
      (repeat' ((conv => whnf); first | (refine Giv.mk fun _ => ?_) | (refine Alt.l (Need.mk ?h ?_); case h => omega) | (refine Alt.r (Need.mk ?h ?_); case h => omega) | (refine Need.mk ?h ?_; case h => first | omega | (intro _; rfl) | assumption | (simp <;> omega)) | refine Ix.zero ?_ | refine Ix.one ?_ | refine Ix.two ?_ | refine Ix.nat ?_ | refine Ix.add ?_ | (apply Go.Eng.Pin.mk; apply Exists.intro) | apply Go.Eng.Pinned.mk rfl rfl | (apply Go.Eng.PinH.mk; apply Exists.intro; apply Exists.intro) | exact Go.Eng.Fin0.mk | refine Go.Eng.Chk.mk ?_ ?_ | refine Own.l ?_ | fail))
      (refine Br.mk (fun _ => ?_) (fun _ => ?_))
      · have hlt : i < st.length := by omega
        have hps := putL_succ (words n) st i hlt
        have hat := any_take_succ (outB n) st 0 i hlt
        have bad : outB n (st.getD i 0) = true → [] = readyRes n l st ∧ 2 = readyErr n l st := fun hx => by
          have ha : st.any (outB n) = true := any_getD (outB n) st 0 i hlt hx
          refine ⟨by unfold readyRes; rw [if_neg (by rw [ha]; simp)], by unfold readyErr; rw [if_neg (by omega), if_pos ha]⟩
        (repeat' ((conv => whnf); first | (refine Giv.mk fun _ => ?_) | (refine Alt.l (Need.mk ?h ?_); case h => omega) | (refine Alt.r (Need.mk ?h ?_); case h => omega) | (refine Need.mk ?h ?_; case h => first | omega | (intro _; rfl) | assumption | (simp <;> omega)) | refine Ix.zero ?_ | refine Ix.one ?_ | refine Ix.two ?_ | refine Ix.nat ?_ | refine Ix.add ?_ | (apply Go.Eng.Pin.mk; apply Exists.intro) | apply Go.Eng.Pinned.mk rfl rfl | (apply Go.Eng.PinH.mk; apply Exists.intro; apply Exists.intro) | exact Go.Eng.Fin0.mk | refine Go.Eng.Chk.mk ?_ ?_ | refine Own.l ?_ | (refine Br.mkY ?h ?_; case h => first | omega | assumption) | (refine Br.mkN ?h ?_; case h => first | omega | assumption | exact not_not_intro (by assumption)) | (refine Br.mk (fun _ => ?_) (fun _ => ?_)) | fail))
        · have hx : outB n (st.getD i 0) = true := decide_eq_true (.inl ‹_›)
          (conv => whnf)
          refine ⟨?_, ⟨rfl, (bad hx).2⟩, trivial⟩
          · (conv => whnf)
            exact (bad hx).1
        · have hx : outB n (st.getD i 0) = true := decide_eq_true (.inr ‹_›)
          (conv => whnf)
          refine ⟨?_, ⟨rfl, (bad hx).2⟩, trivial⟩
          · (conv => whnf)
            exact (bad hx).1
        · have hx : outB n (st.getD i 0) = false := decide_eq_false (by omega)
          have hset := bitsL_put w1 w2 (m := st.getD i 0) (by omega)
          rw [← hps] at hset
          refine ix_at (st.getD i 0).toNat (by omega) ?_
          (repeat' ((conv => whnf); first | (refine Giv.mk fun _ => ?_) | (refine Alt.l (Need.mk ?h ?_); case h => omega) | (refine Alt.r (Need.mk ?h ?_); case h => omega) | (refine Need.mk ?h ?_; case h => first | omega | (intro _; rfl) | assumption | (simp <;> omega)) | refine Ix.zero ?_ | refine Ix.one ?_ | refine Ix.two ?_ | refine Ix.nat ?_ | refine Ix.add ?_ | (apply Go.Eng.Pin.mk; apply Exists.intro) | apply Go.Eng.Pinned.mk rfl rfl | (apply Go.Eng.PinH.mk; apply Exists.intro; apply Exists.intro) | exact Go.Eng.Fin0.mk | refine Go.Eng.Chk.mk ?_ ?_ | refine Own.l ?_ | (refine Br.mkY ?h ?_; case h => first | omega | assumption) | (refine Br.mkN ?h ?_; case h => first | omega | assumption | exact not_not_intro (by assumption)) | fail))
          refine ⟨(i + 1 : Nat), by show st.length - (i + 1) < st.length - i; omega, ⟨hlt, by rw [hat, hb, hx]; rfl⟩, ?_⟩
          (repeat' (first | exact trivial | rfl | exact Nat.one_pos | (refine And.intro ?_ ?_) | omega | ((conv => whnf); (refine And.intro ?_ ?_)) | ((conv => whnf); exact trivial)))
          exact hset
      · have hii : i = st.length := by omega
        have htk : st.take i = st := by rw [hii, List.take_length]
        rw [htk] at hb w1 w2 hbl
        (repeat' ((conv => whnf); first | (refine Giv.mk fun _ => ?_) | (refine Alt.l (Need.mk ?h ?_); case h => omega) | (refine Alt.r (Need.mk ?h ?_); case h => omega) | (refine Need.mk ?h ?_; case h => first | omega | (intro _; rfl) | assumption | (simp <;> omega)) | refine Ix.zero ?_ | refine Ix.one ?_ | refine Ix.two ?_ | refine Ix.nat ?_ | refine Ix.add ?_ | (apply Go.Eng.Pin.mk; apply Exists.intro) | apply Go.Eng.Pinned.mk rfl rfl | (apply Go.Eng.PinH.mk; apply Exists.intro; apply Exists.intro) | exact Go.Eng.Fin0.mk | refine Go.Eng.Chk.mk ?_ ?_ | refine Own.l ?_ | (refine Br.mkY ?h ?_; case h => first | omega | assumption) | (refine Br.mkN ?h ?_; case h => first | omega | assumption | exact not_not_intro (by assumption)) | fail))
        refine Ask.mk ⟨{ X := Nat, pre := fun i => i ≤ n.toNat, mod := fun i _ => [(10, .ref 2 1), (11, I i)], objs := [2], heap := fun i _ => [.vec 1 (.int .i64) [] 3, .vec 1 .bool (bitsL n (putL (words n) st)) 4, .vec 1 (.int .i64) (readyTo (onL n l) (putL (words n) st) i) 3], mu := fun i => n.toNat - i }, rfl, ?_⟩
        (repeat' ((conv => whnf); first | (refine Giv.mk fun _ => ?_) | (refine Alt.l (Need.mk ?h ?_); case h => omega) | (refine Alt.r (Need.mk ?h ?_); case h => omega) | (refine Need.mk ?h ?_; case h => first | omega | (intro _; rfl) | assumption | (simp <;> omega)) | refine Ix.zero ?_ | refine Ix.one ?_ | refine Ix.two ?_ | refine Ix.nat ?_ | refine Ix.add ?_ | (apply Go.Eng.Pin.mk; apply Exists.intro) | apply Go.Eng.Pinned.mk rfl rfl | (apply Go.Eng.PinH.mk; apply Exists.intro; apply Exists.intro) | exact Go.Eng.Fin0.mk | refine Go.Eng.Chk.mk ?_ ?_ | refine Own.l ?_ | fail))
        refine ⟨⟨(0 : Nat), Nat.zero_le _, ?_⟩, fun (i : Nat) (hi : i ≤ n.toNat) => ?_⟩
        · (repeat' (first | exact trivial | rfl | exact Nat.one_pos | (refine And.intro ?_ ?_) | omega | ((conv => whnf); (refine And.intro ?_ ?_)) | ((conv => whnf); exact trivial)))
          exact congrArg (fun t => bitsL n (putL (words n) t)) htk
        · have hrs := readyTo_succ (onL n l) (putL (words n) st) i
          have hrl := readyTo_len (onL n l) (putL (words n) st) i
          have hpre : ∀ q, q < l.length → (l.getD q (0, 0)).2 < (bitsL n (putL (words n) st)).length := fun q hq => by
            have := r4 q hq
            omega
          (repeat' ((conv => whnf); first | (refine Giv.mk fun _ => ?_) | (refine Alt.l (Need.mk ?h ?_); case h => omega) | (refine Alt.r (Need.mk ?h ?_); case h => omega) | (refine Need.mk ?h ?_; case h => first | omega | (intro _; rfl) | assumption | (simp <;> omega)) | refine Ix.zero ?_ | refine Ix.one ?_ | refine Ix.two ?_ | refine Ix.nat ?_ | refine Ix.add ?_ | (apply Go.Eng.Pin.mk; apply Exists.intro) | apply Go.Eng.Pinned.mk rfl rfl | (apply Go.Eng.PinH.mk; apply Exists.intro; apply Exists.intro) | exact Go.Eng.Fin0.mk | refine Go.Eng.Chk.mk ?_ ?_ | refine Own.l ?_ | fail))
          (refine Br.mk (fun _ => ?_) (fun _ => ?_))
          · have hri := ready_iff hro (putL (words n) st) (m := i) (by omega)
            have hgt := bitsL_get n (putL (words n) st) i (by omega)
            (repeat' ((conv => whnf); first | (refine Giv.mk fun _ => ?_) | (refine Alt.l (Need.mk ?h ?_); case h => omega) | (refine Alt.r (Need.mk ?h ?_); case h => omega) | (refine Need.mk ?h ?_; case h => first | omega | (intro _; rfl) | assumption | (simp <;> omega)) | refine Ix.zero ?_ | refine Ix.one ?_ | refine Ix.two ?_ | refine Ix.nat ?_ | refine Ix.add ?_ | (apply Go.Eng.Pin.mk; apply Exists.intro) | apply Go.Eng.Pinned.mk rfl rfl | (apply Go.Eng.PinH.mk; apply Exists.intro; apply Exists.intro) | exact Go.Eng.Fin0.mk | refine Go.Eng.Chk.mk ?_ ?_ | refine Own.l ?_ | (refine Br.mkY ?h ?_; case h => first | omega | assumption) | (refine Br.mkN ?h ?_; case h => first | omega | assumption | exact not_not_intro (by assumption)) | fail))
            (refine Br.mk (fun _ => ?_) (fun _ => ?_))
            · rename_i b1
              rw [hgt, decide_eq_true_iff] at b1
              (repeat' ((conv => whnf); first | (refine Giv.mk fun _ => ?_) | (refine Alt.l (Need.mk ?h ?_); case h => omega) | (refine Alt.r (Need.mk ?h ?_); case h => omega) | (refine Need.mk ?h ?_; case h => first | omega | (intro _; rfl) | assumption | (simp <;> omega)) | refine Ix.zero ?_ | refine Ix.one ?_ | refine Ix.two ?_ | refine Ix.nat ?_ | refine Ix.add ?_ | (apply Go.Eng.Pin.mk; apply Exists.intro) | apply Go.Eng.Pinned.mk rfl rfl | (apply Go.Eng.PinH.mk; apply Exists.intro; apply Exists.intro) | exact Go.Eng.Fin0.mk | refine Go.Eng.Chk.mk ?_ ?_ | refine Own.l ?_ | fail))
              (refine Br.mk (fun _ => ?_) (fun _ => ?_))
              · rename_i b2
                rw [if_pos (hri.2 ⟨b1, b2⟩)] at hrs
                (repeat' ((conv => whnf); first | (refine Giv.mk fun _ => ?_) | (refine Alt.l (Need.mk ?h ?_); case h => omega) | (refine Alt.r (Need.mk ?h ?_); case h => omega) | (refine Need.mk ?h ?_; case h => first | omega | (intro _; rfl) | assumption | (simp <;> omega)) | refine Ix.zero ?_ | refine Ix.one ?_ | refine Ix.two ?_ | refine Ix.nat ?_ | refine Ix.add ?_ | (apply Go.Eng.Pin.mk; apply Exists.intro) | apply Go.Eng.Pinned.mk rfl rfl | (apply Go.Eng.PinH.mk; apply Exists.intro; apply Exists.intro) | exact Go.Eng.Fin0.mk | refine Go.Eng.Chk.mk ?_ ?_ | refine Own.l ?_ | fail))
                refine ⟨(i + 1 : Nat), by show n.toNat - (i + 1) < n.toNat - i; omega, by show i + 1 ≤ n.toNat; omega, ?_⟩
                (repeat' (first | exact trivial | rfl | exact Nat.one_pos | (refine And.intro ?_ ?_) | omega | ((conv => whnf); (refine And.intro ?_ ?_)) | ((conv => whnf); exact trivial)))
                exact hrs.symm
              · rename_i b2
                rw [if_neg (fun e => b2 (hri.1 e).2)] at hrs
                (repeat' ((conv => whnf); first | (refine Giv.mk fun _ => ?_) | (refine Alt.l (Need.mk ?h ?_); case h => omega) | (refine Alt.r (Need.mk ?h ?_); case h => omega) | (refine Need.mk ?h ?_; case h => first | omega | (intro _; rfl) | assumption | (simp <;> omega)) | refine Ix.zero ?_ | refine Ix.one ?_ | refine Ix.two ?_ | refine Ix.nat ?_ | refine Ix.add ?_ | (apply Go.Eng.Pin.mk; apply Exists.intro) | apply Go.Eng.Pinned.mk rfl rfl | (apply Go.Eng.PinH.mk; apply Exists.intro; apply Exists.intro) | exact Go.Eng.Fin0.mk | refine Go.Eng.Chk.mk ?_ ?_ | refine Own.l ?_ | fail))
                refine ⟨(i + 1 : Nat), by show n.toNat - (i + 1) < n.toNat - i; omega, by show i + 1 ≤ n.toNat; omega, ?_⟩
                (repeat' (first | exact trivial | rfl | exact Nat.one_pos | (refine And.intro ?_ ?_) | omega | ((conv => whnf); (refine And.intro ?_ ?_)) | ((conv => whnf); exact trivial)))
                exact hrs.symm
            · rename_i b1
              rw [hgt, decide_eq_true_iff] at b1
              rw [if_neg (fun e => b1 (hri.1 e).1)] at hrs
              (repeat' ((conv => whnf); first | (refine Giv.mk fun _ => ?_) | (refine Alt.l (Need.mk ?h ?_); case h => omega) | (refine Alt.r (Need.mk ?h ?_); case h => omega) | (refine Need.mk ?h ?_; case h => first | omega | (intro _; rfl) | assumption | (simp <;> omega)) | refine Ix.zero ?_ | refine Ix.one ?_ | refine Ix.two ?_ | refine Ix.nat ?_ | refine Ix.add ?_ | (apply Go.Eng.Pin.mk; apply Exists.intro) | apply Go.Eng.Pinned.mk rfl rfl | (apply Go.Eng.PinH.mk; apply Exists.intro; apply Exists.intro) | exact Go.Eng.Fin0.mk | refine Go.Eng.Chk.mk ?_ ?_ | refine Own.l ?_ | fail))
              refine ⟨(i + 1 : Nat), by show n.toNat - (i + 1) < n.toNat - i; omega, by show i + 1 ≤ n.toNat; omega, ?_⟩
              (repeat' (first | exact trivial | rfl | exact Nat.one_pos | (refine And.intro ?_ ?_) | omega | ((conv => whnf); (refine And.intro ?_ ?_)) | ((conv => whnf); exact trivial)))
              exact hrs.symm
          · have hii : i = n.toNat := by omega
            subst hii
            (repeat' ((conv => whnf); first | (refine Giv.mk fun _ => ?_) | (refine Alt.l (Need.mk ?h ?_); case h => omega) | (refine Alt.r (Need.mk ?h ?_); case h => omega) | (refine Need.mk ?h ?_; case h => first | omega | (intro _; rfl) | assumption | (simp <;> omega)) | refine Ix.zero ?_ | refine Ix.one ?_ | refine Ix.two ?_ | refine Ix.nat ?_ | refine Ix.add ?_ | (apply Go.Eng.Pin.mk; apply Exists.intro) | apply Go.Eng.Pinned.mk rfl rfl | (apply Go.Eng.PinH.mk; apply Exists.intro; apply Exists.intro) | exact Go.Eng.Fin0.mk | refine Go.Eng.Chk.mk ?_ ?_ | refine Own.l ?_ | (refine Br.mkY ?h ?_; case h => first | omega | assumption) | (refine Br.mkN ?h ?_; case h => first | omega | assumption | exact not_not_intro (by assumption)) | fail))
            (conv => whnf)
            refine ⟨?_, ⟨rfl, ?_⟩, trivial⟩
            · (conv => whnf)
              unfold readyRes; rw [if_pos ⟨h, hb⟩]
            · unfold readyErr; rw [if_neg (fun e => e h), if_neg (by rw [hb]; simp)]
def c34 : Con := mkCon 34 true fun args K => match args with | [.val (.int .i64 n), .seq (.pair (.int .i64) (.int .i64)) l, .seq (.int .i64) st] => K (.tup [Ls (readyRes n l st), I (readyErr n l st)]) | _ => False
theorem k34 : ConOK Try.prog c34 := by
  refine conOK_of rfl (enters_of Try.func34 (by kernel_rfl) rfl) ?_
  intro args K h
  simp only [c34] at h
  split at h
  · rename_i n l st; exact ⟨_, h, tri_of_body (Γ := [c62, c63]) (by simp [k62, k63]) Try.func34 (by simp [Try.ntmps34]) rfl (b34 n l st)⟩
  · exact h.elim
/-! ### The reference's Order -/
theorem b33 (n : Int) (l : List (Int × Int)) : body Try.prog [c62, c63] { asks := [(0, [2]), (2, [])] } true Try.f33 [I n, Ps l] (.tup [Ps (orderRes n l), I (orderErr n l)]) := by
  (repeat' ((conv => whnf); first | (refine Giv.mk fun _ => ?_) | (refine Alt.l (Need.mk ?h ?_); case h => omega) | (refine Alt.r (Need.mk ?h ?_); case h => omega) | (refine Need.mk ?h ?_; case h => first | omega | (intro _; rfl) | assumption | (simp <;> omega)) | refine Ix.zero ?_ | refine Ix.one ?_ | refine Ix.two ?_ | refine Ix.nat ?_ | refine Ix.add ?_ | (apply Go.Eng.Pin.mk; apply Exists.intro) | apply Go.Eng.Pinned.mk rfl rfl | (apply Go.Eng.PinH.mk; apply Exists.intro; apply Exists.intro) | exact Go.Eng.Fin0.mk | refine Go.Eng.Chk.mk ?_ ?_ | refine Own.l ?_ | fail))
  (refine Br.mk (fun _ => ?_) (fun _ => ?_))
  · rename_i h
    (repeat' ((conv => whnf); first | (refine Giv.mk fun _ => ?_) | (refine Alt.l (Need.mk ?h ?_); case h => omega) | (refine Alt.r (Need.mk ?h ?_); case h => omega) | (refine Need.mk ?h ?_; case h => first | omega | (intro _; rfl) | assumption | (simp <;> omega)) | refine Ix.zero ?_ | refine Ix.one ?_ | refine Ix.two ?_ | refine Ix.nat ?_ | refine Ix.add ?_ | (apply Go.Eng.Pin.mk; apply Exists.intro) | apply Go.Eng.Pinned.mk rfl rfl | (apply Go.Eng.PinH.mk; apply Exists.intro; apply Exists.intro) | exact Go.Eng.Fin0.mk | refine Go.Eng.Chk.mk ?_ ?_ | refine Own.l ?_ | fail))
    (conv => whnf)
    refine ⟨?_, ?_, trivial⟩
    · (conv => whnf)
      exact ((orderRes_bad h).1).symm
    · exact ⟨rfl, by unfold orderErr; rw [if_pos h]⟩
  · rename_i h
    have h : supE n l = 0 := Classical.not_not.1 h
    have hro := supE_rests h
    obtain ⟨r1, r2, r3, r4⟩ := id hro
    (repeat' ((conv => whnf); first | (refine Giv.mk fun _ => ?_) | (refine Alt.l (Need.mk ?h ?_); case h => omega) | (refine Alt.r (Need.mk ?h ?_); case h => omega) | (refine Need.mk ?h ?_; case h => first | omega | (intro _; rfl) | assumption | (simp <;> omega)) | refine Ix.zero ?_ | refine Ix.one ?_ | refine Ix.two ?_ | refine Ix.nat ?_ | refine Ix.add ?_ | (apply Go.Eng.Pin.mk; apply Exists.intro) | apply Go.Eng.Pinned.mk rfl rfl | (apply Go.Eng.PinH.mk; apply Exists.intro; apply Exists.intro) | exact Go.Eng.Fin0.mk | refine Go.Eng.Chk.mk ?_ ?_ | refine Own.l ?_ | fail))
    refine Need.mk (show 0 ≤ n ∧ n ≤ n ∧ n ≤ 140737488355328 ∧ n * ((1 : Nat) : Int) ≤ 140737488355328 by omega) ?_
    (repeat' ((conv => whnf); first | (refine Giv.mk fun _ => ?_) | (refine Alt.l (Need.mk ?h ?_); case h => omega) | (refine Alt.r (Need.mk ?h ?_); case h => omega) | (refine Need.mk ?h ?_; case h => first | omega | (intro _; rfl) | assumption | (simp <;> omega)) | refine Ix.zero ?_ | refine Ix.one ?_ | refine Ix.two ?_ | refine Ix.nat ?_ | refine Ix.add ?_ | (apply Go.Eng.Pin.mk; apply Exists.intro) | apply Go.Eng.Pinned.mk rfl rfl | (apply Go.Eng.PinH.mk; apply Exists.intro; apply Exists.intro) | exact Go.Eng.Fin0.mk | refine Go.Eng.Chk.mk ?_ ?_ | refine Own.l ?_ | fail))
    refine Ask.mk ⟨{ X := Nat, pre := fun k => k ≤ n.toNat ∧ (msAt (onL n l) n k).length = k, mod := fun k _ => [(7, .ref 2 1), (8, I k)], objs := [2], heap := fun k _ => [.vec 1 Two [] 29, .vec 1 .bool (bitsL n (putL (words n) (msAt (onL n l) n k))) 4, .vec 1 Two (stepsOf (restL n l) (msAt (onL n l) n k)) 29], mu := fun k => n.toNat - k }, rfl, ?_⟩
    (repeat' ((conv => whnf); first | (refine Giv.mk fun _ => ?_) | (refine Alt.l (Need.mk ?h ?_); case h => omega) | (refine Alt.r (Need.mk ?h ?_); case h => omega) | (refine Need.mk ?h ?_; case h => first | omega | (intro _; rfl) | assumption | (simp <;> omega)) | refine Ix.zero ?_ | refine Ix.one ?_ | refine Ix.two ?_ | refine Ix.nat ?_ | refine Ix.add ?_ | (apply Go.Eng.Pin.mk; apply Exists.intro) | apply Go.Eng.Pinned.mk rfl rfl | (apply Go.Eng.PinH.mk; apply Exists.intro; apply Exists.intro) | exact Go.Eng.Fin0.mk | refine Go.Eng.Chk.mk ?_ ?_ | refine Own.l ?_ | fail))
    refine ⟨⟨(0 : Nat), ⟨Nat.zero_le _, rfl⟩, ?_⟩, fun (k : Nat) hk => ?_⟩
    · (repeat' (first | exact trivial | rfl | exact Nat.one_pos | (refine And.intro ?_ ?_) | omega | ((conv => whnf); (refine And.intro ?_ ?_)) | ((conv => whnf); exact trivial)))
      exact (bitsL_nil n).symm
    · obtain ⟨hk, hlen⟩ := hk
      have hin := msAt_in (onL n l) n k
      obtain ⟨w1, w2⟩ := putL_all r2 hin
      have hbl := bitsL_len n (putL (words n) (msAt (onL n l) n k))
      have hpre : ∀ q, q < l.length → (l.getD q (0, 0)).2 < (bitsL n (putL (words n) (msAt (onL n l) n k))).length := fun q hq => by
        have := r4 q hq
        omega
      have hsl := stepsOf_len (restL n l) (msAt (onL n l) n k)
      (repeat' ((conv => whnf); first | (refine Giv.mk fun _ => ?_) | (refine Alt.l (Need.mk ?h ?_); case h => omega) | (refine Alt.r (Need.mk ?h ?_); case h => omega) | (refine Need.mk ?h ?_; case h => first | omega | (intro _; rfl) | assumption | (simp <;> omega)) | refine Ix.zero ?_ | refine Ix.one ?_ | refine Ix.two ?_ | refine Ix.nat ?_ | refine Ix.add ?_ | (apply Go.Eng.Pin.mk; apply Exists.intro) | apply Go.Eng.Pinned.mk rfl rfl | (apply Go.Eng.PinH.mk; apply Exists.intro; apply Exists.intro) | exact Go.Eng.Fin0.mk | refine Go.Eng.Chk.mk ?_ ?_ | refine Own.l ?_ | fail))
      (refine Br.mk (fun _ => ?_) (fun _ => ?_))
      · (repeat' ((conv => whnf); first | (refine Giv.mk fun _ => ?_) | (refine Alt.l (Need.mk ?h ?_); case h => omega) | (refine Alt.r (Need.mk ?h ?_); case h => omega) | (refine Need.mk ?h ?_; case h => first | omega | (intro _; rfl) | assumption | (simp <;> omega)) | refine Ix.zero ?_ | refine Ix.one ?_ | refine Ix.two ?_ | refine Ix.nat ?_ | refine Ix.add ?_ | (apply Go.Eng.Pin.mk; apply Exists.intro) | apply Go.Eng.Pinned.mk rfl rfl | (apply Go.Eng.PinH.mk; apply Exists.intro; apply Exists.intro) | exact Go.Eng.Fin0.mk | refine Go.Eng.Chk.mk ?_ ?_ | refine Own.l ?_ | fail))
        refine Ask.mk ⟨{ X := Nat, pre := fun j => j ≤ n.toNat, mod := fun j _ => [(9, I (nf (onL n l) n (putL (words n) (msAt (onL n l) n k)) j)), (10, I (n - 1 - j))], heap := fun j _ => [.vec 1 Two [] 29, .vec 1 .bool (bitsL n (putL (words n) (msAt (onL n l) n k))) 4, .vec 1 Two (stepsOf (restL n l) (msAt (onL n l) n k)) 29], mu := fun j => n.toNat - j }, rfl, ?_⟩
        (repeat' ((conv => whnf); first | (refine Giv.mk fun _ => ?_) | (refine Alt.l (Need.mk ?h ?_); case h => omega) | (refine Alt.r (Need.mk ?h ?_); case h => omega) | (refine Need.mk ?h ?_; case h => first | omega | (intro _; rfl) | assumption | (simp <;> omega)) | refine Ix.zero ?_ | refine Ix.one ?_ | refine Ix.two ?_ | refine Ix.nat ?_ | refine Ix.add ?_ | (apply Go.Eng.Pin.mk; apply Exists.intro) | apply Go.Eng.Pinned.mk rfl rfl | (apply Go.Eng.PinH.mk; apply Exists.intro; apply Exists.intro) | exact Go.Eng.Fin0.mk | refine Go.Eng.Chk.mk ?_ ?_ | refine Own.l ?_ | fail))
        refine ⟨⟨(0 : Nat), Nat.zero_le _, ?_⟩, fun (j : Nat) (hj : j ≤ n.toNat) => ?_⟩
        · (repeat' (first | exact trivial | rfl | exact Nat.one_pos | (refine And.intro ?_ ?_) | omega | ((conv => whnf); (refine And.intro ?_ ?_)) | ((conv => whnf); exact trivial)))
        · (repeat' ((conv => whnf); first | (refine Giv.mk fun _ => ?_) | (refine Alt.l (Need.mk ?h ?_); case h => omega) | (refine Alt.r (Need.mk ?h ?_); case h => omega) | (refine Need.mk ?h ?_; case h => first | omega | (intro _; rfl) | assumption | (simp <;> omega)) | refine Ix.zero ?_ | refine Ix.one ?_ | refine Ix.two ?_ | refine Ix.nat ?_ | refine Ix.add ?_ | (apply Go.Eng.Pin.mk; apply Exists.intro) | apply Go.Eng.Pinned.mk rfl rfl | (apply Go.Eng.PinH.mk; apply Exists.intro; apply Exists.intro) | exact Go.Eng.Fin0.mk | refine Go.Eng.Chk.mk ?_ ?_ | refine Own.l ?_ | fail))
          (refine Br.mk (fun _ => ?_) (fun _ => ?_))
          · have hri := ready_iff hro (putL (words n) (msAt (onL n l) n k)) (m := n - 1 - j) (by omega)
            have hgt := bitsL_get n (putL (words n) (msAt (onL n l) n k)) (n - 1 - j).toNat (by omega)
            rw [Int.toNat_of_nonneg (by omega)] at hgt
            have hnf : nf (onL n l) n (putL (words n) (msAt (onL n l) n k)) (j + 1) = if readyP (onL n l) (putL (words n) (msAt (onL n l) n k)) (n - 1 - j) then n - 1 - j else nf (onL n l) n (putL (words n) (msAt (onL n l) n k)) j := rfl
            (repeat' ((conv => whnf); first | (refine Giv.mk fun _ => ?_) | (refine Alt.l (Need.mk ?h ?_); case h => omega) | (refine Alt.r (Need.mk ?h ?_); case h => omega) | (refine Need.mk ?h ?_; case h => first | omega | (intro _; rfl) | assumption | (simp <;> omega)) | refine Ix.zero ?_ | refine Ix.one ?_ | refine Ix.two ?_ | refine Ix.nat ?_ | refine Ix.add ?_ | (apply Go.Eng.Pin.mk; apply Exists.intro) | apply Go.Eng.Pinned.mk rfl rfl | (apply Go.Eng.PinH.mk; apply Exists.intro; apply Exists.intro) | exact Go.Eng.Fin0.mk | refine Go.Eng.Chk.mk ?_ ?_ | refine Own.l ?_ | (refine Br.mkY ?h ?_; case h => first | omega | assumption) | (refine Br.mkN ?h ?_; case h => first | omega | assumption | exact not_not_intro (by assumption)) | fail))
            refine ix_at (n - 1 - j).toNat (by omega) ?_
            (repeat' ((conv => whnf); first | (refine Giv.mk fun _ => ?_) | (refine Alt.l (Need.mk ?h ?_); case h => omega) | (refine Alt.r (Need.mk ?h ?_); case h => omega) | (refine Need.mk ?h ?_; case h => first | omega | (intro _; rfl) | assumption | (simp <;> omega)) | refine Ix.zero ?_ | refine Ix.one ?_ | refine Ix.two ?_ | refine Ix.nat ?_ | refine Ix.add ?_ | (apply Go.Eng.Pin.mk; apply Exists.intro) | apply Go.Eng.Pinned.mk rfl rfl | (apply Go.Eng.PinH.mk; apply Exists.intro; apply Exists.intro) | exact Go.Eng.Fin0.mk | refine Go.Eng.Chk.mk ?_ ?_ | refine Own.l ?_ | (refine Br.mkY ?h ?_; case h => first | omega | assumption) | (refine Br.mkN ?h ?_; case h => first | omega | assumption | exact not_not_intro (by assumption)) | fail))
            (refine Br.mk (fun _ => ?_) (fun _ => ?_))
            · rename_i b1
              rw [hgt, decide_eq_true_iff] at b1
              (repeat' ((conv => whnf); first | (refine Giv.mk fun _ => ?_) | (refine Alt.l (Need.mk ?h ?_); case h => omega) | (refine Alt.r (Need.mk ?h ?_); case h => omega) | (refine Need.mk ?h ?_; case h => first | omega | (intro _; rfl) | assumption | (simp <;> omega)) | refine Ix.zero ?_ | refine Ix.one ?_ | refine Ix.two ?_ | refine Ix.nat ?_ | refine Ix.add ?_ | (apply Go.Eng.Pin.mk; apply Exists.intro) | apply Go.Eng.Pinned.mk rfl rfl | (apply Go.Eng.PinH.mk; apply Exists.intro; apply Exists.intro) | exact Go.Eng.Fin0.mk | refine Go.Eng.Chk.mk ?_ ?_ | refine Own.l ?_ | (refine Br.mkY ?h ?_; case h => first | omega | assumption) | (refine Br.mkN ?h ?_; case h => first | omega | assumption | exact not_not_intro (by assumption)) | fail))
              (refine Br.mk (fun _ => ?_) (fun _ => ?_))
              · rename_i b2
                rw [if_pos (hri.2 ⟨b1, b2⟩)] at hnf
                (repeat' ((conv => whnf); first | (refine Giv.mk fun _ => ?_) | (refine Alt.l (Need.mk ?h ?_); case h => omega) | (refine Alt.r (Need.mk ?h ?_); case h => omega) | (refine Need.mk ?h ?_; case h => first | omega | (intro _; rfl) | assumption | (simp <;> omega)) | refine Ix.zero ?_ | refine Ix.one ?_ | refine Ix.two ?_ | refine Ix.nat ?_ | refine Ix.add ?_ | (apply Go.Eng.Pin.mk; apply Exists.intro) | apply Go.Eng.Pinned.mk rfl rfl | (apply Go.Eng.PinH.mk; apply Exists.intro; apply Exists.intro) | exact Go.Eng.Fin0.mk | refine Go.Eng.Chk.mk ?_ ?_ | refine Own.l ?_ | (refine Br.mkY ?h ?_; case h => first | omega | assumption) | (refine Br.mkN ?h ?_; case h => first | omega | assumption | exact not_not_intro (by assumption)) | fail))
                refine ⟨(j + 1 : Nat), by show n.toNat - (j + 1) < n.toNat - j; omega, by show j + 1 ≤ n.toNat; omega, ?_⟩
                (repeat' (first | exact trivial | rfl | exact Nat.one_pos | (refine And.intro ?_ ?_) | omega | ((conv => whnf); (refine And.intro ?_ ?_)) | ((conv => whnf); exact trivial)))
              · rename_i b2
                rw [if_neg (fun e => b2 (hri.1 e).2)] at hnf
                (repeat' ((conv => whnf); first | (refine Giv.mk fun _ => ?_) | (refine Alt.l (Need.mk ?h ?_); case h => omega) | (refine Alt.r (Need.mk ?h ?_); case h => omega) | (refine Need.mk ?h ?_; case h => first | omega | (intro _; rfl) | assumption | (simp <;> omega)) | refine Ix.zero ?_ | refine Ix.one ?_ | refine Ix.two ?_ | refine Ix.nat ?_ | refine Ix.add ?_ | (apply Go.Eng.Pin.mk; apply Exists.intro) | apply Go.Eng.Pinned.mk rfl rfl | (apply Go.Eng.PinH.mk; apply Exists.intro; apply Exists.intro) | exact Go.Eng.Fin0.mk | refine Go.Eng.Chk.mk ?_ ?_ | refine Own.l ?_ | (refine Br.mkY ?h ?_; case h => first | omega | assumption) | (refine Br.mkN ?h ?_; case h => first | omega | assumption | exact not_not_intro (by assumption)) | fail))
                refine ⟨(j + 1 : Nat), by show n.toNat - (j + 1) < n.toNat - j; omega, by show j + 1 ≤ n.toNat; omega, ?_⟩
                (repeat' (first | exact trivial | rfl | exact Nat.one_pos | (refine And.intro ?_ ?_) | omega | ((conv => whnf); (refine And.intro ?_ ?_)) | ((conv => whnf); exact trivial)))
            · rename_i b1
              rw [hgt, decide_eq_true_iff] at b1
              rw [if_neg (fun e => b1 (hri.1 e).1)] at hnf
              (repeat' ((conv => whnf); first | (refine Giv.mk fun _ => ?_) | (refine Alt.l (Need.mk ?h ?_); case h => omega) | (refine Alt.r (Need.mk ?h ?_); case h => omega) | (refine Need.mk ?h ?_; case h => first | omega | (intro _; rfl) | assumption | (simp <;> omega)) | refine Ix.zero ?_ | refine Ix.one ?_ | refine Ix.two ?_ | refine Ix.nat ?_ | refine Ix.add ?_ | (apply Go.Eng.Pin.mk; apply Exists.intro) | apply Go.Eng.Pinned.mk rfl rfl | (apply Go.Eng.PinH.mk; apply Exists.intro; apply Exists.intro) | exact Go.Eng.Fin0.mk | refine Go.Eng.Chk.mk ?_ ?_ | refine Own.l ?_ | (refine Br.mkY ?h ?_; case h => first | omega | assumption) | (refine Br.mkN ?h ?_; case h => first | omega | assumption | exact not_not_intro (by assumption)) | fail))
              refine ⟨(j + 1 : Nat), by show n.toNat - (j + 1) < n.toNat - j; omega, by show j + 1 ≤ n.toNat; omega, ?_⟩
              (repeat' (first | exact trivial | rfl | exact Nat.one_pos | (refine And.intro ?_ ?_) | omega | ((conv => whnf); (refine And.intro ?_ ?_)) | ((conv => whnf); exact trivial)))
          · have hjj : j = n.toNat := by omega
            subst hjj
            have hnx := nf_nxt (onL n l) r2 (msAt (onL n l) n k)
            have hnb := nf_bound (onL n l) r2 (putL (words n) (msAt (onL n l) n k)) n.toNat (Nat.le_refl _)
            (repeat' ((conv => whnf); first | (refine Giv.mk fun _ => ?_) | (refine Alt.l (Need.mk ?h ?_); case h => omega) | (refine Alt.r (Need.mk ?h ?_); case h => omega) | (refine Need.mk ?h ?_; case h => first | omega | (intro _; rfl) | assumption | (simp <;> omega)) | refine Ix.zero ?_ | refine Ix.one ?_ | refine Ix.two ?_ | refine Ix.nat ?_ | refine Ix.add ?_ | (apply Go.Eng.Pin.mk; apply Exists.intro) | apply Go.Eng.Pinned.mk rfl rfl | (apply Go.Eng.PinH.mk; apply Exists.intro; apply Exists.intro) | exact Go.Eng.Fin0.mk | refine Go.Eng.Chk.mk ?_ ?_ | refine Own.l ?_ | fail))
            (refine Br.mk (fun _ => ?_) (fun _ => ?_))
            · obtain ⟨o1, o2⟩ := order_cycle (k := k) h (by omega) hlen (by omega)
              (repeat' ((conv => whnf); first | (refine Giv.mk fun _ => ?_) | (refine Alt.l (Need.mk ?h ?_); case h => omega) | (refine Alt.r (Need.mk ?h ?_); case h => omega) | (refine Need.mk ?h ?_; case h => first | omega | (intro _; rfl) | assumption | (simp <;> omega)) | refine Ix.zero ?_ | refine Ix.one ?_ | refine Ix.two ?_ | refine Ix.nat ?_ | refine Ix.add ?_ | (apply Go.Eng.Pin.mk; apply Exists.intro) | apply Go.Eng.Pinned.mk rfl rfl | (apply Go.Eng.PinH.mk; apply Exists.intro; apply Exists.intro) | exact Go.Eng.Fin0.mk | refine Go.Eng.Chk.mk ?_ ?_ | refine Own.l ?_ | (refine Br.mkY ?h ?_; case h => first | omega | assumption) | (refine Br.mkN ?h ?_; case h => first | omega | assumption | exact not_not_intro (by assumption)) | fail))
              (conv => whnf)
              refine ⟨?_, ⟨rfl, o1.symm⟩, trivial⟩
              (conv => whnf)
              exact o2.symm
            · rename_i h0
              have hmn : 0 ≤ nf (onL n l) n (putL (words n) (msAt (onL n l) n k)) n.toNat ∧ nf (onL n l) n (putL (words n) (msAt (onL n l) n k)) n.toNat < n := by omega
              have hms : msAt (onL n l) n (k + 1) = msAt (onL n l) n k ++ [nf (onL n l) n (putL (words n) (msAt (onL n l) n k)) n.toNat] := by
                rw [msAt_succ, if_pos (by omega), hnx]
              have hra := rest_any (l := l) hmn
              have hset := bitsL_put w1 w2 hmn
              rw [← putL_snoc, ← hms] at hset
              have hl1 : (msAt (onL n l) n (k + 1)).length = k + 1 := by rw [hms, List.length_append, hlen]; rfl
              have hst : stepsOf (restL n l) (msAt (onL n l) n (k + 1)) = stepsOf (restL n l) (msAt (onL n l) n k) ++ stepOf (restL n l) (nf (onL n l) n (putL (words n) (msAt (onL n l) n k)) n.toNat) := by
                rw [hms, stepsOf_append, show stepsOf (restL n l) [nf (onL n l) n (putL (words n) (msAt (onL n l) n k)) n.toNat] = stepOf _ _ from List.append_nil _]
              unfold stepOf at hst
              rw [hra] at hst
              (repeat' ((conv => whnf); first | (refine Giv.mk fun _ => ?_) | (refine Alt.l (Need.mk ?h ?_); case h => omega) | (refine Alt.r (Need.mk ?h ?_); case h => omega) | (refine Need.mk ?h ?_; case h => first | omega | (intro _; rfl) | assumption | (simp <;> omega)) | refine Ix.zero ?_ | refine Ix.one ?_ | refine Ix.two ?_ | refine Ix.nat ?_ | refine Ix.add ?_ | (apply Go.Eng.Pin.mk; apply Exists.intro) | apply Go.Eng.Pinned.mk rfl rfl | (apply Go.Eng.PinH.mk; apply Exists.intro; apply Exists.intro) | exact Go.Eng.Fin0.mk | refine Go.Eng.Chk.mk ?_ ?_ | refine Own.l ?_ | (refine Br.mkY ?h ?_; case h => first | omega | assumption) | (refine Br.mkN ?h ?_; case h => first | omega | assumption | exact not_not_intro (by assumption)) | fail))
              (refine Br.mk (fun _ => ?_) (fun _ => ?_))
              · rename_i hf
                rw [if_neg hf] at hst
                (repeat' ((conv => whnf); first | (refine Giv.mk fun _ => ?_) | (refine Alt.l (Need.mk ?h ?_); case h => omega) | (refine Alt.r (Need.mk ?h ?_); case h => omega) | (refine Need.mk ?h ?_; case h => first | omega | (intro _; rfl) | assumption | (simp <;> omega)) | refine Ix.zero ?_ | refine Ix.one ?_ | refine Ix.two ?_ | refine Ix.nat ?_ | refine Ix.add ?_ | (apply Go.Eng.Pin.mk; apply Exists.intro) | apply Go.Eng.Pinned.mk rfl rfl | (apply Go.Eng.PinH.mk; apply Exists.intro; apply Exists.intro) | exact Go.Eng.Fin0.mk | refine Go.Eng.Chk.mk ?_ ?_ | refine Own.l ?_ | (refine Br.mkY ?h ?_; case h => first | omega | assumption) | (refine Br.mkN ?h ?_; case h => first | omega | assumption | exact not_not_intro (by assumption)) | fail))
                refine ix_at (nf (onL n l) n (putL (words n) (msAt (onL n l) n k)) n.toNat).toNat (by omega) ?_
                (repeat' ((conv => whnf); first | (refine Giv.mk fun _ => ?_) | (refine Alt.l (Need.mk ?h ?_); case h => omega) | (refine Alt.r (Need.mk ?h ?_); case h => omega) | (refine Need.mk ?h ?_; case h => first | omega | (intro _; rfl) | assumption | (simp <;> omega)) | refine Ix.zero ?_ | refine Ix.one ?_ | refine Ix.two ?_ | refine Ix.nat ?_ | refine Ix.add ?_ | (apply Go.Eng.Pin.mk; apply Exists.intro) | apply Go.Eng.Pinned.mk rfl rfl | (apply Go.Eng.PinH.mk; apply Exists.intro; apply Exists.intro) | exact Go.Eng.Fin0.mk | refine Go.Eng.Chk.mk ?_ ?_ | refine Own.l ?_ | (refine Br.mkY ?h ?_; case h => first | omega | assumption) | (refine Br.mkN ?h ?_; case h => first | omega | assumption | exact not_not_intro (by assumption)) | fail))
                refine ⟨(k + 1 : Nat), by show n.toNat - (k + 1) < n.toNat - k; omega, ⟨by show k + 1 ≤ n.toNat; omega, hl1⟩, ?_⟩
                (repeat' (first | exact trivial | rfl | exact Nat.one_pos | (refine And.intro ?_ ?_) | omega | ((conv => whnf); (refine And.intro ?_ ?_)) | ((conv => whnf); exact trivial)))
                · exact hset
                · exact Eq.trans (by simp) hst.symm
              · rename_i hf
                rw [if_pos (Classical.not_not.1 hf)] at hst
                (repeat' ((conv => whnf); first | (refine Giv.mk fun _ => ?_) | (refine Alt.l (Need.mk ?h ?_); case h => omega) | (refine Alt.r (Need.mk ?h ?_); case h => omega) | (refine Need.mk ?h ?_; case h => first | omega | (intro _; rfl) | assumption | (simp <;> omega)) | refine Ix.zero ?_ | refine Ix.one ?_ | refine Ix.two ?_ | refine Ix.nat ?_ | refine Ix.add ?_ | (apply Go.Eng.Pin.mk; apply Exists.intro) | apply Go.Eng.Pinned.mk rfl rfl | (apply Go.Eng.PinH.mk; apply Exists.intro; apply Exists.intro) | exact Go.Eng.Fin0.mk | refine Go.Eng.Chk.mk ?_ ?_ | refine Own.l ?_ | (refine Br.mkY ?h ?_; case h => first | omega | assumption) | (refine Br.mkN ?h ?_; case h => first | omega | assumption | exact not_not_intro (by assumption)) | fail))
                refine ix_at (nf (onL n l) n (putL (words n) (msAt (onL n l) n k)) n.toNat).toNat (by omega) ?_
                (repeat' ((conv => whnf); first | (refine Giv.mk fun _ => ?_) | (refine Alt.l (Need.mk ?h ?_); case h => omega) | (refine Alt.r (Need.mk ?h ?_); case h => omega) | (refine Need.mk ?h ?_; case h => first | omega | (intro _; rfl) | assumption | (simp <;> omega)) | refine Ix.zero ?_ | refine Ix.one ?_ | refine Ix.two ?_ | refine Ix.nat ?_ | refine Ix.add ?_ | (apply Go.Eng.Pin.mk; apply Exists.intro) | apply Go.Eng.Pinned.mk rfl rfl | (apply Go.Eng.PinH.mk; apply Exists.intro; apply Exists.intro) | exact Go.Eng.Fin0.mk | refine Go.Eng.Chk.mk ?_ ?_ | refine Own.l ?_ | (refine Br.mkY ?h ?_; case h => first | omega | assumption) | (refine Br.mkN ?h ?_; case h => first | omega | assumption | exact not_not_intro (by assumption)) | fail))
                refine ⟨(k + 1 : Nat), by show n.toNat - (k + 1) < n.toNat - k; omega, ⟨by show k + 1 ≤ n.toNat; omega, hl1⟩, ?_⟩
                (repeat' (first | exact trivial | rfl | exact Nat.one_pos | (refine And.intro ?_ ?_) | omega | ((conv => whnf); (refine And.intro ?_ ?_)) | ((conv => whnf); exact trivial)))
                · exact hset
                · exact hst.symm
      · have hkk : k = n.toNat := by omega
        subst hkk
        obtain ⟨o1, o2⟩ := order_full h r2 hlen
        (repeat' ((conv => whnf); first | (refine Giv.mk fun _ => ?_) | (refine Alt.l (Need.mk ?h ?_); case h => omega) | (refine Alt.r (Need.mk ?h ?_); case h => omega) | (refine Need.mk ?h ?_; case h => first | omega | (intro _; rfl) | assumption | (simp <;> omega)) | refine Ix.zero ?_ | refine Ix.one ?_ | refine Ix.two ?_ | refine Ix.nat ?_ | refine Ix.add ?_ | (apply Go.Eng.Pin.mk; apply Exists.intro) | apply Go.Eng.Pinned.mk rfl rfl | (apply Go.Eng.PinH.mk; apply Exists.intro; apply Exists.intro) | exact Go.Eng.Fin0.mk | refine Go.Eng.Chk.mk ?_ ?_ | refine Own.l ?_ | (refine Br.mkY ?h ?_; case h => first | omega | assumption) | (refine Br.mkN ?h ?_; case h => first | omega | assumption | exact not_not_intro (by assumption)) | fail))
        (conv => whnf)
        refine ⟨?_, ⟨rfl, o1.symm⟩, trivial⟩
        (conv => whnf)
        exact o2.symm
def c33 : Con := mkCon 33 true fun args K => match args with | [.val (.int .i64 n), .seq (.pair (.int .i64) (.int .i64)) l] => K (.tup [Ps (orderRes n l), I (orderErr n l)]) | _ => False
theorem k33 : ConOK Try.prog c33 := by
  refine conOK_of rfl (enters_of Try.func33 (by kernel_rfl) rfl) ?_
  intro args K h
  simp only [c33] at h
  split at h
  · rename_i n l; exact ⟨_, h, tri_of_body (Γ := [c62, c63]) (by simp [k62, k63]) Try.func33 (by simp [Try.ntmps33]) rfl (b33 n l)⟩
  · exact h.elim
/-! ### The reference's Check -/
theorem wf_doAt {on : List (List Int)} {rs : List Bool} {n : Int} (hn : 0 ≤ n) {S : List (Int × Int)} (hc : chkE n S = 0) {i : Nat} (hi : i ≤ S.length) (h : (doAt on rs n S i).err = false) : WOk (doAt on rs n S i).st ∧ WOk (doAt on rs n S i).pr ∧ ((doAt on rs n S i).st.length : Int) = (n + 63) / 64 ∧ ((doAt on rs n S i).pr.length : Int) = (n + 63) / 64 ∧ memsTo (doAt on rs n S i).st (64 * (doAt on rs n S i).st.length) = memL n fun j => decide (hasW (doAt on rs n S i).st j) := by
  obtain ⟨e1, e2⟩ := doAt_wF i hi h
  obtain ⟨l1, l2, o1, o2, s1, s2, b1, b2⟩ := wf_take hn (chkE_ok hn hc) i hi
  rw [e1, e2]
  refine ⟨o1, o2, l1, l2, ?_⟩
  exact memsTo_eq hn l1 (fun j => decide_eq_true_iff.symm) fun j hj => b1 j ((s1 j).1 (of_decide_eq_true hj))
theorem b35 (n : Int) (l S : List (Int × Int)) : body Try.prog [c58, c62, c63] { asks := [(0, []), (3, [])] } true Try.f35 [I n, Ps l, Ps S] (I (checkE n l S)) := by
  (repeat' ((conv => whnf); first | (refine Giv.mk fun _ => ?_) | (refine Alt.l (Need.mk ?h ?_); case h => omega) | (refine Alt.r (Need.mk ?h ?_); case h => omega) | (refine Need.mk ?h ?_; case h => first | omega | (intro _; rfl) | assumption | (simp <;> omega)) | refine Ix.zero ?_ | refine Ix.one ?_ | refine Ix.two ?_ | refine Ix.nat ?_ | refine Ix.add ?_ | (apply Go.Eng.Pin.mk; apply Exists.intro) | apply Go.Eng.Pinned.mk rfl rfl | (apply Go.Eng.PinH.mk; apply Exists.intro; apply Exists.intro) | exact Go.Eng.Fin0.mk | refine Go.Eng.Chk.mk ?_ ?_ | refine Own.l ?_ | fail))
  (refine Br.mk (fun _ => ?_) (fun _ => ?_))
  · rename_i h
    (repeat' ((conv => whnf); first | (refine Giv.mk fun _ => ?_) | (refine Alt.l (Need.mk ?h ?_); case h => omega) | (refine Alt.r (Need.mk ?h ?_); case h => omega) | (refine Need.mk ?h ?_; case h => first | omega | (intro _; rfl) | assumption | (simp <;> omega)) | refine Ix.zero ?_ | refine Ix.one ?_ | refine Ix.two ?_ | refine Ix.nat ?_ | refine Ix.add ?_ | (apply Go.Eng.Pin.mk; apply Exists.intro) | apply Go.Eng.Pinned.mk rfl rfl | (apply Go.Eng.PinH.mk; apply Exists.intro; apply Exists.intro) | exact Go.Eng.Fin0.mk | refine Go.Eng.Chk.mk ?_ ?_ | refine Own.l ?_ | fail))
    (conv => whnf)
    exact ⟨rfl, by unfold checkE; rw [if_pos h]⟩
  rename_i h
  have h := Classical.not_not.1 h
  have hro := supE_rests h
  obtain ⟨r1, r2, r3, r4⟩ := id hro
  (repeat' ((conv => whnf); first | (refine Giv.mk fun _ => ?_) | (refine Alt.l (Need.mk ?h ?_); case h => omega) | (refine Alt.r (Need.mk ?h ?_); case h => omega) | (refine Need.mk ?h ?_; case h => first | omega | (intro _; rfl) | assumption | (simp <;> omega)) | refine Ix.zero ?_ | refine Ix.one ?_ | refine Ix.two ?_ | refine Ix.nat ?_ | refine Ix.add ?_ | (apply Go.Eng.Pin.mk; apply Exists.intro) | apply Go.Eng.Pinned.mk rfl rfl | (apply Go.Eng.PinH.mk; apply Exists.intro; apply Exists.intro) | exact Go.Eng.Fin0.mk | refine Go.Eng.Chk.mk ?_ ?_ | refine Own.l ?_ | fail))
  (refine Br.mk (fun _ => ?_) (fun _ => ?_))
  · rename_i hc
    (repeat' ((conv => whnf); first | (refine Giv.mk fun _ => ?_) | (refine Alt.l (Need.mk ?h ?_); case h => omega) | (refine Alt.r (Need.mk ?h ?_); case h => omega) | (refine Need.mk ?h ?_; case h => first | omega | (intro _; rfl) | assumption | (simp <;> omega)) | refine Ix.zero ?_ | refine Ix.one ?_ | refine Ix.two ?_ | refine Ix.nat ?_ | refine Ix.add ?_ | (apply Go.Eng.Pin.mk; apply Exists.intro) | apply Go.Eng.Pinned.mk rfl rfl | (apply Go.Eng.PinH.mk; apply Exists.intro; apply Exists.intro) | exact Go.Eng.Fin0.mk | refine Go.Eng.Chk.mk ?_ ?_ | refine Own.l ?_ | fail))
    (conv => whnf)
    exact ⟨rfl, by unfold checkE; rw [if_neg (fun e => e h), if_pos hc]⟩
  rename_i hc
  have hc := Classical.not_not.1 hc
  have hco := chkE_ok r2 hc
  (repeat' ((conv => whnf); first | (refine Giv.mk fun _ => ?_) | (refine Alt.l (Need.mk ?h ?_); case h => omega) | (refine Alt.r (Need.mk ?h ?_); case h => omega) | (refine Need.mk ?h ?_; case h => first | omega | (intro _; rfl) | assumption | (simp <;> omega)) | refine Ix.zero ?_ | refine Ix.one ?_ | refine Ix.two ?_ | refine Ix.nat ?_ | refine Ix.add ?_ | (apply Go.Eng.Pin.mk; apply Exists.intro) | apply Go.Eng.Pinned.mk rfl rfl | (apply Go.Eng.PinH.mk; apply Exists.intro; apply Exists.intro) | exact Go.Eng.Fin0.mk | refine Go.Eng.Chk.mk ?_ ?_ | refine Own.l ?_ | fail))
  refine Need.mk (show 0 ≤ n ∧ n ≤ n ∧ n ≤ 140737488355328 ∧ n * ((1 : Nat) : Int) ≤ 140737488355328 by omega) ?_
  (repeat' ((conv => whnf); first | (refine Giv.mk fun _ => ?_) | (refine Alt.l (Need.mk ?h ?_); case h => omega) | (refine Alt.r (Need.mk ?h ?_); case h => omega) | (refine Need.mk ?h ?_; case h => first | omega | (intro _; rfl) | assumption | (simp <;> omega)) | refine Ix.zero ?_ | refine Ix.one ?_ | refine Ix.two ?_ | refine Ix.nat ?_ | refine Ix.add ?_ | (apply Go.Eng.Pin.mk; apply Exists.intro) | apply Go.Eng.Pinned.mk rfl rfl | (apply Go.Eng.PinH.mk; apply Exists.intro; apply Exists.intro) | exact Go.Eng.Fin0.mk | refine Go.Eng.Chk.mk ?_ ?_ | refine Own.l ?_ | fail))
  refine Need.mk (show 0 ≤ n ∧ n ≤ n ∧ n ≤ 140737488355328 ∧ n * ((1 : Nat) : Int) ≤ 140737488355328 by omega) ?_
  (repeat' ((conv => whnf); first | (refine Giv.mk fun _ => ?_) | (refine Alt.l (Need.mk ?h ?_); case h => omega) | (refine Alt.r (Need.mk ?h ?_); case h => omega) | (refine Need.mk ?h ?_; case h => first | omega | (intro _; rfl) | assumption | (simp <;> omega)) | refine Ix.zero ?_ | refine Ix.one ?_ | refine Ix.two ?_ | refine Ix.nat ?_ | refine Ix.add ?_ | (apply Go.Eng.Pin.mk; apply Exists.intro) | apply Go.Eng.Pinned.mk rfl rfl | (apply Go.Eng.PinH.mk; apply Exists.intro; apply Exists.intro) | exact Go.Eng.Fin0.mk | refine Go.Eng.Chk.mk ?_ ?_ | refine Own.l ?_ | fail))
  refine Ask.mk ⟨{ X := Nat, pre := fun i => i ≤ S.length ∧ (doAt (onL n l) (restL n l) n S i).err = false, mod := fun i _ => [(10, I i)], heap := fun i _ => [.vec 1 .bool (bitsL n (doAt (onL n l) (restL n l) n S i).st) 4, .vec 1 .bool (bitsL n (doAt (onL n l) (restL n l) n S i).pr) 4], mu := fun i => S.length - i }, rfl, ?_⟩
  (repeat' ((conv => whnf); first | (refine Giv.mk fun _ => ?_) | (refine Alt.l (Need.mk ?h ?_); case h => omega) | (refine Alt.r (Need.mk ?h ?_); case h => omega) | (refine Need.mk ?h ?_; case h => first | omega | (intro _; rfl) | assumption | (simp <;> omega)) | refine Ix.zero ?_ | refine Ix.one ?_ | refine Ix.two ?_ | refine Ix.nat ?_ | refine Ix.add ?_ | (apply Go.Eng.Pin.mk; apply Exists.intro) | apply Go.Eng.Pinned.mk rfl rfl | (apply Go.Eng.PinH.mk; apply Exists.intro; apply Exists.intro) | exact Go.Eng.Fin0.mk | refine Go.Eng.Chk.mk ?_ ?_ | refine Own.l ?_ | fail))
  refine ⟨⟨(0 : Nat), ⟨Nat.zero_le _, rfl⟩, ?_⟩, fun (i : Nat) hi => ?_⟩
  · (repeat' (first | exact trivial | rfl | exact Nat.one_pos | (refine And.intro ?_ ?_) | omega | ((conv => whnf); (refine And.intro ?_ ?_)) | ((conv => whnf); exact trivial)))
    · exact (bitsL_nil n).symm
    · exact (bitsL_nil n).symm
  · obtain ⟨hi, he⟩ := hi
    have hst := doAt_succ (onL n l) (restL n l) n S i
    unfold doStep at hst
    rw [if_neg (by rw [he]; simp)] at hst
    obtain ⟨o1, o2, l1, l2, hmm⟩ := wf_doAt r2 hc hi he
    have hb1 := bitsL_len n (doAt (onL n l) (restL n l) n S i).st
    have hb2 := bitsL_len n (doAt (onL n l) (restL n l) n S i).pr
    (repeat' ((conv => whnf); first | (refine Giv.mk fun _ => ?_) | (refine Alt.l (Need.mk ?h ?_); case h => omega) | (refine Alt.r (Need.mk ?h ?_); case h => omega) | (refine Need.mk ?h ?_; case h => first | omega | (intro _; rfl) | assumption | (simp <;> omega)) | refine Ix.zero ?_ | refine Ix.one ?_ | refine Ix.two ?_ | refine Ix.nat ?_ | refine Ix.add ?_ | (apply Go.Eng.Pin.mk; apply Exists.intro) | apply Go.Eng.Pinned.mk rfl rfl | (apply Go.Eng.PinH.mk; apply Exists.intro; apply Exists.intro) | exact Go.Eng.Fin0.mk | refine Go.Eng.Chk.mk ?_ ?_ | refine Own.l ?_ | fail))
    (refine Br.mk (fun _ => ?_) (fun _ => ?_))
    · have hlt : i < S.length := by omega
      obtain ⟨q1, q2, q3⟩ := hco i hlt
      have bad : ¬ canDo (onL n l) (restL n l) (doAt (onL n l) (restL n l) n S i) (S.getD i (0, 0)) → 26 = checkE n l S := fun hb => checkE_bad h hc hlt (by rw [hst, if_pos hb])
      have arr : ∀ {a b : List Int}, doAt (onL n l) (restL n l) n S (i + 1) = ⟨a, b, false⟩ → i + 1 ≤ S.length ∧ (doAt (onL n l) (restL n l) n S (i + 1)).err = false := fun e => ⟨hlt, by rw [e]⟩
      have hri := ready_iff hro (doAt (onL n l) (restL n l) n S i).st (m := (S.getD i (0, 0)).2) ⟨q2, q3⟩
      have g1 := bitsL_get n (doAt (onL n l) (restL n l) n S i).st (S.getD i (0, 0)).2.toNat (by omega)
      have g2 := bitsL_get n (doAt (onL n l) (restL n l) n S i).pr (S.getD i (0, 0)).2.toNat (by omega)
      rw [Int.toNat_of_nonneg q2] at g1 g2
      have hra := rest_any (l := l) ⟨q2, q3⟩
      have hs1 := bitsL_put o1 l1 ⟨q2, q3⟩
      have hs2 := bitsL_put o2 l2 ⟨q2, q3⟩
      have hs3 := bitsL_take o2 l2 ⟨q2, q3⟩
      have hpre : ∀ q, q < l.length → (l.getD q (0, 0)).2 < (bitsL n (doAt (onL n l) (restL n l) n S i).st).length := fun q hq => by
        have := r4 q hq
        omega
      (repeat' ((conv => whnf); first | (refine Giv.mk fun _ => ?_) | (refine Alt.l (Need.mk ?h ?_); case h => omega) | (refine Alt.r (Need.mk ?h ?_); case h => omega) | (refine Need.mk ?h ?_; case h => first | omega | (intro _; rfl) | assumption | (simp <;> omega)) | refine Ix.zero ?_ | refine Ix.one ?_ | refine Ix.two ?_ | refine Ix.nat ?_ | refine Ix.add ?_ | (apply Go.Eng.Pin.mk; apply Exists.intro) | apply Go.Eng.Pinned.mk rfl rfl | (apply Go.Eng.PinH.mk; apply Exists.intro; apply Exists.intro) | exact Go.Eng.Fin0.mk | refine Go.Eng.Chk.mk ?_ ?_ | refine Own.l ?_ | (refine Br.mkY ?h ?_; case h => first | omega | assumption) | (refine Br.mkN ?h ?_; case h => first | omega | assumption | exact not_not_intro (by assumption)) | fail))
      (refine Br.mk (fun _ => ?_) (fun _ => ?_))
      · rename_i k1
        have hcd : canDo (onL n l) (restL n l) (doAt (onL n l) (restL n l) n S i) (S.getD i (0, 0)) ↔ (¬ hasW (doAt (onL n l) (restL n l) n S i).st (S.getD i (0, 0)).2 ∧ allF l (bitsL n (doAt (onL n l) (restL n l) n S i).st) (S.getD i (0, 0)).2 l.length = true) ∧ (l.any (upP (S.getD i (0, 0)).2) = true ∨ hasW (doAt (onL n l) (restL n l) n S i).pr (S.getD i (0, 0)).2) := by unfold canDo; rw [if_pos k1, hri, hra]
        (repeat' ((conv => whnf); first | (refine Giv.mk fun _ => ?_) | (refine Alt.l (Need.mk ?h ?_); case h => omega) | (refine Alt.r (Need.mk ?h ?_); case h => omega) | (refine Need.mk ?h ?_; case h => first | omega | (intro _; rfl) | assumption | (simp <;> omega)) | refine Ix.zero ?_ | refine Ix.one ?_ | refine Ix.two ?_ | refine Ix.nat ?_ | refine Ix.add ?_ | (apply Go.Eng.Pin.mk; apply Exists.intro) | apply Go.Eng.Pinned.mk rfl rfl | (apply Go.Eng.PinH.mk; apply Exists.intro; apply Exists.intro) | exact Go.Eng.Fin0.mk | refine Go.Eng.Chk.mk ?_ ?_ | refine Own.l ?_ | (refine Br.mkY ?h ?_; case h => first | omega | assumption) | (refine Br.mkN ?h ?_; case h => first | omega | assumption | exact not_not_intro (by assumption)) | fail))
        refine ix_at (S.getD i (0, 0)).2.toNat (by omega) ?_
        (repeat' ((conv => whnf); first | (refine Giv.mk fun _ => ?_) | (refine Alt.l (Need.mk ?h ?_); case h => omega) | (refine Alt.r (Need.mk ?h ?_); case h => omega) | (refine Need.mk ?h ?_; case h => first | omega | (intro _; rfl) | assumption | (simp <;> omega)) | refine Ix.zero ?_ | refine Ix.one ?_ | refine Ix.two ?_ | refine Ix.nat ?_ | refine Ix.add ?_ | (apply Go.Eng.Pin.mk; apply Exists.intro) | apply Go.Eng.Pinned.mk rfl rfl | (apply Go.Eng.PinH.mk; apply Exists.intro; apply Exists.intro) | exact Go.Eng.Fin0.mk | refine Go.Eng.Chk.mk ?_ ?_ | refine Own.l ?_ | (refine Br.mkY ?h ?_; case h => first | omega | assumption) | (refine Br.mkN ?h ?_; case h => first | omega | assumption | exact not_not_intro (by assumption)) | fail))
        (refine Br.mk (fun _ => ?_) (fun _ => ?_))
        · rename_i m1
          rw [g1, decide_eq_true_iff] at m1
          (repeat' ((conv => whnf); first | (refine Giv.mk fun _ => ?_) | (refine Alt.l (Need.mk ?h ?_); case h => omega) | (refine Alt.r (Need.mk ?h ?_); case h => omega) | (refine Need.mk ?h ?_; case h => first | omega | (intro _; rfl) | assumption | (simp <;> omega)) | refine Ix.zero ?_ | refine Ix.one ?_ | refine Ix.two ?_ | refine Ix.nat ?_ | refine Ix.add ?_ | (apply Go.Eng.Pin.mk; apply Exists.intro) | apply Go.Eng.Pinned.mk rfl rfl | (apply Go.Eng.PinH.mk; apply Exists.intro; apply Exists.intro) | exact Go.Eng.Fin0.mk | refine Go.Eng.Chk.mk ?_ ?_ | refine Own.l ?_ | (refine Br.mkY ?h ?_; case h => first | omega | assumption) | (refine Br.mkN ?h ?_; case h => first | omega | assumption | exact not_not_intro (by assumption)) | fail))
          (refine Br.mk (fun _ => ?_) (fun _ => ?_))
          · rename_i m2
            (repeat' ((conv => whnf); first | (refine Giv.mk fun _ => ?_) | (refine Alt.l (Need.mk ?h ?_); case h => omega) | (refine Alt.r (Need.mk ?h ?_); case h => omega) | (refine Need.mk ?h ?_; case h => first | omega | (intro _; rfl) | assumption | (simp <;> omega)) | refine Ix.zero ?_ | refine Ix.one ?_ | refine Ix.two ?_ | refine Ix.nat ?_ | refine Ix.add ?_ | (apply Go.Eng.Pin.mk; apply Exists.intro) | apply Go.Eng.Pinned.mk rfl rfl | (apply Go.Eng.PinH.mk; apply Exists.intro; apply Exists.intro) | exact Go.Eng.Fin0.mk | refine Go.Eng.Chk.mk ?_ ?_ | refine Own.l ?_ | (refine Br.mkY ?h ?_; case h => first | omega | assumption) | (refine Br.mkN ?h ?_; case h => first | omega | assumption | exact not_not_intro (by assumption)) | fail))
            (refine Br.mk (fun _ => ?_) (fun _ => ?_))
            · rename_i m3
              have e := hst
              rw [if_neg (Classical.not_not.2 (hcd.2 ⟨⟨m1, m2⟩, .inl m3⟩)), if_pos k1] at e
              (repeat' ((conv => whnf); first | (refine Giv.mk fun _ => ?_) | (refine Alt.l (Need.mk ?h ?_); case h => omega) | (refine Alt.r (Need.mk ?h ?_); case h => omega) | (refine Need.mk ?h ?_; case h => first | omega | (intro _; rfl) | assumption | (simp <;> omega)) | refine Ix.zero ?_ | refine Ix.one ?_ | refine Ix.two ?_ | refine Ix.nat ?_ | refine Ix.add ?_ | (apply Go.Eng.Pin.mk; apply Exists.intro) | apply Go.Eng.Pinned.mk rfl rfl | (apply Go.Eng.PinH.mk; apply Exists.intro; apply Exists.intro) | exact Go.Eng.Fin0.mk | refine Go.Eng.Chk.mk ?_ ?_ | refine Own.l ?_ | (refine Br.mkY ?h ?_; case h => first | omega | assumption) | (refine Br.mkN ?h ?_; case h => first | omega | assumption | exact not_not_intro (by assumption)) | fail))
              refine ix_at (S.getD i (0, 0)).2.toNat (by omega) ?_
              (repeat' ((conv => whnf); first | (refine Giv.mk fun _ => ?_) | (refine Alt.l (Need.mk ?h ?_); case h => omega) | (refine Alt.r (Need.mk ?h ?_); case h => omega) | (refine Need.mk ?h ?_; case h => first | omega | (intro _; rfl) | assumption | (simp <;> omega)) | refine Ix.zero ?_ | refine Ix.one ?_ | refine Ix.two ?_ | refine Ix.nat ?_ | refine Ix.add ?_ | (apply Go.Eng.Pin.mk; apply Exists.intro) | apply Go.Eng.Pinned.mk rfl rfl | (apply Go.Eng.PinH.mk; apply Exists.intro; apply Exists.intro) | exact Go.Eng.Fin0.mk | refine Go.Eng.Chk.mk ?_ ?_ | refine Own.l ?_ | (refine Br.mkY ?h ?_; case h => first | omega | assumption) | (refine Br.mkN ?h ?_; case h => first | omega | assumption | exact not_not_intro (by assumption)) | fail))
              refine ⟨(i + 1 : Nat), by show S.length - (i + 1) < S.length - i; omega, arr e, ?_⟩
              (repeat' (first | exact trivial | rfl | exact Nat.one_pos | (refine And.intro ?_ ?_) | omega | ((conv => whnf); (refine And.intro ?_ ?_)) | ((conv => whnf); exact trivial)))
              · exact hs1.trans (congrArg (bitsL n) (congrArg CS.st e).symm)
              · exact congrArg (bitsL n) (congrArg CS.pr e).symm
            · rename_i m3
              (repeat' ((conv => whnf); first | (refine Giv.mk fun _ => ?_) | (refine Alt.l (Need.mk ?h ?_); case h => omega) | (refine Alt.r (Need.mk ?h ?_); case h => omega) | (refine Need.mk ?h ?_; case h => first | omega | (intro _; rfl) | assumption | (simp <;> omega)) | refine Ix.zero ?_ | refine Ix.one ?_ | refine Ix.two ?_ | refine Ix.nat ?_ | refine Ix.add ?_ | (apply Go.Eng.Pin.mk; apply Exists.intro) | apply Go.Eng.Pinned.mk rfl rfl | (apply Go.Eng.PinH.mk; apply Exists.intro; apply Exists.intro) | exact Go.Eng.Fin0.mk | refine Go.Eng.Chk.mk ?_ ?_ | refine Own.l ?_ | (refine Br.mkY ?h ?_; case h => first | omega | assumption) | (refine Br.mkN ?h ?_; case h => first | omega | assumption | exact not_not_intro (by assumption)) | fail))
              refine ix_at (S.getD i (0, 0)).2.toNat (by omega) ?_
              (repeat' ((conv => whnf); first | (refine Giv.mk fun _ => ?_) | (refine Alt.l (Need.mk ?h ?_); case h => omega) | (refine Alt.r (Need.mk ?h ?_); case h => omega) | (refine Need.mk ?h ?_; case h => first | omega | (intro _; rfl) | assumption | (simp <;> omega)) | refine Ix.zero ?_ | refine Ix.one ?_ | refine Ix.two ?_ | refine Ix.nat ?_ | refine Ix.add ?_ | (apply Go.Eng.Pin.mk; apply Exists.intro) | apply Go.Eng.Pinned.mk rfl rfl | (apply Go.Eng.PinH.mk; apply Exists.intro; apply Exists.intro) | exact Go.Eng.Fin0.mk | refine Go.Eng.Chk.mk ?_ ?_ | refine Own.l ?_ | (refine Br.mkY ?h ?_; case h => first | omega | assumption) | (refine Br.mkN ?h ?_; case h => first | omega | assumption | exact not_not_intro (by assumption)) | fail))
              refine ix_at (S.getD i (0, 0)).2.toNat (by omega) ?_
              (repeat' ((conv => whnf); first | (refine Giv.mk fun _ => ?_) | (refine Alt.l (Need.mk ?h ?_); case h => omega) | (refine Alt.r (Need.mk ?h ?_); case h => omega) | (refine Need.mk ?h ?_; case h => first | omega | (intro _; rfl) | assumption | (simp <;> omega)) | refine Ix.zero ?_ | refine Ix.one ?_ | refine Ix.two ?_ | refine Ix.nat ?_ | refine Ix.add ?_ | (apply Go.Eng.Pin.mk; apply Exists.intro) | apply Go.Eng.Pinned.mk rfl rfl | (apply Go.Eng.PinH.mk; apply Exists.intro; apply Exists.intro) | exact Go.Eng.Fin0.mk | refine Go.Eng.Chk.mk ?_ ?_ | refine Own.l ?_ | (refine Br.mkY ?h ?_; case h => first | omega | assumption) | (refine Br.mkN ?h ?_; case h => first | omega | assumption | exact not_not_intro (by assumption)) | fail))
              (refine Br.mk (fun _ => ?_) (fun _ => ?_))
              · rename_i m4
                rw [g2, decide_eq_true_iff] at m4
                exact ⟨rfl, bad fun e => m4 ((hcd.1 e).2.resolve_left m3)⟩
              · rename_i m4
                rw [g2, decide_eq_true_iff, Classical.not_not] at m4
                have e := hst
                rw [if_neg (Classical.not_not.2 (hcd.2 ⟨⟨m1, m2⟩, .inr m4⟩)), if_pos k1] at e
                (repeat' ((conv => whnf); first | (refine Giv.mk fun _ => ?_) | (refine Alt.l (Need.mk ?h ?_); case h => omega) | (refine Alt.r (Need.mk ?h ?_); case h => omega) | (refine Need.mk ?h ?_; case h => first | omega | (intro _; rfl) | assumption | (simp <;> omega)) | refine Ix.zero ?_ | refine Ix.one ?_ | refine Ix.two ?_ | refine Ix.nat ?_ | refine Ix.add ?_ | (apply Go.Eng.Pin.mk; apply Exists.intro) | apply Go.Eng.Pinned.mk rfl rfl | (apply Go.Eng.PinH.mk; apply Exists.intro; apply Exists.intro) | exact Go.Eng.Fin0.mk | refine Go.Eng.Chk.mk ?_ ?_ | refine Own.l ?_ | (refine Br.mkY ?h ?_; case h => first | omega | assumption) | (refine Br.mkN ?h ?_; case h => first | omega | assumption | exact not_not_intro (by assumption)) | fail))
                refine ⟨(i + 1 : Nat), by show S.length - (i + 1) < S.length - i; omega, arr e, ?_⟩
                (repeat' (first | exact trivial | rfl | exact Nat.one_pos | (refine And.intro ?_ ?_) | omega | ((conv => whnf); (refine And.intro ?_ ?_)) | ((conv => whnf); exact trivial)))
                · exact hs1.trans (congrArg (bitsL n) (congrArg CS.st e).symm)
                · exact congrArg (bitsL n) (congrArg CS.pr e).symm
          · rename_i m2
            (repeat' ((conv => whnf); first | (refine Giv.mk fun _ => ?_) | (refine Alt.l (Need.mk ?h ?_); case h => omega) | (refine Alt.r (Need.mk ?h ?_); case h => omega) | (refine Need.mk ?h ?_; case h => first | omega | (intro _; rfl) | assumption | (simp <;> omega)) | refine Ix.zero ?_ | refine Ix.one ?_ | refine Ix.two ?_ | refine Ix.nat ?_ | refine Ix.add ?_ | (apply Go.Eng.Pin.mk; apply Exists.intro) | apply Go.Eng.Pinned.mk rfl rfl | (apply Go.Eng.PinH.mk; apply Exists.intro; apply Exists.intro) | exact Go.Eng.Fin0.mk | refine Go.Eng.Chk.mk ?_ ?_ | refine Own.l ?_ | (refine Br.mkY ?h ?_; case h => first | omega | assumption) | (refine Br.mkN ?h ?_; case h => first | omega | assumption | exact not_not_intro (by assumption)) | fail))
            refine ix_at (S.getD i (0, 0)).2.toNat (by omega) ?_
            (repeat' ((conv => whnf); first | (refine Giv.mk fun _ => ?_) | (refine Alt.l (Need.mk ?h ?_); case h => omega) | (refine Alt.r (Need.mk ?h ?_); case h => omega) | (refine Need.mk ?h ?_; case h => first | omega | (intro _; rfl) | assumption | (simp <;> omega)) | refine Ix.zero ?_ | refine Ix.one ?_ | refine Ix.two ?_ | refine Ix.nat ?_ | refine Ix.add ?_ | (apply Go.Eng.Pin.mk; apply Exists.intro) | apply Go.Eng.Pinned.mk rfl rfl | (apply Go.Eng.PinH.mk; apply Exists.intro; apply Exists.intro) | exact Go.Eng.Fin0.mk | refine Go.Eng.Chk.mk ?_ ?_ | refine Own.l ?_ | (refine Br.mkY ?h ?_; case h => first | omega | assumption) | (refine Br.mkN ?h ?_; case h => first | omega | assumption | exact not_not_intro (by assumption)) | fail))
            exact ⟨rfl, bad fun e => m2 (hcd.1 e).1.2⟩
        · rename_i m1
          rw [g1, decide_eq_true_iff] at m1
          (repeat' ((conv => whnf); first | (refine Giv.mk fun _ => ?_) | (refine Alt.l (Need.mk ?h ?_); case h => omega) | (refine Alt.r (Need.mk ?h ?_); case h => omega) | (refine Need.mk ?h ?_; case h => first | omega | (intro _; rfl) | assumption | (simp <;> omega)) | refine Ix.zero ?_ | refine Ix.one ?_ | refine Ix.two ?_ | refine Ix.nat ?_ | refine Ix.add ?_ | (apply Go.Eng.Pin.mk; apply Exists.intro) | apply Go.Eng.Pinned.mk rfl rfl | (apply Go.Eng.PinH.mk; apply Exists.intro; apply Exists.intro) | exact Go.Eng.Fin0.mk | refine Go.Eng.Chk.mk ?_ ?_ | refine Own.l ?_ | (refine Br.mkY ?h ?_; case h => first | omega | assumption) | (refine Br.mkN ?h ?_; case h => first | omega | assumption | exact not_not_intro (by assumption)) | fail))
          refine ix_at (S.getD i (0, 0)).2.toNat (by omega) ?_
          (repeat' ((conv => whnf); first | (refine Giv.mk fun _ => ?_) | (refine Alt.l (Need.mk ?h ?_); case h => omega) | (refine Alt.r (Need.mk ?h ?_); case h => omega) | (refine Need.mk ?h ?_; case h => first | omega | (intro _; rfl) | assumption | (simp <;> omega)) | refine Ix.zero ?_ | refine Ix.one ?_ | refine Ix.two ?_ | refine Ix.nat ?_ | refine Ix.add ?_ | (apply Go.Eng.Pin.mk; apply Exists.intro) | apply Go.Eng.Pinned.mk rfl rfl | (apply Go.Eng.PinH.mk; apply Exists.intro; apply Exists.intro) | exact Go.Eng.Fin0.mk | refine Go.Eng.Chk.mk ?_ ?_ | refine Own.l ?_ | (refine Br.mkY ?h ?_; case h => first | omega | assumption) | (refine Br.mkN ?h ?_; case h => first | omega | assumption | exact not_not_intro (by assumption)) | fail))
          exact ⟨rfl, bad fun e => m1 (hcd.1 e).1.1⟩
      · rename_i k1
        (repeat' ((conv => whnf); first | (refine Giv.mk fun _ => ?_) | (refine Alt.l (Need.mk ?h ?_); case h => omega) | (refine Alt.r (Need.mk ?h ?_); case h => omega) | (refine Need.mk ?h ?_; case h => first | omega | (intro _; rfl) | assumption | (simp <;> omega)) | refine Ix.zero ?_ | refine Ix.one ?_ | refine Ix.two ?_ | refine Ix.nat ?_ | refine Ix.add ?_ | (apply Go.Eng.Pin.mk; apply Exists.intro) | apply Go.Eng.Pinned.mk rfl rfl | (apply Go.Eng.PinH.mk; apply Exists.intro; apply Exists.intro) | exact Go.Eng.Fin0.mk | refine Go.Eng.Chk.mk ?_ ?_ | refine Own.l ?_ | (refine Br.mkY ?h ?_; case h => first | omega | assumption) | (refine Br.mkN ?h ?_; case h => first | omega | assumption | exact not_not_intro (by assumption)) | fail))
        (refine Br.mk (fun _ => ?_) (fun _ => ?_))
        · rename_i k2
          have hcd : canDo (onL n l) (restL n l) (doAt (onL n l) (restL n l) n S i) (S.getD i (0, 0)) ↔ ¬ hasW (doAt (onL n l) (restL n l) n S i).pr (S.getD i (0, 0)).2 := by unfold canDo; rw [if_neg k1, if_pos k2]
          (repeat' ((conv => whnf); first | (refine Giv.mk fun _ => ?_) | (refine Alt.l (Need.mk ?h ?_); case h => omega) | (refine Alt.r (Need.mk ?h ?_); case h => omega) | (refine Need.mk ?h ?_; case h => first | omega | (intro _; rfl) | assumption | (simp <;> omega)) | refine Ix.zero ?_ | refine Ix.one ?_ | refine Ix.two ?_ | refine Ix.nat ?_ | refine Ix.add ?_ | (apply Go.Eng.Pin.mk; apply Exists.intro) | apply Go.Eng.Pinned.mk rfl rfl | (apply Go.Eng.PinH.mk; apply Exists.intro; apply Exists.intro) | exact Go.Eng.Fin0.mk | refine Go.Eng.Chk.mk ?_ ?_ | refine Own.l ?_ | (refine Br.mkY ?h ?_; case h => first | omega | assumption) | (refine Br.mkN ?h ?_; case h => first | omega | assumption | exact not_not_intro (by assumption)) | fail))
          refine ix_at (S.getD i (0, 0)).2.toNat (by omega) ?_
          (repeat' ((conv => whnf); first | (refine Giv.mk fun _ => ?_) | (refine Alt.l (Need.mk ?h ?_); case h => omega) | (refine Alt.r (Need.mk ?h ?_); case h => omega) | (refine Need.mk ?h ?_; case h => first | omega | (intro _; rfl) | assumption | (simp <;> omega)) | refine Ix.zero ?_ | refine Ix.one ?_ | refine Ix.two ?_ | refine Ix.nat ?_ | refine Ix.add ?_ | (apply Go.Eng.Pin.mk; apply Exists.intro) | apply Go.Eng.Pinned.mk rfl rfl | (apply Go.Eng.PinH.mk; apply Exists.intro; apply Exists.intro) | exact Go.Eng.Fin0.mk | refine Go.Eng.Chk.mk ?_ ?_ | refine Own.l ?_ | (refine Br.mkY ?h ?_; case h => first | omega | assumption) | (refine Br.mkN ?h ?_; case h => first | omega | assumption | exact not_not_intro (by assumption)) | fail))
          refine ix_at (S.getD i (0, 0)).2.toNat (by omega) ?_
          (repeat' ((conv => whnf); first | (refine Giv.mk fun _ => ?_) | (refine Alt.l (Need.mk ?h ?_); case h => omega) | (refine Alt.r (Need.mk ?h ?_); case h => omega) | (refine Need.mk ?h ?_; case h => first | omega | (intro _; rfl) | assumption | (simp <;> omega)) | refine Ix.zero ?_ | refine Ix.one ?_ | refine Ix.two ?_ | refine Ix.nat ?_ | refine Ix.add ?_ | (apply Go.Eng.Pin.mk; apply Exists.intro) | apply Go.Eng.Pinned.mk rfl rfl | (apply Go.Eng.PinH.mk; apply Exists.intro; apply Exists.intro) | exact Go.Eng.Fin0.mk | refine Go.Eng.Chk.mk ?_ ?_ | refine Own.l ?_ | (refine Br.mkY ?h ?_; case h => first | omega | assumption) | (refine Br.mkN ?h ?_; case h => first | omega | assumption | exact not_not_intro (by assumption)) | fail))
          (refine Br.mk (fun _ => ?_) (fun _ => ?_))
          · rename_i m1
            rw [g2, decide_eq_true_iff] at m1
            exact ⟨rfl, bad fun e => m1 (hcd.1 e)⟩
          · rename_i m1
            rw [g2, decide_eq_true_iff, Classical.not_not] at m1
            have e := hst
            rw [if_neg (Classical.not_not.2 (hcd.2 m1)), if_neg k1, if_pos k2] at e
            (repeat' ((conv => whnf); first | (refine Giv.mk fun _ => ?_) | (refine Alt.l (Need.mk ?h ?_); case h => omega) | (refine Alt.r (Need.mk ?h ?_); case h => omega) | (refine Need.mk ?h ?_; case h => first | omega | (intro _; rfl) | assumption | (simp <;> omega)) | refine Ix.zero ?_ | refine Ix.one ?_ | refine Ix.two ?_ | refine Ix.nat ?_ | refine Ix.add ?_ | (apply Go.Eng.Pin.mk; apply Exists.intro) | apply Go.Eng.Pinned.mk rfl rfl | (apply Go.Eng.PinH.mk; apply Exists.intro; apply Exists.intro) | exact Go.Eng.Fin0.mk | refine Go.Eng.Chk.mk ?_ ?_ | refine Own.l ?_ | (refine Br.mkY ?h ?_; case h => first | omega | assumption) | (refine Br.mkN ?h ?_; case h => first | omega | assumption | exact not_not_intro (by assumption)) | fail))
            refine ⟨(i + 1 : Nat), by show S.length - (i + 1) < S.length - i; omega, arr e, ?_⟩
            (repeat' (first | exact trivial | rfl | exact Nat.one_pos | (refine And.intro ?_ ?_) | omega | ((conv => whnf); (refine And.intro ?_ ?_)) | ((conv => whnf); exact trivial)))
            · exact congrArg (bitsL n) (congrArg CS.st e).symm
            · exact hs2.trans (congrArg (bitsL n) (congrArg CS.pr e).symm)
        · rename_i k2
          have hcd : canDo (onL n l) (restL n l) (doAt (onL n l) (restL n l) n S i) (S.getD i (0, 0)) ↔ hasW (doAt (onL n l) (restL n l) n S i).pr (S.getD i (0, 0)).2 ∧ (¬ hasW (doAt (onL n l) (restL n l) n S i).st (S.getD i (0, 0)).2 ∨ l.any (upP (S.getD i (0, 0)).2) = true) := by unfold canDo; rw [if_neg k1, if_neg k2, hra]
          (repeat' ((conv => whnf); first | (refine Giv.mk fun _ => ?_) | (refine Alt.l (Need.mk ?h ?_); case h => omega) | (refine Alt.r (Need.mk ?h ?_); case h => omega) | (refine Need.mk ?h ?_; case h => first | omega | (intro _; rfl) | assumption | (simp <;> omega)) | refine Ix.zero ?_ | refine Ix.one ?_ | refine Ix.two ?_ | refine Ix.nat ?_ | refine Ix.add ?_ | (apply Go.Eng.Pin.mk; apply Exists.intro) | apply Go.Eng.Pinned.mk rfl rfl | (apply Go.Eng.PinH.mk; apply Exists.intro; apply Exists.intro) | exact Go.Eng.Fin0.mk | refine Go.Eng.Chk.mk ?_ ?_ | refine Own.l ?_ | (refine Br.mkY ?h ?_; case h => first | omega | assumption) | (refine Br.mkN ?h ?_; case h => first | omega | assumption | exact not_not_intro (by assumption)) | fail))
          refine ix_at (S.getD i (0, 0)).2.toNat (by omega) ?_
          (repeat' ((conv => whnf); first | (refine Giv.mk fun _ => ?_) | (refine Alt.l (Need.mk ?h ?_); case h => omega) | (refine Alt.r (Need.mk ?h ?_); case h => omega) | (refine Need.mk ?h ?_; case h => first | omega | (intro _; rfl) | assumption | (simp <;> omega)) | refine Ix.zero ?_ | refine Ix.one ?_ | refine Ix.two ?_ | refine Ix.nat ?_ | refine Ix.add ?_ | (apply Go.Eng.Pin.mk; apply Exists.intro) | apply Go.Eng.Pinned.mk rfl rfl | (apply Go.Eng.PinH.mk; apply Exists.intro; apply Exists.intro) | exact Go.Eng.Fin0.mk | refine Go.Eng.Chk.mk ?_ ?_ | refine Own.l ?_ | (refine Br.mkY ?h ?_; case h => first | omega | assumption) | (refine Br.mkN ?h ?_; case h => first | omega | assumption | exact not_not_intro (by assumption)) | fail))
          (refine Br.mk (fun _ => ?_) (fun _ => ?_))
          · rename_i m1
            rw [g2, decide_eq_true_iff] at m1
            (repeat' ((conv => whnf); first | (refine Giv.mk fun _ => ?_) | (refine Alt.l (Need.mk ?h ?_); case h => omega) | (refine Alt.r (Need.mk ?h ?_); case h => omega) | (refine Need.mk ?h ?_; case h => first | omega | (intro _; rfl) | assumption | (simp <;> omega)) | refine Ix.zero ?_ | refine Ix.one ?_ | refine Ix.two ?_ | refine Ix.nat ?_ | refine Ix.add ?_ | (apply Go.Eng.Pin.mk; apply Exists.intro) | apply Go.Eng.Pinned.mk rfl rfl | (apply Go.Eng.PinH.mk; apply Exists.intro; apply Exists.intro) | exact Go.Eng.Fin0.mk | refine Go.Eng.Chk.mk ?_ ?_ | refine Own.l ?_ | (refine Br.mkY ?h ?_; case h => first | omega | assumption) | (refine Br.mkN ?h ?_; case h => first | omega | assumption | exact not_not_intro (by assumption)) | fail))
            refine ix_at (S.getD i (0, 0)).2.toNat (by omega) ?_
            (repeat' ((conv => whnf); first | (refine Giv.mk fun _ => ?_) | (refine Alt.l (Need.mk ?h ?_); case h => omega) | (refine Alt.r (Need.mk ?h ?_); case h => omega) | (refine Need.mk ?h ?_; case h => first | omega | (intro _; rfl) | assumption | (simp <;> omega)) | refine Ix.zero ?_ | refine Ix.one ?_ | refine Ix.two ?_ | refine Ix.nat ?_ | refine Ix.add ?_ | (apply Go.Eng.Pin.mk; apply Exists.intro) | apply Go.Eng.Pinned.mk rfl rfl | (apply Go.Eng.PinH.mk; apply Exists.intro; apply Exists.intro) | exact Go.Eng.Fin0.mk | refine Go.Eng.Chk.mk ?_ ?_ | refine Own.l ?_ | (refine Br.mkY ?h ?_; case h => first | omega | assumption) | (refine Br.mkN ?h ?_; case h => first | omega | assumption | exact not_not_intro (by assumption)) | fail))
            (refine Br.mk (fun _ => ?_) (fun _ => ?_))
            · rename_i m2
              rw [g1, decide_eq_true_iff] at m2
              have e := hst
              rw [if_neg (Classical.not_not.2 (hcd.2 ⟨m1, .inl m2⟩)), if_neg k1, if_neg k2] at e
              (repeat' ((conv => whnf); first | (refine Giv.mk fun _ => ?_) | (refine Alt.l (Need.mk ?h ?_); case h => omega) | (refine Alt.r (Need.mk ?h ?_); case h => omega) | (refine Need.mk ?h ?_; case h => first | omega | (intro _; rfl) | assumption | (simp <;> omega)) | refine Ix.zero ?_ | refine Ix.one ?_ | refine Ix.two ?_ | refine Ix.nat ?_ | refine Ix.add ?_ | (apply Go.Eng.Pin.mk; apply Exists.intro) | apply Go.Eng.Pinned.mk rfl rfl | (apply Go.Eng.PinH.mk; apply Exists.intro; apply Exists.intro) | exact Go.Eng.Fin0.mk | refine Go.Eng.Chk.mk ?_ ?_ | refine Own.l ?_ | (refine Br.mkY ?h ?_; case h => first | omega | assumption) | (refine Br.mkN ?h ?_; case h => first | omega | assumption | exact not_not_intro (by assumption)) | fail))
              refine ix_at (S.getD i (0, 0)).2.toNat (by omega) ?_
              (repeat' ((conv => whnf); first | (refine Giv.mk fun _ => ?_) | (refine Alt.l (Need.mk ?h ?_); case h => omega) | (refine Alt.r (Need.mk ?h ?_); case h => omega) | (refine Need.mk ?h ?_; case h => first | omega | (intro _; rfl) | assumption | (simp <;> omega)) | refine Ix.zero ?_ | refine Ix.one ?_ | refine Ix.two ?_ | refine Ix.nat ?_ | refine Ix.add ?_ | (apply Go.Eng.Pin.mk; apply Exists.intro) | apply Go.Eng.Pinned.mk rfl rfl | (apply Go.Eng.PinH.mk; apply Exists.intro; apply Exists.intro) | exact Go.Eng.Fin0.mk | refine Go.Eng.Chk.mk ?_ ?_ | refine Own.l ?_ | (refine Br.mkY ?h ?_; case h => first | omega | assumption) | (refine Br.mkN ?h ?_; case h => first | omega | assumption | exact not_not_intro (by assumption)) | fail))
              refine ⟨(i + 1 : Nat), by show S.length - (i + 1) < S.length - i; omega, arr e, ?_⟩
              (repeat' (first | exact trivial | rfl | exact Nat.one_pos | (refine And.intro ?_ ?_) | omega | ((conv => whnf); (refine And.intro ?_ ?_)) | ((conv => whnf); exact trivial)))
              · exact congrArg (bitsL n) (congrArg CS.st e).symm
              · exact hs3.trans (congrArg (bitsL n) (congrArg CS.pr e).symm)
            · rename_i m2
              rw [g1, decide_eq_true_iff, Classical.not_not] at m2
              (repeat' ((conv => whnf); first | (refine Giv.mk fun _ => ?_) | (refine Alt.l (Need.mk ?h ?_); case h => omega) | (refine Alt.r (Need.mk ?h ?_); case h => omega) | (refine Need.mk ?h ?_; case h => first | omega | (intro _; rfl) | assumption | (simp <;> omega)) | refine Ix.zero ?_ | refine Ix.one ?_ | refine Ix.two ?_ | refine Ix.nat ?_ | refine Ix.add ?_ | (apply Go.Eng.Pin.mk; apply Exists.intro) | apply Go.Eng.Pinned.mk rfl rfl | (apply Go.Eng.PinH.mk; apply Exists.intro; apply Exists.intro) | exact Go.Eng.Fin0.mk | refine Go.Eng.Chk.mk ?_ ?_ | refine Own.l ?_ | (refine Br.mkY ?h ?_; case h => first | omega | assumption) | (refine Br.mkN ?h ?_; case h => first | omega | assumption | exact not_not_intro (by assumption)) | fail))
              refine ix_at (S.getD i (0, 0)).2.toNat (by omega) ?_
              (repeat' ((conv => whnf); first | (refine Giv.mk fun _ => ?_) | (refine Alt.l (Need.mk ?h ?_); case h => omega) | (refine Alt.r (Need.mk ?h ?_); case h => omega) | (refine Need.mk ?h ?_; case h => first | omega | (intro _; rfl) | assumption | (simp <;> omega)) | refine Ix.zero ?_ | refine Ix.one ?_ | refine Ix.two ?_ | refine Ix.nat ?_ | refine Ix.add ?_ | (apply Go.Eng.Pin.mk; apply Exists.intro) | apply Go.Eng.Pinned.mk rfl rfl | (apply Go.Eng.PinH.mk; apply Exists.intro; apply Exists.intro) | exact Go.Eng.Fin0.mk | refine Go.Eng.Chk.mk ?_ ?_ | refine Own.l ?_ | (refine Br.mkY ?h ?_; case h => first | omega | assumption) | (refine Br.mkN ?h ?_; case h => first | omega | assumption | exact not_not_intro (by assumption)) | fail))
              (refine Br.mk (fun _ => ?_) (fun _ => ?_))
              · rename_i m3
                exact ⟨rfl, bad fun e => m3 ((hcd.1 e).2.resolve_left (fun h => h m2))⟩
              · rename_i m3
                have e := hst
                rw [if_neg (Classical.not_not.2 (hcd.2 ⟨m1, .inr (Classical.not_not.1 m3)⟩)), if_neg k1, if_neg k2] at e
                (repeat' ((conv => whnf); first | (refine Giv.mk fun _ => ?_) | (refine Alt.l (Need.mk ?h ?_); case h => omega) | (refine Alt.r (Need.mk ?h ?_); case h => omega) | (refine Need.mk ?h ?_; case h => first | omega | (intro _; rfl) | assumption | (simp <;> omega)) | refine Ix.zero ?_ | refine Ix.one ?_ | refine Ix.two ?_ | refine Ix.nat ?_ | refine Ix.add ?_ | (apply Go.Eng.Pin.mk; apply Exists.intro) | apply Go.Eng.Pinned.mk rfl rfl | (apply Go.Eng.PinH.mk; apply Exists.intro; apply Exists.intro) | exact Go.Eng.Fin0.mk | refine Go.Eng.Chk.mk ?_ ?_ | refine Own.l ?_ | (refine Br.mkY ?h ?_; case h => first | omega | assumption) | (refine Br.mkN ?h ?_; case h => first | omega | assumption | exact not_not_intro (by assumption)) | fail))
                refine ⟨(i + 1 : Nat), by show S.length - (i + 1) < S.length - i; omega, arr e, ?_⟩
                (repeat' (first | exact trivial | rfl | exact Nat.one_pos | (refine And.intro ?_ ?_) | omega | ((conv => whnf); (refine And.intro ?_ ?_)) | ((conv => whnf); exact trivial)))
                · exact congrArg (bitsL n) (congrArg CS.st e).symm
                · exact hs3.trans (congrArg (bitsL n) (congrArg CS.pr e).symm)
          · rename_i m1
            rw [g2, decide_eq_true_iff] at m1
            (repeat' ((conv => whnf); first | (refine Giv.mk fun _ => ?_) | (refine Alt.l (Need.mk ?h ?_); case h => omega) | (refine Alt.r (Need.mk ?h ?_); case h => omega) | (refine Need.mk ?h ?_; case h => first | omega | (intro _; rfl) | assumption | (simp <;> omega)) | refine Ix.zero ?_ | refine Ix.one ?_ | refine Ix.two ?_ | refine Ix.nat ?_ | refine Ix.add ?_ | (apply Go.Eng.Pin.mk; apply Exists.intro) | apply Go.Eng.Pinned.mk rfl rfl | (apply Go.Eng.PinH.mk; apply Exists.intro; apply Exists.intro) | exact Go.Eng.Fin0.mk | refine Go.Eng.Chk.mk ?_ ?_ | refine Own.l ?_ | (refine Br.mkY ?h ?_; case h => first | omega | assumption) | (refine Br.mkN ?h ?_; case h => first | omega | assumption | exact not_not_intro (by assumption)) | fail))
            refine ix_at (S.getD i (0, 0)).2.toNat (by omega) ?_
            (repeat' ((conv => whnf); first | (refine Giv.mk fun _ => ?_) | (refine Alt.l (Need.mk ?h ?_); case h => omega) | (refine Alt.r (Need.mk ?h ?_); case h => omega) | (refine Need.mk ?h ?_; case h => first | omega | (intro _; rfl) | assumption | (simp <;> omega)) | refine Ix.zero ?_ | refine Ix.one ?_ | refine Ix.two ?_ | refine Ix.nat ?_ | refine Ix.add ?_ | (apply Go.Eng.Pin.mk; apply Exists.intro) | apply Go.Eng.Pinned.mk rfl rfl | (apply Go.Eng.PinH.mk; apply Exists.intro; apply Exists.intro) | exact Go.Eng.Fin0.mk | refine Go.Eng.Chk.mk ?_ ?_ | refine Own.l ?_ | (refine Br.mkY ?h ?_; case h => first | omega | assumption) | (refine Br.mkN ?h ?_; case h => first | omega | assumption | exact not_not_intro (by assumption)) | fail))
            exact ⟨rfl, bad fun e => m1 (hcd.1 e).1⟩
    · have hii : i = S.length := by omega
      subst hii
      have hend : checkE n l S = endE n (doAt (onL n l) (restL n l) n S S.length) := by unfold checkE; rw [if_neg (fun e => e h), if_neg (fun e => e hc)]
      unfold endE at hend
      rw [if_neg (by rw [he]; simp), hmm] at hend
      (repeat' ((conv => whnf); first | (refine Giv.mk fun _ => ?_) | (refine Alt.l (Need.mk ?h ?_); case h => omega) | (refine Alt.r (Need.mk ?h ?_); case h => omega) | (refine Need.mk ?h ?_; case h => first | omega | (intro _; rfl) | assumption | (simp <;> omega)) | refine Ix.zero ?_ | refine Ix.one ?_ | refine Ix.two ?_ | refine Ix.nat ?_ | refine Ix.add ?_ | (apply Go.Eng.Pin.mk; apply Exists.intro) | apply Go.Eng.Pinned.mk rfl rfl | (apply Go.Eng.PinH.mk; apply Exists.intro; apply Exists.intro) | exact Go.Eng.Fin0.mk | refine Go.Eng.Chk.mk ?_ ?_ | refine Own.l ?_ | fail))
      refine Ask.mk ⟨{ X := Nat, pre := fun j => j ≤ n.toNat ∧ ∀ q : Nat, q < j → hasW (doAt (onL n l) (restL n l) n S S.length).st q, mod := fun j _ => [(15, I j)], heap := fun j _ => [.vec 1 .bool (bitsL n (doAt (onL n l) (restL n l) n S S.length).st) 4, .vec 1 .bool (bitsL n (doAt (onL n l) (restL n l) n S S.length).pr) 4], mu := fun j => n.toNat - j }, rfl, ?_⟩
      (repeat' ((conv => whnf); first | (refine Giv.mk fun _ => ?_) | (refine Alt.l (Need.mk ?h ?_); case h => omega) | (refine Alt.r (Need.mk ?h ?_); case h => omega) | (refine Need.mk ?h ?_; case h => first | omega | (intro _; rfl) | assumption | (simp <;> omega)) | refine Ix.zero ?_ | refine Ix.one ?_ | refine Ix.two ?_ | refine Ix.nat ?_ | refine Ix.add ?_ | (apply Go.Eng.Pin.mk; apply Exists.intro) | apply Go.Eng.Pinned.mk rfl rfl | (apply Go.Eng.PinH.mk; apply Exists.intro; apply Exists.intro) | exact Go.Eng.Fin0.mk | refine Go.Eng.Chk.mk ?_ ?_ | refine Own.l ?_ | fail))
      refine ⟨⟨(0 : Nat), ⟨Nat.zero_le _, fun q hq => absurd hq (Nat.not_lt_zero _)⟩, ?_⟩, fun (j : Nat) hj => ?_⟩
      · (repeat' (first | exact trivial | rfl | exact Nat.one_pos | (refine And.intro ?_ ?_) | omega | ((conv => whnf); (refine And.intro ?_ ?_)) | ((conv => whnf); exact trivial)))
      · obtain ⟨hj, hall⟩ := hj
        (repeat' ((conv => whnf); first | (refine Giv.mk fun _ => ?_) | (refine Alt.l (Need.mk ?h ?_); case h => omega) | (refine Alt.r (Need.mk ?h ?_); case h => omega) | (refine Need.mk ?h ?_; case h => first | omega | (intro _; rfl) | assumption | (simp <;> omega)) | refine Ix.zero ?_ | refine Ix.one ?_ | refine Ix.two ?_ | refine Ix.nat ?_ | refine Ix.add ?_ | (apply Go.Eng.Pin.mk; apply Exists.intro) | apply Go.Eng.Pinned.mk rfl rfl | (apply Go.Eng.PinH.mk; apply Exists.intro; apply Exists.intro) | exact Go.Eng.Fin0.mk | refine Go.Eng.Chk.mk ?_ ?_ | refine Own.l ?_ | fail))
        (refine Br.mk (fun _ => ?_) (fun _ => ?_))
        · have g1 := bitsL_get n (doAt (onL n l) (restL n l) n S S.length).st j (by omega)
          (repeat' ((conv => whnf); first | (refine Giv.mk fun _ => ?_) | (refine Alt.l (Need.mk ?h ?_); case h => omega) | (refine Alt.r (Need.mk ?h ?_); case h => omega) | (refine Need.mk ?h ?_; case h => first | omega | (intro _; rfl) | assumption | (simp <;> omega)) | refine Ix.zero ?_ | refine Ix.one ?_ | refine Ix.two ?_ | refine Ix.nat ?_ | refine Ix.add ?_ | (apply Go.Eng.Pin.mk; apply Exists.intro) | apply Go.Eng.Pinned.mk rfl rfl | (apply Go.Eng.PinH.mk; apply Exists.intro; apply Exists.intro) | exact Go.Eng.Fin0.mk | refine Go.Eng.Chk.mk ?_ ?_ | refine Own.l ?_ | (refine Br.mkY ?h ?_; case h => first | omega | assumption) | (refine Br.mkN ?h ?_; case h => first | omega | assumption | exact not_not_intro (by assumption)) | fail))
          (refine Br.mk (fun _ => ?_) (fun _ => ?_))
          · rename_i m1
            rw [g1] at m1
            have hm := memL_less (n := n) (f := fun j => decide (hasW (doAt (onL n l) (restL n l) n S S.length).st j)) (by omega) (Bool.eq_false_iff.2 m1)
            rw [if_pos (by omega)] at hend
            (repeat' ((conv => whnf); first | (refine Giv.mk fun _ => ?_) | (refine Alt.l (Need.mk ?h ?_); case h => omega) | (refine Alt.r (Need.mk ?h ?_); case h => omega) | (refine Need.mk ?h ?_; case h => first | omega | (intro _; rfl) | assumption | (simp <;> omega)) | refine Ix.zero ?_ | refine Ix.one ?_ | refine Ix.two ?_ | refine Ix.nat ?_ | refine Ix.add ?_ | (apply Go.Eng.Pin.mk; apply Exists.intro) | apply Go.Eng.Pinned.mk rfl rfl | (apply Go.Eng.PinH.mk; apply Exists.intro; apply Exists.intro) | exact Go.Eng.Fin0.mk | refine Go.Eng.Chk.mk ?_ ?_ | refine Own.l ?_ | (refine Br.mkY ?h ?_; case h => first | omega | assumption) | (refine Br.mkN ?h ?_; case h => first | omega | assumption | exact not_not_intro (by assumption)) | fail))
            (conv => whnf)
            exact ⟨rfl, hend.symm⟩
          · rename_i m1
            rw [g1, decide_eq_true_iff, Classical.not_not] at m1
            (repeat' ((conv => whnf); first | (refine Giv.mk fun _ => ?_) | (refine Alt.l (Need.mk ?h ?_); case h => omega) | (refine Alt.r (Need.mk ?h ?_); case h => omega) | (refine Need.mk ?h ?_; case h => first | omega | (intro _; rfl) | assumption | (simp <;> omega)) | refine Ix.zero ?_ | refine Ix.one ?_ | refine Ix.two ?_ | refine Ix.nat ?_ | refine Ix.add ?_ | (apply Go.Eng.Pin.mk; apply Exists.intro) | apply Go.Eng.Pinned.mk rfl rfl | (apply Go.Eng.PinH.mk; apply Exists.intro; apply Exists.intro) | exact Go.Eng.Fin0.mk | refine Go.Eng.Chk.mk ?_ ?_ | refine Own.l ?_ | (refine Br.mkY ?h ?_; case h => first | omega | assumption) | (refine Br.mkN ?h ?_; case h => first | omega | assumption | exact not_not_intro (by assumption)) | fail))
            refine ⟨(j + 1 : Nat), by show n.toNat - (j + 1) < n.toNat - j; omega, ⟨by show j + 1 ≤ n.toNat; omega, fun q hq => ?_⟩, by (repeat' (first | exact trivial | rfl | exact Nat.one_pos | (refine And.intro ?_ ?_) | omega | ((conv => whnf); (refine And.intro ?_ ?_)) | ((conv => whnf); exact trivial)))⟩
            by_cases e : q = j
            · subst e; exact m1
            · exact hall q (by omega)
        · have hm := memL_full (n := n) (f := fun j => decide (hasW (doAt (onL n l) (restL n l) n S S.length).st j)) fun q hq => decide_eq_true (hall q (by omega))
          rw [if_neg (by omega)] at hend
          (repeat' ((conv => whnf); first | (refine Giv.mk fun _ => ?_) | (refine Alt.l (Need.mk ?h ?_); case h => omega) | (refine Alt.r (Need.mk ?h ?_); case h => omega) | (refine Need.mk ?h ?_; case h => first | omega | (intro _; rfl) | assumption | (simp <;> omega)) | refine Ix.zero ?_ | refine Ix.one ?_ | refine Ix.two ?_ | refine Ix.nat ?_ | refine Ix.add ?_ | (apply Go.Eng.Pin.mk; apply Exists.intro) | apply Go.Eng.Pinned.mk rfl rfl | (apply Go.Eng.PinH.mk; apply Exists.intro; apply Exists.intro) | exact Go.Eng.Fin0.mk | refine Go.Eng.Chk.mk ?_ ?_ | refine Own.l ?_ | (refine Br.mkY ?h ?_; case h => first | omega | assumption) | (refine Br.mkN ?h ?_; case h => first | omega | assumption | exact not_not_intro (by assumption)) | fail))
          (conv => whnf)
          exact ⟨rfl, hend.symm⟩
def c35 : Con := mkCon 35 true fun args K => match args with | [.val (.int .i64 n), .seq (.pair (.int .i64) (.int .i64)) l, .seq (.pair (.int .i64) (.int .i64)) S] => K (I (checkE n l S)) | _ => False
theorem k35 : ConOK Try.prog c35 := by
  refine conOK_of rfl (enters_of Try.func35 (by kernel_rfl) rfl) ?_
  intro args K h
  simp only [c35] at h
  split at h
  · rename_i n l S; exact ⟨_, h, tri_of_body (Γ := [c58, c62, c63]) (by simp [k58, k62, k63]) Try.func35 (by simp [Try.ntmps35]) rfl (b35 n l S)⟩
  · exact h.elim
/-! ### ErectOrders -/
theorem b8 (n : Int) (l S : List (Int × Int)) (st : List Int) : body Try.prog [c13, c14, c16, c24, c25, c30, c31, c32, c33, c34, c35] {} true Try.f8 [I n, Ps l, Ps S, Ls st] (.val (.bool true)) := by
  (repeat' ((conv => whnf); first | (refine Giv.mk fun _ => ?_) | (refine Alt.l (Need.mk ?h ?_); case h => omega) | (refine Alt.r (Need.mk ?h ?_); case h => omega) | (refine Need.mk ?h ?_; case h => first | omega | (intro _; rfl) | assumption | (simp <;> omega)) | refine Ix.zero ?_ | refine Ix.one ?_ | refine Ix.two ?_ | refine Ix.nat ?_ | refine Ix.add ?_ | (apply Go.Eng.Pin.mk; apply Exists.intro) | apply Go.Eng.Pinned.mk rfl rfl | (apply Go.Eng.PinH.mk; apply Exists.intro; apply Exists.intro) | exact Go.Eng.Fin0.mk | refine Go.Eng.Chk.mk ?_ ?_ | refine Own.l ?_ | fail))
  (repeat' ((conv => whnf); first | (refine Giv.mk fun _ => ?_) | (refine Alt.l (Need.mk ?h ?_); case h => omega) | (refine Alt.r (Need.mk ?h ?_); case h => omega) | (refine Need.mk ?h ?_; case h => first | omega | (intro _; rfl) | assumption | (simp <;> omega)) | refine Ix.zero ?_ | refine Ix.one ?_ | refine Ix.two ?_ | refine Ix.nat ?_ | refine Ix.add ?_ | (apply Go.Eng.Pin.mk; apply Exists.intro) | apply Go.Eng.Pinned.mk rfl rfl | (apply Go.Eng.PinH.mk; apply Exists.intro; apply Exists.intro) | exact Go.Eng.Fin0.mk | refine Go.Eng.Chk.mk ?_ ?_ | refine Own.l ?_ | (refine Br.mkY ?h ?_; case h => first | omega | assumption) | (refine Br.mkN ?h ?_; case h => first | omega | assumption | exact not_not_intro (by assumption)) | (refine Br.mk (fun _ => ?_) (fun _ => ?_)) | fail))
  all_goals (try (conv => whnf))
  all_goals (rename_i hh; exact absurd rfl hh)
theorem t8 (n : Int) (l S : List (Int × Int)) (st : List Int) (hn : inK .i64 n) (hl : Okd (.slice Two) l) (hS : Okd (.slice Two) S) (hs : Okd (.slice (.int .i64)) st) :
    Tri Try.prog true 8 [I n, Ps l, Ps S, Ls st] (.val (.bool true)) :=
  tri_of_body (Γ := [c13, c14, c16, c24, c25, c30, c31, c32, c33, c34, c35]) (by simp [k13, k14, k16, k24, k25, k30, k31, k32, k33, k34, k35]) Try.func8 (by simp [Try.ntmps8]) rfl (b8 n l S st)
end EB
end
section
set_option linter.unusedVariables false
open Go Go.Proofs Go.Eng Go.Shelf
set_option linter.unusedVariables false
namespace EB
set_option maxRecDepth 10000
/-! ### Products of small numbers -/
abbrev U6 (n : Int) : SV := .val (.int .u64 n)
theorem and_mask {y : Int} (h : 0 ≤ y ∧ y ≤ 1000000) : bitsI .and .u64 y 4294967295 = y := by
  obtain ⟨n, rfl⟩ := Int.eq_ofNat_of_zero_le h.1
  have hn : n ≤ 1000000 := by omega
  have := and_nat n 4294967295 (by omega) (by omega)
  rw [show (4294967295 : Int) = ((4294967295 : Nat) : Int) from rfl, this]
  have e : n &&& 4294967295 = n % 2 ^ 32 := Nat.and_two_pow_sub_one_eq_mod n 32
  rw [e, Nat.mod_eq_of_lt (by omega)]
theorem shr_small {y : Int} (h : 0 ≤ y ∧ y ≤ 1000000) : shrI .u64 y 32 = 0 := by
  unfold shrI
  have e : (2 : Int) ^ (min (32 : Int).toNat IntKind.u64.bits) = 4294967296 := by decide
  rw [e, Int.fdiv_eq_ediv_of_nonneg _ (by decide)]
  omega
theorem b77 (y : Int) (h : 0 ≤ y ∧ y ≤ 1000000) : body Try.prog [] {} true Try.f77 [U6 1, U6 y] (.tup [U6 0, U6 y]) := by
  have a1 : bitsI .and .u64 1 4294967295 = 1 := and_mask ⟨by omega, by omega⟩
  have a2 := and_mask h
  have a3 : shrI .u64 1 32 = 0 := shr_small ⟨by omega, by omega⟩
  have a4 := shr_small h
  have a5 : bitsI .and .u64 0 4294967295 = 0 := and_mask ⟨by omega, by omega⟩
  have a6 : shrI .u64 0 32 = 0 := shr_small ⟨by omega, by omega⟩
  (repeat' ((conv => whnf); first | (refine Giv.mk fun _ => ?_) | (refine Alt.l (Need.mk ?h ?_); case h => omega) | (refine Alt.r (Need.mk ?h ?_); case h => omega) | (refine Need.mk ?h ?_; case h => first | omega | (intro _; rfl) | assumption | (simp <;> omega)) | refine Ix.zero ?_ | refine Ix.one ?_ | refine Ix.two ?_ | refine Ix.nat ?_ | refine Ix.add ?_ | (apply Go.Eng.Pin.mk; apply Exists.intro) | apply Go.Eng.Pinned.mk rfl rfl | (apply Go.Eng.PinH.mk; apply Exists.intro; apply Exists.intro) | exact Go.Eng.Fin0.mk | refine Go.Eng.Chk.mk ?_ ?_ | refine Own.l ?_ | fail))
  simp only [a1, a2, a3, a4]
  (repeat' ((conv => whnf); first | (refine Giv.mk fun _ => ?_) | (refine Alt.l (Need.mk ?h ?_); case h => omega) | (refine Alt.r (Need.mk ?h ?_); case h => omega) | (refine Need.mk ?h ?_; case h => first | omega | (intro _; rfl) | assumption | (simp <;> omega)) | refine Ix.zero ?_ | refine Ix.one ?_ | refine Ix.two ?_ | refine Ix.nat ?_ | refine Ix.add ?_ | (apply Go.Eng.Pin.mk; apply Exists.intro) | apply Go.Eng.Pinned.mk rfl rfl | (apply Go.Eng.PinH.mk; apply Exists.intro; apply Exists.intro) | exact Go.Eng.Fin0.mk | refine Go.Eng.Chk.mk ?_ ?_ | refine Own.l ?_ | fail))
  simp only [Int.one_mul, Int.zero_mul, Int.add_zero, a4, a5, a6]
  (repeat' ((conv => whnf); first | (refine Giv.mk fun _ => ?_) | (refine Alt.l (Need.mk ?h ?_); case h => omega) | (refine Alt.r (Need.mk ?h ?_); case h => omega) | (refine Need.mk ?h ?_; case h => first | omega | (intro _; rfl) | assumption | (simp <;> omega)) | refine Ix.zero ?_ | refine Ix.one ?_ | refine Ix.two ?_ | refine Ix.nat ?_ | refine Ix.add ?_ | (apply Go.Eng.Pin.mk; apply Exists.intro) | apply Go.Eng.Pinned.mk rfl rfl | (apply Go.Eng.PinH.mk; apply Exists.intro; apply Exists.intro) | exact Go.Eng.Fin0.mk | refine Go.Eng.Chk.mk ?_ ?_ | refine Own.l ?_ | fail))
  have a7 : (0 * 0 + 0 + shrI .u64 (0 + 0) 32 : Int) = 0 := by rw [show (0 : Int) + 0 = 0 from rfl, a6]; rfl
  (repeat' (first | exact trivial | rfl | exact Nat.one_pos | (refine And.intro ?_ ?_) | ((conv => whnf); (refine And.intro ?_ ?_)) | ((conv => whnf); exact trivial)))
  all_goals (conv => whnf)
  all_goals (repeat' (first | exact trivial | rfl | exact Nat.one_pos | (refine And.intro ?_ ?_) | ((conv => whnf); (refine And.intro ?_ ?_)) | ((conv => whnf); exact trivial)))
  exact Int.one_mul y
def c77 : Con := mkCon 77 true fun args K => match args with | [.val (.int .u64 1), .val (.int .u64 y)] => Need (0 ≤ y ∧ y ≤ 1000000) (K (.tup [U6 0, U6 y])) | _ => False
theorem k77 : ConOK Try.prog c77 := by
  refine conOK_of rfl (enters_of Try.func77 (by kernel_rfl) rfl) ?_
  intro args K h
  simp only [c77] at h
  split at h
  · rename_i y; exact ⟨_, h.go, tri_of_body (Γ := []) (by simp) Try.func77 (by simp [Try.ntmps77]) rfl (b77 y h.ok)⟩
  · exact h.elim
theorem b64 (y : Int) (h : 0 ≤ y ∧ y ≤ 1000000) : body Try.prog [c77] {} true Try.f64 [U6 1, U6 y] (.tup [U6 0, U6 y]) := by
  (repeat' ((conv => whnf); first | (refine Giv.mk fun _ => ?_) | (refine Alt.l (Need.mk ?h ?_); case h => omega) | (refine Alt.r (Need.mk ?h ?_); case h => omega) | (refine Need.mk ?h ?_; case h => first | omega | (intro _; rfl) | assumption | (simp <;> omega)) | refine Ix.zero ?_ | refine Ix.one ?_ | refine Ix.two ?_ | refine Ix.nat ?_ | refine Ix.add ?_ | (apply Go.Eng.Pin.mk; apply Exists.intro) | apply Go.Eng.Pinned.mk rfl rfl | (apply Go.Eng.PinH.mk; apply Exists.intro; apply Exists.intro) | exact Go.Eng.Fin0.mk | refine Go.Eng.Chk.mk ?_ ?_ | refine Own.l ?_ | fail))
  (conv => whnf)
  (repeat' (first | exact trivial | rfl | exact Nat.one_pos | (refine And.intro ?_ ?_) | ((conv => whnf); (refine And.intro ?_ ?_)) | ((conv => whnf); exact trivial)))
def c64 : Con := mkCon 64 true fun args K => match args with | [.val (.int .u64 1), .val (.int .u64 y)] => Need (0 ≤ y ∧ y ≤ 1000000) (K (.tup [U6 0, U6 y])) | _ => False
theorem k64 : ConOK Try.prog c64 := by
  refine conOK_of rfl (enters_of Try.func64 (by kernel_rfl) rfl) ?_
  intro args K h
  simp only [c64] at h
  split at h
  · rename_i y; exact ⟨_, h.go, tri_of_body (Γ := [c77]) (by simp [k77]) Try.func64 (by simp [Try.ntmps64]) rfl (b64 y h.ok)⟩
  · exact h.elim
/-! ### slices.Repeat of one truth -/
def repL {α : Type} (v z : α) (n k : Nat) : List α := List.replicate (min k n) v ++ List.replicate (n - k) z
theorem repL_len {α : Type} (v z : α) (n k : Nat) : (repL v z n k).length = n := by simp [repL]; omega
theorem repL_all {α : Type} (v z : α) (n k : Nat) (h : n ≤ k) : repL v z n k = List.replicate n v := by
  unfold repL
  rw [Nat.min_eq_right h, show n - k = 0 by omega]; simp
theorem repL_zero {α : Type} (v z : α) (n : Nat) : repL v z n 0 = List.replicate n z := by simp [repL]
theorem repL_first {α : Type} (v z : α) (n : Nat) : layL (List.replicate n z) 0 ([v].take n) = repL v z n 1 := by
  cases n with
  | zero => rfl
  | succ m => simp [layL, repL, Nat.min_eq_left]
theorem repL_min {α : Type} (v z : α) (n : Nat) : repL v z n 1 = repL v z n (min 1 n) := by
  cases n with
  | zero => rfl
  | succ m => rw [Nat.min_eq_left (by omega)]
theorem repL_next {α : Type} (v z : α) (n k : Nat) (hk : k ≤ n) : layL (repL v z n k) k (((repL v z n k).take k).take (n - k)) = repL v z n (k + min k (n - k)) ∧ (((repL v z n k).take k).take (n - k)).length = min k (n - k) := by
  have e : (repL v z n k).take k = List.replicate k v := by
    unfold repL
    rw [Nat.min_eq_left hk, List.take_left' (by simp)]
  have e2 : ((repL v z n k).take k).take (n - k) = List.replicate (min k (n - k)) v := by rw [e, List.take_replicate, Nat.min_comm]
  rw [e2]
  refine ⟨?_, by simp⟩
  unfold layL repL
  rw [Nat.min_eq_left hk, List.take_left' (by simp), List.length_replicate, Nat.min_eq_left (by omega : k + min k (n - k) ≤ n), List.drop_append, List.length_replicate, List.drop_replicate, List.drop_replicate, List.replicate_append_replicate.symm, List.append_assoc]
  congr 2
  rw [show k - (k + min k (n - k)) = 0 by omega, List.replicate_zero, List.nil_append]
  congr 1
  omega
theorem b39 (n : Int) (h : 0 ≤ n ∧ n ≤ 100000) : bodyO Try.prog [c64] { asks := [(0, [])] } Try.f39 [.seq .bool [true], I n] (.ref 0 1) .bool (List.replicate n.toNat true) 4 := by
  obtain ⟨h1, h2⟩ := h
  (repeat' ((conv => whnf); first | (refine Giv.mk fun _ => ?_) | (refine Alt.l (Need.mk ?h ?_); case h => omega) | (refine Alt.r (Need.mk ?h ?_); case h => omega) | (refine Need.mk ?h ?_; case h => first | omega | (intro _; rfl) | assumption | (simp <;> omega)) | refine Ix.zero ?_ | refine Ix.one ?_ | refine Ix.two ?_ | refine Ix.nat ?_ | refine Ix.add ?_ | (apply Go.Eng.Pin.mk; apply Exists.intro) | apply Go.Eng.Pinned.mk rfl rfl | (apply Go.Eng.PinH.mk; apply Exists.intro; apply Exists.intro) | exact Go.Eng.Fin0.mk | refine Go.Eng.Chk.mk ?_ ?_ | refine Own.l ?_ | (refine Br.mkY ?h ?_; case h => first | omega | assumption) | (refine Br.mkN ?h ?_; case h => first | omega | assumption | exact not_not_intro (by assumption)) | fail))
  refine Need.mk (show 0 ≤ n ∧ n ≤ n ∧ n ≤ 140737488355328 ∧ n * ((1 : Nat) : Int) ≤ 140737488355328 by omega) ?_
  (repeat' ((conv => whnf); first | (refine Giv.mk fun _ => ?_) | (refine Alt.l (Need.mk ?h ?_); case h => omega) | (refine Alt.r (Need.mk ?h ?_); case h => omega) | (refine Need.mk ?h ?_; case h => first | omega | (intro _; rfl) | assumption | (simp <;> omega)) | refine Ix.zero ?_ | refine Ix.one ?_ | refine Ix.two ?_ | refine Ix.nat ?_ | refine Ix.add ?_ | (apply Go.Eng.Pin.mk; apply Exists.intro) | apply Go.Eng.Pinned.mk rfl rfl | (apply Go.Eng.PinH.mk; apply Exists.intro; apply Exists.intro) | exact Go.Eng.Fin0.mk | refine Go.Eng.Chk.mk ?_ ?_ | refine Own.l ?_ | (refine Br.mkY ?h ?_; case h => first | omega | assumption) | (refine Br.mkN ?h ?_; case h => first | omega | assumption | exact not_not_intro (by assumption)) | fail))
  have hf := repL_first true false n.toNat
  have hfl : ([true].take (n.toNat - 0)).length = min 1 n.toNat := by simp [Nat.min_comm]
  refine Ask.mk ⟨{ X := Nat, pre := fun k => k ≤ n.toNat ∧ (k = 0 → n.toNat = 0), mod := fun k _ => [(8, I k)], heap := fun k _ => [.vec 1 .bool [] 4, .vec 1 .bool (repL true false n.toNat k) 4], mu := fun k => n.toNat - k }, rfl, ?_⟩
  (repeat' ((conv => whnf); first | (refine Giv.mk fun _ => ?_) | (refine Alt.l (Need.mk ?h ?_); case h => omega) | (refine Alt.r (Need.mk ?h ?_); case h => omega) | (refine Need.mk ?h ?_; case h => first | omega | (intro _; rfl) | assumption | (simp <;> omega)) | refine Ix.zero ?_ | refine Ix.one ?_ | refine Ix.two ?_ | refine Ix.nat ?_ | refine Ix.add ?_ | (apply Go.Eng.Pin.mk; apply Exists.intro) | apply Go.Eng.Pinned.mk rfl rfl | (apply Go.Eng.PinH.mk; apply Exists.intro; apply Exists.intro) | exact Go.Eng.Fin0.mk | refine Go.Eng.Chk.mk ?_ ?_ | refine Own.l ?_ | fail))
  refine ⟨⟨min 1 n.toNat, ⟨by omega, by omega⟩, ?_⟩, fun (k : Nat) hk => ?_⟩
  · (repeat' (first | exact trivial | rfl | exact Nat.one_pos | (refine And.intro ?_ ?_) | omega | ((conv => whnf); (refine And.intro ?_ ?_)) | ((conv => whnf); exact trivial)))
    · simp [Nat.min_comm]
    · rw [List.length_replicate, Nat.sub_zero, hf, repL_min]
      exact rfl
  · obtain ⟨hk, hk0⟩ := hk
    obtain ⟨e1, e2⟩ := repL_next true false n.toNat k hk
    have hrl := repL_len true false n.toNat k
    (repeat' ((conv => whnf); first | (refine Giv.mk fun _ => ?_) | (refine Alt.l (Need.mk ?h ?_); case h => omega) | (refine Alt.r (Need.mk ?h ?_); case h => omega) | (refine Need.mk ?h ?_; case h => first | omega | (intro _; rfl) | assumption | (simp <;> omega)) | refine Ix.zero ?_ | refine Ix.one ?_ | refine Ix.two ?_ | refine Ix.nat ?_ | refine Ix.add ?_ | (apply Go.Eng.Pin.mk; apply Exists.intro) | apply Go.Eng.Pinned.mk rfl rfl | (apply Go.Eng.PinH.mk; apply Exists.intro; apply Exists.intro) | exact Go.Eng.Fin0.mk | refine Go.Eng.Chk.mk ?_ ?_ | refine Own.l ?_ | fail))
    (refine Br.mk (fun _ => ?_) (fun _ => ?_))
    · have e3 : (((repL true false n.toNat k).take k).drop 0).take ((repL true false n.toNat k).length - k) = ((repL true false n.toNat k).take k).take (n.toNat - k) := by rw [List.drop_zero, hrl]
      (repeat' ((conv => whnf); first | (refine Giv.mk fun _ => ?_) | (refine Alt.l (Need.mk ?h ?_); case h => omega) | (refine Alt.r (Need.mk ?h ?_); case h => omega) | (refine Need.mk ?h ?_; case h => first | omega | (intro _; rfl) | assumption | (simp <;> omega)) | refine Ix.zero ?_ | refine Ix.one ?_ | refine Ix.two ?_ | refine Ix.nat ?_ | refine Ix.add ?_ | (apply Go.Eng.Pin.mk; apply Exists.intro) | apply Go.Eng.Pinned.mk rfl rfl | (apply Go.Eng.PinH.mk; apply Exists.intro; apply Exists.intro) | exact Go.Eng.Fin0.mk | refine Go.Eng.Chk.mk ?_ ?_ | refine Own.r ?_ | fail))
      refine ⟨k + min k (n.toNat - k), by show n.toNat - (k + min k (n.toNat - k)) < n.toNat - k; omega, ⟨by omega, by omega⟩, ?_⟩
      (repeat' (first | exact trivial | rfl | exact Nat.one_pos | (refine And.intro ?_ ?_) | omega | ((conv => whnf); (refine And.intro ?_ ?_)) | ((conv => whnf); exact trivial)))
      · rw [e3, e2]; omega
      · rw [e3, e1]
        exact rfl
    · have hall := repL_all true false n.toNat k (by omega)
      (repeat' ((conv => whnf); first | (refine Giv.mk fun _ => ?_) | (refine Alt.l (Need.mk ?h ?_); case h => omega) | (refine Alt.r (Need.mk ?h ?_); case h => omega) | (refine Need.mk ?h ?_; case h => first | omega | (intro _; rfl) | assumption | (simp <;> omega)) | refine Ix.zero ?_ | refine Ix.one ?_ | refine Ix.two ?_ | refine Ix.nat ?_ | refine Ix.add ?_ | (apply Go.Eng.Pin.mk; apply Exists.intro) | apply Go.Eng.Pinned.mk rfl rfl | (apply Go.Eng.PinH.mk; apply Exists.intro; apply Exists.intro) | exact Go.Eng.Fin0.mk | refine Go.Eng.Chk.mk ?_ ?_ | refine Own.l ?_ | (refine Br.mkY ?h ?_; case h => first | omega | assumption) | (refine Br.mkN ?h ?_; case h => first | omega | assumption | exact not_not_intro (by assumption)) | fail))
      (repeat' (first | exact trivial | rfl | exact Nat.one_pos | (refine And.intro ?_ ?_) | ((conv => whnf); (refine And.intro ?_ ?_)) | ((conv => whnf); exact trivial)))
      exact hall
def c39 : Con := ownCon 39 fun args K => match args with | [.seq .bool [true], .val (.int .i64 n)] => Need (0 ≤ n ∧ n ≤ 100000) (K (.ref 0 1) (.vec 1 (.bool) (List.replicate n.toNat true) 4)) | _ => False
theorem k39 : ConOK Try.prog c39 := by
  refine ownOK_of (enters_of Try.func39 (by kernel_rfl) rfl) ?_
  intro args K h
  split at h
  · rename_i n; exact ⟨_, _, _, _, _, h.go, fun hfl => otri_of_body (Γ := [c64]) (by simp [k64]) Try.func39 (by simp [Try.ntmps39]) hfl (b39 n h.ok)⟩
  · exact h.elim
/-! ### slices.Reverse -/
def revAt (xs : List (Int × Int)) (k : Nat) : List (Int × Int) := (List.range xs.length).map fun p => if p < k ∨ xs.length - k ≤ p then xs.getD (xs.length - 1 - p) (0, 0) else xs.getD p (0, 0)
theorem revAt_len (xs : List (Int × Int)) (k : Nat) : (revAt xs k).length = xs.length := by simp [revAt]
theorem revAt_get (xs : List (Int × Int)) (k p : Nat) (h : p < xs.length) : (revAt xs k).getD p (0, 0) = if p < k ∨ xs.length - k ≤ p then xs.getD (xs.length - 1 - p) (0, 0) else xs.getD p (0, 0) := by
  simp [revAt, List.getD_eq_getElem?_getD, h]
theorem set_getD {α : Type} (xs : List α) (i p : Nat) (v d : α) : (xs.set i v).getD p d = if p = i ∧ p < xs.length then v else xs.getD p d := by
  rw [List.getD_eq_getElem?_getD, List.getD_eq_getElem?_getD, List.getElem?_set]
  by_cases h : i = p
  · subst h
    by_cases h2 : i < xs.length
    · simp [h2]
    · simp [h2]
  · have : ¬ p = i := fun e => h e.symm
    simp [h, this]
theorem revAt_zero (xs : List (Int × Int)) : revAt xs 0 = xs := by
  refine pair_ext (revAt_len xs 0) fun p hp => ?_
  rw [revAt_len] at hp
  rw [revAt_get _ _ _ hp, if_neg (by omega)]
theorem revAt_step (xs : List (Int × Int)) (k : Nat) (h : 2 * k + 1 < xs.length) : ((revAt xs k).set k ((revAt xs k).getD (xs.length - 1 - k) (0, 0))).set (xs.length - 1 - k) ((revAt xs k).getD k (0, 0)) = revAt xs (k + 1) := by
  refine pair_ext (by simp [revAt_len]) fun p hp => ?_
  have hp : p < xs.length := by simpa [revAt_len] using hp
  rw [set_getD, set_getD, List.length_set, revAt_len, revAt_get _ _ _ hp, revAt_get _ _ _ hp, revAt_get _ _ _ (by omega), revAt_get _ _ _ (by omega)]
  by_cases h1 : p = xs.length - 1 - k
  · rw [if_pos ⟨h1, hp⟩, if_neg (by omega), if_pos (by omega)]
    congr 1; omega
  · rw [if_neg (fun h => h1 h.1)]
    by_cases h2 : p = k
    · rw [if_pos ⟨h2, hp⟩, if_neg (by omega), if_pos (by omega)]
      congr 1; omega
    · rw [if_neg (fun h => h2 h.1)]
      by_cases h3 : p < k ∨ xs.length - k ≤ p
      · rw [if_pos h3, if_pos (by omega)]
      · rw [if_neg h3, if_neg (by omega)]
theorem revAt_all (xs : List (Int × Int)) (k : Nat) (h : xs.length ≤ 2 * k + 1) : revAt xs k = xs.reverse := by
  refine pair_ext (by simp [revAt_len]) fun p hp => ?_
  have hp : p < xs.length := by simpa [revAt_len] using hp
  have e : xs.reverse.getD p (0, 0) = xs.getD (xs.length - 1 - p) (0, 0) := by
    rw [List.getD_eq_getElem?_getD, List.getD_eq_getElem?_getD, List.getElem?_reverse hp]
  rw [revAt_get _ _ _ hp, e]
  by_cases h3 : p < k ∨ xs.length - k ≤ p
  · rw [if_pos h3]
  · rw [if_neg h3]
    congr 1; omega
theorem b60 (xs : List (Int × Int)) (h : xs.length ≤ 100000) : bodyL Try.prog [] { asks := [(0, [])] } Try.f60 0 true [.any] Two xs 29 (.tup []) xs.reverse := by
  (repeat' ((conv => whnf); first | (refine Giv.mk fun _ => ?_) | (refine Alt.l (Need.mk ?h ?_); case h => omega) | (refine Alt.r (Need.mk ?h ?_); case h => omega) | (refine Need.mk ?h ?_; case h => first | omega | (intro _; rfl) | assumption | (simp <;> omega)) | refine Ix.zero ?_ | refine Ix.one ?_ | refine Ix.two ?_ | refine Ix.nat ?_ | refine Ix.add ?_ | (apply Go.Eng.Pin.mk; apply Exists.intro) | apply Go.Eng.Pinned.mk rfl rfl | (apply Go.Eng.PinH.mk; apply Exists.intro; apply Exists.intro) | exact Go.Eng.Fin0.mk | refine Go.Eng.Chk.mk ?_ ?_ | refine Own.l ?_ | fail))
  refine Ask.mk ⟨{ X := Nat, pre := fun k => 2 * k ≤ xs.length, mod := fun k _ => [(2, I k), (3, I ((xs.length : Int) - 1 - k))], heap := fun k _ => [.vec 1 Two (revAt xs k) 29], mu := fun k => xs.length - k }, rfl, ?_⟩
  (repeat' ((conv => whnf); first | (refine Giv.mk fun _ => ?_) | (refine Alt.l (Need.mk ?h ?_); case h => omega) | (refine Alt.r (Need.mk ?h ?_); case h => omega) | (refine Need.mk ?h ?_; case h => first | omega | (intro _; rfl) | assumption | (simp <;> omega)) | refine Ix.zero ?_ | refine Ix.one ?_ | refine Ix.two ?_ | refine Ix.nat ?_ | refine Ix.add ?_ | (apply Go.Eng.Pin.mk; apply Exists.intro) | apply Go.Eng.Pinned.mk rfl rfl | (apply Go.Eng.PinH.mk; apply Exists.intro; apply Exists.intro) | exact Go.Eng.Fin0.mk | refine Go.Eng.Chk.mk ?_ ?_ | refine Own.l ?_ | fail))
  refine ⟨⟨(0 : Nat), Nat.zero_le _, ?_⟩, fun (k : Nat) (hk : 2 * k ≤ xs.length) => ?_⟩
  · (repeat' (first | exact trivial | rfl | exact Nat.one_pos | (refine And.intro ?_ ?_) | omega | ((conv => whnf); (refine And.intro ?_ ?_)) | ((conv => whnf); exact trivial)))
    exact (revAt_zero xs).symm
  · have hl := revAt_len xs k
    (repeat' ((conv => whnf); first | (refine Giv.mk fun _ => ?_) | (refine Alt.l (Need.mk ?h ?_); case h => omega) | (refine Alt.r (Need.mk ?h ?_); case h => omega) | (refine Need.mk ?h ?_; case h => first | omega | (intro _; rfl) | assumption | (simp <;> omega)) | refine Ix.zero ?_ | refine Ix.one ?_ | refine Ix.two ?_ | refine Ix.nat ?_ | refine Ix.add ?_ | (apply Go.Eng.Pin.mk; apply Exists.intro) | apply Go.Eng.Pinned.mk rfl rfl | (apply Go.Eng.PinH.mk; apply Exists.intro; apply Exists.intro) | exact Go.Eng.Fin0.mk | refine Go.Eng.Chk.mk ?_ ?_ | refine Own.l ?_ | fail))
    (refine Br.mk (fun _ => ?_) (fun _ => ?_))
    · have hst := revAt_step xs k (by omega)
      have e1 : (xs.length : Int) - 1 - k = ((xs.length - 1 - k : Nat) : Int) := by omega
      (repeat' ((conv => whnf); first | (refine Giv.mk fun _ => ?_) | (refine Alt.l (Need.mk ?h ?_); case h => omega) | (refine Alt.r (Need.mk ?h ?_); case h => omega) | (refine Need.mk ?h ?_; case h => first | omega | (intro _; rfl) | assumption | (simp <;> omega)) | refine Ix.zero ?_ | refine Ix.one ?_ | refine Ix.two ?_ | refine Ix.nat ?_ | refine Ix.add ?_ | (apply Go.Eng.Pin.mk; apply Exists.intro) | apply Go.Eng.Pinned.mk rfl rfl | (apply Go.Eng.PinH.mk; apply Exists.intro; apply Exists.intro) | exact Go.Eng.Fin0.mk | refine Go.Eng.Chk.mk ?_ ?_ | refine Own.l ?_ | fail))
      refine ix_at (xs.length - 1 - k) e1 ?_
      (repeat' ((conv => whnf); first | (refine Giv.mk fun _ => ?_) | (refine Alt.l (Need.mk ?h ?_); case h => omega) | (refine Alt.r (Need.mk ?h ?_); case h => omega) | (refine Need.mk ?h ?_; case h => first | omega | (intro _; rfl) | assumption | (simp <;> omega)) | refine Ix.zero ?_ | refine Ix.one ?_ | refine Ix.two ?_ | refine Ix.nat ?_ | refine Ix.add ?_ | (apply Go.Eng.Pin.mk; apply Exists.intro) | apply Go.Eng.Pinned.mk rfl rfl | (apply Go.Eng.PinH.mk; apply Exists.intro; apply Exists.intro) | exact Go.Eng.Fin0.mk | refine Go.Eng.Chk.mk ?_ ?_ | refine Own.l ?_ | fail))
      refine ix_at (xs.length - 1 - k) e1 ?_
      (repeat' ((conv => whnf); first | (refine Giv.mk fun _ => ?_) | (refine Alt.l (Need.mk ?h ?_); case h => omega) | (refine Alt.r (Need.mk ?h ?_); case h => omega) | (refine Need.mk ?h ?_; case h => first | omega | (intro _; rfl) | assumption | (simp <;> omega)) | refine Ix.zero ?_ | refine Ix.one ?_ | refine Ix.two ?_ | refine Ix.nat ?_ | refine Ix.add ?_ | (apply Go.Eng.Pin.mk; apply Exists.intro) | apply Go.Eng.Pinned.mk rfl rfl | (apply Go.Eng.PinH.mk; apply Exists.intro; apply Exists.intro) | exact Go.Eng.Fin0.mk | refine Go.Eng.Chk.mk ?_ ?_ | refine Own.l ?_ | fail))
      refine ⟨(k + 1 : Nat), by show xs.length - (k + 1) < xs.length - k; omega, by show 2 * (k + 1) ≤ xs.length; omega, ?_⟩
      (repeat' (first | exact trivial | rfl | exact Nat.one_pos | (refine And.intro ?_ ?_) | omega | ((conv => whnf); (refine And.intro ?_ ?_)) | ((conv => whnf); exact trivial)))
      exact hst
    · have hall := revAt_all xs k (by omega)
      (repeat' ((conv => whnf); first | (refine Giv.mk fun _ => ?_) | (refine Alt.l (Need.mk ?h ?_); case h => omega) | (refine Alt.r (Need.mk ?h ?_); case h => omega) | (refine Need.mk ?h ?_; case h => first | omega | (intro _; rfl) | assumption | (simp <;> omega)) | refine Ix.zero ?_ | refine Ix.one ?_ | refine Ix.two ?_ | refine Ix.nat ?_ | refine Ix.add ?_ | (apply Go.Eng.Pin.mk; apply Exists.intro) | apply Go.Eng.Pinned.mk rfl rfl | (apply Go.Eng.PinH.mk; apply Exists.intro; apply Exists.intro) | exact Go.Eng.Fin0.mk | refine Go.Eng.Chk.mk ?_ ?_ | refine Own.l ?_ | fail))
      (repeat' (first | exact trivial | rfl | exact Nat.one_pos | (refine And.intro ?_ ?_) | ((conv => whnf); (refine And.intro ?_ ?_)) | ((conv => whnf); exact trivial)))
      exact hall
def c60 : Con := linCon 60 0 true fun args o K => match args, o with | [.any], .vec 1 (.pair (.int .i64) (.int .i64)) ws 29 => Need (ws.length ≤ 100000) (K (.tup []) (.vec 1 (.pair (.int .i64) (.int .i64)) (ws.reverse) 29)) | _, _ => False
theorem k60 : ConOK Try.prog c60 := by
  refine linOK_of (enters_of Try.func60 (by kernel_rfl) rfl) ?_
  intro args t xs e K hfl h
  split at h
  · rename_i zs heq
    cases heq
    first | exact ⟨_, _, h.go, ltri_of_body (Γ := []) (by simp) Try.func60 (by simp [Try.ntmps60]) rfl (b60 zs h.ok)⟩ | exact ⟨_, _, h.go, ltri_of_body (Γ := []) (by simp) Try.func60 (by simp [Try.ntmps60]) rfl (b60 xs h.ok)⟩
  · exact h.elim
/-! ### erect.Reverse -/
def kindR (k : Int) : Int := if k = 1 then 1 else if k = 2 then 3 else if k = 3 then 2 else 0
def flipS (x : Int × Int) : Int × Int := (kindR x.1, x.2)
def flipAt (xs : List (Int × Int)) (k : Nat) : List (Int × Int) := (xs.take k).map flipS ++ xs.drop k
theorem flipAt_len (xs : List (Int × Int)) (k : Nat) : (flipAt xs k).length = xs.length := by simp [flipAt]; omega
theorem flipAt_here (xs : List (Int × Int)) (k : Nat) (h : k < xs.length) : (flipAt xs k).getD k (0, 0) = xs.getD k (0, 0) := by
  unfold flipAt
  rw [List.getD_eq_getElem?_getD, List.getElem?_append_right (by simp; omega)]
  simp [List.getD_eq_getElem?_getD, Nat.min_eq_left (Nat.le_of_lt h)]
theorem flipAt_step (xs : List (Int × Int)) (k : Nat) (h : k < xs.length) : (flipAt xs k).set k (flipS (xs.getD k (0, 0))) = flipAt xs (k + 1) := by
  unfold flipAt
  rw [take_pair xs k h, List.map_append, List.map_cons, List.map_nil, List.set_append_right _ _ (by simp; omega), List.append_assoc]
  congr 1
  have e : xs.drop k = xs.getD k (0, 0) :: xs.drop (k + 1) := by
    rw [List.drop_eq_getElem_cons h]; simp [List.getD_eq_getElem?_getD, h]
  rw [e]
  simp [Nat.min_eq_left (Nat.le_of_lt h)]
def revRes (S : List (Int × Int)) : List (Int × Int) := if chkE (-1) S = 0 then S.reverse.map flipS else []
theorem chk_mem {n : Int} {S : List (Int × Int)} (h : chkE n S = 0) : ∀ i, i < S.length → (1 ≤ (S.getD i (0, 0)).1 ∧ (S.getD i (0, 0)).1 ≤ 3) ∧ 0 ≤ (S.getD i (0, 0)).2 := by
  intro i hi
  unfold chkE at h
  split at h
  · cases h
  have := firstE_zero h i hi
  unfold chkAt at this
  split at this
  · cases this
  split at this
  · cases this
  omega
theorem rev_get (xs : List (Int × Int)) (p : Nat) (h : p < xs.length) : xs.reverse.getD p (0, 0) = xs.getD (xs.length - 1 - p) (0, 0) := by
  rw [List.getD_eq_getElem?_getD, List.getD_eq_getElem?_getD, List.getElem?_reverse h]
theorem b27 (S : List (Int × Int)) : body Try.prog [c23, c51, c60] { asks := [(0, [])] } true Try.f27 [Ps S] (.tup [Ps (revRes S), I (chkE (-1) S)]) := by
  (repeat' ((conv => whnf); first | (refine Giv.mk fun _ => ?_) | (refine Alt.l (Need.mk ?h ?_); case h => omega) | (refine Alt.r (Need.mk ?h ?_); case h => omega) | (refine Need.mk ?h ?_; case h => first | omega | (intro _; rfl) | assumption | (simp <;> omega)) | refine Ix.zero ?_ | refine Ix.one ?_ | refine Ix.two ?_ | refine Ix.nat ?_ | refine Ix.add ?_ | (apply Go.Eng.Pin.mk; apply Exists.intro) | apply Go.Eng.Pinned.mk rfl rfl | (apply Go.Eng.PinH.mk; apply Exists.intro; apply Exists.intro) | exact Go.Eng.Fin0.mk | refine Go.Eng.Chk.mk ?_ ?_ | refine Own.l ?_ | fail))
  (refine Br.mk (fun _ => ?_) (fun _ => ?_))
  · rename_i h
    (repeat' ((conv => whnf); first | (refine Giv.mk fun _ => ?_) | (refine Alt.l (Need.mk ?h ?_); case h => omega) | (refine Alt.r (Need.mk ?h ?_); case h => omega) | (refine Need.mk ?h ?_; case h => first | omega | (intro _; rfl) | assumption | (simp <;> omega)) | refine Ix.zero ?_ | refine Ix.one ?_ | refine Ix.two ?_ | refine Ix.nat ?_ | refine Ix.add ?_ | (apply Go.Eng.Pin.mk; apply Exists.intro) | apply Go.Eng.Pinned.mk rfl rfl | (apply Go.Eng.PinH.mk; apply Exists.intro; apply Exists.intro) | exact Go.Eng.Fin0.mk | refine Go.Eng.Chk.mk ?_ ?_ | refine Own.l ?_ | fail))
    (conv => whnf)
    (repeat' (first | exact trivial | rfl | exact Nat.one_pos | (refine And.intro ?_ ?_) | ((conv => whnf); (refine And.intro ?_ ?_)) | ((conv => whnf); exact trivial)))
    (conv => whnf)
    unfold revRes
    rw [if_neg h]
  · rename_i h
    have h := Classical.not_not.1 h
    have hlen := chkE_len h
    have hm := chk_mem h
    (repeat' ((conv => whnf); first | (refine Giv.mk fun _ => ?_) | (refine Alt.l (Need.mk ?h ?_); case h => omega) | (refine Alt.r (Need.mk ?h ?_); case h => omega) | (refine Need.mk ?h ?_; case h => first | omega | (intro _; rfl) | assumption | (simp <;> omega)) | refine Ix.zero ?_ | refine Ix.one ?_ | refine Ix.two ?_ | refine Ix.nat ?_ | refine Ix.add ?_ | (apply Go.Eng.Pin.mk; apply Exists.intro) | apply Go.Eng.Pinned.mk rfl rfl | (apply Go.Eng.PinH.mk; apply Exists.intro; apply Exists.intro) | exact Go.Eng.Fin0.mk | refine Go.Eng.Chk.mk ?_ ?_ | refine Own.l ?_ | fail))
    refine Ask.mk ⟨{ X := Nat, pre := fun k => k ≤ S.reverse.length, mod := fun k _ => [(20, I k)], heap := fun k _ => [.vec 1 Two [] 29, .cells [I 0, I 1, I 3, I 2] 85, .vec 1 Two (flipAt S.reverse k) 29], mu := fun k => S.reverse.length - k }, rfl, ?_⟩
    (repeat' ((conv => whnf); first | (refine Giv.mk fun _ => ?_) | (refine Alt.l (Need.mk ?h ?_); case h => omega) | (refine Alt.r (Need.mk ?h ?_); case h => omega) | (refine Need.mk ?h ?_; case h => first | omega | (intro _; rfl) | assumption | (simp <;> omega)) | refine Ix.zero ?_ | refine Ix.one ?_ | refine Ix.two ?_ | refine Ix.nat ?_ | refine Ix.add ?_ | (apply Go.Eng.Pin.mk; apply Exists.intro) | apply Go.Eng.Pinned.mk rfl rfl | (apply Go.Eng.PinH.mk; apply Exists.intro; apply Exists.intro) | exact Go.Eng.Fin0.mk | refine Go.Eng.Chk.mk ?_ ?_ | refine Own.l ?_ | fail))
    refine ⟨⟨(0 : Nat), Nat.zero_le _, ?_⟩, fun (k : Nat) (hk : k ≤ S.reverse.length) => ?_⟩
    · (repeat' (first | exact trivial | rfl | exact Nat.one_pos | (refine And.intro ?_ ?_) | omega | ((conv => whnf); (refine And.intro ?_ ?_)) | ((conv => whnf); exact trivial)))
    · have hl := flipAt_len S.reverse k
      (repeat' ((conv => whnf); first | (refine Giv.mk fun _ => ?_) | (refine Alt.l (Need.mk ?h ?_); case h => omega) | (refine Alt.r (Need.mk ?h ?_); case h => omega) | (refine Need.mk ?h ?_; case h => first | omega | (intro _; rfl) | assumption | (simp <;> omega)) | refine Ix.zero ?_ | refine Ix.one ?_ | refine Ix.two ?_ | refine Ix.nat ?_ | refine Ix.add ?_ | (apply Go.Eng.Pin.mk; apply Exists.intro) | apply Go.Eng.Pinned.mk rfl rfl | (apply Go.Eng.PinH.mk; apply Exists.intro; apply Exists.intro) | exact Go.Eng.Fin0.mk | refine Go.Eng.Chk.mk ?_ ?_ | refine Own.l ?_ | fail))
      (refine Br.mk (fun _ => ?_) (fun _ => ?_))
      · have hlt : k < S.reverse.length := by omega
        have hrl : S.reverse.length = S.length := List.length_reverse
        have hh := flipAt_here S.reverse k hlt
        have hst := flipAt_step S.reverse k hlt
        have hmm := hm (S.length - 1 - k) (by omega)
        rw [← rev_get S k (by omega), ← hh] at hmm
        obtain ⟨m1, m2⟩ := hmm
        have hc : ((flipAt S.reverse k).getD k (0, 0)).1 = 1 ∨ ((flipAt S.reverse k).getD k (0, 0)).1 = 2 ∨ ((flipAt S.reverse k).getD k (0, 0)).1 = 3 := by omega
        have hff : ∀ q : Nat, ((flipAt S.reverse k).getD k (0, 0)).1 = (q : Int) → (flipAt S.reverse k).set k (kindR q, ((flipAt S.reverse k).getD k (0, 0)).2) = flipAt S.reverse (k + 1) := fun q hq => by
          rw [← hst, ← hh]; unfold flipS; rw [hq]
        rcases hc with hc | hc | hc
        · have hff := hff 1 hc
          (repeat' ((conv => whnf); first | (refine Giv.mk fun _ => ?_) | (refine Alt.l (Need.mk ?h ?_); case h => omega) | (refine Alt.r (Need.mk ?h ?_); case h => omega) | (refine Need.mk ?h ?_; case h => first | omega | (intro _; rfl) | assumption | (simp <;> omega)) | refine Ix.zero ?_ | refine Ix.one ?_ | refine Ix.two ?_ | refine Ix.nat ?_ | refine Ix.add ?_ | (apply Go.Eng.Pin.mk; apply Exists.intro) | apply Go.Eng.Pinned.mk rfl rfl | (apply Go.Eng.PinH.mk; apply Exists.intro; apply Exists.intro) | exact Go.Eng.Fin0.mk | refine Go.Eng.Chk.mk ?_ ?_ | refine Own.l ?_ | fail))
          refine ix_at 1 hc ?_
          (repeat' ((conv => whnf); first | (refine Giv.mk fun _ => ?_) | (refine Alt.l (Need.mk ?h ?_); case h => omega) | (refine Alt.r (Need.mk ?h ?_); case h => omega) | (refine Need.mk ?h ?_; case h => first | omega | (intro _; rfl) | assumption | (simp <;> omega)) | refine Ix.zero ?_ | refine Ix.one ?_ | refine Ix.two ?_ | refine Ix.nat ?_ | refine Ix.add ?_ | (apply Go.Eng.Pin.mk; apply Exists.intro) | apply Go.Eng.Pinned.mk rfl rfl | (apply Go.Eng.PinH.mk; apply Exists.intro; apply Exists.intro) | exact Go.Eng.Fin0.mk | refine Go.Eng.Chk.mk ?_ ?_ | refine Own.l ?_ | fail))
          refine ⟨(k + 1 : Nat), by show S.reverse.length - (k + 1) < S.reverse.length - k; omega, hlt, ?_⟩
          (repeat' (first | exact trivial | rfl | exact Nat.one_pos | (refine And.intro ?_ ?_) | omega | ((conv => whnf); (refine And.intro ?_ ?_)) | ((conv => whnf); exact trivial)))
          exact hff
        · have hff := hff 2 hc
          (repeat' ((conv => whnf); first | (refine Giv.mk fun _ => ?_) | (refine Alt.l (Need.mk ?h ?_); case h => omega) | (refine Alt.r (Need.mk ?h ?_); case h => omega) | (refine Need.mk ?h ?_; case h => first | omega | (intro _; rfl) | assumption | (simp <;> omega)) | refine Ix.zero ?_ | refine Ix.one ?_ | refine Ix.two ?_ | refine Ix.nat ?_ | refine Ix.add ?_ | (apply Go.Eng.Pin.mk; apply Exists.intro) | apply Go.Eng.Pinned.mk rfl rfl | (apply Go.Eng.PinH.mk; apply Exists.intro; apply Exists.intro) | exact Go.Eng.Fin0.mk | refine Go.Eng.Chk.mk ?_ ?_ | refine Own.l ?_ | fail))
          refine ix_at 2 hc ?_
          (repeat' ((conv => whnf); first | (refine Giv.mk fun _ => ?_) | (refine Alt.l (Need.mk ?h ?_); case h => omega) | (refine Alt.r (Need.mk ?h ?_); case h => omega) | (refine Need.mk ?h ?_; case h => first | omega | (intro _; rfl) | assumption | (simp <;> omega)) | refine Ix.zero ?_ | refine Ix.one ?_ | refine Ix.two ?_ | refine Ix.nat ?_ | refine Ix.add ?_ | (apply Go.Eng.Pin.mk; apply Exists.intro) | apply Go.Eng.Pinned.mk rfl rfl | (apply Go.Eng.PinH.mk; apply Exists.intro; apply Exists.intro) | exact Go.Eng.Fin0.mk | refine Go.Eng.Chk.mk ?_ ?_ | refine Own.l ?_ | fail))
          refine ⟨(k + 1 : Nat), by show S.reverse.length - (k + 1) < S.reverse.length - k; omega, hlt, ?_⟩
          (repeat' (first | exact trivial | rfl | exact Nat.one_pos | (refine And.intro ?_ ?_) | omega | ((conv => whnf); (refine And.intro ?_ ?_)) | ((conv => whnf); exact trivial)))
          exact hff
        · have hff := hff 3 hc
          (repeat' ((conv => whnf); first | (refine Giv.mk fun _ => ?_) | (refine Alt.l (Need.mk ?h ?_); case h => omega) | (refine Alt.r (Need.mk ?h ?_); case h => omega) | (refine Need.mk ?h ?_; case h => first | omega | (intro _; rfl) | assumption | (simp <;> omega)) | refine Ix.zero ?_ | refine Ix.one ?_ | refine Ix.two ?_ | refine Ix.nat ?_ | refine Ix.add ?_ | (apply Go.Eng.Pin.mk; apply Exists.intro) | apply Go.Eng.Pinned.mk rfl rfl | (apply Go.Eng.PinH.mk; apply Exists.intro; apply Exists.intro) | exact Go.Eng.Fin0.mk | refine Go.Eng.Chk.mk ?_ ?_ | refine Own.l ?_ | fail))
          refine ix_at 3 hc ?_
          (repeat' ((conv => whnf); first | (refine Giv.mk fun _ => ?_) | (refine Alt.l (Need.mk ?h ?_); case h => omega) | (refine Alt.r (Need.mk ?h ?_); case h => omega) | (refine Need.mk ?h ?_; case h => first | omega | (intro _; rfl) | assumption | (simp <;> omega)) | refine Ix.zero ?_ | refine Ix.one ?_ | refine Ix.two ?_ | refine Ix.nat ?_ | refine Ix.add ?_ | (apply Go.Eng.Pin.mk; apply Exists.intro) | apply Go.Eng.Pinned.mk rfl rfl | (apply Go.Eng.PinH.mk; apply Exists.intro; apply Exists.intro) | exact Go.Eng.Fin0.mk | refine Go.Eng.Chk.mk ?_ ?_ | refine Own.l ?_ | fail))
          refine ⟨(k + 1 : Nat), by show S.reverse.length - (k + 1) < S.reverse.length - k; omega, hlt, ?_⟩
          (repeat' (first | exact trivial | rfl | exact Nat.one_pos | (refine And.intro ?_ ?_) | omega | ((conv => whnf); (refine And.intro ?_ ?_)) | ((conv => whnf); exact trivial)))
          exact hff
      · have hii : k = S.reverse.length := by omega
        have hfa : flipAt S.reverse k = S.reverse.map flipS := by unfold flipAt; rw [hii, List.take_length, List.drop_length, List.append_nil]
        have hre : revRes S = S.reverse.map flipS := by unfold revRes; rw [if_pos h]
        (repeat' ((conv => whnf); first | (refine Giv.mk fun _ => ?_) | (refine Alt.l (Need.mk ?h ?_); case h => omega) | (refine Alt.r (Need.mk ?h ?_); case h => omega) | (refine Need.mk ?h ?_; case h => first | omega | (intro _; rfl) | assumption | (simp <;> omega)) | refine Ix.zero ?_ | refine Ix.one ?_ | refine Ix.two ?_ | refine Ix.nat ?_ | refine Ix.add ?_ | (apply Go.Eng.Pin.mk; apply Exists.intro) | apply Go.Eng.Pinned.mk rfl rfl | (apply Go.Eng.PinH.mk; apply Exists.intro; apply Exists.intro) | exact Go.Eng.Fin0.mk | refine Go.Eng.Chk.mk ?_ ?_ | refine Own.l ?_ | fail))
        (repeat' (first | exact trivial | rfl | exact Nat.one_pos | (refine And.intro ?_ ?_) | ((conv => whnf); (refine And.intro ?_ ?_)) | ((conv => whnf); exact trivial)))
        · (conv => whnf)
          rw [hfa, hre]
        · (conv => whnf)
          exact h.symm
def c27 : Con := mkCon 27 true fun args K => match args with | [.seq (.pair (.int .i64) (.int .i64)) S] => K (.tup [Ps (revRes S), I (chkE (-1) S)]) | _ => False
theorem k27 : ConOK Try.prog c27 := by
  refine conOK_of rfl (enters_of Try.func27 (by kernel_rfl) rfl) ?_
  intro args K h
  simp only [c27] at h
  split at h
  · rename_i S; exact ⟨_, h, tri_of_body (Γ := [c23, c51, c60]) (by simp [k23, k51, k60]) Try.func27 (by simp [Try.ntmps27]) rfl (b27 S)⟩
  · exact h.elim
end EB
end
section
set_option linter.unusedVariables false
open Go Go.Proofs Go.Eng Go.Shelf
set_option linter.unusedVariables false
namespace EB
set_option maxRecDepth 10000
/-! ### kingpostref55.Standing -/
def blF (n : Int) (f : Nat → Bool) : List Bool := (List.range n.toNat).map f
theorem blF_len (n : Int) (f : Nat → Bool) : (blF n f).length = n.toNat := by simp [blF]
theorem blF_get (n : Int) (f : Nat → Bool) (i : Nat) (h : i < n.toNat) : (blF n f).getD i false = f i := by
  simp [blF, List.getD_eq_getElem?_getD, h]
theorem idxL_blF (n : Int) (f : Nat → Bool) : idxL (blF n f) (blF n f).length = memL n f := by
  unfold idxL memL
  rw [blF_len]
  congr 1
  apply List.filter_congr
  intro i hi
  exact blF_get n f i (List.mem_range.1 hi)
theorem blF_set {n : Int} {f g : Nat → Bool} {b : Bool} {m : Nat} (h1 : g m = b) (h2 : ∀ j, j ≠ m → g j = f j) : (blF n f).set m b = blF n g := by
  apply List.ext_getElem?
  intro j
  rw [List.getElem?_set, blF_len]
  by_cases e : m = j
  · subst e
    rw [if_pos rfl]
    by_cases hm : m < n.toNat
    · rw [if_pos hm]; simp [blF, hm, h1]
    · rw [if_neg hm, List.getElem?_eq_none (by rw [blF_len]; omega)]
  · rw [if_neg e]
    unfold blF
    rw [List.getElem?_map, List.getElem?_map]
    by_cases hj : j < n.toNat
    · rw [List.getElem?_range hj]
      exact congrArg some (h2 j (fun h => e h.symm)).symm
    · rw [List.getElem?_eq_none (by simpa using Nat.le_of_not_lt hj)]; rfl
theorem blF_congr {n : Int} {f g : Nat → Bool} (h : ∀ j, g j = f j) : blF n f = blF n g := by
  unfold blF; congr 1; funext j; exact (h j).symm
theorem blF_nil (n : Int) (f : Nat → Bool) (h : ∀ j, f j = false) : List.replicate n.toNat false = blF n f := by
  apply List.ext_getElem
  · simp [blF]
  · intro i h1 h2; simp [blF, h]
theorem b26 (n : Int) (S : List (Int × Int)) (k : Int) : body Try.prog [c58, c59] { asks := [(0, [])] } false Try.f26 [I n, Ps S, I k] (.tup [Ls (stdM n S k), Ls (stdP n S k), I (stdE n S k)]) := by
  have hend : ∀ {e : Int}, e = stdE n S k → ¬ e = 0 → [] = stdM n S k ∧ [] = stdP n S k ∧ e = stdE n S k := fun h h0 => ⟨(std_bad h h0).1, (std_bad h h0).2, h⟩
  (repeat' ((conv => whnf); first | (refine Giv.mk fun _ => ?_) | (refine Alt.l (Need.mk ?h ?_); case h => omega) | (refine Alt.r (Need.mk ?h ?_); case h => omega) | (refine Need.mk ?h ?_; case h => first | omega | (intro _; rfl) | assumption | (simp <;> omega)) | refine Ix.zero ?_ | refine Ix.one ?_ | refine Ix.two ?_ | refine Ix.nat ?_ | refine Ix.add ?_ | (apply Go.Eng.Pin.mk; apply Exists.intro) | apply Go.Eng.Pinned.mk rfl rfl | (apply Go.Eng.PinH.mk; apply Exists.intro; apply Exists.intro) | exact Go.Eng.Fin0.mk | refine Go.Eng.Chk.mk ?_ ?_ | refine Own.l ?_ | fail))
  (repeat' ((conv => whnf); first | (refine Giv.mk fun _ => ?_) | (refine Alt.l (Need.mk ?h ?_); case h => omega) | (refine Alt.r (Need.mk ?h ?_); case h => omega) | (refine Need.mk ?h ?_; case h => first | omega | (intro _; rfl) | assumption | (simp <;> omega)) | refine Ix.zero ?_ | refine Ix.one ?_ | refine Ix.two ?_ | refine Ix.nat ?_ | refine Ix.add ?_ | (apply Go.Eng.Pin.mk; apply Exists.intro) | apply Go.Eng.Pinned.mk rfl rfl | (apply Go.Eng.PinH.mk; apply Exists.intro; apply Exists.intro) | exact Go.Eng.Fin0.mk | refine Go.Eng.Chk.mk ?_ ?_ | refine Own.l ?_ | (refine Br.mkY ?h ?_; case h => first | omega | assumption) | (refine Br.mkN ?h ?_; case h => first | omega | assumption | exact not_not_intro (by assumption)) | (refine Br.mk (fun _ => ?_) (fun _ => ?_)) | fail))
  · have e : (1 : Int) = stdE n S k := by unfold stdE; rw [if_pos (by omega)]
    obtain ⟨e1, e2, e3⟩ := hend e (by omega)
    (conv => whnf)
    (repeat' (first | exact trivial | rfl | exact Nat.one_pos | (refine And.intro ?_ ?_) | ((conv => whnf); (refine And.intro ?_ ?_)) | ((conv => whnf); exact trivial)))
    all_goals assumption
  · have e : (1 : Int) = stdE n S k := by unfold stdE; rw [if_pos (by omega)]
    obtain ⟨e1, e2, e3⟩ := hend e (by omega)
    (conv => whnf)
    (repeat' (first | exact trivial | rfl | exact Nat.one_pos | (refine And.intro ?_ ?_) | ((conv => whnf); (refine And.intro ?_ ?_)) | ((conv => whnf); exact trivial)))
    all_goals assumption
  · rename_i hc
    have e : chkE n S = stdE n S k := by unfold stdE; rw [if_neg (by omega), if_pos hc]
    obtain ⟨e1, e2, e3⟩ := hend e hc
    (conv => whnf)
    (repeat' (first | exact trivial | rfl | exact Nat.one_pos | (refine And.intro ?_ ?_) | ((conv => whnf); (refine And.intro ?_ ?_)) | ((conv => whnf); exact trivial)))
    all_goals assumption
  · rename_i hc _
    have e : 2 = stdE n S k := by unfold stdE; rw [if_neg (by omega), if_neg hc, if_pos (by omega)]
    obtain ⟨e1, e2, e3⟩ := hend e (by omega)
    (conv => whnf)
    (repeat' (first | exact trivial | rfl | exact Nat.one_pos | (refine And.intro ?_ ?_) | ((conv => whnf); (refine And.intro ?_ ?_)) | ((conv => whnf); exact trivial)))
    all_goals assumption
  · rename_i hc _ _ _
    have e : 2 = stdE n S k := by unfold stdE; rw [if_neg (by omega), if_neg hc, if_pos (by omega)]
    obtain ⟨e1, e2, e3⟩ := hend e (by omega)
    (conv => whnf)
    (repeat' (first | exact trivial | rfl | exact Nat.one_pos | (refine And.intro ?_ ?_) | ((conv => whnf); (refine And.intro ?_ ?_)) | ((conv => whnf); exact trivial)))
    all_goals assumption
  rename_i hc _ _ _
  have hc := Classical.not_not.1 hc
  have hn : 0 ≤ n := by omega
  have hck := chkE_ok hn hc
  have hso : stdE n S k = 0 := by unfold stdE; rw [if_neg (by omega), if_neg (not_not_intro hc), if_neg (by omega)]
  obtain ⟨p, rfl⟩ : ∃ p : Nat, k = p := ⟨k.toNat, by omega⟩
  refine Need.mk (show 0 ≤ n ∧ n ≤ n ∧ n ≤ 140737488355328 ∧ n * ((1 : Nat) : Int) ≤ 140737488355328 by omega) ?_
  (repeat' ((conv => whnf); first | (refine Giv.mk fun _ => ?_) | (refine Alt.l (Need.mk ?h ?_); case h => omega) | (refine Alt.r (Need.mk ?h ?_); case h => omega) | (refine Need.mk ?h ?_; case h => first | omega | (intro _; rfl) | assumption | (simp <;> omega)) | refine Ix.zero ?_ | refine Ix.one ?_ | refine Ix.two ?_ | refine Ix.nat ?_ | refine Ix.add ?_ | (apply Go.Eng.Pin.mk; apply Exists.intro) | apply Go.Eng.Pinned.mk rfl rfl | (apply Go.Eng.PinH.mk; apply Exists.intro; apply Exists.intro) | exact Go.Eng.Fin0.mk | refine Go.Eng.Chk.mk ?_ ?_ | (refine Br.mkY ?h ?_; case h => first | omega | assumption) | (refine Br.mkN ?h ?_; case h => first | omega | assumption | exact not_not_intro (by assumption)) | fail))
  refine Need.mk (show 0 ≤ n ∧ n ≤ n ∧ n ≤ 140737488355328 ∧ n * ((1 : Nat) : Int) ≤ 140737488355328 by omega) ?_
  (repeat' ((conv => whnf); first | (refine Giv.mk fun _ => ?_) | (refine Alt.l (Need.mk ?h ?_); case h => omega) | (refine Alt.r (Need.mk ?h ?_); case h => omega) | (refine Need.mk ?h ?_; case h => first | omega | (intro _; rfl) | assumption | (simp <;> omega)) | refine Ix.zero ?_ | refine Ix.one ?_ | refine Ix.two ?_ | refine Ix.nat ?_ | refine Ix.add ?_ | (apply Go.Eng.Pin.mk; apply Exists.intro) | apply Go.Eng.Pinned.mk rfl rfl | (apply Go.Eng.PinH.mk; apply Exists.intro; apply Exists.intro) | exact Go.Eng.Fin0.mk | refine Go.Eng.Chk.mk ?_ ?_ | (refine Br.mkY ?h ?_; case h => first | omega | assumption) | (refine Br.mkN ?h ?_; case h => first | omega | assumption | exact not_not_intro (by assumption)) | fail))
  have hps : p ≤ S.length := by omega
  refine Ask.mk ⟨{ X := Nat, pre := fun i => i ≤ p, mod := fun i _ => [(12, I i)], heap := fun i _ => [.vec 1 (.int .i64) [] 3, .vec 1 (.int .i64) [] 3, .vec 1 .bool (blF n (stB (S.take i))) 4, .vec 1 .bool (blF n (prB (S.take i))) 4], mu := fun i => p - i }, rfl, ?_⟩
  (repeat' ((conv => whnf); first | (refine Giv.mk fun _ => ?_) | (refine Alt.l (Need.mk ?h ?_); case h => omega) | (refine Alt.r (Need.mk ?h ?_); case h => omega) | (refine Need.mk ?h ?_; case h => first | omega | (intro _; rfl) | assumption | (simp <;> omega)) | refine Ix.zero ?_ | refine Ix.one ?_ | refine Ix.two ?_ | refine Ix.nat ?_ | refine Ix.add ?_ | (apply Go.Eng.Pin.mk; apply Exists.intro) | apply Go.Eng.Pinned.mk rfl rfl | (apply Go.Eng.PinH.mk; apply Exists.intro; apply Exists.intro) | exact Go.Eng.Fin0.mk | refine Go.Eng.Chk.mk ?_ ?_ | refine Own.l ?_ | fail))
  refine ⟨⟨(0 : Nat), Nat.zero_le _, ?_⟩, fun (i : Nat) (hi : i ≤ p) => ?_⟩
  · (repeat' (first | exact trivial | rfl | exact Nat.one_pos | (refine And.intro ?_ ?_) | omega | ((conv => whnf); (refine And.intro ?_ ?_)) | ((conv => whnf); exact trivial)))
    · exact blF_nil n _ fun j => rfl
    · exact blF_nil n _ fun j => rfl
  · (repeat' ((conv => whnf); first | (refine Giv.mk fun _ => ?_) | (refine Alt.l (Need.mk ?h ?_); case h => omega) | (refine Alt.r (Need.mk ?h ?_); case h => omega) | (refine Need.mk ?h ?_; case h => first | omega | (intro _; rfl) | assumption | (simp <;> omega)) | refine Ix.zero ?_ | refine Ix.one ?_ | refine Ix.two ?_ | refine Ix.nat ?_ | refine Ix.add ?_ | (apply Go.Eng.Pin.mk; apply Exists.intro) | apply Go.Eng.Pinned.mk rfl rfl | (apply Go.Eng.PinH.mk; apply Exists.intro; apply Exists.intro) | exact Go.Eng.Fin0.mk | refine Go.Eng.Chk.mk ?_ ?_ | refine Own.l ?_ | fail))
    (refine Br.mk (fun _ => ?_) (fun _ => ?_))
    · have hip : i < p := by omega
      obtain ⟨m1, m2, m3⟩ := hck i (by omega)
      have hl1 := blF_len n (stB (S.take i))
      have hl2 := blF_len n (prB (S.take i))
      have ht := take_pair S i (by omega)
      obtain ⟨q, hq⟩ : ∃ q : Nat, (S.getD i (0, 0)).2 = (q : Int) := ⟨(S.getD i (0, 0)).2.toNat, by omega⟩
      have hs1 : ∀ m, stB (S.take (i + 1)) m = if (S.getD i (0, 0)).2 = (m : Int) ∧ (S.getD i (0, 0)).1 = 1 then true else stB (S.take i) m := fun m => by rw [ht]; exact stB_snoc _ _ m
      have hs2 : ∀ m, prB (S.take (i + 1)) m = if (S.getD i (0, 0)).2 = (m : Int) then (if (S.getD i (0, 0)).1 = 1 then prB (S.take i) m else decide ((S.getD i (0, 0)).1 = 2)) else prB (S.take i) m := fun m => by rw [ht]; exact prB_snoc _ _ m
      (repeat' ((conv => whnf); first | (refine Giv.mk fun _ => ?_) | (refine Alt.l (Need.mk ?h ?_); case h => omega) | (refine Alt.r (Need.mk ?h ?_); case h => omega) | (refine Need.mk ?h ?_; case h => first | omega | (intro _; rfl) | assumption | (simp <;> omega)) | refine Ix.zero ?_ | refine Ix.one ?_ | refine Ix.two ?_ | refine Ix.nat ?_ | refine Ix.add ?_ | (apply Go.Eng.Pin.mk; apply Exists.intro) | apply Go.Eng.Pinned.mk rfl rfl | (apply Go.Eng.PinH.mk; apply Exists.intro; apply Exists.intro) | exact Go.Eng.Fin0.mk | refine Go.Eng.Chk.mk ?_ ?_ | (refine Br.mkY ?h ?_; case h => first | omega | assumption) | (refine Br.mkN ?h ?_; case h => first | omega | assumption | exact not_not_intro (by assumption)) | fail))
      refine Br.mk (fun k1 => ?_) (fun k1 => ?_)
      · (repeat' ((conv => whnf); first | (refine Giv.mk fun _ => ?_) | (refine Alt.l (Need.mk ?h ?_); case h => omega) | (refine Alt.r (Need.mk ?h ?_); case h => omega) | (refine Need.mk ?h ?_; case h => first | omega | (intro _; rfl) | assumption | (simp <;> omega)) | refine Ix.zero ?_ | refine Ix.one ?_ | refine Ix.two ?_ | refine Ix.nat ?_ | refine Ix.add ?_ | (apply Go.Eng.Pin.mk; apply Exists.intro) | apply Go.Eng.Pinned.mk rfl rfl | (apply Go.Eng.PinH.mk; apply Exists.intro; apply Exists.intro) | exact Go.Eng.Fin0.mk | refine Go.Eng.Chk.mk ?_ ?_ | (refine Br.mkY ?h ?_; case h => first | omega | assumption) | (refine Br.mkN ?h ?_; case h => first | omega | assumption | exact not_not_intro (by assumption)) | fail))
        refine ix_at q hq ?_
        (repeat' ((conv => whnf); first | (refine Giv.mk fun _ => ?_) | (refine Alt.l (Need.mk ?h ?_); case h => omega) | (refine Alt.r (Need.mk ?h ?_); case h => omega) | (refine Need.mk ?h ?_; case h => first | omega | (intro _; rfl) | assumption | (simp <;> omega)) | refine Ix.zero ?_ | refine Ix.one ?_ | refine Ix.two ?_ | refine Ix.nat ?_ | refine Ix.add ?_ | (apply Go.Eng.Pin.mk; apply Exists.intro) | apply Go.Eng.Pinned.mk rfl rfl | (apply Go.Eng.PinH.mk; apply Exists.intro; apply Exists.intro) | exact Go.Eng.Fin0.mk | refine Go.Eng.Chk.mk ?_ ?_ | (refine Br.mkY ?h ?_; case h => first | omega | assumption) | (refine Br.mkN ?h ?_; case h => first | omega | assumption | exact not_not_intro (by assumption)) | fail))
        refine ⟨(i + 1 : Nat), by show p - (i + 1) < p - i; omega, hip, ?_⟩
        (repeat' (first | exact trivial | rfl | exact Nat.one_pos | (refine And.intro ?_ ?_) | omega | ((conv => whnf); (refine And.intro ?_ ?_)) | ((conv => whnf); exact trivial)))
        · exact blF_set (by rw [hs1, if_pos ⟨hq, k1⟩]) fun j hj => by rw [hs1, if_neg (by omega)]
        · exact blF_congr fun j => by rw [hs2]; split <;> simp [k1]
      · (repeat' ((conv => whnf); first | (refine Giv.mk fun _ => ?_) | (refine Alt.l (Need.mk ?h ?_); case h => omega) | (refine Alt.r (Need.mk ?h ?_); case h => omega) | (refine Need.mk ?h ?_; case h => first | omega | (intro _; rfl) | assumption | (simp <;> omega)) | refine Ix.zero ?_ | refine Ix.one ?_ | refine Ix.two ?_ | refine Ix.nat ?_ | refine Ix.add ?_ | (apply Go.Eng.Pin.mk; apply Exists.intro) | apply Go.Eng.Pinned.mk rfl rfl | (apply Go.Eng.PinH.mk; apply Exists.intro; apply Exists.intro) | exact Go.Eng.Fin0.mk | refine Go.Eng.Chk.mk ?_ ?_ | (refine Br.mkY ?h ?_; case h => first | omega | assumption) | (refine Br.mkN ?h ?_; case h => first | omega | assumption | exact not_not_intro (by assumption)) | fail))
        refine Br.mk (fun k2 => ?_) (fun k2 => ?_)
        · (repeat' ((conv => whnf); first | (refine Giv.mk fun _ => ?_) | (refine Alt.l (Need.mk ?h ?_); case h => omega) | (refine Alt.r (Need.mk ?h ?_); case h => omega) | (refine Need.mk ?h ?_; case h => first | omega | (intro _; rfl) | assumption | (simp <;> omega)) | refine Ix.zero ?_ | refine Ix.one ?_ | refine Ix.two ?_ | refine Ix.nat ?_ | refine Ix.add ?_ | (apply Go.Eng.Pin.mk; apply Exists.intro) | apply Go.Eng.Pinned.mk rfl rfl | (apply Go.Eng.PinH.mk; apply Exists.intro; apply Exists.intro) | exact Go.Eng.Fin0.mk | refine Go.Eng.Chk.mk ?_ ?_ | (refine Br.mkY ?h ?_; case h => first | omega | assumption) | (refine Br.mkN ?h ?_; case h => first | omega | assumption | exact not_not_intro (by assumption)) | fail))
          refine ix_at q hq ?_
          (repeat' ((conv => whnf); first | (refine Giv.mk fun _ => ?_) | (refine Alt.l (Need.mk ?h ?_); case h => omega) | (refine Alt.r (Need.mk ?h ?_); case h => omega) | (refine Need.mk ?h ?_; case h => first | omega | (intro _; rfl) | assumption | (simp <;> omega)) | refine Ix.zero ?_ | refine Ix.one ?_ | refine Ix.two ?_ | refine Ix.nat ?_ | refine Ix.add ?_ | (apply Go.Eng.Pin.mk; apply Exists.intro) | apply Go.Eng.Pinned.mk rfl rfl | (apply Go.Eng.PinH.mk; apply Exists.intro; apply Exists.intro) | exact Go.Eng.Fin0.mk | refine Go.Eng.Chk.mk ?_ ?_ | (refine Br.mkY ?h ?_; case h => first | omega | assumption) | (refine Br.mkN ?h ?_; case h => first | omega | assumption | exact not_not_intro (by assumption)) | fail))
          refine ⟨(i + 1 : Nat), by show p - (i + 1) < p - i; omega, hip, ?_⟩
          (repeat' (first | exact trivial | rfl | exact Nat.one_pos | (refine And.intro ?_ ?_) | omega | ((conv => whnf); (refine And.intro ?_ ?_)) | ((conv => whnf); exact trivial)))
          · exact blF_congr fun j => by rw [hs1, if_neg (by omega)]
          · exact blF_set (by rw [hs2, if_pos hq, if_neg k1]; exact decide_eq_true k2) fun j hj => by rw [hs2, if_neg (by omega)]
        · (repeat' ((conv => whnf); first | (refine Giv.mk fun _ => ?_) | (refine Alt.l (Need.mk ?h ?_); case h => omega) | (refine Alt.r (Need.mk ?h ?_); case h => omega) | (refine Need.mk ?h ?_; case h => first | omega | (intro _; rfl) | assumption | (simp <;> omega)) | refine Ix.zero ?_ | refine Ix.one ?_ | refine Ix.two ?_ | refine Ix.nat ?_ | refine Ix.add ?_ | (apply Go.Eng.Pin.mk; apply Exists.intro) | apply Go.Eng.Pinned.mk rfl rfl | (apply Go.Eng.PinH.mk; apply Exists.intro; apply Exists.intro) | exact Go.Eng.Fin0.mk | refine Go.Eng.Chk.mk ?_ ?_ | (refine Br.mkY ?h ?_; case h => first | omega | assumption) | (refine Br.mkN ?h ?_; case h => first | omega | assumption | exact not_not_intro (by assumption)) | fail))
          refine ix_at q hq ?_
          (repeat' ((conv => whnf); first | (refine Giv.mk fun _ => ?_) | (refine Alt.l (Need.mk ?h ?_); case h => omega) | (refine Alt.r (Need.mk ?h ?_); case h => omega) | (refine Need.mk ?h ?_; case h => first | omega | (intro _; rfl) | assumption | (simp <;> omega)) | refine Ix.zero ?_ | refine Ix.one ?_ | refine Ix.two ?_ | refine Ix.nat ?_ | refine Ix.add ?_ | (apply Go.Eng.Pin.mk; apply Exists.intro) | apply Go.Eng.Pinned.mk rfl rfl | (apply Go.Eng.PinH.mk; apply Exists.intro; apply Exists.intro) | exact Go.Eng.Fin0.mk | refine Go.Eng.Chk.mk ?_ ?_ | (refine Br.mkY ?h ?_; case h => first | omega | assumption) | (refine Br.mkN ?h ?_; case h => first | omega | assumption | exact not_not_intro (by assumption)) | fail))
          refine ⟨(i + 1 : Nat), by show p - (i + 1) < p - i; omega, hip, ?_⟩
          (repeat' (first | exact trivial | rfl | exact Nat.one_pos | (refine And.intro ?_ ?_) | omega | ((conv => whnf); (refine And.intro ?_ ?_)) | ((conv => whnf); exact trivial)))
          · exact blF_congr fun j => by rw [hs1, if_neg (by omega)]
          · exact blF_set (by rw [hs2, if_pos hq, if_neg k1]; exact decide_eq_false k2) fun j hj => by rw [hs2, if_neg (by omega)]
    · have hip : i = p := by omega
      subst hip
      have hl1 := blF_len n (stB (S.take i))
      have hl2 := blF_len n (prB (S.take i))
      have e1 := idxL_blF n (stB (S.take i))
      have e2 := idxL_blF n (prB (S.take i))
      (repeat' ((conv => whnf); first | (refine Giv.mk fun _ => ?_) | (refine Alt.l (Need.mk ?h ?_); case h => omega) | (refine Alt.r (Need.mk ?h ?_); case h => omega) | (refine Need.mk ?h ?_; case h => first | omega | (intro _; rfl) | assumption | (simp <;> omega)) | refine Ix.zero ?_ | refine Ix.one ?_ | refine Ix.two ?_ | refine Ix.nat ?_ | refine Ix.add ?_ | (apply Go.Eng.Pin.mk; apply Exists.intro) | apply Go.Eng.Pinned.mk rfl rfl | (apply Go.Eng.PinH.mk; apply Exists.intro; apply Exists.intro) | exact Go.Eng.Fin0.mk | refine Go.Eng.Chk.mk ?_ ?_ | (refine Br.mkY ?h ?_; case h => first | omega | assumption) | (refine Br.mkN ?h ?_; case h => first | omega | assumption | exact not_not_intro (by assumption)) | fail))
      (conv => whnf)
      (repeat' (first | exact trivial | rfl | exact Nat.one_pos | (refine And.intro ?_ ?_) | ((conv => whnf); (refine And.intro ?_ ?_)) | ((conv => whnf); exact trivial)))
      · (conv => whnf)
        rw [e1]; unfold stdM; rw [if_pos hso]; rfl
      · (conv => whnf)
        rw [e2]; unfold stdP; rw [if_pos hso]; rfl
      · exact hso.symm
def c26 : Con := mkCon 26 false fun args K => match args with | [.val (.int .i64 n), .seq (.pair (.int .i64) (.int .i64)) S, .val (.int .i64 k)] => K (.tup [Ls (stdM n S k), Ls (stdP n S k), I (stdE n S k)]) | _ => False
theorem k26 : ConOK Try.prog c26 := by
  refine conOK_of rfl (enters_of Try.func26 (by kernel_rfl) rfl) ?_
  intro args K h
  simp only [c26] at h
  split at h
  · rename_i n S k; exact ⟨_, h, tri_of_body (Γ := [c58, c59]) (by simp [k58, k59]) Try.func26 (by simp [Try.ntmps26]) rfl (b26 n S k)⟩
  · exact h.elim
end EB
end
section
set_option linter.unusedVariables false
open Go Go.Proofs Go.Eng Go.Shelf
set_option linter.unusedVariables false
namespace EB
set_option maxRecDepth 10000
/-! ### kingpostref55.Reverse -/
def revTo (S : List (Int × Int)) (i : Nat) : List (Int × Int) := (S.drop i).reverse.map flipS
theorem revTo_step (S : List (Int × Int)) (i : Nat) (h : i < S.length) : revTo S (i + 1) ++ [flipS (S.getD i (0, 0))] = revTo S i := by
  unfold revTo
  rw [List.drop_eq_getElem_cons h, List.reverse_cons, List.map_append]
  congr 1
  simp [List.getD_eq_getElem?_getD, h]
theorem revTo_len (S : List (Int × Int)) (i : Nat) : (revTo S i).length = S.length - i := by simp [revTo]
theorem b28 (S : List (Int × Int)) : body Try.prog [c58] { asks := [(0, [1])] } true Try.f28 [Ps S] (.tup [Ps (revRes S), I (chkE (-1) S)]) := by
  (repeat' ((conv => whnf); first | (refine Giv.mk fun _ => ?_) | (refine Alt.l (Need.mk ?h ?_); case h => omega) | (refine Alt.r (Need.mk ?h ?_); case h => omega) | (refine Need.mk ?h ?_; case h => first | omega | (intro _; rfl) | assumption | (simp <;> omega)) | refine Ix.zero ?_ | refine Ix.one ?_ | refine Ix.two ?_ | refine Ix.nat ?_ | refine Ix.add ?_ | (apply Go.Eng.Pin.mk; apply Exists.intro) | apply Go.Eng.Pinned.mk rfl rfl | (apply Go.Eng.PinH.mk; apply Exists.intro; apply Exists.intro) | exact Go.Eng.Fin0.mk | refine Go.Eng.Chk.mk ?_ ?_ | refine Own.l ?_ | fail))
  (refine Br.mk (fun _ => ?_) (fun _ => ?_))
  · rename_i h
    (repeat' ((conv => whnf); first | (refine Giv.mk fun _ => ?_) | (refine Alt.l (Need.mk ?h ?_); case h => omega) | (refine Alt.r (Need.mk ?h ?_); case h => omega) | (refine Need.mk ?h ?_; case h => first | omega | (intro _; rfl) | assumption | (simp <;> omega)) | refine Ix.zero ?_ | refine Ix.one ?_ | refine Ix.two ?_ | refine Ix.nat ?_ | refine Ix.add ?_ | (apply Go.Eng.Pin.mk; apply Exists.intro) | apply Go.Eng.Pinned.mk rfl rfl | (apply Go.Eng.PinH.mk; apply Exists.intro; apply Exists.intro) | exact Go.Eng.Fin0.mk | refine Go.Eng.Chk.mk ?_ ?_ | refine Own.l ?_ | fail))
    (conv => whnf)
    (repeat' (first | exact trivial | rfl | exact Nat.one_pos | (refine And.intro ?_ ?_) | ((conv => whnf); (refine And.intro ?_ ?_)) | ((conv => whnf); exact trivial)))
    (conv => whnf)
    unfold revRes
    rw [if_neg h]
  · rename_i h
    have h := Classical.not_not.1 h
    have hlen := chkE_len h
    have hm := chk_mem h
    (repeat' ((conv => whnf); first | (refine Giv.mk fun _ => ?_) | (refine Alt.l (Need.mk ?h ?_); case h => omega) | (refine Alt.r (Need.mk ?h ?_); case h => omega) | (refine Need.mk ?h ?_; case h => first | omega | (intro _; rfl) | assumption | (simp <;> omega)) | refine Ix.zero ?_ | refine Ix.one ?_ | refine Ix.two ?_ | refine Ix.nat ?_ | refine Ix.add ?_ | (apply Go.Eng.Pin.mk; apply Exists.intro) | apply Go.Eng.Pinned.mk rfl rfl | (apply Go.Eng.PinH.mk; apply Exists.intro; apply Exists.intro) | exact Go.Eng.Fin0.mk | refine Go.Eng.Chk.mk ?_ ?_ | refine Own.l ?_ | fail))
    refine Ask.mk ⟨{ X := Nat, pre := fun i => i ≤ S.length, mod := fun i _ => [(5, .ref 1 1), (6, I ((i : Int) - 1))], objs := [1], heap := fun i _ => [.vec 1 Two [] 29, .vec 1 Two (revTo S i) 29], mu := fun i => i }, rfl, ?_⟩
    (repeat' ((conv => whnf); first | (refine Giv.mk fun _ => ?_) | (refine Alt.l (Need.mk ?h ?_); case h => omega) | (refine Alt.r (Need.mk ?h ?_); case h => omega) | (refine Need.mk ?h ?_; case h => first | omega | (intro _; rfl) | assumption | (simp <;> omega)) | refine Ix.zero ?_ | refine Ix.one ?_ | refine Ix.two ?_ | refine Ix.nat ?_ | refine Ix.add ?_ | (apply Go.Eng.Pin.mk; apply Exists.intro) | apply Go.Eng.Pinned.mk rfl rfl | (apply Go.Eng.PinH.mk; apply Exists.intro; apply Exists.intro) | exact Go.Eng.Fin0.mk | refine Go.Eng.Chk.mk ?_ ?_ | refine Own.l ?_ | fail))
    refine ⟨⟨(S.length : Nat), Nat.le_refl _, ?_⟩, fun (i : Nat) (hi : i ≤ S.length) => ?_⟩
    · have h0 : revTo S S.length = [] := by simp [revTo]
      (repeat' (first | exact trivial | rfl | exact Nat.one_pos | (refine And.intro ?_ ?_) | omega | ((conv => whnf); (refine And.intro ?_ ?_)) | ((conv => whnf); exact trivial)))
      rw [h0]
      exact rfl
    · have hl := revTo_len S i
      (repeat' ((conv => whnf); first | (refine Giv.mk fun _ => ?_) | (refine Alt.l (Need.mk ?h ?_); case h => omega) | (refine Alt.r (Need.mk ?h ?_); case h => omega) | (refine Need.mk ?h ?_; case h => first | omega | (intro _; rfl) | assumption | (simp <;> omega)) | refine Ix.zero ?_ | refine Ix.one ?_ | refine Ix.two ?_ | refine Ix.nat ?_ | refine Ix.add ?_ | (apply Go.Eng.Pin.mk; apply Exists.intro) | apply Go.Eng.Pinned.mk rfl rfl | (apply Go.Eng.PinH.mk; apply Exists.intro; apply Exists.intro) | exact Go.Eng.Fin0.mk | refine Go.Eng.Chk.mk ?_ ?_ | refine Own.l ?_ | fail))
      (refine Br.mk (fun _ => ?_) (fun _ => ?_))
      · obtain ⟨j, rfl⟩ : ∃ j, i = j + 1 := ⟨i - 1, by omega⟩
        have hj : j < S.length := by omega
        have hst := revTo_step S j hj
        obtain ⟨m1, m2⟩ := hm j hj
        have ej : ((j + 1 : Nat) : Int) - 1 = (j : Int) := by omega
        (repeat' ((conv => whnf); first | (refine Giv.mk fun _ => ?_) | (refine Alt.l (Need.mk ?h ?_); case h => omega) | (refine Alt.r (Need.mk ?h ?_); case h => omega) | (refine Need.mk ?h ?_; case h => first | omega | (intro _; rfl) | assumption | (simp <;> omega)) | refine Ix.zero ?_ | refine Ix.one ?_ | refine Ix.two ?_ | refine Ix.nat ?_ | refine Ix.add ?_ | (apply Go.Eng.Pin.mk; apply Exists.intro) | apply Go.Eng.Pinned.mk rfl rfl | (apply Go.Eng.PinH.mk; apply Exists.intro; apply Exists.intro) | exact Go.Eng.Fin0.mk | refine Go.Eng.Chk.mk ?_ ?_ | (refine Br.mkY ?h ?_; case h => first | omega | assumption) | (refine Br.mkN ?h ?_; case h => first | omega | assumption | exact not_not_intro (by assumption)) | fail))
        refine ix_at j ej ?_
        (repeat' ((conv => whnf); first | (refine Giv.mk fun _ => ?_) | (refine Alt.l (Need.mk ?h ?_); case h => omega) | (refine Alt.r (Need.mk ?h ?_); case h => omega) | (refine Need.mk ?h ?_; case h => first | omega | (intro _; rfl) | assumption | (simp <;> omega)) | refine Ix.zero ?_ | refine Ix.one ?_ | refine Ix.two ?_ | refine Ix.nat ?_ | refine Ix.add ?_ | (apply Go.Eng.Pin.mk; apply Exists.intro) | apply Go.Eng.Pinned.mk rfl rfl | (apply Go.Eng.PinH.mk; apply Exists.intro; apply Exists.intro) | exact Go.Eng.Fin0.mk | refine Go.Eng.Chk.mk ?_ ?_ | (refine Br.mkY ?h ?_; case h => first | omega | assumption) | (refine Br.mkN ?h ?_; case h => first | omega | assumption | exact not_not_intro (by assumption)) | fail))
        (refine Br.mk (fun _ => ?_) (fun _ => ?_))
        · rename_i k2
          have hf : flipS (S.getD j (0, 0)) = (3, (S.getD j (0, 0)).2) := by unfold flipS; rw [k2]; rfl
          rw [hf] at hst
          (repeat' ((conv => whnf); first | (refine Giv.mk fun _ => ?_) | (refine Alt.l (Need.mk ?h ?_); case h => omega) | (refine Alt.r (Need.mk ?h ?_); case h => omega) | (refine Need.mk ?h ?_; case h => first | omega | (intro _; rfl) | assumption | (simp <;> omega)) | refine Ix.zero ?_ | refine Ix.one ?_ | refine Ix.two ?_ | refine Ix.nat ?_ | refine Ix.add ?_ | (apply Go.Eng.Pin.mk; apply Exists.intro) | apply Go.Eng.Pinned.mk rfl rfl | (apply Go.Eng.PinH.mk; apply Exists.intro; apply Exists.intro) | exact Go.Eng.Fin0.mk | refine Go.Eng.Chk.mk ?_ ?_ | refine Own.l ?_ | (refine Br.mkY ?h ?_; case h => first | omega | assumption) | (refine Br.mkN ?h ?_; case h => first | omega | assumption | exact not_not_intro (by assumption)) | fail))
          refine ⟨(j : Nat), Nat.lt_succ_self j, by show j ≤ S.length; omega, ?_⟩
          (repeat' (first | exact trivial | rfl | exact Nat.one_pos | (refine And.intro ?_ ?_) | omega | ((conv => whnf); (refine And.intro ?_ ?_)) | ((conv => whnf); exact trivial)))
          exact hst
        · rename_i k2
          (repeat' ((conv => whnf); first | (refine Giv.mk fun _ => ?_) | (refine Alt.l (Need.mk ?h ?_); case h => omega) | (refine Alt.r (Need.mk ?h ?_); case h => omega) | (refine Need.mk ?h ?_; case h => first | omega | (intro _; rfl) | assumption | (simp <;> omega)) | refine Ix.zero ?_ | refine Ix.one ?_ | refine Ix.two ?_ | refine Ix.nat ?_ | refine Ix.add ?_ | (apply Go.Eng.Pin.mk; apply Exists.intro) | apply Go.Eng.Pinned.mk rfl rfl | (apply Go.Eng.PinH.mk; apply Exists.intro; apply Exists.intro) | exact Go.Eng.Fin0.mk | refine Go.Eng.Chk.mk ?_ ?_ | (refine Br.mkY ?h ?_; case h => first | omega | assumption) | (refine Br.mkN ?h ?_; case h => first | omega | assumption | exact not_not_intro (by assumption)) | fail))
          refine Br.mk (fun k3 => ?_) (fun k3 => ?_)
          · have hf : flipS (S.getD j (0, 0)) = (2, (S.getD j (0, 0)).2) := by unfold flipS; rw [k3]; rfl
            rw [hf] at hst
            (repeat' ((conv => whnf); first | (refine Giv.mk fun _ => ?_) | (refine Alt.l (Need.mk ?h ?_); case h => omega) | (refine Alt.r (Need.mk ?h ?_); case h => omega) | (refine Need.mk ?h ?_; case h => first | omega | (intro _; rfl) | assumption | (simp <;> omega)) | refine Ix.zero ?_ | refine Ix.one ?_ | refine Ix.two ?_ | refine Ix.nat ?_ | refine Ix.add ?_ | (apply Go.Eng.Pin.mk; apply Exists.intro) | apply Go.Eng.Pinned.mk rfl rfl | (apply Go.Eng.PinH.mk; apply Exists.intro; apply Exists.intro) | exact Go.Eng.Fin0.mk | refine Go.Eng.Chk.mk ?_ ?_ | refine Own.l ?_ | (refine Br.mkY ?h ?_; case h => first | omega | assumption) | (refine Br.mkN ?h ?_; case h => first | omega | assumption | exact not_not_intro (by assumption)) | fail))
            refine ⟨(j : Nat), Nat.lt_succ_self j, by show j ≤ S.length; omega, ?_⟩
            (repeat' (first | exact trivial | rfl | exact Nat.one_pos | (refine And.intro ?_ ?_) | omega | ((conv => whnf); (refine And.intro ?_ ?_)) | ((conv => whnf); exact trivial)))
            exact hst
          · have hf : flipS (S.getD j (0, 0)) = ((S.getD j (0, 0)).1, (S.getD j (0, 0)).2) := by
              have : (S.getD j (0, 0)).1 = 1 := by omega
              unfold flipS; rw [this]; rfl
            rw [hf] at hst
            (repeat' ((conv => whnf); first | (refine Giv.mk fun _ => ?_) | (refine Alt.l (Need.mk ?h ?_); case h => omega) | (refine Alt.r (Need.mk ?h ?_); case h => omega) | (refine Need.mk ?h ?_; case h => first | omega | (intro _; rfl) | assumption | (simp <;> omega)) | refine Ix.zero ?_ | refine Ix.one ?_ | refine Ix.two ?_ | refine Ix.nat ?_ | refine Ix.add ?_ | (apply Go.Eng.Pin.mk; apply Exists.intro) | apply Go.Eng.Pinned.mk rfl rfl | (apply Go.Eng.PinH.mk; apply Exists.intro; apply Exists.intro) | exact Go.Eng.Fin0.mk | refine Go.Eng.Chk.mk ?_ ?_ | refine Own.l ?_ | (refine Br.mkY ?h ?_; case h => first | omega | assumption) | (refine Br.mkN ?h ?_; case h => first | omega | assumption | exact not_not_intro (by assumption)) | fail))
            refine ⟨(j : Nat), Nat.lt_succ_self j, by show j ≤ S.length; omega, ?_⟩
            (repeat' (first | exact trivial | rfl | exact Nat.one_pos | (refine And.intro ?_ ?_) | omega | ((conv => whnf); (refine And.intro ?_ ?_)) | ((conv => whnf); exact trivial)))
            exact hst
      · have hi0 : i = 0 := by omega
        subst hi0
        have hre : revTo S 0 = revRes S := by unfold revTo revRes; rw [if_pos h, List.drop_zero]
        (repeat' ((conv => whnf); first | (refine Giv.mk fun _ => ?_) | (refine Alt.l (Need.mk ?h ?_); case h => omega) | (refine Alt.r (Need.mk ?h ?_); case h => omega) | (refine Need.mk ?h ?_; case h => first | omega | (intro _; rfl) | assumption | (simp <;> omega)) | refine Ix.zero ?_ | refine Ix.one ?_ | refine Ix.two ?_ | refine Ix.nat ?_ | refine Ix.add ?_ | (apply Go.Eng.Pin.mk; apply Exists.intro) | apply Go.Eng.Pinned.mk rfl rfl | (apply Go.Eng.PinH.mk; apply Exists.intro; apply Exists.intro) | exact Go.Eng.Fin0.mk | refine Go.Eng.Chk.mk ?_ ?_ | refine Own.l ?_ | (refine Br.mkY ?h ?_; case h => first | omega | assumption) | (refine Br.mkN ?h ?_; case h => first | omega | assumption | exact not_not_intro (by assumption)) | fail))
        (conv => whnf)
        (repeat' (first | exact trivial | rfl | exact Nat.one_pos | (refine And.intro ?_ ?_) | ((conv => whnf); (refine And.intro ?_ ?_)) | ((conv => whnf); exact trivial)))
        · (conv => whnf)
          rw [hre]
        · exact h.symm
def c28 : Con := mkCon 28 true fun args K => match args with | [.seq (.pair (.int .i64) (.int .i64)) S] => K (.tup [Ps (revRes S), I (chkE (-1) S)]) | _ => False
theorem k28 : ConOK Try.prog c28 := by
  refine conOK_of rfl (enters_of Try.func28 (by kernel_rfl) rfl) ?_
  intro args K h
  simp only [c28] at h
  split at h
  · rename_i S; exact ⟨_, h, tri_of_body (Γ := [c58]) (by simp [k58]) Try.func28 (by simp [Try.ntmps28]) rfl (b28 S)⟩
  · exact h.elim
/-! ### kingpostref55.Props -/
theorem refF_nodup : ∀ T : List (Int × Int), (refF T).set.Nodup := snoc_ind (by simp [refF]) fun T x ih => by
  rw [refF_snoc]
  unfold refStep
  split
  · exact ih
  split
  · split
    · exact ih
    · rename_i hn
      rw [List.nodup_append]
      exact ⟨ih, by simp, fun a ha b hb e => hn (by rw [List.mem_singleton] at hb; rw [← hb, ← e]; exact ha)⟩
  split
  · split
    · exact ih.erase _
    · exact ih
  · exact ih
theorem refF_len : ∀ T : List (Int × Int), (refF T).set.length ≤ T.length := snoc_ind (by simp [refF]) fun T x ih => by
  rw [refF_snoc, List.length_append, List.length_singleton]
  unfold refStep
  split
  · omega
  split
  · split
    · show (refF T).set.length ≤ _; omega
    · show ((refF T).set ++ [x.2]).length ≤ _
      rw [List.length_append, List.length_singleton]; omega
  split
  · split
    · show ((refF T).set.erase x.2).length ≤ _
      have := List.length_erase_le (a := x.2) (l := (refF T).set)
      omega
    · show (refF T).set.length ≤ _; omega
  · omega
theorem refF_most : ∀ T : List (Int × Int), (refF T).err = 0 → ((refF T).set.length : Int) ≤ (refF T).most := snoc_ind (by simp [refF]) fun T x ih => by
  rw [refF_snoc]
  unfold refStep
  split
  · rename_i h; exact fun e => absurd e h
  rename_i h
  have ih := ih (Classical.not_not.1 h)
  split
  · split
    · intro e; cases e
    · intro _
      show (((refF T).set ++ [x.2]).length : Int) ≤ max _ _
      rw [List.length_append, List.length_singleton]; exact Int.le_max_right _ _
  split
  · split
    · intro _
      show (((refF T).set.erase x.2).length : Int) ≤ (refF T).most
      have := List.length_erase_le (a := x.2) (l := (refF T).set)
      omega
    · intro e; cases e
  · exact fun _ => ih
theorem refF_stay (S : List (Int × Int)) (k : Nat) (h : (refF (S.take k)).err ≠ 0) : refF S = refF (S.take k) := by
  have key : ∀ (R : List (Int × Int)) (s : RS), s.err ≠ 0 → R.foldl refStep s = s := by
    intro R
    induction R with
    | nil => intro s _; rfl
    | cons x r ih =>
      intro s hs
      rw [List.foldl_cons]
      have : refStep s x = s := by unfold refStep; rw [if_pos hs]
      rw [this]; exact ih s hs
  have e : refF S = (S.drop k).foldl refStep (refF (S.take k)) := by
    unfold refF
    rw [← List.foldl_append, List.take_append_drop]
  rw [e, key _ _ h]
/-- The last place of a member, among the first ones. -/
def atTo (xs : List Int) (m : Int) : Nat → Int
  | 0 => -1
  | j + 1 => if xs.getD j 0 = m then (j : Int) else atTo xs m j
theorem atTo_cases (xs : List Int) (m : Int) : ∀ k, k ≤ xs.length → (atTo xs m k = -1 ∧ ∀ j, j < k → xs.getD j 0 ≠ m) ∨ ∃ a : Nat, a < k ∧ atTo xs m k = (a : Int) ∧ xs.getD a 0 = m
  | 0, _ => .inl ⟨rfl, fun j h => absurd h (Nat.not_lt_zero _)⟩
  | k + 1, hk => by
    unfold atTo
    by_cases h : xs.getD k 0 = m
    · rw [if_pos h]; exact .inr ⟨k, Nat.lt_succ_self _, rfl, h⟩
    · rw [if_neg h]
      rcases atTo_cases xs m k (by omega) with ⟨h1, h2⟩ | ⟨a, h1, h2, h3⟩
      · refine .inl ⟨h1, fun j hj => ?_⟩
        by_cases e : j = k
        · rw [e]; exact h
        · exact h2 j (by omega)
      · exact .inr ⟨a, by omega, h2, h3⟩
theorem erase_at {xs : List Int} (hn : xs.Nodup) {a : Nat} (ha : a < xs.length) : xs.erase (xs.getD a 0) = xs.take a ++ xs.drop (a + 1) := by
  have e : xs.getD a 0 = xs[a] := by simp [List.getD_eq_getElem?_getD, ha]
  rw [e, List.erase_eq_eraseIdx_of_idxOf (i := a)]
  · exact List.eraseIdx_eq_take_drop_succ ..
  · exact (List.Nodup.idxOf_getElem hn a ha)
theorem mem_get {xs : List Int} {m : Int} (h : m ∈ xs) : ∃ j, j < xs.length ∧ xs.getD j 0 = m := by
  obtain ⟨j, hj, rfl⟩ := List.getElem_of_mem h
  exact ⟨j, hj, by simp [List.getD_eq_getElem?_getD, hj]⟩
/-- What a member's last place tells. -/
theorem atTo_mem {xs : List Int} (hn : xs.Nodup) (m : Int) : (atTo xs m xs.length = -1 ∧ ¬ m ∈ xs) ∨ ∃ a : Nat, a < xs.length ∧ atTo xs m xs.length = (a : Int) ∧ m ∈ xs ∧ xs.erase m = xs.take a ++ xs.drop (a + 1) := by
  rcases atTo_cases xs m xs.length (Nat.le_refl _) with ⟨h1, h2⟩ | ⟨a, h1, h2, h3⟩
  · left
    refine ⟨h1, fun hm => ?_⟩
    obtain ⟨j, j1, j2⟩ := mem_get hm
    exact h2 j j1 j2
  · right
    refine ⟨a, h1, h2, ?_, ?_⟩
    · rw [← h3, List.getD_eq_getElem?_getD, List.getElem?_eq_getElem h1]; exact List.getElem_mem h1
    · rw [← h3]; exact erase_at hn h1
end EB
end
