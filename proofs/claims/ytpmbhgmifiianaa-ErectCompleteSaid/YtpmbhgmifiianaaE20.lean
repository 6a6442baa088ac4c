import Derived.Test.YtpmbhgmifiianaaE19
open Go Go.Proofs Go.Eng Go.Shelf
set_option linter.unusedVariables false
namespace EB
set_option maxRecDepth 10000
/-! ### The plain law of ErectComplete -/
/-- What the laws have of a whole order. -/
structure Whole (n : Int) (l S : List (Int × Int)) : Prop where
  n0 : 0 ≤ n
  n1 : n ≤ 512
  sup : supE n l = 0
  chk : checkE n l S = 0
  len : S.length ≤ 1024
  at_ : ∀ i, i < S.length → ((S.getD i (0, 0)).1 = 1 ∨ (S.getD i (0, 0)).1 = 2) ∧ 0 ≤ (S.getD i (0, 0)).2 ∧ (S.getD i (0, 0)).2 < n
  prop_ : ∀ i, i < S.length → (S.getD i (0, 0)).1 = 2 → ¬ l.any (upP (S.getD i (0, 0)).2) = true ∧ i + 1 < S.length ∧ S.getD (i + 1) (0, 0) = (1, (S.getD i (0, 0)).2)
  raise : ∀ i, i < S.length → (S.getD i (0, 0)).1 = 1 → ¬ l.any (upP (S.getD i (0, 0)).2) = true → 0 < i ∧ (S.getD (i - 1) (0, 0)).1 = 2
  once : ∀ m : Int, 0 ≤ m → m < n → (raisedL S S.length).count m = 1
theorem whole_ord {n : Int} {l : List (Int × Int)} (h : orderErr n l = 0) : Whole n l (orderRes n l) := by
  obtain ⟨hs, hS, hfull, r2, r3⟩ := whole h
  have hin := msAt_in (onL n l) n n.toNat
  have hnd := msAt_nodup (onL n l) r2 n.toNat
  have hmem : ∀ i, i < (ordL n l).length → (((ordL n l).getD i (0, 0)).1 = 1 ∨ ((ordL n l).getD i (0, 0)).1 = 2) ∧ 0 ≤ ((ordL n l).getD i (0, 0)).2 ∧ ((ordL n l).getD i (0, 0)).2 < n := fun i hi => by
    have hm : (ordL n l).getD i (0, 0) ∈ ordL n l := by rw [List.getD_eq_getElem?_getD, List.getElem?_eq_getElem hi]; exact List.getElem_mem hi
    obtain ⟨h1, h2⟩ := steps_mem _ _ _ hm
    exact ⟨h1, hin _ h2⟩
  have hup : ∀ i, i < (ordL n l).length → (restL n l).getD ((ordL n l).getD i (0, 0)).2.toNat false = l.any (upP ((ordL n l).getD i (0, 0)).2) := fun i hi => by
    obtain ⟨_, h1, h2⟩ := hmem i hi
    rw [rest_up n l _ (by omega), Int.toNat_of_nonneg h1]
  have hck := order_chk h
  rw [hS] at hck ⊢
  refine ⟨r2, r3, hs, hck, ?_, hmem, fun i hi hk => ?_, fun i hi hk hl => ?_, fun m h0 h1 => ?_⟩
  · have := stepsOf_len (restL n l) (msAt (onL n l) n n.toNat)
    show (stepsOf _ _).length ≤ _
    omega
  · obtain ⟨a, b, c⟩ := (steps_at (restL n l) (msAt (onL n l) n n.toNat) i hi).1 hk
    have a : (restL n l).getD ((ordL n l).getD i (0, 0)).2.toNat false = false := a
    rw [hup i hi] at a
    exact ⟨by rw [a]; simp, b, c⟩
  · refine (steps_at (restL n l) (msAt (onL n l) n n.toNat) i hi).2 hk ?_
    show (restL n l).getD ((ordL n l).getD i (0, 0)).2.toNat false = false
    rw [hup i hi]; exact Bool.eq_false_iff.2 hl
  · have hraise : raisedL (ordL n l) (ordL n l).length = msAt (onL n l) n n.toNat := raised_all _ _
    rw [hraise]
    exact hnd.count.trans (if_pos (all_in r2 hnd hin hfull ⟨h0, h1⟩))
theorem Whole.ones {n : Int} {l S : List (Int × Int)} (h : Whole n l S) : ¬ (cntN n.toNat (raisedL S S.length)).any Q.notOne = true := by
  rw [Bool.not_eq_true, List.any_eq_false]
  intro x hx
  unfold cntN at hx
  rw [List.mem_map] at hx
  obtain ⟨m, hm, rfl⟩ := hx
  rw [List.mem_range] at hm
  rw [h.once m (by omega) (by omega)]
  decide
theorem cntN_bound (S : List (Int × Int)) (n i m : Nat) (hm : m < n) (hs : S.length ≤ 1024) : 0 ≤ (cntN n (raisedL S i)).getD m 0 ∧ (cntN n (raisedL S i)).getD m 0 ≤ 1024 := by
  rw [cntN_get _ _ _ hm]
  have h1 := raisedL_len S i
  have h2 := List.count_le_length (a := (m : Int)) (l := raisedL S i)
  omega
theorem b4 (s : Int) (l : List (Int × Int)) (hs : inK .u8 s) : body Try.prog [c12, c13, c16, c17, Q.c18] { asks := [(0, [])] } true Try.f4 [.val (.int .u8 s), Ps l] (.val (.bool true)) := by
  have h1 : 0 ≤ s := by have := hs.1; simpa [lo] using this
  have h2 : s ≤ 255 := by have := hs.2; simpa [hi] using this
  (repeat' ((conv => whnf); first | (refine Giv.mk (fun _ => ?_)) | (refine Alt.l (Need.mk ?h ?_); case h => omega) | (refine Alt.r (Need.mk ?h ?_); case h => omega) | (refine Need.mk ?h ?_; case h => omega) | (refine Need.mk ?h ?_; case h => (intro _; rfl)) | (refine Need.mk ?h ?_; case h => assumption) | (refine Need.mk ?h ?_; case h => (simp <;> omega)) | (refine Ix.zero ?_) | (refine Ix.one ?_) | (refine Ix.two ?_) | (refine Ix.nat ?_) | (refine Ix.add ?_) | (apply Go.Eng.Pin.mk; apply Exists.intro) | (apply Go.Eng.Pinned.mk (Eq.refl _) (Eq.refl _)) | (apply Go.Eng.PinH.mk; apply Exists.intro; apply Exists.intro) | (exact Go.Eng.Fin0.mk) | (refine Go.Eng.Chk.mk ?_ ?_) | fail))
  (refine Br.mk (fun _ => ?_) (fun _ => ?_))
  · (repeat' ((conv => whnf); first | (refine Giv.mk (fun _ => ?_)) | (refine Alt.l (Need.mk ?h ?_); case h => omega) | (refine Alt.r (Need.mk ?h ?_); case h => omega) | (refine Need.mk ?h ?_; case h => omega) | (refine Need.mk ?h ?_; case h => (intro _; rfl)) | (refine Need.mk ?h ?_; case h => assumption) | (refine Need.mk ?h ?_; case h => (simp <;> omega)) | (refine Ix.zero ?_) | (refine Ix.one ?_) | (refine Ix.two ?_) | (refine Ix.nat ?_) | (refine Ix.add ?_) | (apply Go.Eng.Pin.mk; apply Exists.intro) | (apply Go.Eng.Pinned.mk (Eq.refl _) (Eq.refl _)) | (apply Go.Eng.PinH.mk; apply Exists.intro; apply Exists.intro) | (exact Go.Eng.Fin0.mk) | (refine Go.Eng.Chk.mk ?_ ?_) | fail))
    (conv => whnf)
  · rename_i hok
    have hok := Classical.not_not.1 hok
    have hw := whole_ord hok.2
    have hr12 : res12 s l = orderRes (n12 s) l := by unfold res12; rw [if_pos hok.1]
    rw [← hr12] at hw
    obtain ⟨w0, w1, w2, w3, w4, w5, w6, w7, w8⟩ := id hw
    (repeat' ((conv => whnf); first | (refine Giv.mk (fun _ => ?_)) | (refine Alt.l (Need.mk ?h ?_); case h => omega) | (refine Alt.r (Need.mk ?h ?_); case h => omega) | (refine Need.mk ?h ?_; case h => omega) | (refine Need.mk ?h ?_; case h => (intro _; rfl)) | (refine Need.mk ?h ?_; case h => assumption) | (refine Need.mk ?h ?_; case h => (simp <;> omega)) | (refine Ix.zero ?_) | (refine Ix.one ?_) | (refine Ix.two ?_) | (refine Ix.nat ?_) | (refine Ix.add ?_) | (apply Go.Eng.Pin.mk; apply Exists.intro) | (apply Go.Eng.Pinned.mk (Eq.refl _) (Eq.refl _)) | (apply Go.Eng.PinH.mk; apply Exists.intro; apply Exists.intro) | (exact Go.Eng.Fin0.mk) | (refine Go.Eng.Chk.mk ?_ ?_) | fail))
    refine Br.mkN (fun e => e w3) ?_
    (repeat' ((conv => whnf); first | (refine Giv.mk (fun _ => ?_)) | (refine Alt.l (Need.mk ?h ?_); case h => omega) | (refine Alt.r (Need.mk ?h ?_); case h => omega) | (refine Need.mk ?h ?_; case h => omega) | (refine Need.mk ?h ?_; case h => (intro _; rfl)) | (refine Need.mk ?h ?_; case h => assumption) | (refine Need.mk ?h ?_; case h => (simp <;> omega)) | (refine Ix.zero ?_) | (refine Ix.one ?_) | (refine Ix.two ?_) | (refine Ix.nat ?_) | (refine Ix.add ?_) | (apply Go.Eng.Pin.mk; apply Exists.intro) | (apply Go.Eng.Pinned.mk (Eq.refl _) (Eq.refl _)) | (apply Go.Eng.PinH.mk; apply Exists.intro; apply Exists.intro) | (exact Go.Eng.Fin0.mk) | (refine Go.Eng.Chk.mk ?_ ?_) | fail))
    refine Need.mk (show 0 ≤ n12 s ∧ n12 s ≤ n12 s ∧ n12 s ≤ 140737488355328 ∧ n12 s * ((8 : Nat) : Int) ≤ 140737488355328 by omega) ?_
    (repeat' ((conv => whnf); first | (refine Giv.mk (fun _ => ?_)) | (refine Alt.l (Need.mk ?h ?_); case h => omega) | (refine Alt.r (Need.mk ?h ?_); case h => omega) | (refine Need.mk ?h ?_; case h => omega) | (refine Need.mk ?h ?_; case h => (intro _; rfl)) | (refine Need.mk ?h ?_; case h => assumption) | (refine Need.mk ?h ?_; case h => (simp <;> omega)) | (refine Ix.zero ?_) | (refine Ix.one ?_) | (refine Ix.two ?_) | (refine Ix.nat ?_) | (refine Ix.add ?_) | (apply Go.Eng.Pin.mk; apply Exists.intro) | (apply Go.Eng.Pinned.mk (Eq.refl _) (Eq.refl _)) | (apply Go.Eng.PinH.mk; apply Exists.intro; apply Exists.intro) | (exact Go.Eng.Fin0.mk) | (refine Go.Eng.Chk.mk ?_ ?_) | fail))
    refine Ask.mk ⟨{ X := Nat, pre := fun i => i ≤ (res12 s l).length, mod := fun i _ => [(30, I i)], heap := fun i _ => [.vec 1 (.int .i64) (cntN (n12 s).toNat (raisedL (res12 s l) i)) 3], mu := fun i => (res12 s l).length - i }, rfl, ?_⟩
    (repeat' ((conv => whnf); first | (refine Giv.mk (fun _ => ?_)) | (refine Alt.l (Need.mk ?h ?_); case h => omega) | (refine Alt.r (Need.mk ?h ?_); case h => omega) | (refine Need.mk ?h ?_; case h => omega) | (refine Need.mk ?h ?_; case h => (intro _; rfl)) | (refine Need.mk ?h ?_; case h => assumption) | (refine Need.mk ?h ?_; case h => (simp <;> omega)) | (refine Ix.zero ?_) | (refine Ix.one ?_) | (refine Ix.two ?_) | (refine Ix.nat ?_) | (refine Ix.add ?_) | (apply Go.Eng.Pin.mk; apply Exists.intro) | (apply Go.Eng.Pinned.mk (Eq.refl _) (Eq.refl _)) | (apply Go.Eng.PinH.mk; apply Exists.intro; apply Exists.intro) | (exact Go.Eng.Fin0.mk) | (refine Go.Eng.Chk.mk ?_ ?_) | fail))
    refine ⟨⟨(0 : Nat), Nat.zero_le _, ?_⟩, fun (i : Nat) (hi : i ≤ (res12 s l).length) => ?_⟩
    · (repeat' (first | exact trivial | rfl | exact Nat.one_pos | (refine And.intro ?_ ?_) | omega | ((conv => whnf); (refine And.intro ?_ ?_)) | ((conv => whnf); exact trivial)))
      exact (cntN_nil _).symm
    · (repeat' ((conv => whnf); first | (refine Giv.mk (fun _ => ?_)) | (refine Alt.l (Need.mk ?h ?_); case h => omega) | (refine Alt.r (Need.mk ?h ?_); case h => omega) | (refine Need.mk ?h ?_; case h => omega) | (refine Need.mk ?h ?_; case h => (intro _; rfl)) | (refine Need.mk ?h ?_; case h => assumption) | (refine Need.mk ?h ?_; case h => (simp <;> omega)) | (refine Ix.zero ?_) | (refine Ix.one ?_) | (refine Ix.two ?_) | (refine Ix.nat ?_) | (refine Ix.add ?_) | (apply Go.Eng.Pin.mk; apply Exists.intro) | (apply Go.Eng.Pinned.mk (Eq.refl _) (Eq.refl _)) | (apply Go.Eng.PinH.mk; apply Exists.intro; apply Exists.intro) | (exact Go.Eng.Fin0.mk) | (refine Go.Eng.Chk.mk ?_ ?_) | fail))
      (refine Br.mk (fun _ => ?_) (fun _ => ?_))
      · have hlt : i < (res12 s l).length := by omega
        have hsu := raisedL_succ (res12 s l) i hlt
        obtain ⟨q1, q2, q3⟩ := w5 i hlt
        have hmn : ((res12 s l).getD i (0, 0)).2.toNat < (n12 s).toNat := by omega
        have hcl := cntN_len (n12 s).toNat (raisedL (res12 s l) i)
        have hcb := cntN_bound (res12 s l) (n12 s).toNat i _ hmn w4
        have hcs := cntN_step (n12 s).toNat (raisedL (res12 s l) i) ((res12 s l).getD i (0, 0)).2 ⟨by omega, by omega⟩
        rcases q1 with k | k
        · rw [if_pos k] at hsu
          rw [← hsu] at hcs
          (repeat' ((conv => whnf); first | (refine Giv.mk (fun _ => ?_)) | (refine Alt.l (Need.mk ?h ?_); case h => omega) | (refine Alt.r (Need.mk ?h ?_); case h => omega) | (refine Need.mk ?h ?_; case h => omega) | (refine Need.mk ?h ?_; case h => (intro _; rfl)) | (refine Need.mk ?h ?_; case h => assumption) | (refine Need.mk ?h ?_; case h => (simp <;> omega)) | (refine Ix.zero ?_) | (refine Ix.one ?_) | (refine Ix.two ?_) | (refine Ix.nat ?_) | (refine Ix.add ?_) | (apply Go.Eng.Pin.mk; apply Exists.intro) | (apply Go.Eng.Pinned.mk (Eq.refl _) (Eq.refl _)) | (apply Go.Eng.PinH.mk; apply Exists.intro; apply Exists.intro) | (exact Go.Eng.Fin0.mk) | (refine Go.Eng.Chk.mk ?_ ?_) | (refine Br.mkY ?h ?_; case h => omega) | (refine Br.mkN ?h ?_; case h => omega) | (refine Br.mkY ?h ?_; case h => assumption) | (refine Br.mkN ?h ?_; case h => assumption) | (refine Br.mkN ?h ?_; case h => exact not_not_intro (by assumption)) | fail))
          refine ix_at ((res12 s l).getD i (0, 0)).2.toNat (by omega) ?_
          (repeat' ((conv => whnf); first | (refine Giv.mk (fun _ => ?_)) | (refine Alt.l (Need.mk ?h ?_); case h => omega) | (refine Alt.r (Need.mk ?h ?_); case h => omega) | (refine Need.mk ?h ?_; case h => omega) | (refine Need.mk ?h ?_; case h => (intro _; rfl)) | (refine Need.mk ?h ?_; case h => assumption) | (refine Need.mk ?h ?_; case h => (simp <;> omega)) | (refine Ix.zero ?_) | (refine Ix.one ?_) | (refine Ix.two ?_) | (refine Ix.nat ?_) | (refine Ix.add ?_) | (apply Go.Eng.Pin.mk; apply Exists.intro) | (apply Go.Eng.Pinned.mk (Eq.refl _) (Eq.refl _)) | (apply Go.Eng.PinH.mk; apply Exists.intro; apply Exists.intro) | (exact Go.Eng.Fin0.mk) | (refine Go.Eng.Chk.mk ?_ ?_) | (refine Br.mkY ?h ?_; case h => omega) | (refine Br.mkN ?h ?_; case h => omega) | (refine Br.mkY ?h ?_; case h => assumption) | (refine Br.mkN ?h ?_; case h => assumption) | (refine Br.mkN ?h ?_; case h => exact not_not_intro (by assumption)) | fail))
          refine ix_at ((res12 s l).getD i (0, 0)).2.toNat (by omega) ?_
          (repeat' ((conv => whnf); first | (refine Giv.mk (fun _ => ?_)) | (refine Alt.l (Need.mk ?h ?_); case h => omega) | (refine Alt.r (Need.mk ?h ?_); case h => omega) | (refine Need.mk ?h ?_; case h => omega) | (refine Need.mk ?h ?_; case h => (intro _; rfl)) | (refine Need.mk ?h ?_; case h => assumption) | (refine Need.mk ?h ?_; case h => (simp <;> omega)) | (refine Ix.zero ?_) | (refine Ix.one ?_) | (refine Ix.two ?_) | (refine Ix.nat ?_) | (refine Ix.add ?_) | (apply Go.Eng.Pin.mk; apply Exists.intro) | (apply Go.Eng.Pinned.mk (Eq.refl _) (Eq.refl _)) | (apply Go.Eng.PinH.mk; apply Exists.intro; apply Exists.intro) | (exact Go.Eng.Fin0.mk) | (refine Go.Eng.Chk.mk ?_ ?_) | (refine Br.mkY ?h ?_; case h => omega) | (refine Br.mkN ?h ?_; case h => omega) | (refine Br.mkY ?h ?_; case h => assumption) | (refine Br.mkN ?h ?_; case h => assumption) | (refine Br.mkN ?h ?_; case h => exact not_not_intro (by assumption)) | fail))
          (refine Br.mk (fun _ => ?_) (fun _ => ?_))
          · rename_i hu
            obtain ⟨p1, p2⟩ := w7 i hlt k hu
            have hi1 : (i : Int) - 1 = ((i - 1 : Nat) : Int) := by omega
            (repeat' ((conv => whnf); first | (refine Giv.mk (fun _ => ?_)) | (refine Alt.l (Need.mk ?h ?_); case h => omega) | (refine Alt.r (Need.mk ?h ?_); case h => omega) | (refine Need.mk ?h ?_; case h => omega) | (refine Need.mk ?h ?_; case h => (intro _; rfl)) | (refine Need.mk ?h ?_; case h => assumption) | (refine Need.mk ?h ?_; case h => (simp <;> omega)) | (refine Ix.zero ?_) | (refine Ix.one ?_) | (refine Ix.two ?_) | (refine Ix.nat ?_) | (refine Ix.add ?_) | (apply Go.Eng.Pin.mk; apply Exists.intro) | (apply Go.Eng.Pinned.mk (Eq.refl _) (Eq.refl _)) | (apply Go.Eng.PinH.mk; apply Exists.intro; apply Exists.intro) | (exact Go.Eng.Fin0.mk) | (refine Go.Eng.Chk.mk ?_ ?_) | (refine Br.mkY ?h ?_; case h => omega) | (refine Br.mkN ?h ?_; case h => omega) | (refine Br.mkY ?h ?_; case h => assumption) | (refine Br.mkN ?h ?_; case h => assumption) | (refine Br.mkN ?h ?_; case h => exact not_not_intro (by assumption)) | fail))
            refine ix_at (i - 1) hi1 ?_
            (repeat' ((conv => whnf); first | (refine Giv.mk (fun _ => ?_)) | (refine Alt.l (Need.mk ?h ?_); case h => omega) | (refine Alt.r (Need.mk ?h ?_); case h => omega) | (refine Need.mk ?h ?_; case h => omega) | (refine Need.mk ?h ?_; case h => (intro _; rfl)) | (refine Need.mk ?h ?_; case h => assumption) | (refine Need.mk ?h ?_; case h => (simp <;> omega)) | (refine Ix.zero ?_) | (refine Ix.one ?_) | (refine Ix.two ?_) | (refine Ix.nat ?_) | (refine Ix.add ?_) | (apply Go.Eng.Pin.mk; apply Exists.intro) | (apply Go.Eng.Pinned.mk (Eq.refl _) (Eq.refl _)) | (apply Go.Eng.PinH.mk; apply Exists.intro; apply Exists.intro) | (exact Go.Eng.Fin0.mk) | (refine Go.Eng.Chk.mk ?_ ?_) | (refine Br.mkY ?h ?_; case h => omega) | (refine Br.mkN ?h ?_; case h => omega) | (refine Br.mkY ?h ?_; case h => assumption) | (refine Br.mkN ?h ?_; case h => assumption) | (refine Br.mkN ?h ?_; case h => exact not_not_intro (by assumption)) | fail))
            refine ⟨(i + 1 : Nat), by show (res12 s l).length - (i + 1) < (res12 s l).length - i; omega, hlt, ?_⟩
            (repeat' (first | exact trivial | rfl | exact Nat.one_pos | (refine And.intro ?_ ?_) | omega | ((conv => whnf); (refine And.intro ?_ ?_)) | ((conv => whnf); exact trivial)))
            exact hcs
          · (repeat' ((conv => whnf); first | (refine Giv.mk (fun _ => ?_)) | (refine Alt.l (Need.mk ?h ?_); case h => omega) | (refine Alt.r (Need.mk ?h ?_); case h => omega) | (refine Need.mk ?h ?_; case h => omega) | (refine Need.mk ?h ?_; case h => (intro _; rfl)) | (refine Need.mk ?h ?_; case h => assumption) | (refine Need.mk ?h ?_; case h => (simp <;> omega)) | (refine Ix.zero ?_) | (refine Ix.one ?_) | (refine Ix.two ?_) | (refine Ix.nat ?_) | (refine Ix.add ?_) | (apply Go.Eng.Pin.mk; apply Exists.intro) | (apply Go.Eng.Pinned.mk (Eq.refl _) (Eq.refl _)) | (apply Go.Eng.PinH.mk; apply Exists.intro; apply Exists.intro) | (exact Go.Eng.Fin0.mk) | (refine Go.Eng.Chk.mk ?_ ?_) | (refine Br.mkY ?h ?_; case h => omega) | (refine Br.mkN ?h ?_; case h => omega) | (refine Br.mkY ?h ?_; case h => assumption) | (refine Br.mkN ?h ?_; case h => assumption) | (refine Br.mkN ?h ?_; case h => exact not_not_intro (by assumption)) | fail))
            refine ⟨(i + 1 : Nat), by show (res12 s l).length - (i + 1) < (res12 s l).length - i; omega, hlt, ?_⟩
            (repeat' (first | exact trivial | rfl | exact Nat.one_pos | (refine And.intro ?_ ?_) | omega | ((conv => whnf); (refine And.intro ?_ ?_)) | ((conv => whnf); exact trivial)))
            exact hcs
        · rw [if_neg (by omega)] at hsu
          obtain ⟨p1, p2, p3⟩ := w6 i hlt k
          have p4 : ((res12 s l).getD (i + 1) (0, 0)).1 = 1 ∧ ((res12 s l).getD (i + 1) (0, 0)).2 = ((res12 s l).getD i (0, 0)).2 := by rw [p3]; exact ⟨rfl, rfl⟩
          (repeat' ((conv => whnf); first | (refine Giv.mk (fun _ => ?_)) | (refine Alt.l (Need.mk ?h ?_); case h => omega) | (refine Alt.r (Need.mk ?h ?_); case h => omega) | (refine Need.mk ?h ?_; case h => omega) | (refine Need.mk ?h ?_; case h => (intro _; rfl)) | (refine Need.mk ?h ?_; case h => assumption) | (refine Need.mk ?h ?_; case h => (simp <;> omega)) | (refine Ix.zero ?_) | (refine Ix.one ?_) | (refine Ix.two ?_) | (refine Ix.nat ?_) | (refine Ix.add ?_) | (apply Go.Eng.Pin.mk; apply Exists.intro) | (apply Go.Eng.Pinned.mk (Eq.refl _) (Eq.refl _)) | (apply Go.Eng.PinH.mk; apply Exists.intro; apply Exists.intro) | (exact Go.Eng.Fin0.mk) | (refine Go.Eng.Chk.mk ?_ ?_) | (refine Br.mkY ?h ?_; case h => omega) | (refine Br.mkN ?h ?_; case h => omega) | (refine Br.mkY ?h ?_; case h => assumption) | (refine Br.mkN ?h ?_; case h => assumption) | (refine Br.mkN ?h ?_; case h => exact not_not_intro (by assumption)) | fail))
          refine ⟨(i + 1 : Nat), by show (res12 s l).length - (i + 1) < (res12 s l).length - i; omega, hlt, ?_⟩
          (repeat' (first | exact trivial | rfl | exact Nat.one_pos | (refine And.intro ?_ ?_) | omega | ((conv => whnf); (refine And.intro ?_ ?_)) | ((conv => whnf); exact trivial)))
          exact congrArg (cntN (n12 s).toNat) hsu.symm
      · have hii : i = (res12 s l).length := by omega
        subst hii
        have w9 := hw.ones
        (repeat' ((conv => whnf); first | (refine Giv.mk (fun _ => ?_)) | (refine Alt.l (Need.mk ?h ?_); case h => omega) | (refine Alt.r (Need.mk ?h ?_); case h => omega) | (refine Need.mk ?h ?_; case h => omega) | (refine Need.mk ?h ?_; case h => (intro _; rfl)) | (refine Need.mk ?h ?_; case h => assumption) | (refine Need.mk ?h ?_; case h => (simp <;> omega)) | (refine Ix.zero ?_) | (refine Ix.one ?_) | (refine Ix.two ?_) | (refine Ix.nat ?_) | (refine Ix.add ?_) | (apply Go.Eng.Pin.mk; apply Exists.intro) | (apply Go.Eng.Pinned.mk (Eq.refl _) (Eq.refl _)) | (apply Go.Eng.PinH.mk; apply Exists.intro; apply Exists.intro) | (exact Go.Eng.Fin0.mk) | (refine Go.Eng.Chk.mk ?_ ?_) | (refine Br.mkY ?h ?_; case h => omega) | (refine Br.mkN ?h ?_; case h => omega) | (refine Br.mkY ?h ?_; case h => assumption) | (refine Br.mkN ?h ?_; case h => assumption) | (refine Br.mkN ?h ?_; case h => exact not_not_intro (by assumption)) | fail))
        (conv => whnf)
theorem t4 (s : Int) (l : List (Int × Int)) (hs : inK .u8 s) (hl : Okd (.slice Two) l) :
    Tri Try.prog true 4 [.val (.int .u8 s), Ps l] (.val (.bool true)) :=
  tri_of_body (Γ := [c12, c13, c16, c17, Q.c18]) (by simp [k12, k13, k16, k17, Q.k18]) Try.func4 (by simp [Try.ntmps4]) rfl (b4 s l hs)
end EB
