import Derived.Test.YtfdcfcnobfebgaaN1
open Go Go.Proofs Go.Eng Go.Shelf
namespace NB
set_option maxRecDepth 10000
/-! ### The greatest bound -/
def cand (C w : Int) : List Int := [w, w + 1, C - w, C - w + 1]
def bstep (xs : List Int) (k C b a : Int) : Int := if 0 ≤ a ∧ 2 * a ≤ C then max b (belowE xs k C a) else b
def bfold (xs : List Int) (k C : Int) (l : List Int) (b : Int) : Int := l.foldl (bstep xs k C) b
def greatE (xs : List Int) (k C : Int) : Int := xs.foldl (fun b x => bfold xs k C (cand C (x + k)) b) (belowE xs k C 0)
theorem foldl_take_succ {α β : Type} (f : β → α → β) (xs : List α) (d : α) (b : β) (k : Nat) (h : k < xs.length) : (xs.take (k + 1)).foldl f b = f ((xs.take k).foldl f b) (xs.getD k d) := by
  rw [List.take_succ_eq_append_getElem h, List.foldl_append]
  simp [List.getD_eq_getElem?_getD, h]
theorem foldl_take_all {α β : Type} (f : β → α → β) (xs : List α) (b : β) (k : Nat) (h : ¬ k < xs.length) : (xs.take k).foldl f b = xs.foldl f b := by
  rw [List.take_of_length_le (by omega)]
def gAt (xs : List Int) (k C : Int) (i : Nat) : Int := (xs.take i).foldl (fun b x => bfold xs k C (cand C (x + k)) b) (belowE xs k C 0)
def gAt2 (xs : List Int) (k C : Int) (i j : Nat) : Int := bfold xs k C ((cand C (xs.getD i 0 + k)).take j) (gAt xs k C i)
theorem gAt2_zero (xs : List Int) (k C : Int) (i : Nat) : gAt2 xs k C i 0 = gAt xs k C i := rfl
theorem gAt2_step (xs : List Int) (k C : Int) (i j : Nat) : j < (cand C (xs.getD i 0 + k)).length → gAt2 xs k C i (j + 1) = bstep xs k C (gAt2 xs k C i j) ((cand C (xs.getD i 0 + k)).getD j 0) := fun h => foldl_take_succ _ _ 0 _ j h
abbrev an30 (xs : List Int) (k C : Int) : Ann := { X := Nat, pre := fun i => i ≤ xs.length, mod := fun _ _ => [], heap := fun i _ => [.cells [Ls xs, I k, I C] 45, .cells [I (gAt xs k C i)] 3], mu := fun i => i }
abbrev an30b (xs : List Int) (k C : Int) (i : Nat) : Ann := { X := Nat, pre := fun j => j ≤ 4, mod := fun j _ => [(28, I j)], heap := fun j _ => [.cells [Ls xs, I k, I C] 45, .cells [I (gAt2 xs k C i j)] 3, .gone], mu := fun j => 4 - j }
theorem b30 (xs : List Int) (k C : Int) (ho : Okx xs k C) : body Try.prog [c33, c40, c41] { loops := [(0, an30 xs k C)], asks := [(2, [])] } true Try.f30 [Nst xs k C] (I (greatE xs k C)) := by
  have hc0 := ho.c0
  have hc1 := ho.c1
  (repeat' ((conv => whnf); first | (refine Giv.mk (fun _ => ?_)) | (refine Alt.l (Need.mk ?h ?_); case h => omega) | (refine Alt.r (Need.mk ?h ?_); case h => omega) | (refine Need.mk ?h ?_; case h => omega) | (refine Need.mk ?h ?_; case h => (intro _; rfl)) | (refine Need.mk ?h ?_; case h => assumption) | (refine Need.mk ?h ?_; case h => (simp <;> omega)) | (refine Ix.zero ?_) | (refine Ix.one ?_) | (refine Ix.two ?_) | (refine Ix.nat ?_) | (refine Ix.add ?_) | (apply Go.Eng.Pin.mk; apply Exists.intro) | (apply Go.Eng.Pinned.mk (Eq.refl _) (Eq.refl _)) | (apply Go.Eng.PinH.mk; apply Exists.intro; apply Exists.intro) | (exact Go.Eng.Fin0.mk) | (refine Go.Eng.Chk.mk ?_ ?_) | fail))
  refine Need.mk ⟨ho, by omega, by omega⟩ ?_
  (repeat' ((conv => whnf); first | (refine Giv.mk (fun _ => ?_)) | (refine Alt.l (Need.mk ?h ?_); case h => omega) | (refine Alt.r (Need.mk ?h ?_); case h => omega) | (refine Need.mk ?h ?_; case h => omega) | (refine Need.mk ?h ?_; case h => (intro _; rfl)) | (refine Need.mk ?h ?_; case h => assumption) | (refine Need.mk ?h ?_; case h => (simp <;> omega)) | (refine Ix.zero ?_) | (refine Ix.one ?_) | (refine Ix.two ?_) | (refine Ix.nat ?_) | (refine Ix.add ?_) | (apply Go.Eng.Pin.mk; apply Exists.intro) | (apply Go.Eng.Pinned.mk (Eq.refl _) (Eq.refl _)) | (apply Go.Eng.PinH.mk; apply Exists.intro; apply Exists.intro) | (exact Go.Eng.Fin0.mk) | (refine Go.Eng.Chk.mk ?_ ?_) | fail))
  refine ⟨⟨(0 : Nat), rfl, Nat.zero_le _, by (repeat' (first | exact trivial | rfl | exact Nat.one_pos | (refine And.intro ?_ ?_) | omega | ((conv => whnf); (refine And.intro ?_ ?_)) | ((conv => whnf); exact trivial)))⟩, fun (i : Nat) hi (hlt : i < xs.length) => ?_, fun (i : Nat) hi (he : i = xs.length) => ?_⟩
  · obtain ⟨h4, h5, h6⟩ := ho.el i hlt
    have h7 := ho.k0
    have h8 := ho.k1
    rw [show (an30 xs k C).mu i = i from rfl]
    (repeat' ((conv => whnf); first | (refine Giv.mk (fun _ => ?_)) | (refine Alt.l (Need.mk ?h ?_); case h => omega) | (refine Alt.r (Need.mk ?h ?_); case h => omega) | (refine Need.mk ?h ?_; case h => omega) | (refine Need.mk ?h ?_; case h => (intro _; rfl)) | (refine Need.mk ?h ?_; case h => assumption) | (refine Need.mk ?h ?_; case h => (simp <;> omega)) | (refine Ix.zero ?_) | (refine Ix.one ?_) | (refine Ix.two ?_) | (refine Ix.nat ?_) | (refine Ix.add ?_) | (apply Go.Eng.Pin.mk; apply Exists.intro) | (apply Go.Eng.Pinned.mk (Eq.refl _) (Eq.refl _)) | (apply Go.Eng.PinH.mk; apply Exists.intro; apply Exists.intro) | (exact Go.Eng.Fin0.mk) | (refine Go.Eng.Chk.mk ?_ ?_) | fail))
    refine Ask.mk ⟨an30b xs k C i, rfl, ?_⟩
    (repeat' ((conv => whnf); first | (refine Giv.mk (fun _ => ?_)) | (refine Alt.l (Need.mk ?h ?_); case h => omega) | (refine Alt.r (Need.mk ?h ?_); case h => omega) | (refine Need.mk ?h ?_; case h => omega) | (refine Need.mk ?h ?_; case h => (intro _; rfl)) | (refine Need.mk ?h ?_; case h => assumption) | (refine Need.mk ?h ?_; case h => (simp <;> omega)) | (refine Ix.zero ?_) | (refine Ix.one ?_) | (refine Ix.two ?_) | (refine Ix.nat ?_) | (refine Ix.add ?_) | (apply Go.Eng.Pin.mk; apply Exists.intro) | (apply Go.Eng.Pinned.mk (Eq.refl _) (Eq.refl _)) | (apply Go.Eng.PinH.mk; apply Exists.intro; apply Exists.intro) | (exact Go.Eng.Fin0.mk) | (refine Go.Eng.Chk.mk ?_ ?_) | fail))
    refine ⟨⟨(0 : Nat), Nat.zero_le _, by (repeat' (first | exact trivial | rfl | exact Nat.one_pos | (refine And.intro ?_ ?_) | omega | ((conv => whnf); (refine And.intro ?_ ?_)) | ((conv => whnf); exact trivial)))⟩, fun (j : Nat) (hj : j ≤ 4) => ?_⟩
    have hg0 := gAt2_zero xs k C i
    have hg1 := gAt2_step xs k C i j
    (repeat' ((conv => whnf); first | (refine Giv.mk (fun _ => ?_)) | (refine Alt.l (Need.mk ?h ?_); case h => omega) | (refine Alt.r (Need.mk ?h ?_); case h => omega) | (refine Need.mk ?h ?_; case h => omega) | (refine Need.mk ?h ?_; case h => (intro _; rfl)) | (refine Need.mk ?h ?_; case h => assumption) | (refine Need.mk ?h ?_; case h => (simp <;> omega)) | (refine Ix.zero ?_) | (refine Ix.one ?_) | (refine Ix.two ?_) | (refine Ix.nat ?_) | (refine Ix.add ?_) | (apply Go.Eng.Pin.mk; apply Exists.intro) | (apply Go.Eng.Pinned.mk (Eq.refl _) (Eq.refl _)) | (apply Go.Eng.PinH.mk; apply Exists.intro; apply Exists.intro) | (exact Go.Eng.Fin0.mk) | (refine Go.Eng.Chk.mk ?_ ?_) | fail))
    (refine Br.mk (fun _ => ?_) (fun _ => ?_))
    · rename_i hjl
      have hjl : j < 4 := by simp at hjl; omega
      have hg1 := hg1 hjl
      rw [show cand C (xs.getD i 0 + k) = [xs.getD i 0 + k, xs.getD i 0 + k + 1, C - (xs.getD i 0 + k), C - (xs.getD i 0 + k) + 1] from rfl] at hg1
      have hb : -100000 ≤ [xs.getD i 0 + k, xs.getD i 0 + k + 1, C - (xs.getD i 0 + k), C - (xs.getD i 0 + k) + 1].getD j 0 ∧ [xs.getD i 0 + k, xs.getD i 0 + k + 1, C - (xs.getD i 0 + k), C - (xs.getD i 0 + k) + 1].getD j 0 ≤ 100000 := by
        rcases (by omega : j = 0 ∨ j = 1 ∨ j = 2 ∨ j = 3) with rfl | rfl | rfl | rfl <;> simp only [List.getD_cons_zero, List.getD_cons_succ] <;> omega
      generalize [xs.getD i 0 + k, xs.getD i 0 + k + 1, C - (xs.getD i 0 + k), C - (xs.getD i 0 + k) + 1] = l at *
      (repeat' ((conv => whnf); first | (refine Giv.mk (fun _ => ?_)) | (refine Alt.l (Need.mk ?h ?_); case h => omega) | (refine Alt.r (Need.mk ?h ?_); case h => omega) | (refine Need.mk ?h ?_; case h => omega) | (refine Need.mk ?h ?_; case h => (intro _; rfl)) | (refine Need.mk ?h ?_; case h => assumption) | (refine Need.mk ?h ?_; case h => (simp <;> omega)) | (refine Ix.zero ?_) | (refine Ix.one ?_) | (refine Ix.two ?_) | (refine Ix.nat ?_) | (refine Ix.add ?_) | (apply Go.Eng.Pin.mk; apply Exists.intro) | (apply Go.Eng.Pinned.mk (Eq.refl _) (Eq.refl _)) | (apply Go.Eng.PinH.mk; apply Exists.intro; apply Exists.intro) | (exact Go.Eng.Fin0.mk) | (refine Go.Eng.Chk.mk ?_ ?_) | fail))
      (refine Br.mk (fun _ => ?_) (fun _ => ?_))
      · (repeat' ((conv => whnf); first | (refine Giv.mk (fun _ => ?_)) | (refine Alt.l (Need.mk ?h ?_); case h => omega) | (refine Alt.r (Need.mk ?h ?_); case h => omega) | (refine Need.mk ?h ?_; case h => omega) | (refine Need.mk ?h ?_; case h => (intro _; rfl)) | (refine Need.mk ?h ?_; case h => assumption) | (refine Need.mk ?h ?_; case h => (simp <;> omega)) | (refine Ix.zero ?_) | (refine Ix.one ?_) | (refine Ix.two ?_) | (refine Ix.nat ?_) | (refine Ix.add ?_) | (apply Go.Eng.Pin.mk; apply Exists.intro) | (apply Go.Eng.Pinned.mk (Eq.refl _) (Eq.refl _)) | (apply Go.Eng.PinH.mk; apply Exists.intro; apply Exists.intro) | (exact Go.Eng.Fin0.mk) | (refine Go.Eng.Chk.mk ?_ ?_) | fail))
        (refine Br.mk (fun _ => ?_) (fun _ => ?_))
        · rename_i q1 q2
          rw [bstep, if_pos ⟨q1, q2⟩] at hg1
          (repeat' ((conv => whnf); first | (refine Giv.mk (fun _ => ?_)) | (refine Alt.l (Need.mk ?h ?_); case h => omega) | (refine Alt.r (Need.mk ?h ?_); case h => omega) | (refine Need.mk ?h ?_; case h => omega) | (refine Need.mk ?h ?_; case h => (intro _; rfl)) | (refine Need.mk ?h ?_; case h => assumption) | (refine Need.mk ?h ?_; case h => (simp <;> omega)) | (refine Ix.zero ?_) | (refine Ix.one ?_) | (refine Ix.two ?_) | (refine Ix.nat ?_) | (refine Ix.add ?_) | (apply Go.Eng.Pin.mk; apply Exists.intro) | (apply Go.Eng.Pinned.mk (Eq.refl _) (Eq.refl _)) | (apply Go.Eng.PinH.mk; apply Exists.intro; apply Exists.intro) | (exact Go.Eng.Fin0.mk) | (refine Go.Eng.Chk.mk ?_ ?_) | fail))
          refine Need.mk ⟨ho, q1, q2⟩ ?_
          (repeat' ((conv => whnf); first | (refine Giv.mk (fun _ => ?_)) | (refine Alt.l (Need.mk ?h ?_); case h => omega) | (refine Alt.r (Need.mk ?h ?_); case h => omega) | (refine Need.mk ?h ?_; case h => omega) | (refine Need.mk ?h ?_; case h => (intro _; rfl)) | (refine Need.mk ?h ?_; case h => assumption) | (refine Need.mk ?h ?_; case h => (simp <;> omega)) | (refine Ix.zero ?_) | (refine Ix.one ?_) | (refine Ix.two ?_) | (refine Ix.nat ?_) | (refine Ix.add ?_) | (apply Go.Eng.Pin.mk; apply Exists.intro) | (apply Go.Eng.Pinned.mk (Eq.refl _) (Eq.refl _)) | (apply Go.Eng.PinH.mk; apply Exists.intro; apply Exists.intro) | (exact Go.Eng.Fin0.mk) | (refine Go.Eng.Chk.mk ?_ ?_) | fail))
          refine ⟨(j + 1 : Nat), by show 4 - (j + 1) < 4 - j; omega, (by show j + 1 ≤ 4; omega), ?_⟩
          (repeat' (first | exact trivial | rfl | exact Nat.one_pos | (refine And.intro ?_ ?_) | ((conv => whnf); (refine And.intro ?_ ?_)) | ((conv => whnf); exact trivial)))
          exact hg1.symm
        · rename_i q1 q2
          rw [bstep, if_neg (fun h => q2 h.2)] at hg1
          (repeat' ((conv => whnf); first | (refine Giv.mk (fun _ => ?_)) | (refine Alt.l (Need.mk ?h ?_); case h => omega) | (refine Alt.r (Need.mk ?h ?_); case h => omega) | (refine Need.mk ?h ?_; case h => omega) | (refine Need.mk ?h ?_; case h => (intro _; rfl)) | (refine Need.mk ?h ?_; case h => assumption) | (refine Need.mk ?h ?_; case h => (simp <;> omega)) | (refine Ix.zero ?_) | (refine Ix.one ?_) | (refine Ix.two ?_) | (refine Ix.nat ?_) | (refine Ix.add ?_) | (apply Go.Eng.Pin.mk; apply Exists.intro) | (apply Go.Eng.Pinned.mk (Eq.refl _) (Eq.refl _)) | (apply Go.Eng.PinH.mk; apply Exists.intro; apply Exists.intro) | (exact Go.Eng.Fin0.mk) | (refine Go.Eng.Chk.mk ?_ ?_) | fail))
          refine ⟨(j + 1 : Nat), by show 4 - (j + 1) < 4 - j; omega, (by show j + 1 ≤ 4; omega), ?_⟩
          (repeat' (first | exact trivial | rfl | exact Nat.one_pos | (refine And.intro ?_ ?_) | ((conv => whnf); (refine And.intro ?_ ?_)) | ((conv => whnf); exact trivial)))
          exact hg1.symm
      · rename_i q1
        rw [bstep, if_neg (fun h => q1 h.1)] at hg1
        (repeat' ((conv => whnf); first | (refine Giv.mk (fun _ => ?_)) | (refine Alt.l (Need.mk ?h ?_); case h => omega) | (refine Alt.r (Need.mk ?h ?_); case h => omega) | (refine Need.mk ?h ?_; case h => omega) | (refine Need.mk ?h ?_; case h => (intro _; rfl)) | (refine Need.mk ?h ?_; case h => assumption) | (refine Need.mk ?h ?_; case h => (simp <;> omega)) | (refine Ix.zero ?_) | (refine Ix.one ?_) | (refine Ix.two ?_) | (refine Ix.nat ?_) | (refine Ix.add ?_) | (apply Go.Eng.Pin.mk; apply Exists.intro) | (apply Go.Eng.Pinned.mk (Eq.refl _) (Eq.refl _)) | (apply Go.Eng.PinH.mk; apply Exists.intro; apply Exists.intro) | (exact Go.Eng.Fin0.mk) | (refine Go.Eng.Chk.mk ?_ ?_) | fail))
        refine ⟨(j + 1 : Nat), by show 4 - (j + 1) < 4 - j; omega, (by show j + 1 ≤ 4; omega), ?_⟩
        (repeat' (first | exact trivial | rfl | exact Nat.one_pos | (refine And.intro ?_ ?_) | ((conv => whnf); (refine And.intro ?_ ?_)) | ((conv => whnf); exact trivial)))
        exact hg1.symm
    · rename_i hjl
      have hjl : ¬ j < 4 := by simp at hjl; omega
      (repeat' ((conv => whnf); first | (refine Giv.mk (fun _ => ?_)) | (refine Alt.l (Need.mk ?h ?_); case h => omega) | (refine Alt.r (Need.mk ?h ?_); case h => omega) | (refine Need.mk ?h ?_; case h => omega) | (refine Need.mk ?h ?_; case h => (intro _; rfl)) | (refine Need.mk ?h ?_; case h => assumption) | (refine Need.mk ?h ?_; case h => (simp <;> omega)) | (refine Ix.zero ?_) | (refine Ix.one ?_) | (refine Ix.two ?_) | (refine Ix.nat ?_) | (refine Ix.add ?_) | (apply Go.Eng.Pin.mk; apply Exists.intro) | (apply Go.Eng.Pinned.mk (Eq.refl _) (Eq.refl _)) | (apply Go.Eng.PinH.mk; apply Exists.intro; apply Exists.intro) | (exact Go.Eng.Fin0.mk) | (refine Go.Eng.Chk.mk ?_ ?_) | fail))
      refine ⟨(i + 1 : Nat), rfl, hlt, ?_⟩
      (repeat' (first | exact trivial | rfl | exact Nat.one_pos | (refine And.intro ?_ ?_) | ((conv => whnf); (refine And.intro ?_ ?_)) | ((conv => whnf); exact trivial)))
      rw [show gAt xs k C (i + 1) = _ from foldl_take_succ _ xs 0 _ i hlt]
      simp only [gAt2]
      rw [List.take_of_length_le (by simp [cand]; omega)]
      rfl
  · (repeat' ((conv => whnf); first | (refine Giv.mk (fun _ => ?_)) | (refine Alt.l (Need.mk ?h ?_); case h => omega) | (refine Alt.r (Need.mk ?h ?_); case h => omega) | (refine Need.mk ?h ?_; case h => omega) | (refine Need.mk ?h ?_; case h => (intro _; rfl)) | (refine Need.mk ?h ?_; case h => assumption) | (refine Need.mk ?h ?_; case h => (simp <;> omega)) | (refine Ix.zero ?_) | (refine Ix.one ?_) | (refine Ix.two ?_) | (refine Ix.nat ?_) | (refine Ix.add ?_) | (apply Go.Eng.Pin.mk; apply Exists.intro) | (apply Go.Eng.Pinned.mk (Eq.refl _) (Eq.refl _)) | (apply Go.Eng.PinH.mk; apply Exists.intro; apply Exists.intro) | (exact Go.Eng.Fin0.mk) | (refine Go.Eng.Chk.mk ?_ ?_) | fail))
    (conv => whnf)
    (repeat' (first | exact trivial | rfl | exact Nat.one_pos | (refine And.intro ?_ ?_) | ((conv => whnf); (refine And.intro ?_ ?_)) | ((conv => whnf); exact trivial)))
    rw [he]
    simp [gAt, greatE]
def c30 : Con := mkCon 30 true fun args K => match args with | [.agg [.seq (.int .i64) xs, .val (.int .i64 k), .val (.int .i64 C)]] => Need (Okx xs k C) (K (I (greatE xs k C))) | _ => False
theorem k30 : ConOK Try.prog c30 := by
  refine conOK_of rfl (enters_of Try.func30 (by kernel_rfl) rfl) ?_
  intro args K h
  simp only [c30] at h
  split at h
  · rename_i xs k C; exact ⟨_, h.go, tri_of_body (Γ := [c33, c40, c41]) (by simp [k33, k40, k41]) Try.func30 (by simp [Try.ntmps30]) rfl (b30 xs k C h.ok)⟩
  · exact h.elim
end NB
