import Derived.Test.YtpmbhgmifiianaaE10
open Go Go.Proofs Go.Eng Go.Shelf
namespace EB
set_option maxRecDepth 10000
/-! ### The example -/
def exL : List (Int × Int) := [(0, -1), (1, 0)]
def exS : List (Int × Int) := [(1, 0), (1, 1), (2, 2), (1, 2)]
theorem ex_order : orderRes 3 exL = exS ∧ orderErr 3 exL = 0 := by decide +kernel
theorem ex_props : propsN exS = 1 ∧ propsE exS = 0 := by decide +kernel
theorem b13 : body Try.prog [c22, c32, c38, c45] {} true Try.f13 [] (.val (.bool true)) := by
  have h1 : orderRes 3 [(0, -1), (1, 0)] = [(1, 0), (1, 1), (2, 2), (1, 2)] := ex_order.1
  have h2 : orderErr 3 [(0, -1), (1, 0)] = 0 := ex_order.2
  have h3 : propsN (orderRes 3 [(0, -1), (1, 0)]) = 1 := by rw [h1]; exact ex_props.1
  have h4 : propsE (orderRes 3 [(0, -1), (1, 0)]) = 0 := by rw [h1]; exact ex_props.2
  (repeat' ((conv => whnf); first | (refine Giv.mk (fun _ => ?_)) | (refine Alt.l (Need.mk ?h ?_); case h => omega) | (refine Alt.r (Need.mk ?h ?_); case h => omega) | (refine Need.mk ?h ?_; case h => omega) | (refine Need.mk ?h ?_; case h => (intro _; rfl)) | (refine Need.mk ?h ?_; case h => assumption) | (refine Need.mk ?h ?_; case h => (simp <;> omega)) | (refine Ix.zero ?_) | (refine Ix.one ?_) | (refine Ix.two ?_) | (refine Ix.nat ?_) | (refine Ix.add ?_) | (apply Go.Eng.Pin.mk; apply Exists.intro) | (apply Go.Eng.Pinned.mk (Eq.refl _) (Eq.refl _)) | (apply Go.Eng.PinH.mk; apply Exists.intro; apply Exists.intro) | (exact Go.Eng.Fin0.mk) | (refine Go.Eng.Chk.mk ?_ ?_) | (refine Br.mkY ?h ?_; case h => omega) | (refine Br.mkN ?h ?_; case h => omega) | (refine Br.mkY ?h ?_; case h => assumption) | (refine Br.mkN ?h ?_; case h => assumption) | (refine Br.mkN ?h ?_; case h => exact not_not_intro (by assumption)) | (refine Br.mk (fun _ => ?_) (fun _ => ?_)) | fail))
  (conv => whnf)
  exact ⟨fun _ => rfl, fun _ => h1⟩
def c13 : Con := mkCon 13 true fun args K => match args with | [] => K (.val (.bool true)) | _ => False
theorem k13 : ConOK Try.prog c13 := by
  refine conOK_of rfl (enters_of Try.func13 (by kernel_rfl) rfl) ?_
  intro args K h
  simp only [c13] at h
  split at h
  · exact ⟨_, h, tri_of_body (Γ := [c22, c32, c38, c45]) (by simp [k22, k32, k38, k45]) Try.func13 (by simp [Try.ntmps13]) rfl b13⟩
  · exact h.elim
/-! ### slices.IsSorted -/
theorem b50 (a b : Int) : body Try.prog [c74] {} true Try.f50 [I a, I b] (.bl (a < b) inferInstance) := by
  (repeat' ((conv => whnf); first | (refine Giv.mk (fun _ => ?_)) | (refine Alt.l (Need.mk ?h ?_); case h => omega) | (refine Alt.r (Need.mk ?h ?_); case h => omega) | (refine Need.mk ?h ?_; case h => omega) | (refine Need.mk ?h ?_; case h => (intro _; rfl)) | (refine Need.mk ?h ?_; case h => assumption) | (refine Need.mk ?h ?_; case h => (simp <;> omega)) | (refine Ix.zero ?_) | (refine Ix.one ?_) | (refine Ix.two ?_) | (refine Ix.nat ?_) | (refine Ix.add ?_) | (apply Go.Eng.Pin.mk; apply Exists.intro) | (apply Go.Eng.Pinned.mk (Eq.refl _) (Eq.refl _)) | (apply Go.Eng.PinH.mk; apply Exists.intro; apply Exists.intro) | (exact Go.Eng.Fin0.mk) | (refine Go.Eng.Chk.mk ?_ ?_) | (refine Br.mkY ?h ?_; case h => omega) | (refine Br.mkN ?h ?_; case h => omega) | (refine Br.mkY ?h ?_; case h => assumption) | (refine Br.mkN ?h ?_; case h => assumption) | (refine Br.mkN ?h ?_; case h => exact not_not_intro (by assumption)) | fail))
  (conv => whnf)
def c50 : Con := mkCon 50 true fun args K => match args with | [.val (.int .i64 a), .val (.int .i64 b)] => K (.bl (a < b) inferInstance) | _ => False
theorem k50 : ConOK Try.prog c50 := by
  refine conOK_of rfl (enters_of Try.func50 (by kernel_rfl) rfl) ?_
  intro args K h
  simp only [c50] at h
  split at h
  · rename_i a b; exact ⟨_, h, tri_of_body (Γ := [c74]) (by simp [k74]) Try.func50 (by simp [Try.ntmps50]) rfl (b50 a b)⟩
  · exact h.elim
def sortedP (xs : List Int) : Prop := ∀ j, j < xs.length - 1 → xs.getD j 0 ≤ xs.getD (j + 1) 0
instance (xs : List Int) : Decidable (sortedP xs) := by unfold sortedP; exact inferInstance
theorem b15 (xs : List Int) : body Try.prog [c50] { loops := [(0, { X := Nat, pre := fun k => k ≤ xs.length ∧ (∀ j, xs.length ≤ j + 1 + k → j < xs.length - 1 → xs.getD j 0 ≤ xs.getD (j + 1) 0), mod := fun k _ => [(3, I ((xs.length : Int) - 1 - k))], mu := fun k => xs.length - k })] } true Try.f15 [Ls xs] (.bl (sortedP xs) inferInstance) := by
  (repeat' ((conv => whnf); first | (refine Giv.mk (fun _ => ?_)) | (refine Alt.l (Need.mk ?h ?_); case h => omega) | (refine Alt.r (Need.mk ?h ?_); case h => omega) | (refine Need.mk ?h ?_; case h => omega) | (refine Need.mk ?h ?_; case h => (intro _; rfl)) | (refine Need.mk ?h ?_; case h => assumption) | (refine Need.mk ?h ?_; case h => (simp <;> omega)) | (refine Ix.zero ?_) | (refine Ix.one ?_) | (refine Ix.two ?_) | (refine Ix.nat ?_) | (refine Ix.add ?_) | (apply Go.Eng.Pin.mk; apply Exists.intro) | (apply Go.Eng.Pinned.mk (Eq.refl _) (Eq.refl _)) | (apply Go.Eng.PinH.mk; apply Exists.intro; apply Exists.intro) | (exact Go.Eng.Fin0.mk) | (refine Go.Eng.Chk.mk ?_ ?_) | fail))
  refine ⟨⟨(0 : Nat), ⟨Nat.zero_le _, fun j h1 h2 => by omega⟩, by (repeat' (first | exact trivial | rfl | exact Nat.one_pos | (refine And.intro ?_ ?_) | omega | ((conv => whnf); (refine And.intro ?_ ?_)) | ((conv => whnf); exact trivial)))⟩, fun (k : Nat) hi => ?_⟩
  obtain ⟨hi, hb⟩ := hi
  (repeat' ((conv => whnf); first | (refine Giv.mk (fun _ => ?_)) | (refine Alt.l (Need.mk ?h ?_); case h => omega) | (refine Alt.r (Need.mk ?h ?_); case h => omega) | (refine Need.mk ?h ?_; case h => omega) | (refine Need.mk ?h ?_; case h => (intro _; rfl)) | (refine Need.mk ?h ?_; case h => assumption) | (refine Need.mk ?h ?_; case h => (simp <;> omega)) | (refine Ix.zero ?_) | (refine Ix.one ?_) | (refine Ix.two ?_) | (refine Ix.nat ?_) | (refine Ix.add ?_) | (apply Go.Eng.Pin.mk; apply Exists.intro) | (apply Go.Eng.Pinned.mk (Eq.refl _) (Eq.refl _)) | (apply Go.Eng.PinH.mk; apply Exists.intro; apply Exists.intro) | (exact Go.Eng.Fin0.mk) | (refine Go.Eng.Chk.mk ?_ ?_) | fail))
  (refine Br.mk (fun _ => ?_) (fun _ => ?_))
  · rename_i h0
    have h0 : 0 < (xs.length : Int) - 1 - k := h0
    (repeat' ((conv => whnf); first | (refine Giv.mk (fun _ => ?_)) | (refine Alt.l (Need.mk ?h ?_); case h => omega) | (refine Alt.r (Need.mk ?h ?_); case h => omega) | (refine Need.mk ?h ?_; case h => omega) | (refine Need.mk ?h ?_; case h => (intro _; rfl)) | (refine Need.mk ?h ?_; case h => assumption) | (refine Need.mk ?h ?_; case h => (simp <;> omega)) | (refine Ix.zero ?_) | (refine Ix.one ?_) | (refine Ix.two ?_) | (refine Ix.nat ?_) | (refine Ix.add ?_) | (apply Go.Eng.Pin.mk; apply Exists.intro) | (apply Go.Eng.Pinned.mk (Eq.refl _) (Eq.refl _)) | (apply Go.Eng.PinH.mk; apply Exists.intro; apply Exists.intro) | (exact Go.Eng.Fin0.mk) | (refine Go.Eng.Chk.mk ?_ ?_) | fail))
    refine ix_at (xs.length - 1 - k) (by omega) ?_
    (repeat' ((conv => whnf); first | (refine Giv.mk (fun _ => ?_)) | (refine Alt.l (Need.mk ?h ?_); case h => omega) | (refine Alt.r (Need.mk ?h ?_); case h => omega) | (refine Need.mk ?h ?_; case h => omega) | (refine Need.mk ?h ?_; case h => (intro _; rfl)) | (refine Need.mk ?h ?_; case h => assumption) | (refine Need.mk ?h ?_; case h => (simp <;> omega)) | (refine Ix.zero ?_) | (refine Ix.one ?_) | (refine Ix.two ?_) | (refine Ix.nat ?_) | (refine Ix.add ?_) | (apply Go.Eng.Pin.mk; apply Exists.intro) | (apply Go.Eng.Pinned.mk (Eq.refl _) (Eq.refl _)) | (apply Go.Eng.PinH.mk; apply Exists.intro; apply Exists.intro) | (exact Go.Eng.Fin0.mk) | (refine Go.Eng.Chk.mk ?_ ?_) | fail))
    refine ix_at (xs.length - 1 - k - 1) (by omega) ?_
    (repeat' ((conv => whnf); first | (refine Giv.mk (fun _ => ?_)) | (refine Alt.l (Need.mk ?h ?_); case h => omega) | (refine Alt.r (Need.mk ?h ?_); case h => omega) | (refine Need.mk ?h ?_; case h => omega) | (refine Need.mk ?h ?_; case h => (intro _; rfl)) | (refine Need.mk ?h ?_; case h => assumption) | (refine Need.mk ?h ?_; case h => (simp <;> omega)) | (refine Ix.zero ?_) | (refine Ix.one ?_) | (refine Ix.two ?_) | (refine Ix.nat ?_) | (refine Ix.add ?_) | (apply Go.Eng.Pin.mk; apply Exists.intro) | (apply Go.Eng.Pinned.mk (Eq.refl _) (Eq.refl _)) | (apply Go.Eng.PinH.mk; apply Exists.intro; apply Exists.intro) | (exact Go.Eng.Fin0.mk) | (refine Go.Eng.Chk.mk ?_ ?_) | fail))
    (refine Br.mk (fun _ => ?_) (fun _ => ?_))
    · rename_i hlt
      (repeat' ((conv => whnf); first | (refine Giv.mk (fun _ => ?_)) | (refine Alt.l (Need.mk ?h ?_); case h => omega) | (refine Alt.r (Need.mk ?h ?_); case h => omega) | (refine Need.mk ?h ?_; case h => omega) | (refine Need.mk ?h ?_; case h => (intro _; rfl)) | (refine Need.mk ?h ?_; case h => assumption) | (refine Need.mk ?h ?_; case h => (simp <;> omega)) | (refine Ix.zero ?_) | (refine Ix.one ?_) | (refine Ix.two ?_) | (refine Ix.nat ?_) | (refine Ix.add ?_) | (apply Go.Eng.Pin.mk; apply Exists.intro) | (apply Go.Eng.Pinned.mk (Eq.refl _) (Eq.refl _)) | (apply Go.Eng.PinH.mk; apply Exists.intro; apply Exists.intro) | (exact Go.Eng.Fin0.mk) | (refine Go.Eng.Chk.mk ?_ ?_) | fail))
      (conv => whnf)
      intro hs
      have := hs (xs.length - 1 - k - 1) (by omega)
      rw [show xs.length - 1 - k - 1 + 1 = xs.length - 1 - k by omega] at this
      omega
    · rename_i hlt
      (repeat' ((conv => whnf); first | (refine Giv.mk (fun _ => ?_)) | (refine Alt.l (Need.mk ?h ?_); case h => omega) | (refine Alt.r (Need.mk ?h ?_); case h => omega) | (refine Need.mk ?h ?_; case h => omega) | (refine Need.mk ?h ?_; case h => (intro _; rfl)) | (refine Need.mk ?h ?_; case h => assumption) | (refine Need.mk ?h ?_; case h => (simp <;> omega)) | (refine Ix.zero ?_) | (refine Ix.one ?_) | (refine Ix.two ?_) | (refine Ix.nat ?_) | (refine Ix.add ?_) | (apply Go.Eng.Pin.mk; apply Exists.intro) | (apply Go.Eng.Pinned.mk (Eq.refl _) (Eq.refl _)) | (apply Go.Eng.PinH.mk; apply Exists.intro; apply Exists.intro) | (exact Go.Eng.Fin0.mk) | (refine Go.Eng.Chk.mk ?_ ?_) | fail))
      refine ⟨(k + 1 : Nat), by show xs.length - (k + 1) < xs.length - k; omega, ⟨by omega, fun j h1 h2 => ?_⟩, by (repeat' (first | exact trivial | rfl | exact Nat.one_pos | (refine And.intro ?_ ?_) | omega | ((conv => whnf); (refine And.intro ?_ ?_)) | ((conv => whnf); exact trivial)))⟩
      by_cases e : j = xs.length - 1 - k - 1
      · subst e
        rw [show xs.length - 1 - k - 1 + 1 = xs.length - 1 - k by omega]
        omega
      · exact hb j (by omega) h2
  · rename_i h0
    (repeat' ((conv => whnf); first | (refine Giv.mk (fun _ => ?_)) | (refine Alt.l (Need.mk ?h ?_); case h => omega) | (refine Alt.r (Need.mk ?h ?_); case h => omega) | (refine Need.mk ?h ?_; case h => omega) | (refine Need.mk ?h ?_; case h => (intro _; rfl)) | (refine Need.mk ?h ?_; case h => assumption) | (refine Need.mk ?h ?_; case h => (simp <;> omega)) | (refine Ix.zero ?_) | (refine Ix.one ?_) | (refine Ix.two ?_) | (refine Ix.nat ?_) | (refine Ix.add ?_) | (apply Go.Eng.Pin.mk; apply Exists.intro) | (apply Go.Eng.Pinned.mk (Eq.refl _) (Eq.refl _)) | (apply Go.Eng.PinH.mk; apply Exists.intro; apply Exists.intro) | (exact Go.Eng.Fin0.mk) | (refine Go.Eng.Chk.mk ?_ ?_) | fail))
    (conv => whnf)
    intro j hj
    exact hb j (by omega) hj
def c15 : Con := mkCon 15 true fun args K => match args with | [.seq (.int .i64) xs] => K (.bl (sortedP xs) inferInstance) | _ => False
theorem k15 : ConOK Try.prog c15 := by
  refine conOK_of rfl (enters_of Try.func15 (by kernel_rfl) rfl) ?_
  intro args K h
  simp only [c15] at h
  split at h
  · rename_i xs; exact ⟨_, h, tri_of_body (Γ := [c50]) (by simp [k50]) Try.func15 (by simp [Try.ntmps15]) rfl (b15 xs)⟩
  · exact h.elim
end EB
