import Derived.Test.YtfdcfcnobfebgaaN3
open Go Go.Proofs Go.Eng Go.Shelf
namespace NB
set_option maxRecDepth 10000
theorem b11 : body Try.prog [c12, c14, c16] {} true Try.f11 [] (.val (.bool true)) := by
  (repeat' ((conv => whnf); first | (refine Giv.mk (fun _ => ?_)) | (refine Alt.l (Need.mk ?h ?_); case h => omega) | (refine Alt.r (Need.mk ?h ?_); case h => omega) | (refine Need.mk ?h ?_; case h => omega) | (refine Need.mk ?h ?_; case h => (intro _; rfl)) | (refine Need.mk ?h ?_; case h => assumption) | (refine Need.mk ?h ?_; case h => (simp <;> omega)) | (refine Ix.zero ?_) | (refine Ix.one ?_) | (refine Ix.two ?_) | (refine Ix.nat ?_) | (refine Ix.add ?_) | (apply Go.Eng.Pin.mk; apply Exists.intro) | (apply Go.Eng.Pinned.mk (Eq.refl _) (Eq.refl _)) | (apply Go.Eng.PinH.mk; apply Exists.intro; apply Exists.intro) | (exact Go.Eng.Fin0.mk) | (refine Go.Eng.Chk.mk ?_ ?_) | (refine Br.mkY ?h ?_; case h => omega) | (refine Br.mkN ?h ?_; case h => omega) | fail))
  repeat (first | ((repeat' ((conv => whnf); first | (refine Giv.mk (fun _ => ?_)) | (refine Alt.l (Need.mk ?h ?_); case h => omega) | (refine Alt.r (Need.mk ?h ?_); case h => omega) | (refine Need.mk ?h ?_; case h => omega) | (refine Need.mk ?h ?_; case h => (intro _; rfl)) | (refine Need.mk ?h ?_; case h => assumption) | (refine Need.mk ?h ?_; case h => (simp <;> omega)) | (refine Ix.zero ?_) | (refine Ix.one ?_) | (refine Ix.two ?_) | (refine Ix.nat ?_) | (refine Ix.add ?_) | (apply Go.Eng.Pin.mk; apply Exists.intro) | (apply Go.Eng.Pinned.mk (Eq.refl _) (Eq.refl _)) | (apply Go.Eng.PinH.mk; apply Exists.intro; apply Exists.intro) | (exact Go.Eng.Fin0.mk) | (refine Go.Eng.Chk.mk ?_ ?_) | (refine Br.mkY ?h ?_; case h => omega) | (refine Br.mkN ?h ?_; case h => omega) | fail)); refine Br.mkY (by decide +kernel) ?_))
  (conv => whnf)
  exact ⟨fun _ => rfl, fun _ => by decide +kernel⟩
def c11 : Con := mkCon 11 true fun args K => match args with | [] => K (.val (.bool true)) | _ => False
theorem k11 : ConOK Try.prog c11 := by
  refine conOK_of rfl (enters_of Try.func11 (by kernel_rfl) rfl) ?_
  intro args K h
  simp only [c11] at h
  split at h
  · exact ⟨_, h, tri_of_body (Γ := [c12, c14, c16]) (by simp [k12, k14, k16]) Try.func11 (by simp [Try.ntmps11]) rfl b11⟩
  · exact h.elim
end NB
