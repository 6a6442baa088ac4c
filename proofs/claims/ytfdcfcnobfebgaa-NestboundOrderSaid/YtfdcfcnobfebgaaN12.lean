import Derived.Test.YtfdcfcnobfebgaaN11
open Go Go.Proofs Go.Eng Go.Shelf
namespace NB
set_option maxRecDepth 10000
set_option maxHeartbeats 1000000 in
theorem b5 (l : List Int) (a b c : Int) (hl : Okd (.slice (.int .u8)) l) (ha : inK .u8 a) (hb : inK .u8 b) (hc : inK .u8 c) : body Try.prog [c11, c12, c14, c16, c18] {} true Try.f5 [Bs l, U a, U b, U c] (.val (.bool true)) := by
  (repeat' ((conv => whnf); first | (refine Giv.mk (fun _ => ?_)) | (refine Alt.l (Need.mk ?h ?_); case h => omega) | (refine Alt.r (Need.mk ?h ?_); case h => omega) | (refine Need.mk ?h ?_; case h => omega) | (refine Need.mk ?h ?_; case h => (intro _; rfl)) | (refine Need.mk ?h ?_; case h => assumption) | (refine Need.mk ?h ?_; case h => (simp <;> omega)) | (refine Ix.zero ?_) | (refine Ix.one ?_) | (refine Ix.two ?_) | (refine Ix.nat ?_) | (refine Ix.add ?_) | (apply Go.Eng.Pin.mk; apply Exists.intro) | (apply Go.Eng.Pinned.mk (Eq.refl _) (Eq.refl _)) | fail))
  (refine Br.mk (fun _ => ?_) (fun _ => ?_))
  · (repeat' ((conv => whnf); first | (refine Giv.mk (fun _ => ?_)) | (refine Alt.l (Need.mk ?h ?_); case h => omega) | (refine Alt.r (Need.mk ?h ?_); case h => omega) | (refine Need.mk ?h ?_; case h => omega) | (refine Need.mk ?h ?_; case h => (intro _; rfl)) | (refine Need.mk ?h ?_; case h => assumption) | (refine Need.mk ?h ?_; case h => (simp <;> omega)) | (refine Ix.zero ?_) | (refine Ix.one ?_) | (refine Ix.two ?_) | (refine Ix.nat ?_) | (refine Ix.add ?_) | (apply Go.Eng.Pin.mk; apply Exists.intro) | (apply Go.Eng.Pinned.mk (Eq.refl _) (Eq.refl _)) | fail))
    (conv => whnf)
  · (repeat' ((conv => whnf); first | (refine Giv.mk (fun _ => ?_)) | (refine Alt.l (Need.mk ?h ?_); case h => omega) | (refine Alt.r (Need.mk ?h ?_); case h => omega) | (refine Need.mk ?h ?_; case h => omega) | (refine Need.mk ?h ?_; case h => (intro _; rfl)) | (refine Need.mk ?h ?_; case h => assumption) | (refine Need.mk ?h ?_; case h => (simp <;> omega)) | (refine Ix.zero ?_) | (refine Ix.one ?_) | (refine Ix.two ?_) | (refine Ix.nat ?_) | (refine Ix.add ?_) | (apply Go.Eng.Pin.mk; apply Exists.intro) | (apply Go.Eng.Pinned.mk (Eq.refl _) (Eq.refl _)) | fail))
    (refine Br.mk (fun _ => ?_) (fun _ => ?_))
    · (repeat' ((conv => whnf); first | (refine Giv.mk (fun _ => ?_)) | (refine Alt.l (Need.mk ?h ?_); case h => omega) | (refine Alt.r (Need.mk ?h ?_); case h => omega) | (refine Need.mk ?h ?_; case h => omega) | (refine Need.mk ?h ?_; case h => (intro _; rfl)) | (refine Need.mk ?h ?_; case h => assumption) | (refine Need.mk ?h ?_; case h => (simp <;> omega)) | (refine Ix.zero ?_) | (refine Ix.one ?_) | (refine Ix.two ?_) | (refine Ix.nat ?_) | (refine Ix.add ?_) | (apply Go.Eng.Pin.mk; apply Exists.intro) | (apply Go.Eng.Pinned.mk (Eq.refl _) (Eq.refl _)) | fail))
      (conv => whnf)
    · have hf := fine_of (by omega) hl ha hb
      have hc0 : 0 ≤ c := hc.1
      have hc1 : c ≤ 255 := hc.2
      have hz := fine_check0 hf
      have hy := drop_check hf
      have hx := fine_check hf hc0 hc1
      have ho := okx_of hz
      have e1 := bestR_ok hz
      have e2 := matR_ok hz
      have e3 := pairR_ok hz
      have f1 := bestR_ok hy
      have f2 := matR_ok hy
      have f3 := pairR_ok hy
      have g2 := matR_ok hx
      have g3 := pairR_ok hx
      obtain ⟨i1, i2, i3, i4, i5, i6⟩ := more_all hf (by omega)
      have j2 := mat_longer ho (C' := most l + a + c + b % 20) (by omega)
      have j3 := pair_longer (xs := pieces l) (k := b % 20) (C := most l + a + b % 20) (C' := most l + a + c + b % 20) (by omega)
      have oy := okx_of hy
      have r1 := mat_le oy
      have r2 := matE_nonneg oy
      have r3 := pair_le (xs := (pieces l).drop 1) (k := b % 20) (C := most l + a + b % 20)
      have r4 := psum2_range ((pieces l).drop 1) (b % 20) (most l + a + b % 20) _ (Nat.le_refl _)
      rw [psum_all _ _ _ rfl] at r4
      have r4 : 0 ≤ pairE ((pieces l).drop 1) (b % 20) (most l + a + b % 20) := r4.1
      have r5 := best_le oy
      have r6 := (best_ge ((pieces l).drop 1) (b % 20) (most l + a + b % 20)).2.2.2
      have r7 : ((pieces l).drop 1).length ≤ 8 := by rw [List.length_drop, pieces_len]; have := hf.len; omega
      have h7 := pieces_len l
      have hm := most_range hf
      obtain ⟨h8, _, h9, h10, h11, h12⟩ := id hf
      (repeat' ((conv => whnf); first | (refine Giv.mk (fun _ => ?_)) | (refine Alt.l (Need.mk ?h ?_); case h => omega) | (refine Alt.r (Need.mk ?h ?_); case h => omega) | (refine Need.mk ?h ?_; case h => omega) | (refine Need.mk ?h ?_; case h => (intro _; rfl)) | (refine Need.mk ?h ?_; case h => assumption) | (refine Need.mk ?h ?_; case h => (simp <;> omega)) | (refine Ix.zero ?_) | (refine Ix.one ?_) | (refine Ix.two ?_) | (refine Ix.nat ?_) | (refine Ix.add ?_) | (apply Go.Eng.Pin.mk; apply Exists.intro) | (apply Go.Eng.Pinned.mk (Eq.refl _) (Eq.refl _)) | (refine Br.mkY ?h ?_; case h => omega) | (refine Br.mkN ?h ?_; case h => omega) | fail))
      refine Need.mk ⟨hf.len, hf.el, hf.a0, hf.a1, hf.b0, hf.b1⟩ ?_
      (repeat' ((conv => whnf); first | (refine Giv.mk (fun _ => ?_)) | (refine Alt.l (Need.mk ?h ?_); case h => omega) | (refine Alt.r (Need.mk ?h ?_); case h => omega) | (refine Need.mk ?h ?_; case h => omega) | (refine Need.mk ?h ?_; case h => (intro _; rfl)) | (refine Need.mk ?h ?_; case h => assumption) | (refine Need.mk ?h ?_; case h => (simp <;> omega)) | (refine Ix.zero ?_) | (refine Ix.one ?_) | (refine Ix.two ?_) | (refine Ix.nat ?_) | (refine Ix.add ?_) | (apply Go.Eng.Pin.mk; apply Exists.intro) | (apply Go.Eng.Pinned.mk (Eq.refl _) (Eq.refl _)) | (refine Br.mkY ?h ?_; case h => omega) | (refine Br.mkN ?h ?_; case h => omega) | fail))
      (conv => whnf)
theorem t5 (l : List Int) (a b c : Int) (hl : Okd (.slice (.int .u8)) l) (ha : inK .u8 a) (hb : inK .u8 b) (hc : inK .u8 c) : Tri Try.prog true 5 [Bs l, U a, U b, U c] (.val (.bool true)) :=
  tri_of_body (Γ := [c11, c12, c14, c16, c18]) (by simp [k11, k12, k14, k16, k18]) Try.func5 (by simp [Try.ntmps5]) rfl (b5 l a b c hl ha hb hc)
end NB
