import Derived.Test.YtfdcfcnobfebgaaN9
open Go Go.Proofs Go.Eng Go.Shelf
namespace NB
set_option maxRecDepth 10000
theorem thick_check {l : List Int} {a b : Int} (h : Fine l a b) : checkE ((pieces l).map (· + b % 20)) (most l + a + b % 20) 0 = 0 := by
  have hm := most_range h
  have := h.a0; have := h.a1; have := h.b0; have := h.b1
  refine checkE_of (by rw [List.length_map, pieces_len]; have := h.len; omega) (fun x hx => ?_) (by omega) (by omega) (by omega) (by omega)
  obtain ⟨y, hy, rfl⟩ := List.mem_map.1 hx
  have h1 := pieces_mem h.el y hy
  have h2 := most_ge l y hy
  omega
theorem thick_take (xs : List Int) (k : Int) (i : Nat) (h : i < xs.length) : (xs.map (· + k)).take (i + 1) = (xs.map (· + k)).take i ++ [xs.getD i 0 + k] := by
  rw [List.take_succ_eq_append_getElem (by simpa using h)]
  simp [List.getD_eq_getElem?_getD, h]
set_option maxHeartbeats 1000000 in
theorem b6 (l : List Int) (a b : Int) (hl : Okd (.slice (.int .u8)) l) (ha : inK .u8 a) (hb : inK .u8 b) : body Try.prog [c11, c12, c14, c16, c18] { asks := [(0, [0])] } true Try.f6 [Bs l, U a, U b] (.val (.bool true)) := by
  (repeat' ((conv => whnf); first | (refine Giv.mk (fun _ => ?_)) | (refine Alt.l (Need.mk ?h ?_); case h => omega) | (refine Alt.r (Need.mk ?h ?_); case h => omega) | (refine Need.mk ?h ?_; case h => omega) | (refine Need.mk ?h ?_; case h => (intro _; rfl)) | (refine Need.mk ?h ?_; case h => assumption) | (refine Need.mk ?h ?_; case h => (simp <;> omega)) | (refine Ix.zero ?_) | (refine Ix.one ?_) | (refine Ix.two ?_) | (refine Ix.nat ?_) | (refine Ix.add ?_) | (apply Go.Eng.Pin.mk; apply Exists.intro) | (apply Go.Eng.Pinned.mk (Eq.refl _) (Eq.refl _)) | (apply Go.Eng.PinH.mk; apply Exists.intro; apply Exists.intro) | (exact Go.Eng.Fin0.mk) | (refine Go.Eng.Chk.mk ?_ ?_) | fail))
  (refine Br.mk (fun _ => ?_) (fun _ => ?_))
  · (repeat' ((conv => whnf); first | (refine Giv.mk (fun _ => ?_)) | (refine Alt.l (Need.mk ?h ?_); case h => omega) | (refine Alt.r (Need.mk ?h ?_); case h => omega) | (refine Need.mk ?h ?_; case h => omega) | (refine Need.mk ?h ?_; case h => (intro _; rfl)) | (refine Need.mk ?h ?_; case h => assumption) | (refine Need.mk ?h ?_; case h => (simp <;> omega)) | (refine Ix.zero ?_) | (refine Ix.one ?_) | (refine Ix.two ?_) | (refine Ix.nat ?_) | (refine Ix.add ?_) | (apply Go.Eng.Pin.mk; apply Exists.intro) | (apply Go.Eng.Pinned.mk (Eq.refl _) (Eq.refl _)) | (apply Go.Eng.PinH.mk; apply Exists.intro; apply Exists.intro) | (exact Go.Eng.Fin0.mk) | (refine Go.Eng.Chk.mk ?_ ?_) | fail))
    (conv => whnf)
  · have hf := fine_of (by omega) hl ha hb
    have hz := fine_check0 hf
    have hy := thick_check hf
    have ho := okx_of hz
    have e1 := (bestR_ok hz).trans (best_kerf (pieces l) (b % 20) (most l + a + b % 20)).symm
    have e2 := (matR_ok hz).trans (mat_kerf (pieces l) (b % 20) (most l + a + b % 20)).symm
    have e3 := (pairR_ok hz).trans (pair_kerf (pieces l) (b % 20) (most l + a + b % 20)).symm
    have f1 := bestR_ok hy
    have f2 := matR_ok hy
    have f3 := pairR_ok hy
    rw [Int.add_zero] at f1 f2 f3
    have h7 := pieces_len l
    have hm := most_range hf
    obtain ⟨h8, _, h9, h10, h11, h12⟩ := id hf
    (repeat' ((conv => whnf); first | (refine Giv.mk (fun _ => ?_)) | (refine Alt.l (Need.mk ?h ?_); case h => omega) | (refine Alt.r (Need.mk ?h ?_); case h => omega) | (refine Need.mk ?h ?_; case h => omega) | (refine Need.mk ?h ?_; case h => (intro _; rfl)) | (refine Need.mk ?h ?_; case h => assumption) | (refine Need.mk ?h ?_; case h => (simp <;> omega)) | (refine Ix.zero ?_) | (refine Ix.one ?_) | (refine Ix.two ?_) | (refine Ix.nat ?_) | (refine Ix.add ?_) | (apply Go.Eng.Pin.mk; apply Exists.intro) | (apply Go.Eng.Pinned.mk (Eq.refl _) (Eq.refl _)) | (apply Go.Eng.PinH.mk; apply Exists.intro; apply Exists.intro) | (exact Go.Eng.Fin0.mk) | (refine Go.Eng.Chk.mk ?_ ?_) | (refine Br.mkY ?h ?_; case h => omega) | (refine Br.mkN ?h ?_; case h => omega) | fail))
    refine Need.mk ⟨hf.len, hf.el, hf.a0, hf.a1, hf.b0, hf.b1⟩ ?_
    (repeat' ((conv => whnf); first | (refine Giv.mk (fun _ => ?_)) | (refine Alt.l (Need.mk ?h ?_); case h => omega) | (refine Alt.r (Need.mk ?h ?_); case h => omega) | (refine Need.mk ?h ?_; case h => omega) | (refine Need.mk ?h ?_; case h => (intro _; rfl)) | (refine Need.mk ?h ?_; case h => assumption) | (refine Need.mk ?h ?_; case h => (simp <;> omega)) | (refine Ix.zero ?_) | (refine Ix.one ?_) | (refine Ix.two ?_) | (refine Ix.nat ?_) | (refine Ix.add ?_) | (apply Go.Eng.Pin.mk; apply Exists.intro) | (apply Go.Eng.Pinned.mk (Eq.refl _) (Eq.refl _)) | (apply Go.Eng.PinH.mk; apply Exists.intro; apply Exists.intro) | (exact Go.Eng.Fin0.mk) | (refine Go.Eng.Chk.mk ?_ ?_) | (refine Br.mkY ?h ?_; case h => omega) | (refine Br.mkN ?h ?_; case h => omega) | fail))
    refine Ask.mk ⟨{ X := Nat, pre := fun i => i ≤ (pieces l).length, mod := fun i _ => [(10, .ref 0 1), (33, I i)], heap := fun i _ => [.vec 1 (.int .i64) (((pieces l).map (· + b % 20)).take i) 3], objs := [0], mu := fun i => (pieces l).length - i }, rfl, ?_⟩
    (repeat' ((conv => whnf); first | (refine Giv.mk (fun _ => ?_)) | (refine Alt.l (Need.mk ?h ?_); case h => omega) | (refine Alt.r (Need.mk ?h ?_); case h => omega) | (refine Need.mk ?h ?_; case h => omega) | (refine Need.mk ?h ?_; case h => (intro _; rfl)) | (refine Need.mk ?h ?_; case h => assumption) | (refine Need.mk ?h ?_; case h => (simp <;> omega)) | (refine Ix.zero ?_) | (refine Ix.one ?_) | (refine Ix.two ?_) | (refine Ix.nat ?_) | (refine Ix.add ?_) | (apply Go.Eng.Pin.mk; apply Exists.intro) | (apply Go.Eng.Pinned.mk (Eq.refl _) (Eq.refl _)) | (apply Go.Eng.PinH.mk; apply Exists.intro; apply Exists.intro) | (exact Go.Eng.Fin0.mk) | (refine Go.Eng.Chk.mk ?_ ?_) | (refine Br.mkY ?h ?_; case h => omega) | (refine Br.mkN ?h ?_; case h => omega) | fail))
    refine ⟨⟨(0 : Nat), Nat.zero_le _, by (repeat' (first | exact trivial | rfl | exact Nat.one_pos | (refine And.intro ?_ ?_) | omega | ((conv => whnf); (refine And.intro ?_ ?_)) | ((conv => whnf); exact trivial)))⟩, fun (i : Nat) (hi : i ≤ (pieces l).length) => ?_⟩
    (repeat' ((conv => whnf); first | (refine Giv.mk (fun _ => ?_)) | (refine Alt.l (Need.mk ?h ?_); case h => omega) | (refine Alt.r (Need.mk ?h ?_); case h => omega) | (refine Need.mk ?h ?_; case h => omega) | (refine Need.mk ?h ?_; case h => (intro _; rfl)) | (refine Need.mk ?h ?_; case h => assumption) | (refine Need.mk ?h ?_; case h => (simp <;> omega)) | (refine Ix.zero ?_) | (refine Ix.one ?_) | (refine Ix.two ?_) | (refine Ix.nat ?_) | (refine Ix.add ?_) | (apply Go.Eng.Pin.mk; apply Exists.intro) | (apply Go.Eng.Pinned.mk (Eq.refl _) (Eq.refl _)) | (apply Go.Eng.PinH.mk; apply Exists.intro; apply Exists.intro) | (exact Go.Eng.Fin0.mk) | (refine Go.Eng.Chk.mk ?_ ?_) | fail))
    (refine Br.mk (fun _ => ?_) (fun _ => ?_))
    · have hlt : i < (pieces l).length := by omega
      have q1 := ho.el i hlt
      (repeat' ((conv => whnf); first | (refine Giv.mk (fun _ => ?_)) | (refine Alt.l (Need.mk ?h ?_); case h => omega) | (refine Alt.r (Need.mk ?h ?_); case h => omega) | (refine Need.mk ?h ?_; case h => omega) | (refine Need.mk ?h ?_; case h => (intro _; rfl)) | (refine Need.mk ?h ?_; case h => assumption) | (refine Need.mk ?h ?_; case h => (simp <;> omega)) | (refine Ix.zero ?_) | (refine Ix.one ?_) | (refine Ix.two ?_) | (refine Ix.nat ?_) | (refine Ix.add ?_) | (apply Go.Eng.Pin.mk; apply Exists.intro) | (apply Go.Eng.Pinned.mk (Eq.refl _) (Eq.refl _)) | (apply Go.Eng.PinH.mk; apply Exists.intro; apply Exists.intro) | (exact Go.Eng.Fin0.mk) | (refine Go.Eng.Chk.mk ?_ ?_) | fail))
      refine ⟨(i + 1 : Nat), by show (pieces l).length - (i + 1) < (pieces l).length - i; omega, hlt, ?_⟩
      (repeat' (first | exact trivial | rfl | exact Nat.one_pos | (refine And.intro ?_ ?_) | ((conv => whnf); (refine And.intro ?_ ?_)) | ((conv => whnf); exact trivial)))
      exact (thick_take _ _ i hlt).symm
    · rw [List.take_of_length_le (by simp; omega)]
      generalize (pieces l).map (· + b % 20) = th at *
      (repeat' ((conv => whnf); first | (refine Giv.mk (fun _ => ?_)) | (refine Alt.l (Need.mk ?h ?_); case h => omega) | (refine Alt.r (Need.mk ?h ?_); case h => omega) | (refine Need.mk ?h ?_; case h => omega) | (refine Need.mk ?h ?_; case h => (intro _; rfl)) | (refine Need.mk ?h ?_; case h => assumption) | (refine Need.mk ?h ?_; case h => (simp <;> omega)) | (refine Ix.zero ?_) | (refine Ix.one ?_) | (refine Ix.two ?_) | (refine Ix.nat ?_) | (refine Ix.add ?_) | (apply Go.Eng.Pin.mk; apply Exists.intro) | (apply Go.Eng.Pinned.mk (Eq.refl _) (Eq.refl _)) | (apply Go.Eng.PinH.mk; apply Exists.intro; apply Exists.intro) | (exact Go.Eng.Fin0.mk) | (refine Go.Eng.Chk.mk ?_ ?_) | (refine Br.mkY ?h ?_; case h => omega) | (refine Br.mkN ?h ?_; case h => omega) | fail))
      (conv => whnf)
theorem t6 (l : List Int) (a b : Int) (hl : Okd (.slice (.int .u8)) l) (ha : inK .u8 a) (hb : inK .u8 b) : Tri Try.prog true 6 [Bs l, U a, U b] (.val (.bool true)) :=
  tri_of_body (Γ := [c11, c12, c14, c16, c18]) (by simp [k11, k12, k14, k16, k18]) Try.func6 (by simp [Try.ntmps6]) rfl (b6 l a b hl ha hb)
end NB
