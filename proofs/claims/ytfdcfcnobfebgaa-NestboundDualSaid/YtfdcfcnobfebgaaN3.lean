import Derived.Test.YtfdcfcnobfebgaaN2
open Go Go.Proofs Go.Eng Go.Shelf
namespace NB
set_option maxRecDepth 10000
/-! ### The reference's functions -/
theorem b39 (a b : Int) (h : 0 ≤ a ∧ a ≤ 1000000000 ∧ 0 < b ∧ b ≤ 1000000000) : body Try.prog [] {} true Try.f39 [I a, I b] (I ((a + b - 1) / b)) := by
  (repeat' ((conv => whnf); first | (refine Giv.mk (fun _ => ?_)) | (refine Alt.l (Need.mk ?h ?_); case h => omega) | (refine Alt.r (Need.mk ?h ?_); case h => omega) | (refine Need.mk ?h ?_; case h => omega) | (refine Need.mk ?h ?_; case h => (intro _; rfl)) | (refine Need.mk ?h ?_; case h => assumption) | (refine Need.mk ?h ?_; case h => (simp <;> omega)) | (refine Ix.zero ?_) | (refine Ix.one ?_) | (refine Ix.two ?_) | (refine Ix.nat ?_) | (refine Ix.add ?_) | (apply Go.Eng.Pin.mk; apply Exists.intro) | (apply Go.Eng.Pinned.mk (Eq.refl _) (Eq.refl _)) | (apply Go.Eng.PinH.mk; apply Exists.intro; apply Exists.intro) | (exact Go.Eng.Fin0.mk) | (refine Go.Eng.Chk.mk ?_ ?_) | fail))
  (conv => whnf)
  exact ⟨rfl, rfl⟩
def c39 : Con := mkCon 39 true fun args K => match args with | [.val (.int .i64 a), .val (.int .i64 b)] => Need (0 ≤ a ∧ a ≤ 1000000000 ∧ 0 < b ∧ b ≤ 1000000000) (K (I ((a + b - 1) / b))) | _ => False
theorem k39 : ConOK Try.prog c39 := by
  refine conOK_of rfl (enters_of Try.func39 (by kernel_rfl) rfl) ?_
  intro args K h
  simp only [c39] at h
  split at h
  · rename_i a b; exact ⟨_, h.go, tri_of_body (Γ := []) (by simp) Try.func39 (by simp [Try.ntmps39]) rfl (b39 a b h.ok)⟩
  · exact h.elim
theorem psum_range (xs : List Int) (k C : Int) (ho : Okx xs k C) : ∀ i, i ≤ xs.length → 0 ≤ psum (· + k) xs i ∧ psum (· + k) xs i ≤ 100000 * i := by
  intro i
  induction i with
  | zero => intro _; simp [psum_zero]
  | succ i ih =>
    intro hi
    have := ih (by omega)
    have h1 := ho.el i (by omega)
    have h2 := ho.c1
    have h3 := ho.k0
    have e : psum (· + k) xs (i + 1) = psum (· + k) xs i + (xs.getD i 0 + k) := psum_succ _ xs i (by omega)
    rw [e]
    omega
theorem b27 (xs : List Int) (L k : Int) (ho : Okx xs k (L + k)) : body Try.prog [c39] { asks := [(0, [])] } true Try.f27 [Ls xs, I L, I k] (I (matE xs k (L + k))) := by
  have h7 := ho.k0
  have h8 := ho.k1
  have h9 := ho.len
  have h10 := ho.c0
  have h11 := ho.c1
  (repeat' ((conv => whnf); first | (refine Giv.mk (fun _ => ?_)) | (refine Alt.l (Need.mk ?h ?_); case h => omega) | (refine Alt.r (Need.mk ?h ?_); case h => omega) | (refine Need.mk ?h ?_; case h => omega) | (refine Need.mk ?h ?_; case h => (intro _; rfl)) | (refine Need.mk ?h ?_; case h => assumption) | (refine Need.mk ?h ?_; case h => (simp <;> omega)) | (refine Ix.zero ?_) | (refine Ix.one ?_) | (refine Ix.two ?_) | (refine Ix.nat ?_) | (refine Ix.add ?_) | (apply Go.Eng.Pin.mk; apply Exists.intro) | (apply Go.Eng.Pinned.mk (Eq.refl _) (Eq.refl _)) | (apply Go.Eng.PinH.mk; apply Exists.intro; apply Exists.intro) | (exact Go.Eng.Fin0.mk) | (refine Go.Eng.Chk.mk ?_ ?_) | fail))
  refine Ask.mk ⟨{ X := Nat, pre := fun i => i ≤ xs.length, mod := fun i _ => [(7, I (psum (· + k) xs i)), (8, I i)], mu := fun i => xs.length - i }, rfl, ?_⟩
  (repeat' ((conv => whnf); first | (refine Giv.mk (fun _ => ?_)) | (refine Alt.l (Need.mk ?h ?_); case h => omega) | (refine Alt.r (Need.mk ?h ?_); case h => omega) | (refine Need.mk ?h ?_; case h => omega) | (refine Need.mk ?h ?_; case h => (intro _; rfl)) | (refine Need.mk ?h ?_; case h => assumption) | (refine Need.mk ?h ?_; case h => (simp <;> omega)) | (refine Ix.zero ?_) | (refine Ix.one ?_) | (refine Ix.two ?_) | (refine Ix.nat ?_) | (refine Ix.add ?_) | (apply Go.Eng.Pin.mk; apply Exists.intro) | (apply Go.Eng.Pinned.mk (Eq.refl _) (Eq.refl _)) | (apply Go.Eng.PinH.mk; apply Exists.intro; apply Exists.intro) | (exact Go.Eng.Fin0.mk) | (refine Go.Eng.Chk.mk ?_ ?_) | fail))
  refine ⟨⟨(0 : Nat), Nat.zero_le _, by (repeat' (first | exact trivial | rfl | exact Nat.one_pos | (refine And.intro ?_ ?_) | omega | ((conv => whnf); (refine And.intro ?_ ?_)) | ((conv => whnf); exact trivial)))⟩, fun (i : Nat) (hi : i ≤ xs.length) => ?_⟩
  have h12 := psum_range xs k _ ho i hi
  (repeat' ((conv => whnf); first | (refine Giv.mk (fun _ => ?_)) | (refine Alt.l (Need.mk ?h ?_); case h => omega) | (refine Alt.r (Need.mk ?h ?_); case h => omega) | (refine Need.mk ?h ?_; case h => omega) | (refine Need.mk ?h ?_; case h => (intro _; rfl)) | (refine Need.mk ?h ?_; case h => assumption) | (refine Need.mk ?h ?_; case h => (simp <;> omega)) | (refine Ix.zero ?_) | (refine Ix.one ?_) | (refine Ix.two ?_) | (refine Ix.nat ?_) | (refine Ix.add ?_) | (apply Go.Eng.Pin.mk; apply Exists.intro) | (apply Go.Eng.Pinned.mk (Eq.refl _) (Eq.refl _)) | (apply Go.Eng.PinH.mk; apply Exists.intro; apply Exists.intro) | (exact Go.Eng.Fin0.mk) | (refine Go.Eng.Chk.mk ?_ ?_) | fail))
  (refine Br.mk (fun _ => ?_) (fun _ => ?_))
  · have hlt : i < xs.length := by omega
    obtain ⟨h4, h5, h6⟩ := ho.el i hlt
    (repeat' ((conv => whnf); first | (refine Giv.mk (fun _ => ?_)) | (refine Alt.l (Need.mk ?h ?_); case h => omega) | (refine Alt.r (Need.mk ?h ?_); case h => omega) | (refine Need.mk ?h ?_; case h => omega) | (refine Need.mk ?h ?_; case h => (intro _; rfl)) | (refine Need.mk ?h ?_; case h => assumption) | (refine Need.mk ?h ?_; case h => (simp <;> omega)) | (refine Ix.zero ?_) | (refine Ix.one ?_) | (refine Ix.two ?_) | (refine Ix.nat ?_) | (refine Ix.add ?_) | (apply Go.Eng.Pin.mk; apply Exists.intro) | (apply Go.Eng.Pinned.mk (Eq.refl _) (Eq.refl _)) | (apply Go.Eng.PinH.mk; apply Exists.intro; apply Exists.intro) | (exact Go.Eng.Fin0.mk) | (refine Go.Eng.Chk.mk ?_ ?_) | fail))
    refine ⟨(i + 1 : Nat), by show xs.length - (i + 1) < xs.length - i; omega, hlt, ?_⟩
    (repeat' (first | exact trivial | rfl | exact Nat.one_pos | (refine And.intro ?_ ?_) | ((conv => whnf); (refine And.intro ?_ ?_)) | ((conv => whnf); exact trivial)))
    rw [psum_succ _ _ _ hlt]
    omega
  · (repeat' ((conv => whnf); first | (refine Giv.mk (fun _ => ?_)) | (refine Alt.l (Need.mk ?h ?_); case h => omega) | (refine Alt.r (Need.mk ?h ?_); case h => omega) | (refine Need.mk ?h ?_; case h => omega) | (refine Need.mk ?h ?_; case h => (intro _; rfl)) | (refine Need.mk ?h ?_; case h => assumption) | (refine Need.mk ?h ?_; case h => (simp <;> omega)) | (refine Ix.zero ?_) | (refine Ix.one ?_) | (refine Ix.two ?_) | (refine Ix.nat ?_) | (refine Ix.add ?_) | (apply Go.Eng.Pin.mk; apply Exists.intro) | (apply Go.Eng.Pinned.mk (Eq.refl _) (Eq.refl _)) | (apply Go.Eng.PinH.mk; apply Exists.intro; apply Exists.intro) | (exact Go.Eng.Fin0.mk) | (refine Go.Eng.Chk.mk ?_ ?_) | fail))
    (conv => whnf)
    (repeat' (first | exact trivial | rfl | exact Nat.one_pos | (refine And.intro ?_ ?_) | ((conv => whnf); (refine And.intro ?_ ?_)) | ((conv => whnf); exact trivial)))
    rw [psum_all _ _ _ (by omega)]
    rfl
def c27 : Con := mkCon 27 true fun args K => match args with | [.seq (.int .i64) xs, .val (.int .i64 L), .val (.int .i64 k)] => Need (Okx xs k (L + k)) (K (I (matE xs k (L + k)))) | _ => False
theorem k27 : ConOK Try.prog c27 := by
  refine conOK_of rfl (enters_of Try.func27 (by kernel_rfl) rfl) ?_
  intro args K h
  simp only [c27] at h
  split at h
  · rename_i xs L k; exact ⟨_, h.go, tri_of_body (Γ := [c39]) (by simp [k39]) Try.func27 (by simp [Try.ntmps27]) rfl (b27 xs L k h.ok)⟩
  · exact h.elim
theorem big2_range (k C x : Int) : 0 ≤ big2 k C x ∧ big2 k C x ≤ 1 := by unfold big2; split <;> omega
theorem psum2_range (xs : List Int) (k C : Int) : ∀ i, i ≤ xs.length → 0 ≤ psum (big2 k C) xs i ∧ psum (big2 k C) xs i ≤ i := by
  intro i
  induction i with
  | zero => intro _; simp [psum_zero]
  | succ i ih =>
    intro hi
    have := ih (by omega)
    rw [psum_succ _ _ _ (by omega)]
    have := big2_range k C (xs.getD i 0)
    omega
theorem b29 (xs : List Int) (L k : Int) (ho : Okx xs k (L + k)) : body Try.prog [] { asks := [(0, [])] } true Try.f29 [Ls xs, I L, I k] (I (pairE xs k (L + k))) := by
  have h7 := ho.k0
  have h8 := ho.k1
  have h9 := ho.len
  have h10 := ho.c0
  have h11 := ho.c1
  (repeat' ((conv => whnf); first | (refine Giv.mk (fun _ => ?_)) | (refine Alt.l (Need.mk ?h ?_); case h => omega) | (refine Alt.r (Need.mk ?h ?_); case h => omega) | (refine Need.mk ?h ?_; case h => omega) | (refine Need.mk ?h ?_; case h => (intro _; rfl)) | (refine Need.mk ?h ?_; case h => assumption) | (refine Need.mk ?h ?_; case h => (simp <;> omega)) | (refine Ix.zero ?_) | (refine Ix.one ?_) | (refine Ix.two ?_) | (refine Ix.nat ?_) | (refine Ix.add ?_) | (apply Go.Eng.Pin.mk; apply Exists.intro) | (apply Go.Eng.Pinned.mk (Eq.refl _) (Eq.refl _)) | (apply Go.Eng.PinH.mk; apply Exists.intro; apply Exists.intro) | (exact Go.Eng.Fin0.mk) | (refine Go.Eng.Chk.mk ?_ ?_) | fail))
  refine Ask.mk ⟨{ X := Nat, pre := fun i => i ≤ xs.length, mod := fun i _ => [(7, I (psum (big2 k (L + k)) xs i)), (8, I i)], mu := fun i => xs.length - i }, rfl, ?_⟩
  (repeat' ((conv => whnf); first | (refine Giv.mk (fun _ => ?_)) | (refine Alt.l (Need.mk ?h ?_); case h => omega) | (refine Alt.r (Need.mk ?h ?_); case h => omega) | (refine Need.mk ?h ?_; case h => omega) | (refine Need.mk ?h ?_; case h => (intro _; rfl)) | (refine Need.mk ?h ?_; case h => assumption) | (refine Need.mk ?h ?_; case h => (simp <;> omega)) | (refine Ix.zero ?_) | (refine Ix.one ?_) | (refine Ix.two ?_) | (refine Ix.nat ?_) | (refine Ix.add ?_) | (apply Go.Eng.Pin.mk; apply Exists.intro) | (apply Go.Eng.Pinned.mk (Eq.refl _) (Eq.refl _)) | (apply Go.Eng.PinH.mk; apply Exists.intro; apply Exists.intro) | (exact Go.Eng.Fin0.mk) | (refine Go.Eng.Chk.mk ?_ ?_) | fail))
  refine ⟨⟨(0 : Nat), Nat.zero_le _, by (repeat' (first | exact trivial | rfl | exact Nat.one_pos | (refine And.intro ?_ ?_) | omega | ((conv => whnf); (refine And.intro ?_ ?_)) | ((conv => whnf); exact trivial)))⟩, fun (i : Nat) (hi : i ≤ xs.length) => ?_⟩
  have h12 := psum2_range xs k (L + k) i hi
  (repeat' ((conv => whnf); first | (refine Giv.mk (fun _ => ?_)) | (refine Alt.l (Need.mk ?h ?_); case h => omega) | (refine Alt.r (Need.mk ?h ?_); case h => omega) | (refine Need.mk ?h ?_; case h => omega) | (refine Need.mk ?h ?_; case h => (intro _; rfl)) | (refine Need.mk ?h ?_; case h => assumption) | (refine Need.mk ?h ?_; case h => (simp <;> omega)) | (refine Ix.zero ?_) | (refine Ix.one ?_) | (refine Ix.two ?_) | (refine Ix.nat ?_) | (refine Ix.add ?_) | (apply Go.Eng.Pin.mk; apply Exists.intro) | (apply Go.Eng.Pinned.mk (Eq.refl _) (Eq.refl _)) | (apply Go.Eng.PinH.mk; apply Exists.intro; apply Exists.intro) | (exact Go.Eng.Fin0.mk) | (refine Go.Eng.Chk.mk ?_ ?_) | fail))
  (refine Br.mk (fun _ => ?_) (fun _ => ?_))
  · have hlt : i < xs.length := by omega
    obtain ⟨h4, h5, h6⟩ := ho.el i hlt
    have hs := psum_succ (big2 k (L + k)) xs i hlt
    (repeat' ((conv => whnf); first | (refine Giv.mk (fun _ => ?_)) | (refine Alt.l (Need.mk ?h ?_); case h => omega) | (refine Alt.r (Need.mk ?h ?_); case h => omega) | (refine Need.mk ?h ?_; case h => omega) | (refine Need.mk ?h ?_; case h => (intro _; rfl)) | (refine Need.mk ?h ?_; case h => assumption) | (refine Need.mk ?h ?_; case h => (simp <;> omega)) | (refine Ix.zero ?_) | (refine Ix.one ?_) | (refine Ix.two ?_) | (refine Ix.nat ?_) | (refine Ix.add ?_) | (apply Go.Eng.Pin.mk; apply Exists.intro) | (apply Go.Eng.Pinned.mk (Eq.refl _) (Eq.refl _)) | (apply Go.Eng.PinH.mk; apply Exists.intro; apply Exists.intro) | (exact Go.Eng.Fin0.mk) | (refine Go.Eng.Chk.mk ?_ ?_) | fail))
    (refine Br.mk (fun _ => ?_) (fun _ => ?_))
    · rename_i hc
      rw [show big2 k (L + k) (xs.getD i 0) = 1 from if_pos hc] at hs
      (repeat' ((conv => whnf); first | (refine Giv.mk (fun _ => ?_)) | (refine Alt.l (Need.mk ?h ?_); case h => omega) | (refine Alt.r (Need.mk ?h ?_); case h => omega) | (refine Need.mk ?h ?_; case h => omega) | (refine Need.mk ?h ?_; case h => (intro _; rfl)) | (refine Need.mk ?h ?_; case h => assumption) | (refine Need.mk ?h ?_; case h => (simp <;> omega)) | (refine Ix.zero ?_) | (refine Ix.one ?_) | (refine Ix.two ?_) | (refine Ix.nat ?_) | (refine Ix.add ?_) | (apply Go.Eng.Pin.mk; apply Exists.intro) | (apply Go.Eng.Pinned.mk (Eq.refl _) (Eq.refl _)) | (apply Go.Eng.PinH.mk; apply Exists.intro; apply Exists.intro) | (exact Go.Eng.Fin0.mk) | (refine Go.Eng.Chk.mk ?_ ?_) | fail))
      refine ⟨(i + 1 : Nat), by show xs.length - (i + 1) < xs.length - i; omega, hlt, ?_⟩
      (repeat' (first | exact trivial | rfl | exact Nat.one_pos | (refine And.intro ?_ ?_) | ((conv => whnf); (refine And.intro ?_ ?_)) | ((conv => whnf); exact trivial)))
      omega
    · rename_i hc
      rw [show big2 k (L + k) (xs.getD i 0) = 0 from if_neg hc] at hs
      (repeat' ((conv => whnf); first | (refine Giv.mk (fun _ => ?_)) | (refine Alt.l (Need.mk ?h ?_); case h => omega) | (refine Alt.r (Need.mk ?h ?_); case h => omega) | (refine Need.mk ?h ?_; case h => omega) | (refine Need.mk ?h ?_; case h => (intro _; rfl)) | (refine Need.mk ?h ?_; case h => assumption) | (refine Need.mk ?h ?_; case h => (simp <;> omega)) | (refine Ix.zero ?_) | (refine Ix.one ?_) | (refine Ix.two ?_) | (refine Ix.nat ?_) | (refine Ix.add ?_) | (apply Go.Eng.Pin.mk; apply Exists.intro) | (apply Go.Eng.Pinned.mk (Eq.refl _) (Eq.refl _)) | (apply Go.Eng.PinH.mk; apply Exists.intro; apply Exists.intro) | (exact Go.Eng.Fin0.mk) | (refine Go.Eng.Chk.mk ?_ ?_) | fail))
      refine ⟨(i + 1 : Nat), by show xs.length - (i + 1) < xs.length - i; omega, hlt, ?_⟩
      (repeat' (first | exact trivial | rfl | exact Nat.one_pos | (refine And.intro ?_ ?_) | ((conv => whnf); (refine And.intro ?_ ?_)) | ((conv => whnf); exact trivial)))
      omega
  · (repeat' ((conv => whnf); first | (refine Giv.mk (fun _ => ?_)) | (refine Alt.l (Need.mk ?h ?_); case h => omega) | (refine Alt.r (Need.mk ?h ?_); case h => omega) | (refine Need.mk ?h ?_; case h => omega) | (refine Need.mk ?h ?_; case h => (intro _; rfl)) | (refine Need.mk ?h ?_; case h => assumption) | (refine Need.mk ?h ?_; case h => (simp <;> omega)) | (refine Ix.zero ?_) | (refine Ix.one ?_) | (refine Ix.two ?_) | (refine Ix.nat ?_) | (refine Ix.add ?_) | (apply Go.Eng.Pin.mk; apply Exists.intro) | (apply Go.Eng.Pinned.mk (Eq.refl _) (Eq.refl _)) | (apply Go.Eng.PinH.mk; apply Exists.intro; apply Exists.intro) | (exact Go.Eng.Fin0.mk) | (refine Go.Eng.Chk.mk ?_ ?_) | fail))
    (conv => whnf)
    (repeat' (first | exact trivial | rfl | exact Nat.one_pos | (refine And.intro ?_ ?_) | ((conv => whnf); (refine And.intro ?_ ?_)) | ((conv => whnf); exact trivial)))
    rw [psum_all _ _ _ (by omega)]
    rfl
def c29 : Con := mkCon 29 true fun args K => match args with | [.seq (.int .i64) xs, .val (.int .i64 L), .val (.int .i64 k)] => Need (Okx xs k (L + k)) (K (I (pairE xs k (L + k)))) | _ => False
theorem k29 : ConOK Try.prog c29 := by
  refine conOK_of rfl (enters_of Try.func29 (by kernel_rfl) rfl) ?_
  intro args K h
  simp only [c29] at h
  split at h
  · rename_i xs L k; exact ⟨_, h.go, tri_of_body (Γ := []) (by simp) Try.func29 (by simp [Try.ntmps29]) rfl (b29 xs L k h.ok)⟩
  · exact h.elim
theorem P3_range (f : Int → Int → Int → Int) (b : Int) (hf : ∀ a C w, 0 ≤ w → w ≤ C → C ≤ 66536 → 0 ≤ f a C w ∧ f a C w ≤ b) (xs : List Int) (k C a : Int) (ho : Okx xs k C) : ∀ i, i ≤ xs.length → 0 ≤ P3 f a C k xs i ∧ P3 f a C k xs i ≤ b * i := by
  intro i
  induction i with
  | zero => intro _; simp [psum_zero]
  | succ i ih =>
    intro hi
    have := ih (by omega)
    have h1 := ho.el i (by omega)
    have h2 := ho.c1
    have h3 := ho.k0
    have h4 := hf a C (xs.getD i 0 + k) (by omega) (by omega) h2
    have e' : P3 f a C k xs (i + 1) = P3 f a C k xs i + f a C (xs.getD i 0 + k) := psum_succ _ xs i (by omega)
    rw [e']
    have e : b * ((i + 1 : Nat) : Int) = b * i + b := by simp [Int.mul_add]
    rw [e]
    omega
theorem cnt_range (a C w : Int) : 0 ≤ cntF a C w ∧ cntF a C w ≤ 1 := by unfold cntF; split <;> (try split) <;> omega
theorem room_range (a C w : Int) (_ : 0 ≤ w) (h : w ≤ C) (hC : C ≤ 66536) : 0 ≤ roomF a C w ∧ roomF a C w ≤ 100000 := by unfold roomF; split <;> (try split) <;> omega
theorem small_range (a C w : Int) (_ : 0 ≤ w) (_ : w ≤ C) (hC : C ≤ 66536) : 0 ≤ smallF a C w ∧ smallF a C w ≤ 100000 := by unfold smallF; split <;> (try split) <;> (try split) <;> omega
theorem three (a C w : Int) : (C - a < w ∧ cntF a C w = 1 ∧ roomF a C w = 0 ∧ smallF a C w = 0) ∨
    (¬ C - a < w ∧ C < 2 * w ∧ cntF a C w = 1 ∧ roomF a C w = C - w ∧ smallF a C w = 0) ∨
    (¬ C - a < w ∧ ¬ C < 2 * w ∧ a ≤ w ∧ cntF a C w = 0 ∧ roomF a C w = 0 ∧ smallF a C w = w) ∨
    (¬ C - a < w ∧ ¬ C < 2 * w ∧ ¬ a ≤ w ∧ cntF a C w = 0 ∧ roomF a C w = 0 ∧ smallF a C w = 0) := by
  unfold cntF roomF smallF
  split <;> (try split) <;> (try split) <;> omega
theorem upE_zero {C : Int} (h : 0 < C) : upE 0 C = 0 := by
  unfold upE
  rw [Int.zero_add]
  exact Int.ediv_eq_zero_of_lt (by omega) (by omega)
theorem b31 (xs : List Int) (L k a : Int) (hh : Okx xs k (L + k) ∧ 0 ≤ a ∧ 2 * a ≤ L + k) : body Try.prog [c39] { asks := [(0, [])] } true Try.f31 [Ls xs, I L, I k, I a] (I (belowE xs k (L + k) a)) := by
  obtain ⟨ho, ha⟩ := hh
  have h7 := ho.k0
  have h8 := ho.k1
  have h9 := ho.len
  have h10 := ho.c0
  have h11 := ho.c1
  (repeat' ((conv => whnf); first | (refine Giv.mk (fun _ => ?_)) | (refine Alt.l (Need.mk ?h ?_); case h => omega) | (refine Alt.r (Need.mk ?h ?_); case h => omega) | (refine Need.mk ?h ?_; case h => omega) | (refine Need.mk ?h ?_; case h => (intro _; rfl)) | (refine Need.mk ?h ?_; case h => assumption) | (refine Need.mk ?h ?_; case h => (simp <;> omega)) | (refine Ix.zero ?_) | (refine Ix.one ?_) | (refine Ix.two ?_) | (refine Ix.nat ?_) | (refine Ix.add ?_) | (apply Go.Eng.Pin.mk; apply Exists.intro) | (apply Go.Eng.Pinned.mk (Eq.refl _) (Eq.refl _)) | (apply Go.Eng.PinH.mk; apply Exists.intro; apply Exists.intro) | (exact Go.Eng.Fin0.mk) | (refine Go.Eng.Chk.mk ?_ ?_) | fail))
  refine Ask.mk ⟨{ X := Nat, pre := fun i => i ≤ xs.length, mod := fun i _ => [(10, I (P3 cntF a (L + k) k xs i)), (11, I (P3 roomF a (L + k) k xs i)), (12, I (P3 smallF a (L + k) k xs i)), (13, I i)], mu := fun i => xs.length - i }, rfl, ?_⟩
  (repeat' ((conv => whnf); first | (refine Giv.mk (fun _ => ?_)) | (refine Alt.l (Need.mk ?h ?_); case h => omega) | (refine Alt.r (Need.mk ?h ?_); case h => omega) | (refine Need.mk ?h ?_; case h => omega) | (refine Need.mk ?h ?_; case h => (intro _; rfl)) | (refine Need.mk ?h ?_; case h => assumption) | (refine Need.mk ?h ?_; case h => (simp <;> omega)) | (refine Ix.zero ?_) | (refine Ix.one ?_) | (refine Ix.two ?_) | (refine Ix.nat ?_) | (refine Ix.add ?_) | (apply Go.Eng.Pin.mk; apply Exists.intro) | (apply Go.Eng.Pinned.mk (Eq.refl _) (Eq.refl _)) | (apply Go.Eng.PinH.mk; apply Exists.intro; apply Exists.intro) | (exact Go.Eng.Fin0.mk) | (refine Go.Eng.Chk.mk ?_ ?_) | fail))
  refine ⟨⟨(0 : Nat), Nat.zero_le _, by (repeat' (first | exact trivial | rfl | exact Nat.one_pos | (refine And.intro ?_ ?_) | omega | ((conv => whnf); (refine And.intro ?_ ?_)) | ((conv => whnf); exact trivial)))⟩, fun (i : Nat) (hi : i ≤ xs.length) => ?_⟩
  have r1 := P3_range cntF 1 (fun a C w _ _ _ => cnt_range a C w) xs k _ a ho i hi
  have r2 := P3_range roomF 100000 (fun a C w => room_range a C w) xs k _ a ho i hi
  have r3 := P3_range smallF 100000 (fun a C w => small_range a C w) xs k _ a ho i hi
  (repeat' ((conv => whnf); first | (refine Giv.mk (fun _ => ?_)) | (refine Alt.l (Need.mk ?h ?_); case h => omega) | (refine Alt.r (Need.mk ?h ?_); case h => omega) | (refine Need.mk ?h ?_; case h => omega) | (refine Need.mk ?h ?_; case h => (intro _; rfl)) | (refine Need.mk ?h ?_; case h => assumption) | (refine Need.mk ?h ?_; case h => (simp <;> omega)) | (refine Ix.zero ?_) | (refine Ix.one ?_) | (refine Ix.two ?_) | (refine Ix.nat ?_) | (refine Ix.add ?_) | (apply Go.Eng.Pin.mk; apply Exists.intro) | (apply Go.Eng.Pinned.mk (Eq.refl _) (Eq.refl _)) | (apply Go.Eng.PinH.mk; apply Exists.intro; apply Exists.intro) | (exact Go.Eng.Fin0.mk) | (refine Go.Eng.Chk.mk ?_ ?_) | fail))
  (refine Br.mk (fun _ => ?_) (fun _ => ?_))
  · have hlt : i < xs.length := by omega
    obtain ⟨h4, h5, h6⟩ := ho.el i hlt
    have s1 : P3 cntF a (L + k) k xs (i + 1) = P3 cntF a (L + k) k xs i + cntF a (L + k) (xs.getD i 0 + k) := psum_succ (fun x => cntF a (L + k) (x + k)) xs i hlt
    have s2 : P3 roomF a (L + k) k xs (i + 1) = P3 roomF a (L + k) k xs i + roomF a (L + k) (xs.getD i 0 + k) := psum_succ (fun x => roomF a (L + k) (x + k)) xs i hlt
    have s3 : P3 smallF a (L + k) k xs (i + 1) = P3 smallF a (L + k) k xs i + smallF a (L + k) (xs.getD i 0 + k) := psum_succ (fun x => smallF a (L + k) (x + k)) xs i hlt
    have h3 := three a (L + k) (xs.getD i 0 + k)
    (repeat' ((conv => whnf); first | (refine Giv.mk (fun _ => ?_)) | (refine Alt.l (Need.mk ?h ?_); case h => omega) | (refine Alt.r (Need.mk ?h ?_); case h => omega) | (refine Need.mk ?h ?_; case h => omega) | (refine Need.mk ?h ?_; case h => (intro _; rfl)) | (refine Need.mk ?h ?_; case h => assumption) | (refine Need.mk ?h ?_; case h => (simp <;> omega)) | (refine Ix.zero ?_) | (refine Ix.one ?_) | (refine Ix.two ?_) | (refine Ix.nat ?_) | (refine Ix.add ?_) | (apply Go.Eng.Pin.mk; apply Exists.intro) | (apply Go.Eng.Pinned.mk (Eq.refl _) (Eq.refl _)) | (apply Go.Eng.PinH.mk; apply Exists.intro; apply Exists.intro) | (exact Go.Eng.Fin0.mk) | (refine Go.Eng.Chk.mk ?_ ?_) | (refine Br.mkY ?h ?_; case h => omega) | (refine Br.mkN ?h ?_; case h => omega) | (refine Br.mk (fun _ => ?_) (fun _ => ?_)) | fail))
    all_goals (refine ⟨(i + 1 : Nat), by show xs.length - (i + 1) < xs.length - i; omega, hlt, ?_⟩)
    all_goals (repeat' (first | exact trivial | rfl | exact Nat.one_pos | (refine And.intro ?_ ?_) | ((conv => whnf); (refine And.intro ?_ ?_)) | ((conv => whnf); exact trivial)))
    all_goals omega
  · have hd0 : 0 ≤ (P3 smallF a (L + k) k xs i - P3 roomF a (L + k) k xs i + (L + k) - 1) / (L + k) ∨ P3 smallF a (L + k) k xs i ≤ P3 roomF a (L + k) k xs i := by
      by_cases h : P3 smallF a (L + k) k xs i ≤ P3 roomF a (L + k) k xs i
      · exact .inr h
      · exact .inl (Int.ediv_nonneg (by omega) (by omega))
    have hd1 : (P3 smallF a (L + k) k xs i - P3 roomF a (L + k) k xs i + (L + k) - 1) / (L + k) ≤ P3 smallF a (L + k) k xs i - P3 roomF a (L + k) k xs i + (L + k) - 1 ∨ P3 smallF a (L + k) k xs i ≤ P3 roomF a (L + k) k xs i := by
      by_cases h : P3 smallF a (L + k) k xs i ≤ P3 roomF a (L + k) k xs i
      · exact .inr h
      · exact .inl (Int.ediv_le_self _ (by omega))
    have e : belowE xs k (L + k) a = P3 cntF a (L + k) k xs i + upE (max 0 (P3 smallF a (L + k) k xs i - P3 roomF a (L + k) k xs i)) (L + k) := by
      simp only [P3, psum_all _ _ i (show i = xs.length by omega)]
      rfl
    (repeat' ((conv => whnf); first | (refine Giv.mk (fun _ => ?_)) | (refine Alt.l (Need.mk ?h ?_); case h => omega) | (refine Alt.r (Need.mk ?h ?_); case h => omega) | (refine Need.mk ?h ?_; case h => omega) | (refine Need.mk ?h ?_; case h => (intro _; rfl)) | (refine Need.mk ?h ?_; case h => assumption) | (refine Need.mk ?h ?_; case h => (simp <;> omega)) | (refine Ix.zero ?_) | (refine Ix.one ?_) | (refine Ix.two ?_) | (refine Ix.nat ?_) | (refine Ix.add ?_) | (apply Go.Eng.Pin.mk; apply Exists.intro) | (apply Go.Eng.Pinned.mk (Eq.refl _) (Eq.refl _)) | (apply Go.Eng.PinH.mk; apply Exists.intro; apply Exists.intro) | (exact Go.Eng.Fin0.mk) | (refine Go.Eng.Chk.mk ?_ ?_) | (refine Br.mkY ?h ?_; case h => omega) | (refine Br.mkN ?h ?_; case h => omega) | (refine Br.mk (fun _ => ?_) (fun _ => ?_)) | fail))
    all_goals (conv => whnf)
    all_goals (repeat' (first | exact trivial | rfl | exact Nat.one_pos | (refine And.intro ?_ ?_) | ((conv => whnf); (refine And.intro ?_ ?_)) | ((conv => whnf); exact trivial)))
    · rename_i h
      rw [e, Int.max_eq_right (by omega)]
      rfl
    · rename_i h
      rw [e, Int.max_eq_left (by omega), upE_zero (by omega)]
      omega
def c31 : Con := mkCon 31 true fun args K => match args with | [.seq (.int .i64) xs, .val (.int .i64 L), .val (.int .i64 k), .val (.int .i64 a)] => Need (Okx xs k (L + k) ∧ 0 ≤ a ∧ 2 * a ≤ L + k) (K (I (belowE xs k (L + k) a))) | _ => False
theorem k31 : ConOK Try.prog c31 := by
  refine conOK_of rfl (enters_of Try.func31 (by kernel_rfl) rfl) ?_
  intro args K h
  simp only [c31] at h
  split at h
  · rename_i xs L k a; exact ⟨_, h.go, tri_of_body (Γ := [c39]) (by simp [k39]) Try.func31 (by simp [Try.ntmps31]) rfl (b31 xs L k a h.ok)⟩
  · exact h.elim

/-! ### The exported functions -/
def matR (xs : List Int) (L k : Int) : Int := if checkE xs L k = 0 then matE xs k (L + k) else 0
def pairR (xs : List Int) (L k : Int) : Int := if checkE xs L k = 0 then pairE xs k (L + k) else 0
def bestR (xs : List Int) (L k : Int) : Int := if checkE xs L k = 0 then max (max (max 0 (matE xs k (L + k))) (pairE xs k (L + k))) (greatE xs k (L + k)) else 0
theorem b12 (xs : List Int) (L k : Int) : body Try.prog [c24, c25] {} true Try.f12 [Ls xs, I L, I k] (.tup [I (matR xs L k), I (checkE xs L k)]) := by
  (repeat' ((conv => whnf); first | (refine Giv.mk (fun _ => ?_)) | (refine Alt.l (Need.mk ?h ?_); case h => omega) | (refine Alt.r (Need.mk ?h ?_); case h => omega) | (refine Need.mk ?h ?_; case h => omega) | (refine Need.mk ?h ?_; case h => (intro _; rfl)) | (refine Need.mk ?h ?_; case h => assumption) | (refine Need.mk ?h ?_; case h => (simp <;> omega)) | (refine Ix.zero ?_) | (refine Ix.one ?_) | (refine Ix.two ?_) | (refine Ix.nat ?_) | (refine Ix.add ?_) | (apply Go.Eng.Pin.mk; apply Exists.intro) | (apply Go.Eng.Pinned.mk (Eq.refl _) (Eq.refl _)) | (apply Go.Eng.PinH.mk; apply Exists.intro; apply Exists.intro) | (exact Go.Eng.Fin0.mk) | (refine Go.Eng.Chk.mk ?_ ?_) | fail))
  (refine Br.mk (fun _ => ?_) (fun _ => ?_))
  · rename_i h
    have ho := okx_of h
    have e : matR xs L k = matE xs k (L + k) := if_pos h
    (repeat' ((conv => whnf); first | (refine Giv.mk (fun _ => ?_)) | (refine Alt.l (Need.mk ?h ?_); case h => omega) | (refine Alt.r (Need.mk ?h ?_); case h => omega) | (refine Need.mk ?h ?_; case h => omega) | (refine Need.mk ?h ?_; case h => (intro _; rfl)) | (refine Need.mk ?h ?_; case h => assumption) | (refine Need.mk ?h ?_; case h => (simp <;> omega)) | (refine Ix.zero ?_) | (refine Ix.one ?_) | (refine Ix.two ?_) | (refine Ix.nat ?_) | (refine Ix.add ?_) | (apply Go.Eng.Pin.mk; apply Exists.intro) | (apply Go.Eng.Pinned.mk (Eq.refl _) (Eq.refl _)) | (apply Go.Eng.PinH.mk; apply Exists.intro; apply Exists.intro) | (exact Go.Eng.Fin0.mk) | (refine Go.Eng.Chk.mk ?_ ?_) | (refine Br.mkY ?h ?_; case h => omega) | (refine Br.mkN ?h ?_; case h => omega) | fail))
    (conv => whnf)
    (repeat' (first | exact trivial | rfl | exact Nat.one_pos | (refine And.intro ?_ ?_) | ((conv => whnf); (refine And.intro ?_ ?_)) | ((conv => whnf); exact trivial)))
    · exact e.symm
    · exact h.symm
  · rename_i h
    have e : matR xs L k = 0 := if_neg h
    (repeat' ((conv => whnf); first | (refine Giv.mk (fun _ => ?_)) | (refine Alt.l (Need.mk ?h ?_); case h => omega) | (refine Alt.r (Need.mk ?h ?_); case h => omega) | (refine Need.mk ?h ?_; case h => omega) | (refine Need.mk ?h ?_; case h => (intro _; rfl)) | (refine Need.mk ?h ?_; case h => assumption) | (refine Need.mk ?h ?_; case h => (simp <;> omega)) | (refine Ix.zero ?_) | (refine Ix.one ?_) | (refine Ix.two ?_) | (refine Ix.nat ?_) | (refine Ix.add ?_) | (apply Go.Eng.Pin.mk; apply Exists.intro) | (apply Go.Eng.Pinned.mk (Eq.refl _) (Eq.refl _)) | (apply Go.Eng.PinH.mk; apply Exists.intro; apply Exists.intro) | (exact Go.Eng.Fin0.mk) | (refine Go.Eng.Chk.mk ?_ ?_) | (refine Br.mkY ?h ?_; case h => omega) | (refine Br.mkN ?h ?_; case h => omega) | fail))
    (conv => whnf)
    (repeat' (first | exact trivial | rfl | exact Nat.one_pos | (refine And.intro ?_ ?_) | ((conv => whnf); (refine And.intro ?_ ?_)) | ((conv => whnf); exact trivial)))
    exact e.symm
def c12 : Con := mkCon 12 true fun args K => match args with | [.seq (.int .i64) xs, .val (.int .i64 L), .val (.int .i64 k)] => K (.tup [I (matR xs L k), I (checkE xs L k)]) | _ => False
theorem k12 : ConOK Try.prog c12 := by
  refine conOK_of rfl (enters_of Try.func12 (by kernel_rfl) rfl) ?_
  intro args K h
  simp only [c12] at h
  split at h
  · rename_i xs L k; exact ⟨_, h, tri_of_body (Γ := [c24, c25]) (by simp [k24, k25]) Try.func12 (by simp [Try.ntmps12]) rfl (b12 xs L k)⟩
  · exact h.elim
theorem b14 (xs : List Int) (L k : Int) : body Try.prog [c24, c28] {} true Try.f14 [Ls xs, I L, I k] (.tup [I (pairR xs L k), I (checkE xs L k)]) := by
  (repeat' ((conv => whnf); first | (refine Giv.mk (fun _ => ?_)) | (refine Alt.l (Need.mk ?h ?_); case h => omega) | (refine Alt.r (Need.mk ?h ?_); case h => omega) | (refine Need.mk ?h ?_; case h => omega) | (refine Need.mk ?h ?_; case h => (intro _; rfl)) | (refine Need.mk ?h ?_; case h => assumption) | (refine Need.mk ?h ?_; case h => (simp <;> omega)) | (refine Ix.zero ?_) | (refine Ix.one ?_) | (refine Ix.two ?_) | (refine Ix.nat ?_) | (refine Ix.add ?_) | (apply Go.Eng.Pin.mk; apply Exists.intro) | (apply Go.Eng.Pinned.mk (Eq.refl _) (Eq.refl _)) | (apply Go.Eng.PinH.mk; apply Exists.intro; apply Exists.intro) | (exact Go.Eng.Fin0.mk) | (refine Go.Eng.Chk.mk ?_ ?_) | fail))
  (refine Br.mk (fun _ => ?_) (fun _ => ?_))
  · rename_i h
    have ho := okx_of h
    have e : pairR xs L k = pairE xs k (L + k) := if_pos h
    (repeat' ((conv => whnf); first | (refine Giv.mk (fun _ => ?_)) | (refine Alt.l (Need.mk ?h ?_); case h => omega) | (refine Alt.r (Need.mk ?h ?_); case h => omega) | (refine Need.mk ?h ?_; case h => omega) | (refine Need.mk ?h ?_; case h => (intro _; rfl)) | (refine Need.mk ?h ?_; case h => assumption) | (refine Need.mk ?h ?_; case h => (simp <;> omega)) | (refine Ix.zero ?_) | (refine Ix.one ?_) | (refine Ix.two ?_) | (refine Ix.nat ?_) | (refine Ix.add ?_) | (apply Go.Eng.Pin.mk; apply Exists.intro) | (apply Go.Eng.Pinned.mk (Eq.refl _) (Eq.refl _)) | (apply Go.Eng.PinH.mk; apply Exists.intro; apply Exists.intro) | (exact Go.Eng.Fin0.mk) | (refine Go.Eng.Chk.mk ?_ ?_) | (refine Br.mkY ?h ?_; case h => omega) | (refine Br.mkN ?h ?_; case h => omega) | fail))
    (conv => whnf)
    (repeat' (first | exact trivial | rfl | exact Nat.one_pos | (refine And.intro ?_ ?_) | ((conv => whnf); (refine And.intro ?_ ?_)) | ((conv => whnf); exact trivial)))
    · exact e.symm
    · exact h.symm
  · rename_i h
    have e : pairR xs L k = 0 := if_neg h
    (repeat' ((conv => whnf); first | (refine Giv.mk (fun _ => ?_)) | (refine Alt.l (Need.mk ?h ?_); case h => omega) | (refine Alt.r (Need.mk ?h ?_); case h => omega) | (refine Need.mk ?h ?_; case h => omega) | (refine Need.mk ?h ?_; case h => (intro _; rfl)) | (refine Need.mk ?h ?_; case h => assumption) | (refine Need.mk ?h ?_; case h => (simp <;> omega)) | (refine Ix.zero ?_) | (refine Ix.one ?_) | (refine Ix.two ?_) | (refine Ix.nat ?_) | (refine Ix.add ?_) | (apply Go.Eng.Pin.mk; apply Exists.intro) | (apply Go.Eng.Pinned.mk (Eq.refl _) (Eq.refl _)) | (apply Go.Eng.PinH.mk; apply Exists.intro; apply Exists.intro) | (exact Go.Eng.Fin0.mk) | (refine Go.Eng.Chk.mk ?_ ?_) | (refine Br.mkY ?h ?_; case h => omega) | (refine Br.mkN ?h ?_; case h => omega) | fail))
    (conv => whnf)
    (repeat' (first | exact trivial | rfl | exact Nat.one_pos | (refine And.intro ?_ ?_) | ((conv => whnf); (refine And.intro ?_ ?_)) | ((conv => whnf); exact trivial)))
    exact e.symm
def c14 : Con := mkCon 14 true fun args K => match args with | [.seq (.int .i64) xs, .val (.int .i64 L), .val (.int .i64 k)] => K (.tup [I (pairR xs L k), I (checkE xs L k)]) | _ => False
theorem k14 : ConOK Try.prog c14 := by
  refine conOK_of rfl (enters_of Try.func14 (by kernel_rfl) rfl) ?_
  intro args K h
  simp only [c14] at h
  split at h
  · rename_i xs L k; exact ⟨_, h, tri_of_body (Γ := [c24, c28]) (by simp [k24, k28]) Try.func14 (by simp [Try.ntmps14]) rfl (b14 xs L k)⟩
  · exact h.elim
theorem b16 (xs : List Int) (L k : Int) : body Try.prog [c24, c25, c28, c30] {} true Try.f16 [Ls xs, I L, I k] (.tup [I (bestR xs L k), I (checkE xs L k)]) := by
  (repeat' ((conv => whnf); first | (refine Giv.mk (fun _ => ?_)) | (refine Alt.l (Need.mk ?h ?_); case h => omega) | (refine Alt.r (Need.mk ?h ?_); case h => omega) | (refine Need.mk ?h ?_; case h => omega) | (refine Need.mk ?h ?_; case h => (intro _; rfl)) | (refine Need.mk ?h ?_; case h => assumption) | (refine Need.mk ?h ?_; case h => (simp <;> omega)) | (refine Ix.zero ?_) | (refine Ix.one ?_) | (refine Ix.two ?_) | (refine Ix.nat ?_) | (refine Ix.add ?_) | (apply Go.Eng.Pin.mk; apply Exists.intro) | (apply Go.Eng.Pinned.mk (Eq.refl _) (Eq.refl _)) | (apply Go.Eng.PinH.mk; apply Exists.intro; apply Exists.intro) | (exact Go.Eng.Fin0.mk) | (refine Go.Eng.Chk.mk ?_ ?_) | fail))
  (refine Br.mk (fun _ => ?_) (fun _ => ?_))
  · rename_i h
    have ho := okx_of h
    have e : bestR xs L k = max (max (max 0 (matE xs k (L + k))) (pairE xs k (L + k))) (greatE xs k (L + k)) := if_pos h
    (repeat' ((conv => whnf); first | (refine Giv.mk (fun _ => ?_)) | (refine Alt.l (Need.mk ?h ?_); case h => omega) | (refine Alt.r (Need.mk ?h ?_); case h => omega) | (refine Need.mk ?h ?_; case h => omega) | (refine Need.mk ?h ?_; case h => (intro _; rfl)) | (refine Need.mk ?h ?_; case h => assumption) | (refine Need.mk ?h ?_; case h => (simp <;> omega)) | (refine Ix.zero ?_) | (refine Ix.one ?_) | (refine Ix.two ?_) | (refine Ix.nat ?_) | (refine Ix.add ?_) | (apply Go.Eng.Pin.mk; apply Exists.intro) | (apply Go.Eng.Pinned.mk (Eq.refl _) (Eq.refl _)) | (apply Go.Eng.PinH.mk; apply Exists.intro; apply Exists.intro) | (exact Go.Eng.Fin0.mk) | (refine Go.Eng.Chk.mk ?_ ?_) | (refine Br.mkY ?h ?_; case h => omega) | (refine Br.mkN ?h ?_; case h => omega) | fail))
    (conv => whnf)
    (repeat' (first | exact trivial | rfl | exact Nat.one_pos | (refine And.intro ?_ ?_) | ((conv => whnf); (refine And.intro ?_ ?_)) | ((conv => whnf); exact trivial)))
    · exact e.symm
    · exact h.symm
  · rename_i h
    have e : bestR xs L k = 0 := if_neg h
    (repeat' ((conv => whnf); first | (refine Giv.mk (fun _ => ?_)) | (refine Alt.l (Need.mk ?h ?_); case h => omega) | (refine Alt.r (Need.mk ?h ?_); case h => omega) | (refine Need.mk ?h ?_; case h => omega) | (refine Need.mk ?h ?_; case h => (intro _; rfl)) | (refine Need.mk ?h ?_; case h => assumption) | (refine Need.mk ?h ?_; case h => (simp <;> omega)) | (refine Ix.zero ?_) | (refine Ix.one ?_) | (refine Ix.two ?_) | (refine Ix.nat ?_) | (refine Ix.add ?_) | (apply Go.Eng.Pin.mk; apply Exists.intro) | (apply Go.Eng.Pinned.mk (Eq.refl _) (Eq.refl _)) | (apply Go.Eng.PinH.mk; apply Exists.intro; apply Exists.intro) | (exact Go.Eng.Fin0.mk) | (refine Go.Eng.Chk.mk ?_ ?_) | (refine Br.mkY ?h ?_; case h => omega) | (refine Br.mkN ?h ?_; case h => omega) | fail))
    (conv => whnf)
    (repeat' (first | exact trivial | rfl | exact Nat.one_pos | (refine And.intro ?_ ?_) | ((conv => whnf); (refine And.intro ?_ ?_)) | ((conv => whnf); exact trivial)))
    exact e.symm
def c16 : Con := mkCon 16 true fun args K => match args with | [.seq (.int .i64) xs, .val (.int .i64 L), .val (.int .i64 k)] => K (.tup [I (bestR xs L k), I (checkE xs L k)]) | _ => False
theorem k16 : ConOK Try.prog c16 := by
  refine conOK_of rfl (enters_of Try.func16 (by kernel_rfl) rfl) ?_
  intro args K h
  simp only [c16] at h
  split at h
  · rename_i xs L k; exact ⟨_, h, tri_of_body (Γ := [c24, c25, c28, c30]) (by simp [k24, k25, k28, k30]) Try.func16 (by simp [Try.ntmps16]) rfl (b16 xs L k)⟩
  · exact h.elim
theorem b13 (xs : List Int) (L k : Int) : body Try.prog [c26, c27] {} true Try.f13 [Ls xs, I L, I k] (.tup [I (matR xs L k), I (checkE xs L k)]) := by
  by_cases h : checkE xs L k = 0
  · have ho := okx_of h
    have e : matR xs L k = matE xs k (L + k) := if_pos h
    (repeat' ((conv => whnf); first | (refine Giv.mk (fun _ => ?_)) | (refine Alt.l (Need.mk ?h ?_); case h => omega) | (refine Alt.r (Need.mk ?h ?_); case h => omega) | (refine Need.mk ?h ?_; case h => omega) | (refine Need.mk ?h ?_; case h => (intro _; rfl)) | (refine Need.mk ?h ?_; case h => assumption) | (refine Need.mk ?h ?_; case h => (simp <;> omega)) | (refine Ix.zero ?_) | (refine Ix.one ?_) | (refine Ix.two ?_) | (refine Ix.nat ?_) | (refine Ix.add ?_) | (apply Go.Eng.Pin.mk; apply Exists.intro) | (apply Go.Eng.Pinned.mk (Eq.refl _) (Eq.refl _)) | (apply Go.Eng.PinH.mk; apply Exists.intro; apply Exists.intro) | (exact Go.Eng.Fin0.mk) | (refine Go.Eng.Chk.mk ?_ ?_) | (refine Br.mkY ?h ?_; case h => omega) | (refine Br.mkN ?h ?_; case h => omega) | fail))
    (conv => whnf)
    (repeat' (first | exact trivial | rfl | exact Nat.one_pos | (refine And.intro ?_ ?_) | ((conv => whnf); (refine And.intro ?_ ?_)) | ((conv => whnf); exact trivial)))
    · exact e.symm
    · exact h.symm
  · have e : matR xs L k = 0 := if_neg h
    (repeat' ((conv => whnf); first | (refine Giv.mk (fun _ => ?_)) | (refine Alt.l (Need.mk ?h ?_); case h => omega) | (refine Alt.r (Need.mk ?h ?_); case h => omega) | (refine Need.mk ?h ?_; case h => omega) | (refine Need.mk ?h ?_; case h => (intro _; rfl)) | (refine Need.mk ?h ?_; case h => assumption) | (refine Need.mk ?h ?_; case h => (simp <;> omega)) | (refine Ix.zero ?_) | (refine Ix.one ?_) | (refine Ix.two ?_) | (refine Ix.nat ?_) | (refine Ix.add ?_) | (apply Go.Eng.Pin.mk; apply Exists.intro) | (apply Go.Eng.Pinned.mk (Eq.refl _) (Eq.refl _)) | (apply Go.Eng.PinH.mk; apply Exists.intro; apply Exists.intro) | (exact Go.Eng.Fin0.mk) | (refine Go.Eng.Chk.mk ?_ ?_) | (refine Br.mkY ?h ?_; case h => omega) | (refine Br.mkN ?h ?_; case h => omega) | fail))
    (conv => whnf)
    (repeat' (first | exact trivial | rfl | exact Nat.one_pos | (refine And.intro ?_ ?_) | ((conv => whnf); (refine And.intro ?_ ?_)) | ((conv => whnf); exact trivial)))
    exact e.symm
def c13 : Con := mkCon 13 true fun args K => match args with | [.seq (.int .i64) xs, .val (.int .i64 L), .val (.int .i64 k)] => K (.tup [I (matR xs L k), I (checkE xs L k)]) | _ => False
theorem k13 : ConOK Try.prog c13 := by
  refine conOK_of rfl (enters_of Try.func13 (by kernel_rfl) rfl) ?_
  intro args K h
  simp only [c13] at h
  split at h
  · rename_i xs L k; exact ⟨_, h, tri_of_body (Γ := [c26, c27]) (by simp [k26, k27]) Try.func13 (by simp [Try.ntmps13]) rfl (b13 xs L k)⟩
  · exact h.elim
theorem b15 (xs : List Int) (L k : Int) : body Try.prog [c26, c29] {} true Try.f15 [Ls xs, I L, I k] (.tup [I (pairR xs L k), I (checkE xs L k)]) := by
  by_cases h : checkE xs L k = 0
  · have ho := okx_of h
    have e : pairR xs L k = pairE xs k (L + k) := if_pos h
    (repeat' ((conv => whnf); first | (refine Giv.mk (fun _ => ?_)) | (refine Alt.l (Need.mk ?h ?_); case h => omega) | (refine Alt.r (Need.mk ?h ?_); case h => omega) | (refine Need.mk ?h ?_; case h => omega) | (refine Need.mk ?h ?_; case h => (intro _; rfl)) | (refine Need.mk ?h ?_; case h => assumption) | (refine Need.mk ?h ?_; case h => (simp <;> omega)) | (refine Ix.zero ?_) | (refine Ix.one ?_) | (refine Ix.two ?_) | (refine Ix.nat ?_) | (refine Ix.add ?_) | (apply Go.Eng.Pin.mk; apply Exists.intro) | (apply Go.Eng.Pinned.mk (Eq.refl _) (Eq.refl _)) | (apply Go.Eng.PinH.mk; apply Exists.intro; apply Exists.intro) | (exact Go.Eng.Fin0.mk) | (refine Go.Eng.Chk.mk ?_ ?_) | (refine Br.mkY ?h ?_; case h => omega) | (refine Br.mkN ?h ?_; case h => omega) | fail))
    (conv => whnf)
    (repeat' (first | exact trivial | rfl | exact Nat.one_pos | (refine And.intro ?_ ?_) | ((conv => whnf); (refine And.intro ?_ ?_)) | ((conv => whnf); exact trivial)))
    · exact e.symm
    · exact h.symm
  · have e : pairR xs L k = 0 := if_neg h
    (repeat' ((conv => whnf); first | (refine Giv.mk (fun _ => ?_)) | (refine Alt.l (Need.mk ?h ?_); case h => omega) | (refine Alt.r (Need.mk ?h ?_); case h => omega) | (refine Need.mk ?h ?_; case h => omega) | (refine Need.mk ?h ?_; case h => (intro _; rfl)) | (refine Need.mk ?h ?_; case h => assumption) | (refine Need.mk ?h ?_; case h => (simp <;> omega)) | (refine Ix.zero ?_) | (refine Ix.one ?_) | (refine Ix.two ?_) | (refine Ix.nat ?_) | (refine Ix.add ?_) | (apply Go.Eng.Pin.mk; apply Exists.intro) | (apply Go.Eng.Pinned.mk (Eq.refl _) (Eq.refl _)) | (apply Go.Eng.PinH.mk; apply Exists.intro; apply Exists.intro) | (exact Go.Eng.Fin0.mk) | (refine Go.Eng.Chk.mk ?_ ?_) | (refine Br.mkY ?h ?_; case h => omega) | (refine Br.mkN ?h ?_; case h => omega) | fail))
    (conv => whnf)
    (repeat' (first | exact trivial | rfl | exact Nat.one_pos | (refine And.intro ?_ ?_) | ((conv => whnf); (refine And.intro ?_ ?_)) | ((conv => whnf); exact trivial)))
    exact e.symm
def c15 : Con := mkCon 15 true fun args K => match args with | [.seq (.int .i64) xs, .val (.int .i64 L), .val (.int .i64 k)] => K (.tup [I (pairR xs L k), I (checkE xs L k)]) | _ => False
theorem k15 : ConOK Try.prog c15 := by
  refine conOK_of rfl (enters_of Try.func15 (by kernel_rfl) rfl) ?_
  intro args K h
  simp only [c15] at h
  split at h
  · rename_i xs L k; exact ⟨_, h, tri_of_body (Γ := [c26, c29]) (by simp [k26, k29]) Try.func15 (by simp [Try.ntmps15]) rfl (b15 xs L k)⟩
  · exact h.elim
def greatP (xs : List Int) : Prop := 67 < xs.length ∨ ∃ j, j < xs.length ∧ 8 < xs.length ∧ (xs.length ≤ 64 ∨ xs.getD j 0 ≠ xs.getD 0 0)
theorem b10 (xs : List Int) : body Try.prog [] { asks := [(0, [])] } true Try.f10 [Ls xs] (.bl (greatP xs) (Classical.propDecidable _)) := by
  (repeat' ((conv => whnf); first | (refine Giv.mk (fun _ => ?_)) | (refine Alt.l (Need.mk ?h ?_); case h => omega) | (refine Alt.r (Need.mk ?h ?_); case h => omega) | (refine Need.mk ?h ?_; case h => omega) | (refine Need.mk ?h ?_; case h => (intro _; rfl)) | (refine Need.mk ?h ?_; case h => assumption) | (refine Need.mk ?h ?_; case h => (simp <;> omega)) | (refine Ix.zero ?_) | (refine Ix.one ?_) | (refine Ix.two ?_) | (refine Ix.nat ?_) | (refine Ix.add ?_) | (apply Go.Eng.Pin.mk; apply Exists.intro) | (apply Go.Eng.Pinned.mk (Eq.refl _) (Eq.refl _)) | (apply Go.Eng.PinH.mk; apply Exists.intro; apply Exists.intro) | (exact Go.Eng.Fin0.mk) | (refine Go.Eng.Chk.mk ?_ ?_) | fail))
  (refine Br.mk (fun _ => ?_) (fun _ => ?_))
  · (repeat' ((conv => whnf); first | (refine Giv.mk (fun _ => ?_)) | (refine Alt.l (Need.mk ?h ?_); case h => omega) | (refine Alt.r (Need.mk ?h ?_); case h => omega) | (refine Need.mk ?h ?_; case h => omega) | (refine Need.mk ?h ?_; case h => (intro _; rfl)) | (refine Need.mk ?h ?_; case h => assumption) | (refine Need.mk ?h ?_; case h => (simp <;> omega)) | (refine Ix.zero ?_) | (refine Ix.one ?_) | (refine Ix.two ?_) | (refine Ix.nat ?_) | (refine Ix.add ?_) | (apply Go.Eng.Pin.mk; apply Exists.intro) | (apply Go.Eng.Pinned.mk (Eq.refl _) (Eq.refl _)) | (apply Go.Eng.PinH.mk; apply Exists.intro; apply Exists.intro) | (exact Go.Eng.Fin0.mk) | (refine Go.Eng.Chk.mk ?_ ?_) | fail))
    (conv => whnf)
    exact .inl (by omega)
  (repeat' ((conv => whnf); first | (refine Giv.mk (fun _ => ?_)) | (refine Alt.l (Need.mk ?h ?_); case h => omega) | (refine Alt.r (Need.mk ?h ?_); case h => omega) | (refine Need.mk ?h ?_; case h => omega) | (refine Need.mk ?h ?_; case h => (intro _; rfl)) | (refine Need.mk ?h ?_; case h => assumption) | (refine Need.mk ?h ?_; case h => (simp <;> omega)) | (refine Ix.zero ?_) | (refine Ix.one ?_) | (refine Ix.two ?_) | (refine Ix.nat ?_) | (refine Ix.add ?_) | (apply Go.Eng.Pin.mk; apply Exists.intro) | (apply Go.Eng.Pinned.mk (Eq.refl _) (Eq.refl _)) | (apply Go.Eng.PinH.mk; apply Exists.intro; apply Exists.intro) | (exact Go.Eng.Fin0.mk) | (refine Go.Eng.Chk.mk ?_ ?_) | fail))
  refine Ask.mk ⟨{ X := Nat, pre := fun i => i ≤ xs.length ∧ ∀ j, j < i → ¬ (8 < xs.length ∧ (xs.length ≤ 64 ∨ xs.getD j 0 ≠ xs.getD 0 0)), mod := fun i _ => [(3, I i)], mu := fun i => xs.length - i }, rfl, ?_⟩
  (repeat' ((conv => whnf); first | (refine Giv.mk (fun _ => ?_)) | (refine Alt.l (Need.mk ?h ?_); case h => omega) | (refine Alt.r (Need.mk ?h ?_); case h => omega) | (refine Need.mk ?h ?_; case h => omega) | (refine Need.mk ?h ?_; case h => (intro _; rfl)) | (refine Need.mk ?h ?_; case h => assumption) | (refine Need.mk ?h ?_; case h => (simp <;> omega)) | (refine Ix.zero ?_) | (refine Ix.one ?_) | (refine Ix.two ?_) | (refine Ix.nat ?_) | (refine Ix.add ?_) | (apply Go.Eng.Pin.mk; apply Exists.intro) | (apply Go.Eng.Pinned.mk (Eq.refl _) (Eq.refl _)) | (apply Go.Eng.PinH.mk; apply Exists.intro; apply Exists.intro) | (exact Go.Eng.Fin0.mk) | (refine Go.Eng.Chk.mk ?_ ?_) | fail))
  refine ⟨⟨(0 : Nat), ⟨Nat.zero_le _, fun j hj => by omega⟩, by (repeat' (first | exact trivial | rfl | exact Nat.one_pos | (refine And.intro ?_ ?_) | omega | ((conv => whnf); (refine And.intro ?_ ?_)) | ((conv => whnf); exact trivial)))⟩, fun (i : Nat) hi => ?_⟩
  obtain ⟨hi, hall⟩ := hi
  (repeat' ((conv => whnf); first | (refine Giv.mk (fun _ => ?_)) | (refine Alt.l (Need.mk ?h ?_); case h => omega) | (refine Alt.r (Need.mk ?h ?_); case h => omega) | (refine Need.mk ?h ?_; case h => omega) | (refine Need.mk ?h ?_; case h => (intro _; rfl)) | (refine Need.mk ?h ?_; case h => assumption) | (refine Need.mk ?h ?_; case h => (simp <;> omega)) | (refine Ix.zero ?_) | (refine Ix.one ?_) | (refine Ix.two ?_) | (refine Ix.nat ?_) | (refine Ix.add ?_) | (apply Go.Eng.Pin.mk; apply Exists.intro) | (apply Go.Eng.Pinned.mk (Eq.refl _) (Eq.refl _)) | (apply Go.Eng.PinH.mk; apply Exists.intro; apply Exists.intro) | (exact Go.Eng.Fin0.mk) | (refine Go.Eng.Chk.mk ?_ ?_) | fail))
  (refine Br.mk (fun _ => ?_) (fun _ => ?_))
  · have hlt : i < xs.length := by omega
    have hnext : ¬ (8 < xs.length ∧ (xs.length ≤ 64 ∨ xs.getD i 0 ≠ xs.getD 0 0)) → ∀ j, j < i + 1 → ¬ (8 < xs.length ∧ (xs.length ≤ 64 ∨ xs.getD j 0 ≠ xs.getD 0 0)) := fun h j hj => by
      by_cases e : j = i
      · subst e; exact h
      · exact hall j (by omega)
    (repeat' ((conv => whnf); first | (refine Giv.mk (fun _ => ?_)) | (refine Alt.l (Need.mk ?h ?_); case h => omega) | (refine Alt.r (Need.mk ?h ?_); case h => omega) | (refine Need.mk ?h ?_; case h => omega) | (refine Need.mk ?h ?_; case h => (intro _; rfl)) | (refine Need.mk ?h ?_; case h => assumption) | (refine Need.mk ?h ?_; case h => (simp <;> omega)) | (refine Ix.zero ?_) | (refine Ix.one ?_) | (refine Ix.two ?_) | (refine Ix.nat ?_) | (refine Ix.add ?_) | (apply Go.Eng.Pin.mk; apply Exists.intro) | (apply Go.Eng.Pinned.mk (Eq.refl _) (Eq.refl _)) | (apply Go.Eng.PinH.mk; apply Exists.intro; apply Exists.intro) | (exact Go.Eng.Fin0.mk) | (refine Go.Eng.Chk.mk ?_ ?_) | (refine Br.mkY ?h ?_; case h => omega) | (refine Br.mkN ?h ?_; case h => omega) | (refine Br.mk (fun _ => ?_) (fun _ => ?_)) | fail))
    all_goals (conv => whnf)
    · exact .inr ⟨i, hlt, by omega, .inl (by omega)⟩
    · exact .inr ⟨i, hlt, by omega, .inr ‹_›⟩
    all_goals (refine ⟨(i + 1 : Nat), by show xs.length - (i + 1) < xs.length - i; omega, ⟨hlt, hnext (by omega)⟩, by (repeat' (first | exact trivial | rfl | exact Nat.one_pos | (refine And.intro ?_ ?_) | omega | ((conv => whnf); (refine And.intro ?_ ?_)) | ((conv => whnf); exact trivial)))⟩)
  · (repeat' ((conv => whnf); first | (refine Giv.mk (fun _ => ?_)) | (refine Alt.l (Need.mk ?h ?_); case h => omega) | (refine Alt.r (Need.mk ?h ?_); case h => omega) | (refine Need.mk ?h ?_; case h => omega) | (refine Need.mk ?h ?_; case h => (intro _; rfl)) | (refine Need.mk ?h ?_; case h => assumption) | (refine Need.mk ?h ?_; case h => (simp <;> omega)) | (refine Ix.zero ?_) | (refine Ix.one ?_) | (refine Ix.two ?_) | (refine Ix.nat ?_) | (refine Ix.add ?_) | (apply Go.Eng.Pin.mk; apply Exists.intro) | (apply Go.Eng.Pinned.mk (Eq.refl _) (Eq.refl _)) | (apply Go.Eng.PinH.mk; apply Exists.intro; apply Exists.intro) | (exact Go.Eng.Fin0.mk) | (refine Go.Eng.Chk.mk ?_ ?_) | fail))
    (conv => whnf)
    rintro (h | ⟨j, h1, h2⟩)
    · omega
    · exact hall j (by omega) h2
def c10 : Con := mkCon 10 true fun args K => match args with | [.seq (.int .i64) xs] => K (.bl (greatP xs) (Classical.propDecidable _)) | _ => False
theorem k10 : ConOK Try.prog c10 := by
  refine conOK_of rfl (enters_of Try.func10 (by kernel_rfl) rfl) ?_
  intro args K h
  simp only [c10] at h
  split at h
  · rename_i xs; exact ⟨_, h, tri_of_body (Γ := []) (by simp) Try.func10 (by simp [Try.ntmps10]) rfl (b10 xs)⟩
  · exact h.elim
end NB
