import Derived.Test.YtfdcfcnobfebgaaN6
open Go Go.Proofs Go.Eng Go.Shelf
namespace NB
set_option maxRecDepth 10000
/-! ### The statements' sizes -/
abbrev U (n : Int) : SV := .val (.int .u8 n)
abbrev Bs (xs : List Int) : SV := .seq (.int .u8) xs
def pieces (l : List Int) : List Int := l.map (1 + ·)
def most (l : List Int) : Int := (pieces l).foldl max 1
def mostAt (l : List Int) (i : Nat) : Int := ((pieces l).take i).foldl max 1
theorem pieces_len (l : List Int) : (pieces l).length = l.length := by simp [pieces]
theorem pieces_get (l : List Int) (i : Nat) (h : i < l.length) : (pieces l).getD i 0 = 1 + l.getD i 0 := by
  simp [pieces, List.getD_eq_getElem?_getD, h]
theorem pieces_take (l : List Int) (i : Nat) (h : i < l.length) : (pieces l).take (i + 1) = (pieces l).take i ++ [1 + l.getD i 0] := by
  rw [List.take_succ_eq_append_getElem (by rw [pieces_len]; exact h)]
  simp [pieces, List.getD_eq_getElem?_getD, h]
theorem mostAt_succ (l : List Int) (i : Nat) (h : i < l.length) : mostAt l (i + 1) = max (mostAt l i) (1 + l.getD i 0) := by
  unfold mostAt
  rw [pieces_take l i h, List.foldl_append]; rfl
theorem mostAt_range (l : List Int) (hl : ∀ i, i < l.length → 0 ≤ l.getD i 0 ∧ l.getD i 0 ≤ 255) : ∀ i, i ≤ l.length → 1 ≤ mostAt l i ∧ mostAt l i ≤ 256 := by
  intro i
  induction i with
  | zero => intro _; simp [mostAt]
  | succ i ih =>
    intro hi
    have := ih (by omega)
    have := hl i (by omega)
    rw [mostAt_succ l i (by omega)]
    omega
theorem b18 (l : List Int) (a b : Int) (hh : l.length ≤ 8 ∧ (∀ i, i < l.length → 0 ≤ l.getD i 0 ∧ l.getD i 0 ≤ 255) ∧ 0 ≤ a ∧ a ≤ 255 ∧ 0 ≤ b ∧ b ≤ 255) : body Try.prog [] { asks := [(0, [1])] } true Try.f18 [Bs l, U a, U b] (.tup [Ls (pieces l), I (most l + a), I (b % 20)]) := by
  obtain ⟨hlen, hl, ha0, ha1, hb0, hb1⟩ := hh
  (repeat' ((conv => whnf); first | (refine Giv.mk (fun _ => ?_)) | (refine Alt.l (Need.mk ?h ?_); case h => omega) | (refine Alt.r (Need.mk ?h ?_); case h => omega) | (refine Need.mk ?h ?_; case h => omega) | (refine Need.mk ?h ?_; case h => (intro _; rfl)) | (refine Need.mk ?h ?_; case h => assumption) | (refine Need.mk ?h ?_; case h => (simp <;> omega)) | (refine Ix.zero ?_) | (refine Ix.one ?_) | (refine Ix.two ?_) | (refine Ix.nat ?_) | (refine Ix.add ?_) | (apply Go.Eng.Pin.mk; apply Exists.intro) | (apply Go.Eng.Pinned.mk (Eq.refl _) (Eq.refl _)) | (apply Go.Eng.PinH.mk; apply Exists.intro; apply Exists.intro) | (exact Go.Eng.Fin0.mk) | (refine Go.Eng.Chk.mk ?_ ?_) | (refine Br.mkY ?h ?_; case h => omega) | (refine Br.mkN ?h ?_; case h => omega) | fail))
  refine Ask.mk ⟨{ X := Nat, pre := fun i => i ≤ l.length, mod := fun i _ => [(9, .ref 1 1), (10, I (mostAt l i)), (15, I i)], heap := fun i _ => [.vec 1 (.int .i64) [] 3, .vec 1 (.int .i64) ((pieces l).take i) 3], objs := [1], mu := fun i => l.length - i }, rfl, ?_⟩
  (repeat' ((conv => whnf); first | (refine Giv.mk (fun _ => ?_)) | (refine Alt.l (Need.mk ?h ?_); case h => omega) | (refine Alt.r (Need.mk ?h ?_); case h => omega) | (refine Need.mk ?h ?_; case h => omega) | (refine Need.mk ?h ?_; case h => (intro _; rfl)) | (refine Need.mk ?h ?_; case h => assumption) | (refine Need.mk ?h ?_; case h => (simp <;> omega)) | (refine Ix.zero ?_) | (refine Ix.one ?_) | (refine Ix.two ?_) | (refine Ix.nat ?_) | (refine Ix.add ?_) | (apply Go.Eng.Pin.mk; apply Exists.intro) | (apply Go.Eng.Pinned.mk (Eq.refl _) (Eq.refl _)) | (apply Go.Eng.PinH.mk; apply Exists.intro; apply Exists.intro) | (exact Go.Eng.Fin0.mk) | (refine Go.Eng.Chk.mk ?_ ?_) | (refine Br.mkY ?h ?_; case h => omega) | (refine Br.mkN ?h ?_; case h => omega) | fail))
  refine ⟨⟨(0 : Nat), Nat.zero_le _, by (repeat' (first | exact trivial | rfl | exact Nat.one_pos | (refine And.intro ?_ ?_) | omega | ((conv => whnf); (refine And.intro ?_ ?_)) | ((conv => whnf); exact trivial)))⟩, fun (i : Nat) (hi : i ≤ l.length) => ?_⟩
  have hm := mostAt_range l hl i hi
  (repeat' ((conv => whnf); first | (refine Giv.mk (fun _ => ?_)) | (refine Alt.l (Need.mk ?h ?_); case h => omega) | (refine Alt.r (Need.mk ?h ?_); case h => omega) | (refine Need.mk ?h ?_; case h => omega) | (refine Need.mk ?h ?_; case h => (intro _; rfl)) | (refine Need.mk ?h ?_; case h => assumption) | (refine Need.mk ?h ?_; case h => (simp <;> omega)) | (refine Ix.zero ?_) | (refine Ix.one ?_) | (refine Ix.two ?_) | (refine Ix.nat ?_) | (refine Ix.add ?_) | (apply Go.Eng.Pin.mk; apply Exists.intro) | (apply Go.Eng.Pinned.mk (Eq.refl _) (Eq.refl _)) | (apply Go.Eng.PinH.mk; apply Exists.intro; apply Exists.intro) | (exact Go.Eng.Fin0.mk) | (refine Go.Eng.Chk.mk ?_ ?_) | fail))
  (refine Br.mk (fun _ => ?_) (fun _ => ?_))
  · have hlt : i < l.length := by omega
    have h1 := hl i hlt
    have hpl := pieces_len l
    (repeat' ((conv => whnf); first | (refine Giv.mk (fun _ => ?_)) | (refine Alt.l (Need.mk ?h ?_); case h => omega) | (refine Alt.r (Need.mk ?h ?_); case h => omega) | (refine Need.mk ?h ?_; case h => omega) | (refine Need.mk ?h ?_; case h => (intro _; rfl)) | (refine Need.mk ?h ?_; case h => assumption) | (refine Need.mk ?h ?_; case h => (simp <;> omega)) | (refine Ix.zero ?_) | (refine Ix.one ?_) | (refine Ix.two ?_) | (refine Ix.nat ?_) | (refine Ix.add ?_) | (apply Go.Eng.Pin.mk; apply Exists.intro) | (apply Go.Eng.Pinned.mk (Eq.refl _) (Eq.refl _)) | (apply Go.Eng.PinH.mk; apply Exists.intro; apply Exists.intro) | (exact Go.Eng.Fin0.mk) | (refine Go.Eng.Chk.mk ?_ ?_) | fail))
    refine ⟨(i + 1 : Nat), by show l.length - (i + 1) < l.length - i; omega, hlt, ?_⟩
    (repeat' (first | exact trivial | rfl | exact Nat.one_pos | (refine And.intro ?_ ?_) | ((conv => whnf); (refine And.intro ?_ ?_)) | ((conv => whnf); exact trivial)))
    · exact (mostAt_succ l i hlt).symm
    · exact (pieces_take l i hlt).symm
  · (repeat' ((conv => whnf); first | (refine Giv.mk (fun _ => ?_)) | (refine Alt.l (Need.mk ?h ?_); case h => omega) | (refine Alt.r (Need.mk ?h ?_); case h => omega) | (refine Need.mk ?h ?_; case h => omega) | (refine Need.mk ?h ?_; case h => (intro _; rfl)) | (refine Need.mk ?h ?_; case h => assumption) | (refine Need.mk ?h ?_; case h => (simp <;> omega)) | (refine Ix.zero ?_) | (refine Ix.one ?_) | (refine Ix.two ?_) | (refine Ix.nat ?_) | (refine Ix.add ?_) | (apply Go.Eng.Pin.mk; apply Exists.intro) | (apply Go.Eng.Pinned.mk (Eq.refl _) (Eq.refl _)) | (apply Go.Eng.PinH.mk; apply Exists.intro; apply Exists.intro) | (exact Go.Eng.Fin0.mk) | (refine Go.Eng.Chk.mk ?_ ?_) | fail))
    (conv => whnf)
    (repeat' (first | exact trivial | rfl | exact Nat.one_pos | (refine And.intro ?_ ?_) | ((conv => whnf); (refine And.intro ?_ ?_)) | ((conv => whnf); exact trivial)))
    · show (pieces l).take i = pieces l
      rw [List.take_of_length_le (by rw [pieces_len]; omega)]
    · show mostAt l i + a = most l + a
      rw [mostAt, List.take_of_length_le (by rw [pieces_len]; omega)]; rfl
def c18 : Con := mkCon 18 true fun args K => match args with | [.seq (.int .u8) l, .val (.int .u8 a), .val (.int .u8 b)] => Need (l.length ≤ 8 ∧ (∀ i, i < l.length → 0 ≤ l.getD i 0 ∧ l.getD i 0 ≤ 255) ∧ 0 ≤ a ∧ a ≤ 255 ∧ 0 ≤ b ∧ b ≤ 255) (K (.tup [Ls (pieces l), I (most l + a), I (b % 20)])) | _ => False
theorem k18 : ConOK Try.prog c18 := by
  refine conOK_of rfl (enters_of Try.func18 (by kernel_rfl) rfl) ?_
  intro args K h
  simp only [c18] at h
  split at h
  · rename_i l a b; exact ⟨_, h.go, tri_of_body (Γ := []) (by simp) Try.func18 (by simp [Try.ntmps18]) rfl (b18 l a b h.ok)⟩
  · exact h.elim
end NB
