import Derived.Test.YtfdcfcnobfebgaaProg
import Derived.Test.YtfdcfcnobfebgaaEngO
import Derived.Shelf.Abstract
open Go Go.Proofs Go.Eng Go.Shelf
namespace NB
abbrev I (n : Int) : SV := .val (.int .i64 n)
abbrev Ls (xs : List Int) : SV := .seq (.int .i64) xs
set_option maxRecDepth 10000

theorem any_take_succ {α : Type} (p : α → Bool) (xs : List α) (d : α) (k : Nat) (h : k < xs.length) : (xs.take (k + 1)).any p = ((xs.take k).any p || p (xs.getD k d)) := by
  rw [List.take_succ_eq_append_getElem h, List.any_append]
  simp [List.getD_eq_getElem?_getD, h]
theorem any_getD {α : Type} (p : α → Bool) (xs : List α) (d : α) (k : Nat) (h : k < xs.length) (hp : p (xs.getD k d) = true) : xs.any p = true := by
  rw [List.any_eq_true]
  exact ⟨xs[k], List.getElem_mem h, by simpa [List.getD_eq_getElem?_getD, h] using hp⟩
theorem take_all {α : Type} (xs : List α) (k : Nat) (h : ¬ k < xs.length) : xs.take k = xs := List.take_of_length_le (by omega)

def c38 : Con := mkCon 38 true fun args K => match args with
  | [.val (.int .i64 n)] => K (.bl (1 ≤ n ∧ n ≤ 65536) inferInstance)
  | _ => False
theorem b38 (n : Int) : body Try.prog [] {} true Try.f38 [I n] (.bl (1 ≤ n ∧ n ≤ 65536) inferInstance) := by
  (repeat' ((conv => whnf); first | (refine Giv.mk (fun _ => ?_)) | (refine Alt.l (Need.mk ?h ?_); case h => omega) | (refine Alt.r (Need.mk ?h ?_); case h => omega) | (refine Need.mk ?h ?_; case h => omega) | (refine Need.mk ?h ?_; case h => (intro _; rfl)) | (refine Need.mk ?h ?_; case h => assumption) | (refine Need.mk ?h ?_; case h => (simp <;> omega)) | (refine Ix.zero ?_) | (refine Ix.one ?_) | (refine Ix.two ?_) | (refine Ix.nat ?_) | (refine Ix.add ?_) | (apply Go.Eng.Pin.mk; apply Exists.intro) | (apply Go.Eng.Pinned.mk (Eq.refl _) (Eq.refl _)) | (apply Go.Eng.PinH.mk; apply Exists.intro; apply Exists.intro) | (exact Go.Eng.Fin0.mk) | (refine Go.Eng.Chk.mk ?_ ?_) | fail))
  (refine Br.mk (fun _ => ?_) (fun _ => ?_))
  · (conv => whnf); omega
  · (conv => whnf); omega
theorem k38 : ConOK Try.prog c38 := by
  refine conOK_of rfl (enters_of Try.func38 (by kernel_rfl) rfl) ?_
  intro args K h
  simp only [c38] at h
  split at h
  · exact ⟨_, h, tri_of_body (Γ := []) (by simp) Try.func38 (by simp [Try.ntmps38]) rfl (b38 _)⟩
  · exact h.elim
def c32 : Con := mkCon 32 true fun args K => match args with
  | [.val (.int .i64 n), .val (.int .i64 a), .val (.int .i64 b)] => K (.bl (n < a ∨ b < n) inferInstance)
  | _ => False
theorem b32 (n a b : Int) : body Try.prog [] {} true Try.f32 [I n, I a, I b] (.bl (n < a ∨ b < n) inferInstance) := by
  (repeat' ((conv => whnf); first | (refine Giv.mk (fun _ => ?_)) | (refine Alt.l (Need.mk ?h ?_); case h => omega) | (refine Alt.r (Need.mk ?h ?_); case h => omega) | (refine Need.mk ?h ?_; case h => omega) | (refine Need.mk ?h ?_; case h => (intro _; rfl)) | (refine Need.mk ?h ?_; case h => assumption) | (refine Need.mk ?h ?_; case h => (simp <;> omega)) | (refine Ix.zero ?_) | (refine Ix.one ?_) | (refine Ix.two ?_) | (refine Ix.nat ?_) | (refine Ix.add ?_) | (apply Go.Eng.Pin.mk; apply Exists.intro) | (apply Go.Eng.Pinned.mk (Eq.refl _) (Eq.refl _)) | (apply Go.Eng.PinH.mk; apply Exists.intro; apply Exists.intro) | (exact Go.Eng.Fin0.mk) | (refine Go.Eng.Chk.mk ?_ ?_) | fail))
  (refine Br.mk (fun _ => ?_) (fun _ => ?_))
  · (conv => whnf); omega
  · (conv => whnf); omega
theorem k32 : ConOK Try.prog c32 := by
  refine conOK_of rfl (enters_of Try.func32 (by kernel_rfl) rfl) ?_
  intro args K h
  simp only [c32] at h
  split at h
  · exact ⟨_, h, tri_of_body (Γ := []) (by simp) Try.func32 (by simp [Try.ntmps32]) rfl (b32 _ _ _)⟩
  · exact h.elim

def badP (x : Int) : Bool := decide (¬ (1 ≤ x ∧ x ≤ 65536))
def piecesE (xs : List Int) (k : Int) : Int := if 64 < xs.length then 4 else if xs.any badP then 2 else if k < 0 ∨ 1000 < k then 2 else 0
def anPieces (t : Nat) (xs : List Int) : Ann := { X := Nat, pre := fun k => k ≤ xs.length ∧ (xs.take k).any badP = false, mod := fun k _ => [(t, I k)], mu := fun k => xs.length - k }
theorem piecesE_big {xs : List Int} {k : Int} (h : 64 < (xs.length : Int)) : 4 = piecesE xs k := by unfold piecesE; rw [if_pos (by omega)]
theorem piecesE_bad {xs : List Int} {k : Int} {i : Nat} (h : ¬ 64 < (xs.length : Int)) (hi : (i : Int) < xs.length) (hb : ¬ (1 ≤ xs.getD i 0 ∧ xs.getD i 0 ≤ 65536)) : 2 = piecesE xs k := by
  unfold piecesE; rw [if_neg (by omega), if_pos (any_getD badP xs 0 i (by omega) (by simp only [badP]; exact decide_eq_true hb))]
theorem piecesE_kerf {xs : List Int} {k : Int} {i : Nat} (h : ¬ 64 < (xs.length : Int)) (hi : ¬ (i : Int) < xs.length) (ha : (xs.take i).any badP = false) (hk : k < 0 ∨ 1000 < k) : 2 = piecesE xs k := by
  rw [take_all xs i (by omega)] at ha
  unfold piecesE; rw [if_neg (by omega), if_neg (by simp [ha]), if_pos hk]
theorem piecesE_ok {xs : List Int} {k : Int} {i : Nat} (h : ¬ 64 < (xs.length : Int)) (hi : ¬ (i : Int) < xs.length) (ha : (xs.take i).any badP = false) (hk : ¬ (k < 0 ∨ 1000 < k)) : 0 = piecesE xs k := by
  rw [take_all xs i (by omega)] at ha
  unfold piecesE; rw [if_neg (by omega), if_neg (by simp [ha]), if_neg hk]
theorem pieces_step {xs : List Int} {i : Nat} (hi : (i : Int) < xs.length) (ha : (xs.take i).any badP = false) (hb : 1 ≤ xs.getD i 0 ∧ xs.getD i 0 ≤ 65536) : (xs.take (i + 1)).any badP = false := by
  rw [any_take_succ badP xs 0 i (by omega), ha]
  exact decide_eq_false (fun h => h hb)
theorem b37 (xs : List Int) (k : Int) : body Try.prog [c38] { loops := [(0, anPieces 5 xs)] } true Try.f37 [Ls xs, I k] (I (piecesE xs k)) := by
  (repeat' ((conv => whnf); first | (refine Giv.mk (fun _ => ?_)) | (refine Alt.l (Need.mk ?h ?_); case h => omega) | (refine Alt.r (Need.mk ?h ?_); case h => omega) | (refine Need.mk ?h ?_; case h => omega) | (refine Need.mk ?h ?_; case h => (intro _; rfl)) | (refine Need.mk ?h ?_; case h => assumption) | (refine Need.mk ?h ?_; case h => (simp <;> omega)) | (refine Ix.zero ?_) | (refine Ix.one ?_) | (refine Ix.two ?_) | (refine Ix.nat ?_) | (refine Ix.add ?_) | (apply Go.Eng.Pin.mk; apply Exists.intro) | (apply Go.Eng.Pinned.mk (Eq.refl _) (Eq.refl _)) | (apply Go.Eng.PinH.mk; apply Exists.intro; apply Exists.intro) | (exact Go.Eng.Fin0.mk) | (refine Go.Eng.Chk.mk ?_ ?_) | fail))
  (refine Br.mk (fun _ => ?_) (fun _ => ?_))
  · (conv => whnf)
    exact ⟨rfl, piecesE_big ‹_›⟩
  (repeat' ((conv => whnf); first | (refine Giv.mk (fun _ => ?_)) | (refine Alt.l (Need.mk ?h ?_); case h => omega) | (refine Alt.r (Need.mk ?h ?_); case h => omega) | (refine Need.mk ?h ?_; case h => omega) | (refine Need.mk ?h ?_; case h => (intro _; rfl)) | (refine Need.mk ?h ?_; case h => assumption) | (refine Need.mk ?h ?_; case h => (simp <;> omega)) | (refine Ix.zero ?_) | (refine Ix.one ?_) | (refine Ix.two ?_) | (refine Ix.nat ?_) | (refine Ix.add ?_) | (apply Go.Eng.Pin.mk; apply Exists.intro) | (apply Go.Eng.Pinned.mk (Eq.refl _) (Eq.refl _)) | (apply Go.Eng.PinH.mk; apply Exists.intro; apply Exists.intro) | (exact Go.Eng.Fin0.mk) | (refine Go.Eng.Chk.mk ?_ ?_) | fail))
  refine ⟨⟨(0 : Nat), ⟨by omega, by simp⟩, by (repeat' (first | exact trivial | rfl | exact Nat.one_pos | (refine And.intro ?_ ?_) | omega | ((conv => whnf); (refine And.intro ?_ ?_)) | ((conv => whnf); exact trivial)))⟩, fun (i : Nat) hi => ?_⟩
  obtain ⟨hi1, hi2⟩ := hi
  (repeat' ((conv => whnf); first | (refine Giv.mk (fun _ => ?_)) | (refine Alt.l (Need.mk ?h ?_); case h => omega) | (refine Alt.r (Need.mk ?h ?_); case h => omega) | (refine Need.mk ?h ?_; case h => omega) | (refine Need.mk ?h ?_; case h => (intro _; rfl)) | (refine Need.mk ?h ?_; case h => assumption) | (refine Need.mk ?h ?_; case h => (simp <;> omega)) | (refine Ix.zero ?_) | (refine Ix.one ?_) | (refine Ix.two ?_) | (refine Ix.nat ?_) | (refine Ix.add ?_) | (apply Go.Eng.Pin.mk; apply Exists.intro) | (apply Go.Eng.Pinned.mk (Eq.refl _) (Eq.refl _)) | (apply Go.Eng.PinH.mk; apply Exists.intro; apply Exists.intro) | (exact Go.Eng.Fin0.mk) | (refine Go.Eng.Chk.mk ?_ ?_) | fail))
  (refine Br.mk (fun _ => ?_) (fun _ => ?_))
  · (repeat' ((conv => whnf); first | (refine Giv.mk (fun _ => ?_)) | (refine Alt.l (Need.mk ?h ?_); case h => omega) | (refine Alt.r (Need.mk ?h ?_); case h => omega) | (refine Need.mk ?h ?_; case h => omega) | (refine Need.mk ?h ?_; case h => (intro _; rfl)) | (refine Need.mk ?h ?_; case h => assumption) | (refine Need.mk ?h ?_; case h => (simp <;> omega)) | (refine Ix.zero ?_) | (refine Ix.one ?_) | (refine Ix.two ?_) | (refine Ix.nat ?_) | (refine Ix.add ?_) | (apply Go.Eng.Pin.mk; apply Exists.intro) | (apply Go.Eng.Pinned.mk (Eq.refl _) (Eq.refl _)) | (apply Go.Eng.PinH.mk; apply Exists.intro; apply Exists.intro) | (exact Go.Eng.Fin0.mk) | (refine Go.Eng.Chk.mk ?_ ?_) | fail))
    (refine Br.mk (fun _ => ?_) (fun _ => ?_))
    · (conv => whnf)
      exact ⟨rfl, piecesE_bad ‹_› ‹_› ‹_›⟩
    · (repeat' ((conv => whnf); first | (refine Giv.mk (fun _ => ?_)) | (refine Alt.l (Need.mk ?h ?_); case h => omega) | (refine Alt.r (Need.mk ?h ?_); case h => omega) | (refine Need.mk ?h ?_; case h => omega) | (refine Need.mk ?h ?_; case h => (intro _; rfl)) | (refine Need.mk ?h ?_; case h => assumption) | (refine Need.mk ?h ?_; case h => (simp <;> omega)) | (refine Ix.zero ?_) | (refine Ix.one ?_) | (refine Ix.two ?_) | (refine Ix.nat ?_) | (refine Ix.add ?_) | (apply Go.Eng.Pin.mk; apply Exists.intro) | (apply Go.Eng.Pinned.mk (Eq.refl _) (Eq.refl _)) | (apply Go.Eng.PinH.mk; apply Exists.intro; apply Exists.intro) | (exact Go.Eng.Fin0.mk) | (refine Go.Eng.Chk.mk ?_ ?_) | fail))
      refine ⟨(i + 1 : Nat), ?_, ⟨?_, ?_⟩, ?_⟩
      · show xs.length - (i + 1) < xs.length - i
        omega
      · omega
      · exact pieces_step ‹_› hi2 (Classical.not_not.1 ‹_›)
      · (repeat' (first | exact trivial | rfl | exact Nat.one_pos | (refine And.intro ?_ ?_) | omega | ((conv => whnf); (refine And.intro ?_ ?_)) | ((conv => whnf); exact trivial)))
  · (repeat' ((conv => whnf); first | (refine Giv.mk (fun _ => ?_)) | (refine Alt.l (Need.mk ?h ?_); case h => omega) | (refine Alt.r (Need.mk ?h ?_); case h => omega) | (refine Need.mk ?h ?_; case h => omega) | (refine Need.mk ?h ?_; case h => (intro _; rfl)) | (refine Need.mk ?h ?_; case h => assumption) | (refine Need.mk ?h ?_; case h => (simp <;> omega)) | (refine Ix.zero ?_) | (refine Ix.one ?_) | (refine Ix.two ?_) | (refine Ix.nat ?_) | (refine Ix.add ?_) | (apply Go.Eng.Pin.mk; apply Exists.intro) | (apply Go.Eng.Pinned.mk (Eq.refl _) (Eq.refl _)) | (apply Go.Eng.PinH.mk; apply Exists.intro; apply Exists.intro) | (exact Go.Eng.Fin0.mk) | (refine Go.Eng.Chk.mk ?_ ?_) | fail))
    (refine Br.mk (fun _ => ?_) (fun _ => ?_))
    · (conv => whnf)
      exact ⟨rfl, piecesE_kerf (i := i) ‹_› ‹_› hi2 (.inl ‹_›)⟩
    · (repeat' ((conv => whnf); first | (refine Giv.mk (fun _ => ?_)) | (refine Alt.l (Need.mk ?h ?_); case h => omega) | (refine Alt.r (Need.mk ?h ?_); case h => omega) | (refine Need.mk ?h ?_; case h => omega) | (refine Need.mk ?h ?_; case h => (intro _; rfl)) | (refine Need.mk ?h ?_; case h => assumption) | (refine Need.mk ?h ?_; case h => (simp <;> omega)) | (refine Ix.zero ?_) | (refine Ix.one ?_) | (refine Ix.two ?_) | (refine Ix.nat ?_) | (refine Ix.add ?_) | (apply Go.Eng.Pin.mk; apply Exists.intro) | (apply Go.Eng.Pinned.mk (Eq.refl _) (Eq.refl _)) | (apply Go.Eng.PinH.mk; apply Exists.intro; apply Exists.intro) | (exact Go.Eng.Fin0.mk) | (refine Go.Eng.Chk.mk ?_ ?_) | fail))
      (refine Br.mk (fun _ => ?_) (fun _ => ?_))
      · (conv => whnf)
        exact ⟨rfl, piecesE_kerf (i := i) ‹_› ‹_› hi2 (.inr ‹_›)⟩
      · (conv => whnf)
        exact ⟨rfl, piecesE_ok (i := i) ‹_› ‹_› hi2 (by omega)⟩
def c37 : Con := mkCon 37 true fun args K => match args with
  | [.seq (.int .i64) xs, .val (.int .i64 k)] => K (I (piecesE xs k))
  | _ => False
theorem k37 : ConOK Try.prog c37 := by
  refine conOK_of rfl (enters_of Try.func37 (by kernel_rfl) rfl) ?_
  intro args K h
  simp only [c37] at h
  split at h
  · exact ⟨_, h, tri_of_body (Γ := [c38]) (by simp [k38]) Try.func37 (by simp [Try.ntmps37]) rfl (b37 _ _)⟩
  · exact h.elim
theorem b36 (xs : List Int) (k : Int) : body Try.prog [c32] { loops := [(0, anPieces 12 xs)] } true Try.f36 [Ls xs, I k] (I (piecesE xs k)) := by
  (repeat' ((conv => whnf); first | (refine Giv.mk (fun _ => ?_)) | (refine Alt.l (Need.mk ?h ?_); case h => omega) | (refine Alt.r (Need.mk ?h ?_); case h => omega) | (refine Need.mk ?h ?_; case h => omega) | (refine Need.mk ?h ?_; case h => (intro _; rfl)) | (refine Need.mk ?h ?_; case h => assumption) | (refine Need.mk ?h ?_; case h => (simp <;> omega)) | (refine Ix.zero ?_) | (refine Ix.one ?_) | (refine Ix.two ?_) | (refine Ix.nat ?_) | (refine Ix.add ?_) | (apply Go.Eng.Pin.mk; apply Exists.intro) | (apply Go.Eng.Pinned.mk (Eq.refl _) (Eq.refl _)) | (apply Go.Eng.PinH.mk; apply Exists.intro; apply Exists.intro) | (exact Go.Eng.Fin0.mk) | (refine Go.Eng.Chk.mk ?_ ?_) | fail))
  (refine Br.mk (fun _ => ?_) (fun _ => ?_))
  · (conv => whnf)
    exact ⟨rfl, piecesE_big ‹_›⟩
  (repeat' ((conv => whnf); first | (refine Giv.mk (fun _ => ?_)) | (refine Alt.l (Need.mk ?h ?_); case h => omega) | (refine Alt.r (Need.mk ?h ?_); case h => omega) | (refine Need.mk ?h ?_; case h => omega) | (refine Need.mk ?h ?_; case h => (intro _; rfl)) | (refine Need.mk ?h ?_; case h => assumption) | (refine Need.mk ?h ?_; case h => (simp <;> omega)) | (refine Ix.zero ?_) | (refine Ix.one ?_) | (refine Ix.two ?_) | (refine Ix.nat ?_) | (refine Ix.add ?_) | (apply Go.Eng.Pin.mk; apply Exists.intro) | (apply Go.Eng.Pinned.mk (Eq.refl _) (Eq.refl _)) | (apply Go.Eng.PinH.mk; apply Exists.intro; apply Exists.intro) | (exact Go.Eng.Fin0.mk) | (refine Go.Eng.Chk.mk ?_ ?_) | fail))
  refine ⟨⟨(0 : Nat), ⟨by omega, by simp⟩, by (repeat' (first | exact trivial | rfl | exact Nat.one_pos | (refine And.intro ?_ ?_) | omega | ((conv => whnf); (refine And.intro ?_ ?_)) | ((conv => whnf); exact trivial)))⟩, fun (i : Nat) hi => ?_⟩
  obtain ⟨hi1, hi2⟩ := hi
  (repeat' ((conv => whnf); first | (refine Giv.mk (fun _ => ?_)) | (refine Alt.l (Need.mk ?h ?_); case h => omega) | (refine Alt.r (Need.mk ?h ?_); case h => omega) | (refine Need.mk ?h ?_; case h => omega) | (refine Need.mk ?h ?_; case h => (intro _; rfl)) | (refine Need.mk ?h ?_; case h => assumption) | (refine Need.mk ?h ?_; case h => (simp <;> omega)) | (refine Ix.zero ?_) | (refine Ix.one ?_) | (refine Ix.two ?_) | (refine Ix.nat ?_) | (refine Ix.add ?_) | (apply Go.Eng.Pin.mk; apply Exists.intro) | (apply Go.Eng.Pinned.mk (Eq.refl _) (Eq.refl _)) | (apply Go.Eng.PinH.mk; apply Exists.intro; apply Exists.intro) | (exact Go.Eng.Fin0.mk) | (refine Go.Eng.Chk.mk ?_ ?_) | fail))
  (refine Br.mk (fun _ => ?_) (fun _ => ?_))
  · (repeat' ((conv => whnf); first | (refine Giv.mk (fun _ => ?_)) | (refine Alt.l (Need.mk ?h ?_); case h => omega) | (refine Alt.r (Need.mk ?h ?_); case h => omega) | (refine Need.mk ?h ?_; case h => omega) | (refine Need.mk ?h ?_; case h => (intro _; rfl)) | (refine Need.mk ?h ?_; case h => assumption) | (refine Need.mk ?h ?_; case h => (simp <;> omega)) | (refine Ix.zero ?_) | (refine Ix.one ?_) | (refine Ix.two ?_) | (refine Ix.nat ?_) | (refine Ix.add ?_) | (apply Go.Eng.Pin.mk; apply Exists.intro) | (apply Go.Eng.Pinned.mk (Eq.refl _) (Eq.refl _)) | (apply Go.Eng.PinH.mk; apply Exists.intro; apply Exists.intro) | (exact Go.Eng.Fin0.mk) | (refine Go.Eng.Chk.mk ?_ ?_) | fail))
    (refine Br.mk (fun _ => ?_) (fun _ => ?_))
    · (conv => whnf)
      rename_i h1 h2 h3 h4 h5
      exact ⟨rfl, piecesE_bad ‹_› ‹_› (by omega)⟩
    · (repeat' ((conv => whnf); first | (refine Giv.mk (fun _ => ?_)) | (refine Alt.l (Need.mk ?h ?_); case h => omega) | (refine Alt.r (Need.mk ?h ?_); case h => omega) | (refine Need.mk ?h ?_; case h => omega) | (refine Need.mk ?h ?_; case h => (intro _; rfl)) | (refine Need.mk ?h ?_; case h => assumption) | (refine Need.mk ?h ?_; case h => (simp <;> omega)) | (refine Ix.zero ?_) | (refine Ix.one ?_) | (refine Ix.two ?_) | (refine Ix.nat ?_) | (refine Ix.add ?_) | (apply Go.Eng.Pin.mk; apply Exists.intro) | (apply Go.Eng.Pinned.mk (Eq.refl _) (Eq.refl _)) | (apply Go.Eng.PinH.mk; apply Exists.intro; apply Exists.intro) | (exact Go.Eng.Fin0.mk) | (refine Go.Eng.Chk.mk ?_ ?_) | fail))
      rename_i h5
      refine ⟨(i + 1 : Nat), ?_, ⟨?_, ?_⟩, ?_⟩
      · show xs.length - (i + 1) < xs.length - i
        omega
      · omega
      · exact pieces_step ‹_› hi2 (by omega)
      · (repeat' (first | exact trivial | rfl | exact Nat.one_pos | (refine And.intro ?_ ?_) | omega | ((conv => whnf); (refine And.intro ?_ ?_)) | ((conv => whnf); exact trivial)))
  · (repeat' ((conv => whnf); first | (refine Giv.mk (fun _ => ?_)) | (refine Alt.l (Need.mk ?h ?_); case h => omega) | (refine Alt.r (Need.mk ?h ?_); case h => omega) | (refine Need.mk ?h ?_; case h => omega) | (refine Need.mk ?h ?_; case h => (intro _; rfl)) | (refine Need.mk ?h ?_; case h => assumption) | (refine Need.mk ?h ?_; case h => (simp <;> omega)) | (refine Ix.zero ?_) | (refine Ix.one ?_) | (refine Ix.two ?_) | (refine Ix.nat ?_) | (refine Ix.add ?_) | (apply Go.Eng.Pin.mk; apply Exists.intro) | (apply Go.Eng.Pinned.mk (Eq.refl _) (Eq.refl _)) | (apply Go.Eng.PinH.mk; apply Exists.intro; apply Exists.intro) | (exact Go.Eng.Fin0.mk) | (refine Go.Eng.Chk.mk ?_ ?_) | fail))
    (refine Br.mk (fun _ => ?_) (fun _ => ?_))
    · (conv => whnf)
      exact ⟨rfl, piecesE_kerf (i := i) ‹_› ‹_› hi2 (by omega)⟩
    · (conv => whnf)
      exact ⟨rfl, piecesE_ok (i := i) ‹_› ‹_› hi2 (by omega)⟩
def c36 : Con := mkCon 36 true fun args K => match args with
  | [.seq (.int .i64) xs, .val (.int .i64 k)] => K (I (piecesE xs k))
  | _ => False
theorem k36 : ConOK Try.prog c36 := by
  refine conOK_of rfl (enters_of Try.func36 (by kernel_rfl) rfl) ?_
  intro args K h
  simp only [c36] at h
  split at h
  · exact ⟨_, h, tri_of_body (Γ := [c32]) (by simp [k32]) Try.func36 (by simp [Try.ntmps36]) rfl (b36 _ _)⟩
  · exact h.elim

/-! ### A problem's check -/
def longP (L x : Int) : Bool := decide (L < x)
def checkE (xs : List Int) (L k : Int) : Int := if piecesE xs k ≠ 0 then piecesE xs k else if L < 1 ∨ 65536 < L then 2 else if xs.any (longP L) then 22 else 0
def anLong (t : Nat) (xs : List Int) (L : Int) : Ann := { X := Nat, pre := fun k => k ≤ xs.length ∧ (xs.take k).any (longP L) = false, mod := fun k _ => [(t, I k)], mu := fun k => xs.length - k }
theorem checkE_pieces {xs : List Int} {L k : Int} (h : ¬ piecesE xs k = 0) : piecesE xs k = checkE xs L k := by unfold checkE; rw [if_pos h]
theorem checkE_len {xs : List Int} {L k : Int} (h : piecesE xs k = 0) (hL : L < 1 ∨ 65536 < L) : 2 = checkE xs L k := by unfold checkE; rw [if_neg (by simp [h]), if_pos hL]
theorem checkE_long {xs : List Int} {L k : Int} {i : Nat} (h : piecesE xs k = 0) (hL : ¬ (L < 1 ∨ 65536 < L)) (hi : (i : Int) < xs.length) (hb : L < xs.getD i 0) : 22 = checkE xs L k := by
  unfold checkE; rw [if_neg (by simp [h]), if_neg hL, if_pos (any_getD (longP L) xs 0 i (by omega) (decide_eq_true hb))]
theorem checkE_ok {xs : List Int} {L k : Int} {i : Nat} (h : piecesE xs k = 0) (hL : ¬ (L < 1 ∨ 65536 < L)) (hi : ¬ (i : Int) < xs.length) (ha : (xs.take i).any (longP L) = false) : 0 = checkE xs L k := by
  rw [take_all xs i (by omega)] at ha
  unfold checkE; rw [if_neg (by simp [h]), if_neg hL, if_neg (by simp [ha])]
theorem long_step {xs : List Int} {L : Int} {i : Nat} (hi : (i : Int) < xs.length) (ha : (xs.take i).any (longP L) = false) (hb : ¬ L < xs.getD i 0) : (xs.take (i + 1)).any (longP L) = false := by
  rw [any_take_succ (longP L) xs 0 i (by omega), ha]
  exact decide_eq_false hb
theorem b26 (xs : List Int) (L k : Int) : body Try.prog [c37, c38] { loops := [(0, anLong 8 xs L)] } true Try.f26 [Ls xs, I L, I k] (I (checkE xs L k)) := by
  (repeat' ((conv => whnf); first | (refine Giv.mk (fun _ => ?_)) | (refine Alt.l (Need.mk ?h ?_); case h => omega) | (refine Alt.r (Need.mk ?h ?_); case h => omega) | (refine Need.mk ?h ?_; case h => omega) | (refine Need.mk ?h ?_; case h => (intro _; rfl)) | (refine Need.mk ?h ?_; case h => assumption) | (refine Need.mk ?h ?_; case h => (simp <;> omega)) | (refine Ix.zero ?_) | (refine Ix.one ?_) | (refine Ix.two ?_) | (refine Ix.nat ?_) | (refine Ix.add ?_) | (apply Go.Eng.Pin.mk; apply Exists.intro) | (apply Go.Eng.Pinned.mk (Eq.refl _) (Eq.refl _)) | (apply Go.Eng.PinH.mk; apply Exists.intro; apply Exists.intro) | (exact Go.Eng.Fin0.mk) | (refine Go.Eng.Chk.mk ?_ ?_) | fail))
  (refine Br.mk (fun _ => ?_) (fun _ => ?_))
  · (conv => whnf)
    exact ⟨rfl, checkE_pieces ‹_›⟩
  rename_i h1
  have h1 := Classical.not_not.1 h1
  (repeat' ((conv => whnf); first | (refine Giv.mk (fun _ => ?_)) | (refine Alt.l (Need.mk ?h ?_); case h => omega) | (refine Alt.r (Need.mk ?h ?_); case h => omega) | (refine Need.mk ?h ?_; case h => omega) | (refine Need.mk ?h ?_; case h => (intro _; rfl)) | (refine Need.mk ?h ?_; case h => assumption) | (refine Need.mk ?h ?_; case h => (simp <;> omega)) | (refine Ix.zero ?_) | (refine Ix.one ?_) | (refine Ix.two ?_) | (refine Ix.nat ?_) | (refine Ix.add ?_) | (apply Go.Eng.Pin.mk; apply Exists.intro) | (apply Go.Eng.Pinned.mk (Eq.refl _) (Eq.refl _)) | (apply Go.Eng.PinH.mk; apply Exists.intro; apply Exists.intro) | (exact Go.Eng.Fin0.mk) | (refine Go.Eng.Chk.mk ?_ ?_) | fail))
  (refine Br.mk (fun _ => ?_) (fun _ => ?_))
  · (conv => whnf)
    exact ⟨rfl, checkE_len h1 (by omega)⟩
  rename_i h2
  have h2 : ¬ (L < 1 ∨ 65536 < L) := by omega
  (repeat' ((conv => whnf); first | (refine Giv.mk (fun _ => ?_)) | (refine Alt.l (Need.mk ?h ?_); case h => omega) | (refine Alt.r (Need.mk ?h ?_); case h => omega) | (refine Need.mk ?h ?_; case h => omega) | (refine Need.mk ?h ?_; case h => (intro _; rfl)) | (refine Need.mk ?h ?_; case h => assumption) | (refine Need.mk ?h ?_; case h => (simp <;> omega)) | (refine Ix.zero ?_) | (refine Ix.one ?_) | (refine Ix.two ?_) | (refine Ix.nat ?_) | (refine Ix.add ?_) | (apply Go.Eng.Pin.mk; apply Exists.intro) | (apply Go.Eng.Pinned.mk (Eq.refl _) (Eq.refl _)) | (apply Go.Eng.PinH.mk; apply Exists.intro; apply Exists.intro) | (exact Go.Eng.Fin0.mk) | (refine Go.Eng.Chk.mk ?_ ?_) | fail))
  refine ⟨⟨(0 : Nat), ⟨by omega, by simp⟩, by (repeat' (first | exact trivial | rfl | exact Nat.one_pos | (refine And.intro ?_ ?_) | omega | ((conv => whnf); (refine And.intro ?_ ?_)) | ((conv => whnf); exact trivial)))⟩, fun (i : Nat) hi => ?_⟩
  obtain ⟨hi1, hi2⟩ := hi
  (repeat' ((conv => whnf); first | (refine Giv.mk (fun _ => ?_)) | (refine Alt.l (Need.mk ?h ?_); case h => omega) | (refine Alt.r (Need.mk ?h ?_); case h => omega) | (refine Need.mk ?h ?_; case h => omega) | (refine Need.mk ?h ?_; case h => (intro _; rfl)) | (refine Need.mk ?h ?_; case h => assumption) | (refine Need.mk ?h ?_; case h => (simp <;> omega)) | (refine Ix.zero ?_) | (refine Ix.one ?_) | (refine Ix.two ?_) | (refine Ix.nat ?_) | (refine Ix.add ?_) | (apply Go.Eng.Pin.mk; apply Exists.intro) | (apply Go.Eng.Pinned.mk (Eq.refl _) (Eq.refl _)) | (apply Go.Eng.PinH.mk; apply Exists.intro; apply Exists.intro) | (exact Go.Eng.Fin0.mk) | (refine Go.Eng.Chk.mk ?_ ?_) | fail))
  (refine Br.mk (fun _ => ?_) (fun _ => ?_))
  · (repeat' ((conv => whnf); first | (refine Giv.mk (fun _ => ?_)) | (refine Alt.l (Need.mk ?h ?_); case h => omega) | (refine Alt.r (Need.mk ?h ?_); case h => omega) | (refine Need.mk ?h ?_; case h => omega) | (refine Need.mk ?h ?_; case h => (intro _; rfl)) | (refine Need.mk ?h ?_; case h => assumption) | (refine Need.mk ?h ?_; case h => (simp <;> omega)) | (refine Ix.zero ?_) | (refine Ix.one ?_) | (refine Ix.two ?_) | (refine Ix.nat ?_) | (refine Ix.add ?_) | (apply Go.Eng.Pin.mk; apply Exists.intro) | (apply Go.Eng.Pinned.mk (Eq.refl _) (Eq.refl _)) | (apply Go.Eng.PinH.mk; apply Exists.intro; apply Exists.intro) | (exact Go.Eng.Fin0.mk) | (refine Go.Eng.Chk.mk ?_ ?_) | fail))
    (refine Br.mk (fun _ => ?_) (fun _ => ?_))
    · (conv => whnf)
      exact ⟨rfl, checkE_long (i := i) h1 h2 ‹_› ‹_›⟩
    · (repeat' ((conv => whnf); first | (refine Giv.mk (fun _ => ?_)) | (refine Alt.l (Need.mk ?h ?_); case h => omega) | (refine Alt.r (Need.mk ?h ?_); case h => omega) | (refine Need.mk ?h ?_; case h => omega) | (refine Need.mk ?h ?_; case h => (intro _; rfl)) | (refine Need.mk ?h ?_; case h => assumption) | (refine Need.mk ?h ?_; case h => (simp <;> omega)) | (refine Ix.zero ?_) | (refine Ix.one ?_) | (refine Ix.two ?_) | (refine Ix.nat ?_) | (refine Ix.add ?_) | (apply Go.Eng.Pin.mk; apply Exists.intro) | (apply Go.Eng.Pinned.mk (Eq.refl _) (Eq.refl _)) | (apply Go.Eng.PinH.mk; apply Exists.intro; apply Exists.intro) | (exact Go.Eng.Fin0.mk) | (refine Go.Eng.Chk.mk ?_ ?_) | fail))
      refine ⟨(i + 1 : Nat), ?_, ⟨?_, ?_⟩, ?_⟩
      · show xs.length - (i + 1) < xs.length - i
        omega
      · omega
      · exact long_step ‹_› hi2 ‹_›
      · (repeat' (first | exact trivial | rfl | exact Nat.one_pos | (refine And.intro ?_ ?_) | omega | ((conv => whnf); (refine And.intro ?_ ?_)) | ((conv => whnf); exact trivial)))
  · (conv => whnf)
    exact ⟨rfl, checkE_ok (i := i) h1 h2 ‹_› hi2⟩
theorem b24e (xs : List Int) (L k : Int) (he : checkE xs L k ≠ 0) : body Try.prog [c36, c32] { loops := [(0, anLong 23 xs L)] } false Try.f24 [Ls xs, I L, I k] (.tup [.agg [.val (.slice none 0 0), I 0, I 0], I (checkE xs L k)]) := by
  (repeat' ((conv => whnf); first | (refine Giv.mk (fun _ => ?_)) | (refine Alt.l (Need.mk ?h ?_); case h => omega) | (refine Alt.r (Need.mk ?h ?_); case h => omega) | (refine Need.mk ?h ?_; case h => omega) | (refine Need.mk ?h ?_; case h => (intro _; rfl)) | (refine Need.mk ?h ?_; case h => assumption) | (refine Need.mk ?h ?_; case h => (simp <;> omega)) | (refine Ix.zero ?_) | (refine Ix.one ?_) | (refine Ix.two ?_) | (refine Ix.nat ?_) | (refine Ix.add ?_) | (apply Go.Eng.Pin.mk; apply Exists.intro) | (apply Go.Eng.Pinned.mk (Eq.refl _) (Eq.refl _)) | (apply Go.Eng.PinH.mk; apply Exists.intro; apply Exists.intro) | (exact Go.Eng.Fin0.mk) | (refine Go.Eng.Chk.mk ?_ ?_) | fail))
  (refine Br.mk (fun _ => ?_) (fun _ => ?_))
  · (conv => whnf)
    (repeat' (first | exact trivial | rfl | exact Nat.one_pos | (refine And.intro ?_ ?_) | ((conv => whnf); (refine And.intro ?_ ?_)) | ((conv => whnf); exact trivial)))
    exact checkE_pieces ‹_›
  rename_i h1
  have h1 := Classical.not_not.1 h1
  (repeat' ((conv => whnf); first | (refine Giv.mk (fun _ => ?_)) | (refine Alt.l (Need.mk ?h ?_); case h => omega) | (refine Alt.r (Need.mk ?h ?_); case h => omega) | (refine Need.mk ?h ?_; case h => omega) | (refine Need.mk ?h ?_; case h => (intro _; rfl)) | (refine Need.mk ?h ?_; case h => assumption) | (refine Need.mk ?h ?_; case h => (simp <;> omega)) | (refine Ix.zero ?_) | (refine Ix.one ?_) | (refine Ix.two ?_) | (refine Ix.nat ?_) | (refine Ix.add ?_) | (apply Go.Eng.Pin.mk; apply Exists.intro) | (apply Go.Eng.Pinned.mk (Eq.refl _) (Eq.refl _)) | (apply Go.Eng.PinH.mk; apply Exists.intro; apply Exists.intro) | (exact Go.Eng.Fin0.mk) | (refine Go.Eng.Chk.mk ?_ ?_) | fail))
  (refine Br.mk (fun _ => ?_) (fun _ => ?_))
  · (conv => whnf)
    (repeat' (first | exact trivial | rfl | exact Nat.one_pos | (refine And.intro ?_ ?_) | ((conv => whnf); (refine And.intro ?_ ?_)) | ((conv => whnf); exact trivial)))
    exact checkE_len h1 (by omega)
  rename_i h2
  (repeat' ((conv => whnf); first | (refine Giv.mk (fun _ => ?_)) | (refine Alt.l (Need.mk ?h ?_); case h => omega) | (refine Alt.r (Need.mk ?h ?_); case h => omega) | (refine Need.mk ?h ?_; case h => omega) | (refine Need.mk ?h ?_; case h => (intro _; rfl)) | (refine Need.mk ?h ?_; case h => assumption) | (refine Need.mk ?h ?_; case h => (simp <;> omega)) | (refine Ix.zero ?_) | (refine Ix.one ?_) | (refine Ix.two ?_) | (refine Ix.nat ?_) | (refine Ix.add ?_) | (apply Go.Eng.Pin.mk; apply Exists.intro) | (apply Go.Eng.Pinned.mk (Eq.refl _) (Eq.refl _)) | (apply Go.Eng.PinH.mk; apply Exists.intro; apply Exists.intro) | (exact Go.Eng.Fin0.mk) | (refine Go.Eng.Chk.mk ?_ ?_) | fail))
  refine ⟨⟨(0 : Nat), ⟨by omega, by simp⟩, by (repeat' (first | exact trivial | rfl | exact Nat.one_pos | (refine And.intro ?_ ?_) | omega | ((conv => whnf); (refine And.intro ?_ ?_)) | ((conv => whnf); exact trivial)))⟩, fun (i : Nat) hi => ?_⟩
  obtain ⟨hi1, hi2⟩ := hi
  (repeat' ((conv => whnf); first | (refine Giv.mk (fun _ => ?_)) | (refine Alt.l (Need.mk ?h ?_); case h => omega) | (refine Alt.r (Need.mk ?h ?_); case h => omega) | (refine Need.mk ?h ?_; case h => omega) | (refine Need.mk ?h ?_; case h => (intro _; rfl)) | (refine Need.mk ?h ?_; case h => assumption) | (refine Need.mk ?h ?_; case h => (simp <;> omega)) | (refine Ix.zero ?_) | (refine Ix.one ?_) | (refine Ix.two ?_) | (refine Ix.nat ?_) | (refine Ix.add ?_) | (apply Go.Eng.Pin.mk; apply Exists.intro) | (apply Go.Eng.Pinned.mk (Eq.refl _) (Eq.refl _)) | (apply Go.Eng.PinH.mk; apply Exists.intro; apply Exists.intro) | (exact Go.Eng.Fin0.mk) | (refine Go.Eng.Chk.mk ?_ ?_) | fail))
  (refine Br.mk (fun _ => ?_) (fun _ => ?_))
  · (repeat' ((conv => whnf); first | (refine Giv.mk (fun _ => ?_)) | (refine Alt.l (Need.mk ?h ?_); case h => omega) | (refine Alt.r (Need.mk ?h ?_); case h => omega) | (refine Need.mk ?h ?_; case h => omega) | (refine Need.mk ?h ?_; case h => (intro _; rfl)) | (refine Need.mk ?h ?_; case h => assumption) | (refine Need.mk ?h ?_; case h => (simp <;> omega)) | (refine Ix.zero ?_) | (refine Ix.one ?_) | (refine Ix.two ?_) | (refine Ix.nat ?_) | (refine Ix.add ?_) | (apply Go.Eng.Pin.mk; apply Exists.intro) | (apply Go.Eng.Pinned.mk (Eq.refl _) (Eq.refl _)) | (apply Go.Eng.PinH.mk; apply Exists.intro; apply Exists.intro) | (exact Go.Eng.Fin0.mk) | (refine Go.Eng.Chk.mk ?_ ?_) | fail))
    (refine Br.mk (fun _ => ?_) (fun _ => ?_))
    · (conv => whnf)
      (repeat' (first | exact trivial | rfl | exact Nat.one_pos | (refine And.intro ?_ ?_) | ((conv => whnf); (refine And.intro ?_ ?_)) | ((conv => whnf); exact trivial)))
      exact checkE_long (i := i) h1 h2 ‹_› ‹_›
    · (repeat' ((conv => whnf); first | (refine Giv.mk (fun _ => ?_)) | (refine Alt.l (Need.mk ?h ?_); case h => omega) | (refine Alt.r (Need.mk ?h ?_); case h => omega) | (refine Need.mk ?h ?_; case h => omega) | (refine Need.mk ?h ?_; case h => (intro _; rfl)) | (refine Need.mk ?h ?_; case h => assumption) | (refine Need.mk ?h ?_; case h => (simp <;> omega)) | (refine Ix.zero ?_) | (refine Ix.one ?_) | (refine Ix.two ?_) | (refine Ix.nat ?_) | (refine Ix.add ?_) | (apply Go.Eng.Pin.mk; apply Exists.intro) | (apply Go.Eng.Pinned.mk (Eq.refl _) (Eq.refl _)) | (apply Go.Eng.PinH.mk; apply Exists.intro; apply Exists.intro) | (exact Go.Eng.Fin0.mk) | (refine Go.Eng.Chk.mk ?_ ?_) | fail))
      refine ⟨(i + 1 : Nat), ?_, ⟨?_, ?_⟩, ?_⟩
      · show xs.length - (i + 1) < xs.length - i
        omega
      · omega
      · exact long_step ‹_› hi2 ‹_›
      · (repeat' (first | exact trivial | rfl | exact Nat.one_pos | (refine And.intro ?_ ?_) | omega | ((conv => whnf); (refine And.intro ?_ ?_)) | ((conv => whnf); exact trivial)))
  · exact (he (checkE_ok (i := i) h1 h2 ‹_› hi2).symm).elim
theorem checkE_zero {xs : List Int} {L k : Int} (h : checkE xs L k = 0) : xs.length ≤ 64 ∧ (∀ i, i < xs.length → 1 ≤ xs.getD i 0 ∧ xs.getD i 0 ≤ L) ∧ 0 ≤ k ∧ k ≤ 1000 ∧ 1 ≤ L ∧ L ≤ 65536 := by
  unfold checkE at h
  split at h
  · contradiction
  rename_i h1
  split at h
  · cases h
  rename_i h2
  split at h
  · cases h
  rename_i h3
  unfold piecesE at h1
  split at h1
  · exact (h1 (by decide)).elim
  split at h1
  · exact (h1 (by decide)).elim
  split at h1
  · exact (h1 (by decide)).elim
  rename_i h4 h5 h6
  refine ⟨by omega, fun i hi => ⟨?_, ?_⟩, by omega, by omega, by omega, by omega⟩
  · apply Classical.byContradiction
    intro hb
    exact h5 (any_getD badP xs 0 i hi (decide_eq_true (fun h => hb h.1)))
  · apply Classical.byContradiction
    intro hb
    exact h3 (any_getD (longP L) xs 0 i hi (decide_eq_true (by omega)))
theorem b24o (xs : List Int) (L k : Int) (he : checkE xs L k = 0) : body Try.prog [c36, c32] { loops := [(0, anLong 23 xs L)] } false Try.f24 [Ls xs, I L, I k] (.tup [.agg [Ls xs, I k, I (L + k)], I 0]) := by
  have hz := checkE_zero he
  obtain ⟨z1, _, z2, z3, z4, z5⟩ := hz
  (repeat' ((conv => whnf); first | (refine Giv.mk (fun _ => ?_)) | (refine Alt.l (Need.mk ?h ?_); case h => omega) | (refine Alt.r (Need.mk ?h ?_); case h => omega) | (refine Need.mk ?h ?_; case h => omega) | (refine Need.mk ?h ?_; case h => (intro _; rfl)) | (refine Need.mk ?h ?_; case h => assumption) | (refine Need.mk ?h ?_; case h => (simp <;> omega)) | (refine Ix.zero ?_) | (refine Ix.one ?_) | (refine Ix.two ?_) | (refine Ix.nat ?_) | (refine Ix.add ?_) | (apply Go.Eng.Pin.mk; apply Exists.intro) | (apply Go.Eng.Pinned.mk (Eq.refl _) (Eq.refl _)) | (apply Go.Eng.PinH.mk; apply Exists.intro; apply Exists.intro) | (exact Go.Eng.Fin0.mk) | (refine Go.Eng.Chk.mk ?_ ?_) | fail))
  (refine Br.mk (fun _ => ?_) (fun _ => ?_))
  · rename_i h
    rw [checkE_pieces (L := L) h] at h
    exact (h he).elim
  rename_i h1
  have h1 := Classical.not_not.1 h1
  (repeat' ((conv => whnf); first | (refine Giv.mk (fun _ => ?_)) | (refine Alt.l (Need.mk ?h ?_); case h => omega) | (refine Alt.r (Need.mk ?h ?_); case h => omega) | (refine Need.mk ?h ?_; case h => omega) | (refine Need.mk ?h ?_; case h => (intro _; rfl)) | (refine Need.mk ?h ?_; case h => assumption) | (refine Need.mk ?h ?_; case h => (simp <;> omega)) | (refine Ix.zero ?_) | (refine Ix.one ?_) | (refine Ix.two ?_) | (refine Ix.nat ?_) | (refine Ix.add ?_) | (apply Go.Eng.Pin.mk; apply Exists.intro) | (apply Go.Eng.Pinned.mk (Eq.refl _) (Eq.refl _)) | (apply Go.Eng.PinH.mk; apply Exists.intro; apply Exists.intro) | (exact Go.Eng.Fin0.mk) | (refine Go.Eng.Chk.mk ?_ ?_) | fail))
  (refine Br.mk (fun _ => ?_) (fun _ => ?_))
  · omega
  rename_i h2
  (repeat' ((conv => whnf); first | (refine Giv.mk (fun _ => ?_)) | (refine Alt.l (Need.mk ?h ?_); case h => omega) | (refine Alt.r (Need.mk ?h ?_); case h => omega) | (refine Need.mk ?h ?_; case h => omega) | (refine Need.mk ?h ?_; case h => (intro _; rfl)) | (refine Need.mk ?h ?_; case h => assumption) | (refine Need.mk ?h ?_; case h => (simp <;> omega)) | (refine Ix.zero ?_) | (refine Ix.one ?_) | (refine Ix.two ?_) | (refine Ix.nat ?_) | (refine Ix.add ?_) | (apply Go.Eng.Pin.mk; apply Exists.intro) | (apply Go.Eng.Pinned.mk (Eq.refl _) (Eq.refl _)) | (apply Go.Eng.PinH.mk; apply Exists.intro; apply Exists.intro) | (exact Go.Eng.Fin0.mk) | (refine Go.Eng.Chk.mk ?_ ?_) | fail))
  refine ⟨⟨(0 : Nat), ⟨by omega, by simp⟩, by (repeat' (first | exact trivial | rfl | exact Nat.one_pos | (refine And.intro ?_ ?_) | omega | ((conv => whnf); (refine And.intro ?_ ?_)) | ((conv => whnf); exact trivial)))⟩, fun (i : Nat) hi => ?_⟩
  obtain ⟨hi1, hi2⟩ := hi
  (repeat' ((conv => whnf); first | (refine Giv.mk (fun _ => ?_)) | (refine Alt.l (Need.mk ?h ?_); case h => omega) | (refine Alt.r (Need.mk ?h ?_); case h => omega) | (refine Need.mk ?h ?_; case h => omega) | (refine Need.mk ?h ?_; case h => (intro _; rfl)) | (refine Need.mk ?h ?_; case h => assumption) | (refine Need.mk ?h ?_; case h => (simp <;> omega)) | (refine Ix.zero ?_) | (refine Ix.one ?_) | (refine Ix.two ?_) | (refine Ix.nat ?_) | (refine Ix.add ?_) | (apply Go.Eng.Pin.mk; apply Exists.intro) | (apply Go.Eng.Pinned.mk (Eq.refl _) (Eq.refl _)) | (apply Go.Eng.PinH.mk; apply Exists.intro; apply Exists.intro) | (exact Go.Eng.Fin0.mk) | (refine Go.Eng.Chk.mk ?_ ?_) | fail))
  (refine Br.mk (fun _ => ?_) (fun _ => ?_))
  · (repeat' ((conv => whnf); first | (refine Giv.mk (fun _ => ?_)) | (refine Alt.l (Need.mk ?h ?_); case h => omega) | (refine Alt.r (Need.mk ?h ?_); case h => omega) | (refine Need.mk ?h ?_; case h => omega) | (refine Need.mk ?h ?_; case h => (intro _; rfl)) | (refine Need.mk ?h ?_; case h => assumption) | (refine Need.mk ?h ?_; case h => (simp <;> omega)) | (refine Ix.zero ?_) | (refine Ix.one ?_) | (refine Ix.two ?_) | (refine Ix.nat ?_) | (refine Ix.add ?_) | (apply Go.Eng.Pin.mk; apply Exists.intro) | (apply Go.Eng.Pinned.mk (Eq.refl _) (Eq.refl _)) | (apply Go.Eng.PinH.mk; apply Exists.intro; apply Exists.intro) | (exact Go.Eng.Fin0.mk) | (refine Go.Eng.Chk.mk ?_ ?_) | fail))
    (refine Br.mk (fun _ => ?_) (fun _ => ?_))
    · rename_i h5 h6 h7 h8
      have := checkE_long (L := L) (k := k) (i := i) h1 h2 ‹_› ‹_›
      omega
    · (repeat' ((conv => whnf); first | (refine Giv.mk (fun _ => ?_)) | (refine Alt.l (Need.mk ?h ?_); case h => omega) | (refine Alt.r (Need.mk ?h ?_); case h => omega) | (refine Need.mk ?h ?_; case h => omega) | (refine Need.mk ?h ?_; case h => (intro _; rfl)) | (refine Need.mk ?h ?_; case h => assumption) | (refine Need.mk ?h ?_; case h => (simp <;> omega)) | (refine Ix.zero ?_) | (refine Ix.one ?_) | (refine Ix.two ?_) | (refine Ix.nat ?_) | (refine Ix.add ?_) | (apply Go.Eng.Pin.mk; apply Exists.intro) | (apply Go.Eng.Pinned.mk (Eq.refl _) (Eq.refl _)) | (apply Go.Eng.PinH.mk; apply Exists.intro; apply Exists.intro) | (exact Go.Eng.Fin0.mk) | (refine Go.Eng.Chk.mk ?_ ?_) | fail))
      refine ⟨(i + 1 : Nat), ?_, ⟨?_, ?_⟩, ?_⟩
      · show xs.length - (i + 1) < xs.length - i
        omega
      · omega
      · exact long_step ‹_› hi2 ‹_›
      · (repeat' (first | exact trivial | rfl | exact Nat.one_pos | (refine And.intro ?_ ?_) | omega | ((conv => whnf); (refine And.intro ?_ ?_)) | ((conv => whnf); exact trivial)))
  · (repeat' ((conv => whnf); first | (refine Giv.mk (fun _ => ?_)) | (refine Alt.l (Need.mk ?h ?_); case h => omega) | (refine Alt.r (Need.mk ?h ?_); case h => omega) | (refine Need.mk ?h ?_; case h => omega) | (refine Need.mk ?h ?_; case h => (intro _; rfl)) | (refine Need.mk ?h ?_; case h => assumption) | (refine Need.mk ?h ?_; case h => (simp <;> omega)) | (refine Ix.zero ?_) | (refine Ix.one ?_) | (refine Ix.two ?_) | (refine Ix.nat ?_) | (refine Ix.add ?_) | (apply Go.Eng.Pin.mk; apply Exists.intro) | (apply Go.Eng.Pinned.mk (Eq.refl _) (Eq.refl _)) | (apply Go.Eng.PinH.mk; apply Exists.intro; apply Exists.intro) | (exact Go.Eng.Fin0.mk) | (refine Go.Eng.Chk.mk ?_ ?_) | fail))
    (conv => whnf)
    (repeat' (first | exact trivial | rfl | exact Nat.one_pos | (refine And.intro ?_ ?_) | ((conv => whnf); (refine And.intro ?_ ?_)) | ((conv => whnf); exact trivial)))
def c26 : Con := mkCon 26 true fun args K => match args with
  | [.seq (.int .i64) xs, .val (.int .i64 L), .val (.int .i64 k)] => K (I (checkE xs L k))
  | _ => False
theorem k26 : ConOK Try.prog c26 := by
  refine conOK_of rfl (enters_of Try.func26 (by kernel_rfl) rfl) ?_
  intro args K h
  simp only [c26] at h
  split at h
  · exact ⟨_, h, tri_of_body (Γ := [c37, c38]) (by simp [k37, k38]) Try.func26 (by simp [Try.ntmps26]) rfl (b26 _ _ _)⟩
  · exact h.elim
def c24 : Con := mkCon 24 false fun args K => match args with
  | [.seq (.int .i64) xs, .val (.int .i64 L), .val (.int .i64 k)] => Br (checkE xs L k = 0) (K (.tup [.agg [Ls xs, I k, I (L + k)], I 0])) (K (.tup [.agg [.val (.slice none 0 0), I 0, I 0], I (checkE xs L k)]))
  | _ => False
theorem k24 : ConOK Try.prog c24 := by
  refine conOK_of rfl (enters_of Try.func24 (by kernel_rfl) rfl) ?_
  intro args K h
  simp only [c24] at h
  split at h
  · rename_i xs L k
    by_cases he : checkE xs L k = 0
    · exact ⟨_, h.yes he, tri_of_body (Γ := [c36, c32]) (by simp [k36, k32]) Try.func24 (by simp [Try.ntmps24]) rfl (b24o _ _ _ he)⟩
    · exact ⟨_, h.no he, tri_of_body (Γ := [c36, c32]) (by simp [k36, k32]) Try.func24 (by simp [Try.ntmps24]) rfl (b24e _ _ _ he)⟩
  · exact h.elim

/-! ### The iterator -/
abbrev Nst (xs : List Int) (k C : Int) : SV := .agg [Ls xs, I k, I C]
abbrev Box (xs : List Int) (k C : Int) : SV := .lelem [Ls xs, I k, I C] 0
theorem b33 (xs : List Int) (k C : Int) : body Try.prog [] {} false Try.f33 [Nst xs k C] (.clo 41 [] [Box xs k C]) := by
  (repeat' ((conv => whnf); first | (refine Giv.mk (fun _ => ?_)) | (refine Alt.l (Need.mk ?h ?_); case h => omega) | (refine Alt.r (Need.mk ?h ?_); case h => omega) | (refine Need.mk ?h ?_; case h => omega) | (refine Need.mk ?h ?_; case h => (intro _; rfl)) | (refine Need.mk ?h ?_; case h => assumption) | (refine Need.mk ?h ?_; case h => (simp <;> omega)) | (refine Ix.zero ?_) | (refine Ix.one ?_) | (refine Ix.two ?_) | (refine Ix.nat ?_) | (refine Ix.add ?_) | (apply Go.Eng.Pin.mk; apply Exists.intro) | (apply Go.Eng.Pinned.mk (Eq.refl _) (Eq.refl _)) | (apply Go.Eng.PinH.mk; apply Exists.intro; apply Exists.intro) | (exact Go.Eng.Fin0.mk) | (refine Go.Eng.Chk.mk ?_ ?_) | fail))
  (conv => whnf)
  (repeat' (first | exact trivial | rfl | exact Nat.one_pos | (refine And.intro ?_ ?_) | ((conv => whnf); (refine And.intro ?_ ?_)) | ((conv => whnf); exact trivial)))
abbrev anIt (xs : List Int) (k : Int) : Ann := { X := Nat, pre := fun i => i ≤ xs.length, mod := fun i _ => [(8, I i)], heap := fun i _ => [.yst (some i) xs.length (fun i => [I i, I (xs.getD i 0 + k)])], mu := fun i => xs.length - i }
theorem b41 (xs : List Int) (k C : Int) (hk : 0 ≤ k ∧ k ≤ 1000) (hx : ∀ i, i < xs.length → 1 ≤ xs.getD i 0 ∧ xs.getD i 0 ≤ 65536) : bodyI Try.prog [] { loops := [(0, anIt xs k)] } Try.f41 [Box xs k C] xs.length (fun i => [I i, I (xs.getD i 0 + k)]) := by
  (repeat' ((conv => whnf); first | (refine Giv.mk (fun _ => ?_)) | (refine Alt.l (Need.mk ?h ?_); case h => omega) | (refine Alt.r (Need.mk ?h ?_); case h => omega) | (refine Need.mk ?h ?_; case h => omega) | (refine Need.mk ?h ?_; case h => (intro _; rfl)) | (refine Need.mk ?h ?_; case h => assumption) | (refine Need.mk ?h ?_; case h => (simp <;> omega)) | (refine Ix.zero ?_) | (refine Ix.one ?_) | (refine Ix.two ?_) | (refine Ix.nat ?_) | (refine Ix.add ?_) | (apply Go.Eng.Pin.mk; apply Exists.intro) | (apply Go.Eng.Pinned.mk (Eq.refl _) (Eq.refl _)) | (apply Go.Eng.PinH.mk; apply Exists.intro; apply Exists.intro) | (exact Go.Eng.Fin0.mk) | (refine Go.Eng.Chk.mk ?_ ?_) | fail))
  refine ⟨⟨(0 : Nat), Nat.zero_le _, by (repeat' (first | exact trivial | rfl | exact Nat.one_pos | (refine And.intro ?_ ?_) | omega | ((conv => whnf); (refine And.intro ?_ ?_)) | ((conv => whnf); exact trivial)))⟩, fun (i : Nat) (hi : i ≤ xs.length) => ?_⟩
  (repeat' ((conv => whnf); first | (refine Giv.mk (fun _ => ?_)) | (refine Alt.l (Need.mk ?h ?_); case h => omega) | (refine Alt.r (Need.mk ?h ?_); case h => omega) | (refine Need.mk ?h ?_; case h => omega) | (refine Need.mk ?h ?_; case h => (intro _; rfl)) | (refine Need.mk ?h ?_; case h => assumption) | (refine Need.mk ?h ?_; case h => (simp <;> omega)) | (refine Ix.zero ?_) | (refine Ix.one ?_) | (refine Ix.two ?_) | (refine Ix.nat ?_) | (refine Ix.add ?_) | (apply Go.Eng.Pin.mk; apply Exists.intro) | (apply Go.Eng.Pinned.mk (Eq.refl _) (Eq.refl _)) | (apply Go.Eng.PinH.mk; apply Exists.intro; apply Exists.intro) | (exact Go.Eng.Fin0.mk) | (refine Go.Eng.Chk.mk ?_ ?_) | fail))
  (refine Br.mk (fun _ => ?_) (fun _ => ?_))
  · (repeat' ((conv => whnf); first | (refine Giv.mk (fun _ => ?_)) | (refine Alt.l (Need.mk ?h ?_); case h => omega) | (refine Alt.r (Need.mk ?h ?_); case h => omega) | (refine Need.mk ?h ?_; case h => omega) | (refine Need.mk ?h ?_; case h => (intro _; rfl)) | (refine Need.mk ?h ?_; case h => assumption) | (refine Need.mk ?h ?_; case h => (simp <;> omega)) | (refine Ix.zero ?_) | (refine Ix.one ?_) | (refine Ix.two ?_) | (refine Ix.nat ?_) | (refine Ix.add ?_) | (apply Go.Eng.Pin.mk; apply Exists.intro) | (apply Go.Eng.Pinned.mk (Eq.refl _) (Eq.refl _)) | (apply Go.Eng.PinH.mk; apply Exists.intro; apply Exists.intro) | (exact Go.Eng.Fin0.mk) | (refine Go.Eng.Chk.mk ?_ ?_) | fail))
    refine Need.mk (by have := hx i (by omega); omega) ?_
    (repeat' ((conv => whnf); first | (refine Giv.mk (fun _ => ?_)) | (refine Alt.l (Need.mk ?h ?_); case h => omega) | (refine Alt.r (Need.mk ?h ?_); case h => omega) | (refine Need.mk ?h ?_; case h => omega) | (refine Need.mk ?h ?_; case h => (intro _; rfl)) | (refine Need.mk ?h ?_; case h => assumption) | (refine Need.mk ?h ?_; case h => (simp <;> omega)) | (refine Ix.zero ?_) | (refine Ix.one ?_) | (refine Ix.two ?_) | (refine Ix.nat ?_) | (refine Ix.add ?_) | (apply Go.Eng.Pin.mk; apply Exists.intro) | (apply Go.Eng.Pinned.mk (Eq.refl _) (Eq.refl _)) | (apply Go.Eng.PinH.mk; apply Exists.intro; apply Exists.intro) | (exact Go.Eng.Fin0.mk) | (refine Go.Eng.Chk.mk ?_ ?_) | fail))
    refine Need.mk (by (repeat' (first | exact trivial | rfl | exact Nat.one_pos | (refine And.intro ?_ ?_) | ((conv => whnf); (refine And.intro ?_ ?_)) | ((conv => whnf); exact trivial)))) ?_
    refine Two.mk ?_ ?_
    · (repeat' ((conv => whnf); first | (refine Giv.mk (fun _ => ?_)) | (refine Alt.l (Need.mk ?h ?_); case h => omega) | (refine Alt.r (Need.mk ?h ?_); case h => omega) | (refine Need.mk ?h ?_; case h => omega) | (refine Need.mk ?h ?_; case h => (intro _; rfl)) | (refine Need.mk ?h ?_; case h => assumption) | (refine Need.mk ?h ?_; case h => (simp <;> omega)) | (refine Ix.zero ?_) | (refine Ix.one ?_) | (refine Ix.two ?_) | (refine Ix.nat ?_) | (refine Ix.add ?_) | (apply Go.Eng.Pin.mk; apply Exists.intro) | (apply Go.Eng.Pinned.mk (Eq.refl _) (Eq.refl _)) | (apply Go.Eng.PinH.mk; apply Exists.intro; apply Exists.intro) | (exact Go.Eng.Fin0.mk) | (refine Go.Eng.Chk.mk ?_ ?_) | fail))
      refine ⟨(i + 1 : Nat), ?_, ?_, ?_⟩
      · show xs.length - (i + 1) < xs.length - i
        omega
      · show i + 1 ≤ xs.length
        omega
      · (repeat' (first | exact trivial | rfl | exact Nat.one_pos | (refine And.intro ?_ ?_) | omega | ((conv => whnf); (refine And.intro ?_ ?_)) | ((conv => whnf); exact trivial)))
    · (conv => whnf)
      trivial
  · (conv => whnf)
    omega
structure Okx (xs : List Int) (k C : Int) : Prop where
  len : xs.length ≤ 64
  el : ∀ i, i < xs.length → 1 ≤ xs.getD i 0 ∧ xs.getD i 0 ≤ 65536 ∧ xs.getD i 0 + k ≤ C
  k0 : 0 ≤ k
  k1 : k ≤ 1000
  c0 : 1 ≤ C
  c1 : C ≤ 66536
theorem okx_of {xs : List Int} {L k : Int} (h : checkE xs L k = 0) : Okx xs k (L + k) := by
  obtain ⟨h1, h2, h3, h4, h5, h6⟩ := checkE_zero h
  exact ⟨h1, fun i hi => by have := h2 i hi; omega, h3, h4, by omega, by omega⟩
def c41 : Con := mkCon 41 false fun args K => match args with
  | [.lelem [.seq (.int .i64) xs, .val (.int .i64 k), .val (.int .i64 C)] 0] => Need (Okx xs k C) (K (.itr xs.length (fun i => [I i, I (xs.getD i 0 + k)])))
  | _ => False
theorem k41 : ConOK Try.prog c41 := by
  refine conOK_of rfl (enters_of Try.func41 (by kernel_rfl) rfl) ?_
  intro args K h
  simp only [c41] at h
  split at h
  · rename_i xs k C
    have ho := h.ok
    exact ⟨_, h.go, triI_of_body (Γ := []) (by simp) Try.func41 (by simp [Try.ntmps41]) (b41 xs k C ⟨ho.k0, ho.k1⟩ fun i hi => ⟨(ho.el i hi).1, (ho.el i hi).2.1⟩)⟩
  · exact h.elim
def c33 : Con := mkCon 33 false fun args K => match args with
  | [.agg [.seq (.int .i64) xs, .val (.int .i64 k), .val (.int .i64 C)]] => K (.clo 41 [] [Box xs k C])
  | _ => False
theorem k33 : ConOK Try.prog c33 := by
  refine conOK_of rfl (enters_of Try.func33 (by kernel_rfl) rfl) ?_
  intro args K h
  simp only [c33] at h
  split at h
  · exact ⟨_, h, tri_of_body (Γ := []) (by simp) Try.func33 (by simp [Try.ntmps33]) rfl (b33 _ _ _)⟩
  · exact h.elim
def c34 : Con := mkCon 34 true fun args K => match args with
  | [.val (.int .i64 a), .val (.int .i64 b)] => Need (0 ≤ a ∧ a ≤ 1000000000 ∧ 0 < b ∧ b ≤ 1000000000) (K (I ((a + b - 1) / b)))
  | _ => False
theorem b34 (a b : Int) (h : 0 ≤ a ∧ a ≤ 1000000000 ∧ 0 < b ∧ b ≤ 1000000000) : body Try.prog [] {} true Try.f34 [I a, I b] (I ((a + b - 1) / b)) := by
  (repeat' ((conv => whnf); first | (refine Giv.mk (fun _ => ?_)) | (refine Alt.l (Need.mk ?h ?_); case h => omega) | (refine Alt.r (Need.mk ?h ?_); case h => omega) | (refine Need.mk ?h ?_; case h => omega) | (refine Need.mk ?h ?_; case h => (intro _; rfl)) | (refine Need.mk ?h ?_; case h => assumption) | (refine Need.mk ?h ?_; case h => (simp <;> omega)) | (refine Ix.zero ?_) | (refine Ix.one ?_) | (refine Ix.two ?_) | (refine Ix.nat ?_) | (refine Ix.add ?_) | (apply Go.Eng.Pin.mk; apply Exists.intro) | (apply Go.Eng.Pinned.mk (Eq.refl _) (Eq.refl _)) | (apply Go.Eng.PinH.mk; apply Exists.intro; apply Exists.intro) | (exact Go.Eng.Fin0.mk) | (refine Go.Eng.Chk.mk ?_ ?_) | fail))
  (conv => whnf)
  exact ⟨rfl, rfl⟩
theorem k34 : ConOK Try.prog c34 := by
  refine conOK_of rfl (enters_of Try.func34 (by kernel_rfl) rfl) ?_
  intro args K h
  simp only [c34] at h
  split at h
  · exact ⟨_, h.go, tri_of_body (Γ := []) (by simp) Try.func34 (by simp [Try.ntmps34]) rfl (b34 _ _ h.ok)⟩
  · exact h.elim

/-! ### Sums over the pieces -/
/-- The sum of a quantity of the first pieces. -/
def psum (f : Int → Int) (xs : List Int) (i : Nat) : Int := ((xs.take i).map f).sum
theorem psum_zero (f : Int → Int) (xs : List Int) : psum f xs 0 = 0 := by simp [psum]
theorem psum_succ (f : Int → Int) (xs : List Int) (i : Nat) (h : i < xs.length) : psum f xs (i + 1) = psum f xs i + f (xs.getD i 0) := by
  unfold psum
  rw [List.take_succ_eq_append_getElem h, List.map_append, List.sum_append]
  simp [List.getD_eq_getElem?_getD, h]
theorem psum_all (f : Int → Int) (xs : List Int) (i : Nat) (h : i = xs.length) : psum f xs i = (xs.map f).sum := by
  subst h; simp [psum]
def upE (a b : Int) : Int := (a + b - 1) / b
def matE (xs : List Int) (k C : Int) : Int := upE ((xs.map (· + k)).sum) C
abbrev an25 (xs : List Int) (k C : Int) : Ann := { X := Nat, pre := fun i => i ≤ xs.length ∧ 0 ≤ psum (· + k) xs i ∧ psum (· + k) xs i ≤ 100000 * i, mod := fun _ _ => [], heap := fun i _ => [.cells [Ls xs, I k, I C] 45, .cells [I (psum (· + k) xs i)] 3], mu := fun i => i }
theorem b25 (xs : List Int) (k C : Int) (ho : Okx xs k C) : body Try.prog [c33, c34, c41] { loops := [(0, an25 xs k C)] } true Try.f25 [Nst xs k C] (I (matE xs k C)) := by
  (repeat' ((conv => whnf); first | (refine Giv.mk (fun _ => ?_)) | (refine Alt.l (Need.mk ?h ?_); case h => omega) | (refine Alt.r (Need.mk ?h ?_); case h => omega) | (refine Need.mk ?h ?_; case h => omega) | (refine Need.mk ?h ?_; case h => (intro _; rfl)) | (refine Need.mk ?h ?_; case h => assumption) | (refine Need.mk ?h ?_; case h => (simp <;> omega)) | (refine Ix.zero ?_) | (refine Ix.one ?_) | (refine Ix.two ?_) | (refine Ix.nat ?_) | (refine Ix.add ?_) | (apply Go.Eng.Pin.mk; apply Exists.intro) | (apply Go.Eng.Pinned.mk (Eq.refl _) (Eq.refl _)) | (apply Go.Eng.PinH.mk; apply Exists.intro; apply Exists.intro) | (exact Go.Eng.Fin0.mk) | (refine Go.Eng.Chk.mk ?_ ?_) | fail))
  refine ⟨⟨(0 : Nat), rfl, ⟨Nat.zero_le _, by simp [psum_zero], by simp [psum_zero]⟩, by (repeat' (first | exact trivial | rfl | exact Nat.one_pos | (refine And.intro ?_ ?_) | omega | ((conv => whnf); (refine And.intro ?_ ?_)) | ((conv => whnf); exact trivial)))⟩, fun (i : Nat) hi (hlt : i < xs.length) => ?_, fun (i : Nat) hi (he : i = xs.length) => ?_⟩
  · obtain ⟨h1, h2, h3⟩ : i ≤ xs.length ∧ 0 ≤ psum (· + k) xs i ∧ psum (· + k) xs i ≤ 100000 * i := hi
    obtain ⟨h4, h5, h6⟩ := ho.el i hlt
    have h7 := ho.k0
    have h8 := ho.k1
    have h9 := ho.len
    (repeat' ((conv => whnf); first | (refine Giv.mk (fun _ => ?_)) | (refine Alt.l (Need.mk ?h ?_); case h => omega) | (refine Alt.r (Need.mk ?h ?_); case h => omega) | (refine Need.mk ?h ?_; case h => omega) | (refine Need.mk ?h ?_; case h => (intro _; rfl)) | (refine Need.mk ?h ?_; case h => assumption) | (refine Need.mk ?h ?_; case h => (simp <;> omega)) | (refine Ix.zero ?_) | (refine Ix.one ?_) | (refine Ix.two ?_) | (refine Ix.nat ?_) | (refine Ix.add ?_) | (apply Go.Eng.Pin.mk; apply Exists.intro) | (apply Go.Eng.Pinned.mk (Eq.refl _) (Eq.refl _)) | (apply Go.Eng.PinH.mk; apply Exists.intro; apply Exists.intro) | (exact Go.Eng.Fin0.mk) | (refine Go.Eng.Chk.mk ?_ ?_) | fail))
    refine Need.mk (by dsimp only [an25]; omega) ?_
    (repeat' ((conv => whnf); first | (refine Giv.mk (fun _ => ?_)) | (refine Alt.l (Need.mk ?h ?_); case h => omega) | (refine Alt.r (Need.mk ?h ?_); case h => omega) | (refine Need.mk ?h ?_; case h => omega) | (refine Need.mk ?h ?_; case h => (intro _; rfl)) | (refine Need.mk ?h ?_; case h => assumption) | (refine Need.mk ?h ?_; case h => (simp <;> omega)) | (refine Ix.zero ?_) | (refine Ix.one ?_) | (refine Ix.two ?_) | (refine Ix.nat ?_) | (refine Ix.add ?_) | (apply Go.Eng.Pin.mk; apply Exists.intro) | (apply Go.Eng.Pinned.mk (Eq.refl _) (Eq.refl _)) | (apply Go.Eng.PinH.mk; apply Exists.intro; apply Exists.intro) | (exact Go.Eng.Fin0.mk) | (refine Go.Eng.Chk.mk ?_ ?_) | fail))
    refine ⟨(i + 1 : Nat), rfl, ⟨?_, ?_⟩, ?_⟩
    · exact hlt
    · rw [psum_succ _ _ _ hlt]
      constructor <;> omega
    · (repeat' (first | exact trivial | rfl | exact Nat.one_pos | (refine And.intro ?_ ?_) | ((conv => whnf); (refine And.intro ?_ ?_)) | ((conv => whnf); exact trivial)))
      exact (psum_succ (· + k) _ _ hlt).symm
  · obtain ⟨h1, h2, h3⟩ : i ≤ xs.length ∧ 0 ≤ psum (· + k) xs i ∧ psum (· + k) xs i ≤ 100000 * i := hi
    have h7 := ho.c0
    have h8 := ho.c1
    have h9 := ho.len
    (repeat' ((conv => whnf); first | (refine Giv.mk (fun _ => ?_)) | (refine Alt.l (Need.mk ?h ?_); case h => omega) | (refine Alt.r (Need.mk ?h ?_); case h => omega) | (refine Need.mk ?h ?_; case h => omega) | (refine Need.mk ?h ?_; case h => (intro _; rfl)) | (refine Need.mk ?h ?_; case h => assumption) | (refine Need.mk ?h ?_; case h => (simp <;> omega)) | (refine Ix.zero ?_) | (refine Ix.one ?_) | (refine Ix.two ?_) | (refine Ix.nat ?_) | (refine Ix.add ?_) | (apply Go.Eng.Pin.mk; apply Exists.intro) | (apply Go.Eng.Pinned.mk (Eq.refl _) (Eq.refl _)) | (apply Go.Eng.PinH.mk; apply Exists.intro; apply Exists.intro) | (exact Go.Eng.Fin0.mk) | (refine Go.Eng.Chk.mk ?_ ?_) | fail))
    (conv => whnf)
    (repeat' (first | exact trivial | rfl | exact Nat.one_pos | (refine And.intro ?_ ?_) | ((conv => whnf); (refine And.intro ?_ ?_)) | ((conv => whnf); exact trivial)))
    rw [psum_all _ _ _ he]
    rfl
def c25 : Con := mkCon 25 true fun args K => match args with
  | [.agg [.seq (.int .i64) xs, .val (.int .i64 k), .val (.int .i64 C)]] => Need (Okx xs k C) (K (I (matE xs k C)))
  | _ => False
theorem k25 : ConOK Try.prog c25 := by
  refine conOK_of rfl (enters_of Try.func25 (by kernel_rfl) rfl) ?_
  intro args K h
  simp only [c25] at h
  split at h
  · exact ⟨_, h.go, tri_of_body (Γ := [c33, c34, c41]) (by simp [k33, k34, k41]) Try.func25 (by simp [Try.ntmps25]) rfl (b25 _ _ _ h.ok)⟩
  · exact h.elim

def big2 (k C : Int) (x : Int) : Int := if C < 2 * (x + k) then 1 else 0
def pairE (xs : List Int) (k C : Int) : Int := (xs.map (big2 k C)).sum
abbrev an28 (xs : List Int) (k C : Int) : Ann := { X := Nat, pre := fun i => i ≤ xs.length ∧ 0 ≤ psum (big2 k C) xs i ∧ psum (big2 k C) xs i ≤ i, mod := fun _ _ => [], heap := fun i _ => [.cells [Ls xs, I k, I C] 45, .cells [I (psum (big2 k C) xs i)] 3], mu := fun i => i }
theorem b28 (xs : List Int) (k C : Int) (ho : Okx xs k C) : body Try.prog [c33, c34, c41] { loops := [(0, an28 xs k C)] } true Try.f28 [Nst xs k C] (I (pairE xs k C)) := by
  (repeat' ((conv => whnf); first | (refine Giv.mk (fun _ => ?_)) | (refine Alt.l (Need.mk ?h ?_); case h => omega) | (refine Alt.r (Need.mk ?h ?_); case h => omega) | (refine Need.mk ?h ?_; case h => omega) | (refine Need.mk ?h ?_; case h => (intro _; rfl)) | (refine Need.mk ?h ?_; case h => assumption) | (refine Need.mk ?h ?_; case h => (simp <;> omega)) | (refine Ix.zero ?_) | (refine Ix.one ?_) | (refine Ix.two ?_) | (refine Ix.nat ?_) | (refine Ix.add ?_) | (apply Go.Eng.Pin.mk; apply Exists.intro) | (apply Go.Eng.Pinned.mk (Eq.refl _) (Eq.refl _)) | (apply Go.Eng.PinH.mk; apply Exists.intro; apply Exists.intro) | (exact Go.Eng.Fin0.mk) | (refine Go.Eng.Chk.mk ?_ ?_) | fail))
  refine ⟨⟨(0 : Nat), rfl, ⟨Nat.zero_le _, by simp [psum_zero], by simp [psum_zero]⟩, by (repeat' (first | exact trivial | rfl | exact Nat.one_pos | (refine And.intro ?_ ?_) | omega | ((conv => whnf); (refine And.intro ?_ ?_)) | ((conv => whnf); exact trivial)))⟩, fun (i : Nat) hi (hlt : i < xs.length) => ?_, fun (i : Nat) hi (he : i = xs.length) => ?_⟩
  · obtain ⟨h1, h2, h3⟩ : i ≤ xs.length ∧ 0 ≤ psum (big2 k C) xs i ∧ psum (big2 k C) xs i ≤ i := hi
    obtain ⟨h4, h5, h6⟩ := ho.el i hlt
    have h7 := ho.k0
    have h8 := ho.k1
    have h9 := ho.len
    have hs := psum_succ (big2 k C) xs i hlt
    (repeat' ((conv => whnf); first | (refine Giv.mk (fun _ => ?_)) | (refine Alt.l (Need.mk ?h ?_); case h => omega) | (refine Alt.r (Need.mk ?h ?_); case h => omega) | (refine Need.mk ?h ?_; case h => omega) | (refine Need.mk ?h ?_; case h => (intro _; rfl)) | (refine Need.mk ?h ?_; case h => assumption) | (refine Need.mk ?h ?_; case h => (simp <;> omega)) | (refine Ix.zero ?_) | (refine Ix.one ?_) | (refine Ix.two ?_) | (refine Ix.nat ?_) | (refine Ix.add ?_) | (apply Go.Eng.Pin.mk; apply Exists.intro) | (apply Go.Eng.Pinned.mk (Eq.refl _) (Eq.refl _)) | (apply Go.Eng.PinH.mk; apply Exists.intro; apply Exists.intro) | (exact Go.Eng.Fin0.mk) | (refine Go.Eng.Chk.mk ?_ ?_) | fail))
    refine Need.mk (by dsimp only [an28]; omega) ?_
    (repeat' ((conv => whnf); first | (refine Giv.mk (fun _ => ?_)) | (refine Alt.l (Need.mk ?h ?_); case h => omega) | (refine Alt.r (Need.mk ?h ?_); case h => omega) | (refine Need.mk ?h ?_; case h => omega) | (refine Need.mk ?h ?_; case h => (intro _; rfl)) | (refine Need.mk ?h ?_; case h => assumption) | (refine Need.mk ?h ?_; case h => (simp <;> omega)) | (refine Ix.zero ?_) | (refine Ix.one ?_) | (refine Ix.two ?_) | (refine Ix.nat ?_) | (refine Ix.add ?_) | (apply Go.Eng.Pin.mk; apply Exists.intro) | (apply Go.Eng.Pinned.mk (Eq.refl _) (Eq.refl _)) | (apply Go.Eng.PinH.mk; apply Exists.intro; apply Exists.intro) | (exact Go.Eng.Fin0.mk) | (refine Go.Eng.Chk.mk ?_ ?_) | fail))
    (refine Br.mk (fun _ => ?_) (fun _ => ?_))
    · rename_i hc
      have hc : C < 2 * (xs.getD i 0 + k) := hc
      rw [show big2 k C (xs.getD i 0) = 1 from if_pos hc] at hs
      (repeat' ((conv => whnf); first | (refine Giv.mk (fun _ => ?_)) | (refine Alt.l (Need.mk ?h ?_); case h => omega) | (refine Alt.r (Need.mk ?h ?_); case h => omega) | (refine Need.mk ?h ?_; case h => omega) | (refine Need.mk ?h ?_; case h => (intro _; rfl)) | (refine Need.mk ?h ?_; case h => assumption) | (refine Need.mk ?h ?_; case h => (simp <;> omega)) | (refine Ix.zero ?_) | (refine Ix.one ?_) | (refine Ix.two ?_) | (refine Ix.nat ?_) | (refine Ix.add ?_) | (apply Go.Eng.Pin.mk; apply Exists.intro) | (apply Go.Eng.Pinned.mk (Eq.refl _) (Eq.refl _)) | (apply Go.Eng.PinH.mk; apply Exists.intro; apply Exists.intro) | (exact Go.Eng.Fin0.mk) | (refine Go.Eng.Chk.mk ?_ ?_) | fail))
      refine ⟨(i + 1 : Nat), rfl, ⟨?_, ?_⟩, ?_⟩
      · exact hlt
      · omega
      · (repeat' (first | exact trivial | rfl | exact Nat.one_pos | (refine And.intro ?_ ?_) | ((conv => whnf); (refine And.intro ?_ ?_)) | ((conv => whnf); exact trivial)))
        exact hs.symm
    · rename_i hc
      have hc : ¬ C < 2 * (xs.getD i 0 + k) := hc
      rw [show big2 k C (xs.getD i 0) = 0 from if_neg hc] at hs
      (repeat' ((conv => whnf); first | (refine Giv.mk (fun _ => ?_)) | (refine Alt.l (Need.mk ?h ?_); case h => omega) | (refine Alt.r (Need.mk ?h ?_); case h => omega) | (refine Need.mk ?h ?_; case h => omega) | (refine Need.mk ?h ?_; case h => (intro _; rfl)) | (refine Need.mk ?h ?_; case h => assumption) | (refine Need.mk ?h ?_; case h => (simp <;> omega)) | (refine Ix.zero ?_) | (refine Ix.one ?_) | (refine Ix.two ?_) | (refine Ix.nat ?_) | (refine Ix.add ?_) | (apply Go.Eng.Pin.mk; apply Exists.intro) | (apply Go.Eng.Pinned.mk (Eq.refl _) (Eq.refl _)) | (apply Go.Eng.PinH.mk; apply Exists.intro; apply Exists.intro) | (exact Go.Eng.Fin0.mk) | (refine Go.Eng.Chk.mk ?_ ?_) | fail))
      refine ⟨(i + 1 : Nat), rfl, ⟨?_, ?_⟩, ?_⟩
      · exact hlt
      · omega
      · (repeat' (first | exact trivial | rfl | exact Nat.one_pos | (refine And.intro ?_ ?_) | ((conv => whnf); (refine And.intro ?_ ?_)) | ((conv => whnf); exact trivial)))
        omega
  · obtain ⟨h1, h2, h3⟩ : i ≤ xs.length ∧ 0 ≤ psum (big2 k C) xs i ∧ psum (big2 k C) xs i ≤ i := hi
    (repeat' ((conv => whnf); first | (refine Giv.mk (fun _ => ?_)) | (refine Alt.l (Need.mk ?h ?_); case h => omega) | (refine Alt.r (Need.mk ?h ?_); case h => omega) | (refine Need.mk ?h ?_; case h => omega) | (refine Need.mk ?h ?_; case h => (intro _; rfl)) | (refine Need.mk ?h ?_; case h => assumption) | (refine Need.mk ?h ?_; case h => (simp <;> omega)) | (refine Ix.zero ?_) | (refine Ix.one ?_) | (refine Ix.two ?_) | (refine Ix.nat ?_) | (refine Ix.add ?_) | (apply Go.Eng.Pin.mk; apply Exists.intro) | (apply Go.Eng.Pinned.mk (Eq.refl _) (Eq.refl _)) | (apply Go.Eng.PinH.mk; apply Exists.intro; apply Exists.intro) | (exact Go.Eng.Fin0.mk) | (refine Go.Eng.Chk.mk ?_ ?_) | fail))
    (conv => whnf)
    (repeat' (first | exact trivial | rfl | exact Nat.one_pos | (refine And.intro ?_ ?_) | ((conv => whnf); (refine And.intro ?_ ?_)) | ((conv => whnf); exact trivial)))
    rw [psum_all _ _ _ he]
    rfl
def c28 : Con := mkCon 28 true fun args K => match args with
  | [.agg [.seq (.int .i64) xs, .val (.int .i64 k), .val (.int .i64 C)]] => Need (Okx xs k C) (K (I (pairE xs k C)))
  | _ => False
theorem k28 : ConOK Try.prog c28 := by
  refine conOK_of rfl (enters_of Try.func28 (by kernel_rfl) rfl) ?_
  intro args K h
  simp only [c28] at h
  split at h
  · exact ⟨_, h.go, tri_of_body (Γ := [c33, c34, c41]) (by simp [k33, k34, k41]) Try.func28 (by simp [Try.ntmps28]) rfl (b28 _ _ _ h.ok)⟩
  · exact h.elim

/-! ### The bound for a number -/
/-- What a piece adds to the count, the room, and the small ones. -/
def cntF (a C w : Int) : Int := if C - a < w then 1 else if C < 2 * w then 1 else 0
def roomF (a C w : Int) : Int := if C - a < w then 0 else if C < 2 * w then C - w else 0
def smallF (a C w : Int) : Int := if C - a < w then 0 else if C < 2 * w then 0 else if a ≤ w then w else 0
def sumE (f : Int → Int) (xs : List Int) (k : Int) : Int := (xs.map fun x => f (x + k)).sum
def belowE (xs : List Int) (k C a : Int) : Int := sumE (cntF a C) xs k + upE (max 0 (sumE (smallF a C) xs k - sumE (roomF a C) xs k)) C
abbrev P3 (f : Int → Int → Int → Int) (a C k : Int) (xs : List Int) (i : Nat) : Int := psum (fun x => f a C (x + k)) xs i
abbrev an40 (xs : List Int) (k C a : Int) : Ann := { X := Nat, pre := fun i => i ≤ xs.length ∧ (0 ≤ P3 cntF a C k xs i ∧ P3 cntF a C k xs i ≤ i) ∧ (0 ≤ P3 roomF a C k xs i ∧ P3 roomF a C k xs i ≤ 100000 * i) ∧ (0 ≤ P3 smallF a C k xs i ∧ P3 smallF a C k xs i ≤ 100000 * i), mod := fun _ _ => [], heap := fun i _ => [.cells [Ls xs, I k, I C] 45, .cells [I a] 3, .cells [I (P3 cntF a C k xs i)] 3, .cells [I (P3 roomF a C k xs i)] 3, .cells [I (P3 smallF a C k xs i)] 3], mu := fun i => i }
theorem b40 (xs : List Int) (k C a : Int) (hh : Okx xs k C ∧ 0 ≤ a ∧ 2 * a ≤ C) : body Try.prog [c33, c34, c41] { loops := [(0, an40 xs k C a)] } true Try.f40 [Nst xs k C, I a] (I (belowE xs k C a)) := by
  obtain ⟨ho, ha⟩ := hh
  (repeat' ((conv => whnf); first | (refine Giv.mk (fun _ => ?_)) | (refine Alt.l (Need.mk ?h ?_); case h => omega) | (refine Alt.r (Need.mk ?h ?_); case h => omega) | (refine Need.mk ?h ?_; case h => omega) | (refine Need.mk ?h ?_; case h => (intro _; rfl)) | (refine Need.mk ?h ?_; case h => assumption) | (refine Need.mk ?h ?_; case h => (simp <;> omega)) | (refine Ix.zero ?_) | (refine Ix.one ?_) | (refine Ix.two ?_) | (refine Ix.nat ?_) | (refine Ix.add ?_) | (apply Go.Eng.Pin.mk; apply Exists.intro) | (apply Go.Eng.Pinned.mk (Eq.refl _) (Eq.refl _)) | (apply Go.Eng.PinH.mk; apply Exists.intro; apply Exists.intro) | (exact Go.Eng.Fin0.mk) | (refine Go.Eng.Chk.mk ?_ ?_) | fail))
  refine ⟨⟨(0 : Nat), rfl, ⟨Nat.zero_le _, by simp [psum_zero], by simp [psum_zero], by simp [psum_zero]⟩, by (repeat' (first | exact trivial | rfl | exact Nat.one_pos | (refine And.intro ?_ ?_) | omega | ((conv => whnf); (refine And.intro ?_ ?_)) | ((conv => whnf); exact trivial)))⟩, fun (i : Nat) hi (hlt : i < xs.length) => ?_, fun (i : Nat) hi (he : i = xs.length) => ?_⟩
  · obtain ⟨h1, h2, h3, h10⟩ : i ≤ xs.length ∧ (0 ≤ P3 cntF a C k xs i ∧ P3 cntF a C k xs i ≤ i) ∧ (0 ≤ P3 roomF a C k xs i ∧ P3 roomF a C k xs i ≤ 100000 * i) ∧ (0 ≤ P3 smallF a C k xs i ∧ P3 smallF a C k xs i ≤ 100000 * i) := hi
    obtain ⟨h4, h5, h6⟩ := ho.el i hlt
    have h7 := ho.k0
    have h8 := ho.k1
    have h9 := ho.len
    have h11 := ho.c0
    have h12 := ho.c1
    have s1 : P3 cntF a C k xs (i + 1) = P3 cntF a C k xs i + cntF a C (xs.getD i 0 + k) := psum_succ (fun x => cntF a C (x + k)) xs i hlt
    have s2 : P3 roomF a C k xs (i + 1) = P3 roomF a C k xs i + roomF a C (xs.getD i 0 + k) := psum_succ (fun x => roomF a C (x + k)) xs i hlt
    have s3 : P3 smallF a C k xs (i + 1) = P3 smallF a C k xs i + smallF a C (xs.getD i 0 + k) := psum_succ (fun x => smallF a C (x + k)) xs i hlt
    rw [show (an40 xs k C a).mu i = i from rfl]
    have hcase : (C - a < xs.getD i 0 + k ∧ cntF a C (xs.getD i 0 + k) = 1 ∧ roomF a C (xs.getD i 0 + k) = 0 ∧ smallF a C (xs.getD i 0 + k) = 0) ∨
        (¬ C - a < xs.getD i 0 + k ∧ C < 2 * (xs.getD i 0 + k) ∧ cntF a C (xs.getD i 0 + k) = 1 ∧ roomF a C (xs.getD i 0 + k) = C - (xs.getD i 0 + k) ∧ smallF a C (xs.getD i 0 + k) = 0) ∨
        (¬ C - a < xs.getD i 0 + k ∧ ¬ C < 2 * (xs.getD i 0 + k) ∧ a ≤ xs.getD i 0 + k ∧ cntF a C (xs.getD i 0 + k) = 0 ∧ roomF a C (xs.getD i 0 + k) = 0 ∧ smallF a C (xs.getD i 0 + k) = xs.getD i 0 + k) ∨
        (¬ C - a < xs.getD i 0 + k ∧ ¬ C < 2 * (xs.getD i 0 + k) ∧ ¬ a ≤ xs.getD i 0 + k ∧ cntF a C (xs.getD i 0 + k) = 0 ∧ roomF a C (xs.getD i 0 + k) = 0 ∧ smallF a C (xs.getD i 0 + k) = 0) := by
      by_cases q1 : C - a < xs.getD i 0 + k
      · exact .inl ⟨q1, if_pos q1, if_pos q1, if_pos q1⟩
      · by_cases q2 : C < 2 * (xs.getD i 0 + k)
        · exact .inr (.inl ⟨q1, q2, (if_neg q1).trans (if_pos q2), (if_neg q1).trans (if_pos q2), (if_neg q1).trans (if_pos q2)⟩)
        · by_cases q3 : a ≤ xs.getD i 0 + k
          · exact .inr (.inr (.inl ⟨q1, q2, q3, (if_neg q1).trans (if_neg q2), (if_neg q1).trans (if_neg q2), (if_neg q1).trans ((if_neg q2).trans (if_pos q3))⟩))
          · exact .inr (.inr (.inr ⟨q1, q2, q3, (if_neg q1).trans (if_neg q2), (if_neg q1).trans (if_neg q2), (if_neg q1).trans ((if_neg q2).trans (if_neg q3))⟩))
    (repeat' ((conv => whnf); first | (refine Giv.mk (fun _ => ?_)) | (refine Alt.l (Need.mk ?h ?_); case h => omega) | (refine Alt.r (Need.mk ?h ?_); case h => omega) | (refine Need.mk ?h ?_; case h => omega) | (refine Need.mk ?h ?_; case h => (intro _; rfl)) | (refine Need.mk ?h ?_; case h => assumption) | (refine Need.mk ?h ?_; case h => (simp <;> omega)) | (refine Ix.zero ?_) | (refine Ix.one ?_) | (refine Ix.two ?_) | (refine Ix.nat ?_) | (refine Ix.add ?_) | (apply Go.Eng.Pin.mk; apply Exists.intro) | (apply Go.Eng.Pinned.mk (Eq.refl _) (Eq.refl _)) | (apply Go.Eng.PinH.mk; apply Exists.intro; apply Exists.intro) | (exact Go.Eng.Fin0.mk) | (refine Go.Eng.Chk.mk ?_ ?_) | fail))
    (refine Br.mk (fun _ => ?_) (fun _ => ?_))
    · (repeat' ((conv => whnf); first | (refine Giv.mk (fun _ => ?_)) | (refine Alt.l (Need.mk ?h ?_); case h => omega) | (refine Alt.r (Need.mk ?h ?_); case h => omega) | (refine Need.mk ?h ?_; case h => omega) | (refine Need.mk ?h ?_; case h => (intro _; rfl)) | (refine Need.mk ?h ?_; case h => assumption) | (refine Need.mk ?h ?_; case h => (simp <;> omega)) | (refine Ix.zero ?_) | (refine Ix.one ?_) | (refine Ix.two ?_) | (refine Ix.nat ?_) | (refine Ix.add ?_) | (apply Go.Eng.Pin.mk; apply Exists.intro) | (apply Go.Eng.Pinned.mk (Eq.refl _) (Eq.refl _)) | (apply Go.Eng.PinH.mk; apply Exists.intro; apply Exists.intro) | (exact Go.Eng.Fin0.mk) | (refine Go.Eng.Chk.mk ?_ ?_) | fail))
      refine ⟨(i + 1 : Nat), rfl, ⟨hlt, ?_, ?_, ?_⟩, ?_⟩
      · omega
      · omega
      · omega
      · (repeat' (first | exact trivial | rfl | exact Nat.one_pos | (refine And.intro ?_ ?_) | ((conv => whnf); (refine And.intro ?_ ?_)) | ((conv => whnf); exact trivial)))
        all_goals omega
    · (repeat' ((conv => whnf); first | (refine Giv.mk (fun _ => ?_)) | (refine Alt.l (Need.mk ?h ?_); case h => omega) | (refine Alt.r (Need.mk ?h ?_); case h => omega) | (refine Need.mk ?h ?_; case h => omega) | (refine Need.mk ?h ?_; case h => (intro _; rfl)) | (refine Need.mk ?h ?_; case h => assumption) | (refine Need.mk ?h ?_; case h => (simp <;> omega)) | (refine Ix.zero ?_) | (refine Ix.one ?_) | (refine Ix.two ?_) | (refine Ix.nat ?_) | (refine Ix.add ?_) | (apply Go.Eng.Pin.mk; apply Exists.intro) | (apply Go.Eng.Pinned.mk (Eq.refl _) (Eq.refl _)) | (apply Go.Eng.PinH.mk; apply Exists.intro; apply Exists.intro) | (exact Go.Eng.Fin0.mk) | (refine Go.Eng.Chk.mk ?_ ?_) | fail))
      (refine Br.mk (fun _ => ?_) (fun _ => ?_))
      · (repeat' ((conv => whnf); first | (refine Giv.mk (fun _ => ?_)) | (refine Alt.l (Need.mk ?h ?_); case h => omega) | (refine Alt.r (Need.mk ?h ?_); case h => omega) | (refine Need.mk ?h ?_; case h => omega) | (refine Need.mk ?h ?_; case h => (intro _; rfl)) | (refine Need.mk ?h ?_; case h => assumption) | (refine Need.mk ?h ?_; case h => (simp <;> omega)) | (refine Ix.zero ?_) | (refine Ix.one ?_) | (refine Ix.two ?_) | (refine Ix.nat ?_) | (refine Ix.add ?_) | (apply Go.Eng.Pin.mk; apply Exists.intro) | (apply Go.Eng.Pinned.mk (Eq.refl _) (Eq.refl _)) | (apply Go.Eng.PinH.mk; apply Exists.intro; apply Exists.intro) | (exact Go.Eng.Fin0.mk) | (refine Go.Eng.Chk.mk ?_ ?_) | fail))
        refine ⟨(i + 1 : Nat), rfl, ⟨hlt, ?_, ?_, ?_⟩, ?_⟩
        · omega
        · omega
        · omega
        · (repeat' (first | exact trivial | rfl | exact Nat.one_pos | (refine And.intro ?_ ?_) | ((conv => whnf); (refine And.intro ?_ ?_)) | ((conv => whnf); exact trivial)))
          all_goals omega
      · (repeat' ((conv => whnf); first | (refine Giv.mk (fun _ => ?_)) | (refine Alt.l (Need.mk ?h ?_); case h => omega) | (refine Alt.r (Need.mk ?h ?_); case h => omega) | (refine Need.mk ?h ?_; case h => omega) | (refine Need.mk ?h ?_; case h => (intro _; rfl)) | (refine Need.mk ?h ?_; case h => assumption) | (refine Need.mk ?h ?_; case h => (simp <;> omega)) | (refine Ix.zero ?_) | (refine Ix.one ?_) | (refine Ix.two ?_) | (refine Ix.nat ?_) | (refine Ix.add ?_) | (apply Go.Eng.Pin.mk; apply Exists.intro) | (apply Go.Eng.Pinned.mk (Eq.refl _) (Eq.refl _)) | (apply Go.Eng.PinH.mk; apply Exists.intro; apply Exists.intro) | (exact Go.Eng.Fin0.mk) | (refine Go.Eng.Chk.mk ?_ ?_) | fail))
        (refine Br.mk (fun _ => ?_) (fun _ => ?_))
        · (repeat' ((conv => whnf); first | (refine Giv.mk (fun _ => ?_)) | (refine Alt.l (Need.mk ?h ?_); case h => omega) | (refine Alt.r (Need.mk ?h ?_); case h => omega) | (refine Need.mk ?h ?_; case h => omega) | (refine Need.mk ?h ?_; case h => (intro _; rfl)) | (refine Need.mk ?h ?_; case h => assumption) | (refine Need.mk ?h ?_; case h => (simp <;> omega)) | (refine Ix.zero ?_) | (refine Ix.one ?_) | (refine Ix.two ?_) | (refine Ix.nat ?_) | (refine Ix.add ?_) | (apply Go.Eng.Pin.mk; apply Exists.intro) | (apply Go.Eng.Pinned.mk (Eq.refl _) (Eq.refl _)) | (apply Go.Eng.PinH.mk; apply Exists.intro; apply Exists.intro) | (exact Go.Eng.Fin0.mk) | (refine Go.Eng.Chk.mk ?_ ?_) | fail))
          refine ⟨(i + 1 : Nat), rfl, ⟨hlt, ?_, ?_, ?_⟩, ?_⟩
          · omega
          · omega
          · omega
          · (repeat' (first | exact trivial | rfl | exact Nat.one_pos | (refine And.intro ?_ ?_) | ((conv => whnf); (refine And.intro ?_ ?_)) | ((conv => whnf); exact trivial)))
            all_goals omega
        · (repeat' ((conv => whnf); first | (refine Giv.mk (fun _ => ?_)) | (refine Alt.l (Need.mk ?h ?_); case h => omega) | (refine Alt.r (Need.mk ?h ?_); case h => omega) | (refine Need.mk ?h ?_; case h => omega) | (refine Need.mk ?h ?_; case h => (intro _; rfl)) | (refine Need.mk ?h ?_; case h => assumption) | (refine Need.mk ?h ?_; case h => (simp <;> omega)) | (refine Ix.zero ?_) | (refine Ix.one ?_) | (refine Ix.two ?_) | (refine Ix.nat ?_) | (refine Ix.add ?_) | (apply Go.Eng.Pin.mk; apply Exists.intro) | (apply Go.Eng.Pinned.mk (Eq.refl _) (Eq.refl _)) | (apply Go.Eng.PinH.mk; apply Exists.intro; apply Exists.intro) | (exact Go.Eng.Fin0.mk) | (refine Go.Eng.Chk.mk ?_ ?_) | fail))
          refine ⟨(i + 1 : Nat), rfl, ⟨hlt, ?_, ?_, ?_⟩, ?_⟩
          · omega
          · omega
          · omega
          · (repeat' (first | exact trivial | rfl | exact Nat.one_pos | (refine And.intro ?_ ?_) | ((conv => whnf); (refine And.intro ?_ ?_)) | ((conv => whnf); exact trivial)))
            all_goals omega
  · obtain ⟨h1, h2, h3, h10⟩ : i ≤ xs.length ∧ (0 ≤ P3 cntF a C k xs i ∧ P3 cntF a C k xs i ≤ i) ∧ (0 ≤ P3 roomF a C k xs i ∧ P3 roomF a C k xs i ≤ 100000 * i) ∧ (0 ≤ P3 smallF a C k xs i ∧ P3 smallF a C k xs i ≤ 100000 * i) := hi
    have h9 := ho.len
    have h11 := ho.c0
    have h12 := ho.c1
    have hd0 : 0 ≤ (max 0 (P3 smallF a C k xs i - P3 roomF a C k xs i) + C - 1) / C := Int.ediv_nonneg (by omega) (by omega)
    have hd1 : (max 0 (P3 smallF a C k xs i - P3 roomF a C k xs i) + C - 1) / C ≤ max 0 (P3 smallF a C k xs i - P3 roomF a C k xs i) + C - 1 := Int.ediv_le_self _ (by omega)
    (repeat' ((conv => whnf); first | (refine Giv.mk (fun _ => ?_)) | (refine Alt.l (Need.mk ?h ?_); case h => omega) | (refine Alt.r (Need.mk ?h ?_); case h => omega) | (refine Need.mk ?h ?_; case h => omega) | (refine Need.mk ?h ?_; case h => (intro _; rfl)) | (refine Need.mk ?h ?_; case h => assumption) | (refine Need.mk ?h ?_; case h => (simp <;> omega)) | (refine Ix.zero ?_) | (refine Ix.one ?_) | (refine Ix.two ?_) | (refine Ix.nat ?_) | (refine Ix.add ?_) | (apply Go.Eng.Pin.mk; apply Exists.intro) | (apply Go.Eng.Pinned.mk (Eq.refl _) (Eq.refl _)) | (apply Go.Eng.PinH.mk; apply Exists.intro; apply Exists.intro) | (exact Go.Eng.Fin0.mk) | (refine Go.Eng.Chk.mk ?_ ?_) | fail))
    (conv => whnf)
    (repeat' (first | exact trivial | rfl | exact Nat.one_pos | (refine And.intro ?_ ?_) | ((conv => whnf); (refine And.intro ?_ ?_)) | ((conv => whnf); exact trivial)))
    simp only [P3, psum_all _ _ _ he]
    rfl
def c40 : Con := mkCon 40 true fun args K => match args with | [.agg [.seq (.int .i64) xs, .val (.int .i64 k), .val (.int .i64 C)], .val (.int .i64 a)] => Need (Okx xs k C ∧ 0 ≤ a ∧ 2 * a ≤ C) (K (I (belowE xs k C a))) | _ => False
theorem k40 : ConOK Try.prog c40 := by
  refine conOK_of rfl (enters_of Try.func40 (by kernel_rfl) rfl) ?_
  intro args K h
  simp only [c40] at h
  split at h
  · rename_i xs k C a; exact ⟨_, h.go, tri_of_body (Γ := [c33, c34, c41]) (by simp [k33, k34, k41]) Try.func40 (by simp [Try.ntmps40]) rfl (b40 xs k C a h.ok)⟩
  · exact h.elim

end NB
