import Derived.Test.YtpmbhgmifiianaaE3
open Go Go.Proofs Go.Eng Go.Shelf
namespace EB
set_option maxRecDepth 10000
/-! ### Whether rests are allowed -/
def cmpI (a b : Int) : Int := if a < b then -1 else if b < a then 1 else 0
def orI : List Int → Int
  | [] => 0
  | x :: r => if x = 0 then orI r else x
theorem orI_at (xs : List Int) (i : Nat) (hi : i < xs.length) (hx : xs.getD i 0 ≠ 0) (h : ∀ j, j < i → xs.getD j 0 = 0) : orI xs = xs.getD i 0 := by
  induction xs generalizing i with
  | nil => simp at hi
  | cons x r ih =>
    cases i with
    | zero => simp at hx; simp [orI, hx]
    | succ i =>
      have h0 : x = 0 := by simpa using h 0 (by omega)
      have := ih i (by simpa using hi) (by simpa using hx) (fun j hj => by simpa using h (j + 1) (by omega))
      simp [orI, h0, this]
theorem orI_zero (xs : List Int) (h : ∀ j, j < xs.length → xs.getD j 0 = 0) : orI xs = 0 := by
  induction xs with
  | nil => rfl
  | cons x r ih =>
    have h0 : x = 0 := by simpa using h 0 (by simp)
    simp only [orI, h0, if_true]
    exact ih fun j hj => by simpa using h (j + 1) (by simpa using hj)
theorem b74 (a : Int) : body Try.prog [] {} true Try.f74 [I a] (.val (.bool false)) := by
  (repeat' ((conv => whnf); first | (refine Giv.mk (fun _ => ?_)) | (refine Alt.l (Need.mk ?h ?_); case h => omega) | (refine Alt.r (Need.mk ?h ?_); case h => omega) | (refine Need.mk ?h ?_; case h => omega) | (refine Need.mk ?h ?_; case h => (intro _; rfl)) | (refine Need.mk ?h ?_; case h => assumption) | (refine Need.mk ?h ?_; case h => (simp <;> omega)) | (refine Ix.zero ?_) | (refine Ix.one ?_) | (refine Ix.two ?_) | (refine Ix.nat ?_) | (refine Ix.add ?_) | (apply Go.Eng.Pin.mk; apply Exists.intro) | (apply Go.Eng.Pinned.mk (Eq.refl _) (Eq.refl _)) | (apply Go.Eng.PinH.mk; apply Exists.intro; apply Exists.intro) | (exact Go.Eng.Fin0.mk) | (refine Go.Eng.Chk.mk ?_ ?_) | fail))
  (conv => whnf)
  simp
def c74 : Con := mkCon 74 true fun args K => match args with | [.val (.int .i64 a)] => K (.val (.bool false)) | _ => False
theorem k74 : ConOK Try.prog c74 := by
  refine conOK_of rfl (enters_of Try.func74 (by kernel_rfl) rfl) ?_
  intro args K h
  simp only [c74] at h
  split at h
  · rename_i a; exact ⟨_, h, tri_of_body (Γ := []) (by simp) Try.func74 (by simp [Try.ntmps74]) rfl (b74 a)⟩
  · exact h.elim
theorem b68 (a b : Int) : body Try.prog [c74] {} true Try.f68 [I a, I b] (I (cmpI a b)) := by
  (repeat' ((conv => whnf); first | (refine Giv.mk (fun _ => ?_)) | (refine Alt.l (Need.mk ?h ?_); case h => omega) | (refine Alt.r (Need.mk ?h ?_); case h => omega) | (refine Need.mk ?h ?_; case h => omega) | (refine Need.mk ?h ?_; case h => (intro _; rfl)) | (refine Need.mk ?h ?_; case h => assumption) | (refine Need.mk ?h ?_; case h => (simp <;> omega)) | (refine Ix.zero ?_) | (refine Ix.one ?_) | (refine Ix.two ?_) | (refine Ix.nat ?_) | (refine Ix.add ?_) | (apply Go.Eng.Pin.mk; apply Exists.intro) | (apply Go.Eng.Pinned.mk (Eq.refl _) (Eq.refl _)) | (apply Go.Eng.PinH.mk; apply Exists.intro; apply Exists.intro) | (exact Go.Eng.Fin0.mk) | (refine Go.Eng.Chk.mk ?_ ?_) | (refine Br.mkY ?h ?_; case h => omega) | (refine Br.mkN ?h ?_; case h => omega) | (refine Br.mkY ?h ?_; case h => assumption) | (refine Br.mkN ?h ?_; case h => assumption) | (refine Br.mkN ?h ?_; case h => exact not_not_intro (by assumption)) | fail))
  (refine Br.mk (fun _ => ?_) (fun _ => ?_))
  · rename_i h
    (conv => whnf)
    exact ⟨rfl, (if_pos h).symm⟩
  · rename_i h
    (repeat' ((conv => whnf); first | (refine Giv.mk (fun _ => ?_)) | (refine Alt.l (Need.mk ?h ?_); case h => omega) | (refine Alt.r (Need.mk ?h ?_); case h => omega) | (refine Need.mk ?h ?_; case h => omega) | (refine Need.mk ?h ?_; case h => (intro _; rfl)) | (refine Need.mk ?h ?_; case h => assumption) | (refine Need.mk ?h ?_; case h => (simp <;> omega)) | (refine Ix.zero ?_) | (refine Ix.one ?_) | (refine Ix.two ?_) | (refine Ix.nat ?_) | (refine Ix.add ?_) | (apply Go.Eng.Pin.mk; apply Exists.intro) | (apply Go.Eng.Pinned.mk (Eq.refl _) (Eq.refl _)) | (apply Go.Eng.PinH.mk; apply Exists.intro; apply Exists.intro) | (exact Go.Eng.Fin0.mk) | (refine Go.Eng.Chk.mk ?_ ?_) | fail))
    (refine Br.mk (fun _ => ?_) (fun _ => ?_))
    · rename_i h2
      (conv => whnf)
      exact ⟨rfl, by unfold cmpI; rw [if_neg h, if_pos h2]⟩
    · rename_i h2
      (conv => whnf)
      exact ⟨rfl, by unfold cmpI; rw [if_neg h, if_neg h2]⟩
def c68 : Con := mkCon 68 true fun args K => match args with | [.val (.int .i64 a), .val (.int .i64 b)] => K (I (cmpI a b)) | _ => False
theorem k68 : ConOK Try.prog c68 := by
  refine conOK_of rfl (enters_of Try.func68 (by kernel_rfl) rfl) ?_
  intro args K h
  simp only [c68] at h
  split at h
  · rename_i a b; exact ⟨_, h, tri_of_body (Γ := [c74]) (by simp [k74]) Try.func68 (by simp [Try.ntmps68]) rfl (b68 a b)⟩
  · exact h.elim
theorem b67 (xs : List Int) : body Try.prog [] { loops := [(0, { X := Nat, pre := fun i => i ≤ xs.length ∧ ∀ j, j < i → xs.getD j 0 = 0, mod := fun i _ => [(8, I i)], mu := fun i => xs.length - i })] } true Try.f67 [Ls xs] (I (orI xs)) := by
  (repeat' ((conv => whnf); first | (refine Giv.mk (fun _ => ?_)) | (refine Alt.l (Need.mk ?h ?_); case h => omega) | (refine Alt.r (Need.mk ?h ?_); case h => omega) | (refine Need.mk ?h ?_; case h => omega) | (refine Need.mk ?h ?_; case h => (intro _; rfl)) | (refine Need.mk ?h ?_; case h => assumption) | (refine Need.mk ?h ?_; case h => (simp <;> omega)) | (refine Ix.zero ?_) | (refine Ix.one ?_) | (refine Ix.two ?_) | (refine Ix.nat ?_) | (refine Ix.add ?_) | (apply Go.Eng.Pin.mk; apply Exists.intro) | (apply Go.Eng.Pinned.mk (Eq.refl _) (Eq.refl _)) | (apply Go.Eng.PinH.mk; apply Exists.intro; apply Exists.intro) | (exact Go.Eng.Fin0.mk) | (refine Go.Eng.Chk.mk ?_ ?_) | fail))
  refine ⟨⟨(0 : Nat), ⟨Nat.zero_le _, by omega⟩, by (repeat' (first | exact trivial | rfl | exact Nat.one_pos | (refine And.intro ?_ ?_) | omega | ((conv => whnf); (refine And.intro ?_ ?_)) | ((conv => whnf); exact trivial)))⟩, fun (i : Nat) hi => ?_⟩
  obtain ⟨hi, hb⟩ := hi
  (repeat' ((conv => whnf); first | (refine Giv.mk (fun _ => ?_)) | (refine Alt.l (Need.mk ?h ?_); case h => omega) | (refine Alt.r (Need.mk ?h ?_); case h => omega) | (refine Need.mk ?h ?_; case h => omega) | (refine Need.mk ?h ?_; case h => (intro _; rfl)) | (refine Need.mk ?h ?_; case h => assumption) | (refine Need.mk ?h ?_; case h => (simp <;> omega)) | (refine Ix.zero ?_) | (refine Ix.one ?_) | (refine Ix.two ?_) | (refine Ix.nat ?_) | (refine Ix.add ?_) | (apply Go.Eng.Pin.mk; apply Exists.intro) | (apply Go.Eng.Pinned.mk (Eq.refl _) (Eq.refl _)) | (apply Go.Eng.PinH.mk; apply Exists.intro; apply Exists.intro) | (exact Go.Eng.Fin0.mk) | (refine Go.Eng.Chk.mk ?_ ?_) | fail))
  (refine Br.mk (fun _ => ?_) (fun _ => ?_))
  · have hlt : i < xs.length := by omega
    (repeat' ((conv => whnf); first | (refine Giv.mk (fun _ => ?_)) | (refine Alt.l (Need.mk ?h ?_); case h => omega) | (refine Alt.r (Need.mk ?h ?_); case h => omega) | (refine Need.mk ?h ?_; case h => omega) | (refine Need.mk ?h ?_; case h => (intro _; rfl)) | (refine Need.mk ?h ?_; case h => assumption) | (refine Need.mk ?h ?_; case h => (simp <;> omega)) | (refine Ix.zero ?_) | (refine Ix.one ?_) | (refine Ix.two ?_) | (refine Ix.nat ?_) | (refine Ix.add ?_) | (apply Go.Eng.Pin.mk; apply Exists.intro) | (apply Go.Eng.Pinned.mk (Eq.refl _) (Eq.refl _)) | (apply Go.Eng.PinH.mk; apply Exists.intro; apply Exists.intro) | (exact Go.Eng.Fin0.mk) | (refine Go.Eng.Chk.mk ?_ ?_) | fail))
    (refine Br.mk (fun _ => ?_) (fun _ => ?_))
    · rename_i hh
      (repeat' ((conv => whnf); first | (refine Giv.mk (fun _ => ?_)) | (refine Alt.l (Need.mk ?h ?_); case h => omega) | (refine Alt.r (Need.mk ?h ?_); case h => omega) | (refine Need.mk ?h ?_; case h => omega) | (refine Need.mk ?h ?_; case h => (intro _; rfl)) | (refine Need.mk ?h ?_; case h => assumption) | (refine Need.mk ?h ?_; case h => (simp <;> omega)) | (refine Ix.zero ?_) | (refine Ix.one ?_) | (refine Ix.two ?_) | (refine Ix.nat ?_) | (refine Ix.add ?_) | (apply Go.Eng.Pin.mk; apply Exists.intro) | (apply Go.Eng.Pinned.mk (Eq.refl _) (Eq.refl _)) | (apply Go.Eng.PinH.mk; apply Exists.intro; apply Exists.intro) | (exact Go.Eng.Fin0.mk) | (refine Go.Eng.Chk.mk ?_ ?_) | fail))
      (conv => whnf)
      exact ⟨rfl, (orI_at xs i hlt hh hb).symm⟩
    · rename_i hh
      (repeat' ((conv => whnf); first | (refine Giv.mk (fun _ => ?_)) | (refine Alt.l (Need.mk ?h ?_); case h => omega) | (refine Alt.r (Need.mk ?h ?_); case h => omega) | (refine Need.mk ?h ?_; case h => omega) | (refine Need.mk ?h ?_; case h => (intro _; rfl)) | (refine Need.mk ?h ?_; case h => assumption) | (refine Need.mk ?h ?_; case h => (simp <;> omega)) | (refine Ix.zero ?_) | (refine Ix.one ?_) | (refine Ix.two ?_) | (refine Ix.nat ?_) | (refine Ix.add ?_) | (apply Go.Eng.Pin.mk; apply Exists.intro) | (apply Go.Eng.Pinned.mk (Eq.refl _) (Eq.refl _)) | (apply Go.Eng.PinH.mk; apply Exists.intro; apply Exists.intro) | (exact Go.Eng.Fin0.mk) | (refine Go.Eng.Chk.mk ?_ ?_) | fail))
      refine ⟨(i + 1 : Nat), by show xs.length - (i + 1) < xs.length - i; omega, ⟨hlt, fun j hj => ?_⟩, by (repeat' (first | exact trivial | rfl | exact Nat.one_pos | (refine And.intro ?_ ?_) | omega | ((conv => whnf); (refine And.intro ?_ ?_)) | ((conv => whnf); exact trivial)))⟩
      by_cases e : j = i
      · subst e; omega
      · exact hb j (by omega)
  · have hii : i = xs.length := by omega
    subst hii
    (repeat' ((conv => whnf); first | (refine Giv.mk (fun _ => ?_)) | (refine Alt.l (Need.mk ?h ?_); case h => omega) | (refine Alt.r (Need.mk ?h ?_); case h => omega) | (refine Need.mk ?h ?_; case h => omega) | (refine Need.mk ?h ?_; case h => (intro _; rfl)) | (refine Need.mk ?h ?_; case h => assumption) | (refine Need.mk ?h ?_; case h => (simp <;> omega)) | (refine Ix.zero ?_) | (refine Ix.one ?_) | (refine Ix.two ?_) | (refine Ix.nat ?_) | (refine Ix.add ?_) | (apply Go.Eng.Pin.mk; apply Exists.intro) | (apply Go.Eng.Pinned.mk (Eq.refl _) (Eq.refl _)) | (apply Go.Eng.PinH.mk; apply Exists.intro; apply Exists.intro) | (exact Go.Eng.Fin0.mk) | (refine Go.Eng.Chk.mk ?_ ?_) | fail))
    (conv => whnf)
    exact ⟨rfl, (orI_zero xs hb).symm⟩
def c67 : Con := mkCon 67 true fun args K => match args with | [.seq (.int .i64) xs] => K (I (orI xs)) | _ => False
theorem k67 : ConOK Try.prog c67 := by
  refine conOK_of rfl (enters_of Try.func67 (by kernel_rfl) rfl) ?_
  intro args K h
  simp only [c67] at h
  split at h
  · rename_i xs; exact ⟨_, h, tri_of_body (Γ := []) (by simp) Try.func67 (by simp [Try.ntmps67]) rfl (b67 xs)⟩
  · exact h.elim
/-- The first fault. -/
def firstE (f : Nat → Int) (m : Nat) : Int := orI ((List.range m).map f)
theorem firstE_some {f : Nat → Int} {m i : Nat} (hi : i < m) (hf : f i ≠ 0) (h : ∀ j, j < i → f j = 0) : firstE f m = f i := by
  have e : ∀ j, j < m → ((List.range m).map f).getD j 0 = f j := fun j hj => by simp [List.getD_eq_getElem?_getD, hj]
  unfold firstE
  rw [orI_at _ i (by simpa using hi) (by rw [e i hi]; exact hf) (fun j hj => by rw [e j (by omega)]; exact h j hj), e i hi]
theorem firstE_none {f : Nat → Int} {m : Nat} (h : ∀ j, j < m → f j = 0) : firstE f m = 0 := by
  unfold firstE
  refine orI_zero _ fun j hj => ?_
  have hj : j < m := by simpa using hj
  simpa [List.getD_eq_getElem?_getD, hj] using h j hj
def supAt (n : Int) (l : List (Int × Int)) (k : Nat) : Int :=
  if (l.getD k (0, 0)).1 < 0 ∨ n ≤ (l.getD k (0, 0)).1 ∨ (l.getD k (0, 0)).2 < -1 ∨ n ≤ (l.getD k (0, 0)).2 then 2
  else if (l.getD k (0, 0)).1 = (l.getD k (0, 0)).2 then 27
  else if 0 < k ∧ 0 ≤ orI [cmpI (l.getD (k - 1) (0, 0)).1 (l.getD k (0, 0)).1, cmpI (l.getD (k - 1) (0, 0)).2 (l.getD k (0, 0)).2] then 10 else 0
def supE (n : Int) (l : List (Int × Int)) : Int := if n < 0 ∨ 512 < n then 2 else if 4096 < l.length then 4 else firstE (supAt n l) l.length
theorem supE_out {n : Int} {l : List (Int × Int)} (h : n < 0 ∨ 512 < n) : 2 = supE n l := by unfold supE; rw [if_pos h]
theorem supE_long {n : Int} {l : List (Int × Int)} (h : ¬ n < 0) (h2 : ¬ 512 < n) (h3 : 4096 < (l.length : Int)) : 4 = supE n l := by unfold supE; rw [if_neg (by omega), if_pos (by omega)]
theorem supE_at {n : Int} {l : List (Int × Int)} (h : ¬ n < 0) (h2 : ¬ 512 < n) (h3 : ¬ 4096 < (l.length : Int)) {i : Nat} (hi : i < l.length) (hb : ∀ j, j < i → supAt n l j = 0) {v : Int} (hv : supAt n l i = v) (h0 : v ≠ 0) : v = supE n l := by
  unfold supE; rw [if_neg (by omega), if_neg (by omega), firstE_some hi (by rw [hv]; exact h0) hb, hv]
theorem supE_ok {n : Int} {l : List (Int × Int)} (h : ¬ n < 0) (h2 : ¬ 512 < n) (h3 : ¬ 4096 < (l.length : Int)) (hb : ∀ j, j < l.length → supAt n l j = 0) : 0 = supE n l := by
  unfold supE; rw [if_neg (by omega), if_neg (by omega), firstE_none hb]
theorem b43 (n : Int) (l : List (Int × Int)) : body Try.prog [c67, c68] { asks := [(1, [])] } true Try.f43 [I n, Ps l] (I (supE n l)) := by
  (repeat' ((conv => whnf); first | (refine Giv.mk (fun _ => ?_)) | (refine Alt.l (Need.mk ?h ?_); case h => omega) | (refine Alt.r (Need.mk ?h ?_); case h => omega) | (refine Need.mk ?h ?_; case h => omega) | (refine Need.mk ?h ?_; case h => (intro _; rfl)) | (refine Need.mk ?h ?_; case h => assumption) | (refine Need.mk ?h ?_; case h => (simp <;> omega)) | (refine Ix.zero ?_) | (refine Ix.one ?_) | (refine Ix.two ?_) | (refine Ix.nat ?_) | (refine Ix.add ?_) | (apply Go.Eng.Pin.mk; apply Exists.intro) | (apply Go.Eng.Pinned.mk (Eq.refl _) (Eq.refl _)) | (apply Go.Eng.PinH.mk; apply Exists.intro; apply Exists.intro) | (exact Go.Eng.Fin0.mk) | (refine Go.Eng.Chk.mk ?_ ?_) | fail))
  (refine Br.mk (fun _ => ?_) (fun _ => ?_))
  · rename_i h
    (repeat' ((conv => whnf); first | (refine Giv.mk (fun _ => ?_)) | (refine Alt.l (Need.mk ?h ?_); case h => omega) | (refine Alt.r (Need.mk ?h ?_); case h => omega) | (refine Need.mk ?h ?_; case h => omega) | (refine Need.mk ?h ?_; case h => (intro _; rfl)) | (refine Need.mk ?h ?_; case h => assumption) | (refine Need.mk ?h ?_; case h => (simp <;> omega)) | (refine Ix.zero ?_) | (refine Ix.one ?_) | (refine Ix.two ?_) | (refine Ix.nat ?_) | (refine Ix.add ?_) | (apply Go.Eng.Pin.mk; apply Exists.intro) | (apply Go.Eng.Pinned.mk (Eq.refl _) (Eq.refl _)) | (apply Go.Eng.PinH.mk; apply Exists.intro; apply Exists.intro) | (exact Go.Eng.Fin0.mk) | (refine Go.Eng.Chk.mk ?_ ?_) | fail))
    (conv => whnf)
    exact ⟨rfl, supE_out (.inl h)⟩
  rename_i g1
  (repeat' ((conv => whnf); first | (refine Giv.mk (fun _ => ?_)) | (refine Alt.l (Need.mk ?h ?_); case h => omega) | (refine Alt.r (Need.mk ?h ?_); case h => omega) | (refine Need.mk ?h ?_; case h => omega) | (refine Need.mk ?h ?_; case h => (intro _; rfl)) | (refine Need.mk ?h ?_; case h => assumption) | (refine Need.mk ?h ?_; case h => (simp <;> omega)) | (refine Ix.zero ?_) | (refine Ix.one ?_) | (refine Ix.two ?_) | (refine Ix.nat ?_) | (refine Ix.add ?_) | (apply Go.Eng.Pin.mk; apply Exists.intro) | (apply Go.Eng.Pinned.mk (Eq.refl _) (Eq.refl _)) | (apply Go.Eng.PinH.mk; apply Exists.intro; apply Exists.intro) | (exact Go.Eng.Fin0.mk) | (refine Go.Eng.Chk.mk ?_ ?_) | fail))
  (refine Br.mk (fun _ => ?_) (fun _ => ?_))
  · rename_i h
    (repeat' ((conv => whnf); first | (refine Giv.mk (fun _ => ?_)) | (refine Alt.l (Need.mk ?h ?_); case h => omega) | (refine Alt.r (Need.mk ?h ?_); case h => omega) | (refine Need.mk ?h ?_; case h => omega) | (refine Need.mk ?h ?_; case h => (intro _; rfl)) | (refine Need.mk ?h ?_; case h => assumption) | (refine Need.mk ?h ?_; case h => (simp <;> omega)) | (refine Ix.zero ?_) | (refine Ix.one ?_) | (refine Ix.two ?_) | (refine Ix.nat ?_) | (refine Ix.add ?_) | (apply Go.Eng.Pin.mk; apply Exists.intro) | (apply Go.Eng.Pinned.mk (Eq.refl _) (Eq.refl _)) | (apply Go.Eng.PinH.mk; apply Exists.intro; apply Exists.intro) | (exact Go.Eng.Fin0.mk) | (refine Go.Eng.Chk.mk ?_ ?_) | fail))
    (conv => whnf)
    exact ⟨rfl, supE_out (.inr h)⟩
  rename_i g2
  (repeat' ((conv => whnf); first | (refine Giv.mk (fun _ => ?_)) | (refine Alt.l (Need.mk ?h ?_); case h => omega) | (refine Alt.r (Need.mk ?h ?_); case h => omega) | (refine Need.mk ?h ?_; case h => omega) | (refine Need.mk ?h ?_; case h => (intro _; rfl)) | (refine Need.mk ?h ?_; case h => assumption) | (refine Need.mk ?h ?_; case h => (simp <;> omega)) | (refine Ix.zero ?_) | (refine Ix.one ?_) | (refine Ix.two ?_) | (refine Ix.nat ?_) | (refine Ix.add ?_) | (apply Go.Eng.Pin.mk; apply Exists.intro) | (apply Go.Eng.Pinned.mk (Eq.refl _) (Eq.refl _)) | (apply Go.Eng.PinH.mk; apply Exists.intro; apply Exists.intro) | (exact Go.Eng.Fin0.mk) | (refine Go.Eng.Chk.mk ?_ ?_) | fail))
  (refine Br.mk (fun _ => ?_) (fun _ => ?_))
  · rename_i h
    (repeat' ((conv => whnf); first | (refine Giv.mk (fun _ => ?_)) | (refine Alt.l (Need.mk ?h ?_); case h => omega) | (refine Alt.r (Need.mk ?h ?_); case h => omega) | (refine Need.mk ?h ?_; case h => omega) | (refine Need.mk ?h ?_; case h => (intro _; rfl)) | (refine Need.mk ?h ?_; case h => assumption) | (refine Need.mk ?h ?_; case h => (simp <;> omega)) | (refine Ix.zero ?_) | (refine Ix.one ?_) | (refine Ix.two ?_) | (refine Ix.nat ?_) | (refine Ix.add ?_) | (apply Go.Eng.Pin.mk; apply Exists.intro) | (apply Go.Eng.Pinned.mk (Eq.refl _) (Eq.refl _)) | (apply Go.Eng.PinH.mk; apply Exists.intro; apply Exists.intro) | (exact Go.Eng.Fin0.mk) | (refine Go.Eng.Chk.mk ?_ ?_) | fail))
    (conv => whnf)
    exact ⟨rfl, supE_long g1 g2 h⟩
  rename_i g3
  (repeat' ((conv => whnf); first | (refine Giv.mk (fun _ => ?_)) | (refine Alt.l (Need.mk ?h ?_); case h => omega) | (refine Alt.r (Need.mk ?h ?_); case h => omega) | (refine Need.mk ?h ?_; case h => omega) | (refine Need.mk ?h ?_; case h => (intro _; rfl)) | (refine Need.mk ?h ?_; case h => assumption) | (refine Need.mk ?h ?_; case h => (simp <;> omega)) | (refine Ix.zero ?_) | (refine Ix.one ?_) | (refine Ix.two ?_) | (refine Ix.nat ?_) | (refine Ix.add ?_) | (apply Go.Eng.Pin.mk; apply Exists.intro) | (apply Go.Eng.Pinned.mk (Eq.refl _) (Eq.refl _)) | (apply Go.Eng.PinH.mk; apply Exists.intro; apply Exists.intro) | (exact Go.Eng.Fin0.mk) | (refine Go.Eng.Chk.mk ?_ ?_) | fail))
  refine Ask.mk ⟨{ X := Nat, pre := fun i => i ≤ l.length ∧ ∀ j, j < i → supAt n l j = 0, mod := fun i _ => [(20, I i)], mu := fun i => l.length - i }, rfl, ?_⟩
  (repeat' ((conv => whnf); first | (refine Giv.mk (fun _ => ?_)) | (refine Alt.l (Need.mk ?h ?_); case h => omega) | (refine Alt.r (Need.mk ?h ?_); case h => omega) | (refine Need.mk ?h ?_; case h => omega) | (refine Need.mk ?h ?_; case h => (intro _; rfl)) | (refine Need.mk ?h ?_; case h => assumption) | (refine Need.mk ?h ?_; case h => (simp <;> omega)) | (refine Ix.zero ?_) | (refine Ix.one ?_) | (refine Ix.two ?_) | (refine Ix.nat ?_) | (refine Ix.add ?_) | (apply Go.Eng.Pin.mk; apply Exists.intro) | (apply Go.Eng.Pinned.mk (Eq.refl _) (Eq.refl _)) | (apply Go.Eng.PinH.mk; apply Exists.intro; apply Exists.intro) | (exact Go.Eng.Fin0.mk) | (refine Go.Eng.Chk.mk ?_ ?_) | fail))
  refine ⟨⟨(0 : Nat), ⟨Nat.zero_le _, by omega⟩, by (repeat' (first | exact trivial | rfl | exact Nat.one_pos | (refine And.intro ?_ ?_) | omega | ((conv => whnf); (refine And.intro ?_ ?_)) | ((conv => whnf); exact trivial)))⟩, fun (i : Nat) hi => ?_⟩
  obtain ⟨hi, hb⟩ := hi
  (repeat' ((conv => whnf); first | (refine Giv.mk (fun _ => ?_)) | (refine Alt.l (Need.mk ?h ?_); case h => omega) | (refine Alt.r (Need.mk ?h ?_); case h => omega) | (refine Need.mk ?h ?_; case h => omega) | (refine Need.mk ?h ?_; case h => (intro _; rfl)) | (refine Need.mk ?h ?_; case h => assumption) | (refine Need.mk ?h ?_; case h => (simp <;> omega)) | (refine Ix.zero ?_) | (refine Ix.one ?_) | (refine Ix.two ?_) | (refine Ix.nat ?_) | (refine Ix.add ?_) | (apply Go.Eng.Pin.mk; apply Exists.intro) | (apply Go.Eng.Pinned.mk (Eq.refl _) (Eq.refl _)) | (apply Go.Eng.PinH.mk; apply Exists.intro; apply Exists.intro) | (exact Go.Eng.Fin0.mk) | (refine Go.Eng.Chk.mk ?_ ?_) | fail))
  (refine Br.mk (fun _ => ?_) (fun _ => ?_))
  · have hlt : i < l.length := by omega
    have bad : ((l.getD i (0, 0)).1 < 0 ∨ n ≤ (l.getD i (0, 0)).1 ∨ (l.getD i (0, 0)).2 < -1 ∨ n ≤ (l.getD i (0, 0)).2) → 2 = supE n l := fun h =>
      supE_at g1 g2 g3 hlt hb (by unfold supAt; rw [if_pos h]) (by decide)
    (repeat' ((conv => whnf); first | (refine Giv.mk (fun _ => ?_)) | (refine Alt.l (Need.mk ?h ?_); case h => omega) | (refine Alt.r (Need.mk ?h ?_); case h => omega) | (refine Need.mk ?h ?_; case h => omega) | (refine Need.mk ?h ?_; case h => (intro _; rfl)) | (refine Need.mk ?h ?_; case h => assumption) | (refine Need.mk ?h ?_; case h => (simp <;> omega)) | (refine Ix.zero ?_) | (refine Ix.one ?_) | (refine Ix.two ?_) | (refine Ix.nat ?_) | (refine Ix.add ?_) | (apply Go.Eng.Pin.mk; apply Exists.intro) | (apply Go.Eng.Pinned.mk (Eq.refl _) (Eq.refl _)) | (apply Go.Eng.PinH.mk; apply Exists.intro; apply Exists.intro) | (exact Go.Eng.Fin0.mk) | (refine Go.Eng.Chk.mk ?_ ?_) | (refine Br.mkY ?h ?_; case h => omega) | (refine Br.mkN ?h ?_; case h => omega) | (refine Br.mkY ?h ?_; case h => assumption) | (refine Br.mkN ?h ?_; case h => assumption) | (refine Br.mkN ?h ?_; case h => exact not_not_intro (by assumption)) | (refine Br.mk (fun _ => ?_) (fun _ => ?_)) | fail))
    · (conv => whnf)
      exact ⟨rfl, bad (.inl ‹_›)⟩
    · (conv => whnf)
      exact ⟨rfl, bad (.inr (.inl ‹_›))⟩
    · (conv => whnf)
      exact ⟨rfl, bad (.inr (.inr (.inl ‹_›)))⟩
    · (conv => whnf)
      exact ⟨rfl, bad (.inr (.inr (.inr ‹_›)))⟩
    · rename_i k1 k2 k3 k4 k5
      (conv => whnf)
      exact ⟨rfl, supE_at g1 g2 g3 hlt hb (by unfold supAt; rw [if_neg (by omega), if_pos k5]) (by decide)⟩
    · refine ix_at (i - 1) (by omega) ?_
      (repeat' ((conv => whnf); first | (refine Giv.mk (fun _ => ?_)) | (refine Alt.l (Need.mk ?h ?_); case h => omega) | (refine Alt.r (Need.mk ?h ?_); case h => omega) | (refine Need.mk ?h ?_; case h => omega) | (refine Need.mk ?h ?_; case h => (intro _; rfl)) | (refine Need.mk ?h ?_; case h => assumption) | (refine Need.mk ?h ?_; case h => (simp <;> omega)) | (refine Ix.zero ?_) | (refine Ix.one ?_) | (refine Ix.two ?_) | (refine Ix.nat ?_) | (refine Ix.add ?_) | (apply Go.Eng.Pin.mk; apply Exists.intro) | (apply Go.Eng.Pinned.mk (Eq.refl _) (Eq.refl _)) | (apply Go.Eng.PinH.mk; apply Exists.intro; apply Exists.intro) | (exact Go.Eng.Fin0.mk) | (refine Go.Eng.Chk.mk ?_ ?_) | (refine Br.mkY ?h ?_; case h => omega) | (refine Br.mkN ?h ?_; case h => omega) | (refine Br.mkY ?h ?_; case h => assumption) | (refine Br.mkN ?h ?_; case h => assumption) | (refine Br.mkN ?h ?_; case h => exact not_not_intro (by assumption)) | (refine Br.mk (fun _ => ?_) (fun _ => ?_)) | fail))
      refine ix_at (i - 1) (by omega) ?_
      (repeat' ((conv => whnf); first | (refine Giv.mk (fun _ => ?_)) | (refine Alt.l (Need.mk ?h ?_); case h => omega) | (refine Alt.r (Need.mk ?h ?_); case h => omega) | (refine Need.mk ?h ?_; case h => omega) | (refine Need.mk ?h ?_; case h => (intro _; rfl)) | (refine Need.mk ?h ?_; case h => assumption) | (refine Need.mk ?h ?_; case h => (simp <;> omega)) | (refine Ix.zero ?_) | (refine Ix.one ?_) | (refine Ix.two ?_) | (refine Ix.nat ?_) | (refine Ix.add ?_) | (apply Go.Eng.Pin.mk; apply Exists.intro) | (apply Go.Eng.Pinned.mk (Eq.refl _) (Eq.refl _)) | (apply Go.Eng.PinH.mk; apply Exists.intro; apply Exists.intro) | (exact Go.Eng.Fin0.mk) | (refine Go.Eng.Chk.mk ?_ ?_) | (refine Br.mkY ?h ?_; case h => omega) | (refine Br.mkN ?h ?_; case h => omega) | (refine Br.mkY ?h ?_; case h => assumption) | (refine Br.mkN ?h ?_; case h => assumption) | (refine Br.mkN ?h ?_; case h => exact not_not_intro (by assumption)) | (refine Br.mk (fun _ => ?_) (fun _ => ?_)) | fail))
      · rename_i k1 k2 k3 k4 k5 k6 a1 a2 a3 a4 q
        (conv => whnf)
        exact ⟨rfl, supE_at g1 g2 g3 hlt hb (by unfold supAt; rw [if_neg (by omega), if_neg k5, if_pos ⟨by omega, q⟩]) (by decide)⟩
      · rename_i k1 k2 k3 k4 k5 k6 a1 a2 a3 a4 q
        refine ⟨(i + 1 : Nat), by show l.length - (i + 1) < l.length - i; omega, ⟨hlt, fun j hj => ?_⟩, by (repeat' (first | exact trivial | rfl | exact Nat.one_pos | (refine And.intro ?_ ?_) | omega | ((conv => whnf); (refine And.intro ?_ ?_)) | ((conv => whnf); exact trivial)))⟩
        by_cases e : j = i
        · subst e
          unfold supAt
          rw [if_neg (by omega), if_neg k5, if_neg fun h => q h.2]
        · exact hb j (by omega)
    · rename_i k1 k2 k3 k4 k5 k6
      refine ⟨(i + 1 : Nat), by show l.length - (i + 1) < l.length - i; omega, ⟨hlt, fun j hj => ?_⟩, by (repeat' (first | exact trivial | rfl | exact Nat.one_pos | (refine And.intro ?_ ?_) | omega | ((conv => whnf); (refine And.intro ?_ ?_)) | ((conv => whnf); exact trivial)))⟩
      by_cases e : j = i
      · subst e
        unfold supAt
        rw [if_neg (by omega), if_neg k5, if_neg (by omega)]
      · exact hb j (by omega)
  · have hii : i = l.length := by omega
    subst hii
    (repeat' ((conv => whnf); first | (refine Giv.mk (fun _ => ?_)) | (refine Alt.l (Need.mk ?h ?_); case h => omega) | (refine Alt.r (Need.mk ?h ?_); case h => omega) | (refine Need.mk ?h ?_; case h => omega) | (refine Need.mk ?h ?_; case h => (intro _; rfl)) | (refine Need.mk ?h ?_; case h => assumption) | (refine Need.mk ?h ?_; case h => (simp <;> omega)) | (refine Ix.zero ?_) | (refine Ix.one ?_) | (refine Ix.two ?_) | (refine Ix.nat ?_) | (refine Ix.add ?_) | (apply Go.Eng.Pin.mk; apply Exists.intro) | (apply Go.Eng.Pinned.mk (Eq.refl _) (Eq.refl _)) | (apply Go.Eng.PinH.mk; apply Exists.intro; apply Exists.intro) | (exact Go.Eng.Fin0.mk) | (refine Go.Eng.Chk.mk ?_ ?_) | fail))
    (conv => whnf)
    exact ⟨rfl, supE_ok g1 g2 g3 hb⟩
def c43 : Con := mkCon 43 true fun args K => match args with | [.val (.int .i64 n), .seq (.pair (.int .i64) (.int .i64)) l] => K (I (supE n l)) | _ => False
theorem k43 : ConOK Try.prog c43 := by
  refine conOK_of rfl (enters_of Try.func43 (by kernel_rfl) rfl) ?_
  intro args K h
  simp only [c43] at h
  split at h
  · rename_i n l; exact ⟨_, h, tri_of_body (Γ := [c67, c68]) (by simp [k67, k68]) Try.func43 (by simp [Try.ntmps43]) rfl (b43 n l)⟩
  · exact h.elim
/-- What stands behind the check. -/
theorem supE_rests {n : Int} {l : List (Int × Int)} (h : supE n l = 0) : RestsOk n l := by
  unfold supE at h
  split at h
  · cases h
  split at h
  · cases h
  refine ⟨by omega, by omega, by omega, fun i hi => ?_⟩
  by_cases hz : ∀ j, j < l.length → supAt n l j = 0
  · have := hz i hi
    unfold supAt at this
    split at this
    · cases this
    · omega
  · exfalso
    have : ∃ j, j < l.length ∧ supAt n l j ≠ 0 ∧ ∀ m, m < j → supAt n l m = 0 := by
      rw [Classical.not_forall] at hz
      obtain ⟨j, hj⟩ := hz
      rw [Classical.not_imp] at hj
      obtain ⟨hj1, hj2⟩ := hj
      induction j using Nat.strongRecOn with
      | _ j ih =>
        by_cases hm : ∀ m, m < j → supAt n l m = 0
        · exact ⟨j, hj1, hj2, hm⟩
        · rw [Classical.not_forall] at hm
          obtain ⟨m, hm⟩ := hm
          rw [Classical.not_imp] at hm
          exact ih m hm.1 (by omega) hm.2
    obtain ⟨j, h1, h2, h3⟩ := this
    rw [firstE_some h1 h2 h3] at h
    exact h2 h
end EB
