import Derived.Test.YtpmbhgmifiianaaE9
import Derived.Test.YtpmbhgmifiianaaMapL
open Go Go.Proofs Go.Eng Go.Shelf
set_option linter.unusedVariables false
namespace EB
set_option maxRecDepth 10000
theorem pair_ext {xs ys : List (Int × Int)} (h : xs.length = ys.length) (hg : ∀ p, p < xs.length → xs.getD p (0, 0) = ys.getD p (0, 0)) : xs = ys := by
  apply List.ext_getElem h
  intro i h1 h2
  have := hg i h1
  simpa [List.getD_eq_getElem?_getD, h1, h2] using this
/-! ### slices.Equal of steps -/
theorem b38 (xs ys : List (Int × Int)) : body Try.prog [] { loops := [(0, { X := Nat, pre := fun i => i ≤ xs.length ∧ ∀ j, j < i → xs.getD j (0, 0) = ys.getD j (0, 0), mod := fun i _ => [(13, I i)], mu := fun i => xs.length - i })] } true Try.f38 [Ps xs, Ps ys] (.bl (xs = ys) inferInstance) := by
  (repeat' ((conv => whnf); first | (refine Giv.mk (fun _ => ?_)) | (refine Alt.l (Need.mk ?h ?_); case h => omega) | (refine Alt.r (Need.mk ?h ?_); case h => omega) | (refine Need.mk ?h ?_; case h => omega) | (refine Need.mk ?h ?_; case h => (intro _; rfl)) | (refine Need.mk ?h ?_; case h => assumption) | (refine Need.mk ?h ?_; case h => (simp <;> omega)) | (refine Ix.zero ?_) | (refine Ix.one ?_) | (refine Ix.two ?_) | (refine Ix.nat ?_) | (refine Ix.add ?_) | (apply Go.Eng.Pin.mk; apply Exists.intro) | (apply Go.Eng.Pinned.mk (Eq.refl _) (Eq.refl _)) | (apply Go.Eng.PinH.mk; apply Exists.intro; apply Exists.intro) | (exact Go.Eng.Fin0.mk) | (refine Go.Eng.Chk.mk ?_ ?_) | fail))
  (refine Br.mk (fun _ => ?_) (fun _ => ?_))
  · rename_i h
    (conv => whnf)
    exact fun e => h (by rw [e])
  · rename_i hl
    (repeat' ((conv => whnf); first | (refine Giv.mk (fun _ => ?_)) | (refine Alt.l (Need.mk ?h ?_); case h => omega) | (refine Alt.r (Need.mk ?h ?_); case h => omega) | (refine Need.mk ?h ?_; case h => omega) | (refine Need.mk ?h ?_; case h => (intro _; rfl)) | (refine Need.mk ?h ?_; case h => assumption) | (refine Need.mk ?h ?_; case h => (simp <;> omega)) | (refine Ix.zero ?_) | (refine Ix.one ?_) | (refine Ix.two ?_) | (refine Ix.nat ?_) | (refine Ix.add ?_) | (apply Go.Eng.Pin.mk; apply Exists.intro) | (apply Go.Eng.Pinned.mk (Eq.refl _) (Eq.refl _)) | (apply Go.Eng.PinH.mk; apply Exists.intro; apply Exists.intro) | (exact Go.Eng.Fin0.mk) | (refine Go.Eng.Chk.mk ?_ ?_) | fail))
    refine ⟨⟨(0 : Nat), ⟨Nat.zero_le _, fun j hj => absurd hj (Nat.not_lt_zero _)⟩, by (repeat' (first | exact trivial | rfl | exact Nat.one_pos | (refine And.intro ?_ ?_) | omega | ((conv => whnf); (refine And.intro ?_ ?_)) | ((conv => whnf); exact trivial)))⟩, fun (i : Nat) hi => ?_⟩
    obtain ⟨hi, hb⟩ := hi
    (repeat' ((conv => whnf); first | (refine Giv.mk (fun _ => ?_)) | (refine Alt.l (Need.mk ?h ?_); case h => omega) | (refine Alt.r (Need.mk ?h ?_); case h => omega) | (refine Need.mk ?h ?_; case h => omega) | (refine Need.mk ?h ?_; case h => (intro _; rfl)) | (refine Need.mk ?h ?_; case h => assumption) | (refine Need.mk ?h ?_; case h => (simp <;> omega)) | (refine Ix.zero ?_) | (refine Ix.one ?_) | (refine Ix.two ?_) | (refine Ix.nat ?_) | (refine Ix.add ?_) | (apply Go.Eng.Pin.mk; apply Exists.intro) | (apply Go.Eng.Pinned.mk (Eq.refl _) (Eq.refl _)) | (apply Go.Eng.PinH.mk; apply Exists.intro; apply Exists.intro) | (exact Go.Eng.Fin0.mk) | (refine Go.Eng.Chk.mk ?_ ?_) | fail))
    (refine Br.mk (fun _ => ?_) (fun _ => ?_))
    · have hlt : i < xs.length := by omega
      have hlt2 : i < ys.length := by omega
      (repeat' ((conv => whnf); first | (refine Giv.mk (fun _ => ?_)) | (refine Alt.l (Need.mk ?h ?_); case h => omega) | (refine Alt.r (Need.mk ?h ?_); case h => omega) | (refine Need.mk ?h ?_; case h => omega) | (refine Need.mk ?h ?_; case h => (intro _; rfl)) | (refine Need.mk ?h ?_; case h => assumption) | (refine Need.mk ?h ?_; case h => (simp <;> omega)) | (refine Ix.zero ?_) | (refine Ix.one ?_) | (refine Ix.two ?_) | (refine Ix.nat ?_) | (refine Ix.add ?_) | (apply Go.Eng.Pin.mk; apply Exists.intro) | (apply Go.Eng.Pinned.mk (Eq.refl _) (Eq.refl _)) | (apply Go.Eng.PinH.mk; apply Exists.intro; apply Exists.intro) | (exact Go.Eng.Fin0.mk) | (refine Go.Eng.Chk.mk ?_ ?_) | fail))
      (refine Br.mk (fun _ => ?_) (fun _ => ?_))
      · rename_i hne
        (repeat' ((conv => whnf); first | (refine Giv.mk (fun _ => ?_)) | (refine Alt.l (Need.mk ?h ?_); case h => omega) | (refine Alt.r (Need.mk ?h ?_); case h => omega) | (refine Need.mk ?h ?_; case h => omega) | (refine Need.mk ?h ?_; case h => (intro _; rfl)) | (refine Need.mk ?h ?_; case h => assumption) | (refine Need.mk ?h ?_; case h => (simp <;> omega)) | (refine Ix.zero ?_) | (refine Ix.one ?_) | (refine Ix.two ?_) | (refine Ix.nat ?_) | (refine Ix.add ?_) | (apply Go.Eng.Pin.mk; apply Exists.intro) | (apply Go.Eng.Pinned.mk (Eq.refl _) (Eq.refl _)) | (apply Go.Eng.PinH.mk; apply Exists.intro; apply Exists.intro) | (exact Go.Eng.Fin0.mk) | (refine Go.Eng.Chk.mk ?_ ?_) | fail))
        (conv => whnf)
        exact fun e => hne (by rw [e]; exact ⟨rfl, rfl⟩)
      · rename_i hne
        have hne := Classical.not_not.1 hne
        (repeat' ((conv => whnf); first | (refine Giv.mk (fun _ => ?_)) | (refine Alt.l (Need.mk ?h ?_); case h => omega) | (refine Alt.r (Need.mk ?h ?_); case h => omega) | (refine Need.mk ?h ?_; case h => omega) | (refine Need.mk ?h ?_; case h => (intro _; rfl)) | (refine Need.mk ?h ?_; case h => assumption) | (refine Need.mk ?h ?_; case h => (simp <;> omega)) | (refine Ix.zero ?_) | (refine Ix.one ?_) | (refine Ix.two ?_) | (refine Ix.nat ?_) | (refine Ix.add ?_) | (apply Go.Eng.Pin.mk; apply Exists.intro) | (apply Go.Eng.Pinned.mk (Eq.refl _) (Eq.refl _)) | (apply Go.Eng.PinH.mk; apply Exists.intro; apply Exists.intro) | (exact Go.Eng.Fin0.mk) | (refine Go.Eng.Chk.mk ?_ ?_) | fail))
        refine ⟨(i + 1 : Nat), by show xs.length - (i + 1) < xs.length - i; omega, ⟨hlt, fun j hj => ?_⟩, by (repeat' (first | exact trivial | rfl | exact Nat.one_pos | (refine And.intro ?_ ?_) | omega | ((conv => whnf); (refine And.intro ?_ ?_)) | ((conv => whnf); exact trivial)))⟩
        by_cases e : j = i
        · subst e; exact Prod.ext hne.1 hne.2
        · exact hb j (by omega)
    · have hii : i = xs.length := by omega
      subst hii
      (conv => whnf)
      exact pair_ext (by omega) hb
/-! ### erect.check -/
def chkAt (n : Int) (S : List (Int × Int)) (k : Nat) : Int :=
  if (S.getD k (0, 0)).1 < 1 ∨ 3 < (S.getD k (0, 0)).1 then 8
  else if (S.getD k (0, 0)).2 < 0 ∨ (0 ≤ n ∧ n ≤ (S.getD k (0, 0)).2) then 2 else 0
def chkE (n : Int) (S : List (Int × Int)) : Int := if 4096 < S.length then 4 else firstE (chkAt n S) S.length
theorem chkE_at {n : Int} {S : List (Int × Int)} (h3 : ¬ 4096 < (S.length : Int)) {i : Nat} (hi : i < S.length) (hb : ∀ j, j < i → chkAt n S j = 0) {v : Int} (hv : chkAt n S i = v) (h0 : v ≠ 0) : v = chkE n S := by
  unfold chkE; rw [if_neg (by omega), firstE_some hi (by rw [hv]; exact h0) hb, hv]
theorem b51 (n : Int) (S : List (Int × Int)) : body Try.prog [] { loops := [(0, { X := Nat, pre := fun i => i ≤ S.length ∧ ∀ j, j < i → chkAt n S j = 0, mod := fun i _ => [(12, I i)], mu := fun i => S.length - i })] } true Try.f51 [I n, Ps S] (I (chkE n S)) := by
  (repeat' ((conv => whnf); first | (refine Giv.mk (fun _ => ?_)) | (refine Alt.l (Need.mk ?h ?_); case h => omega) | (refine Alt.r (Need.mk ?h ?_); case h => omega) | (refine Need.mk ?h ?_; case h => omega) | (refine Need.mk ?h ?_; case h => (intro _; rfl)) | (refine Need.mk ?h ?_; case h => assumption) | (refine Need.mk ?h ?_; case h => (simp <;> omega)) | (refine Ix.zero ?_) | (refine Ix.one ?_) | (refine Ix.two ?_) | (refine Ix.nat ?_) | (refine Ix.add ?_) | (apply Go.Eng.Pin.mk; apply Exists.intro) | (apply Go.Eng.Pinned.mk (Eq.refl _) (Eq.refl _)) | (apply Go.Eng.PinH.mk; apply Exists.intro; apply Exists.intro) | (exact Go.Eng.Fin0.mk) | (refine Go.Eng.Chk.mk ?_ ?_) | fail))
  (refine Br.mk (fun _ => ?_) (fun _ => ?_))
  · rename_i h
    (repeat' ((conv => whnf); first | (refine Giv.mk (fun _ => ?_)) | (refine Alt.l (Need.mk ?h ?_); case h => omega) | (refine Alt.r (Need.mk ?h ?_); case h => omega) | (refine Need.mk ?h ?_; case h => omega) | (refine Need.mk ?h ?_; case h => (intro _; rfl)) | (refine Need.mk ?h ?_; case h => assumption) | (refine Need.mk ?h ?_; case h => (simp <;> omega)) | (refine Ix.zero ?_) | (refine Ix.one ?_) | (refine Ix.two ?_) | (refine Ix.nat ?_) | (refine Ix.add ?_) | (apply Go.Eng.Pin.mk; apply Exists.intro) | (apply Go.Eng.Pinned.mk (Eq.refl _) (Eq.refl _)) | (apply Go.Eng.PinH.mk; apply Exists.intro; apply Exists.intro) | (exact Go.Eng.Fin0.mk) | (refine Go.Eng.Chk.mk ?_ ?_) | fail))
    (conv => whnf)
    exact ⟨rfl, by unfold chkE; rw [if_pos (by omega)]⟩
  rename_i g3
  (repeat' ((conv => whnf); first | (refine Giv.mk (fun _ => ?_)) | (refine Alt.l (Need.mk ?h ?_); case h => omega) | (refine Alt.r (Need.mk ?h ?_); case h => omega) | (refine Need.mk ?h ?_; case h => omega) | (refine Need.mk ?h ?_; case h => (intro _; rfl)) | (refine Need.mk ?h ?_; case h => assumption) | (refine Need.mk ?h ?_; case h => (simp <;> omega)) | (refine Ix.zero ?_) | (refine Ix.one ?_) | (refine Ix.two ?_) | (refine Ix.nat ?_) | (refine Ix.add ?_) | (apply Go.Eng.Pin.mk; apply Exists.intro) | (apply Go.Eng.Pinned.mk (Eq.refl _) (Eq.refl _)) | (apply Go.Eng.PinH.mk; apply Exists.intro; apply Exists.intro) | (exact Go.Eng.Fin0.mk) | (refine Go.Eng.Chk.mk ?_ ?_) | fail))
  refine ⟨⟨(0 : Nat), ⟨Nat.zero_le _, fun j hj => absurd hj (Nat.not_lt_zero _)⟩, by (repeat' (first | exact trivial | rfl | exact Nat.one_pos | (refine And.intro ?_ ?_) | omega | ((conv => whnf); (refine And.intro ?_ ?_)) | ((conv => whnf); exact trivial)))⟩, fun (i : Nat) hi => ?_⟩
  obtain ⟨hi, hb⟩ := hi
  (repeat' ((conv => whnf); first | (refine Giv.mk (fun _ => ?_)) | (refine Alt.l (Need.mk ?h ?_); case h => omega) | (refine Alt.r (Need.mk ?h ?_); case h => omega) | (refine Need.mk ?h ?_; case h => omega) | (refine Need.mk ?h ?_; case h => (intro _; rfl)) | (refine Need.mk ?h ?_; case h => assumption) | (refine Need.mk ?h ?_; case h => (simp <;> omega)) | (refine Ix.zero ?_) | (refine Ix.one ?_) | (refine Ix.two ?_) | (refine Ix.nat ?_) | (refine Ix.add ?_) | (apply Go.Eng.Pin.mk; apply Exists.intro) | (apply Go.Eng.Pinned.mk (Eq.refl _) (Eq.refl _)) | (apply Go.Eng.PinH.mk; apply Exists.intro; apply Exists.intro) | (exact Go.Eng.Fin0.mk) | (refine Go.Eng.Chk.mk ?_ ?_) | fail))
  (refine Br.mk (fun _ => ?_) (fun _ => ?_))
  · have hlt : i < S.length := by omega
    have e8 : ((S.getD i (0, 0)).1 < 1 ∨ 3 < (S.getD i (0, 0)).1) → 8 = chkE n S := fun h => chkE_at g3 hlt hb (by unfold chkAt; rw [if_pos h]) (by decide)
    have e2 : ¬ ((S.getD i (0, 0)).1 < 1 ∨ 3 < (S.getD i (0, 0)).1) → ((S.getD i (0, 0)).2 < 0 ∨ (0 ≤ n ∧ n ≤ (S.getD i (0, 0)).2)) → 2 = chkE n S := fun h h2 => chkE_at g3 hlt hb (by unfold chkAt; rw [if_neg h, if_pos h2]) (by decide)
    have e0 : ¬ ((S.getD i (0, 0)).1 < 1 ∨ 3 < (S.getD i (0, 0)).1) → ¬ ((S.getD i (0, 0)).2 < 0 ∨ (0 ≤ n ∧ n ≤ (S.getD i (0, 0)).2)) → ∀ j, j < i + 1 → chkAt n S j = 0 := fun h h2 j hj => by
      by_cases e : j = i
      · subst e; unfold chkAt; rw [if_neg h, if_neg h2]
      · exact hb j (by omega)
    (repeat' ((conv => whnf); first | (refine Giv.mk (fun _ => ?_)) | (refine Alt.l (Need.mk ?h ?_); case h => omega) | (refine Alt.r (Need.mk ?h ?_); case h => omega) | (refine Need.mk ?h ?_; case h => omega) | (refine Need.mk ?h ?_; case h => (intro _; rfl)) | (refine Need.mk ?h ?_; case h => assumption) | (refine Need.mk ?h ?_; case h => (simp <;> omega)) | (refine Ix.zero ?_) | (refine Ix.one ?_) | (refine Ix.two ?_) | (refine Ix.nat ?_) | (refine Ix.add ?_) | (apply Go.Eng.Pin.mk; apply Exists.intro) | (apply Go.Eng.Pinned.mk (Eq.refl _) (Eq.refl _)) | (apply Go.Eng.PinH.mk; apply Exists.intro; apply Exists.intro) | (exact Go.Eng.Fin0.mk) | (refine Go.Eng.Chk.mk ?_ ?_) | (refine Br.mkY ?h ?_; case h => omega) | (refine Br.mkN ?h ?_; case h => omega) | (refine Br.mkY ?h ?_; case h => assumption) | (refine Br.mkN ?h ?_; case h => assumption) | (refine Br.mkN ?h ?_; case h => exact not_not_intro (by assumption)) | (refine Br.mk (fun _ => ?_) (fun _ => ?_)) | fail))
    · (conv => whnf)
      exact ⟨rfl, e8 (.inl ‹_›)⟩
    · (conv => whnf)
      exact ⟨rfl, e8 (.inr ‹_›)⟩
    · (conv => whnf)
      exact ⟨rfl, e2 (by omega) (.inl ‹_›)⟩
    · (conv => whnf)
      exact ⟨rfl, e2 (by omega) (.inr ⟨‹_›, ‹_›⟩)⟩
    · refine ⟨(i + 1 : Nat), by show S.length - (i + 1) < S.length - i; omega, ⟨hlt, e0 (by omega) (by omega)⟩, by (repeat' (first | exact trivial | rfl | exact Nat.one_pos | (refine And.intro ?_ ?_) | omega | ((conv => whnf); (refine And.intro ?_ ?_)) | ((conv => whnf); exact trivial)))⟩
    · refine ⟨(i + 1 : Nat), by show S.length - (i + 1) < S.length - i; omega, ⟨hlt, e0 (by omega) (by omega)⟩, by (repeat' (first | exact trivial | rfl | exact Nat.one_pos | (refine And.intro ?_ ?_) | omega | ((conv => whnf); (refine And.intro ?_ ?_)) | ((conv => whnf); exact trivial)))⟩
  · have hii : i = S.length := by omega
    subst hii
    (conv => whnf)
    exact ⟨rfl, by unfold chkE; rw [if_neg (by omega), firstE_none hb]⟩
def c38 : Con := mkCon 38 true fun args K => match args with | [.seq (.pair (.int .i64) (.int .i64)) xs, .seq (.pair (.int .i64) (.int .i64)) ys] => K (.bl (xs = ys) inferInstance) | _ => False
theorem k38 : ConOK Try.prog c38 := by
  refine conOK_of rfl (enters_of Try.func38 (by kernel_rfl) rfl) ?_
  intro args K h
  simp only [c38] at h
  split at h
  · rename_i xs ys; exact ⟨_, h, tri_of_body (Γ := []) (by simp) Try.func38 (by simp [Try.ntmps38]) rfl (b38 xs ys)⟩
  · exact h.elim
def c51 : Con := mkCon 51 true fun args K => match args with | [.val (.int .i64 n), .seq (.pair (.int .i64) (.int .i64)) S] => K (I (chkE n S)) | _ => False
theorem k51 : ConOK Try.prog c51 := by
  refine conOK_of rfl (enters_of Try.func51 (by kernel_rfl) rfl) ?_
  intro args K h
  simp only [c51] at h
  split at h
  · rename_i n S; exact ⟨_, h, tri_of_body (Γ := []) (by simp) Try.func51 (by simp [Try.ntmps51]) rfl (b51 n S)⟩
  · exact h.elim
/-! ### erect.Props -/
/-- The walk through steps: the props that stand, the most at one time, the fault. -/
structure PS where
  m : MapS Bool
  most : Int
  err : Int
def propStep (S : List (Int × Int)) (s : PS) (i : Nat) : PS :=
  if s.err ≠ 0 then s
  else if (S.getD i (0, 0)).1 = 2 then
    if (s.m.get (S.getD i (0, 0)).2).getD false = true then ⟨s.m, 0, 7⟩
    else ⟨s.m.put (S.getD i (0, 0)).2 true, max s.most ((s.m.put (S.getD i (0, 0)).2 true).es.length : Nat), 0⟩
  else if (S.getD i (0, 0)).1 = 3 then
    if (s.m.get (S.getD i (0, 0)).2).getD false = true then ⟨s.m.del (S.getD i (0, 0)).2, s.most, 0⟩
    else ⟨s.m, 0, 6⟩
  else s
def propAt (S : List (Int × Int)) (i : Nat) : PS := (List.range i).foldl (propStep S) ⟨.new, 0, 0⟩
theorem propAt_succ (S : List (Int × Int)) (i : Nat) : propAt S (i + 1) = propStep S (propAt S i) i := by
  unfold propAt; rw [List.range_succ, List.foldl_append]; rfl
theorem propAt_stay {S : List (Int × Int)} {i : Nat} (h : (propAt S i).err ≠ 0) : ∀ j, propAt S (i + j) = propAt S i
  | 0 => rfl
  | j + 1 => by rw [← Nat.add_assoc, propAt_succ, propAt_stay h j]; unfold propStep; rw [if_pos h]
theorem put_len (m : MapS Bool) (n : Int) (x : Bool) : (m.put n x).es.length ≤ m.es.length + 1 := by
  rw [MapS.length_put]; split <;> omega
def propsE (S : List (Int × Int)) : Int := if ¬ chkE (-1) S = 0 then chkE (-1) S else (propAt S S.length).err
def propsN (S : List (Int × Int)) : Int := if ¬ propsE S = 0 then 0 else (propAt S S.length).most
theorem props_bad {S : List (Int × Int)} (hc : ¬¬ chkE (-1) S = 0) {i : Nat} (hi : i < S.length) {e : Int} (he : (propAt S (i + 1)).err = e) (h0 : e ≠ 0) : propsN S = 0 ∧ propsE S = e := by
  obtain ⟨j, hj⟩ := Nat.exists_eq_add_of_le (show i + 1 ≤ S.length from hi)
  have h1 : (propAt S S.length).err = e := by rw [hj, propAt_stay (by rw [he]; exact h0), he]
  have h2 : propsE S = e := by unfold propsE; rw [if_neg hc, h1]
  exact ⟨by unfold propsN; rw [if_pos (by rw [h2]; exact h0)], h2⟩
theorem chkE_len {n : Int} {S : List (Int × Int)} (h : chkE n S = 0) : S.length ≤ 4096 := by
  unfold chkE at h
  split at h
  · cases h
  · omega
theorem del_len {m : MapS Bool} {n : Int} (h : (m.get n).getD false = true) : (m.del n).es.length ≤ m.es.length := by
  have := MapS.length_del (m := m) (n := n) (by cases hg : m.get n with
    | none => rw [hg] at h; cases h
    | some _ => rfl)
  omega
theorem prop_max {a b i : Nat} {c : Int} (hm : a ≤ i) (h0 : 0 ≤ c) (h1 : c ≤ i) (hp : b ≤ a + 1) : 0 ≤ max c (b : Int) := by omega
theorem prop_max2 {a b i : Nat} {c : Int} (hm : a ≤ i) (h0 : 0 ≤ c) (h1 : c ≤ i) (hp : b ≤ a + 1) : max c (b : Int) ≤ ((i + 1 : Nat) : Int) := by omega
theorem b22 (S : List (Int × Int)) : body Try.prog [c51] { asks := [(0, [])] } true Try.f22 [Ps S] (.tup [I (propsN S), I (propsE S)]) := by
  (repeat' ((conv => whnf); first | (refine Giv.mk (fun _ => ?_)) | (refine Alt.l (Need.mk ?h ?_); case h => omega) | (refine Alt.r (Need.mk ?h ?_); case h => omega) | (refine Need.mk ?h ?_; case h => omega) | (refine Need.mk ?h ?_; case h => (intro _; rfl)) | (refine Need.mk ?h ?_; case h => assumption) | (refine Need.mk ?h ?_; case h => (simp <;> omega)) | (refine Ix.zero ?_) | (refine Ix.one ?_) | (refine Ix.two ?_) | (refine Ix.nat ?_) | (refine Ix.add ?_) | (apply Go.Eng.Pin.mk; apply Exists.intro) | (apply Go.Eng.Pinned.mk (Eq.refl _) (Eq.refl _)) | (apply Go.Eng.PinH.mk; apply Exists.intro; apply Exists.intro) | (exact Go.Eng.Fin0.mk) | (refine Go.Eng.Chk.mk ?_ ?_) | fail))
  (refine Br.mk (fun _ => ?_) (fun _ => ?_))
  · rename_i h
    have h1 : propsE S = chkE (-1) S := by unfold propsE; rw [if_pos h]
    have h2 : propsN S = 0 := by unfold propsN; rw [if_pos (by rw [h1]; exact h)]
    (repeat' ((conv => whnf); first | (refine Giv.mk (fun _ => ?_)) | (refine Alt.l (Need.mk ?h ?_); case h => omega) | (refine Alt.r (Need.mk ?h ?_); case h => omega) | (refine Need.mk ?h ?_; case h => omega) | (refine Need.mk ?h ?_; case h => (intro _; rfl)) | (refine Need.mk ?h ?_; case h => assumption) | (refine Need.mk ?h ?_; case h => (simp <;> omega)) | (refine Ix.zero ?_) | (refine Ix.one ?_) | (refine Ix.two ?_) | (refine Ix.nat ?_) | (refine Ix.add ?_) | (apply Go.Eng.Pin.mk; apply Exists.intro) | (apply Go.Eng.Pinned.mk (Eq.refl _) (Eq.refl _)) | (apply Go.Eng.PinH.mk; apply Exists.intro; apply Exists.intro) | (exact Go.Eng.Fin0.mk) | (refine Go.Eng.Chk.mk ?_ ?_) | fail))
    (conv => whnf)
    exact ⟨⟨rfl, h2.symm⟩, ⟨rfl, h1.symm⟩, trivial⟩
  · rename_i hc
    have hsl := chkE_len (Classical.not_not.1 hc)
    (repeat' ((conv => whnf); first | (refine Giv.mk (fun _ => ?_)) | (refine Alt.l (Need.mk ?h ?_); case h => omega) | (refine Alt.r (Need.mk ?h ?_); case h => omega) | (refine Need.mk ?h ?_; case h => omega) | (refine Need.mk ?h ?_; case h => (intro _; rfl)) | (refine Need.mk ?h ?_; case h => assumption) | (refine Need.mk ?h ?_; case h => (simp <;> omega)) | (refine Ix.zero ?_) | (refine Ix.one ?_) | (refine Ix.two ?_) | (refine Ix.nat ?_) | (refine Ix.add ?_) | (apply Go.Eng.Pin.mk; apply Exists.intro) | (apply Go.Eng.Pinned.mk (Eq.refl _) (Eq.refl _)) | (apply Go.Eng.PinH.mk; apply Exists.intro; apply Exists.intro) | (exact Go.Eng.Fin0.mk) | (refine Go.Eng.Chk.mk ?_ ?_) | fail))
    refine Ask.mk ⟨{ X := Nat, pre := fun i => i ≤ S.length ∧ (propAt S i).err = 0 ∧ (propAt S i).m.es.length ≤ i ∧ 0 ≤ (propAt S i).most ∧ (propAt S i).most ≤ i, mod := fun i _ => [(6, I (propAt S i).most), (17, I i)], heap := fun i _ => [.map .i64 .bool (propAt S i).m], mu := fun i => S.length - i }, rfl, ?_⟩
    (repeat' ((conv => whnf); first | (refine Giv.mk (fun _ => ?_)) | (refine Alt.l (Need.mk ?h ?_); case h => omega) | (refine Alt.r (Need.mk ?h ?_); case h => omega) | (refine Need.mk ?h ?_; case h => omega) | (refine Need.mk ?h ?_; case h => (intro _; rfl)) | (refine Need.mk ?h ?_; case h => assumption) | (refine Need.mk ?h ?_; case h => (simp <;> omega)) | (refine Ix.zero ?_) | (refine Ix.one ?_) | (refine Ix.two ?_) | (refine Ix.nat ?_) | (refine Ix.add ?_) | (apply Go.Eng.Pin.mk; apply Exists.intro) | (apply Go.Eng.Pinned.mk (Eq.refl _) (Eq.refl _)) | (apply Go.Eng.PinH.mk; apply Exists.intro; apply Exists.intro) | (exact Go.Eng.Fin0.mk) | (refine Go.Eng.Chk.mk ?_ ?_) | fail))
    refine ⟨⟨(0 : Nat), ⟨Nat.zero_le _, rfl, Nat.le_refl _, Int.le_refl _, Int.le_refl _⟩, ?_⟩, fun (i : Nat) hi => ?_⟩
    · (repeat' (first | exact trivial | rfl | exact Nat.one_pos | (refine And.intro ?_ ?_) | omega | ((conv => whnf); (refine And.intro ?_ ?_)) | ((conv => whnf); exact trivial)))
    · obtain ⟨hi, he, hm, hm0, hm1⟩ := hi
      have hst := propAt_succ S i
      unfold propStep at hst
      rw [if_neg (by rw [he]; simp)] at hst
      have hpl := put_len (propAt S i).m (S.getD i (0, 0)).2 true
      (repeat' ((conv => whnf); first | (refine Giv.mk (fun _ => ?_)) | (refine Alt.l (Need.mk ?h ?_); case h => omega) | (refine Alt.r (Need.mk ?h ?_); case h => omega) | (refine Need.mk ?h ?_; case h => omega) | (refine Need.mk ?h ?_; case h => (intro _; rfl)) | (refine Need.mk ?h ?_; case h => assumption) | (refine Need.mk ?h ?_; case h => (simp <;> omega)) | (refine Ix.zero ?_) | (refine Ix.one ?_) | (refine Ix.two ?_) | (refine Ix.nat ?_) | (refine Ix.add ?_) | (apply Go.Eng.Pin.mk; apply Exists.intro) | (apply Go.Eng.Pinned.mk (Eq.refl _) (Eq.refl _)) | (apply Go.Eng.PinH.mk; apply Exists.intro; apply Exists.intro) | (exact Go.Eng.Fin0.mk) | (refine Go.Eng.Chk.mk ?_ ?_) | fail))
      (refine Br.mk (fun _ => ?_) (fun _ => ?_))
      · have hlt : i < S.length := by omega
        (repeat' ((conv => whnf); first | (refine Giv.mk (fun _ => ?_)) | (refine Alt.l (Need.mk ?h ?_); case h => omega) | (refine Alt.r (Need.mk ?h ?_); case h => omega) | (refine Need.mk ?h ?_; case h => omega) | (refine Need.mk ?h ?_; case h => (intro _; rfl)) | (refine Need.mk ?h ?_; case h => assumption) | (refine Need.mk ?h ?_; case h => (simp <;> omega)) | (refine Ix.zero ?_) | (refine Ix.one ?_) | (refine Ix.two ?_) | (refine Ix.nat ?_) | (refine Ix.add ?_) | (apply Go.Eng.Pin.mk; apply Exists.intro) | (apply Go.Eng.Pinned.mk (Eq.refl _) (Eq.refl _)) | (apply Go.Eng.PinH.mk; apply Exists.intro; apply Exists.intro) | (exact Go.Eng.Fin0.mk) | (refine Go.Eng.Chk.mk ?_ ?_) | fail))
        (refine Br.mk (fun _ => ?_) (fun _ => ?_))
        · rename_i h2
          rw [if_pos h2] at hst
          (repeat' ((conv => whnf); first | (refine Giv.mk (fun _ => ?_)) | (refine Alt.l (Need.mk ?h ?_); case h => omega) | (refine Alt.r (Need.mk ?h ?_); case h => omega) | (refine Need.mk ?h ?_; case h => omega) | (refine Need.mk ?h ?_; case h => (intro _; rfl)) | (refine Need.mk ?h ?_; case h => assumption) | (refine Need.mk ?h ?_; case h => (simp <;> omega)) | (refine Ix.zero ?_) | (refine Ix.one ?_) | (refine Ix.two ?_) | (refine Ix.nat ?_) | (refine Ix.add ?_) | (apply Go.Eng.Pin.mk; apply Exists.intro) | (apply Go.Eng.Pinned.mk (Eq.refl _) (Eq.refl _)) | (apply Go.Eng.PinH.mk; apply Exists.intro; apply Exists.intro) | (exact Go.Eng.Fin0.mk) | (refine Go.Eng.Chk.mk ?_ ?_) | fail))
          (refine Br.mk (fun _ => ?_) (fun _ => ?_))
          · rename_i h3
            rw [if_pos h3] at hst
            have hb := props_bad (e := 7) hc hlt (by rw [hst]) (by decide)
            (repeat' ((conv => whnf); first | (refine Giv.mk (fun _ => ?_)) | (refine Alt.l (Need.mk ?h ?_); case h => omega) | (refine Alt.r (Need.mk ?h ?_); case h => omega) | (refine Need.mk ?h ?_; case h => omega) | (refine Need.mk ?h ?_; case h => (intro _; rfl)) | (refine Need.mk ?h ?_; case h => assumption) | (refine Need.mk ?h ?_; case h => (simp <;> omega)) | (refine Ix.zero ?_) | (refine Ix.one ?_) | (refine Ix.two ?_) | (refine Ix.nat ?_) | (refine Ix.add ?_) | (apply Go.Eng.Pin.mk; apply Exists.intro) | (apply Go.Eng.Pinned.mk (Eq.refl _) (Eq.refl _)) | (apply Go.Eng.PinH.mk; apply Exists.intro; apply Exists.intro) | (exact Go.Eng.Fin0.mk) | (refine Go.Eng.Chk.mk ?_ ?_) | fail))
            (conv => whnf)
            exact ⟨⟨rfl, hb.1.symm⟩, ⟨rfl, hb.2.symm⟩, trivial⟩
          · rename_i h3
            rw [if_neg h3] at hst
            (repeat' ((conv => whnf); first | (refine Giv.mk (fun _ => ?_)) | (refine Alt.l (Need.mk ?h ?_); case h => omega) | (refine Alt.r (Need.mk ?h ?_); case h => omega) | (refine Need.mk ?h ?_; case h => omega) | (refine Need.mk ?h ?_; case h => (intro _; rfl)) | (refine Need.mk ?h ?_; case h => assumption) | (refine Need.mk ?h ?_; case h => (simp <;> omega)) | (refine Ix.zero ?_) | (refine Ix.one ?_) | (refine Ix.two ?_) | (refine Ix.nat ?_) | (refine Ix.add ?_) | (apply Go.Eng.Pin.mk; apply Exists.intro) | (apply Go.Eng.Pinned.mk (Eq.refl _) (Eq.refl _)) | (apply Go.Eng.PinH.mk; apply Exists.intro; apply Exists.intro) | (exact Go.Eng.Fin0.mk) | (refine Go.Eng.Chk.mk ?_ ?_) | fail))
            refine ⟨(i + 1 : Nat), by show S.length - (i + 1) < S.length - i; omega, ⟨hlt, by rw [hst], by rw [hst]; show ((propAt S i).m.put (S.getD i (0, 0)).2 true).es.length ≤ i + 1; omega, by rw [hst]; exact prop_max hm hm0 hm1 hpl, by rw [hst]; exact prop_max2 hm hm0 hm1 hpl⟩, ?_⟩
            (repeat' (first | exact trivial | rfl | exact Nat.one_pos | (refine And.intro ?_ ?_) | ((conv => whnf); (refine And.intro ?_ ?_)) | ((conv => whnf); exact trivial)))
            · rw [hst]
            · exact (congrArg PS.m hst).symm
        · rename_i h2
          rw [if_neg h2] at hst
          (repeat' ((conv => whnf); first | (refine Giv.mk (fun _ => ?_)) | (refine Alt.l (Need.mk ?h ?_); case h => omega) | (refine Alt.r (Need.mk ?h ?_); case h => omega) | (refine Need.mk ?h ?_; case h => omega) | (refine Need.mk ?h ?_; case h => (intro _; rfl)) | (refine Need.mk ?h ?_; case h => assumption) | (refine Need.mk ?h ?_; case h => (simp <;> omega)) | (refine Ix.zero ?_) | (refine Ix.one ?_) | (refine Ix.two ?_) | (refine Ix.nat ?_) | (refine Ix.add ?_) | (apply Go.Eng.Pin.mk; apply Exists.intro) | (apply Go.Eng.Pinned.mk (Eq.refl _) (Eq.refl _)) | (apply Go.Eng.PinH.mk; apply Exists.intro; apply Exists.intro) | (exact Go.Eng.Fin0.mk) | (refine Go.Eng.Chk.mk ?_ ?_) | fail))
          (refine Br.mk (fun _ => ?_) (fun _ => ?_))
          · rename_i h3
            rw [if_pos h3] at hst
            (repeat' ((conv => whnf); first | (refine Giv.mk (fun _ => ?_)) | (refine Alt.l (Need.mk ?h ?_); case h => omega) | (refine Alt.r (Need.mk ?h ?_); case h => omega) | (refine Need.mk ?h ?_; case h => omega) | (refine Need.mk ?h ?_; case h => (intro _; rfl)) | (refine Need.mk ?h ?_; case h => assumption) | (refine Need.mk ?h ?_; case h => (simp <;> omega)) | (refine Ix.zero ?_) | (refine Ix.one ?_) | (refine Ix.two ?_) | (refine Ix.nat ?_) | (refine Ix.add ?_) | (apply Go.Eng.Pin.mk; apply Exists.intro) | (apply Go.Eng.Pinned.mk (Eq.refl _) (Eq.refl _)) | (apply Go.Eng.PinH.mk; apply Exists.intro; apply Exists.intro) | (exact Go.Eng.Fin0.mk) | (refine Go.Eng.Chk.mk ?_ ?_) | fail))
            (refine Br.mk (fun _ => ?_) (fun _ => ?_))
            · rename_i h4
              rw [if_neg h4] at hst
              have hb := props_bad (e := 6) hc hlt (by rw [hst]) (by decide)
              (repeat' ((conv => whnf); first | (refine Giv.mk (fun _ => ?_)) | (refine Alt.l (Need.mk ?h ?_); case h => omega) | (refine Alt.r (Need.mk ?h ?_); case h => omega) | (refine Need.mk ?h ?_; case h => omega) | (refine Need.mk ?h ?_; case h => (intro _; rfl)) | (refine Need.mk ?h ?_; case h => assumption) | (refine Need.mk ?h ?_; case h => (simp <;> omega)) | (refine Ix.zero ?_) | (refine Ix.one ?_) | (refine Ix.two ?_) | (refine Ix.nat ?_) | (refine Ix.add ?_) | (apply Go.Eng.Pin.mk; apply Exists.intro) | (apply Go.Eng.Pinned.mk (Eq.refl _) (Eq.refl _)) | (apply Go.Eng.PinH.mk; apply Exists.intro; apply Exists.intro) | (exact Go.Eng.Fin0.mk) | (refine Go.Eng.Chk.mk ?_ ?_) | fail))
              (conv => whnf)
              exact ⟨⟨rfl, hb.1.symm⟩, ⟨rfl, hb.2.symm⟩, trivial⟩
            · rename_i h4
              have h4 := Classical.not_not.1 h4
              rw [if_pos h4] at hst
              have hdl := del_len h4
              (repeat' ((conv => whnf); first | (refine Giv.mk (fun _ => ?_)) | (refine Alt.l (Need.mk ?h ?_); case h => omega) | (refine Alt.r (Need.mk ?h ?_); case h => omega) | (refine Need.mk ?h ?_; case h => omega) | (refine Need.mk ?h ?_; case h => (intro _; rfl)) | (refine Need.mk ?h ?_; case h => assumption) | (refine Need.mk ?h ?_; case h => (simp <;> omega)) | (refine Ix.zero ?_) | (refine Ix.one ?_) | (refine Ix.two ?_) | (refine Ix.nat ?_) | (refine Ix.add ?_) | (apply Go.Eng.Pin.mk; apply Exists.intro) | (apply Go.Eng.Pinned.mk (Eq.refl _) (Eq.refl _)) | (apply Go.Eng.PinH.mk; apply Exists.intro; apply Exists.intro) | (exact Go.Eng.Fin0.mk) | (refine Go.Eng.Chk.mk ?_ ?_) | fail))
              refine ⟨(i + 1 : Nat), by show S.length - (i + 1) < S.length - i; omega, ⟨hlt, by rw [hst], by rw [hst]; show ((propAt S i).m.del (S.getD i (0, 0)).2).es.length ≤ i + 1; omega, by rw [hst]; exact hm0, by rw [hst]; show (propAt S i).most ≤ ((i + 1 : Nat) : Int); omega⟩, ?_⟩
              (repeat' (first | exact trivial | rfl | exact Nat.one_pos | (refine And.intro ?_ ?_) | ((conv => whnf); (refine And.intro ?_ ?_)) | ((conv => whnf); exact trivial)))
              · rw [hst]
              · exact (congrArg PS.m hst).symm
          · rename_i h3
            rw [if_neg h3] at hst
            (repeat' ((conv => whnf); first | (refine Giv.mk (fun _ => ?_)) | (refine Alt.l (Need.mk ?h ?_); case h => omega) | (refine Alt.r (Need.mk ?h ?_); case h => omega) | (refine Need.mk ?h ?_; case h => omega) | (refine Need.mk ?h ?_; case h => (intro _; rfl)) | (refine Need.mk ?h ?_; case h => assumption) | (refine Need.mk ?h ?_; case h => (simp <;> omega)) | (refine Ix.zero ?_) | (refine Ix.one ?_) | (refine Ix.two ?_) | (refine Ix.nat ?_) | (refine Ix.add ?_) | (apply Go.Eng.Pin.mk; apply Exists.intro) | (apply Go.Eng.Pinned.mk (Eq.refl _) (Eq.refl _)) | (apply Go.Eng.PinH.mk; apply Exists.intro; apply Exists.intro) | (exact Go.Eng.Fin0.mk) | (refine Go.Eng.Chk.mk ?_ ?_) | fail))
            refine ⟨(i + 1 : Nat), by show S.length - (i + 1) < S.length - i; omega, ⟨hlt, by rw [hst]; exact he, by rw [hst]; omega, by rw [hst]; omega, by rw [hst]; omega⟩, ?_⟩
            (repeat' (first | exact trivial | rfl | exact Nat.one_pos | (refine And.intro ?_ ?_) | ((conv => whnf); (refine And.intro ?_ ?_)) | ((conv => whnf); exact trivial)))
            · rw [hst]
            · exact (congrArg PS.m hst).symm
      · have hii : i = S.length := by omega
        subst hii
        have h1 : propsE S = 0 := by unfold propsE; rw [if_neg hc, he]
        have h2 : propsN S = (propAt S S.length).most := by unfold propsN; rw [if_neg (by rw [h1]; simp)]
        (repeat' ((conv => whnf); first | (refine Giv.mk (fun _ => ?_)) | (refine Alt.l (Need.mk ?h ?_); case h => omega) | (refine Alt.r (Need.mk ?h ?_); case h => omega) | (refine Need.mk ?h ?_; case h => omega) | (refine Need.mk ?h ?_; case h => (intro _; rfl)) | (refine Need.mk ?h ?_; case h => assumption) | (refine Need.mk ?h ?_; case h => (simp <;> omega)) | (refine Ix.zero ?_) | (refine Ix.one ?_) | (refine Ix.two ?_) | (refine Ix.nat ?_) | (refine Ix.add ?_) | (apply Go.Eng.Pin.mk; apply Exists.intro) | (apply Go.Eng.Pinned.mk (Eq.refl _) (Eq.refl _)) | (apply Go.Eng.PinH.mk; apply Exists.intro; apply Exists.intro) | (exact Go.Eng.Fin0.mk) | (refine Go.Eng.Chk.mk ?_ ?_) | fail))
        (conv => whnf)
        exact ⟨⟨rfl, h2.symm⟩, ⟨rfl, h1.symm⟩, trivial⟩
def c22 : Con := mkCon 22 true fun args K => match args with | [.seq (.pair (.int .i64) (.int .i64)) S] => K (.tup [I (propsN S), I (propsE S)]) | _ => False
theorem k22 : ConOK Try.prog c22 := by
  refine conOK_of rfl (enters_of Try.func22 (by kernel_rfl) rfl) ?_
  intro args K h
  simp only [c22] at h
  split at h
  · rename_i S; exact ⟨_, h, tri_of_body (Γ := [c51]) (by simp [k51]) Try.func22 (by simp [Try.ntmps22]) rfl (b22 S)⟩
  · exact h.elim
end EB
