import Derived.Test.YtpmbhgmifiianaaProg
import Derived.Test.YtpmbhgmifiianaaEngT
import Derived.Shelf.Abstract
open Go Go.Proofs Go.Eng Go.Shelf
namespace EB
abbrev I (n : Int) : SV := .val (.int .i64 n)
abbrev Ls (xs : List Int) : SV := .seq (.int .i64) xs
abbrev Ws (xs : List Int) : SV := .seq (.int .u64) xs
/-- A rest or a step: two numbers. -/
abbrev Two : Ty := .pair (.int .i64) (.int .i64)
abbrev Ps (xs : List (Int × Int)) : SV := .seq Two xs
set_option maxRecDepth 10000
theorem ix_at {n : Int} {C : Nat → Prop} (j : Nat) (e : n = (j : Int)) (h : C j) : Ix n C := by
  refine ⟨fun i e' => ?_⟩
  have : j = i := by omega
  subst this; exact h
/-! ### Sets of members -/
theorem b46 (n : Int) (h : 0 ≤ n ∧ n ≤ 1000) : bodyO Try.prog [] {} Try.f46 [I n] (.ref 0 1) (.int .u64) (List.replicate ((n + 63) / 64).toNat 0) 103 := by
  obtain ⟨h1, h2⟩ := h
  (repeat' ((conv => whnf); first | (refine Giv.mk (fun _ => ?_)) | (refine Alt.l (Need.mk ?h ?_); case h => omega) | (refine Alt.r (Need.mk ?h ?_); case h => omega) | (refine Need.mk ?h ?_; case h => omega) | (refine Need.mk ?h ?_; case h => (intro _; rfl)) | (refine Need.mk ?h ?_; case h => assumption) | (refine Need.mk ?h ?_; case h => (simp <;> omega)) | (refine Ix.zero ?_) | (refine Ix.one ?_) | (refine Ix.two ?_) | (refine Ix.nat ?_) | (refine Ix.add ?_) | (apply Go.Eng.Pin.mk; apply Exists.intro) | (apply Go.Eng.Pinned.mk (Eq.refl _) (Eq.refl _)) | (apply Go.Eng.PinH.mk; apply Exists.intro; apply Exists.intro) | (exact Go.Eng.Fin0.mk) | (refine Go.Eng.Chk.mk ?_ ?_) | fail))
  refine Need.mk (show 0 ≤ (n + 63) / 64 ∧ (n + 63) / 64 ≤ (n + 63) / 64 ∧ (n + 63) / 64 ≤ 140737488355328 ∧ (n + 63) / 64 * ((8 : Nat) : Int) ≤ 140737488355328 by omega) ?_
  (repeat' ((conv => whnf); first | (refine Giv.mk (fun _ => ?_)) | (refine Alt.l (Need.mk ?h ?_); case h => omega) | (refine Alt.r (Need.mk ?h ?_); case h => omega) | (refine Need.mk ?h ?_; case h => omega) | (refine Need.mk ?h ?_; case h => (intro _; rfl)) | (refine Need.mk ?h ?_; case h => assumption) | (refine Need.mk ?h ?_; case h => (simp <;> omega)) | (refine Ix.zero ?_) | (refine Ix.one ?_) | (refine Ix.two ?_) | (refine Ix.nat ?_) | (refine Ix.add ?_) | (apply Go.Eng.Pin.mk; apply Exists.intro) | (apply Go.Eng.Pinned.mk (Eq.refl _) (Eq.refl _)) | (apply Go.Eng.PinH.mk; apply Exists.intro; apply Exists.intro) | (exact Go.Eng.Fin0.mk) | (refine Go.Eng.Chk.mk ?_ ?_) | fail))
  (conv => whnf)
  (repeat' (first | exact trivial | rfl | exact Nat.one_pos | (refine And.intro ?_ ?_) | ((conv => whnf); (refine And.intro ?_ ?_)) | ((conv => whnf); exact trivial)))
def c46 : Con := ownCon 46 fun args K => match args with | [.val (.int .i64 n)] => Need (0 ≤ n ∧ n ≤ 1000) (K (.ref 0 1) (.vec 1 (.int .u64) (List.replicate ((n + 63) / 64).toNat 0) 103)) | _ => False
theorem k46 : ConOK Try.prog c46 := by
  refine ownOK_of (enters_of Try.func46 (by kernel_rfl) rfl) ?_
  intro args K h
  split at h
  · rename_i n; exact ⟨_, _, _, _, _, h.go, fun hfl => otri_of_body (Γ := []) (by simp) Try.func46 (by simp [Try.ntmps46]) hfl (b46 n h.ok)⟩
  · exact h.elim
def hasW (ws : List Int) (i : Int) : Prop := i / 64 < (ws.length : Int) ∧ bitsI .and .u64 (shrI .u64 (ws.getD (i / 64).toNat 0) (i % 64)) 1 = 1
instance (ws : List Int) (i : Int) : Decidable (hasW ws i) := by unfold hasW; exact inferInstance
def putW (ws : List Int) (i : Int) : List Int := ws.set (i / 64).toNat (bitsI .or .u64 (ws.getD (i / 64).toNat 0) (shlI .u64 1 (i % 64)))
def takeW (ws : List Int) (i : Int) : List Int := ws.set (i / 64).toNat (bitsI .andNot .u64 (ws.getD (i / 64).toNat 0) (shlI .u64 1 (i % 64)))
theorem b52 (ws : List Int) (i : Int) (h : 0 ≤ i) : body Try.prog [] {} true Try.f52 [Ws ws, I i] (.bl (hasW ws i) inferInstance) := by
  (repeat' ((conv => whnf); first | (refine Giv.mk (fun _ => ?_)) | (refine Alt.l (Need.mk ?h ?_); case h => omega) | (refine Alt.r (Need.mk ?h ?_); case h => omega) | (refine Need.mk ?h ?_; case h => omega) | (refine Need.mk ?h ?_; case h => (intro _; rfl)) | (refine Need.mk ?h ?_; case h => assumption) | (refine Need.mk ?h ?_; case h => (simp <;> omega)) | (refine Ix.zero ?_) | (refine Ix.one ?_) | (refine Ix.two ?_) | (refine Ix.nat ?_) | (refine Ix.add ?_) | (apply Go.Eng.Pin.mk; apply Exists.intro) | (apply Go.Eng.Pinned.mk (Eq.refl _) (Eq.refl _)) | (apply Go.Eng.PinH.mk; apply Exists.intro; apply Exists.intro) | (exact Go.Eng.Fin0.mk) | (refine Go.Eng.Chk.mk ?_ ?_) | fail))
  (refine Br.mk (fun _ => ?_) (fun _ => ?_))
  · rename_i hlt
    (repeat' ((conv => whnf); first | (refine Giv.mk (fun _ => ?_)) | (refine Alt.l (Need.mk ?h ?_); case h => omega) | (refine Alt.r (Need.mk ?h ?_); case h => omega) | (refine Need.mk ?h ?_; case h => omega) | (refine Need.mk ?h ?_; case h => (intro _; rfl)) | (refine Need.mk ?h ?_; case h => assumption) | (refine Need.mk ?h ?_; case h => (simp <;> omega)) | (refine Ix.zero ?_) | (refine Ix.one ?_) | (refine Ix.two ?_) | (refine Ix.nat ?_) | (refine Ix.add ?_) | (apply Go.Eng.Pin.mk; apply Exists.intro) | (apply Go.Eng.Pinned.mk (Eq.refl _) (Eq.refl _)) | (apply Go.Eng.PinH.mk; apply Exists.intro; apply Exists.intro) | (exact Go.Eng.Fin0.mk) | (refine Go.Eng.Chk.mk ?_ ?_) | fail))
    refine ix_at (i / 64).toNat (by omega) ?_
    (repeat' ((conv => whnf); first | (refine Giv.mk (fun _ => ?_)) | (refine Alt.l (Need.mk ?h ?_); case h => omega) | (refine Alt.r (Need.mk ?h ?_); case h => omega) | (refine Need.mk ?h ?_; case h => omega) | (refine Need.mk ?h ?_; case h => (intro _; rfl)) | (refine Need.mk ?h ?_; case h => assumption) | (refine Need.mk ?h ?_; case h => (simp <;> omega)) | (refine Ix.zero ?_) | (refine Ix.one ?_) | (refine Ix.two ?_) | (refine Ix.nat ?_) | (refine Ix.add ?_) | (apply Go.Eng.Pin.mk; apply Exists.intro) | (apply Go.Eng.Pinned.mk (Eq.refl _) (Eq.refl _)) | (apply Go.Eng.PinH.mk; apply Exists.intro; apply Exists.intro) | (exact Go.Eng.Fin0.mk) | (refine Go.Eng.Chk.mk ?_ ?_) | fail))
    (conv => whnf)
    exact ⟨fun h => ⟨hlt, h⟩, fun h => h.2⟩
  · rename_i hlt
    (conv => whnf)
    exact fun h => hlt h.1
def c52 : Con := mkCon 52 true fun args K => match args with | [.seq (.int .u64) ws, .val (.int .i64 i)] => Need (0 ≤ i) (K (.bl (hasW ws i) inferInstance)) | _ => False
theorem k52 : ConOK Try.prog c52 := by
  refine conOK_of rfl (enters_of Try.func52 (by kernel_rfl) rfl) ?_
  intro args K h
  simp only [c52] at h
  split at h
  · rename_i ws i; exact ⟨_, h.go, tri_of_body (Γ := []) (by simp) Try.func52 (by simp [Try.ntmps52]) rfl (b52 ws i h.ok)⟩
  · exact h.elim
theorem b47 (i : Int) (ws : List Int) (h : 0 ≤ i ∧ i / 64 < (ws.length : Int)) : bodyL Try.prog [] {} Try.f47 0 true [.any, I i] (.int .u64) ws 103 (.tup []) (putW ws i) := by
  obtain ⟨h1, h2⟩ := h
  (repeat' ((conv => whnf); first | (refine Giv.mk (fun _ => ?_)) | (refine Alt.l (Need.mk ?h ?_); case h => omega) | (refine Alt.r (Need.mk ?h ?_); case h => omega) | (refine Need.mk ?h ?_; case h => omega) | (refine Need.mk ?h ?_; case h => (intro _; rfl)) | (refine Need.mk ?h ?_; case h => assumption) | (refine Need.mk ?h ?_; case h => (simp <;> omega)) | (refine Ix.zero ?_) | (refine Ix.one ?_) | (refine Ix.two ?_) | (refine Ix.nat ?_) | (refine Ix.add ?_) | (apply Go.Eng.Pin.mk; apply Exists.intro) | (apply Go.Eng.Pinned.mk (Eq.refl _) (Eq.refl _)) | (apply Go.Eng.PinH.mk; apply Exists.intro; apply Exists.intro) | (exact Go.Eng.Fin0.mk) | (refine Go.Eng.Chk.mk ?_ ?_) | fail))
  refine ix_at (i / 64).toNat (by omega) ?_
  (repeat' ((conv => whnf); first | (refine Giv.mk (fun _ => ?_)) | (refine Alt.l (Need.mk ?h ?_); case h => omega) | (refine Alt.r (Need.mk ?h ?_); case h => omega) | (refine Need.mk ?h ?_; case h => omega) | (refine Need.mk ?h ?_; case h => (intro _; rfl)) | (refine Need.mk ?h ?_; case h => assumption) | (refine Need.mk ?h ?_; case h => (simp <;> omega)) | (refine Ix.zero ?_) | (refine Ix.one ?_) | (refine Ix.two ?_) | (refine Ix.nat ?_) | (refine Ix.add ?_) | (apply Go.Eng.Pin.mk; apply Exists.intro) | (apply Go.Eng.Pinned.mk (Eq.refl _) (Eq.refl _)) | (apply Go.Eng.PinH.mk; apply Exists.intro; apply Exists.intro) | (exact Go.Eng.Fin0.mk) | (refine Go.Eng.Chk.mk ?_ ?_) | fail))
  refine ix_at (i / 64).toNat (by omega) ?_
  (repeat' ((conv => whnf); first | (refine Giv.mk (fun _ => ?_)) | (refine Alt.l (Need.mk ?h ?_); case h => omega) | (refine Alt.r (Need.mk ?h ?_); case h => omega) | (refine Need.mk ?h ?_; case h => omega) | (refine Need.mk ?h ?_; case h => (intro _; rfl)) | (refine Need.mk ?h ?_; case h => assumption) | (refine Need.mk ?h ?_; case h => (simp <;> omega)) | (refine Ix.zero ?_) | (refine Ix.one ?_) | (refine Ix.two ?_) | (refine Ix.nat ?_) | (refine Ix.add ?_) | (apply Go.Eng.Pin.mk; apply Exists.intro) | (apply Go.Eng.Pinned.mk (Eq.refl _) (Eq.refl _)) | (apply Go.Eng.PinH.mk; apply Exists.intro; apply Exists.intro) | (exact Go.Eng.Fin0.mk) | (refine Go.Eng.Chk.mk ?_ ?_) | fail))
  (conv => whnf)
  (repeat' (first | exact trivial | rfl | exact Nat.one_pos | (refine And.intro ?_ ?_) | ((conv => whnf); (refine And.intro ?_ ?_)) | ((conv => whnf); exact trivial)))
def c47 : Con := linCon 47 0 true fun args o K => match args, o with | [.any, .val (.int .i64 i)], .vec 1 (.int .u64) ws 103 => Need (0 ≤ i ∧ i / 64 < (ws.length : Int)) (K (.tup []) (.vec 1 (.int .u64) (putW ws i) 103)) | _, _ => False
theorem k47 : ConOK Try.prog c47 := by
  refine linOK_of (enters_of Try.func47 (by kernel_rfl) rfl) ?_
  intro args t xs e K hfl h
  split at h
  · rename_i i zs heq
    cases heq
    first | exact ⟨_, _, h.go, ltri_of_body (Γ := []) (by simp) Try.func47 (by simp [Try.ntmps47]) rfl (b47 i zs h.ok)⟩ | exact ⟨_, _, h.go, ltri_of_body (Γ := []) (by simp) Try.func47 (by simp [Try.ntmps47]) rfl (b47 i xs h.ok)⟩
  · exact h.elim
theorem b53 (i : Int) (ws : List Int) (h : 0 ≤ i ∧ i / 64 < (ws.length : Int)) : bodyL Try.prog [] {} Try.f53 0 true [.any, I i] (.int .u64) ws 103 (.tup []) (takeW ws i) := by
  obtain ⟨h1, h2⟩ := h
  (repeat' ((conv => whnf); first | (refine Giv.mk (fun _ => ?_)) | (refine Alt.l (Need.mk ?h ?_); case h => omega) | (refine Alt.r (Need.mk ?h ?_); case h => omega) | (refine Need.mk ?h ?_; case h => omega) | (refine Need.mk ?h ?_; case h => (intro _; rfl)) | (refine Need.mk ?h ?_; case h => assumption) | (refine Need.mk ?h ?_; case h => (simp <;> omega)) | (refine Ix.zero ?_) | (refine Ix.one ?_) | (refine Ix.two ?_) | (refine Ix.nat ?_) | (refine Ix.add ?_) | (apply Go.Eng.Pin.mk; apply Exists.intro) | (apply Go.Eng.Pinned.mk (Eq.refl _) (Eq.refl _)) | (apply Go.Eng.PinH.mk; apply Exists.intro; apply Exists.intro) | (exact Go.Eng.Fin0.mk) | (refine Go.Eng.Chk.mk ?_ ?_) | fail))
  refine ix_at (i / 64).toNat (by omega) ?_
  (repeat' ((conv => whnf); first | (refine Giv.mk (fun _ => ?_)) | (refine Alt.l (Need.mk ?h ?_); case h => omega) | (refine Alt.r (Need.mk ?h ?_); case h => omega) | (refine Need.mk ?h ?_; case h => omega) | (refine Need.mk ?h ?_; case h => (intro _; rfl)) | (refine Need.mk ?h ?_; case h => assumption) | (refine Need.mk ?h ?_; case h => (simp <;> omega)) | (refine Ix.zero ?_) | (refine Ix.one ?_) | (refine Ix.two ?_) | (refine Ix.nat ?_) | (refine Ix.add ?_) | (apply Go.Eng.Pin.mk; apply Exists.intro) | (apply Go.Eng.Pinned.mk (Eq.refl _) (Eq.refl _)) | (apply Go.Eng.PinH.mk; apply Exists.intro; apply Exists.intro) | (exact Go.Eng.Fin0.mk) | (refine Go.Eng.Chk.mk ?_ ?_) | fail))
  refine ix_at (i / 64).toNat (by omega) ?_
  (repeat' ((conv => whnf); first | (refine Giv.mk (fun _ => ?_)) | (refine Alt.l (Need.mk ?h ?_); case h => omega) | (refine Alt.r (Need.mk ?h ?_); case h => omega) | (refine Need.mk ?h ?_; case h => omega) | (refine Need.mk ?h ?_; case h => (intro _; rfl)) | (refine Need.mk ?h ?_; case h => assumption) | (refine Need.mk ?h ?_; case h => (simp <;> omega)) | (refine Ix.zero ?_) | (refine Ix.one ?_) | (refine Ix.two ?_) | (refine Ix.nat ?_) | (refine Ix.add ?_) | (apply Go.Eng.Pin.mk; apply Exists.intro) | (apply Go.Eng.Pinned.mk (Eq.refl _) (Eq.refl _)) | (apply Go.Eng.PinH.mk; apply Exists.intro; apply Exists.intro) | (exact Go.Eng.Fin0.mk) | (refine Go.Eng.Chk.mk ?_ ?_) | fail))
  (conv => whnf)
  (repeat' (first | exact trivial | rfl | exact Nat.one_pos | (refine And.intro ?_ ?_) | ((conv => whnf); (refine And.intro ?_ ?_)) | ((conv => whnf); exact trivial)))
def c53 : Con := linCon 53 0 true fun args o K => match args, o with | [.any, .val (.int .i64 i)], .vec 1 (.int .u64) ws 103 => Need (0 ≤ i ∧ i / 64 < (ws.length : Int)) (K (.tup []) (.vec 1 (.int .u64) (takeW ws i) 103)) | _, _ => False
theorem k53 : ConOK Try.prog c53 := by
  refine linOK_of (enters_of Try.func53 (by kernel_rfl) rfl) ?_
  intro args t xs e K hfl h
  split at h
  · rename_i i zs heq
    cases heq
    first | exact ⟨_, _, h.go, ltri_of_body (Γ := []) (by simp) Try.func53 (by simp [Try.ntmps53]) rfl (b53 i zs h.ok)⟩ | exact ⟨_, _, h.go, ltri_of_body (Γ := []) (by simp) Try.func53 (by simp [Try.ntmps53]) rfl (b53 i xs h.ok)⟩
  · exact h.elim
/-- The members of a set below a number. -/
def memsTo (ws : List Int) (k : Nat) : List Int := ((List.range k).filter fun (i : Nat) => decide (hasW ws i)).map fun (i : Nat) => (i : Int)
theorem memsTo_succ (ws : List Int) (k : Nat) : memsTo ws (k + 1) = if hasW ws k then memsTo ws k ++ [(k : Int)] else memsTo ws k := by
  unfold memsTo
  rw [List.range_succ, List.filter_append, List.map_append]
  by_cases h : hasW ws k <;> simp [h]
theorem memsTo_len (ws : List Int) (k : Nat) : (memsTo ws k).length ≤ k := by
  unfold memsTo
  rw [List.length_map]
  exact Nat.le_trans (List.length_filter_le _ _) (by simp)
theorem b54 (ws : List Int) (h : ws.length ≤ 1000) : body Try.prog [c52] { asks := [(0, [1])] } true Try.f54 [Ws ws] (Ls (memsTo ws (64 * ws.length))) := by
  (repeat' ((conv => whnf); first | (refine Giv.mk (fun _ => ?_)) | (refine Alt.l (Need.mk ?h ?_); case h => omega) | (refine Alt.r (Need.mk ?h ?_); case h => omega) | (refine Need.mk ?h ?_; case h => omega) | (refine Need.mk ?h ?_; case h => (intro _; rfl)) | (refine Need.mk ?h ?_; case h => assumption) | (refine Need.mk ?h ?_; case h => (simp <;> omega)) | (refine Ix.zero ?_) | (refine Ix.one ?_) | (refine Ix.two ?_) | (refine Ix.nat ?_) | (refine Ix.add ?_) | (apply Go.Eng.Pin.mk; apply Exists.intro) | (apply Go.Eng.Pinned.mk (Eq.refl _) (Eq.refl _)) | (apply Go.Eng.PinH.mk; apply Exists.intro; apply Exists.intro) | (exact Go.Eng.Fin0.mk) | (refine Go.Eng.Chk.mk ?_ ?_) | fail))
  refine Ask.mk ⟨{ X := Nat, pre := fun i => i ≤ 64 * ws.length, mod := fun i _ => [(3, .ref 1 1), (8, I i)], objs := [1], heap := fun i _ => [.vec 1 (.int .i64) [] 3, .vec 1 (.int .i64) (memsTo ws i) 3], mu := fun i => 64 * ws.length - i }, rfl, ?_⟩
  (repeat' ((conv => whnf); first | (refine Giv.mk (fun _ => ?_)) | (refine Alt.l (Need.mk ?h ?_); case h => omega) | (refine Alt.r (Need.mk ?h ?_); case h => omega) | (refine Need.mk ?h ?_; case h => omega) | (refine Need.mk ?h ?_; case h => (intro _; rfl)) | (refine Need.mk ?h ?_; case h => assumption) | (refine Need.mk ?h ?_; case h => (simp <;> omega)) | (refine Ix.zero ?_) | (refine Ix.one ?_) | (refine Ix.two ?_) | (refine Ix.nat ?_) | (refine Ix.add ?_) | (apply Go.Eng.Pin.mk; apply Exists.intro) | (apply Go.Eng.Pinned.mk (Eq.refl _) (Eq.refl _)) | (apply Go.Eng.PinH.mk; apply Exists.intro; apply Exists.intro) | (exact Go.Eng.Fin0.mk) | (refine Go.Eng.Chk.mk ?_ ?_) | fail))
  refine ⟨⟨(0 : Nat), Nat.zero_le _, ?_⟩, fun (i : Nat) (hi : i ≤ 64 * ws.length) => ?_⟩
  · (repeat' (first | exact trivial | rfl | exact Nat.one_pos | (refine And.intro ?_ ?_) | omega | ((conv => whnf); (refine And.intro ?_ ?_)) | ((conv => whnf); exact trivial)))
  · have hl := memsTo_len ws i
    have hsu := memsTo_succ ws i
    (repeat' ((conv => whnf); first | (refine Giv.mk (fun _ => ?_)) | (refine Alt.l (Need.mk ?h ?_); case h => omega) | (refine Alt.r (Need.mk ?h ?_); case h => omega) | (refine Need.mk ?h ?_; case h => omega) | (refine Need.mk ?h ?_; case h => (intro _; rfl)) | (refine Need.mk ?h ?_; case h => assumption) | (refine Need.mk ?h ?_; case h => (simp <;> omega)) | (refine Ix.zero ?_) | (refine Ix.one ?_) | (refine Ix.two ?_) | (refine Ix.nat ?_) | (refine Ix.add ?_) | (apply Go.Eng.Pin.mk; apply Exists.intro) | (apply Go.Eng.Pinned.mk (Eq.refl _) (Eq.refl _)) | (apply Go.Eng.PinH.mk; apply Exists.intro; apply Exists.intro) | (exact Go.Eng.Fin0.mk) | (refine Go.Eng.Chk.mk ?_ ?_) | fail))
    (refine Br.mk (fun _ => ?_) (fun _ => ?_))
    · (repeat' ((conv => whnf); first | (refine Giv.mk (fun _ => ?_)) | (refine Alt.l (Need.mk ?h ?_); case h => omega) | (refine Alt.r (Need.mk ?h ?_); case h => omega) | (refine Need.mk ?h ?_; case h => omega) | (refine Need.mk ?h ?_; case h => (intro _; rfl)) | (refine Need.mk ?h ?_; case h => assumption) | (refine Need.mk ?h ?_; case h => (simp <;> omega)) | (refine Ix.zero ?_) | (refine Ix.one ?_) | (refine Ix.two ?_) | (refine Ix.nat ?_) | (refine Ix.add ?_) | (apply Go.Eng.Pin.mk; apply Exists.intro) | (apply Go.Eng.Pinned.mk (Eq.refl _) (Eq.refl _)) | (apply Go.Eng.PinH.mk; apply Exists.intro; apply Exists.intro) | (exact Go.Eng.Fin0.mk) | (refine Go.Eng.Chk.mk ?_ ?_) | fail))
      (refine Br.mk (fun _ => ?_) (fun _ => ?_))
      · rename_i hh
        rw [if_pos hh] at hsu
        (repeat' ((conv => whnf); first | (refine Giv.mk (fun _ => ?_)) | (refine Alt.l (Need.mk ?h ?_); case h => omega) | (refine Alt.r (Need.mk ?h ?_); case h => omega) | (refine Need.mk ?h ?_; case h => omega) | (refine Need.mk ?h ?_; case h => (intro _; rfl)) | (refine Need.mk ?h ?_; case h => assumption) | (refine Need.mk ?h ?_; case h => (simp <;> omega)) | (refine Ix.zero ?_) | (refine Ix.one ?_) | (refine Ix.two ?_) | (refine Ix.nat ?_) | (refine Ix.add ?_) | (apply Go.Eng.Pin.mk; apply Exists.intro) | (apply Go.Eng.Pinned.mk (Eq.refl _) (Eq.refl _)) | (apply Go.Eng.PinH.mk; apply Exists.intro; apply Exists.intro) | (exact Go.Eng.Fin0.mk) | (refine Go.Eng.Chk.mk ?_ ?_) | fail))
        refine ⟨(i + 1 : Nat), ?_, ?_, ?_⟩
        · show 64 * ws.length - (i + 1) < 64 * ws.length - i
          omega
        · show i + 1 ≤ 64 * ws.length
          omega
        · (repeat' (first | exact trivial | rfl | exact Nat.one_pos | (refine And.intro ?_ ?_) | omega | ((conv => whnf); (refine And.intro ?_ ?_)) | ((conv => whnf); exact trivial)))
          exact hsu.symm
      · rename_i hh
        rw [if_neg hh] at hsu
        (repeat' ((conv => whnf); first | (refine Giv.mk (fun _ => ?_)) | (refine Alt.l (Need.mk ?h ?_); case h => omega) | (refine Alt.r (Need.mk ?h ?_); case h => omega) | (refine Need.mk ?h ?_; case h => omega) | (refine Need.mk ?h ?_; case h => (intro _; rfl)) | (refine Need.mk ?h ?_; case h => assumption) | (refine Need.mk ?h ?_; case h => (simp <;> omega)) | (refine Ix.zero ?_) | (refine Ix.one ?_) | (refine Ix.two ?_) | (refine Ix.nat ?_) | (refine Ix.add ?_) | (apply Go.Eng.Pin.mk; apply Exists.intro) | (apply Go.Eng.Pinned.mk (Eq.refl _) (Eq.refl _)) | (apply Go.Eng.PinH.mk; apply Exists.intro; apply Exists.intro) | (exact Go.Eng.Fin0.mk) | (refine Go.Eng.Chk.mk ?_ ?_) | fail))
        refine ⟨(i + 1 : Nat), ?_, ?_, ?_⟩
        · show 64 * ws.length - (i + 1) < 64 * ws.length - i
          omega
        · show i + 1 ≤ 64 * ws.length
          omega
        · (repeat' (first | exact trivial | rfl | exact Nat.one_pos | (refine And.intro ?_ ?_) | omega | ((conv => whnf); (refine And.intro ?_ ?_)) | ((conv => whnf); exact trivial)))
          exact hsu.symm
    · have hii : i = 64 * ws.length := by omega
      subst hii
      (repeat' ((conv => whnf); first | (refine Giv.mk (fun _ => ?_)) | (refine Alt.l (Need.mk ?h ?_); case h => omega) | (refine Alt.r (Need.mk ?h ?_); case h => omega) | (refine Need.mk ?h ?_; case h => omega) | (refine Need.mk ?h ?_; case h => (intro _; rfl)) | (refine Need.mk ?h ?_; case h => assumption) | (refine Need.mk ?h ?_; case h => (simp <;> omega)) | (refine Ix.zero ?_) | (refine Ix.one ?_) | (refine Ix.two ?_) | (refine Ix.nat ?_) | (refine Ix.add ?_) | (apply Go.Eng.Pin.mk; apply Exists.intro) | (apply Go.Eng.Pinned.mk (Eq.refl _) (Eq.refl _)) | (apply Go.Eng.PinH.mk; apply Exists.intro; apply Exists.intro) | (exact Go.Eng.Fin0.mk) | (refine Go.Eng.Chk.mk ?_ ?_) | fail))
      (conv => whnf)
      (repeat' (first | exact trivial | rfl | exact Nat.one_pos | (refine And.intro ?_ ?_) | ((conv => whnf); (refine And.intro ?_ ?_)) | ((conv => whnf); exact trivial)))
def c54 : Con := mkCon 54 true fun args K => match args with | [.seq (.int .u64) ws] => Need (ws.length ≤ 1000) (K (Ls (memsTo ws (64 * ws.length)))) | _ => False
theorem k54 : ConOK Try.prog c54 := by
  refine conOK_of rfl (enters_of Try.func54 (by kernel_rfl) rfl) ?_
  intro args K h
  simp only [c54] at h
  split at h
  · rename_i ws; exact ⟨_, h.go, tri_of_body (Γ := [c52]) (by simp [k52]) Try.func54 (by simp [Try.ntmps54]) rfl (b54 ws h.ok)⟩
  · exact h.elim
end EB
