import Derived.Test.YtfdcfcnobfebgaaN9
open Go Go.Proofs Go.Eng Go.Shelf
namespace NB
set_option maxRecDepth 10000
/-! ### The bound of weights: the function's own table -/
theorem ix_to {n : Int} {C : Nat → Prop} (j : Nat) (e : n = (j : Int)) (h : C j) : Ix n C := by
  refine ⟨fun i e' => ?_⟩
  have : i = j := by omega
  subst this; exact h
def badW (w : Int) : Bool := decide (¬ (0 ≤ w ∧ w ≤ 1048576))
def dpAt (ys : List Int) (w v r : Int) : List Int := (List.range ys.length).map fun (j : Nat) => if r < (j : Int) ∧ w ≤ (j : Int) then max (ys.getD j 0) (ys.getD ((j : Int) - w).toNat 0 + v) else ys.getD j 0
def dpNext (ys : List Int) (w v : Int) : List Int := dpAt ys w v (w - 1)
def dpE (xs ws : List Int) (k C : Int) (i : Nat) : List Int := (List.range i).foldl (fun ys j => dpNext ys (xs.getD j 0 + k) (ws.getD j 0)) (List.replicate (C + 1).toNat 0)
theorem dpAt_len (ys : List Int) (w v r : Int) : (dpAt ys w v r).length = ys.length := by simp [dpAt]
theorem dpAt_get (ys : List Int) (w v r : Int) (j : Nat) (h : j < ys.length) : (dpAt ys w v r).getD j 0 = if r < (j : Int) ∧ w ≤ (j : Int) then max (ys.getD j 0) (ys.getD ((j : Int) - w).toNat 0 + v) else ys.getD j 0 := by
  simp [dpAt, List.getD_eq_getElem?_getD, h]
theorem dpE_succ (xs ws : List Int) (k C : Int) (i : Nat) : dpE xs ws k C (i + 1) = dpNext (dpE xs ws k C i) (xs.getD i 0 + k) (ws.getD i 0) := by
  unfold dpE; rw [List.range_succ, List.foldl_append]; rfl
theorem dpE_len (xs ws : List Int) (k C : Int) : ∀ i, (dpE xs ws k C i).length = (C + 1).toNat
  | 0 => by simp [dpE]
  | i + 1 => by rw [dpE_succ, dpNext, dpAt_len, dpE_len]
theorem list_ext_getD {xs ys : List Int} (h : xs.length = ys.length) (h2 : ∀ j, j < xs.length → xs.getD j 0 = ys.getD j 0) : xs = ys := by
  refine List.ext_getElem h fun j h1 h3 => ?_
  have := h2 j h1
  simpa [List.getD_eq_getElem?_getD, h1, h3] using this
theorem getD_set' (xs : List Int) (i j : Nat) (x : Int) : (xs.set i x).getD j 0 = if i = j ∧ i < xs.length then x else xs.getD j 0 := by
  simp only [List.getD_eq_getElem?_getD, List.getElem?_set]
  by_cases h : i = j
  · subst h
    by_cases h2 : i < xs.length
    · simp [h2]
    · simp [h2]
  · simp [h]
/-- One place further down. -/
theorem dpAt_step (ys : List Int) (w v : Int) (r : Nat) (hw : 1 ≤ w) (hr : w ≤ r) (hl : r < ys.length) :
    (dpAt ys w v r).set r (max ((dpAt ys w v r).getD r 0) ((dpAt ys w v r).getD ((r : Int) - w).toNat 0 + v)) = dpAt ys w v ((r : Int) - 1) := by
  refine list_ext_getD (by simp [dpAt_len]) fun j hj => ?_
  rw [List.length_set, dpAt_len] at hj
  have g1 := dpAt_get ys w v r r hl
  have g2 := dpAt_get ys w v r ((r : Int) - w).toNat (by omega)
  have g3 := dpAt_get ys w v r j hj
  have g4 := dpAt_get ys w v ((r : Int) - 1) j hj
  rw [if_neg (by omega)] at g1 g2
  rw [getD_set', dpAt_len, g1, g2, g3, g4]
  by_cases h : r = j
  · subst h
    rw [if_pos ⟨rfl, hl⟩, if_pos ⟨by omega, hr⟩]
  · rw [if_neg (show ¬ (r = j ∧ r < ys.length) from fun e => h e.1)]
    by_cases h2 : (r : Int) < j ∧ w ≤ (j : Int)
    · rw [if_pos h2, if_pos ⟨by omega, h2.2⟩]
    · rw [if_neg h2, if_neg (by omega)]
theorem dpAt_start (ys : List Int) (w v : Int) (r : Int) (h : (ys.length : Int) ≤ r + 1) : dpAt ys w v r = ys := by
  refine list_ext_getD (dpAt_len ..) fun j hj => ?_
  rw [dpAt_len] at hj
  rw [dpAt_get _ _ _ _ j hj, if_neg (by omega)]
theorem dpAt_end (ys : List Int) (w v r : Int) (h : r < w) : dpAt ys w v r = dpNext ys w v := by
  refine list_ext_getD (by simp [dpAt_len, dpNext]) fun j hj => ?_
  rw [dpAt_len] at hj
  rw [dpNext, dpAt_get _ _ _ _ j hj, dpAt_get _ _ _ _ j hj]
  by_cases h2 : w ≤ (j : Int)
  · rw [if_pos ⟨by omega, h2⟩, if_pos ⟨by omega, h2⟩]
  · rw [if_neg (fun e => h2 e.2), if_neg (fun e => h2 e.2)]
theorem dpAt_range {ys : List Int} {w v r b c : Int} (h : ∀ j, 0 ≤ ys.getD j 0 ∧ ys.getD j 0 ≤ b) (hv : 0 ≤ v) (hc : v ≤ c) (hc0 : 0 ≤ c) : ∀ j, 0 ≤ (dpAt ys w v r).getD j 0 ∧ (dpAt ys w v r).getD j 0 ≤ b + c := by
  intro j
  have h1 := h j
  by_cases hj : j < ys.length
  · rw [dpAt_get _ _ _ _ j hj]
    have h2 := h ((j : Int) - w).toNat
    split <;> omega
  · rw [List.getD_eq_getElem?_getD, List.getElem?_eq_none (by rw [dpAt_len]; omega)]
    simp; omega
theorem getD_mem0 {ws : List Int} {p : Int → Prop} (h0 : p 0) (h : ∀ w ∈ ws, p w) (i : Nat) : p (ws.getD i 0) := by
  rw [List.getD_eq_getElem?_getD]
  cases e : ws[i]? with
  | none => exact h0
  | some w => exact h w (List.mem_of_getElem? e)
theorem dpE_range (xs : List Int) {ws : List Int} (k C : Int) (hw : ∀ w ∈ ws, 0 ≤ w ∧ w ≤ 1048576) : ∀ i j, 0 ≤ (dpE xs ws k C i).getD j 0 ∧ (dpE xs ws k C i).getD j 0 ≤ 1048576 * i
  | 0, j => by
    have : (dpE xs ws k C 0).getD j 0 = 0 := by
      simp only [dpE, List.range_zero, List.foldl_nil, List.getD_eq_getElem?_getD, List.getElem?_replicate]
      split <;> rfl
    omega
  | i + 1, j => by
    rw [dpE_succ]
    have hv := getD_mem0 (p := fun w => 0 ≤ w ∧ w ≤ 1048576) (by omega) hw i
    have := dpAt_range (w := xs.getD i 0 + k) (r := xs.getD i 0 + k - 1) (v := ws.getD i 0) (c := 1048576) (dpE_range xs k C hw i) hv.1 hv.2 (by omega) j
    unfold dpNext
    omega
theorem sum_range {ws : List Int} (h : ws.any badW = false) : 0 ≤ ws.sum ∧ ws.sum ≤ 1048576 * ws.length := by
  induction ws with
  | nil => simp
  | cons w ws ih =>
    simp only [List.any_cons, Bool.or_eq_false_iff] at h
    have h1 : 0 ≤ w ∧ w ≤ 1048576 := by simpa [badW] using h.1
    have := ih h.2
    simp only [List.sum_cons, List.length_cons]
    omega
theorem take_sum (ws : List Int) (i : Nat) (h : i < ws.length) : (ws.take (i + 1)).sum = (ws.take i).sum + ws.getD i 0 := by
  rw [List.take_succ_eq_append_getElem h, List.sum_append]
  simp [List.getD_eq_getElem?_getD, h]
theorem take_any (ws : List Int) (p : Int → Bool) (i : Nat) (h : i < ws.length) : (ws.take (i + 1)).any p = ((ws.take i).any p || p (ws.getD i 0)) := by
  rw [List.take_succ_eq_append_getElem h, List.any_append]
  simp [List.getD_eq_getElem?_getD, h]
def dualE (xs ws : List Int) (s L k : Int) : Int :=
  if checkE xs L k ≠ 0 then checkE xs L k else if xs.length ≠ ws.length then 9 else if ws.any badW then 2 else if s < 1 ∨ 1048576 < s then 2
  else if 4194304 < (xs.length : Int) * (L + k + 1) then 4 else if s < (dpE xs ws k (L + k) xs.length).getD (L + k).toNat 0 then 23 else 0
def dualR (xs ws : List Int) (s L k : Int) : Int := if dualE xs ws s L k = 0 then upE ws.sum s else 0
abbrev anW (ws xs : List Int) (k C : Int) : Ann := { X := Nat, pre := fun i => i ≤ ws.length ∧ (ws.take i).any badW = false, mod := fun i _ => [(38, I i), (14, I ((ws.take i).sum))], heap := fun _ H => H, mu := fun i => ws.length - i }
abbrev an20 (xs ws : List Int) (k C : Int) : Ann := { X := Nat, pre := fun i => i ≤ xs.length, mod := fun _ _ => [], heap := fun i _ => [.cells [Ls ws] 22, .cells [Ls xs, I k, I C] 45, .vec 1 (.int .i64) (dpE xs ws k C i) 3, .cells [.ref 2 1] 22], mu := fun i => i }
abbrev an20b (xs ws : List Int) (k C : Int) (i : Nat) : Ann := { X := Nat, pre := fun r => xs.getD i 0 + k - 1 ≤ r ∧ (r : Int) ≤ C, mod := fun r _ => [(20, I r)], heap := fun r _ => [.cells [Ls ws] 22, .cells [Ls xs, I k, I C] 45, .vec 1 (.int .i64) (dpAt (dpE xs ws k C i) (xs.getD i 0 + k) (ws.getD i 0) r) 3, .cells [.ref 2 1] 22, .gone], mu := fun r => r }
theorem b20 (xs ws : List Int) (s L k : Int) : body Try.prog [c24, c32, c33, c34, c41] { loops := [(0, anW ws xs k (L + k))], asks := [(3, []), (5, [])] } true Try.f20 [Ls xs, Ls ws, I s, I L, I k] (.tup [I (dualR xs ws s L k), I (dualE xs ws s L k)]) := by
  (repeat' ((conv => whnf); first | (refine Giv.mk (fun _ => ?_)) | (refine Alt.l (Need.mk ?h ?_); case h => omega) | (refine Alt.r (Need.mk ?h ?_); case h => omega) | (refine Need.mk ?h ?_; case h => omega) | (refine Need.mk ?h ?_; case h => (intro _; rfl)) | (refine Need.mk ?h ?_; case h => assumption) | (refine Need.mk ?h ?_; case h => (simp <;> omega)) | (refine Ix.zero ?_) | (refine Ix.one ?_) | (refine Ix.two ?_) | (refine Ix.nat ?_) | (refine Ix.add ?_) | (apply Go.Eng.Pin.mk; apply Exists.intro) | (apply Go.Eng.Pinned.mk (Eq.refl _) (Eq.refl _)) | (apply Go.Eng.PinH.mk; apply Exists.intro; apply Exists.intro) | (exact Go.Eng.Fin0.mk) | (refine Go.Eng.Chk.mk ?_ ?_) | fail))
  (refine Br.mk (fun _ => ?_) (fun _ => ?_))
  · rename_i hz
    have ho := okx_of hz
    (repeat' ((conv => whnf); first | (refine Giv.mk (fun _ => ?_)) | (refine Alt.l (Need.mk ?h ?_); case h => omega) | (refine Alt.r (Need.mk ?h ?_); case h => omega) | (refine Need.mk ?h ?_; case h => omega) | (refine Need.mk ?h ?_; case h => (intro _; rfl)) | (refine Need.mk ?h ?_; case h => assumption) | (refine Need.mk ?h ?_; case h => (simp <;> omega)) | (refine Ix.zero ?_) | (refine Ix.one ?_) | (refine Ix.two ?_) | (refine Ix.nat ?_) | (refine Ix.add ?_) | (apply Go.Eng.Pin.mk; apply Exists.intro) | (apply Go.Eng.Pinned.mk (Eq.refl _) (Eq.refl _)) | (apply Go.Eng.PinH.mk; apply Exists.intro; apply Exists.intro) | (exact Go.Eng.Fin0.mk) | (refine Go.Eng.Chk.mk ?_ ?_) | (refine Br.mkY ?h ?_; case h => omega) | (refine Br.mkN ?h ?_; case h => omega) | fail))
    (refine Br.mk (fun _ => ?_) (fun _ => ?_))
    · rename_i hne
      have hne : ¬ xs.length = ws.length := by omega
      have hE : dualE xs ws s L k = 9 := by unfold dualE; rw [if_neg (by simp [hz]), if_pos hne]
      (repeat' ((conv => whnf); first | (refine Giv.mk (fun _ => ?_)) | (refine Alt.l (Need.mk ?h ?_); case h => omega) | (refine Alt.r (Need.mk ?h ?_); case h => omega) | (refine Need.mk ?h ?_; case h => omega) | (refine Need.mk ?h ?_; case h => (intro _; rfl)) | (refine Need.mk ?h ?_; case h => assumption) | (refine Need.mk ?h ?_; case h => (simp <;> omega)) | (refine Ix.zero ?_) | (refine Ix.one ?_) | (refine Ix.two ?_) | (refine Ix.nat ?_) | (refine Ix.add ?_) | (apply Go.Eng.Pin.mk; apply Exists.intro) | (apply Go.Eng.Pinned.mk (Eq.refl _) (Eq.refl _)) | (apply Go.Eng.PinH.mk; apply Exists.intro; apply Exists.intro) | (exact Go.Eng.Fin0.mk) | (refine Go.Eng.Chk.mk ?_ ?_) | fail))
      (repeat' (first | exact trivial | rfl | exact Nat.one_pos | (refine And.intro ?_ ?_) | ((conv => whnf); (refine And.intro ?_ ?_)) | ((conv => whnf); exact trivial)))
      · unfold dualR; rw [hE]; rfl
      · exact hE.symm
    · rename_i heq
      have heq : ws.length = xs.length := by omega
      have hlen := ho.len
      (repeat' ((conv => whnf); first | (refine Giv.mk (fun _ => ?_)) | (refine Alt.l (Need.mk ?h ?_); case h => omega) | (refine Alt.r (Need.mk ?h ?_); case h => omega) | (refine Need.mk ?h ?_; case h => omega) | (refine Need.mk ?h ?_; case h => (intro _; rfl)) | (refine Need.mk ?h ?_; case h => assumption) | (refine Need.mk ?h ?_; case h => (simp <;> omega)) | (refine Ix.zero ?_) | (refine Ix.one ?_) | (refine Ix.two ?_) | (refine Ix.nat ?_) | (refine Ix.add ?_) | (apply Go.Eng.Pin.mk; apply Exists.intro) | (apply Go.Eng.Pinned.mk (Eq.refl _) (Eq.refl _)) | (apply Go.Eng.PinH.mk; apply Exists.intro; apply Exists.intro) | (exact Go.Eng.Fin0.mk) | (refine Go.Eng.Chk.mk ?_ ?_) | fail))
      refine ⟨⟨(0 : Nat), ⟨Nat.zero_le _, rfl⟩, by (repeat' (first | exact trivial | rfl | exact Nat.one_pos | (refine And.intro ?_ ?_) | omega | ((conv => whnf); (refine And.intro ?_ ?_)) | ((conv => whnf); exact trivial)))⟩, fun (i : Nat) hi => ?_⟩
      obtain ⟨hi1, hi2⟩ := (show i ≤ ws.length ∧ (ws.take i).any badW = false from hi)
      have hsr := sum_range hi2
      have htl : (ws.take i).length = i := by simp; omega
      rw [htl] at hsr
      (repeat' ((conv => whnf); first | (refine Giv.mk (fun _ => ?_)) | (refine Alt.l (Need.mk ?h ?_); case h => omega) | (refine Alt.r (Need.mk ?h ?_); case h => omega) | (refine Need.mk ?h ?_; case h => omega) | (refine Need.mk ?h ?_; case h => (intro _; rfl)) | (refine Need.mk ?h ?_; case h => assumption) | (refine Need.mk ?h ?_; case h => (simp <;> omega)) | (refine Ix.zero ?_) | (refine Ix.one ?_) | (refine Ix.two ?_) | (refine Ix.nat ?_) | (refine Ix.add ?_) | (apply Go.Eng.Pin.mk; apply Exists.intro) | (apply Go.Eng.Pinned.mk (Eq.refl _) (Eq.refl _)) | (apply Go.Eng.PinH.mk; apply Exists.intro; apply Exists.intro) | (exact Go.Eng.Fin0.mk) | (refine Go.Eng.Chk.mk ?_ ?_) | fail))
      (refine Br.mk (fun _ => ?_) (fun _ => ?_))
      · have hlt : i < ws.length := by omega
        have hts := take_sum ws i hlt
        have hta := take_any ws badW i hlt
        rw [hi2, Bool.false_or] at hta
        (repeat' ((conv => whnf); first | (refine Giv.mk (fun _ => ?_)) | (refine Alt.l (Need.mk ?h ?_); case h => omega) | (refine Alt.r (Need.mk ?h ?_); case h => omega) | (refine Need.mk ?h ?_; case h => omega) | (refine Need.mk ?h ?_; case h => (intro _; rfl)) | (refine Need.mk ?h ?_; case h => assumption) | (refine Need.mk ?h ?_; case h => (simp <;> omega)) | (refine Ix.zero ?_) | (refine Ix.one ?_) | (refine Ix.two ?_) | (refine Ix.nat ?_) | (refine Ix.add ?_) | (apply Go.Eng.Pin.mk; apply Exists.intro) | (apply Go.Eng.Pinned.mk (Eq.refl _) (Eq.refl _)) | (apply Go.Eng.PinH.mk; apply Exists.intro; apply Exists.intro) | (exact Go.Eng.Fin0.mk) | (refine Go.Eng.Chk.mk ?_ ?_) | fail))
        (refine Br.mk (fun _ => ?_) (fun _ => ?_))
        · rename_i hbad
          have hany : ws.any badW = true := by
            rw [List.any_eq_true]
            refine ⟨ws.getD i 0, by rw [List.getD_eq_getElem?_getD, List.getElem?_eq_getElem hlt]; exact List.getElem_mem _, ?_⟩
            simp only [badW, decide_eq_true_eq]; omega
          have hE : dualE xs ws s L k = 2 := by unfold dualE; rw [if_neg (by simp [hz]), if_neg (by omega), if_pos hany]
          (repeat' ((conv => whnf); first | (refine Giv.mk (fun _ => ?_)) | (refine Alt.l (Need.mk ?h ?_); case h => omega) | (refine Alt.r (Need.mk ?h ?_); case h => omega) | (refine Need.mk ?h ?_; case h => omega) | (refine Need.mk ?h ?_; case h => (intro _; rfl)) | (refine Need.mk ?h ?_; case h => assumption) | (refine Need.mk ?h ?_; case h => (simp <;> omega)) | (refine Ix.zero ?_) | (refine Ix.one ?_) | (refine Ix.two ?_) | (refine Ix.nat ?_) | (refine Ix.add ?_) | (apply Go.Eng.Pin.mk; apply Exists.intro) | (apply Go.Eng.Pinned.mk (Eq.refl _) (Eq.refl _)) | (apply Go.Eng.PinH.mk; apply Exists.intro; apply Exists.intro) | (exact Go.Eng.Fin0.mk) | (refine Go.Eng.Chk.mk ?_ ?_) | fail))
          (repeat' (first | exact trivial | rfl | exact Nat.one_pos | (refine And.intro ?_ ?_) | ((conv => whnf); (refine And.intro ?_ ?_)) | ((conv => whnf); exact trivial)))
          · unfold dualR; rw [hE]; rfl
          · exact hE.symm
        · rename_i hok
          have hok' : badW (ws.getD i 0) = false := by simp only [badW, decide_eq_false_iff_not]; omega
          rw [hok'] at hta
          (repeat' ((conv => whnf); first | (refine Giv.mk (fun _ => ?_)) | (refine Alt.l (Need.mk ?h ?_); case h => omega) | (refine Alt.r (Need.mk ?h ?_); case h => omega) | (refine Need.mk ?h ?_; case h => omega) | (refine Need.mk ?h ?_; case h => (intro _; rfl)) | (refine Need.mk ?h ?_; case h => assumption) | (refine Need.mk ?h ?_; case h => (simp <;> omega)) | (refine Ix.zero ?_) | (refine Ix.one ?_) | (refine Ix.two ?_) | (refine Ix.nat ?_) | (refine Ix.add ?_) | (apply Go.Eng.Pin.mk; apply Exists.intro) | (apply Go.Eng.Pinned.mk (Eq.refl _) (Eq.refl _)) | (apply Go.Eng.PinH.mk; apply Exists.intro; apply Exists.intro) | (exact Go.Eng.Fin0.mk) | (refine Go.Eng.Chk.mk ?_ ?_) | fail))
          refine ⟨(i + 1 : Nat), by show ws.length - (i + 1) < ws.length - i; omega, ⟨hlt, hta⟩, ?_⟩
          (repeat' (first | exact trivial | rfl | exact Nat.one_pos | (refine And.intro ?_ ?_) | ((conv => whnf); (refine And.intro ?_ ?_)) | ((conv => whnf); exact trivial)))
          exact hts.symm
      · have hi3 : i = ws.length := by omega
        subst hi3
        rw [List.take_length] at hi2 hsr
        have hc0 := ho.c0
        have hc1 := ho.c1
        have hk0 := ho.k0
        have hmul : 0 ≤ (xs.length : Int) * (L + k + 1) ∧ (xs.length : Int) * (L + k + 1) ≤ 64 * 66537 := ⟨Int.mul_nonneg (by omega) (by omega), Int.mul_le_mul (by omega) (by omega) (by omega) (by omega)⟩
        (repeat' ((conv => whnf); first | (refine Giv.mk (fun _ => ?_)) | (refine Alt.l (Need.mk ?h ?_); case h => omega) | (refine Alt.r (Need.mk ?h ?_); case h => omega) | (refine Need.mk ?h ?_; case h => omega) | (refine Need.mk ?h ?_; case h => (intro _; rfl)) | (refine Need.mk ?h ?_; case h => assumption) | (refine Need.mk ?h ?_; case h => (simp <;> omega)) | (refine Ix.zero ?_) | (refine Ix.one ?_) | (refine Ix.two ?_) | (refine Ix.nat ?_) | (refine Ix.add ?_) | (apply Go.Eng.Pin.mk; apply Exists.intro) | (apply Go.Eng.Pinned.mk (Eq.refl _) (Eq.refl _)) | (apply Go.Eng.PinH.mk; apply Exists.intro; apply Exists.intro) | (exact Go.Eng.Fin0.mk) | (refine Go.Eng.Chk.mk ?_ ?_) | fail))
        (refine Br.mk (fun _ => ?_) (fun _ => ?_))
        · rename_i hbad
          have hE : dualE xs ws s L k = 2 := by unfold dualE; rw [if_neg (by simp [hz]), if_neg (by omega), if_neg (by simp [hi2]), if_pos hbad]
          (repeat' ((conv => whnf); first | (refine Giv.mk (fun _ => ?_)) | (refine Alt.l (Need.mk ?h ?_); case h => omega) | (refine Alt.r (Need.mk ?h ?_); case h => omega) | (refine Need.mk ?h ?_; case h => omega) | (refine Need.mk ?h ?_; case h => (intro _; rfl)) | (refine Need.mk ?h ?_; case h => assumption) | (refine Need.mk ?h ?_; case h => (simp <;> omega)) | (refine Ix.zero ?_) | (refine Ix.one ?_) | (refine Ix.two ?_) | (refine Ix.nat ?_) | (refine Ix.add ?_) | (apply Go.Eng.Pin.mk; apply Exists.intro) | (apply Go.Eng.Pinned.mk (Eq.refl _) (Eq.refl _)) | (apply Go.Eng.PinH.mk; apply Exists.intro; apply Exists.intro) | (exact Go.Eng.Fin0.mk) | (refine Go.Eng.Chk.mk ?_ ?_) | fail))
          (repeat' (first | exact trivial | rfl | exact Nat.one_pos | (refine And.intro ?_ ?_) | ((conv => whnf); (refine And.intro ?_ ?_)) | ((conv => whnf); exact trivial)))
          · unfold dualR; rw [hE]; rfl
          · exact hE.symm
        · rename_i hsc
          (repeat' ((conv => whnf); first | (refine Giv.mk (fun _ => ?_)) | (refine Alt.l (Need.mk ?h ?_); case h => omega) | (refine Alt.r (Need.mk ?h ?_); case h => omega) | (refine Need.mk ?h ?_; case h => omega) | (refine Need.mk ?h ?_; case h => (intro _; rfl)) | (refine Need.mk ?h ?_; case h => assumption) | (refine Need.mk ?h ?_; case h => (simp <;> omega)) | (refine Ix.zero ?_) | (refine Ix.one ?_) | (refine Ix.two ?_) | (refine Ix.nat ?_) | (refine Ix.add ?_) | (apply Go.Eng.Pin.mk; apply Exists.intro) | (apply Go.Eng.Pinned.mk (Eq.refl _) (Eq.refl _)) | (apply Go.Eng.PinH.mk; apply Exists.intro; apply Exists.intro) | (exact Go.Eng.Fin0.mk) | (refine Go.Eng.Chk.mk ?_ ?_) | fail))
          (refine Br.mk (fun _ => ?_) (fun _ => ?_))
          · rename_i hwork
            have hE : dualE xs ws s L k = 4 := by unfold dualE; rw [if_neg (by simp [hz]), if_neg (by omega), if_neg (by simp [hi2]), if_neg hsc, if_pos hwork]
            (repeat' ((conv => whnf); first | (refine Giv.mk (fun _ => ?_)) | (refine Alt.l (Need.mk ?h ?_); case h => omega) | (refine Alt.r (Need.mk ?h ?_); case h => omega) | (refine Need.mk ?h ?_; case h => omega) | (refine Need.mk ?h ?_; case h => (intro _; rfl)) | (refine Need.mk ?h ?_; case h => assumption) | (refine Need.mk ?h ?_; case h => (simp <;> omega)) | (refine Ix.zero ?_) | (refine Ix.one ?_) | (refine Ix.two ?_) | (refine Ix.nat ?_) | (refine Ix.add ?_) | (apply Go.Eng.Pin.mk; apply Exists.intro) | (apply Go.Eng.Pinned.mk (Eq.refl _) (Eq.refl _)) | (apply Go.Eng.PinH.mk; apply Exists.intro; apply Exists.intro) | (exact Go.Eng.Fin0.mk) | (refine Go.Eng.Chk.mk ?_ ?_) | fail))
            (repeat' (first | exact trivial | rfl | exact Nat.one_pos | (refine And.intro ?_ ?_) | ((conv => whnf); (refine And.intro ?_ ?_)) | ((conv => whnf); exact trivial)))
            · unfold dualR; rw [hE]; rfl
            · exact hE.symm
          · rename_i hwork
            (repeat' ((conv => whnf); first | (refine Giv.mk (fun _ => ?_)) | (refine Alt.l (Need.mk ?h ?_); case h => omega) | (refine Alt.r (Need.mk ?h ?_); case h => omega) | (refine Need.mk ?h ?_; case h => omega) | (refine Need.mk ?h ?_; case h => (intro _; rfl)) | (refine Need.mk ?h ?_; case h => assumption) | (refine Need.mk ?h ?_; case h => (simp <;> omega)) | (refine Ix.zero ?_) | (refine Ix.one ?_) | (refine Ix.two ?_) | (refine Ix.nat ?_) | (refine Ix.add ?_) | (apply Go.Eng.Pin.mk; apply Exists.intro) | (apply Go.Eng.Pinned.mk (Eq.refl _) (Eq.refl _)) | (apply Go.Eng.PinH.mk; apply Exists.intro; apply Exists.intro) | (exact Go.Eng.Fin0.mk) | (refine Go.Eng.Chk.mk ?_ ?_) | fail))
            refine Need.mk ⟨by omega, by omega, by omega, ?_⟩ ?_
            · show (L + k + 1) * ((8 : Nat) : Int) ≤ 140737488355328
              omega
            have hwm : ∀ w ∈ ws, 0 ≤ w ∧ w ≤ 1048576 := fun w hw => by
              have := List.any_eq_false.1 hi2 w hw
              simp only [badW, decide_eq_true_eq, Classical.not_not] at this
              exact this
            (repeat' ((conv => whnf); first | (refine Giv.mk (fun _ => ?_)) | (refine Alt.l (Need.mk ?h ?_); case h => omega) | (refine Alt.r (Need.mk ?h ?_); case h => omega) | (refine Need.mk ?h ?_; case h => omega) | (refine Need.mk ?h ?_; case h => (intro _; rfl)) | (refine Need.mk ?h ?_; case h => assumption) | (refine Need.mk ?h ?_; case h => (simp <;> omega)) | (refine Ix.zero ?_) | (refine Ix.one ?_) | (refine Ix.two ?_) | (refine Ix.nat ?_) | (refine Ix.add ?_) | (apply Go.Eng.Pin.mk; apply Exists.intro) | (apply Go.Eng.Pinned.mk (Eq.refl _) (Eq.refl _)) | (apply Go.Eng.PinH.mk; apply Exists.intro; apply Exists.intro) | (exact Go.Eng.Fin0.mk) | (refine Go.Eng.Chk.mk ?_ ?_) | fail))
            refine Ask.mk ⟨an20 xs ws k (L + k), rfl, ?_⟩
            (repeat' ((conv => whnf); first | (refine Giv.mk (fun _ => ?_)) | (refine Alt.l (Need.mk ?h ?_); case h => omega) | (refine Alt.r (Need.mk ?h ?_); case h => omega) | (refine Need.mk ?h ?_; case h => omega) | (refine Need.mk ?h ?_; case h => (intro _; rfl)) | (refine Need.mk ?h ?_; case h => assumption) | (refine Need.mk ?h ?_; case h => (simp <;> omega)) | (refine Ix.zero ?_) | (refine Ix.one ?_) | (refine Ix.two ?_) | (refine Ix.nat ?_) | (refine Ix.add ?_) | (apply Go.Eng.Pin.mk; apply Exists.intro) | (apply Go.Eng.Pinned.mk (Eq.refl _) (Eq.refl _)) | (apply Go.Eng.PinH.mk; apply Exists.intro; apply Exists.intro) | (exact Go.Eng.Fin0.mk) | (refine Go.Eng.Chk.mk ?_ ?_) | fail))
            refine ⟨⟨(0 : Nat), rfl, Nat.zero_le _, by (repeat' (first | exact trivial | rfl | exact Nat.one_pos | (refine And.intro ?_ ?_) | omega | ((conv => whnf); (refine And.intro ?_ ?_)) | ((conv => whnf); exact trivial)))⟩, fun (i : Nat) hi (hlt : i < xs.length) => ?_, fun (i : Nat) hi (he : i = xs.length) => ?_⟩
            · obtain ⟨h4, h5, h6⟩ := ho.el i hlt
              have h8 := ho.k1
              have hr0 := dpE_range xs k (L + k) hwm i
              have hl0 := dpE_len xs ws k (L + k) i
              have hv := getD_mem0 (p := fun w => 0 ≤ w ∧ w ≤ 1048576) (by omega) hwm i
              rw [show (an20 xs ws k (L + k)).mu i = i from rfl]
              (repeat' ((conv => whnf); first | (refine Giv.mk (fun _ => ?_)) | (refine Alt.l (Need.mk ?h ?_); case h => omega) | (refine Alt.r (Need.mk ?h ?_); case h => omega) | (refine Need.mk ?h ?_; case h => omega) | (refine Need.mk ?h ?_; case h => (intro _; rfl)) | (refine Need.mk ?h ?_; case h => assumption) | (refine Need.mk ?h ?_; case h => (simp <;> omega)) | (refine Ix.zero ?_) | (refine Ix.one ?_) | (refine Ix.two ?_) | (refine Ix.nat ?_) | (refine Ix.add ?_) | (apply Go.Eng.Pin.mk; apply Exists.intro) | (apply Go.Eng.Pinned.mk (Eq.refl _) (Eq.refl _)) | (apply Go.Eng.PinH.mk; apply Exists.intro; apply Exists.intro) | (exact Go.Eng.Fin0.mk) | (refine Go.Eng.Chk.mk ?_ ?_) | fail))
              refine Ask.mk ⟨an20b xs ws k (L + k) i, rfl, ?_⟩
              (repeat' ((conv => whnf); first | (refine Giv.mk (fun _ => ?_)) | (refine Alt.l (Need.mk ?h ?_); case h => omega) | (refine Alt.r (Need.mk ?h ?_); case h => omega) | (refine Need.mk ?h ?_; case h => omega) | (refine Need.mk ?h ?_; case h => (intro _; rfl)) | (refine Need.mk ?h ?_; case h => assumption) | (refine Need.mk ?h ?_; case h => (simp <;> omega)) | (refine Ix.zero ?_) | (refine Ix.one ?_) | (refine Ix.two ?_) | (refine Ix.nat ?_) | (refine Ix.add ?_) | (apply Go.Eng.Pin.mk; apply Exists.intro) | (apply Go.Eng.Pinned.mk (Eq.refl _) (Eq.refl _)) | (apply Go.Eng.PinH.mk; apply Exists.intro; apply Exists.intro) | (exact Go.Eng.Fin0.mk) | (refine Go.Eng.Chk.mk ?_ ?_) | fail))
              refine ⟨⟨(L + k).toNat, ⟨by omega, by omega⟩, ?_⟩, fun (r : Nat) hr => ?_⟩
              · (repeat' (first | exact trivial | rfl | exact Nat.one_pos | (refine And.intro ?_ ?_) | omega | ((conv => whnf); (refine And.intro ?_ ?_)) | ((conv => whnf); exact trivial)))
                exact (dpAt_start _ _ _ _ (by omega)).symm
              · obtain ⟨hr1, hr2⟩ := (show xs.getD i 0 + k - 1 ≤ r ∧ (r : Int) ≤ L + k from hr)
                have hl1 := dpAt_len (dpE xs ws k (L + k) i) (xs.getD i 0 + k) (ws.getD i 0) r
                have hra := fun j => dpAt_range (w := xs.getD i 0 + k) (r := r) (v := ws.getD i 0) (c := 1048576) hr0 hv.1 hv.2 (by omega) j
                (repeat' ((conv => whnf); first | (refine Giv.mk (fun _ => ?_)) | (refine Alt.l (Need.mk ?h ?_); case h => omega) | (refine Alt.r (Need.mk ?h ?_); case h => omega) | (refine Need.mk ?h ?_; case h => omega) | (refine Need.mk ?h ?_; case h => (intro _; rfl)) | (refine Need.mk ?h ?_; case h => assumption) | (refine Need.mk ?h ?_; case h => (simp <;> omega)) | (refine Ix.zero ?_) | (refine Ix.one ?_) | (refine Ix.two ?_) | (refine Ix.nat ?_) | (refine Ix.add ?_) | (apply Go.Eng.Pin.mk; apply Exists.intro) | (apply Go.Eng.Pinned.mk (Eq.refl _) (Eq.refl _)) | (apply Go.Eng.PinH.mk; apply Exists.intro; apply Exists.intro) | (exact Go.Eng.Fin0.mk) | (refine Go.Eng.Chk.mk ?_ ?_) | fail))
                (refine Br.mk (fun _ => ?_) (fun _ => ?_))
                · have hst := dpAt_step (dpE xs ws k (L + k) i) (xs.getD i 0 + k) (ws.getD i 0) r (by omega) (by omega) (by omega)
                  have hra1 := hra r
                  have hra2 := hra ((r : Int) - (xs.getD i 0 + k)).toNat
                  (repeat' ((conv => whnf); first | (refine Giv.mk (fun _ => ?_)) | (refine Alt.l (Need.mk ?h ?_); case h => omega) | (refine Alt.r (Need.mk ?h ?_); case h => omega) | (refine Need.mk ?h ?_; case h => omega) | (refine Need.mk ?h ?_; case h => (intro _; rfl)) | (refine Need.mk ?h ?_; case h => assumption) | (refine Need.mk ?h ?_; case h => (simp <;> omega)) | (refine Ix.zero ?_) | (refine Ix.one ?_) | (refine Ix.two ?_) | (refine Ix.nat ?_) | (refine Ix.add ?_) | (apply Go.Eng.Pin.mk; apply Exists.intro) | (apply Go.Eng.Pinned.mk (Eq.refl _) (Eq.refl _)) | (apply Go.Eng.PinH.mk; apply Exists.intro; apply Exists.intro) | (exact Go.Eng.Fin0.mk) | (refine Go.Eng.Chk.mk ?_ ?_) | fail))
                  refine ix_to ((r : Int) - (xs.getD i 0 + k)).toNat (by omega) ?_
                  (repeat' ((conv => whnf); first | (refine Giv.mk (fun _ => ?_)) | (refine Alt.l (Need.mk ?h ?_); case h => omega) | (refine Alt.r (Need.mk ?h ?_); case h => omega) | (refine Need.mk ?h ?_; case h => omega) | (refine Need.mk ?h ?_; case h => (intro _; rfl)) | (refine Need.mk ?h ?_; case h => assumption) | (refine Need.mk ?h ?_; case h => (simp <;> omega)) | (refine Ix.zero ?_) | (refine Ix.one ?_) | (refine Ix.two ?_) | (refine Ix.nat ?_) | (refine Ix.add ?_) | (apply Go.Eng.Pin.mk; apply Exists.intro) | (apply Go.Eng.Pinned.mk (Eq.refl _) (Eq.refl _)) | (apply Go.Eng.PinH.mk; apply Exists.intro; apply Exists.intro) | (exact Go.Eng.Fin0.mk) | (refine Go.Eng.Chk.mk ?_ ?_) | fail))
                  refine ⟨(r - 1 : Nat), by show r - 1 < r; omega, ⟨by omega, by omega⟩, ?_⟩
                  (repeat' (first | exact trivial | rfl | exact Nat.one_pos | (refine And.intro ?_ ?_) | ((conv => whnf); (refine And.intro ?_ ?_)) | ((conv => whnf); exact trivial)))
                  · omega
                  · show List.set _ _ _ = _
                    rw [hst]
                    congr 1
                    omega
                · have hen := dpAt_end (dpE xs ws k (L + k) i) (xs.getD i 0 + k) (ws.getD i 0) r (by omega)
                  (repeat' ((conv => whnf); first | (refine Giv.mk (fun _ => ?_)) | (refine Alt.l (Need.mk ?h ?_); case h => omega) | (refine Alt.r (Need.mk ?h ?_); case h => omega) | (refine Need.mk ?h ?_; case h => omega) | (refine Need.mk ?h ?_; case h => (intro _; rfl)) | (refine Need.mk ?h ?_; case h => assumption) | (refine Need.mk ?h ?_; case h => (simp <;> omega)) | (refine Ix.zero ?_) | (refine Ix.one ?_) | (refine Ix.two ?_) | (refine Ix.nat ?_) | (refine Ix.add ?_) | (apply Go.Eng.Pin.mk; apply Exists.intro) | (apply Go.Eng.Pinned.mk (Eq.refl _) (Eq.refl _)) | (apply Go.Eng.PinH.mk; apply Exists.intro; apply Exists.intro) | (exact Go.Eng.Fin0.mk) | (refine Go.Eng.Chk.mk ?_ ?_) | fail))
                  refine ⟨(i + 1 : Nat), rfl, hlt, ?_⟩
                  (repeat' (first | exact trivial | rfl | exact Nat.one_pos | (refine And.intro ?_ ?_) | ((conv => whnf); (refine And.intro ?_ ?_)) | ((conv => whnf); exact trivial)))
                  rw [hen]
                  exact (dpE_succ xs ws k (L + k) i).symm
            · have hi4 : i = xs.length := he
              subst hi4
              have hl0 := dpE_len xs ws k (L + k) xs.length
              have hdr := (dpE_range xs k (L + k) hwm xs.length (L + k).toNat)
              (repeat' ((conv => whnf); first | (refine Giv.mk (fun _ => ?_)) | (refine Alt.l (Need.mk ?h ?_); case h => omega) | (refine Alt.r (Need.mk ?h ?_); case h => omega) | (refine Need.mk ?h ?_; case h => omega) | (refine Need.mk ?h ?_; case h => (intro _; rfl)) | (refine Need.mk ?h ?_; case h => assumption) | (refine Need.mk ?h ?_; case h => (simp <;> omega)) | (refine Ix.zero ?_) | (refine Ix.one ?_) | (refine Ix.two ?_) | (refine Ix.nat ?_) | (refine Ix.add ?_) | (apply Go.Eng.Pin.mk; apply Exists.intro) | (apply Go.Eng.Pinned.mk (Eq.refl _) (Eq.refl _)) | (apply Go.Eng.PinH.mk; apply Exists.intro; apply Exists.intro) | (exact Go.Eng.Fin0.mk) | (refine Go.Eng.Chk.mk ?_ ?_) | fail))
              refine ix_to (L + k).toNat (by omega) ?_
              (repeat' ((conv => whnf); first | (refine Giv.mk (fun _ => ?_)) | (refine Alt.l (Need.mk ?h ?_); case h => omega) | (refine Alt.r (Need.mk ?h ?_); case h => omega) | (refine Need.mk ?h ?_; case h => omega) | (refine Need.mk ?h ?_; case h => (intro _; rfl)) | (refine Need.mk ?h ?_; case h => assumption) | (refine Need.mk ?h ?_; case h => (simp <;> omega)) | (refine Ix.zero ?_) | (refine Ix.one ?_) | (refine Ix.two ?_) | (refine Ix.nat ?_) | (refine Ix.add ?_) | (apply Go.Eng.Pin.mk; apply Exists.intro) | (apply Go.Eng.Pinned.mk (Eq.refl _) (Eq.refl _)) | (apply Go.Eng.PinH.mk; apply Exists.intro; apply Exists.intro) | (exact Go.Eng.Fin0.mk) | (refine Go.Eng.Chk.mk ?_ ?_) | fail))
              (refine Br.mk (fun _ => ?_) (fun _ => ?_))
              · rename_i hcert
                have hE : dualE xs ws s L k = 23 := by unfold dualE; rw [if_neg (by simp [hz]), if_neg (by omega), if_neg (by simp [hi2]), if_neg hsc, if_neg hwork, if_pos hcert]
                (repeat' ((conv => whnf); first | (refine Giv.mk (fun _ => ?_)) | (refine Alt.l (Need.mk ?h ?_); case h => omega) | (refine Alt.r (Need.mk ?h ?_); case h => omega) | (refine Need.mk ?h ?_; case h => omega) | (refine Need.mk ?h ?_; case h => (intro _; rfl)) | (refine Need.mk ?h ?_; case h => assumption) | (refine Need.mk ?h ?_; case h => (simp <;> omega)) | (refine Ix.zero ?_) | (refine Ix.one ?_) | (refine Ix.two ?_) | (refine Ix.nat ?_) | (refine Ix.add ?_) | (apply Go.Eng.Pin.mk; apply Exists.intro) | (apply Go.Eng.Pinned.mk (Eq.refl _) (Eq.refl _)) | (apply Go.Eng.PinH.mk; apply Exists.intro; apply Exists.intro) | (exact Go.Eng.Fin0.mk) | (refine Go.Eng.Chk.mk ?_ ?_) | fail))
                (repeat' (first | exact trivial | rfl | exact Nat.one_pos | (refine And.intro ?_ ?_) | ((conv => whnf); (refine And.intro ?_ ?_)) | ((conv => whnf); exact trivial)))
                · unfold dualR; rw [hE]; rfl
                · exact hE.symm
              · rename_i hcert
                have hE : dualE xs ws s L k = 0 := by unfold dualE; rw [if_neg (by simp [hz]), if_neg (by omega), if_neg (by simp [hi2]), if_neg hsc, if_neg hwork, if_neg hcert]
                (repeat' ((conv => whnf); first | (refine Giv.mk (fun _ => ?_)) | (refine Alt.l (Need.mk ?h ?_); case h => omega) | (refine Alt.r (Need.mk ?h ?_); case h => omega) | (refine Need.mk ?h ?_; case h => omega) | (refine Need.mk ?h ?_; case h => (intro _; rfl)) | (refine Need.mk ?h ?_; case h => assumption) | (refine Need.mk ?h ?_; case h => (simp <;> omega)) | (refine Ix.zero ?_) | (refine Ix.one ?_) | (refine Ix.two ?_) | (refine Ix.nat ?_) | (refine Ix.add ?_) | (apply Go.Eng.Pin.mk; apply Exists.intro) | (apply Go.Eng.Pinned.mk (Eq.refl _) (Eq.refl _)) | (apply Go.Eng.PinH.mk; apply Exists.intro; apply Exists.intro) | (exact Go.Eng.Fin0.mk) | (refine Go.Eng.Chk.mk ?_ ?_) | fail))
                (repeat' (first | exact trivial | rfl | exact Nat.one_pos | (refine And.intro ?_ ?_) | ((conv => whnf); (refine And.intro ?_ ?_)) | ((conv => whnf); exact trivial)))
                · unfold dualR; rw [hE, if_pos rfl, List.take_length]; rfl
                · exact hE.symm
  · rename_i hz
    have hE : dualE xs ws s L k = checkE xs L k := by unfold dualE; rw [if_pos hz]
    (repeat' ((conv => whnf); first | (refine Giv.mk (fun _ => ?_)) | (refine Alt.l (Need.mk ?h ?_); case h => omega) | (refine Alt.r (Need.mk ?h ?_); case h => omega) | (refine Need.mk ?h ?_; case h => omega) | (refine Need.mk ?h ?_; case h => (intro _; rfl)) | (refine Need.mk ?h ?_; case h => assumption) | (refine Need.mk ?h ?_; case h => (simp <;> omega)) | (refine Ix.zero ?_) | (refine Ix.one ?_) | (refine Ix.two ?_) | (refine Ix.nat ?_) | (refine Ix.add ?_) | (apply Go.Eng.Pin.mk; apply Exists.intro) | (apply Go.Eng.Pinned.mk (Eq.refl _) (Eq.refl _)) | (apply Go.Eng.PinH.mk; apply Exists.intro; apply Exists.intro) | (exact Go.Eng.Fin0.mk) | (refine Go.Eng.Chk.mk ?_ ?_) | fail))
    refine Br.mkY hz ?_
    (repeat' ((conv => whnf); first | (refine Giv.mk (fun _ => ?_)) | (refine Alt.l (Need.mk ?h ?_); case h => omega) | (refine Alt.r (Need.mk ?h ?_); case h => omega) | (refine Need.mk ?h ?_; case h => omega) | (refine Need.mk ?h ?_; case h => (intro _; rfl)) | (refine Need.mk ?h ?_; case h => assumption) | (refine Need.mk ?h ?_; case h => (simp <;> omega)) | (refine Ix.zero ?_) | (refine Ix.one ?_) | (refine Ix.two ?_) | (refine Ix.nat ?_) | (refine Ix.add ?_) | (apply Go.Eng.Pin.mk; apply Exists.intro) | (apply Go.Eng.Pinned.mk (Eq.refl _) (Eq.refl _)) | (apply Go.Eng.PinH.mk; apply Exists.intro; apply Exists.intro) | (exact Go.Eng.Fin0.mk) | (refine Go.Eng.Chk.mk ?_ ?_) | fail))
    (repeat' (first | exact trivial | rfl | exact Nat.one_pos | (refine And.intro ?_ ?_) | ((conv => whnf); (refine And.intro ?_ ?_)) | ((conv => whnf); exact trivial)))
    · unfold dualR; rw [hE, if_neg hz]
    · exact hE.symm
def c20 : Con := mkCon 20 true fun args K => match args with | [.seq (.int .i64) xs, .seq (.int .i64) ws, .val (.int .i64 s), .val (.int .i64 L), .val (.int .i64 k)] => K (.tup [I (dualR xs ws s L k), I (dualE xs ws s L k)]) | _ => False
theorem k20 : ConOK Try.prog c20 := by
  refine conOK_of rfl (enters_of Try.func20 (by kernel_rfl) rfl) ?_
  intro args K h
  simp only [c20] at h
  split at h
  · rename_i xs ws s L k; exact ⟨_, h, tri_of_body (Γ := [c24, c32, c33, c34, c41]) (by simp [k24, k32, k33, k34, k41]) Try.func20 (by simp [Try.ntmps20]) rfl (b20 xs ws s L k)⟩
  · exact h.elim
end NB
