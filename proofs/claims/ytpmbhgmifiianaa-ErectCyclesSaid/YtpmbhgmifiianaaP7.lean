/-
  Part 7: a symbolic executor over the model, contracts of functions and plain laws.
-/
import Derived.Test.YtpmbhgmifiianaaP6
section
set_option linter.unusedVariables false
open Go Go.Proofs Go.Eng Go.Shelf
set_option linter.unusedVariables false
namespace EB
set_option maxRecDepth 10000
theorem b79 (n : Int) (h : 0 ≤ n ∧ n ≤ 100000) : bodyO Try.prog [c64] { asks := [(0, [])] } Try.f79 [.seq (.int .i64) [-1], I n] (.ref 0 1) (.int .i64) (List.replicate n.toNat (-1)) 3 := by
  obtain ⟨h1, h2⟩ := h
  (repeat' ((conv => whnf); first | (refine Giv.mk fun _ => ?_) | (refine Alt.l (Need.mk ?h ?_); case h => omega) | (refine Alt.r (Need.mk ?h ?_); case h => omega) | (refine Need.mk ?h ?_; case h => first | omega | (intro _; rfl) | assumption | (simp <;> omega)) | refine Ix.zero ?_ | refine Ix.one ?_ | refine Ix.two ?_ | refine Ix.nat ?_ | refine Ix.add ?_ | (apply Go.Eng.Pin.mk; apply Exists.intro) | apply Go.Eng.Pinned.mk rfl rfl | (apply Go.Eng.PinH.mk; apply Exists.intro; apply Exists.intro) | exact Go.Eng.Fin0.mk | refine Go.Eng.Chk.mk ?_ ?_ | refine Own.l ?_ | (refine Br.mkY ?h ?_; case h => first | omega | assumption) | (refine Br.mkN ?h ?_; case h => first | omega | assumption | exact not_not_intro (by assumption)) | fail))
  refine Need.mk (show 0 ≤ n ∧ n ≤ n ∧ n ≤ 140737488355328 ∧ n * ((8 : Nat) : Int) ≤ 140737488355328 by omega) ?_
  (repeat' ((conv => whnf); first | (refine Giv.mk fun _ => ?_) | (refine Alt.l (Need.mk ?h ?_); case h => omega) | (refine Alt.r (Need.mk ?h ?_); case h => omega) | (refine Need.mk ?h ?_; case h => first | omega | (intro _; rfl) | assumption | (simp <;> omega)) | refine Ix.zero ?_ | refine Ix.one ?_ | refine Ix.two ?_ | refine Ix.nat ?_ | refine Ix.add ?_ | (apply Go.Eng.Pin.mk; apply Exists.intro) | apply Go.Eng.Pinned.mk rfl rfl | (apply Go.Eng.PinH.mk; apply Exists.intro; apply Exists.intro) | exact Go.Eng.Fin0.mk | refine Go.Eng.Chk.mk ?_ ?_ | refine Own.l ?_ | (refine Br.mkY ?h ?_; case h => first | omega | assumption) | (refine Br.mkN ?h ?_; case h => first | omega | assumption | exact not_not_intro (by assumption)) | fail))
  have hf := repL_first (-1 : Int) 0 n.toNat
  refine Ask.mk ⟨{ X := Nat, pre := fun k => k ≤ n.toNat ∧ (k = 0 → n.toNat = 0), mod := fun k _ => [(8, I k)], heap := fun k _ => [.vec 1 (.int .i64) [] 3, .vec 1 (.int .i64) (repL (-1 : Int) 0 n.toNat k) 3], mu := fun k => n.toNat - k }, rfl, ?_⟩
  (repeat' ((conv => whnf); first | (refine Giv.mk fun _ => ?_) | (refine Alt.l (Need.mk ?h ?_); case h => omega) | (refine Alt.r (Need.mk ?h ?_); case h => omega) | (refine Need.mk ?h ?_; case h => first | omega | (intro _; rfl) | assumption | (simp <;> omega)) | refine Ix.zero ?_ | refine Ix.one ?_ | refine Ix.two ?_ | refine Ix.nat ?_ | refine Ix.add ?_ | (apply Go.Eng.Pin.mk; apply Exists.intro) | apply Go.Eng.Pinned.mk rfl rfl | (apply Go.Eng.PinH.mk; apply Exists.intro; apply Exists.intro) | exact Go.Eng.Fin0.mk | refine Go.Eng.Chk.mk ?_ ?_ | refine Own.l ?_ | fail))
  refine ⟨⟨min 1 n.toNat, ⟨by omega, by omega⟩, ?_⟩, fun (k : Nat) hk => ?_⟩
  · (repeat' (first | exact trivial | rfl | exact Nat.one_pos | (refine And.intro ?_ ?_) | omega | ((conv => whnf); (refine And.intro ?_ ?_)) | ((conv => whnf); exact trivial)))
    · simp [Nat.min_comm]
    · rw [List.length_replicate, Nat.sub_zero, hf, repL_min]
      exact rfl
  · obtain ⟨hk, hk0⟩ := hk
    obtain ⟨e1, e2⟩ := repL_next (-1 : Int) 0 n.toNat k hk
    have hrl := repL_len (-1 : Int) 0 n.toNat k
    (repeat' ((conv => whnf); first | (refine Giv.mk fun _ => ?_) | (refine Alt.l (Need.mk ?h ?_); case h => omega) | (refine Alt.r (Need.mk ?h ?_); case h => omega) | (refine Need.mk ?h ?_; case h => first | omega | (intro _; rfl) | assumption | (simp <;> omega)) | refine Ix.zero ?_ | refine Ix.one ?_ | refine Ix.two ?_ | refine Ix.nat ?_ | refine Ix.add ?_ | (apply Go.Eng.Pin.mk; apply Exists.intro) | apply Go.Eng.Pinned.mk rfl rfl | (apply Go.Eng.PinH.mk; apply Exists.intro; apply Exists.intro) | exact Go.Eng.Fin0.mk | refine Go.Eng.Chk.mk ?_ ?_ | refine Own.l ?_ | fail))
    (refine Br.mk (fun _ => ?_) (fun _ => ?_))
    · have e3 : (((repL (-1 : Int) 0 n.toNat k).take k).drop 0).take ((repL (-1 : Int) 0 n.toNat k).length - k) = ((repL (-1 : Int) 0 n.toNat k).take k).take (n.toNat - k) := by rw [List.drop_zero, hrl]
      (repeat' ((conv => whnf); first | (refine Giv.mk fun _ => ?_) | (refine Alt.l (Need.mk ?h ?_); case h => omega) | (refine Alt.r (Need.mk ?h ?_); case h => omega) | (refine Need.mk ?h ?_; case h => first | omega | (intro _; rfl) | assumption | (simp <;> omega)) | refine Ix.zero ?_ | refine Ix.one ?_ | refine Ix.two ?_ | refine Ix.nat ?_ | refine Ix.add ?_ | (apply Go.Eng.Pin.mk; apply Exists.intro) | apply Go.Eng.Pinned.mk rfl rfl | (apply Go.Eng.PinH.mk; apply Exists.intro; apply Exists.intro) | exact Go.Eng.Fin0.mk | refine Go.Eng.Chk.mk ?_ ?_ | refine Own.r ?_ | fail))
      refine ⟨k + min k (n.toNat - k), by show n.toNat - (k + min k (n.toNat - k)) < n.toNat - k; omega, ⟨by omega, by omega⟩, ?_⟩
      (repeat' (first | exact trivial | rfl | exact Nat.one_pos | (refine And.intro ?_ ?_) | omega | ((conv => whnf); (refine And.intro ?_ ?_)) | ((conv => whnf); exact trivial)))
      · rw [e3, e2]; omega
      · rw [e3, e1]
        exact rfl
    · have hall := repL_all (-1 : Int) 0 n.toNat k (by omega)
      (repeat' ((conv => whnf); first | (refine Giv.mk fun _ => ?_) | (refine Alt.l (Need.mk ?h ?_); case h => omega) | (refine Alt.r (Need.mk ?h ?_); case h => omega) | (refine Need.mk ?h ?_; case h => first | omega | (intro _; rfl) | assumption | (simp <;> omega)) | refine Ix.zero ?_ | refine Ix.one ?_ | refine Ix.two ?_ | refine Ix.nat ?_ | refine Ix.add ?_ | (apply Go.Eng.Pin.mk; apply Exists.intro) | apply Go.Eng.Pinned.mk rfl rfl | (apply Go.Eng.PinH.mk; apply Exists.intro; apply Exists.intro) | exact Go.Eng.Fin0.mk | refine Go.Eng.Chk.mk ?_ ?_ | refine Own.l ?_ | (refine Br.mkY ?h ?_; case h => first | omega | assumption) | (refine Br.mkN ?h ?_; case h => first | omega | assumption | exact not_not_intro (by assumption)) | fail))
      (repeat' (first | exact trivial | rfl | exact Nat.one_pos | (refine And.intro ?_ ?_) | ((conv => whnf); (refine And.intro ?_ ?_)) | ((conv => whnf); exact trivial)))
      exact hall
def c79 : Con := ownCon 79 fun args K => match args with | [.seq (.int .i64) [-1], .val (.int .i64 n)] => Need (0 ≤ n ∧ n ≤ 100000) (K (.ref 0 1) (.vec 1 (.int .i64) (List.replicate n.toNat (-1)) 3)) | _ => False
theorem k79 : ConOK Try.prog c79 := by
  refine ownOK_of (enters_of Try.func79 (by kernel_rfl) rfl) ?_
  intro args K h
  split at h
  · rename_i n; exact ⟨_, _, _, _, _, h.go, fun hfl => otri_of_body (Γ := [c64]) (by simp [k64]) Try.func79 (by simp [Try.ntmps79]) hfl (b79 n h.ok)⟩
  · exact h.elim
theorem d01 (xs : List Int) (k : Nat) (h : k < xs.length) : xs.getD k 0 = xs.getD k (-1) := by simp [List.getD_eq_getElem?_getD, h]
/-- What is known in the midst of a pass. -/
structure DP (on : List (List Int)) (to : Int) (far0 : List Int) (x : List Int × Bool) : Prop where
  di : DI on to x.1
  yes : x.2 = true → phiTo on.length x.1 on.length < phiTo on.length far0 on.length
  no : x.2 = false → x.1 = far0
theorem b71 (on : List (List Int)) (to : Int) (h : ∃ n, Rows2 on n ∧ (0 ≤ to ∧ to < n) ∧ (∀ u, (on.getD u []).length ≤ 4096) ∧ n ≤ 512) : body Try.prog [c79] { asks := [(0, []), (2, []), (4, [])] } true Try.f71 [Rs on, I to] (Ls (distL on to)) := by
  obtain ⟨n, h1, h2, h3, h4⟩ := h
  obtain ⟨h5, h6⟩ := id h1
  (repeat' ((conv => whnf); first | (refine Giv.mk fun _ => ?_) | (refine Alt.l (Need.mk ?h ?_); case h => omega) | (refine Alt.r (Need.mk ?h ?_); case h => omega) | (refine Need.mk ?h ?_; case h => first | omega | (intro _; rfl) | assumption | (simp <;> omega)) | refine Ix.zero ?_ | refine Ix.one ?_ | refine Ix.two ?_ | refine Ix.nat ?_ | refine Ix.add ?_ | (apply Go.Eng.Pin.mk; apply Exists.intro) | apply Go.Eng.Pinned.mk rfl rfl | (apply Go.Eng.PinH.mk; apply Exists.intro; apply Exists.intro) | exact Go.Eng.Fin0.mk | refine Go.Eng.Chk.mk ?_ ?_ | refine Own.l ?_ | fail))
  refine ix_at to.toNat (by omega) ?_
  (repeat' ((conv => whnf); first | (refine Giv.mk fun _ => ?_) | (refine Alt.l (Need.mk ?h ?_); case h => omega) | (refine Alt.r (Need.mk ?h ?_); case h => omega) | (refine Need.mk ?h ?_; case h => first | omega | (intro _; rfl) | assumption | (simp <;> omega)) | refine Ix.zero ?_ | refine Ix.one ?_ | refine Ix.two ?_ | refine Ix.nat ?_ | refine Ix.add ?_ | (apply Go.Eng.Pin.mk; apply Exists.intro) | apply Go.Eng.Pinned.mk rfl rfl | (apply Go.Eng.PinH.mk; apply Exists.intro; apply Exists.intro) | exact Go.Eng.Fin0.mk | refine Go.Eng.Chk.mk ?_ ?_ | refine Own.l ?_ | fail))
  refine Ask.mk ⟨{ X := List Int × Bool, pre := fun x => DI on to x.1 ∧ (x.2 = false → ∀ u : Nat, u < on.length → ∀ v, Edge on u v → okE x.1 u v), mod := fun x _ => [(6, .bl (x.2 = true) inferInstance)], heap := fun x _ => [.vec 1 (.int .i64) [] 3, .vec 1 (.int .i64) x.1 3], mu := fun x => 2 * phiTo on.length x.1 on.length + (if x.2 = true then 1 else 0) }, rfl, ?_⟩
  (repeat' ((conv => whnf); first | (refine Giv.mk fun _ => ?_) | (refine Alt.l (Need.mk ?h ?_); case h => omega) | (refine Alt.r (Need.mk ?h ?_); case h => omega) | (refine Need.mk ?h ?_; case h => first | omega | (intro _; rfl) | assumption | (simp <;> omega)) | refine Ix.zero ?_ | refine Ix.one ?_ | refine Ix.two ?_ | refine Ix.nat ?_ | refine Ix.add ?_ | (apply Go.Eng.Pin.mk; apply Exists.intro) | apply Go.Eng.Pinned.mk rfl rfl | (apply Go.Eng.PinH.mk; apply Exists.intro; apply Exists.intro) | exact Go.Eng.Fin0.mk | refine Go.Eng.Chk.mk ?_ ?_ | refine Own.l ?_ | fail))
  refine ⟨⟨((List.replicate on.length (-1 : Int)).set to.toNat 0, true), ⟨di_zero h5 h2, fun h => nomatch h⟩, ?_⟩, fun (x : List Int × Bool) hx => ?_⟩
  · (repeat' (first | exact trivial | rfl | exact Nat.one_pos | (refine And.intro ?_ ?_) | omega | ((conv => whnf); (refine And.intro ?_ ?_)) | ((conv => whnf); exact trivial)))
  · obtain ⟨hx1, hx2⟩ := hx
    (repeat' ((conv => whnf); first | (refine Giv.mk fun _ => ?_) | (refine Alt.l (Need.mk ?h ?_); case h => omega) | (refine Alt.r (Need.mk ?h ?_); case h => omega) | (refine Need.mk ?h ?_; case h => first | omega | (intro _; rfl) | assumption | (simp <;> omega)) | refine Ix.zero ?_ | refine Ix.one ?_ | refine Ix.two ?_ | refine Ix.nat ?_ | refine Ix.add ?_ | (apply Go.Eng.Pin.mk; apply Exists.intro) | apply Go.Eng.Pinned.mk rfl rfl | (apply Go.Eng.PinH.mk; apply Exists.intro; apply Exists.intro) | exact Go.Eng.Fin0.mk | refine Go.Eng.Chk.mk ?_ ?_ | refine Own.l ?_ | fail))
    (refine Br.mk (fun _ => ?_) (fun _ => ?_))
    · rename_i hch
      (repeat' ((conv => whnf); first | (refine Giv.mk fun _ => ?_) | (refine Alt.l (Need.mk ?h ?_); case h => omega) | (refine Alt.r (Need.mk ?h ?_); case h => omega) | (refine Need.mk ?h ?_; case h => first | omega | (intro _; rfl) | assumption | (simp <;> omega)) | refine Ix.zero ?_ | refine Ix.one ?_ | refine Ix.two ?_ | refine Ix.nat ?_ | refine Ix.add ?_ | (apply Go.Eng.Pin.mk; apply Exists.intro) | apply Go.Eng.Pinned.mk rfl rfl | (apply Go.Eng.PinH.mk; apply Exists.intro; apply Exists.intro) | exact Go.Eng.Fin0.mk | refine Go.Eng.Chk.mk ?_ ?_ | refine Own.l ?_ | fail))
      refine Ask.mk ⟨{ X := (List Int × Bool) × Nat, pre := fun y => y.2 ≤ on.length ∧ DP on to x.1 y.1 ∧ (y.1.2 = false → ∀ u : Nat, u < y.2 → ∀ v, Edge on u v → okE x.1 u v), mod := fun y _ => [(6, .bl (y.1.2 = true) inferInstance), (20, I y.2)], heap := fun y _ => [.vec 1 (.int .i64) [] 3, .vec 1 (.int .i64) y.1.1 3], mu := fun y => on.length - y.2 }, rfl, ?_⟩
      (repeat' ((conv => whnf); first | (refine Giv.mk fun _ => ?_) | (refine Alt.l (Need.mk ?h ?_); case h => omega) | (refine Alt.r (Need.mk ?h ?_); case h => omega) | (refine Need.mk ?h ?_; case h => first | omega | (intro _; rfl) | assumption | (simp <;> omega)) | refine Ix.zero ?_ | refine Ix.one ?_ | refine Ix.two ?_ | refine Ix.nat ?_ | refine Ix.add ?_ | (apply Go.Eng.Pin.mk; apply Exists.intro) | apply Go.Eng.Pinned.mk rfl rfl | (apply Go.Eng.PinH.mk; apply Exists.intro; apply Exists.intro) | exact Go.Eng.Fin0.mk | refine Go.Eng.Chk.mk ?_ ?_ | refine Own.l ?_ | fail))
      refine ⟨⟨((x.1, false), (0 : Nat)), ⟨Nat.zero_le _, ⟨hx1, (fun h => nomatch h), fun _ => rfl⟩, fun _ u hu => absurd hu (Nat.not_lt_zero _)⟩, ?_⟩, fun (y : (List Int × Bool) × Nat) hy => ?_⟩
      · (repeat' (first | exact trivial | rfl | exact Nat.one_pos | (refine And.intro ?_ ?_) | omega | ((conv => whnf); (refine And.intro ?_ ?_)) | ((conv => whnf); exact trivial)))
        intro h
        exact nomatch h
      · obtain ⟨y1, y2, y3⟩ := hy
        obtain ⟨p1, p2, p3⟩ := id y2
        (repeat' ((conv => whnf); first | (refine Giv.mk fun _ => ?_) | (refine Alt.l (Need.mk ?h ?_); case h => omega) | (refine Alt.r (Need.mk ?h ?_); case h => omega) | (refine Need.mk ?h ?_; case h => first | omega | (intro _; rfl) | assumption | (simp <;> omega)) | refine Ix.zero ?_ | refine Ix.one ?_ | refine Ix.two ?_ | refine Ix.nat ?_ | refine Ix.add ?_ | (apply Go.Eng.Pin.mk; apply Exists.intro) | apply Go.Eng.Pinned.mk rfl rfl | (apply Go.Eng.PinH.mk; apply Exists.intro; apply Exists.intro) | exact Go.Eng.Fin0.mk | refine Go.Eng.Chk.mk ?_ ?_ | refine Own.l ?_ | fail))
        (refine Br.mk (fun _ => ?_) (fun _ => ?_))
        · have hlt : y.2 < on.length := by omega
          have hrow := h3 y.2
          (repeat' ((conv => whnf); first | (refine Giv.mk fun _ => ?_) | (refine Alt.l (Need.mk ?h ?_); case h => omega) | (refine Alt.r (Need.mk ?h ?_); case h => omega) | (refine Need.mk ?h ?_; case h => first | omega | (intro _; rfl) | assumption | (simp <;> omega)) | refine Ix.zero ?_ | refine Ix.one ?_ | refine Ix.two ?_ | refine Ix.nat ?_ | refine Ix.add ?_ | (apply Go.Eng.Pin.mk; apply Exists.intro) | apply Go.Eng.Pinned.mk rfl rfl | (apply Go.Eng.PinH.mk; apply Exists.intro; apply Exists.intro) | exact Go.Eng.Fin0.mk | refine Go.Eng.Chk.mk ?_ ?_ | refine Own.l ?_ | fail))
          refine Ask.mk ⟨{ X := (List Int × Bool) × Nat, pre := fun z => z.2 ≤ (on.getD y.2 []).length ∧ DP on to x.1 z.1 ∧ (z.1.2 = false → (∀ u : Nat, u < y.2 → ∀ v, Edge on u v → okE x.1 u v) ∧ ∀ q, q < z.2 → okE x.1 y.2 ((on.getD y.2 []).getD q 0)), mod := fun z _ => [(6, .bl (z.1.2 = true) inferInstance), (28, I z.2)], heap := fun z _ => [.vec 1 (.int .i64) [] 3, .vec 1 (.int .i64) z.1.1 3], mu := fun z => (on.getD y.2 []).length - z.2 }, rfl, ?_⟩
          (repeat' ((conv => whnf); first | (refine Giv.mk fun _ => ?_) | (refine Alt.l (Need.mk ?h ?_); case h => omega) | (refine Alt.r (Need.mk ?h ?_); case h => omega) | (refine Need.mk ?h ?_; case h => first | omega | (intro _; rfl) | assumption | (simp <;> omega)) | refine Ix.zero ?_ | refine Ix.one ?_ | refine Ix.two ?_ | refine Ix.nat ?_ | refine Ix.add ?_ | (apply Go.Eng.Pin.mk; apply Exists.intro) | apply Go.Eng.Pinned.mk rfl rfl | (apply Go.Eng.PinH.mk; apply Exists.intro; apply Exists.intro) | exact Go.Eng.Fin0.mk | refine Go.Eng.Chk.mk ?_ ?_ | refine Own.l ?_ | fail))
          refine ⟨⟨(y.1, (0 : Nat)), ⟨Nat.zero_le _, y2, fun h => ⟨y3 h, fun q hq => absurd hq (Nat.not_lt_zero _)⟩⟩, ?_⟩, fun (z : (List Int × Bool) × Nat) hz => ?_⟩
          · (repeat' (first | exact trivial | rfl | exact Nat.one_pos | (refine And.intro ?_ ?_) | omega | ((conv => whnf); (refine And.intro ?_ ?_)) | ((conv => whnf); exact trivial)))
          · obtain ⟨z1, z2, z3⟩ := hz
            obtain ⟨r1, r2, r3⟩ := id z2
            have hfl := r1.len
            (repeat' ((conv => whnf); first | (refine Giv.mk fun _ => ?_) | (refine Alt.l (Need.mk ?h ?_); case h => omega) | (refine Alt.r (Need.mk ?h ?_); case h => omega) | (refine Need.mk ?h ?_; case h => first | omega | (intro _; rfl) | assumption | (simp <;> omega)) | refine Ix.zero ?_ | refine Ix.one ?_ | refine Ix.two ?_ | refine Ix.nat ?_ | refine Ix.add ?_ | (apply Go.Eng.Pin.mk; apply Exists.intro) | apply Go.Eng.Pinned.mk rfl rfl | (apply Go.Eng.PinH.mk; apply Exists.intro; apply Exists.intro) | exact Go.Eng.Fin0.mk | refine Go.Eng.Chk.mk ?_ ?_ | refine Own.l ?_ | fail))
            (refine Br.mk (fun _ => ?_) (fun _ => ?_))
            · have hzt : z.2 < (on.getD y.2 []).length := by omega
              have he : Edge on y.2 ((on.getD y.2 []).getD z.2 0) := by
                unfold Edge
                rw [Int.toNat_natCast, List.getD_eq_getElem?_getD (l := on.getD y.2 []), List.getElem?_eq_getElem hzt]; exact List.getElem_mem _
              obtain ⟨k0, k1⟩ := h6 _ _ he
              have e1 := d01 z.1.1 ((on.getD y.2 []).getD z.2 0).toNat (by omega)
              have e2 := d01 z.1.1 y.2 (by omega)
              have hcn := r1.cnt ((on.getD y.2 []).getD z.2 0).toNat
              have hcl := cntTo_le z.1.1 on.length
              have hst := di_step h1 h2 r1 hlt he
              rw [← e1, ← e2] at hst
              rw [← e1] at hcn
              have hphi : phiTo on.length z.1.1 on.length ≤ phiTo on.length x.1 on.length := by
                by_cases hz2 : z.1.2 = true
                · exact Nat.le_of_lt (r2 hz2)
                · rw [r3 (Bool.eq_false_iff.2 hz2)]; exact Nat.le_refl _
              have skip : okE z.1.1 y.2 ((on.getD y.2 []).getD z.2 0) → z.2 + 1 ≤ (on.getD y.2 []).length ∧ DP on to x.1 z.1 ∧ (z.1.2 = false → (∀ u : Nat, u < y.2 → ∀ v, Edge on u v → okE x.1 u v) ∧ ∀ q, q < z.2 + 1 → okE x.1 y.2 ((on.getD y.2 []).getD q 0)) := fun hk => ⟨hzt, z2, fun h => ⟨(z3 h).1, fun q hq => by
                by_cases e : q = z.2
                · subst e; rw [← r3 h]; exact hk
                · exact (z3 h).2 q (by omega)⟩⟩
              have chg : ∀ (c0 : 0 ≤ z.1.1.getD ((on.getD y.2 []).getD z.2 0).toNat 0) (c1 : z.1.1.getD y.2 0 < 0 ∨ z.1.1.getD ((on.getD y.2 []).getD z.2 0).toNat 0 + 1 < z.1.1.getD y.2 0), z.2 + 1 ≤ (on.getD y.2 []).length ∧ DP on to x.1 (z.1.1.set y.2 (z.1.1.getD ((on.getD y.2 []).getD z.2 0).toNat 0 + 1), true) ∧ (true = false → (∀ u : Nat, u < y.2 → ∀ v, Edge on u v → okE x.1 u v) ∧ ∀ q, q < z.2 + 1 → okE x.1 y.2 ((on.getD y.2 []).getD q 0)) := fun c0 c1 => ⟨hzt, ⟨(hst c0 c1).1, fun _ => Nat.lt_of_lt_of_le (hst c0 c1).2 hphi, fun h => nomatch h⟩, fun h => nomatch h⟩
              have hok : ¬ (0 ≤ z.1.1.getD ((on.getD y.2 []).getD z.2 0).toNat 0 ∧ (z.1.1.getD y.2 0 < 0 ∨ z.1.1.getD ((on.getD y.2 []).getD z.2 0).toNat 0 + 1 < z.1.1.getD y.2 0)) → okE z.1.1 y.2 ((on.getD y.2 []).getD z.2 0) := fun hn h0 => by
                rw [Int.toNat_natCast, ← e1, ← e2]
                rw [← e1] at h0
                omega
              (repeat' ((conv => whnf); first | (refine Giv.mk fun _ => ?_) | (refine Alt.l (Need.mk ?h ?_); case h => omega) | (refine Alt.r (Need.mk ?h ?_); case h => omega) | (refine Need.mk ?h ?_; case h => first | omega | (intro _; rfl) | assumption | (simp <;> omega)) | refine Ix.zero ?_ | refine Ix.one ?_ | refine Ix.two ?_ | refine Ix.nat ?_ | refine Ix.add ?_ | (apply Go.Eng.Pin.mk; apply Exists.intro) | apply Go.Eng.Pinned.mk rfl rfl | (apply Go.Eng.PinH.mk; apply Exists.intro; apply Exists.intro) | exact Go.Eng.Fin0.mk | refine Go.Eng.Chk.mk ?_ ?_ | refine Own.l ?_ | fail))
              refine ix_at ((on.getD y.2 []).getD z.2 0).toNat (by omega) ?_
              (repeat' ((conv => whnf); first | (refine Giv.mk fun _ => ?_) | (refine Alt.l (Need.mk ?h ?_); case h => omega) | (refine Alt.r (Need.mk ?h ?_); case h => omega) | (refine Need.mk ?h ?_; case h => first | omega | (intro _; rfl) | assumption | (simp <;> omega)) | refine Ix.zero ?_ | refine Ix.one ?_ | refine Ix.two ?_ | refine Ix.nat ?_ | refine Ix.add ?_ | (apply Go.Eng.Pin.mk; apply Exists.intro) | apply Go.Eng.Pinned.mk rfl rfl | (apply Go.Eng.PinH.mk; apply Exists.intro; apply Exists.intro) | exact Go.Eng.Fin0.mk | refine Go.Eng.Chk.mk ?_ ?_ | refine Own.l ?_ | fail))
              (repeat' ((conv => whnf); first | (refine Giv.mk fun _ => ?_) | (refine Alt.l (Need.mk ?h ?_); case h => omega) | (refine Alt.r (Need.mk ?h ?_); case h => omega) | (refine Need.mk ?h ?_; case h => first | omega | (intro _; rfl) | assumption | (simp <;> omega)) | refine Ix.zero ?_ | refine Ix.one ?_ | refine Ix.two ?_ | refine Ix.nat ?_ | refine Ix.add ?_ | (apply Go.Eng.Pin.mk; apply Exists.intro) | apply Go.Eng.Pinned.mk rfl rfl | (apply Go.Eng.PinH.mk; apply Exists.intro; apply Exists.intro) | exact Go.Eng.Fin0.mk | refine Go.Eng.Chk.mk ?_ ?_ | refine Own.l ?_ | (refine Br.mkY ?h ?_; case h => first | omega | assumption) | (refine Br.mkN ?h ?_; case h => first | omega | assumption | exact not_not_intro (by assumption)) | (refine Br.mk (fun _ => ?_) (fun _ => ?_)) | fail))
              · refine ix_at ((on.getD y.2 []).getD z.2 0).toNat (by omega) ?_
                (repeat' ((conv => whnf); first | (refine Giv.mk fun _ => ?_) | (refine Alt.l (Need.mk ?h ?_); case h => omega) | (refine Alt.r (Need.mk ?h ?_); case h => omega) | (refine Need.mk ?h ?_; case h => first | omega | (intro _; rfl) | assumption | (simp <;> omega)) | refine Ix.zero ?_ | refine Ix.one ?_ | refine Ix.two ?_ | refine Ix.nat ?_ | refine Ix.add ?_ | (apply Go.Eng.Pin.mk; apply Exists.intro) | apply Go.Eng.Pinned.mk rfl rfl | (apply Go.Eng.PinH.mk; apply Exists.intro; apply Exists.intro) | exact Go.Eng.Fin0.mk | refine Go.Eng.Chk.mk ?_ ?_ | refine Own.l ?_ | fail))
                refine ⟨((z.1.1.set y.2 (z.1.1.getD ((on.getD y.2 []).getD z.2 0).toNat 0 + 1), true), (z.2 + 1 : Nat)), by show (on.getD y.2 []).length - (z.2 + 1) < (on.getD y.2 []).length - z.2; omega, chg ‹_› (.inl ‹_›), ?_⟩
                (repeat' (first | exact trivial | rfl | exact Nat.one_pos | (refine And.intro ?_ ?_) | omega | ((conv => whnf); (refine And.intro ?_ ?_)) | ((conv => whnf); exact trivial)))
              · refine ix_at ((on.getD y.2 []).getD z.2 0).toNat (by omega) ?_
                (repeat' ((conv => whnf); first | (refine Giv.mk fun _ => ?_) | (refine Alt.l (Need.mk ?h ?_); case h => omega) | (refine Alt.r (Need.mk ?h ?_); case h => omega) | (refine Need.mk ?h ?_; case h => first | omega | (intro _; rfl) | assumption | (simp <;> omega)) | refine Ix.zero ?_ | refine Ix.one ?_ | refine Ix.two ?_ | refine Ix.nat ?_ | refine Ix.add ?_ | (apply Go.Eng.Pin.mk; apply Exists.intro) | apply Go.Eng.Pinned.mk rfl rfl | (apply Go.Eng.PinH.mk; apply Exists.intro; apply Exists.intro) | exact Go.Eng.Fin0.mk | refine Go.Eng.Chk.mk ?_ ?_ | refine Own.l ?_ | (refine Br.mkY ?h ?_; case h => first | omega | assumption) | (refine Br.mkN ?h ?_; case h => first | omega | assumption | exact not_not_intro (by assumption)) | (refine Br.mk (fun _ => ?_) (fun _ => ?_)) | fail))
                · refine ix_at ((on.getD y.2 []).getD z.2 0).toNat (by omega) ?_
                  (repeat' ((conv => whnf); first | (refine Giv.mk fun _ => ?_) | (refine Alt.l (Need.mk ?h ?_); case h => omega) | (refine Alt.r (Need.mk ?h ?_); case h => omega) | (refine Need.mk ?h ?_; case h => first | omega | (intro _; rfl) | assumption | (simp <;> omega)) | refine Ix.zero ?_ | refine Ix.one ?_ | refine Ix.two ?_ | refine Ix.nat ?_ | refine Ix.add ?_ | (apply Go.Eng.Pin.mk; apply Exists.intro) | apply Go.Eng.Pinned.mk rfl rfl | (apply Go.Eng.PinH.mk; apply Exists.intro; apply Exists.intro) | exact Go.Eng.Fin0.mk | refine Go.Eng.Chk.mk ?_ ?_ | refine Own.l ?_ | fail))
                  refine ⟨((z.1.1.set y.2 (z.1.1.getD ((on.getD y.2 []).getD z.2 0).toNat 0 + 1), true), (z.2 + 1 : Nat)), by show (on.getD y.2 []).length - (z.2 + 1) < (on.getD y.2 []).length - z.2; omega, chg ‹_› (.inr ‹_›), ?_⟩
                  (repeat' (first | exact trivial | rfl | exact Nat.one_pos | (refine And.intro ?_ ?_) | omega | ((conv => whnf); (refine And.intro ?_ ?_)) | ((conv => whnf); exact trivial)))
                · refine ⟨(z.1, (z.2 + 1 : Nat)), by show (on.getD y.2 []).length - (z.2 + 1) < (on.getD y.2 []).length - z.2; omega, skip (hok (by omega)), ?_⟩
                  (repeat' (first | exact trivial | rfl | exact Nat.one_pos | (refine And.intro ?_ ?_) | omega | ((conv => whnf); (refine And.intro ?_ ?_)) | ((conv => whnf); exact trivial)))
              · refine ⟨(z.1, (z.2 + 1 : Nat)), by show (on.getD y.2 []).length - (z.2 + 1) < (on.getD y.2 []).length - z.2; omega, skip (hok (by omega)), ?_⟩
                (repeat' (first | exact trivial | rfl | exact Nat.one_pos | (refine And.intro ?_ ?_) | omega | ((conv => whnf); (refine And.intro ?_ ?_)) | ((conv => whnf); exact trivial)))
            · (repeat' ((conv => whnf); first | (refine Giv.mk fun _ => ?_) | (refine Alt.l (Need.mk ?h ?_); case h => omega) | (refine Alt.r (Need.mk ?h ?_); case h => omega) | (refine Need.mk ?h ?_; case h => first | omega | (intro _; rfl) | assumption | (simp <;> omega)) | refine Ix.zero ?_ | refine Ix.one ?_ | refine Ix.two ?_ | refine Ix.nat ?_ | refine Ix.add ?_ | (apply Go.Eng.Pin.mk; apply Exists.intro) | apply Go.Eng.Pinned.mk rfl rfl | (apply Go.Eng.PinH.mk; apply Exists.intro; apply Exists.intro) | exact Go.Eng.Fin0.mk | refine Go.Eng.Chk.mk ?_ ?_ | refine Own.l ?_ | fail))
              refine ⟨(z.1, (y.2 + 1 : Nat)), by show on.length - (y.2 + 1) < on.length - y.2; omega, ⟨hlt, z2, fun h u hu v he => ?_⟩, by (repeat' (first | exact trivial | rfl | exact Nat.one_pos | (refine And.intro ?_ ?_) | omega | ((conv => whnf); (refine And.intro ?_ ?_)) | ((conv => whnf); exact trivial)))⟩
              obtain ⟨w1, w2⟩ := z3 h
              by_cases e : u = y.2
              · subst e
                unfold Edge at he
                rw [Int.toNat_natCast] at he
                obtain ⟨q, hq, rfl⟩ := List.getElem_of_mem he
                have := w2 q (by omega)
                rwa [List.getD_eq_getElem?_getD, List.getElem?_eq_getElem hq] at this
              · exact w1 u (by omega) v he
        · have hyy : y.2 = on.length := by omega
          (repeat' ((conv => whnf); first | (refine Giv.mk fun _ => ?_) | (refine Alt.l (Need.mk ?h ?_); case h => omega) | (refine Alt.r (Need.mk ?h ?_); case h => omega) | (refine Need.mk ?h ?_; case h => first | omega | (intro _; rfl) | assumption | (simp <;> omega)) | refine Ix.zero ?_ | refine Ix.one ?_ | refine Ix.two ?_ | refine Ix.nat ?_ | refine Ix.add ?_ | (apply Go.Eng.Pin.mk; apply Exists.intro) | apply Go.Eng.Pinned.mk rfl rfl | (apply Go.Eng.PinH.mk; apply Exists.intro; apply Exists.intro) | exact Go.Eng.Fin0.mk | refine Go.Eng.Chk.mk ?_ ?_ | refine Own.l ?_ | fail))
          refine ⟨(y.1 : List Int × Bool), ?_, ⟨p1, fun h => ?_⟩, by (repeat' (first | exact trivial | rfl | exact Nat.one_pos | (refine And.intro ?_ ?_) | omega | ((conv => whnf); (refine And.intro ?_ ?_)) | ((conv => whnf); exact trivial)))⟩
          · show 2 * phiTo on.length y.1.1 on.length + (if y.1.2 = true then 1 else 0) < 2 * phiTo on.length x.1 on.length + (if x.2 = true then 1 else 0)
            rw [if_pos hch]
            by_cases hy2 : y.1.2 = true
            · rw [if_pos hy2]; have := p2 hy2; omega
            · rw [if_neg hy2, p3 (Bool.eq_false_iff.2 hy2)]; omega
          · rw [p3 h, ← hyy]; exact y3 h
    · rename_i hch
      have hend := di_end h1 h2 hx1 (hx2 (Bool.eq_false_iff.2 hch))
      (repeat' ((conv => whnf); first | (refine Giv.mk fun _ => ?_) | (refine Alt.l (Need.mk ?h ?_); case h => omega) | (refine Alt.r (Need.mk ?h ?_); case h => omega) | (refine Need.mk ?h ?_; case h => first | omega | (intro _; rfl) | assumption | (simp <;> omega)) | refine Ix.zero ?_ | refine Ix.one ?_ | refine Ix.two ?_ | refine Ix.nat ?_ | refine Ix.add ?_ | (apply Go.Eng.Pin.mk; apply Exists.intro) | apply Go.Eng.Pinned.mk rfl rfl | (apply Go.Eng.PinH.mk; apply Exists.intro; apply Exists.intro) | exact Go.Eng.Fin0.mk | refine Go.Eng.Chk.mk ?_ ?_ | refine Own.l ?_ | fail))
      (conv => whnf)
      exact hend
def c71 : Con := mkCon 71 true fun args K => match args with | [.seq (.slice (.int .i64)) on, .val (.int .i64 to)] => Need (∃ n, Rows2 on n ∧ (0 ≤ to ∧ to < n) ∧ (∀ u, (on.getD u []).length ≤ 4096) ∧ n ≤ 512) (K (Ls (distL on to))) | _ => False
theorem k71 : ConOK Try.prog c71 := by
  refine conOK_of rfl (enters_of Try.func71 (by kernel_rfl) rfl) ?_
  intro args K h
  simp only [c71] at h
  split at h
  · rename_i on to; exact ⟨_, h.go, tri_of_body (Γ := [c79]) (by simp [k79]) Try.func71 (by simp [Try.ntmps71]) rfl (b71 on to h.ok)⟩
  · exact h.elim
theorem b72 (i : Int) (on : List (List Int)) (far : List Int) (h : (0 ≤ i ∧ i < on.length) ∧ ∀ k ∈ on.getD i.toNat [], 0 ≤ k ∧ k < far.length) : body Try.prog [] { asks := [(0, [])] } true Try.f72 [I i, .lelem [Rs on] 0, .lelem [Ls far] 0] (I (bestOf far (on.getD i.toNat []))) := by
  obtain ⟨h1, h2⟩ := h
  (repeat' ((conv => whnf); first | (refine Giv.mk fun _ => ?_) | (refine Alt.l (Need.mk ?h ?_); case h => omega) | (refine Alt.r (Need.mk ?h ?_); case h => omega) | (refine Need.mk ?h ?_; case h => first | omega | (intro _; rfl) | assumption | (simp <;> omega)) | refine Ix.zero ?_ | refine Ix.one ?_ | refine Ix.two ?_ | refine Ix.nat ?_ | refine Ix.add ?_ | (apply Go.Eng.Pin.mk; apply Exists.intro) | apply Go.Eng.Pinned.mk rfl rfl | (apply Go.Eng.PinH.mk; apply Exists.intro; apply Exists.intro) | exact Go.Eng.Fin0.mk | refine Go.Eng.Chk.mk ?_ ?_ | refine Own.l ?_ | fail))
  refine ix_at i.toNat (by omega) ?_
  (repeat' ((conv => whnf); first | (refine Giv.mk fun _ => ?_) | (refine Alt.l (Need.mk ?h ?_); case h => omega) | (refine Alt.r (Need.mk ?h ?_); case h => omega) | (refine Need.mk ?h ?_; case h => first | omega | (intro _; rfl) | assumption | (simp <;> omega)) | refine Ix.zero ?_ | refine Ix.one ?_ | refine Ix.two ?_ | refine Ix.nat ?_ | refine Ix.add ?_ | (apply Go.Eng.Pin.mk; apply Exists.intro) | apply Go.Eng.Pinned.mk rfl rfl | (apply Go.Eng.PinH.mk; apply Exists.intro; apply Exists.intro) | exact Go.Eng.Fin0.mk | refine Go.Eng.Chk.mk ?_ ?_ | refine Own.l ?_ | fail))
  refine Ask.mk ⟨{ X := Nat, pre := fun j => j ≤ (on.getD i.toNat []).length, mod := fun j _ => [(5, I (bestOf far ((on.getD i.toNat []).take j))), (13, I j)], mu := fun j => (on.getD i.toNat []).length - j }, rfl, ?_⟩
  (repeat' ((conv => whnf); first | (refine Giv.mk fun _ => ?_) | (refine Alt.l (Need.mk ?h ?_); case h => omega) | (refine Alt.r (Need.mk ?h ?_); case h => omega) | (refine Need.mk ?h ?_; case h => first | omega | (intro _; rfl) | assumption | (simp <;> omega)) | refine Ix.zero ?_ | refine Ix.one ?_ | refine Ix.two ?_ | refine Ix.nat ?_ | refine Ix.add ?_ | (apply Go.Eng.Pin.mk; apply Exists.intro) | apply Go.Eng.Pinned.mk rfl rfl | (apply Go.Eng.PinH.mk; apply Exists.intro; apply Exists.intro) | exact Go.Eng.Fin0.mk | refine Go.Eng.Chk.mk ?_ ?_ | refine Own.l ?_ | fail))
  refine ⟨⟨(0 : Nat), Nat.zero_le _, ?_⟩, fun (j : Nat) (hj : j ≤ (on.getD i.toNat []).length) => ?_⟩
  · (repeat' (first | exact trivial | rfl | exact Nat.one_pos | (refine And.intro ?_ ?_) | omega | ((conv => whnf); (refine And.intro ?_ ?_)) | ((conv => whnf); exact trivial)))
  · (repeat' ((conv => whnf); first | (refine Giv.mk fun _ => ?_) | (refine Alt.l (Need.mk ?h ?_); case h => omega) | (refine Alt.r (Need.mk ?h ?_); case h => omega) | (refine Need.mk ?h ?_; case h => first | omega | (intro _; rfl) | assumption | (simp <;> omega)) | refine Ix.zero ?_ | refine Ix.one ?_ | refine Ix.two ?_ | refine Ix.nat ?_ | refine Ix.add ?_ | (apply Go.Eng.Pin.mk; apply Exists.intro) | apply Go.Eng.Pinned.mk rfl rfl | (apply Go.Eng.PinH.mk; apply Exists.intro; apply Exists.intro) | exact Go.Eng.Fin0.mk | refine Go.Eng.Chk.mk ?_ ?_ | refine Own.l ?_ | fail))
    (refine Br.mk (fun _ => ?_) (fun _ => ?_))
    · have hlt : j < (on.getD i.toNat []).length := by omega
      have hm : (on.getD i.toNat []).getD j 0 ∈ on.getD i.toNat [] := by
        rw [List.getD_eq_getElem?_getD (l := on.getD i.toNat []), List.getElem?_eq_getElem hlt]; exact List.getElem_mem _
      obtain ⟨k0, k1⟩ := h2 _ hm
      have htk : (on.getD i.toNat []).take (j + 1) = (on.getD i.toNat []).take j ++ [(on.getD i.toNat []).getD j 0] := by
        rw [List.take_succ_eq_append_getElem hlt]
        rw [List.getD_eq_getElem?_getD (l := on.getD i.toNat []), List.getElem?_eq_getElem hlt]; rfl
      have hsn := bestOf_snoc far ((on.getD i.toNat []).take j) ((on.getD i.toNat []).getD j 0)
      rw [← htk] at hsn
      unfold bestS at hsn
      have hb : bestOf far ((on.getD i.toNat []).take j) < 0 ∨ (0 ≤ bestOf far ((on.getD i.toNat []).take j) ∧ bestOf far ((on.getD i.toNat []).take j) < far.length) := by
        rcases bestOf_spec far ((on.getD i.toNat []).take j) (fun k hk => (h2 k (List.mem_of_mem_take hk)).1) with ⟨q1, _⟩ | ⟨q1, _, _⟩
        · omega
        · exact .inr (h2 _ (List.mem_of_mem_take q1))
      have e1 := d01 far ((on.getD i.toNat []).getD j 0).toNat (by omega)
      rw [← e1] at hsn
      (repeat' ((conv => whnf); first | (refine Giv.mk fun _ => ?_) | (refine Alt.l (Need.mk ?h ?_); case h => omega) | (refine Alt.r (Need.mk ?h ?_); case h => omega) | (refine Need.mk ?h ?_; case h => first | omega | (intro _; rfl) | assumption | (simp <;> omega)) | refine Ix.zero ?_ | refine Ix.one ?_ | refine Ix.two ?_ | refine Ix.nat ?_ | refine Ix.add ?_ | (apply Go.Eng.Pin.mk; apply Exists.intro) | apply Go.Eng.Pinned.mk rfl rfl | (apply Go.Eng.PinH.mk; apply Exists.intro; apply Exists.intro) | exact Go.Eng.Fin0.mk | refine Go.Eng.Chk.mk ?_ ?_ | refine Own.l ?_ | fail))
      refine ix_at ((on.getD i.toNat []).getD j 0).toNat (by omega) ?_
      (repeat' ((conv => whnf); first | (refine Giv.mk fun _ => ?_) | (refine Alt.l (Need.mk ?h ?_); case h => omega) | (refine Alt.r (Need.mk ?h ?_); case h => omega) | (refine Need.mk ?h ?_; case h => first | omega | (intro _; rfl) | assumption | (simp <;> omega)) | refine Ix.zero ?_ | refine Ix.one ?_ | refine Ix.two ?_ | refine Ix.nat ?_ | refine Ix.add ?_ | (apply Go.Eng.Pin.mk; apply Exists.intro) | apply Go.Eng.Pinned.mk rfl rfl | (apply Go.Eng.PinH.mk; apply Exists.intro; apply Exists.intro) | exact Go.Eng.Fin0.mk | refine Go.Eng.Chk.mk ?_ ?_ | refine Own.l ?_ | (refine Br.mkY ?h ?_; case h => first | omega | assumption) | (refine Br.mkN ?h ?_; case h => first | omega | assumption | exact not_not_intro (by assumption)) | (refine Br.mk (fun _ => ?_) (fun _ => ?_)) | fail))
      · rw [if_pos ⟨‹_›, .inl ‹_›⟩] at hsn
        refine ⟨(j + 1 : Nat), by show (on.getD i.toNat []).length - (j + 1) < (on.getD i.toNat []).length - j; omega, hlt, ?_⟩
        (repeat' (first | exact trivial | rfl | exact Nat.one_pos | (refine And.intro ?_ ?_) | omega | ((conv => whnf); (refine And.intro ?_ ?_)) | ((conv => whnf); exact trivial)))
      · have e2 := d01 far (bestOf far ((on.getD i.toNat []).take j)).toNat (by omega)
        rw [← e2] at hsn
        refine ix_at ((on.getD i.toNat []).getD j 0).toNat (by omega) ?_
        (repeat' ((conv => whnf); first | (refine Giv.mk fun _ => ?_) | (refine Alt.l (Need.mk ?h ?_); case h => omega) | (refine Alt.r (Need.mk ?h ?_); case h => omega) | (refine Need.mk ?h ?_; case h => first | omega | (intro _; rfl) | assumption | (simp <;> omega)) | refine Ix.zero ?_ | refine Ix.one ?_ | refine Ix.two ?_ | refine Ix.nat ?_ | refine Ix.add ?_ | (apply Go.Eng.Pin.mk; apply Exists.intro) | apply Go.Eng.Pinned.mk rfl rfl | (apply Go.Eng.PinH.mk; apply Exists.intro; apply Exists.intro) | exact Go.Eng.Fin0.mk | refine Go.Eng.Chk.mk ?_ ?_ | refine Own.l ?_ | fail))
        refine ix_at (bestOf far ((on.getD i.toNat []).take j)).toNat (by omega) ?_
        (repeat' ((conv => whnf); first | (refine Giv.mk fun _ => ?_) | (refine Alt.l (Need.mk ?h ?_); case h => omega) | (refine Alt.r (Need.mk ?h ?_); case h => omega) | (refine Need.mk ?h ?_; case h => first | omega | (intro _; rfl) | assumption | (simp <;> omega)) | refine Ix.zero ?_ | refine Ix.one ?_ | refine Ix.two ?_ | refine Ix.nat ?_ | refine Ix.add ?_ | (apply Go.Eng.Pin.mk; apply Exists.intro) | apply Go.Eng.Pinned.mk rfl rfl | (apply Go.Eng.PinH.mk; apply Exists.intro; apply Exists.intro) | exact Go.Eng.Fin0.mk | refine Go.Eng.Chk.mk ?_ ?_ | refine Own.l ?_ | (refine Br.mkY ?h ?_; case h => first | omega | assumption) | (refine Br.mkN ?h ?_; case h => first | omega | assumption | exact not_not_intro (by assumption)) | (refine Br.mk (fun _ => ?_) (fun _ => ?_)) | fail))
        · rw [if_pos ⟨‹_›, .inr ‹_›⟩] at hsn
          refine ⟨(j + 1 : Nat), by show (on.getD i.toNat []).length - (j + 1) < (on.getD i.toNat []).length - j; omega, hlt, ?_⟩
          (repeat' (first | exact trivial | rfl | exact Nat.one_pos | (refine And.intro ?_ ?_) | omega | ((conv => whnf); (refine And.intro ?_ ?_)) | ((conv => whnf); exact trivial)))
        · rw [if_neg (by omega)] at hsn
          refine ⟨(j + 1 : Nat), by show (on.getD i.toNat []).length - (j + 1) < (on.getD i.toNat []).length - j; omega, hlt, ?_⟩
          (repeat' (first | exact trivial | rfl | exact Nat.one_pos | (refine And.intro ?_ ?_) | omega | ((conv => whnf); (refine And.intro ?_ ?_)) | ((conv => whnf); exact trivial)))
      · rw [if_neg (by omega)] at hsn
        refine ⟨(j + 1 : Nat), by show (on.getD i.toNat []).length - (j + 1) < (on.getD i.toNat []).length - j; omega, hlt, ?_⟩
        (repeat' (first | exact trivial | rfl | exact Nat.one_pos | (refine And.intro ?_ ?_) | omega | ((conv => whnf); (refine And.intro ?_ ?_)) | ((conv => whnf); exact trivial)))
    · have hjj : (on.getD i.toNat []).take j = on.getD i.toNat [] := List.take_of_length_le (by omega)
      (repeat' ((conv => whnf); first | (refine Giv.mk fun _ => ?_) | (refine Alt.l (Need.mk ?h ?_); case h => omega) | (refine Alt.r (Need.mk ?h ?_); case h => omega) | (refine Need.mk ?h ?_; case h => first | omega | (intro _; rfl) | assumption | (simp <;> omega)) | refine Ix.zero ?_ | refine Ix.one ?_ | refine Ix.two ?_ | refine Ix.nat ?_ | refine Ix.add ?_ | (apply Go.Eng.Pin.mk; apply Exists.intro) | apply Go.Eng.Pinned.mk rfl rfl | (apply Go.Eng.PinH.mk; apply Exists.intro; apply Exists.intro) | exact Go.Eng.Fin0.mk | refine Go.Eng.Chk.mk ?_ ?_ | refine Own.l ?_ | fail))
      (conv => whnf)
      exact ⟨rfl, congrArg (bestOf far) hjj⟩
def c72 : Con := mkCon 72 true fun args K => match args with | [.val (.int .i64 i), .lelem [.seq (.slice (.int .i64)) on] 0, .lelem [.seq (.int .i64) far] 0] => Need ((0 ≤ i ∧ i < on.length) ∧ ∀ k ∈ on.getD i.toNat [], 0 ≤ k ∧ k < far.length) (K (I (bestOf far (on.getD i.toNat [])))) | _ => False
theorem k72 : ConOK Try.prog c72 := by
  refine conOK_of rfl (enters_of Try.func72 (by kernel_rfl) rfl) ?_
  intro args K h
  simp only [c72] at h
  split at h
  · rename_i i on far; exact ⟨_, h.go, tri_of_body (Γ := []) (by simp) Try.func72 (by simp [Try.ntmps72]) rfl (b72 i on far h.ok)⟩
  · exact h.elim
end EB
end
section
set_option linter.unusedVariables false
open Go Go.Proofs Go.Eng Go.Shelf
set_option linter.unusedVariables false
namespace EB
set_option maxRecDepth 10000
/-! ### The way round -/
theorem least_next {on : List (List Int)} {to u : Int} {d : Nat} (h : Least (fun m => WayN on m u to) (d + 1)) : ∃ v, Edge on u v ∧ Least (fun m => WayN on m v to) d := by
  obtain ⟨h1, h2⟩ := h
  cases h1 with
  | cons _ _ v _ he hw => exact ⟨v, he, hw, fun q hq hq2 => h2 (q + 1) (by omega) (.cons q u v to he hq2)⟩
theorem least_list {on : List (List Int)} {n to : Int} (hn : Rows2 on n) : ∀ (d : Nat) (u : Int), (0 ≤ u ∧ u < n) → Least (fun m => WayN on m u to) d → ∃ ws : List Int, ws.length = d + 1 ∧ (∀ w ∈ ws, (0 ≤ w ∧ w < n) ∧ ∃ e : Nat, e ≤ d ∧ Least (fun m => WayN on m w to) e) ∧ ws.Nodup
  | 0, u, hu, h => ⟨[u], rfl, fun w hw => by rw [List.mem_singleton.1 hw]; exact ⟨hu, 0, Nat.le_refl _, h⟩, by simp⟩
  | d + 1, u, hu, h => by
    obtain ⟨v, he, hv⟩ := least_next h
    obtain ⟨ws, w1, w2, w3⟩ := least_list hn d v (hn.2 u v he) hv
    refine ⟨u :: ws, by simpa using w1, fun w hw => ?_, ?_⟩
    · rcases List.mem_cons.1 hw with rfl | hw
      · exact ⟨hu, d + 1, Nat.le_refl _, h⟩
      · obtain ⟨a, e, b, c⟩ := w2 w hw
        exact ⟨a, e, by omega, c⟩
    · rw [List.nodup_cons]
      refine ⟨fun hm => ?_, w3⟩
      obtain ⟨_, e, b, c⟩ := w2 u hm
      have := least_uniq c h
      omega
theorem dist_le {on : List (List Int)} {n to k : Int} (hn : Rows2 on n) (hk : 0 ≤ k ∧ k < n) : dist1 on to k < n := by
  rcases dist_low (on := on) to k with h | ⟨d, h, hw⟩
  · omega
  · obtain ⟨q, hq⟩ := least_ex (p := fun m => WayN on m k to) hw
    have e := dist1_eq hq
    obtain ⟨ws, w1, w2, w3⟩ := least_list hn q k hk hq
    have := nodup_len (by omega) w3 fun w hw => (w2 w hw).1
    omega
/-- The next one is nearer. -/
theorem best_near {on : List (List Int)} {n c : Int} (hn : Rows2 on n) (hc : 0 ≤ c ∧ c < n) {i : Int} (hi : 0 ≤ i ∧ i < n) (h : i = c ∧ Way on c c ∨ ¬ i = c ∧ 0 ≤ dist1 on c i) :
    (0 ≤ bestOf (distL on c) (on.getD i.toNat []) ∧ bestOf (distL on c) (on.getD i.toNat []) < n) ∧ 0 ≤ dist1 on c (bestOf (distL on c) (on.getD i.toNat [])) ∧ (¬ i = c → dist1 on c (bestOf (distL on c) (on.getD i.toNat [])) < dist1 on c i) := by
  have hlen := hn.1
  have hrow : ∀ k ∈ on.getD i.toNat [], 0 ≤ k ∧ k < n := fun k hk => hn.2 i k hk
  have hex : ∃ v, Edge on i v ∧ 0 ≤ dist1 on c v ∧ (¬ i = c → dist1 on c v < dist1 on c i) := by
    rcases h with ⟨rfl, hw⟩ | ⟨hne, h0⟩
    · obtain ⟨m, hm⟩ := hw.num
      cases hm with
      | cons _ _ v _ he hw =>
        obtain ⟨d, h1, _, _⟩ := dist_way hw
        exact ⟨v, he, by omega, fun h => absurd rfl h⟩
    · rcases dist_low (on := on) c i with h | ⟨d, h1, hw⟩
      · omega
      · obtain ⟨q, hq⟩ := least_ex (p := fun m => WayN on m i c) hw
        have e := dist1_eq hq
        cases q with
        | zero =>
          exfalso
          have := hq.1
          cases this
          exact hne rfl
        | succ q =>
          obtain ⟨v, he, hv⟩ := least_next hq
          have e2 := dist1_eq hv
          exact ⟨v, he, by omega, fun _ => by omega⟩
  obtain ⟨v, he, v0, v1⟩ := hex
  have hv := hn.2 i v he
  have gv := dist_get (on := on) c (k := v) (by omega)
  rcases bestOf_spec (distL on c) (on.getD i.toNat []) (fun k hk => (hrow k hk).1) with ⟨h1, h2⟩ | ⟨h1, h2, h3⟩
  · have := h2 v he
    rw [gv] at this
    omega
  · have hb := hrow _ h1
    have gb := dist_get (on := on) c (k := bestOf (distL on c) (on.getD i.toNat [])) (by omega)
    rw [gb] at h2 h3
    have h4 := h3 v he (by rw [gv]; exact v0)
    rw [gv] at h4
    exact ⟨hb, h2, fun hne => by have := v1 hne; omega⟩
/-! ### support.Cycle -/
def cycP (n : Int) (l : List (Int × Int)) : Prop := supE n l = 0 ∧ Loops (onL n l) n
def cycE (n : Int) (l : List (Int × Int)) : Int := if supE n l = 0 then 0 else 1
theorem reach_get {on : List (List Int)} (i : Int) {k : Nat} (h : k < on.length) : (reachL on i).getD k false = wayB on i k := by
  simp [reachL, List.getD_eq_getElem?_getD, h]
theorem reachL_len (on : List (List Int)) (i : Int) : (reachL on i).length = on.length := by simp [reachL]
theorem distL_len (on : List (List Int)) (i : Int) : (distL on i).length = on.length := by simp [distL]
theorem b44 (n : Int) (l : List (Int × Int)) : body Try.prog [c43, c69, c70, c71, c72] { asks := [(0, []), (2, [5])] } true Try.f44 [I n, Ps l] (.tup [.any, .bl (cycP n l) (Classical.propDecidable _), I (cycE n l)]) := by
  (repeat' ((conv => whnf); first | (refine Giv.mk fun _ => ?_) | (refine Alt.l (Need.mk ?h ?_); case h => omega) | (refine Alt.r (Need.mk ?h ?_); case h => omega) | (refine Need.mk ?h ?_; case h => first | omega | (intro _; rfl) | assumption | (simp <;> omega)) | refine Ix.zero ?_ | refine Ix.one ?_ | refine Ix.two ?_ | refine Ix.nat ?_ | refine Ix.add ?_ | (apply Go.Eng.Pin.mk; apply Exists.intro) | apply Go.Eng.Pinned.mk rfl rfl | (apply Go.Eng.PinH.mk; apply Exists.intro; apply Exists.intro) | exact Go.Eng.Fin0.mk | refine Go.Eng.Chk.mk ?_ ?_ | refine Own.l ?_ | fail))
  (refine Br.mk (fun _ => ?_) (fun _ => ?_))
  · rename_i h
    (repeat' ((conv => whnf); first | (refine Giv.mk fun _ => ?_) | (refine Alt.l (Need.mk ?h ?_); case h => omega) | (refine Alt.r (Need.mk ?h ?_); case h => omega) | (refine Need.mk ?h ?_; case h => first | omega | (intro _; rfl) | assumption | (simp <;> omega)) | refine Ix.zero ?_ | refine Ix.one ?_ | refine Ix.two ?_ | refine Ix.nat ?_ | refine Ix.add ?_ | (apply Go.Eng.Pin.mk; apply Exists.intro) | apply Go.Eng.Pinned.mk rfl rfl | (apply Go.Eng.PinH.mk; apply Exists.intro; apply Exists.intro) | exact Go.Eng.Fin0.mk | refine Go.Eng.Chk.mk ?_ ?_ | refine Own.l ?_ | fail))
    (conv => whnf)
    (repeat' (first | exact trivial | rfl | exact Nat.one_pos | (refine And.intro ?_ ?_) | ((conv => whnf); (refine And.intro ?_ ?_)) | ((conv => whnf); exact trivial)))
    all_goals (conv => whnf)
    all_goals (repeat' (first | exact trivial | rfl | exact Nat.one_pos | (refine And.intro ?_ ?_) | ((conv => whnf); (refine And.intro ?_ ?_)) | ((conv => whnf); exact trivial)))
    · exact fun hh => h hh.1
    · unfold cycE; rw [if_neg h]
  · rename_i h
    have h := Classical.not_not.1 h
    have hro := supE_rests h
    obtain ⟨r1, r2, r3, r4⟩ := id hro
    have hrw := onL_rows hro
    have hol := onL_len n l
    have hce : cycE n l = 0 := by unfold cycE; rw [if_pos h]
    have hrl : ∀ u, ((onL n l).getD u []).length ≤ 4096 := fun u => by
      by_cases hu : u < n.toNat
      · have e : (onL n l).getD u [] = rowOf l l.length u := onN_get _ _ _ _ hu
        rw [e]; exact Nat.le_trans (rowOf_len _ _ _) r1
      · rw [List.getD_eq_getElem?_getD, List.getElem?_eq_none (by omega)]; exact Nat.zero_le _
    (repeat' ((conv => whnf); first | (refine Giv.mk fun _ => ?_) | (refine Alt.l (Need.mk ?h ?_); case h => omega) | (refine Alt.r (Need.mk ?h ?_); case h => omega) | (refine Need.mk ?h ?_; case h => first | omega | (intro _; rfl) | assumption | (simp <;> omega)) | refine Ix.zero ?_ | refine Ix.one ?_ | refine Ix.two ?_ | refine Ix.nat ?_ | refine Ix.add ?_ | (apply Go.Eng.Pin.mk; apply Exists.intro) | apply Go.Eng.Pinned.mk rfl rfl | (apply Go.Eng.PinH.mk; apply Exists.intro; apply Exists.intro) | exact Go.Eng.Fin0.mk | refine Go.Eng.Chk.mk ?_ ?_ | refine Own.l ?_ | fail))
    refine Ask.mk ⟨{ X := Nat, pre := fun i => i ≤ n.toNat ∧ ∀ j : Nat, j < i → ¬ Way (onL n l) j j, mod := fun i _ => [(8, I (-1)), (23, I i)], heap := fun i _ => [.vec 1 (.int .i64) [] 3, .vec 1 (.slice (.int .i64)) [] 27, .cells [Rs (onL n l)] 73], mu := fun i => n.toNat - i }, rfl, ?_⟩
    (repeat' ((conv => whnf); first | (refine Giv.mk fun _ => ?_) | (refine Alt.l (Need.mk ?h ?_); case h => omega) | (refine Alt.r (Need.mk ?h ?_); case h => omega) | (refine Need.mk ?h ?_; case h => first | omega | (intro _; rfl) | assumption | (simp <;> omega)) | refine Ix.zero ?_ | refine Ix.one ?_ | refine Ix.two ?_ | refine Ix.nat ?_ | refine Ix.add ?_ | (apply Go.Eng.Pin.mk; apply Exists.intro) | apply Go.Eng.Pinned.mk rfl rfl | (apply Go.Eng.PinH.mk; apply Exists.intro; apply Exists.intro) | exact Go.Eng.Fin0.mk | refine Go.Eng.Chk.mk ?_ ?_ | refine Own.l ?_ | fail))
    refine ⟨⟨(0 : Nat), ⟨Nat.zero_le _, fun j hj => absurd hj (Nat.not_lt_zero _)⟩, ?_⟩, fun (i : Nat) hi => ?_⟩
    · (repeat' (first | exact trivial | rfl | exact Nat.one_pos | (refine And.intro ?_ ?_) | omega | ((conv => whnf); (refine And.intro ?_ ?_)) | ((conv => whnf); exact trivial)))
    · obtain ⟨hi, hno⟩ := hi
      (repeat' ((conv => whnf); first | (refine Giv.mk fun _ => ?_) | (refine Alt.l (Need.mk ?h ?_); case h => omega) | (refine Alt.r (Need.mk ?h ?_); case h => omega) | (refine Need.mk ?h ?_; case h => first | omega | (intro _; rfl) | assumption | (simp <;> omega)) | refine Ix.zero ?_ | refine Ix.one ?_ | refine Ix.two ?_ | refine Ix.nat ?_ | refine Ix.add ?_ | (apply Go.Eng.Pin.mk; apply Exists.intro) | apply Go.Eng.Pinned.mk rfl rfl | (apply Go.Eng.PinH.mk; apply Exists.intro; apply Exists.intro) | exact Go.Eng.Fin0.mk | refine Go.Eng.Chk.mk ?_ ?_ | refine Own.l ?_ | fail))
      (refine Br.mk (fun _ => ?_) (fun _ => ?_))
      · have hlt : i < n.toNat := by omega
        have hrg := reach_get (on := onL n l) i (k := i) (by omega)
        have hpre : ∃ n', Rows2 (onL n l) n' ∧ (0 ≤ (i : Int) ∧ (i : Int) < n') ∧ (∀ u, ((onL n l).getD u []).length ≤ 4096) ∧ n' ≤ 512 := ⟨n, hrw, ⟨by omega, by omega⟩, hrl, r3⟩
        have hrl2 := reachL_len (onL n l) i
        (repeat' ((conv => whnf); first | (refine Giv.mk fun _ => ?_) | (refine Alt.l (Need.mk ?h ?_); case h => omega) | (refine Alt.r (Need.mk ?h ?_); case h => omega) | (refine Need.mk ?h ?_; case h => first | omega | (intro _; rfl) | assumption | (simp <;> omega)) | refine Ix.zero ?_ | refine Ix.one ?_ | refine Ix.two ?_ | refine Ix.nat ?_ | refine Ix.add ?_ | (apply Go.Eng.Pin.mk; apply Exists.intro) | apply Go.Eng.Pinned.mk rfl rfl | (apply Go.Eng.PinH.mk; apply Exists.intro; apply Exists.intro) | exact Go.Eng.Fin0.mk | refine Go.Eng.Chk.mk ?_ ?_ | refine Own.l ?_ | fail))
        (refine Br.mk (fun _ => ?_) (fun _ => ?_))
        · rename_i hw
          rw [hrg, wayB_iff] at hw
          have hcyc : cycP n l := ⟨h, i, ⟨by omega, by omega⟩, hw⟩
          have hci : 0 ≤ (i : Int) ∧ (i : Int) < n := ⟨by omega, by omega⟩
          have hdl := distL_len (onL n l) i
          have hrow : ∀ u : Int, ∀ k ∈ (onL n l).getD u.toNat [], 0 ≤ k ∧ k < (distL (onL n l) i).length := fun u k hk => by
            have := hrw.2 u k hk
            omega
          have hnx := best_near hrw hci hci (.inl ⟨rfl, hw⟩)
          have hle := fun k hk => dist_le (on := onL n l) (n := n) (to := i) (k := k) hrw hk
          (repeat' ((conv => whnf); first | (refine Giv.mk fun _ => ?_) | (refine Alt.l (Need.mk ?h ?_); case h => omega) | (refine Alt.r (Need.mk ?h ?_); case h => omega) | (refine Need.mk ?h ?_; case h => first | omega | (intro _; rfl) | assumption | (simp <;> omega)) | refine Ix.zero ?_ | refine Ix.one ?_ | refine Ix.two ?_ | refine Ix.nat ?_ | refine Ix.add ?_ | (apply Go.Eng.Pin.mk; apply Exists.intro) | apply Go.Eng.Pinned.mk rfl rfl | (apply Go.Eng.PinH.mk; apply Exists.intro; apply Exists.intro) | exact Go.Eng.Fin0.mk | refine Go.Eng.Chk.mk ?_ ?_ | (refine Br.mkY ?h ?_; case h => first | omega | assumption) | (refine Br.mkN ?h ?_; case h => first | omega | assumption | exact not_not_intro (by assumption)) | fail))
          refine Own.r ?_
          (repeat' ((conv => whnf); first | (refine Giv.mk fun _ => ?_) | (refine Alt.l (Need.mk ?h ?_); case h => omega) | (refine Alt.r (Need.mk ?h ?_); case h => omega) | (refine Need.mk ?h ?_; case h => first | omega | (intro _; rfl) | assumption | (simp <;> omega)) | refine Ix.zero ?_ | refine Ix.one ?_ | refine Ix.two ?_ | refine Ix.nat ?_ | refine Ix.add ?_ | (apply Go.Eng.Pin.mk; apply Exists.intro) | apply Go.Eng.Pinned.mk rfl rfl | (apply Go.Eng.PinH.mk; apply Exists.intro; apply Exists.intro) | exact Go.Eng.Fin0.mk | refine Go.Eng.Chk.mk ?_ ?_ | (refine Br.mkY ?h ?_; case h => first | omega | assumption) | (refine Br.mkN ?h ?_; case h => first | omega | assumption | exact not_not_intro (by assumption)) | fail))
          refine Need.mk ⟨⟨by omega, by omega⟩, hrow i⟩ ?_
          (repeat' ((conv => whnf); first | (refine Giv.mk fun _ => ?_) | (refine Alt.l (Need.mk ?h ?_); case h => omega) | (refine Alt.r (Need.mk ?h ?_); case h => omega) | (refine Need.mk ?h ?_; case h => first | omega | (intro _; rfl) | assumption | (simp <;> omega)) | refine Ix.zero ?_ | refine Ix.one ?_ | refine Ix.two ?_ | refine Ix.nat ?_ | refine Ix.add ?_ | (apply Go.Eng.Pin.mk; apply Exists.intro) | apply Go.Eng.Pinned.mk rfl rfl | (apply Go.Eng.PinH.mk; apply Exists.intro; apply Exists.intro) | exact Go.Eng.Fin0.mk | refine Go.Eng.Chk.mk ?_ ?_ | (refine Br.mkY ?h ?_; case h => first | omega | assumption) | (refine Br.mkN ?h ?_; case h => first | omega | assumption | exact not_not_intro (by assumption)) | fail))
          refine Ask.mk ⟨{ X := Int × List Int, pre := fun x => (0 ≤ x.1 ∧ x.1 < n) ∧ 0 ≤ dist1 (onL n l) i x.1 ∧ (x.2.length : Int) + dist1 (onL n l) i x.1 ≤ n + 1, mod := fun x _ => [(12, .ref 5 1), (13, I x.1)], objs := [5], heap := fun x _ => [.vec 1 (.int .i64) [] 3, .vec 1 (.slice (.int .i64)) [] 27, .cells [Rs (onL n l)] 73, .vec 1 (.int .i64) [] 3, .cells [Ls (distL (onL n l) i)] 27, .vec 1 (.int .i64) x.2 3], mu := fun x => (dist1 (onL n l) i x.1).toNat }, rfl, ?_⟩
          (repeat' ((conv => whnf); first | (refine Giv.mk fun _ => ?_) | (refine Alt.l (Need.mk ?h ?_); case h => omega) | (refine Alt.r (Need.mk ?h ?_); case h => omega) | (refine Need.mk ?h ?_; case h => first | omega | (intro _; rfl) | assumption | (simp <;> omega)) | refine Ix.zero ?_ | refine Ix.one ?_ | refine Ix.two ?_ | refine Ix.nat ?_ | refine Ix.add ?_ | (apply Go.Eng.Pin.mk; apply Exists.intro) | apply Go.Eng.Pinned.mk rfl rfl | (apply Go.Eng.PinH.mk; apply Exists.intro; apply Exists.intro) | exact Go.Eng.Fin0.mk | refine Go.Eng.Chk.mk ?_ ?_ | refine Own.l ?_ | fail))
          refine ⟨⟨((bestOf (distL (onL n l) i) ((onL n l).getD (i : Int).toNat []), [(i : Int)]) : Int × List Int), ⟨hnx.1, hnx.2.1, ?_⟩, ?_⟩, fun (x : Int × List Int) hx => ?_⟩
          · have := hle _ hnx.1
            show ((1 : Nat) : Int) + dist1 (onL n l) i (bestOf (distL (onL n l) i) ((onL n l).getD (i : Int).toNat [])) ≤ n + 1
            omega
          · (repeat' (first | exact trivial | rfl | exact Nat.one_pos | (refine And.intro ?_ ?_) | omega | ((conv => whnf); (refine And.intro ?_ ?_)) | ((conv => whnf); exact trivial)))
          · obtain ⟨x1, x2, x3⟩ := hx
            (repeat' ((conv => whnf); first | (refine Giv.mk fun _ => ?_) | (refine Alt.l (Need.mk ?h ?_); case h => omega) | (refine Alt.r (Need.mk ?h ?_); case h => omega) | (refine Need.mk ?h ?_; case h => first | omega | (intro _; rfl) | assumption | (simp <;> omega)) | refine Ix.zero ?_ | refine Ix.one ?_ | refine Ix.two ?_ | refine Ix.nat ?_ | refine Ix.add ?_ | (apply Go.Eng.Pin.mk; apply Exists.intro) | apply Go.Eng.Pinned.mk rfl rfl | (apply Go.Eng.PinH.mk; apply Exists.intro; apply Exists.intro) | exact Go.Eng.Fin0.mk | refine Go.Eng.Chk.mk ?_ ?_ | refine Own.l ?_ | fail))
            (refine Br.mk (fun _ => ?_) (fun _ => ?_))
            · rename_i hne
              obtain ⟨m1, m2, m3⟩ := best_near hrw hci x1 (.inr ⟨hne, x2⟩)
              have m3 := m3 hne
              (repeat' ((conv => whnf); first | (refine Giv.mk fun _ => ?_) | (refine Alt.l (Need.mk ?h ?_); case h => omega) | (refine Alt.r (Need.mk ?h ?_); case h => omega) | (refine Need.mk ?h ?_; case h => first | omega | (intro _; rfl) | assumption | (simp <;> omega)) | refine Ix.zero ?_ | refine Ix.one ?_ | refine Ix.two ?_ | refine Ix.nat ?_ | refine Ix.add ?_ | (apply Go.Eng.Pin.mk; apply Exists.intro) | apply Go.Eng.Pinned.mk rfl rfl | (apply Go.Eng.PinH.mk; apply Exists.intro; apply Exists.intro) | exact Go.Eng.Fin0.mk | refine Go.Eng.Chk.mk ?_ ?_ | refine Own.l ?_ | fail))
              refine Need.mk ⟨⟨by omega, by omega⟩, hrow x.1⟩ ?_
              (repeat' ((conv => whnf); first | (refine Giv.mk fun _ => ?_) | (refine Alt.l (Need.mk ?h ?_); case h => omega) | (refine Alt.r (Need.mk ?h ?_); case h => omega) | (refine Need.mk ?h ?_; case h => first | omega | (intro _; rfl) | assumption | (simp <;> omega)) | refine Ix.zero ?_ | refine Ix.one ?_ | refine Ix.two ?_ | refine Ix.nat ?_ | refine Ix.add ?_ | (apply Go.Eng.Pin.mk; apply Exists.intro) | apply Go.Eng.Pinned.mk rfl rfl | (apply Go.Eng.PinH.mk; apply Exists.intro; apply Exists.intro) | exact Go.Eng.Fin0.mk | refine Go.Eng.Chk.mk ?_ ?_ | refine Own.l ?_ | fail))
              refine ⟨((bestOf (distL (onL n l) i) ((onL n l).getD x.1.toNat []), x.2 ++ [x.1]) : Int × List Int), ?_, ⟨m1, m2, ?_⟩, by (repeat' (first | exact trivial | rfl | exact Nat.one_pos | (refine And.intro ?_ ?_) | omega | ((conv => whnf); (refine And.intro ?_ ?_)) | ((conv => whnf); exact trivial)))⟩
              · show (dist1 (onL n l) i (bestOf (distL (onL n l) i) ((onL n l).getD x.1.toNat []))).toNat < (dist1 (onL n l) i x.1).toNat
                omega
              · show ((x.2 ++ [x.1]).length : Int) + dist1 (onL n l) i (bestOf (distL (onL n l) i) ((onL n l).getD x.1.toNat [])) ≤ n + 1
                rw [List.length_append, List.length_singleton]
                omega
            · (repeat' ((conv => whnf); first | (refine Giv.mk fun _ => ?_) | (refine Alt.l (Need.mk ?h ?_); case h => omega) | (refine Alt.r (Need.mk ?h ?_); case h => omega) | (refine Need.mk ?h ?_; case h => first | omega | (intro _; rfl) | assumption | (simp <;> omega)) | refine Ix.zero ?_ | refine Ix.one ?_ | refine Ix.two ?_ | refine Ix.nat ?_ | refine Ix.add ?_ | (apply Go.Eng.Pin.mk; apply Exists.intro) | apply Go.Eng.Pinned.mk rfl rfl | (apply Go.Eng.PinH.mk; apply Exists.intro; apply Exists.intro) | exact Go.Eng.Fin0.mk | refine Go.Eng.Chk.mk ?_ ?_ | refine Own.l ?_ | fail))
              (conv => whnf)
              (repeat' (first | exact trivial | rfl | exact Nat.one_pos | (refine And.intro ?_ ?_) | ((conv => whnf); (refine And.intro ?_ ?_)) | ((conv => whnf); exact trivial)))
              all_goals (conv => whnf)
              all_goals (repeat' (first | exact trivial | rfl | exact Nat.one_pos | (refine And.intro ?_ ?_) | ((conv => whnf); (refine And.intro ?_ ?_)) | ((conv => whnf); exact trivial)))
              · exact h
              · exact hcyc.2
              · exact hce.symm
        · rename_i hw
          rw [hrg, wayB_iff] at hw
          (repeat' ((conv => whnf); first | (refine Giv.mk fun _ => ?_) | (refine Alt.l (Need.mk ?h ?_); case h => omega) | (refine Alt.r (Need.mk ?h ?_); case h => omega) | (refine Need.mk ?h ?_; case h => first | omega | (intro _; rfl) | assumption | (simp <;> omega)) | refine Ix.zero ?_ | refine Ix.one ?_ | refine Ix.two ?_ | refine Ix.nat ?_ | refine Ix.add ?_ | (apply Go.Eng.Pin.mk; apply Exists.intro) | apply Go.Eng.Pinned.mk rfl rfl | (apply Go.Eng.PinH.mk; apply Exists.intro; apply Exists.intro) | exact Go.Eng.Fin0.mk | refine Go.Eng.Chk.mk ?_ ?_ | refine Own.l ?_ | fail))
          refine ⟨(i + 1 : Nat), by show n.toNat - (i + 1) < n.toNat - i; omega, ⟨by show i + 1 ≤ n.toNat; omega, fun j hj => ?_⟩, by (repeat' (first | exact trivial | rfl | exact Nat.one_pos | (refine And.intro ?_ ?_) | omega | ((conv => whnf); (refine And.intro ?_ ?_)) | ((conv => whnf); exact trivial)))⟩
          by_cases e : j = i
          · subst e; exact hw
          · exact hno j (by omega)
      · have hncyc : ¬ cycP n l := by
          rintro ⟨_, c, hc, hw⟩
          refine hno c.toNat (by omega) ?_
          rw [Int.toNat_of_nonneg hc.1]; exact hw
        (repeat' ((conv => whnf); first | (refine Giv.mk fun _ => ?_) | (refine Alt.l (Need.mk ?h ?_); case h => omega) | (refine Alt.r (Need.mk ?h ?_); case h => omega) | (refine Need.mk ?h ?_; case h => first | omega | (intro _; rfl) | assumption | (simp <;> omega)) | refine Ix.zero ?_ | refine Ix.one ?_ | refine Ix.two ?_ | refine Ix.nat ?_ | refine Ix.add ?_ | (apply Go.Eng.Pin.mk; apply Exists.intro) | apply Go.Eng.Pinned.mk rfl rfl | (apply Go.Eng.PinH.mk; apply Exists.intro; apply Exists.intro) | exact Go.Eng.Fin0.mk | refine Go.Eng.Chk.mk ?_ ?_ | refine Own.l ?_ | (refine Br.mkY ?h ?_; case h => first | omega | assumption) | (refine Br.mkN ?h ?_; case h => first | omega | assumption | exact not_not_intro (by assumption)) | fail))
        (conv => whnf)
        (repeat' (first | exact trivial | rfl | exact Nat.one_pos | (refine And.intro ?_ ?_) | ((conv => whnf); (refine And.intro ?_ ?_)) | ((conv => whnf); exact trivial)))
        all_goals (conv => whnf)
        all_goals (repeat' (first | exact trivial | rfl | exact Nat.one_pos | (refine And.intro ?_ ?_) | ((conv => whnf); (refine And.intro ?_ ?_)) | ((conv => whnf); exact trivial)))
        · exact hncyc
        · exact hce.symm
def c44 : Con := mkCon 44 true fun args K => match args with | [.val (.int .i64 n), .seq (.pair (.int .i64) (.int .i64)) l] => K (.tup [.any, .bl (cycP n l) (Classical.propDecidable _), I (cycE n l)]) | _ => False
theorem k44 : ConOK Try.prog c44 := by
  refine conOK_of rfl (enters_of Try.func44 (by kernel_rfl) rfl) ?_
  intro args K h
  simp only [c44] at h
  split at h
  · rename_i n l; exact ⟨_, h, tri_of_body (Γ := [c43, c69, c70, c71, c72]) (by simp [k43, k69, k70, k71, k72]) Try.func44 (by simp [Try.ntmps44]) rfl (b44 n l)⟩
  · exact h.elim
/-! ### ErectCycles -/
theorem b11 (s : Int) (l : List (Int × Int)) (hs : inK .u8 s) : body Try.prog [c12, c13, c32, c43, c44] {} true Try.f11 [.val (.int .u8 s), Ps l] (.val (.bool true)) := by
  have h1 : 0 ≤ s := by have := hs.1; simpa [lo] using this
  have h2 : s ≤ 255 := by have := hs.2; simpa [hi] using this
  have facts : ¬ 30 < (l.length : Int) → ¬¬ supE (n12 s) l = 0 → cycE (n12 s) l = 0 ∧ ¬ (cycP (n12 s) l ↔ okP s l) ∧ (¬ okP s l → orderErr (n12 s) l = 27 ∧ (res12 s l).length = 0) := fun g1 g2 => by
    have g2 := Classical.not_not.1 g2
    have hl : l.length ≤ 30 := by omega
    by_cases ho : orderErr (n12 s) l = 0
    · have hno := order_noloop ho
      have hk : okP s l := ⟨hl, ho⟩
      refine ⟨by unfold cycE; rw [if_pos g2], fun e => hno (e.2 hk).2, fun e => absurd hk e⟩
    · obtain ⟨p1, p2⟩ := noorder_loop g2 ho
      have hk : ¬ okP s l := fun e => ho e.2
      refine ⟨by unfold cycE; rw [if_pos g2], fun e => hk (e.1 ⟨g2, p1⟩), fun _ => ⟨p2, ?_⟩⟩
      unfold res12 orderRes
      rw [if_pos hl, if_neg]
      · rfl
      · rintro ⟨_, hr⟩
        unfold orderErr at ho
        rw [if_neg (not_not_intro g2), if_neg hr] at ho
        exact ho rfl
  (repeat' ((conv => whnf); first | (refine Giv.mk fun _ => ?_) | (refine Alt.l (Need.mk ?h ?_); case h => omega) | (refine Alt.r (Need.mk ?h ?_); case h => omega) | (refine Need.mk ?h ?_; case h => first | omega | (intro _; rfl) | assumption | (simp <;> omega)) | refine Ix.zero ?_ | refine Ix.one ?_ | refine Ix.two ?_ | refine Ix.nat ?_ | refine Ix.add ?_ | (apply Go.Eng.Pin.mk; apply Exists.intro) | apply Go.Eng.Pinned.mk rfl rfl | (apply Go.Eng.PinH.mk; apply Exists.intro; apply Exists.intro) | exact Go.Eng.Fin0.mk | refine Go.Eng.Chk.mk ?_ ?_ | refine Own.l ?_ | fail))
  (repeat' ((conv => whnf); first | (refine Giv.mk fun _ => ?_) | (refine Alt.l (Need.mk ?h ?_); case h => omega) | (refine Alt.r (Need.mk ?h ?_); case h => omega) | (refine Need.mk ?h ?_; case h => first | omega | (intro _; rfl) | assumption | (simp <;> omega)) | refine Ix.zero ?_ | refine Ix.one ?_ | refine Ix.two ?_ | refine Ix.nat ?_ | refine Ix.add ?_ | (apply Go.Eng.Pin.mk; apply Exists.intro) | apply Go.Eng.Pinned.mk rfl rfl | (apply Go.Eng.PinH.mk; apply Exists.intro; apply Exists.intro) | exact Go.Eng.Fin0.mk | refine Go.Eng.Chk.mk ?_ ?_ | refine Own.l ?_ | (refine Br.mkY ?h ?_; case h => first | omega | assumption) | (refine Br.mkN ?h ?_; case h => first | omega | assumption | exact not_not_intro (by assumption)) | (refine Br.mk (fun _ => ?_) (fun _ => ?_)) | fail))
  all_goals (try (conv => whnf))
  all_goals (exfalso; simp_all)
theorem t11 (s : Int) (l : List (Int × Int)) (hs : inK .u8 s) (hl : Okd (.slice Two) l) :
    Tri Try.prog true 11 [.val (.int .u8 s), Ps l] (.val (.bool true)) :=
  tri_of_body (Γ := [c12, c13, c32, c43, c44]) (by simp [k12, k13, k32, k43, k44]) Try.func11 (by simp [Try.ntmps11]) rfl (b11 s l hs)
end EB
end
