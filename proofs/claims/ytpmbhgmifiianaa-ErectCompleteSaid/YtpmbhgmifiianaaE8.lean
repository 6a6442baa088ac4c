import Derived.Test.YtpmbhgmifiianaaE7
open Go Go.Proofs Go.Eng Go.Shelf
namespace EB
set_option maxRecDepth 10000
abbrev Site (on : List (List Int)) (rs : List Bool) : SV := .agg [.seq (.slice (.int .i64)) on, .seq .bool rs]
abbrev SiteB (on : List (List Int)) (rs : List Bool) : SV := .lelem [.seq (.slice (.int .i64)) on, .seq .bool rs] 0
abbrev itS (S : List (Int × Int)) : Nat → List SV := fun i => [.agg [I (S.getD i (0, 0)).1, I (S.getD i (0, 0)).2]]
theorem b61 (on : List (List Int)) (rs : List Bool) : body Try.prog [] {} false Try.f61 [Site on rs] (.clo 75 [] [SiteB on rs]) := by
  (repeat' ((conv => whnf); first | (refine Giv.mk (fun _ => ?_)) | (refine Alt.l (Need.mk ?h ?_); case h => omega) | (refine Alt.r (Need.mk ?h ?_); case h => omega) | (refine Need.mk ?h ?_; case h => omega) | (refine Need.mk ?h ?_; case h => (intro _; rfl)) | (refine Need.mk ?h ?_; case h => assumption) | (refine Need.mk ?h ?_; case h => (simp <;> omega)) | (refine Ix.zero ?_) | (refine Ix.one ?_) | (refine Ix.two ?_) | (refine Ix.nat ?_) | (refine Ix.add ?_) | (apply Go.Eng.Pin.mk; apply Exists.intro) | (apply Go.Eng.Pinned.mk (Eq.refl _) (Eq.refl _)) | (apply Go.Eng.PinH.mk; apply Exists.intro; apply Exists.intro) | (exact Go.Eng.Fin0.mk) | (refine Go.Eng.Chk.mk ?_ ?_) | fail))
  (conv => whnf)
  (repeat' (first | exact trivial | rfl | exact Nat.one_pos | (refine And.intro ?_ ?_) | ((conv => whnf); (refine And.intro ?_ ?_)) | ((conv => whnf); exact trivial)))
def c61 : Con := mkCon 61 false fun args K => match args with | [.agg [.seq (.slice (.int .i64)) on, .seq .bool rs]] => K (.clo 75 [] [.lelem [.seq (.slice (.int .i64)) on, .seq .bool rs] 0]) | _ => False
theorem k61 : ConOK Try.prog c61 := by
  refine conOK_of rfl (enters_of Try.func61 (by kernel_rfl) rfl) ?_
  intro args K h
  simp only [c61] at h
  split at h
  · rename_i on rs; exact ⟨_, h, tri_of_body (Γ := []) (by simp) Try.func61 (by simp [Try.ntmps61]) rfl (b61 on rs)⟩
  · exact h.elim
def SiteOk (on : List (List Int)) (rs : List Bool) : Prop := RowsOk on ∧ on.length ≤ 512 ∧ rs.length = on.length
theorem getD_mid {α : Type} (A : List α) (x : α) (r : List α) (d : α) : (A ++ (x :: r)).getD A.length d = x := by
  simp [List.getD_eq_getElem?_getD]
theorem getD_mid2 {α : Type} (A : List α) (x y : α) (r : List α) (d : α) : (A ++ (x :: y :: r)).getD (A.length + 1) d = y := by
  simp [List.getD_eq_getElem?_getD]
theorem putL_snoc (ws ms : List Int) (m : Int) : putL ws (ms ++ [m]) = putW (putL ws ms) m := by simp [putL]
theorem b75 (on : List (List Int)) (rs : List Bool) (h : SiteOk on rs) : bodyI Try.prog [c46, c47, c49] { asks := [(0, []), (2, [])] } Try.f75 [SiteB on rs] (ordS on rs on.length).length (itS (ordS on rs on.length)) := by
  obtain ⟨h1, h2, h3⟩ := h
  (repeat' ((conv => whnf); first | (refine Giv.mk (fun _ => ?_)) | (refine Alt.l (Need.mk ?h ?_); case h => omega) | (refine Alt.r (Need.mk ?h ?_); case h => omega) | (refine Need.mk ?h ?_; case h => omega) | (refine Need.mk ?h ?_; case h => (intro _; rfl)) | (refine Need.mk ?h ?_; case h => assumption) | (refine Need.mk ?h ?_; case h => (simp <;> omega)) | (refine Ix.zero ?_) | (refine Ix.one ?_) | (refine Ix.two ?_) | (refine Ix.nat ?_) | (refine Ix.add ?_) | (apply Go.Eng.Pin.mk; apply Exists.intro) | (apply Go.Eng.Pinned.mk (Eq.refl _) (Eq.refl _)) | (apply Go.Eng.PinH.mk; apply Exists.intro; apply Exists.intro) | (exact Go.Eng.Fin0.mk) | (refine Go.Eng.Chk.mk ?_ ?_) | fail))
  refine Ask.mk ⟨{ X := Nat, pre := fun k => k ≤ on.length ∧ (msAt on on.length k).length = k, mod := fun k _ => [], heap := fun k _ => [.yst (some (stepsOf rs (msAt on on.length k)).length) (ordS on rs on.length).length (itS (ordS on rs on.length)), .vec 1 (.int .u64) (putL (words on.length) (msAt on on.length k)) 103], mu := fun k => on.length - k }, rfl, ?_⟩
  (repeat' ((conv => whnf); first | (refine Giv.mk (fun _ => ?_)) | (refine Alt.l (Need.mk ?h ?_); case h => omega) | (refine Alt.r (Need.mk ?h ?_); case h => omega) | (refine Need.mk ?h ?_; case h => omega) | (refine Need.mk ?h ?_; case h => (intro _; rfl)) | (refine Need.mk ?h ?_; case h => assumption) | (refine Need.mk ?h ?_; case h => (simp <;> omega)) | (refine Ix.zero ?_) | (refine Ix.one ?_) | (refine Ix.two ?_) | (refine Ix.nat ?_) | (refine Ix.add ?_) | (apply Go.Eng.Pin.mk; apply Exists.intro) | (apply Go.Eng.Pinned.mk (Eq.refl _) (Eq.refl _)) | (apply Go.Eng.PinH.mk; apply Exists.intro; apply Exists.intro) | (exact Go.Eng.Fin0.mk) | (refine Go.Eng.Chk.mk ?_ ?_) | fail))
  refine ⟨⟨(0 : Nat), ⟨Nat.zero_le _, rfl⟩, ?_⟩, fun (k : Nat) hk => ?_⟩
  · (repeat' (first | exact trivial | rfl | exact Nat.one_pos | (refine And.intro ?_ ?_) | omega | ((conv => whnf); (refine And.intro ?_ ?_)) | ((conv => whnf); exact trivial)))
  · obtain ⟨hk, hlen⟩ := hk
    (repeat' ((conv => whnf); first | (refine Giv.mk (fun _ => ?_)) | (refine Alt.l (Need.mk ?h ?_); case h => omega) | (refine Alt.r (Need.mk ?h ?_); case h => omega) | (refine Need.mk ?h ?_; case h => omega) | (refine Need.mk ?h ?_; case h => (intro _; rfl)) | (refine Need.mk ?h ?_; case h => assumption) | (refine Need.mk ?h ?_; case h => (simp <;> omega)) | (refine Ix.zero ?_) | (refine Ix.one ?_) | (refine Ix.two ?_) | (refine Ix.nat ?_) | (refine Ix.add ?_) | (apply Go.Eng.Pin.mk; apply Exists.intro) | (apply Go.Eng.Pinned.mk (Eq.refl _) (Eq.refl _)) | (apply Go.Eng.PinH.mk; apply Exists.intro; apply Exists.intro) | (exact Go.Eng.Fin0.mk) | (refine Go.Eng.Chk.mk ?_ ?_) | fail))
    refine Ask.mk ⟨{ X := Nat, pre := fun i => i ≤ on.length ∧ ∀ j : Nat, j < i → ¬ readyP on (putL (words on.length) (msAt on on.length k)) j, mod := fun i _ => [(4, I (-1)), (13, I i)], heap := fun _ _ => [.yst (some (stepsOf rs (msAt on on.length k)).length) (ordS on rs on.length).length (itS (ordS on rs on.length)), .vec 1 (.int .u64) (putL (words on.length) (msAt on on.length k)) 103], mu := fun i => on.length - i }, rfl, ?_⟩
    (repeat' ((conv => whnf); first | (refine Giv.mk (fun _ => ?_)) | (refine Alt.l (Need.mk ?h ?_); case h => omega) | (refine Alt.r (Need.mk ?h ?_); case h => omega) | (refine Need.mk ?h ?_; case h => omega) | (refine Need.mk ?h ?_; case h => (intro _; rfl)) | (refine Need.mk ?h ?_; case h => assumption) | (refine Need.mk ?h ?_; case h => (simp <;> omega)) | (refine Ix.zero ?_) | (refine Ix.one ?_) | (refine Ix.two ?_) | (refine Ix.nat ?_) | (refine Ix.add ?_) | (apply Go.Eng.Pin.mk; apply Exists.intro) | (apply Go.Eng.Pinned.mk (Eq.refl _) (Eq.refl _)) | (apply Go.Eng.PinH.mk; apply Exists.intro; apply Exists.intro) | (exact Go.Eng.Fin0.mk) | (refine Go.Eng.Chk.mk ?_ ?_) | fail))
    refine ⟨⟨(0 : Nat), ⟨Nat.zero_le _, fun j hj => absurd hj (Nat.not_lt_zero _)⟩, ?_⟩, fun (i : Nat) hi => ?_⟩
    · (repeat' (first | exact trivial | rfl | exact Nat.one_pos | (refine And.intro ?_ ?_) | omega | ((conv => whnf); (refine And.intro ?_ ?_)) | ((conv => whnf); exact trivial)))
    · obtain ⟨hi, hno⟩ := hi
      (repeat' ((conv => whnf); first | (refine Giv.mk (fun _ => ?_)) | (refine Alt.l (Need.mk ?h ?_); case h => omega) | (refine Alt.r (Need.mk ?h ?_); case h => omega) | (refine Need.mk ?h ?_; case h => omega) | (refine Need.mk ?h ?_; case h => (intro _; rfl)) | (refine Need.mk ?h ?_; case h => assumption) | (refine Need.mk ?h ?_; case h => (simp <;> omega)) | (refine Ix.zero ?_) | (refine Ix.one ?_) | (refine Ix.two ?_) | (refine Ix.nat ?_) | (refine Ix.add ?_) | (apply Go.Eng.Pin.mk; apply Exists.intro) | (apply Go.Eng.Pinned.mk (Eq.refl _) (Eq.refl _)) | (apply Go.Eng.PinH.mk; apply Exists.intro; apply Exists.intro) | (exact Go.Eng.Fin0.mk) | (refine Go.Eng.Chk.mk ?_ ?_) | fail))
      (refine Br.mk (fun _ => ?_) (fun _ => ?_))
      · have hlt : i < on.length := by omega
        (repeat' ((conv => whnf); first | (refine Giv.mk (fun _ => ?_)) | (refine Alt.l (Need.mk ?h ?_); case h => omega) | (refine Alt.r (Need.mk ?h ?_); case h => omega) | (refine Need.mk ?h ?_; case h => omega) | (refine Need.mk ?h ?_; case h => (intro _; rfl)) | (refine Need.mk ?h ?_; case h => assumption) | (refine Need.mk ?h ?_; case h => (simp <;> omega)) | (refine Ix.zero ?_) | (refine Ix.one ?_) | (refine Ix.two ?_) | (refine Ix.nat ?_) | (refine Ix.add ?_) | (apply Go.Eng.Pin.mk; apply Exists.intro) | (apply Go.Eng.Pinned.mk (Eq.refl _) (Eq.refl _)) | (apply Go.Eng.PinH.mk; apply Exists.intro; apply Exists.intro) | (exact Go.Eng.Fin0.mk) | (refine Go.Eng.Chk.mk ?_ ?_) | fail))
        refine Need.mk ⟨h1, by omega, by omega⟩ ?_
        (repeat' ((conv => whnf); first | (refine Giv.mk (fun _ => ?_)) | (refine Alt.l (Need.mk ?h ?_); case h => omega) | (refine Alt.r (Need.mk ?h ?_); case h => omega) | (refine Need.mk ?h ?_; case h => omega) | (refine Need.mk ?h ?_; case h => (intro _; rfl)) | (refine Need.mk ?h ?_; case h => assumption) | (refine Need.mk ?h ?_; case h => (simp <;> omega)) | (refine Ix.zero ?_) | (refine Ix.one ?_) | (refine Ix.two ?_) | (refine Ix.nat ?_) | (refine Ix.add ?_) | (apply Go.Eng.Pin.mk; apply Exists.intro) | (apply Go.Eng.Pinned.mk (Eq.refl _) (Eq.refl _)) | (apply Go.Eng.PinH.mk; apply Exists.intro; apply Exists.intro) | (exact Go.Eng.Fin0.mk) | (refine Go.Eng.Chk.mk ?_ ?_) | fail))
        (refine Br.mk (fun _ => ?_) (fun _ => ?_))
        · rename_i hr
          have hnx : nxt on on.length (msAt on on.length k) = i := nxt_some hlt hr hno
          have hms : msAt on on.length (k + 1) = msAt on on.length k ++ [(i : Int)] := by rw [msAt_succ, hnx, if_pos (by omega)]
          have hk1 : k + 1 ≤ on.length := by
            have := msAt_len on (n := on.length) (by omega) (k + 1)
            rw [hms, List.length_append, hlen] at this
            simpa using this
          obtain ⟨r, hS⟩ := ordS_next (rs := rs) (n := on.length) (on := on) (k := k) (by simpa using hk1) (by rw [hnx]; omega)
          rw [hnx] at hS
          have hwl : ((putL (words on.length) (msAt on on.length k)).length : Int) = ((on.length : Int) + 63) / 64 := by rw [putL_len]; exact words_len _ (by omega)
          have hput := putL_snoc (words on.length) (msAt on on.length k) (i : Int)
          (repeat' ((conv => whnf); first | (refine Giv.mk (fun _ => ?_)) | (refine Alt.l (Need.mk ?h ?_); case h => omega) | (refine Alt.r (Need.mk ?h ?_); case h => omega) | (refine Need.mk ?h ?_; case h => omega) | (refine Need.mk ?h ?_; case h => (intro _; rfl)) | (refine Need.mk ?h ?_; case h => assumption) | (refine Need.mk ?h ?_; case h => (simp <;> omega)) | (refine Ix.zero ?_) | (refine Ix.one ?_) | (refine Ix.two ?_) | (refine Ix.nat ?_) | (refine Ix.add ?_) | (apply Go.Eng.Pin.mk; apply Exists.intro) | (apply Go.Eng.Pinned.mk (Eq.refl _) (Eq.refl _)) | (apply Go.Eng.PinH.mk; apply Exists.intro; apply Exists.intro) | (exact Go.Eng.Fin0.mk) | (refine Go.Eng.Chk.mk ?_ ?_) | (refine Br.mkY ?h ?_; case h => omega) | (refine Br.mkN ?h ?_; case h => omega) | (refine Br.mkY ?h ?_; case h => assumption) | (refine Br.mkN ?h ?_; case h => assumption) | (refine Br.mkN ?h ?_; case h => exact not_not_intro (by assumption)) | fail))
          (refine Br.mk (fun _ => ?_) (fun _ => ?_))
          · rename_i hf
            have hst : stepOf rs (i : Int) = [(2, (i : Int)), (1, (i : Int))] := by unfold stepOf; rw [if_neg (by simpa using hf)]
            rw [hst] at hS
            have hl1 : (stepsOf rs (msAt on on.length k)).length + 1 < (ordS on rs on.length).length := by rw [hS]; simp
            have hnl : (stepsOf rs (msAt on on.length (k + 1))).length = (stepsOf rs (msAt on on.length k)).length + 1 + 1 := by
              rw [hms, stepsOf_append, List.length_append]
              show _ + (stepOf rs (i : Int) ++ []).length = _
              rw [hst]; rfl
            have e1 : (ordS on rs on.length).getD (stepsOf rs (msAt on on.length k)).length (0, 0) = (2, (i : Int)) := by rw [hS]; exact getD_mid _ _ _ _
            have e2 : (ordS on rs on.length).getD ((stepsOf rs (msAt on on.length k)).length + 1) (0, 0) = (1, (i : Int)) := by rw [hS]; exact getD_mid2 _ _ _ _ _
            (repeat' ((conv => whnf); first | (refine Giv.mk (fun _ => ?_)) | (refine Alt.l (Need.mk ?h ?_); case h => omega) | (refine Alt.r (Need.mk ?h ?_); case h => omega) | (refine Need.mk ?h ?_; case h => omega) | (refine Need.mk ?h ?_; case h => (intro _; rfl)) | (refine Need.mk ?h ?_; case h => assumption) | (refine Need.mk ?h ?_; case h => (simp <;> omega)) | (refine Ix.zero ?_) | (refine Ix.one ?_) | (refine Ix.two ?_) | (refine Ix.nat ?_) | (refine Ix.add ?_) | (apply Go.Eng.Pin.mk; apply Exists.intro) | (apply Go.Eng.Pinned.mk (Eq.refl _) (Eq.refl _)) | (apply Go.Eng.PinH.mk; apply Exists.intro; apply Exists.intro) | (exact Go.Eng.Fin0.mk) | (refine Go.Eng.Chk.mk ?_ ?_) | fail))
            refine Need.mk (by
              (repeat' (first | exact trivial | rfl | exact Nat.one_pos | (refine And.intro ?_ ?_) | ((conv => whnf); (refine And.intro ?_ ?_)) | ((conv => whnf); exact trivial)))
              · rw [e1]
              · rw [e1]) ?_
            refine Two.mk ?_ ?_
            · (repeat' ((conv => whnf); first | (refine Giv.mk (fun _ => ?_)) | (refine Alt.l (Need.mk ?h ?_); case h => omega) | (refine Alt.r (Need.mk ?h ?_); case h => omega) | (refine Need.mk ?h ?_; case h => omega) | (refine Need.mk ?h ?_; case h => (intro _; rfl)) | (refine Need.mk ?h ?_; case h => assumption) | (refine Need.mk ?h ?_; case h => (simp <;> omega)) | (refine Ix.zero ?_) | (refine Ix.one ?_) | (refine Ix.two ?_) | (refine Ix.nat ?_) | (refine Ix.add ?_) | (apply Go.Eng.Pin.mk; apply Exists.intro) | (apply Go.Eng.Pinned.mk (Eq.refl _) (Eq.refl _)) | (apply Go.Eng.PinH.mk; apply Exists.intro; apply Exists.intro) | (exact Go.Eng.Fin0.mk) | (refine Go.Eng.Chk.mk ?_ ?_) | fail))
              refine Need.mk (by
                (repeat' (first | exact trivial | rfl | exact Nat.one_pos | (refine And.intro ?_ ?_) | ((conv => whnf); (refine And.intro ?_ ?_)) | ((conv => whnf); exact trivial)))
                · rw [e2]
                · rw [e2]) ?_
              refine Two.mk ?_ ?_
              · (repeat' ((conv => whnf); first | (refine Giv.mk (fun _ => ?_)) | (refine Alt.l (Need.mk ?h ?_); case h => omega) | (refine Alt.r (Need.mk ?h ?_); case h => omega) | (refine Need.mk ?h ?_; case h => omega) | (refine Need.mk ?h ?_; case h => (intro _; rfl)) | (refine Need.mk ?h ?_; case h => assumption) | (refine Need.mk ?h ?_; case h => (simp <;> omega)) | (refine Ix.zero ?_) | (refine Ix.one ?_) | (refine Ix.two ?_) | (refine Ix.nat ?_) | (refine Ix.add ?_) | (apply Go.Eng.Pin.mk; apply Exists.intro) | (apply Go.Eng.Pinned.mk (Eq.refl _) (Eq.refl _)) | (apply Go.Eng.PinH.mk; apply Exists.intro; apply Exists.intro) | (exact Go.Eng.Fin0.mk) | (refine Go.Eng.Chk.mk ?_ ?_) | fail))
                refine ⟨(k + 1 : Nat), by show on.length - (k + 1) < on.length - k; omega, ⟨hk1, by rw [hms, List.length_append, hlen]; rfl⟩, ?_⟩
                (repeat' (first | exact trivial | rfl | exact Nat.one_pos | (refine And.intro ?_ ?_) | omega | ((conv => whnf); (refine And.intro ?_ ?_)) | ((conv => whnf); exact trivial)))
                · exact congrArg some hnl.symm
                · show _ = putL (words on.length) (msAt on on.length (k + 1))
                  rw [hms]; exact hput.symm
              · (repeat' ((conv => whnf); first | (refine Giv.mk (fun _ => ?_)) | (refine Alt.l (Need.mk ?h ?_); case h => omega) | (refine Alt.r (Need.mk ?h ?_); case h => omega) | (refine Need.mk ?h ?_; case h => omega) | (refine Need.mk ?h ?_; case h => (intro _; rfl)) | (refine Need.mk ?h ?_; case h => assumption) | (refine Need.mk ?h ?_; case h => (simp <;> omega)) | (refine Ix.zero ?_) | (refine Ix.one ?_) | (refine Ix.two ?_) | (refine Ix.nat ?_) | (refine Ix.add ?_) | (apply Go.Eng.Pin.mk; apply Exists.intro) | (apply Go.Eng.Pinned.mk (Eq.refl _) (Eq.refl _)) | (apply Go.Eng.PinH.mk; apply Exists.intro; apply Exists.intro) | (exact Go.Eng.Fin0.mk) | (refine Go.Eng.Chk.mk ?_ ?_) | fail))
                (conv => whnf)
                trivial
            · (repeat' ((conv => whnf); first | (refine Giv.mk (fun _ => ?_)) | (refine Alt.l (Need.mk ?h ?_); case h => omega) | (refine Alt.r (Need.mk ?h ?_); case h => omega) | (refine Need.mk ?h ?_; case h => omega) | (refine Need.mk ?h ?_; case h => (intro _; rfl)) | (refine Need.mk ?h ?_; case h => assumption) | (refine Need.mk ?h ?_; case h => (simp <;> omega)) | (refine Ix.zero ?_) | (refine Ix.one ?_) | (refine Ix.two ?_) | (refine Ix.nat ?_) | (refine Ix.add ?_) | (apply Go.Eng.Pin.mk; apply Exists.intro) | (apply Go.Eng.Pinned.mk (Eq.refl _) (Eq.refl _)) | (apply Go.Eng.PinH.mk; apply Exists.intro; apply Exists.intro) | (exact Go.Eng.Fin0.mk) | (refine Go.Eng.Chk.mk ?_ ?_) | fail))
              (conv => whnf)
              trivial
          · rename_i hf
            have hst : stepOf rs (i : Int) = [(1, (i : Int))] := by unfold stepOf; rw [if_pos (by simpa using hf)]
            rw [hst] at hS
            have hl1 : (stepsOf rs (msAt on on.length k)).length < (ordS on rs on.length).length := by rw [hS]; simp
            have hnl : (stepsOf rs (msAt on on.length (k + 1))).length = (stepsOf rs (msAt on on.length k)).length + 1 := by
              rw [hms, stepsOf_append, List.length_append]
              show _ + (stepOf rs (i : Int) ++ []).length = _
              rw [hst]; rfl
            have e1 : (ordS on rs on.length).getD (stepsOf rs (msAt on on.length k)).length (0, 0) = (1, (i : Int)) := by rw [hS]; exact getD_mid _ _ _ _
            (repeat' ((conv => whnf); first | (refine Giv.mk (fun _ => ?_)) | (refine Alt.l (Need.mk ?h ?_); case h => omega) | (refine Alt.r (Need.mk ?h ?_); case h => omega) | (refine Need.mk ?h ?_; case h => omega) | (refine Need.mk ?h ?_; case h => (intro _; rfl)) | (refine Need.mk ?h ?_; case h => assumption) | (refine Need.mk ?h ?_; case h => (simp <;> omega)) | (refine Ix.zero ?_) | (refine Ix.one ?_) | (refine Ix.two ?_) | (refine Ix.nat ?_) | (refine Ix.add ?_) | (apply Go.Eng.Pin.mk; apply Exists.intro) | (apply Go.Eng.Pinned.mk (Eq.refl _) (Eq.refl _)) | (apply Go.Eng.PinH.mk; apply Exists.intro; apply Exists.intro) | (exact Go.Eng.Fin0.mk) | (refine Go.Eng.Chk.mk ?_ ?_) | fail))
            refine Need.mk (by
              (repeat' (first | exact trivial | rfl | exact Nat.one_pos | (refine And.intro ?_ ?_) | ((conv => whnf); (refine And.intro ?_ ?_)) | ((conv => whnf); exact trivial)))
              · rw [e1]
              · rw [e1]) ?_
            refine Two.mk ?_ ?_
            · (repeat' ((conv => whnf); first | (refine Giv.mk (fun _ => ?_)) | (refine Alt.l (Need.mk ?h ?_); case h => omega) | (refine Alt.r (Need.mk ?h ?_); case h => omega) | (refine Need.mk ?h ?_; case h => omega) | (refine Need.mk ?h ?_; case h => (intro _; rfl)) | (refine Need.mk ?h ?_; case h => assumption) | (refine Need.mk ?h ?_; case h => (simp <;> omega)) | (refine Ix.zero ?_) | (refine Ix.one ?_) | (refine Ix.two ?_) | (refine Ix.nat ?_) | (refine Ix.add ?_) | (apply Go.Eng.Pin.mk; apply Exists.intro) | (apply Go.Eng.Pinned.mk (Eq.refl _) (Eq.refl _)) | (apply Go.Eng.PinH.mk; apply Exists.intro; apply Exists.intro) | (exact Go.Eng.Fin0.mk) | (refine Go.Eng.Chk.mk ?_ ?_) | fail))
              refine ⟨(k + 1 : Nat), by show on.length - (k + 1) < on.length - k; omega, ⟨hk1, by rw [hms, List.length_append, hlen]; rfl⟩, ?_⟩
              (repeat' (first | exact trivial | rfl | exact Nat.one_pos | (refine And.intro ?_ ?_) | omega | ((conv => whnf); (refine And.intro ?_ ?_)) | ((conv => whnf); exact trivial)))
              · exact congrArg some hnl.symm
              · show _ = putL (words on.length) (msAt on on.length (k + 1))
                rw [hms]; exact hput.symm
            · (repeat' ((conv => whnf); first | (refine Giv.mk (fun _ => ?_)) | (refine Alt.l (Need.mk ?h ?_); case h => omega) | (refine Alt.r (Need.mk ?h ?_); case h => omega) | (refine Need.mk ?h ?_; case h => omega) | (refine Need.mk ?h ?_; case h => (intro _; rfl)) | (refine Need.mk ?h ?_; case h => assumption) | (refine Need.mk ?h ?_; case h => (simp <;> omega)) | (refine Ix.zero ?_) | (refine Ix.one ?_) | (refine Ix.two ?_) | (refine Ix.nat ?_) | (refine Ix.add ?_) | (apply Go.Eng.Pin.mk; apply Exists.intro) | (apply Go.Eng.Pinned.mk (Eq.refl _) (Eq.refl _)) | (apply Go.Eng.PinH.mk; apply Exists.intro; apply Exists.intro) | (exact Go.Eng.Fin0.mk) | (refine Go.Eng.Chk.mk ?_ ?_) | fail))
              (conv => whnf)
              trivial
        · rename_i hr
          (repeat' ((conv => whnf); first | (refine Giv.mk (fun _ => ?_)) | (refine Alt.l (Need.mk ?h ?_); case h => omega) | (refine Alt.r (Need.mk ?h ?_); case h => omega) | (refine Need.mk ?h ?_; case h => omega) | (refine Need.mk ?h ?_; case h => (intro _; rfl)) | (refine Need.mk ?h ?_; case h => assumption) | (refine Need.mk ?h ?_; case h => (simp <;> omega)) | (refine Ix.zero ?_) | (refine Ix.one ?_) | (refine Ix.two ?_) | (refine Ix.nat ?_) | (refine Ix.add ?_) | (apply Go.Eng.Pin.mk; apply Exists.intro) | (apply Go.Eng.Pinned.mk (Eq.refl _) (Eq.refl _)) | (apply Go.Eng.PinH.mk; apply Exists.intro; apply Exists.intro) | (exact Go.Eng.Fin0.mk) | (refine Go.Eng.Chk.mk ?_ ?_) | fail))
          refine ⟨(i + 1 : Nat), by show on.length - (i + 1) < on.length - i; omega, ⟨hlt, fun j hj => ?_⟩, by (repeat' (first | exact trivial | rfl | exact Nat.one_pos | (refine And.intro ?_ ?_) | omega | ((conv => whnf); (refine And.intro ?_ ?_)) | ((conv => whnf); exact trivial)))⟩
          by_cases e : j = i
          · subst e; exact hr
          · exact hno j (by omega)
      · have hii : i = on.length := by omega
        subst hii
        have hnx : nxt on on.length (msAt on on.length k) = -1 := nxt_none hno
        have he := ordS_end (rs := rs) hk (by rw [hnx]; omega)
        (repeat' ((conv => whnf); first | (refine Giv.mk (fun _ => ?_)) | (refine Alt.l (Need.mk ?h ?_); case h => omega) | (refine Alt.r (Need.mk ?h ?_); case h => omega) | (refine Need.mk ?h ?_; case h => omega) | (refine Need.mk ?h ?_; case h => (intro _; rfl)) | (refine Need.mk ?h ?_; case h => assumption) | (refine Need.mk ?h ?_; case h => (simp <;> omega)) | (refine Ix.zero ?_) | (refine Ix.one ?_) | (refine Ix.two ?_) | (refine Ix.nat ?_) | (refine Ix.add ?_) | (apply Go.Eng.Pin.mk; apply Exists.intro) | (apply Go.Eng.Pinned.mk (Eq.refl _) (Eq.refl _)) | (apply Go.Eng.PinH.mk; apply Exists.intro; apply Exists.intro) | (exact Go.Eng.Fin0.mk) | (refine Go.Eng.Chk.mk ?_ ?_) | (refine Br.mkY ?h ?_; case h => omega) | (refine Br.mkN ?h ?_; case h => omega) | (refine Br.mkY ?h ?_; case h => assumption) | (refine Br.mkN ?h ?_; case h => assumption) | (refine Br.mkN ?h ?_; case h => exact not_not_intro (by assumption)) | fail))
        (conv => whnf)
        rw [he]
def c75 : Con := mkCon 75 true fun args K => match args with | [.lelem [.seq (.slice (.int .i64)) on, .seq .bool rs] 0] => Need (SiteOk on rs) (K (.itr (ordS on rs on.length).length (itS (ordS on rs on.length)))) | _ => False
theorem k75 : ConOK Try.prog c75 := by
  refine conOK_of rfl (enters_of Try.func75 (by kernel_rfl) rfl) ?_
  intro args K h
  simp only [c75] at h
  split at h
  · rename_i on rs; exact ⟨_, h.go, triI_of_body (Γ := [c46, c47, c49]) (by simp [k46, k47, k49]) Try.func75 (by simp [Try.ntmps75]) (b75 on rs h.ok)⟩
  · exact h.elim
end EB
