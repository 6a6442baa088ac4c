/-
  Part 6: a symbolic executor over the model, contracts of functions and plain laws.
-/
import Derived.Test.YtpaniekmapghoaaP5
section
set_option linter.unusedVariables false
open Go Go.Proofs Go.Eng Go.Shelf
namespace PB
set_option maxRecDepth 100000
set_option linter.unusedVariables false
theorem zero_get (n i : Nat) : (List.replicate n (0 : Int)).getD i 0 = 0 := by rw [List.getD_eq_getElem?_getD, List.getElem?_replicate]; split <;> rfl
theorem allM_ne {ls cs : List Int} {len kerf : Int} (h : allE ls cs len kerf = 0) : 0 < (allM ls cs len kerf).length := by
  have hok := okC_of h
  obtain ⟨b1, b2, b3, b4⟩ := allE_iff.1 h
  have hf : Fit ls cs (List.replicate ls.length 0) len kerf := ⟨hok.1, hok.2.1, hok.2.2, by simp, fun i hi => by
    rw [zero_get]; have := hok.1.cB i hi; omega, by rw [zeros_used]; omega⟩
  obtain ⟨p, hp, _⟩ := fit_under hf
  exact List.length_pos_of_mem hp
theorem allM_len {ls cs : List Int} {len kerf : Int} (h : AllOk ls cs len kerf) (h0 : allE ls cs len kerf = 0) : (allM ls cs len kerf).length ≤ 4096 :=
  Nat.le_trans (List.length_filter_le _ _) (h h0)
def pkL (pk : List Int) (n : Int) (m : Nat) : List Int := (List.range m).map fun j => pk.getD j 0 % n
theorem pkL_succ (pk : List Int) (n : Int) (m : Nat) : pkL pk n (m + 1) = pkL pk n m ++ [pk.getD m 0 % n] := by
  unfold pkL; rw [List.range_succ, List.map_append]; rfl
theorem pkL_len (pk : List Int) (n : Int) (m : Nat) : (pkL pk n m).length = m := by simp [pkL]
theorem pkL_get (pk : List Int) (n : Int) (m i : Nat) (h : i < m) : (pkL pk n m).getD i 0 = pk.getD i 0 % n := by
  simp [pkL, List.getD_eq_getElem?_getD, h]
theorem exp_ok {ls cs : List Int} {len kerf : Int} (h : AllOk ls cs len kerf) (h0 : allE ls cs len kerf = 0) {us : List Int} (hn : us.length ≤ 4096) (hu : ∀ i, i < us.length → 0 ≤ us.getD i 0 ∧ us.getD i 0 < (allM ls cs len kerf).length) :
    expC ls (allM ls cs len kerf) us = 0 ∧ expN ls (allM ls cs len kerf) us = sumsL ls (allM ls cs len kerf) us us.length := by
  have hok := okC_of h0
  obtain ⟨b1, b2, b3, b4⟩ := allE_iff.1 h0
  have hl := allM_len h h0
  have hp : ∀ j, j < (allM ls cs len kerf).length → Fit ls cs ((allM ls cs len kerf).getD j []) len kerf := fun j hj => mem_fit hok ((allM_mem hok).1 (allM_get hj)).1
  have e1 : firstE (exB ls (allM ls cs len kerf)) (allM ls cs len kerf).length = 0 := firstE_none fun j hj => by
    unfold exB; rw [if_neg (by rw [(hp j hj).ql]; simp)]
  have e2 : firstE (exP ls (allM ls cs len kerf)) (allM ls cs len kerf).length = 0 := firstE_none fun j hj => cntE_none (by rw [(hp j hj).ql]; simp) fun k hk => by
    rw [(hp j hj).ql] at hk
    have := (hp j hj).qB k hk
    have := b4 k (by omega)
    unfold cntAt
    rw [if_neg (by omega)]
  have e3 : firstE (exU (allM ls cs len kerf) us) us.length = 0 := firstE_none fun j hj => by
    have := hu j hj
    unfold exU
    rw [if_neg (by omega)]
  have e : expC ls (allM ls cs len kerf) us = 0 := by
    unfold expC
    rw [if_neg (by rw [b1]; simp), if_neg (by rw [e1]; simp), if_neg (by rw [e2]; simp), if_neg (by omega), e3]
  exact ⟨e, if_neg (by rw [e]; simp)⟩
theorem exp_cover {ls cs : List Int} {len kerf : Int} (h0 : allE ls cs len kerf = 0) {us : List Int} (hu : ∀ i, i < us.length → 0 ≤ us.getD i 0 ∧ us.getD i 0 < (allM ls cs len kerf).length)
    (hc : ∀ k, k < cs.length → cs.getD k 0 ≤ (sumsL ls (allM ls cs len kerf) us us.length).getD k 0) : Cover ls kerf (len + kerf) cs us.length := by
  have hok := okC_of h0
  have hl := hok.1.len
  refine ⟨us.map fun k => (allM ls cs len kerf).getD k.toNat [], by simp, fun p hp => ?_, fun i hi => ?_⟩
  · obtain ⟨k, hk, rfl⟩ := List.mem_map.1 hp
    obtain ⟨j, hj, rfl⟩ := List.getElem_of_mem hk
    have := hu j hj
    have e : us.getD j 0 = us[j] := by simp [List.getD_eq_getElem?_getD, hj]
    rw [e] at this
    have hf := mem_fit hok ((allM_mem hok).1 (allM_get (show us[j].toNat < _ by omega))).1
    exact ⟨fun i hi => (hf.qB i hi).1, hf.room⟩
  · have := hc i (by omega)
    have e : (sumsL ls (allM ls cs len kerf) us us.length).getD i 0 = totU (allM ls cs len kerf) us us.length i := by
      simp [sumsL, List.getD_eq_getElem?_getD, hi]
    rw [e] at this
    have e2 : totP (us.map fun k => (allM ls cs len kerf).getD k.toNat []) i = totU (allM ls cs len kerf) us us.length i := by
      unfold totP totU
      rw [List.take_length, List.map_map]; rfl
    rw [e2]; exact this
set_option maxHeartbeats 8000000 in
theorem b7 (ls cs : List Int) (len kerf : Int) (pk : List Int) : body Try.prog [c12, c13, c15, c19, c24] { asks := [(0, [0]), (2, [])] } true Try.f7 [Ls ls, Ls cs, I len, I kerf, .seq (.int .u8) pk] (.val (.bool true)) := by
  (repeat' ((conv => whnf); first | (refine Giv.mk fun _ => ?_) | (refine Alt.l (Need.mk ?h ?_); case h => omega) | (refine Alt.r (Need.mk ?h ?_); case h => omega) | (refine Need.mk ?h ?_; case h => first | omega | (intro _; rfl) | assumption | (simp <;> omega)) | refine Ix.zero ?_ | refine Ix.one ?_ | refine Ix.two ?_ | refine Ix.nat ?_ | refine Ix.add ?_ | (apply Go.Eng.Pin.mk; apply Exists.intro) | apply Go.Eng.Pinned.mk rfl rfl | (apply Go.Eng.PinH.mk; apply Exists.intro; apply Exists.intro) | exact Go.Eng.Fin0.mk | refine Go.Eng.Chk.mk ?_ ?_ | refine Own.l ?_ | fail))
  (refine Br.mk (fun _ => ?_) (fun _ => ?_))
  · (repeat' ((conv => whnf); first | (refine Giv.mk fun _ => ?_) | (refine Alt.l (Need.mk ?h ?_); case h => omega) | (refine Alt.r (Need.mk ?h ?_); case h => omega) | (refine Need.mk ?h ?_; case h => first | omega | (intro _; rfl) | assumption | (simp <;> omega)) | refine Ix.zero ?_ | refine Ix.one ?_ | refine Ix.two ?_ | refine Ix.nat ?_ | refine Ix.add ?_ | (apply Go.Eng.Pin.mk; apply Exists.intro) | apply Go.Eng.Pinned.mk rfl rfl | (apply Go.Eng.PinH.mk; apply Exists.intro; apply Exists.intro) | exact Go.Eng.Fin0.mk | refine Go.Eng.Chk.mk ?_ ?_ | refine Own.l ?_ | fail))
    (conv => whnf)
    (repeat' (first | exact trivial | rfl | exact Nat.one_pos | (refine And.intro ?_ ?_) | ((conv => whnf); (refine And.intro ?_ ?_)) | ((conv => whnf); exact trivial)))
  · rename_i hf
    obtain ⟨hg, h0⟩ : fineE ls cs len kerf := Classical.not_not.1 hf
    obtain ⟨b1, b2, b3, b4⟩ := allE_iff.1 h0
    have hok := okC_of h0
    have hfew := hok.1.few
    have hL := great_least (len := len) (kerf := kerf) hg
    have hAll := hL.all
    have hne := allM_ne h0
    have har : allR ls cs len kerf = allM ls cs len kerf := if_neg (by rw [h0]; decide)
    (repeat' ((conv => whnf); first | (refine Giv.mk fun _ => ?_) | (refine Alt.l (Need.mk ?h ?_); case h => omega) | (refine Alt.r (Need.mk ?h ?_); case h => omega) | (refine Need.mk ?h ?_; case h => first | omega | (intro _; rfl) | assumption | (simp <;> omega)) | refine Ix.zero ?_ | refine Ix.one ?_ | refine Ix.two ?_ | refine Ix.nat ?_ | refine Ix.add ?_ | (apply Go.Eng.Pin.mk; apply Exists.intro) | apply Go.Eng.Pinned.mk rfl rfl | (apply Go.Eng.PinH.mk; apply Exists.intro; apply Exists.intro) | exact Go.Eng.Fin0.mk | refine Go.Eng.Chk.mk ?_ ?_ | refine Own.l ?_ | fail))
    (refine Br.mk (fun _ => ?_) (fun _ => ?_))
    · (repeat' ((conv => whnf); first | (refine Giv.mk fun _ => ?_) | (refine Alt.l (Need.mk ?h ?_); case h => omega) | (refine Alt.r (Need.mk ?h ?_); case h => omega) | (refine Need.mk ?h ?_; case h => first | omega | (intro _; rfl) | assumption | (simp <;> omega)) | refine Ix.zero ?_ | refine Ix.one ?_ | refine Ix.two ?_ | refine Ix.nat ?_ | refine Ix.add ?_ | (apply Go.Eng.Pin.mk; apply Exists.intro) | apply Go.Eng.Pinned.mk rfl rfl | (apply Go.Eng.PinH.mk; apply Exists.intro; apply Exists.intro) | exact Go.Eng.Fin0.mk | refine Go.Eng.Chk.mk ?_ ?_ | refine Own.l ?_ | fail))
      (conv => whnf)
      (repeat' (first | exact trivial | rfl | exact Nat.one_pos | (refine And.intro ?_ ?_) | ((conv => whnf); (refine And.intro ?_ ?_)) | ((conv => whnf); exact trivial)))
    · rename_i hp20
      (repeat' ((conv => whnf); first | (refine Giv.mk fun _ => ?_) | (refine Alt.l (Need.mk ?h ?_); case h => omega) | (refine Alt.r (Need.mk ?h ?_); case h => omega) | (refine Need.mk ?h ?_; case h => first | omega | (intro _; rfl) | assumption | (simp <;> omega)) | refine Ix.zero ?_ | refine Ix.one ?_ | refine Ix.two ?_ | refine Ix.nat ?_ | refine Ix.add ?_ | (apply Go.Eng.Pin.mk; apply Exists.intro) | apply Go.Eng.Pinned.mk rfl rfl | (apply Go.Eng.PinH.mk; apply Exists.intro; apply Exists.intro) | exact Go.Eng.Fin0.mk | refine Go.Eng.Chk.mk ?_ ?_ | refine Own.l ?_ | fail))
      rw [har, h0]
      refine Br.mkN (by simp) ?_
      (repeat' ((conv => whnf); first | (refine Giv.mk fun _ => ?_) | (refine Alt.l (Need.mk ?h ?_); case h => omega) | (refine Alt.r (Need.mk ?h ?_); case h => omega) | (refine Need.mk ?h ?_; case h => first | omega | (intro _; rfl) | assumption | (simp <;> omega)) | refine Ix.zero ?_ | refine Ix.one ?_ | refine Ix.two ?_ | refine Ix.nat ?_ | refine Ix.add ?_ | (apply Go.Eng.Pin.mk; apply Exists.intro) | apply Go.Eng.Pinned.mk rfl rfl | (apply Go.Eng.PinH.mk; apply Exists.intro; apply Exists.intro) | exact Go.Eng.Fin0.mk | refine Go.Eng.Chk.mk ?_ ?_ | refine Own.l ?_ | fail))
      refine Br.mkN (by omega) ?_
      (repeat' ((conv => whnf); first | (refine Giv.mk fun _ => ?_) | (refine Alt.l (Need.mk ?h ?_); case h => omega) | (refine Alt.r (Need.mk ?h ?_); case h => omega) | (refine Need.mk ?h ?_; case h => first | omega | (intro _; rfl) | assumption | (simp <;> omega)) | refine Ix.zero ?_ | refine Ix.one ?_ | refine Ix.two ?_ | refine Ix.nat ?_ | refine Ix.add ?_ | (apply Go.Eng.Pin.mk; apply Exists.intro) | apply Go.Eng.Pinned.mk rfl rfl | (apply Go.Eng.PinH.mk; apply Exists.intro; apply Exists.intro) | exact Go.Eng.Fin0.mk | refine Go.Eng.Chk.mk ?_ ?_ | refine Own.l ?_ | fail))
      rcases lstC_cases (len := len) h0 with hc | hc
      rotate_left
      · rw [hc]
        refine Br.mkY (by decide) ?_
        (repeat' ((conv => whnf); first | (refine Giv.mk fun _ => ?_) | (refine Alt.l (Need.mk ?h ?_); case h => omega) | (refine Alt.r (Need.mk ?h ?_); case h => omega) | (refine Need.mk ?h ?_; case h => first | omega | (intro _; rfl) | assumption | (simp <;> omega)) | refine Ix.zero ?_ | refine Ix.one ?_ | refine Ix.two ?_ | refine Ix.nat ?_ | refine Ix.add ?_ | (apply Go.Eng.Pin.mk; apply Exists.intro) | apply Go.Eng.Pinned.mk rfl rfl | (apply Go.Eng.PinH.mk; apply Exists.intro; apply Exists.intro) | exact Go.Eng.Fin0.mk | refine Go.Eng.Chk.mk ?_ ?_ | refine Own.l ?_ | fail))
        refine Br.mkY rfl ?_
        (repeat' ((conv => whnf); first | (refine Giv.mk fun _ => ?_) | (refine Alt.l (Need.mk ?h ?_); case h => omega) | (refine Alt.r (Need.mk ?h ?_); case h => omega) | (refine Need.mk ?h ?_; case h => first | omega | (intro _; rfl) | assumption | (simp <;> omega)) | refine Ix.zero ?_ | refine Ix.one ?_ | refine Ix.two ?_ | refine Ix.nat ?_ | refine Ix.add ?_ | (apply Go.Eng.Pin.mk; apply Exists.intro) | apply Go.Eng.Pinned.mk rfl rfl | (apply Go.Eng.PinH.mk; apply Exists.intro; apply Exists.intro) | exact Go.Eng.Fin0.mk | refine Go.Eng.Chk.mk ?_ ?_ | refine Own.l ?_ | fail))
        (conv => whnf)
      · rw [hc]
        refine Br.mkN (by simp) ?_
        obtain ⟨N, hN⟩ : ∃ N, (lstB ls cs len kerf).length = N := ⟨_, rfl⟩
        have hN16 : N ≤ 16 := by rw [← hN]; exact lst_le hL hc
        have hcov := lst_cover hL hc
        have hmin : ∀ {n : Nat}, Cover ls kerf (len + kerf) cs n → N ≤ n := fun h => by rw [← hN]; exact lst_min hL hc h
        have hA4 := allM_len hAll h0
        have hX : ∀ {us : List Int}, us.length ≤ 4096 → (∀ i, i < us.length → 0 ≤ us.getD i 0 ∧ us.getD i 0 < (allM ls cs len kerf).length) → _ := fun h1 h2 => exp_ok hAll h0 h1 h2
        have hY : ∀ {us : List Int}, (∀ i, i < us.length → 0 ≤ us.getD i 0 ∧ us.getD i 0 < (allM ls cs len kerf).length) → _ := fun h1 => exp_cover h0 h1
        rw [hN] at hcov ⊢
        obtain ⟨A, hA⟩ : ∃ A, allM ls cs len kerf = A := ⟨_, rfl⟩
        rw [hA] at hX hY hne hA4 ⊢
        have hused := cover_used (fun i hi => by have := hok.1.lB i hi; have := hok.1.k0; omega) hcov
        have hnr := mul_range (a := (N : Int)) (b := len + kerf) (A := 16) (B := 1049576) ⟨by omega, by omega⟩ ⟨by omega, by omega⟩
        (repeat' ((conv => whnf); first | (refine Giv.mk fun _ => ?_) | (refine Alt.l (Need.mk ?h ?_); case h => omega) | (refine Alt.r (Need.mk ?h ?_); case h => omega) | (refine Need.mk ?h ?_; case h => first | omega | (intro _; rfl) | assumption | (simp <;> omega)) | refine Ix.zero ?_ | refine Ix.one ?_ | refine Ix.two ?_ | refine Ix.nat ?_ | refine Ix.add ?_ | (apply Go.Eng.Pin.mk; apply Exists.intro) | apply Go.Eng.Pinned.mk rfl rfl | (apply Go.Eng.PinH.mk; apply Exists.intro; apply Exists.intro) | exact Go.Eng.Fin0.mk | refine Go.Eng.Chk.mk ?_ ?_ | refine Own.l ?_ | fail))
        refine Ask.mk ⟨{ X := Nat, pre := fun i => i ≤ pk.length, mod := fun i _ => [(69, I i), (16, .ref 0 1)], heap := fun i _ => [.vec 1 (.int .i64) (pkL pk A.length (min i (N - 1))) 3], objs := [0], mu := fun i => pk.length - i }, rfl, ?_⟩
        (repeat' ((conv => whnf); first | (refine Giv.mk fun _ => ?_) | (refine Alt.l (Need.mk ?h ?_); case h => omega) | (refine Alt.r (Need.mk ?h ?_); case h => omega) | (refine Need.mk ?h ?_; case h => first | omega | (intro _; rfl) | assumption | (simp <;> omega)) | refine Ix.zero ?_ | refine Ix.one ?_ | refine Ix.two ?_ | refine Ix.nat ?_ | refine Ix.add ?_ | (apply Go.Eng.Pin.mk; apply Exists.intro) | apply Go.Eng.Pinned.mk rfl rfl | (apply Go.Eng.PinH.mk; apply Exists.intro; apply Exists.intro) | exact Go.Eng.Fin0.mk | refine Go.Eng.Chk.mk ?_ ?_ | refine Own.l ?_ | fail))
        refine ⟨⟨(0 : Nat), Nat.zero_le _, by (repeat' (first | exact trivial | rfl | exact Nat.one_pos | (refine And.intro ?_ ?_) | omega | ((conv => whnf); (refine And.intro ?_ ?_)) | ((conv => whnf); exact trivial)))⟩, fun (i : Nat) hi => ?_⟩
        have hi : i ≤ pk.length := hi
        (repeat' ((conv => whnf); first | (refine Giv.mk fun _ => ?_) | (refine Alt.l (Need.mk ?h ?_); case h => omega) | (refine Alt.r (Need.mk ?h ?_); case h => omega) | (refine Need.mk ?h ?_; case h => first | omega | (intro _; rfl) | assumption | (simp <;> omega)) | refine Ix.zero ?_ | refine Ix.one ?_ | refine Ix.two ?_ | refine Ix.nat ?_ | refine Ix.add ?_ | (apply Go.Eng.Pin.mk; apply Exists.intro) | apply Go.Eng.Pinned.mk rfl rfl | (apply Go.Eng.PinH.mk; apply Exists.intro; apply Exists.intro) | exact Go.Eng.Fin0.mk | refine Go.Eng.Chk.mk ?_ ?_ | refine Own.l ?_ | fail))
        (refine Br.mk (fun _ => ?_) (fun _ => ?_))
        · have hlt : i < pk.length := by omega
          (repeat' ((conv => whnf); first | (refine Giv.mk fun _ => ?_) | (refine Alt.l (Need.mk ?h ?_); case h => omega) | (refine Alt.r (Need.mk ?h ?_); case h => omega) | (refine Need.mk ?h ?_; case h => first | omega | (intro _; rfl) | assumption | (simp <;> omega)) | refine Ix.zero ?_ | refine Ix.one ?_ | refine Ix.two ?_ | refine Ix.nat ?_ | refine Ix.add ?_ | (apply Go.Eng.Pin.mk; apply Exists.intro) | apply Go.Eng.Pinned.mk rfl rfl | (apply Go.Eng.PinH.mk; apply Exists.intro; apply Exists.intro) | exact Go.Eng.Fin0.mk | refine Go.Eng.Chk.mk ?_ ?_ | refine Own.l ?_ | fail))
          (refine Br.mk (fun _ => ?_) (fun _ => ?_))
          · rename_i g
            have e1 : min i (N - 1) = i := by omega
            have e2 : min (i + 1) (N - 1) = i + 1 := by omega
            (repeat' ((conv => whnf); first | (refine Giv.mk fun _ => ?_) | (refine Alt.l (Need.mk ?h ?_); case h => omega) | (refine Alt.r (Need.mk ?h ?_); case h => omega) | (refine Need.mk ?h ?_; case h => first | omega | (intro _; rfl) | assumption | (simp <;> omega)) | refine Ix.zero ?_ | refine Ix.one ?_ | refine Ix.two ?_ | refine Ix.nat ?_ | refine Ix.add ?_ | (apply Go.Eng.Pin.mk; apply Exists.intro) | apply Go.Eng.Pinned.mk rfl rfl | (apply Go.Eng.PinH.mk; apply Exists.intro; apply Exists.intro) | exact Go.Eng.Fin0.mk | refine Go.Eng.Chk.mk ?_ ?_ | refine Own.l ?_ | fail))
            refine Need.mk (by have := pkL_len pk A.length (min i (N - 1)); simp only [List.length_singleton]; omega) ?_
            (repeat' ((conv => whnf); first | (refine Giv.mk fun _ => ?_) | (refine Alt.l (Need.mk ?h ?_); case h => omega) | (refine Alt.r (Need.mk ?h ?_); case h => omega) | (refine Need.mk ?h ?_; case h => first | omega | (intro _; rfl) | assumption | (simp <;> omega)) | refine Ix.zero ?_ | refine Ix.one ?_ | refine Ix.two ?_ | refine Ix.nat ?_ | refine Ix.add ?_ | (apply Go.Eng.Pin.mk; apply Exists.intro) | apply Go.Eng.Pinned.mk rfl rfl | (apply Go.Eng.PinH.mk; apply Exists.intro; apply Exists.intro) | exact Go.Eng.Fin0.mk | refine Go.Eng.Chk.mk ?_ ?_ | refine Own.l ?_ | fail))
            refine ⟨(i + 1 : Nat), by show pk.length - (i + 1) < pk.length - i; omega, hlt, ?_⟩
            (repeat' (first | exact trivial | rfl | exact Nat.one_pos | (refine And.intro ?_ ?_) | omega | ((conv => whnf); (refine And.intro ?_ ?_)) | ((conv => whnf); exact trivial)))
            (conv => whnf)
            rw [e1, e2, pkL_succ]
          · rename_i g
            have e1 : min i (N - 1) = N - 1 := by omega
            have e2 : min (i + 1) (N - 1) = N - 1 := by omega
            (repeat' ((conv => whnf); first | (refine Giv.mk fun _ => ?_) | (refine Alt.l (Need.mk ?h ?_); case h => omega) | (refine Alt.r (Need.mk ?h ?_); case h => omega) | (refine Need.mk ?h ?_; case h => first | omega | (intro _; rfl) | assumption | (simp <;> omega)) | refine Ix.zero ?_ | refine Ix.one ?_ | refine Ix.two ?_ | refine Ix.nat ?_ | refine Ix.add ?_ | (apply Go.Eng.Pin.mk; apply Exists.intro) | apply Go.Eng.Pinned.mk rfl rfl | (apply Go.Eng.PinH.mk; apply Exists.intro; apply Exists.intro) | exact Go.Eng.Fin0.mk | refine Go.Eng.Chk.mk ?_ ?_ | refine Own.l ?_ | fail))
            refine ⟨(i + 1 : Nat), by show pk.length - (i + 1) < pk.length - i; omega, hlt, by (repeat' (first | exact trivial | rfl | exact Nat.one_pos | (refine And.intro ?_ ?_) | omega | ((conv => whnf); (refine And.intro ?_ ?_)) | ((conv => whnf); exact trivial))); (conv => whnf); rw [e1, e2]⟩
        · have e : i = pk.length := by omega
          subst e
          obtain ⟨M, hM⟩ : ∃ M, min pk.length (N - 1) = M := ⟨_, rfl⟩
          have hu : ∀ i, i < (pkL pk A.length M).length → 0 ≤ (pkL pk A.length M).getD i 0 ∧ (pkL pk A.length M).getD i 0 < A.length := fun i hi => by
            rw [pkL_len] at hi
            rw [pkL_get _ _ _ _ hi]
            exact ⟨Int.emod_nonneg _ (by omega), Int.emod_lt_of_pos _ (by omega)⟩
          obtain ⟨x1, x2⟩ := hX (by rw [pkL_len]; omega) hu
          have y1 := hY hu
          rw [pkL_len] at y1 x2
          have hSl : (expN ls A (pkL pk A.length M)).length = ls.length := by rw [x2]; simp [sumsL]
          rw [← x2] at y1
          rw [hM]
          (repeat' ((conv => whnf); first | (refine Giv.mk fun _ => ?_) | (refine Alt.l (Need.mk ?h ?_); case h => omega) | (refine Alt.r (Need.mk ?h ?_); case h => omega) | (refine Need.mk ?h ?_; case h => first | omega | (intro _; rfl) | assumption | (simp <;> omega)) | refine Ix.zero ?_ | refine Ix.one ?_ | refine Ix.two ?_ | refine Ix.nat ?_ | refine Ix.add ?_ | (apply Go.Eng.Pin.mk; apply Exists.intro) | apply Go.Eng.Pinned.mk rfl rfl | (apply Go.Eng.PinH.mk; apply Exists.intro; apply Exists.intro) | exact Go.Eng.Fin0.mk | refine Go.Eng.Chk.mk ?_ ?_ | refine Own.l ?_ | fail))
          refine Br.mkN (not_not_intro x1) ?_
          (repeat' ((conv => whnf); first | (refine Giv.mk fun _ => ?_) | (refine Alt.l (Need.mk ?h ?_); case h => omega) | (refine Alt.r (Need.mk ?h ?_); case h => omega) | (refine Need.mk ?h ?_; case h => first | omega | (intro _; rfl) | assumption | (simp <;> omega)) | refine Ix.zero ?_ | refine Ix.one ?_ | refine Ix.two ?_ | refine Ix.nat ?_ | refine Ix.add ?_ | (apply Go.Eng.Pin.mk; apply Exists.intro) | apply Go.Eng.Pinned.mk rfl rfl | (apply Go.Eng.PinH.mk; apply Exists.intro; apply Exists.intro) | exact Go.Eng.Fin0.mk | refine Go.Eng.Chk.mk ?_ ?_ | refine Own.l ?_ | fail))
          refine Br.mkN (not_not_intro (by omega)) ?_
          (repeat' ((conv => whnf); first | (refine Giv.mk fun _ => ?_) | (refine Alt.l (Need.mk ?h ?_); case h => omega) | (refine Alt.r (Need.mk ?h ?_); case h => omega) | (refine Need.mk ?h ?_; case h => first | omega | (intro _; rfl) | assumption | (simp <;> omega)) | refine Ix.zero ?_ | refine Ix.one ?_ | refine Ix.two ?_ | refine Ix.nat ?_ | refine Ix.add ?_ | (apply Go.Eng.Pin.mk; apply Exists.intro) | apply Go.Eng.Pinned.mk rfl rfl | (apply Go.Eng.PinH.mk; apply Exists.intro; apply Exists.intro) | exact Go.Eng.Fin0.mk | refine Go.Eng.Chk.mk ?_ ?_ | refine Own.l ?_ | fail))
          refine Ask.mk ⟨{ X := Nat, pre := fun i => i ≤ cs.length ∧ 0 ≤ usedK ls kerf cs i ∧ usedK ls kerf cs i ≤ i * 67172864, mod := fun i _ => [(106, I i), (20, .bl (∀ k, k < i → cs.getD k 0 ≤ (expN ls A (pkL pk A.length M)).getD k 0) (Classical.propDecidable _)), (21, I (usedK ls kerf cs i))], mu := fun i => cs.length - i }, rfl, ?_⟩
          (repeat' ((conv => whnf); first | (refine Giv.mk fun _ => ?_) | (refine Alt.l (Need.mk ?h ?_); case h => omega) | (refine Alt.r (Need.mk ?h ?_); case h => omega) | (refine Need.mk ?h ?_; case h => first | omega | (intro _; rfl) | assumption | (simp <;> omega)) | refine Ix.zero ?_ | refine Ix.one ?_ | refine Ix.two ?_ | refine Ix.nat ?_ | refine Ix.add ?_ | (apply Go.Eng.Pin.mk; apply Exists.intro) | apply Go.Eng.Pinned.mk rfl rfl | (apply Go.Eng.PinH.mk; apply Exists.intro; apply Exists.intro) | exact Go.Eng.Fin0.mk | refine Go.Eng.Chk.mk ?_ ?_ | refine Own.l ?_ | fail))
          refine ⟨⟨(0 : Nat), ⟨Nat.zero_le _, Int.le_refl _, Int.le_refl _⟩, by (repeat' (first | exact trivial | rfl | exact Nat.one_pos | (refine And.intro ?_ ?_) | omega | ((conv => whnf); (refine And.intro ?_ ?_)) | ((conv => whnf); exact trivial))); exact fun k hk => by omega⟩, fun (i : Nat) hi => ?_⟩
          obtain ⟨hi, hu1, hu2⟩ := hi
          have hi : i ≤ cs.length := hi
          have hu1 : 0 ≤ usedK ls kerf cs i := hu1
          have hu2 : usedK ls kerf cs i ≤ i * 67172864 := hu2
          (repeat' ((conv => whnf); first | (refine Giv.mk fun _ => ?_) | (refine Alt.l (Need.mk ?h ?_); case h => omega) | (refine Alt.r (Need.mk ?h ?_); case h => omega) | (refine Need.mk ?h ?_; case h => first | omega | (intro _; rfl) | assumption | (simp <;> omega)) | refine Ix.zero ?_ | refine Ix.one ?_ | refine Ix.two ?_ | refine Ix.nat ?_ | refine Ix.add ?_ | (apply Go.Eng.Pin.mk; apply Exists.intro) | apply Go.Eng.Pinned.mk rfl rfl | (apply Go.Eng.PinH.mk; apply Exists.intro; apply Exists.intro) | exact Go.Eng.Fin0.mk | refine Go.Eng.Chk.mk ?_ ?_ | refine Own.l ?_ | fail))
          (refine Br.mk (fun _ => ?_) (fun _ => ?_))
          · have hlt : i < cs.length := by omega
            have hcb := b4 i hlt
            have hlb := hok.1.lB i (by omega)
            have hm := mul_range (a := cs.getD i 0) (b := ls.getD i 0 + kerf) (A := 64) (B := 1049576) hcb ⟨by omega, by omega⟩
            have hus := usedK_succ ls kerf cs i
            have key : (∀ k, k < i + 1 → cs.getD k 0 ≤ (expN ls A (pkL pk A.length M)).getD k 0) ↔ (∀ k, k < i → cs.getD k 0 ≤ (expN ls A (pkL pk A.length M)).getD k 0) ∧ cs.getD i 0 ≤ (expN ls A (pkL pk A.length M)).getD i 0 := by
              refine ⟨fun h => ⟨fun k hk => h k (by omega), h i (by omega)⟩, fun h k hk => ?_⟩
              by_cases e : k = i
              · subst e; exact h.2
              · exact h.1 k (by omega)
            (repeat' ((conv => whnf); first | (refine Giv.mk fun _ => ?_) | (refine Alt.l (Need.mk ?h ?_); case h => omega) | (refine Alt.r (Need.mk ?h ?_); case h => omega) | (refine Need.mk ?h ?_; case h => first | omega | (intro _; rfl) | assumption | (simp <;> omega)) | refine Ix.zero ?_ | refine Ix.one ?_ | refine Ix.two ?_ | refine Ix.nat ?_ | refine Ix.add ?_ | (apply Go.Eng.Pin.mk; apply Exists.intro) | apply Go.Eng.Pinned.mk rfl rfl | (apply Go.Eng.PinH.mk; apply Exists.intro; apply Exists.intro) | exact Go.Eng.Fin0.mk | refine Go.Eng.Chk.mk ?_ ?_ | refine Own.l ?_ | fail))
            (refine Br.mk (fun _ => ?_) (fun _ => ?_))
            · rename_i g
              (repeat' ((conv => whnf); first | (refine Giv.mk fun _ => ?_) | (refine Alt.l (Need.mk ?h ?_); case h => omega) | (refine Alt.r (Need.mk ?h ?_); case h => omega) | (refine Need.mk ?h ?_; case h => first | omega | (intro _; rfl) | assumption | (simp <;> omega)) | refine Ix.zero ?_ | refine Ix.one ?_ | refine Ix.two ?_ | refine Ix.nat ?_ | refine Ix.add ?_ | (apply Go.Eng.Pin.mk; apply Exists.intro) | apply Go.Eng.Pinned.mk rfl rfl | (apply Go.Eng.PinH.mk; apply Exists.intro; apply Exists.intro) | exact Go.Eng.Fin0.mk | refine Go.Eng.Chk.mk ?_ ?_ | refine Own.l ?_ | fail))
              refine ⟨(i + 1 : Nat), by show cs.length - (i + 1) < cs.length - i; omega, ⟨hlt, by rw [hus]; omega, by rw [hus]; omega⟩, ?_⟩
              (repeat' (first | exact trivial | rfl | exact Nat.one_pos | (refine And.intro ?_ ?_) | omega | ((conv => whnf); (refine And.intro ?_ ?_)) | ((conv => whnf); exact trivial)))
              exact ⟨fun h => key.2 ⟨g, h⟩, fun h => (key.1 h).2⟩
            · rename_i g
              (repeat' ((conv => whnf); first | (refine Giv.mk fun _ => ?_) | (refine Alt.l (Need.mk ?h ?_); case h => omega) | (refine Alt.r (Need.mk ?h ?_); case h => omega) | (refine Need.mk ?h ?_; case h => first | omega | (intro _; rfl) | assumption | (simp <;> omega)) | refine Ix.zero ?_ | refine Ix.one ?_ | refine Ix.two ?_ | refine Ix.nat ?_ | refine Ix.add ?_ | (apply Go.Eng.Pin.mk; apply Exists.intro) | apply Go.Eng.Pinned.mk rfl rfl | (apply Go.Eng.PinH.mk; apply Exists.intro; apply Exists.intro) | exact Go.Eng.Fin0.mk | refine Go.Eng.Chk.mk ?_ ?_ | refine Own.l ?_ | fail))
              refine ⟨(i + 1 : Nat), by show cs.length - (i + 1) < cs.length - i; omega, ⟨hlt, by rw [hus]; omega, by rw [hus]; omega⟩, ?_⟩
              (repeat' (first | exact trivial | rfl | exact Nat.one_pos | (refine And.intro ?_ ?_) | omega | ((conv => whnf); (refine And.intro ?_ ?_)) | ((conv => whnf); exact trivial)))
              exact fun h => g (key.1 h).1
          · have e : i = cs.length := by omega
            subst e
            (repeat' ((conv => whnf); first | (refine Giv.mk fun _ => ?_) | (refine Alt.l (Need.mk ?h ?_); case h => omega) | (refine Alt.r (Need.mk ?h ?_); case h => omega) | (refine Need.mk ?h ?_; case h => first | omega | (intro _; rfl) | assumption | (simp <;> omega)) | refine Ix.zero ?_ | refine Ix.one ?_ | refine Ix.two ?_ | refine Ix.nat ?_ | refine Ix.add ?_ | (apply Go.Eng.Pin.mk; apply Exists.intro) | apply Go.Eng.Pinned.mk rfl rfl | (apply Go.Eng.PinH.mk; apply Exists.intro; apply Exists.intro) | exact Go.Eng.Fin0.mk | refine Go.Eng.Chk.mk ?_ ?_ | refine Own.l ?_ | fail))
            (refine Br.mk (fun _ => ?_) (fun _ => ?_))
            · rename_i g
              have hz : N = 0 := by have := hmin (y1 g); omega
              have hle : usedK ls kerf cs cs.length ≤ (N : Int) * (len + kerf) := by rw [b3]; exact hused
              (repeat' ((conv => whnf); first | (refine Giv.mk fun _ => ?_) | (refine Alt.l (Need.mk ?h ?_); case h => omega) | (refine Alt.r (Need.mk ?h ?_); case h => omega) | (refine Need.mk ?h ?_; case h => first | omega | (intro _; rfl) | assumption | (simp <;> omega)) | refine Ix.zero ?_ | refine Ix.one ?_ | refine Ix.two ?_ | refine Ix.nat ?_ | refine Ix.add ?_ | (apply Go.Eng.Pin.mk; apply Exists.intro) | apply Go.Eng.Pinned.mk rfl rfl | (apply Go.Eng.PinH.mk; apply Exists.intro; apply Exists.intro) | exact Go.Eng.Fin0.mk | refine Go.Eng.Chk.mk ?_ ?_ | refine Own.l ?_ | fail))
              refine Br.mkY (by omega) ?_
              (repeat' ((conv => whnf); first | (refine Giv.mk fun _ => ?_) | (refine Alt.l (Need.mk ?h ?_); case h => omega) | (refine Alt.r (Need.mk ?h ?_); case h => omega) | (refine Need.mk ?h ?_; case h => first | omega | (intro _; rfl) | assumption | (simp <;> omega)) | refine Ix.zero ?_ | refine Ix.one ?_ | refine Ix.two ?_ | refine Ix.nat ?_ | refine Ix.add ?_ | (apply Go.Eng.Pin.mk; apply Exists.intro) | apply Go.Eng.Pinned.mk rfl rfl | (apply Go.Eng.PinH.mk; apply Exists.intro; apply Exists.intro) | exact Go.Eng.Fin0.mk | refine Go.Eng.Chk.mk ?_ ?_ | refine Own.l ?_ | fail))
              refine Br.mkY hle ?_
              (repeat' ((conv => whnf); first | (refine Giv.mk fun _ => ?_) | (refine Alt.l (Need.mk ?h ?_); case h => omega) | (refine Alt.r (Need.mk ?h ?_); case h => omega) | (refine Need.mk ?h ?_; case h => first | omega | (intro _; rfl) | assumption | (simp <;> omega)) | refine Ix.zero ?_ | refine Ix.one ?_ | refine Ix.two ?_ | refine Ix.nat ?_ | refine Ix.add ?_ | (apply Go.Eng.Pin.mk; apply Exists.intro) | apply Go.Eng.Pinned.mk rfl rfl | (apply Go.Eng.PinH.mk; apply Exists.intro; apply Exists.intro) | exact Go.Eng.Fin0.mk | refine Go.Eng.Chk.mk ?_ ?_ | refine Own.l ?_ | fail))
              (conv => whnf)
            · rename_i g
              have hle : usedK ls kerf cs cs.length ≤ (N : Int) * (len + kerf) := by rw [b3]; exact hused
              (repeat' ((conv => whnf); first | (refine Giv.mk fun _ => ?_) | (refine Alt.l (Need.mk ?h ?_); case h => omega) | (refine Alt.r (Need.mk ?h ?_); case h => omega) | (refine Need.mk ?h ?_; case h => first | omega | (intro _; rfl) | assumption | (simp <;> omega)) | refine Ix.zero ?_ | refine Ix.one ?_ | refine Ix.two ?_ | refine Ix.nat ?_ | refine Ix.add ?_ | (apply Go.Eng.Pin.mk; apply Exists.intro) | apply Go.Eng.Pinned.mk rfl rfl | (apply Go.Eng.PinH.mk; apply Exists.intro; apply Exists.intro) | exact Go.Eng.Fin0.mk | refine Go.Eng.Chk.mk ?_ ?_ | refine Own.l ?_ | fail))
              refine Br.mkY hle ?_
              (repeat' ((conv => whnf); first | (refine Giv.mk fun _ => ?_) | (refine Alt.l (Need.mk ?h ?_); case h => omega) | (refine Alt.r (Need.mk ?h ?_); case h => omega) | (refine Need.mk ?h ?_; case h => first | omega | (intro _; rfl) | assumption | (simp <;> omega)) | refine Ix.zero ?_ | refine Ix.one ?_ | refine Ix.two ?_ | refine Ix.nat ?_ | refine Ix.add ?_ | (apply Go.Eng.Pin.mk; apply Exists.intro) | apply Go.Eng.Pinned.mk rfl rfl | (apply Go.Eng.PinH.mk; apply Exists.intro; apply Exists.intro) | exact Go.Eng.Fin0.mk | refine Go.Eng.Chk.mk ?_ ?_ | refine Own.l ?_ | fail))
              (conv => whnf)
theorem t7 (ls cs : List Int) (len kerf : Int) (pk : List Int) (_ : Okd (.slice (.int .i64)) ls) (_ : Okd (.slice (.int .i64)) cs) (_ : inK .i64 len) (_ : inK .i64 kerf) (_ : Okd (.slice (.int .u8)) pk) : Tri Try.prog true 7 [Ls ls, Ls cs, I len, I kerf, .seq (.int .u8) pk] (.val (.bool true)) :=
  tri_of_body (Γ := [c12, c13, c15, c19, c24]) (by simp [k12, k13, k15, k19, k24]) Try.func7 (by simp [Try.ntmps7]) rfl (b7 ls cs len kerf pk)
end PB
end
