/-
  Part 6: a symbolic executor over the model, contracts of functions and plain laws.
-/
import Derived.Test.YtpaniekmapghoaaP5
section
set_option linter.unusedVariables false
open Go Go.Proofs Go.Eng Go.Shelf
namespace PB
set_option maxRecDepth 100000
set_option linter.unusedVariables false
abbrev cL43 : Con := L.c43
theorem kL43 : ConOK Try.prog cL43 := L.k43
set_option maxHeartbeats 8000000 in
theorem b15 (ls cs : List Int) (len kerf : Int) (h : LeastOk ls cs len kerf) : body Try.prog [c34, c13, c41, c42, cL43] { asks := [(0, []), (2, []), (4, []), (6, [5, 6])] } false Try.f15 [Ls ls, Ls cs, I len, I kerf] (.tup [I (lstB ls cs len kerf).length, Ls (lstB ls cs len kerf), I (lstC ls cs len kerf)]) := by
  (repeat' ((conv => whnf); first | (refine Giv.mk fun _ => ?_) | (refine Alt.l (Need.mk ?h ?_); case h => omega) | (refine Alt.r (Need.mk ?h ?_); case h => omega) | (refine Need.mk ?h ?_; case h => first | omega | (intro _; rfl) | assumption | (simp <;> omega)) | refine Ix.zero ?_ | refine Ix.one ?_ | refine Ix.two ?_ | refine Ix.nat ?_ | refine Ix.add ?_ | (apply Go.Eng.Pin.mk; apply Exists.intro) | apply Go.Eng.Pinned.mk rfl rfl | (apply Go.Eng.PinH.mk; apply Exists.intro; apply Exists.intro) | exact Go.Eng.Fin0.mk | refine Go.Eng.Chk.mk ?_ ?_ | refine Own.l ?_ | fail))
  (refine Br.mk (fun _ => ?_) (fun _ => ?_))
  · rename_i h1
    have hc : lstC ls cs len kerf = allE ls cs len kerf := if_pos h1
    have hb : lstB ls cs len kerf = [] := if_pos (by rw [hc]; exact h1)
    rw [hb, hc]
    (repeat' ((conv => whnf); first | (refine Giv.mk fun _ => ?_) | (refine Alt.l (Need.mk ?h ?_); case h => omega) | (refine Alt.r (Need.mk ?h ?_); case h => omega) | (refine Need.mk ?h ?_; case h => first | omega | (intro _; rfl) | assumption | (simp <;> omega)) | refine Ix.zero ?_ | refine Ix.one ?_ | refine Ix.two ?_ | refine Ix.nat ?_ | refine Ix.add ?_ | (apply Go.Eng.Pin.mk; apply Exists.intro) | apply Go.Eng.Pinned.mk rfl rfl | (apply Go.Eng.PinH.mk; apply Exists.intro; apply Exists.intro) | exact Go.Eng.Fin0.mk | refine Go.Eng.Chk.mk ?_ ?_ | refine Own.l ?_ | fail))
    (conv => whnf)
    (repeat' (first | exact trivial | rfl | exact Nat.one_pos | (refine And.intro ?_ ?_) | ((conv => whnf); (refine And.intro ?_ ?_)) | ((conv => whnf); exact trivial)))
  · rename_i h1
    have h0 : allE ls cs len kerf = 0 := Classical.not_not.1 h1
    have hok := okC_of h0
    have hfew := hok.1.few
    have hclen := hok.1.len
    have hall := h.all
    (repeat' ((conv => whnf); first | (refine Giv.mk fun _ => ?_) | (refine Alt.l (Need.mk ?h ?_); case h => omega) | (refine Alt.r (Need.mk ?h ?_); case h => omega) | (refine Need.mk ?h ?_; case h => first | omega | (intro _; rfl) | assumption | (simp <;> omega)) | refine Ix.zero ?_ | refine Ix.one ?_ | refine Ix.two ?_ | refine Ix.nat ?_ | refine Ix.add ?_ | (apply Go.Eng.Pin.mk; apply Exists.intro) | apply Go.Eng.Pinned.mk rfl rfl | (apply Go.Eng.PinH.mk; apply Exists.intro; apply Exists.intro) | exact Go.Eng.Fin0.mk | refine Go.Eng.Chk.mk ?_ ?_ | refine Own.l ?_ | fail))
    refine Ask.mk ⟨{ X := Nat, pre := fun i => i ≤ ls.length ∧ ∀ j, j < i → ¬ (0 < cs.getD j 0 ∧ len < ls.getD j 0), mod := fun i _ => [(36, I i)], mu := fun i => ls.length - i }, rfl, ?_⟩
    (repeat' ((conv => whnf); first | (refine Giv.mk fun _ => ?_) | (refine Alt.l (Need.mk ?h ?_); case h => omega) | (refine Alt.r (Need.mk ?h ?_); case h => omega) | (refine Need.mk ?h ?_; case h => first | omega | (intro _; rfl) | assumption | (simp <;> omega)) | refine Ix.zero ?_ | refine Ix.one ?_ | refine Ix.two ?_ | refine Ix.nat ?_ | refine Ix.add ?_ | (apply Go.Eng.Pin.mk; apply Exists.intro) | apply Go.Eng.Pinned.mk rfl rfl | (apply Go.Eng.PinH.mk; apply Exists.intro; apply Exists.intro) | exact Go.Eng.Fin0.mk | refine Go.Eng.Chk.mk ?_ ?_ | refine Own.l ?_ | fail))
    refine ⟨⟨(0 : Nat), ⟨Nat.zero_le _, fun j hj => by omega⟩, by (repeat' (first | exact trivial | rfl | exact Nat.one_pos | (refine And.intro ?_ ?_) | omega | ((conv => whnf); (refine And.intro ?_ ?_)) | ((conv => whnf); exact trivial)))⟩, fun (i : Nat) hi => ?_⟩
    obtain ⟨hi1, hi2⟩ := hi
    (repeat' ((conv => whnf); first | (refine Giv.mk fun _ => ?_) | (refine Alt.l (Need.mk ?h ?_); case h => omega) | (refine Alt.r (Need.mk ?h ?_); case h => omega) | (refine Need.mk ?h ?_; case h => first | omega | (intro _; rfl) | assumption | (simp <;> omega)) | refine Ix.zero ?_ | refine Ix.one ?_ | refine Ix.two ?_ | refine Ix.nat ?_ | refine Ix.add ?_ | (apply Go.Eng.Pin.mk; apply Exists.intro) | apply Go.Eng.Pinned.mk rfl rfl | (apply Go.Eng.PinH.mk; apply Exists.intro; apply Exists.intro) | exact Go.Eng.Fin0.mk | refine Go.Eng.Chk.mk ?_ ?_ | refine Own.l ?_ | fail))
    (refine Br.mk (fun _ => ?_) (fun _ => ?_))
    · have hlt : i < ls.length := by omega
      have next : ¬ (0 < cs.getD i 0 ∧ len < ls.getD i 0) → ∀ j, j < i + 1 → ¬ (0 < cs.getD j 0 ∧ len < ls.getD j 0) := fun hn j hj => by
        by_cases e : j = i
        · subst e; exact hn
        · exact hi2 j (by omega)
      (repeat' ((conv => whnf); first | (refine Giv.mk fun _ => ?_) | (refine Alt.l (Need.mk ?h ?_); case h => omega) | (refine Alt.r (Need.mk ?h ?_); case h => omega) | (refine Need.mk ?h ?_; case h => first | omega | (intro _; rfl) | assumption | (simp <;> omega)) | refine Ix.zero ?_ | refine Ix.one ?_ | refine Ix.two ?_ | refine Ix.nat ?_ | refine Ix.add ?_ | (apply Go.Eng.Pin.mk; apply Exists.intro) | apply Go.Eng.Pinned.mk rfl rfl | (apply Go.Eng.PinH.mk; apply Exists.intro; apply Exists.intro) | exact Go.Eng.Fin0.mk | refine Go.Eng.Chk.mk ?_ ?_ | refine Own.l ?_ | fail))
      (refine Br.mk (fun _ => ?_) (fun _ => ?_))
      · rename_i g1
        (repeat' ((conv => whnf); first | (refine Giv.mk fun _ => ?_) | (refine Alt.l (Need.mk ?h ?_); case h => omega) | (refine Alt.r (Need.mk ?h ?_); case h => omega) | (refine Need.mk ?h ?_; case h => first | omega | (intro _; rfl) | assumption | (simp <;> omega)) | refine Ix.zero ?_ | refine Ix.one ?_ | refine Ix.two ?_ | refine Ix.nat ?_ | refine Ix.add ?_ | (apply Go.Eng.Pin.mk; apply Exists.intro) | apply Go.Eng.Pinned.mk rfl rfl | (apply Go.Eng.PinH.mk; apply Exists.intro; apply Exists.intro) | exact Go.Eng.Fin0.mk | refine Go.Eng.Chk.mk ?_ ?_ | refine Own.l ?_ | fail))
        (refine Br.mk (fun _ => ?_) (fun _ => ?_))
        · rename_i g2
          have hst := stockE_hit (ls := ls) (cs := cs) (len := len) (i := i) (by omega) ⟨g1, g2⟩
          have hc : lstC ls cs len kerf = 22 := by unfold lstC; rw [if_neg h1, if_pos hst]
          have hb : lstB ls cs len kerf = [] := if_pos (by rw [hc]; decide)
          rw [hb, hc]
          (repeat' ((conv => whnf); first | (refine Giv.mk fun _ => ?_) | (refine Alt.l (Need.mk ?h ?_); case h => omega) | (refine Alt.r (Need.mk ?h ?_); case h => omega) | (refine Need.mk ?h ?_; case h => first | omega | (intro _; rfl) | assumption | (simp <;> omega)) | refine Ix.zero ?_ | refine Ix.one ?_ | refine Ix.two ?_ | refine Ix.nat ?_ | refine Ix.add ?_ | (apply Go.Eng.Pin.mk; apply Exists.intro) | apply Go.Eng.Pinned.mk rfl rfl | (apply Go.Eng.PinH.mk; apply Exists.intro; apply Exists.intro) | exact Go.Eng.Fin0.mk | refine Go.Eng.Chk.mk ?_ ?_ | refine Own.l ?_ | fail))
          (conv => whnf)
          (repeat' (first | exact trivial | rfl | exact Nat.one_pos | (refine And.intro ?_ ?_) | ((conv => whnf); (refine And.intro ?_ ?_)) | ((conv => whnf); exact trivial)))
        · rename_i g2
          (repeat' ((conv => whnf); first | (refine Giv.mk fun _ => ?_) | (refine Alt.l (Need.mk ?h ?_); case h => omega) | (refine Alt.r (Need.mk ?h ?_); case h => omega) | (refine Need.mk ?h ?_; case h => first | omega | (intro _; rfl) | assumption | (simp <;> omega)) | refine Ix.zero ?_ | refine Ix.one ?_ | refine Ix.two ?_ | refine Ix.nat ?_ | refine Ix.add ?_ | (apply Go.Eng.Pin.mk; apply Exists.intro) | apply Go.Eng.Pinned.mk rfl rfl | (apply Go.Eng.PinH.mk; apply Exists.intro; apply Exists.intro) | exact Go.Eng.Fin0.mk | refine Go.Eng.Chk.mk ?_ ?_ | refine Own.l ?_ | fail))
          refine ⟨(i + 1 : Nat), by show ls.length - (i + 1) < ls.length - i; omega, ⟨hlt, next fun hc => g2 hc.2⟩, by (repeat' (first | exact trivial | rfl | exact Nat.one_pos | (refine And.intro ?_ ?_) | omega | ((conv => whnf); (refine And.intro ?_ ?_)) | ((conv => whnf); exact trivial)))⟩
      · rename_i g1
        (repeat' ((conv => whnf); first | (refine Giv.mk fun _ => ?_) | (refine Alt.l (Need.mk ?h ?_); case h => omega) | (refine Alt.r (Need.mk ?h ?_); case h => omega) | (refine Need.mk ?h ?_; case h => first | omega | (intro _; rfl) | assumption | (simp <;> omega)) | refine Ix.zero ?_ | refine Ix.one ?_ | refine Ix.two ?_ | refine Ix.nat ?_ | refine Ix.add ?_ | (apply Go.Eng.Pin.mk; apply Exists.intro) | apply Go.Eng.Pinned.mk rfl rfl | (apply Go.Eng.PinH.mk; apply Exists.intro; apply Exists.intro) | exact Go.Eng.Fin0.mk | refine Go.Eng.Chk.mk ?_ ?_ | refine Own.l ?_ | fail))
        refine ⟨(i + 1 : Nat), by show ls.length - (i + 1) < ls.length - i; omega, ⟨hlt, next fun hc => g1 hc.1⟩, by (repeat' (first | exact trivial | rfl | exact Nat.one_pos | (refine And.intro ?_ ?_) | omega | ((conv => whnf); (refine And.intro ?_ ?_)) | ((conv => whnf); exact trivial)))⟩
    · have hst := stockE_none (ls := ls) (cs := cs) (len := len) fun j hj => hi2 j (by omega)
      have hS := srch_of h h0 hst
      have hc : lstC ls cs len kerf = 0 := by unfold lstC; rw [if_neg h1, if_neg (by rw [hst]; simp)]
      have hb : lstB ls cs len kerf = pathB (allM ls cs len kerf) cs := if_neg (by rw [hc]; decide)
      have har : allR ls cs len kerf = allM ls cs len kerf := if_neg (by rw [h0]; decide)
      rw [hb, hc]
      obtain ⟨A, hA⟩ : ∃ A, allM ls cs len kerf = A := ⟨_, rfl⟩
      rw [hA] at hS har ⊢
      have he := enc_lo hS.tab.c0
      have hsz := hS.tab.prod cs.length (Nat.le_refl _)
      have htab := hS.tab
      (repeat' ((conv => whnf); first | (refine Giv.mk fun _ => ?_) | (refine Alt.l (Need.mk ?h ?_); case h => omega) | (refine Alt.r (Need.mk ?h ?_); case h => omega) | (refine Need.mk ?h ?_; case h => first | omega | (intro _; rfl) | assumption | (simp <;> omega)) | refine Ix.zero ?_ | refine Ix.one ?_ | refine Ix.two ?_ | refine Ix.nat ?_ | refine Ix.add ?_ | (apply Go.Eng.Pin.mk; apply Exists.intro) | apply Go.Eng.Pinned.mk rfl rfl | (apply Go.Eng.PinH.mk; apply Exists.intro; apply Exists.intro) | exact Go.Eng.Fin0.mk | refine Go.Eng.Chk.mk ?_ ?_ | refine Own.l ?_ | fail))
      rw [har, h0]
      refine Br.mkN (by omega) ?_
      (repeat' ((conv => whnf); first | (refine Giv.mk fun _ => ?_) | (refine Alt.l (Need.mk ?h ?_); case h => omega) | (refine Alt.r (Need.mk ?h ?_); case h => omega) | (refine Need.mk ?h ?_; case h => first | omega | (intro _; rfl) | assumption | (simp <;> omega)) | refine Ix.zero ?_ | refine Ix.one ?_ | refine Ix.two ?_ | refine Ix.nat ?_ | refine Ix.add ?_ | (apply Go.Eng.Pin.mk; apply Exists.intro) | apply Go.Eng.Pinned.mk rfl rfl | (apply Go.Eng.PinH.mk; apply Exists.intro; apply Exists.intro) | exact Go.Eng.Fin0.mk | refine Go.Eng.Chk.mk ?_ ?_ | refine Own.l ?_ | fail))
      obtain ⟨S, hS1⟩ : ∃ S : Nat, prodS cs cs.length = (S : Int) := ⟨(prodS cs cs.length).toNat, by omega⟩
      rw [hS1] at hsz he ⊢
      refine Need.mk (show 0 ≤ (S : Int) ∧ (S : Int) ≤ S ∧ (S : Int) ≤ 140737488355328 ∧ (S : Int) * ((8 : Nat) : Int) ≤ 140737488355328 by omega) ?_
      (repeat' ((conv => whnf); first | (refine Giv.mk fun _ => ?_) | (refine Alt.l (Need.mk ?h ?_); case h => omega) | (refine Alt.r (Need.mk ?h ?_); case h => omega) | (refine Need.mk ?h ?_; case h => first | omega | (intro _; rfl) | assumption | (simp <;> omega)) | refine Ix.zero ?_ | refine Ix.one ?_ | refine Ix.two ?_ | refine Ix.nat ?_ | refine Ix.add ?_ | (apply Go.Eng.Pin.mk; apply Exists.intro) | apply Go.Eng.Pinned.mk rfl rfl | (apply Go.Eng.PinH.mk; apply Exists.intro; apply Exists.intro) | exact Go.Eng.Fin0.mk | refine Go.Eng.Chk.mk ?_ ?_ | refine Own.l ?_ | fail))
      refine Ask.mk ⟨{ X := Nat × List Int, pre := fun x => 1 ≤ x.1 ∧ x.1 ≤ S ∧ x.2.length = S ∧ TabT cs A (fun v => loE cs v cs.length) x.2 x.1, mod := fun x _ => [(19, I x.1)], heap := fun x _ => [.vec 1 (.int .i64) [] 3, .cells [Ls cs, Ls (stepsL cs cs.length), I S] 55, .vec 1 (.int .i64) x.2 3, .vec 1 (.int .i64) [] 3, .cells [.ref 2 1] 22], mu := fun x => S - x.1 }, rfl, ?_⟩
      (repeat' ((conv => whnf); first | (refine Giv.mk fun _ => ?_) | (refine Alt.l (Need.mk ?h ?_); case h => omega) | (refine Alt.r (Need.mk ?h ?_); case h => omega) | (refine Need.mk ?h ?_; case h => first | omega | (intro _; rfl) | assumption | (simp <;> omega)) | refine Ix.zero ?_ | refine Ix.one ?_ | refine Ix.two ?_ | refine Ix.nat ?_ | refine Ix.add ?_ | (apply Go.Eng.Pin.mk; apply Exists.intro) | apply Go.Eng.Pinned.mk rfl rfl | (apply Go.Eng.PinH.mk; apply Exists.intro; apply Exists.intro) | exact Go.Eng.Fin0.mk | refine Go.Eng.Chk.mk ?_ ?_ | refine Own.l ?_ | fail))
      refine ⟨⟨((1 : Nat), List.replicate S 0), ⟨Nat.le_refl _, by omega, by simp, TabT.zero hS.cov he S⟩, by (repeat' (first | exact trivial | rfl | exact Nat.one_pos | (refine And.intro ?_ ?_) | omega | ((conv => whnf); (refine And.intro ?_ ?_)) | ((conv => whnf); exact trivial)))⟩, fun (x : Nat × List Int) hx => ?_⟩
      obtain ⟨hx1, hx2, hx3, hx4⟩ := hx
      (repeat' ((conv => whnf); first | (refine Giv.mk fun _ => ?_) | (refine Alt.l (Need.mk ?h ?_); case h => omega) | (refine Alt.r (Need.mk ?h ?_); case h => omega) | (refine Need.mk ?h ?_; case h => first | omega | (intro _; rfl) | assumption | (simp <;> omega)) | refine Ix.zero ?_ | refine Ix.one ?_ | refine Ix.two ?_ | refine Ix.nat ?_ | refine Ix.add ?_ | (apply Go.Eng.Pin.mk; apply Exists.intro) | apply Go.Eng.Pinned.mk rfl rfl | (apply Go.Eng.PinH.mk; apply Exists.intro; apply Exists.intro) | exact Go.Eng.Fin0.mk | refine Go.Eng.Chk.mk ?_ ?_ | refine Own.l ?_ | fail))
      (refine Br.mk (fun _ => ?_) (fun _ => ?_))
      · have hlt : x.1 < S := by omega
        obtain ⟨v, hv, hve⟩ := he.surj x.1 (by omega) (by omega)
        have hve : loE cs v cs.length = x.1 := hve
        have hvp : (loE cs v cs.length).toNat = x.1 := by omega
        have hz := allZ_pos he hv (show 0 < loE cs v cs.length by omega)
        (repeat' ((conv => whnf); first | (refine Giv.mk fun _ => ?_) | (refine Alt.l (Need.mk ?h ?_); case h => omega) | (refine Alt.r (Need.mk ?h ?_); case h => omega) | (refine Need.mk ?h ?_; case h => first | omega | (intro _; rfl) | assumption | (simp <;> omega)) | refine Ix.zero ?_ | refine Ix.one ?_ | refine Ix.two ?_ | refine Ix.nat ?_ | refine Ix.add ?_ | (apply Go.Eng.Pin.mk; apply Exists.intro) | apply Go.Eng.Pinned.mk rfl rfl | (apply Go.Eng.PinH.mk; apply Exists.intro; apply Exists.intro) | exact Go.Eng.Fin0.mk | refine Go.Eng.Chk.mk ?_ ?_ | refine Own.l ?_ | fail))
        refine Ask.mk ⟨{ X := Nat, pre := fun j => j ≤ A.length, mod := fun j _ => [(84, I j)], heap := fun j _ => [.vec 1 (.int .i64) [] 3, .cells [Ls cs, Ls (stepsL cs cs.length), I S] 55, .vec 1 (.int .i64) (x.2.set x.1 (accB A v j)) 3, .vec 1 (.int .i64) [] 3, .cells [.ref 2 1] 22], mu := fun j => A.length - j }, rfl, ?_⟩
        (repeat' ((conv => whnf); first | (refine Giv.mk fun _ => ?_) | (refine Alt.l (Need.mk ?h ?_); case h => omega) | (refine Alt.r (Need.mk ?h ?_); case h => omega) | (refine Need.mk ?h ?_; case h => first | omega | (intro _; rfl) | assumption | (simp <;> omega)) | refine Ix.zero ?_ | refine Ix.one ?_ | refine Ix.two ?_ | refine Ix.nat ?_ | refine Ix.add ?_ | (apply Go.Eng.Pin.mk; apply Exists.intro) | apply Go.Eng.Pinned.mk rfl rfl | (apply Go.Eng.PinH.mk; apply Exists.intro; apply Exists.intro) | exact Go.Eng.Fin0.mk | refine Go.Eng.Chk.mk ?_ ?_ | refine Own.l ?_ | fail))
        refine ⟨⟨(0 : Nat), Nat.zero_le _, by (repeat' (first | exact trivial | rfl | exact Nat.one_pos | (refine And.intro ?_ ?_) | omega | ((conv => whnf); (refine And.intro ?_ ?_)) | ((conv => whnf); exact trivial)))⟩, fun (j : Nat) hj => ?_⟩
        have hj : j ≤ A.length := hj
        (repeat' ((conv => whnf); first | (refine Giv.mk fun _ => ?_) | (refine Alt.l (Need.mk ?h ?_); case h => omega) | (refine Alt.r (Need.mk ?h ?_); case h => omega) | (refine Need.mk ?h ?_; case h => first | omega | (intro _; rfl) | assumption | (simp <;> omega)) | refine Ix.zero ?_ | refine Ix.one ?_ | refine Ix.two ?_ | refine Ix.nat ?_ | refine Ix.add ?_ | (apply Go.Eng.Pin.mk; apply Exists.intro) | apply Go.Eng.Pinned.mk rfl rfl | (apply Go.Eng.PinH.mk; apply Exists.intro; apply Exists.intro) | exact Go.Eng.Fin0.mk | refine Go.Eng.Chk.mk ?_ ?_ | refine Own.l ?_ | fail))
        (refine Br.mk (fun _ => ?_) (fun _ => ?_))
        · have hjl : j < A.length := by omega
          have hL := hS.lessOk hv hjl
          have hpp := (hS.cov.pos j hjl).2
          have hsub := hv.sub hpp
          have r2 : 0 ≤ loE cs (subV v (A.getD j [])) cs.length ∧ loE cs (subV v (A.getD j [])) cs.length < S := he.rng _ hsub
          have hlts : loE cs (subV v (A.getD j [])) cs.length < loE cs v cs.length ↔ subV v (A.getD j []) ≠ v := he.sub_lt hv hpp
          rw [hve] at hlts
          have g2 := hS.rng hsub
          have hcs := hS.cases hv hj
          have hac := hS.acc hv hj
          have e1 : (x.2.set x.1 (accB A v j)).getD x.1 0 = accB A v j := by rw [set_get _ _ _ (by omega), if_pos rfl]
          have e2 : (x.2.set x.1 (accB A v j)).length = S := by simp [hx3]
          have hst := accB_succ A v j hjl
          unfold stepB at hst
          (repeat' ((conv => whnf); first | (refine Giv.mk fun _ => ?_) | (refine Alt.l (Need.mk ?h ?_); case h => omega) | (refine Alt.r (Need.mk ?h ?_); case h => omega) | (refine Need.mk ?h ?_; case h => first | omega | (intro _; rfl) | assumption | (simp <;> omega)) | refine Ix.zero ?_ | refine Ix.one ?_ | refine Ix.two ?_ | refine Ix.nat ?_ | refine Ix.add ?_ | (apply Go.Eng.Pin.mk; apply Exists.intro) | apply Go.Eng.Pinned.mk rfl rfl | (apply Go.Eng.PinH.mk; apply Exists.intro; apply Exists.intro) | exact Go.Eng.Fin0.mk | refine Go.Eng.Chk.mk ?_ ?_ | refine Own.l ?_ | fail))
          refine ⟨v, ⟨hL, rfl, hS1.symm, hve.symm⟩, ?_⟩
          (repeat' ((conv => whnf); first | (refine Giv.mk fun _ => ?_) | (refine Alt.l (Need.mk ?h ?_); case h => omega) | (refine Alt.r (Need.mk ?h ?_); case h => omega) | (refine Need.mk ?h ?_; case h => first | omega | (intro _; rfl) | assumption | (simp <;> omega)) | refine Ix.zero ?_ | refine Ix.one ?_ | refine Ix.two ?_ | refine Ix.nat ?_ | refine Ix.add ?_ | (apply Go.Eng.Pin.mk; apply Exists.intro) | apply Go.Eng.Pinned.mk rfl rfl | (apply Go.Eng.PinH.mk; apply Exists.intro; apply Exists.intro) | exact Go.Eng.Fin0.mk | refine Go.Eng.Chk.mk ?_ ?_ | refine Own.l ?_ | fail))
          (refine Br.mk (fun _ => ?_) (fun _ => ?_))
          · rename_i hn
            have hne := hlts.1 hn
            have t2 : x.2.getD (loE cs (subV v (A.getD j [])) cs.length).toNat 0 = _ := hx4 _ hsub hn
            have e3 : (x.2.set x.1 (accB A v j)).getD (loE cs (subV v (A.getD j [])) cs.length).toNat 0 = barsB A (subV v (A.getD j [])) := by rw [set_get' _ _ _ _ (by omega), t2]
            have hit : (accB A v j < 0 ∨ barsB A (subV v (A.getD j [])) + 1 < accB A v j) → ((x.2.set x.1 (accB A v j)).set x.1 (barsB A (subV v (A.getD j [])) + 1)) = x.2.set x.1 (accB A v (j + 1)) := fun hq => by
              rw [hst, if_pos ⟨hne, hq⟩, List.set_set]
            (repeat' ((conv => whnf); first | (refine Giv.mk fun _ => ?_) | (refine Alt.l (Need.mk ?h ?_); case h => omega) | (refine Alt.r (Need.mk ?h ?_); case h => omega) | (refine Need.mk ?h ?_; case h => first | omega | (intro _; rfl) | assumption | (simp <;> omega)) | refine Ix.zero ?_ | refine Ix.one ?_ | refine Ix.two ?_ | refine Ix.nat ?_ | refine Ix.add ?_ | (apply Go.Eng.Pin.mk; apply Exists.intro) | apply Go.Eng.Pinned.mk rfl rfl | (apply Go.Eng.PinH.mk; apply Exists.intro; apply Exists.intro) | exact Go.Eng.Fin0.mk | refine Go.Eng.Chk.mk ?_ ?_ | refine Own.l ?_ | fail))
            (refine Br.mk (fun _ => ?_) (fun _ => ?_))
            · rename_i hz0
              rw [e1] at hz0
              have hit := hit (.inl hz0)
              (repeat' ((conv => whnf); first | (refine Giv.mk fun _ => ?_) | (refine Alt.l (Need.mk ?h ?_); case h => omega) | (refine Alt.r (Need.mk ?h ?_); case h => omega) | (refine Need.mk ?h ?_; case h => first | omega | (intro _; rfl) | assumption | (simp <;> omega)) | refine Ix.zero ?_ | refine Ix.one ?_ | refine Ix.two ?_ | refine Ix.nat ?_ | refine Ix.add ?_ | (apply Go.Eng.Pin.mk; apply Exists.intro) | apply Go.Eng.Pinned.mk rfl rfl | (apply Go.Eng.PinH.mk; apply Exists.intro; apply Exists.intro) | exact Go.Eng.Fin0.mk | refine Go.Eng.Chk.mk ?_ ?_ | refine Own.l ?_ | fail))
              refine ix_at (loE cs (subV v (A.getD j [])) cs.length).toNat (by omega) ?_
              (repeat' ((conv => whnf); first | (refine Giv.mk fun _ => ?_) | (refine Alt.l (Need.mk ?h ?_); case h => omega) | (refine Alt.r (Need.mk ?h ?_); case h => omega) | (refine Need.mk ?h ?_; case h => first | omega | (intro _; rfl) | assumption | (simp <;> omega)) | refine Ix.zero ?_ | refine Ix.one ?_ | refine Ix.two ?_ | refine Ix.nat ?_ | refine Ix.add ?_ | (apply Go.Eng.Pin.mk; apply Exists.intro) | apply Go.Eng.Pinned.mk rfl rfl | (apply Go.Eng.PinH.mk; apply Exists.intro; apply Exists.intro) | exact Go.Eng.Fin0.mk | refine Go.Eng.Chk.mk ?_ ?_ | refine Own.l ?_ | fail))
              refine ⟨(j + 1 : Nat), by show A.length - (j + 1) < A.length - j; omega, hjl, ?_⟩
              (repeat' (first | exact trivial | rfl | exact Nat.one_pos | (refine And.intro ?_ ?_) | omega | ((conv => whnf); (refine And.intro ?_ ?_)) | ((conv => whnf); exact trivial)))
              (conv => whnf)
              rw [e3]; exact hit
            · rename_i hz0
              rw [e1] at hz0
              (repeat' ((conv => whnf); first | (refine Giv.mk fun _ => ?_) | (refine Alt.l (Need.mk ?h ?_); case h => omega) | (refine Alt.r (Need.mk ?h ?_); case h => omega) | (refine Need.mk ?h ?_; case h => first | omega | (intro _; rfl) | assumption | (simp <;> omega)) | refine Ix.zero ?_ | refine Ix.one ?_ | refine Ix.two ?_ | refine Ix.nat ?_ | refine Ix.add ?_ | (apply Go.Eng.Pin.mk; apply Exists.intro) | apply Go.Eng.Pinned.mk rfl rfl | (apply Go.Eng.PinH.mk; apply Exists.intro; apply Exists.intro) | exact Go.Eng.Fin0.mk | refine Go.Eng.Chk.mk ?_ ?_ | refine Own.l ?_ | fail))
              refine ix_at (loE cs (subV v (A.getD j [])) cs.length).toNat (by omega) ?_
              (repeat' ((conv => whnf); first | (refine Giv.mk fun _ => ?_) | (refine Alt.l (Need.mk ?h ?_); case h => omega) | (refine Alt.r (Need.mk ?h ?_); case h => omega) | (refine Need.mk ?h ?_; case h => first | omega | (intro _; rfl) | assumption | (simp <;> omega)) | refine Ix.zero ?_ | refine Ix.one ?_ | refine Ix.two ?_ | refine Ix.nat ?_ | refine Ix.add ?_ | (apply Go.Eng.Pin.mk; apply Exists.intro) | apply Go.Eng.Pinned.mk rfl rfl | (apply Go.Eng.PinH.mk; apply Exists.intro; apply Exists.intro) | exact Go.Eng.Fin0.mk | refine Go.Eng.Chk.mk ?_ ?_ | refine Own.l ?_ | fail))
              (refine Br.mk (fun _ => ?_) (fun _ => ?_))
              · rename_i hlt2
                rw [e1, e3] at hlt2
                have hit := hit (.inr hlt2)
                (repeat' ((conv => whnf); first | (refine Giv.mk fun _ => ?_) | (refine Alt.l (Need.mk ?h ?_); case h => omega) | (refine Alt.r (Need.mk ?h ?_); case h => omega) | (refine Need.mk ?h ?_; case h => first | omega | (intro _; rfl) | assumption | (simp <;> omega)) | refine Ix.zero ?_ | refine Ix.one ?_ | refine Ix.two ?_ | refine Ix.nat ?_ | refine Ix.add ?_ | (apply Go.Eng.Pin.mk; apply Exists.intro) | apply Go.Eng.Pinned.mk rfl rfl | (apply Go.Eng.PinH.mk; apply Exists.intro; apply Exists.intro) | exact Go.Eng.Fin0.mk | refine Go.Eng.Chk.mk ?_ ?_ | refine Own.l ?_ | fail))
                refine ix_at (loE cs (subV v (A.getD j [])) cs.length).toNat (by omega) ?_
                (repeat' ((conv => whnf); first | (refine Giv.mk fun _ => ?_) | (refine Alt.l (Need.mk ?h ?_); case h => omega) | (refine Alt.r (Need.mk ?h ?_); case h => omega) | (refine Need.mk ?h ?_; case h => first | omega | (intro _; rfl) | assumption | (simp <;> omega)) | refine Ix.zero ?_ | refine Ix.one ?_ | refine Ix.two ?_ | refine Ix.nat ?_ | refine Ix.add ?_ | (apply Go.Eng.Pin.mk; apply Exists.intro) | apply Go.Eng.Pinned.mk rfl rfl | (apply Go.Eng.PinH.mk; apply Exists.intro; apply Exists.intro) | exact Go.Eng.Fin0.mk | refine Go.Eng.Chk.mk ?_ ?_ | refine Own.l ?_ | fail))
                refine ⟨(j + 1 : Nat), by show A.length - (j + 1) < A.length - j; omega, hjl, ?_⟩
                (repeat' (first | exact trivial | rfl | exact Nat.one_pos | (refine And.intro ?_ ?_) | omega | ((conv => whnf); (refine And.intro ?_ ?_)) | ((conv => whnf); exact trivial)))
                (conv => whnf)
                rw [e3]; exact hit
              · rename_i hlt2
                rw [e1, e3] at hlt2
                have hskip : accB A v (j + 1) = accB A v j := by rw [hst, if_neg (fun hq => hq.2.elim hz0 hlt2)]
                (repeat' ((conv => whnf); first | (refine Giv.mk fun _ => ?_) | (refine Alt.l (Need.mk ?h ?_); case h => omega) | (refine Alt.r (Need.mk ?h ?_); case h => omega) | (refine Need.mk ?h ?_; case h => first | omega | (intro _; rfl) | assumption | (simp <;> omega)) | refine Ix.zero ?_ | refine Ix.one ?_ | refine Ix.two ?_ | refine Ix.nat ?_ | refine Ix.add ?_ | (apply Go.Eng.Pin.mk; apply Exists.intro) | apply Go.Eng.Pinned.mk rfl rfl | (apply Go.Eng.PinH.mk; apply Exists.intro; apply Exists.intro) | exact Go.Eng.Fin0.mk | refine Go.Eng.Chk.mk ?_ ?_ | refine Own.l ?_ | fail))
                refine ⟨(j + 1 : Nat), by show A.length - (j + 1) < A.length - j; omega, hjl, ?_⟩
                (repeat' (first | exact trivial | rfl | exact Nat.one_pos | (refine And.intro ?_ ?_) | omega | ((conv => whnf); (refine And.intro ?_ ?_)) | ((conv => whnf); exact trivial)))
                (conv => whnf)
                rw [hskip]
          · rename_i hn
            have hskip : accB A v (j + 1) = accB A v j := by rw [hst, if_neg (fun hq => hn (hlts.2 hq.1))]
            (repeat' ((conv => whnf); first | (refine Giv.mk fun _ => ?_) | (refine Alt.l (Need.mk ?h ?_); case h => omega) | (refine Alt.r (Need.mk ?h ?_); case h => omega) | (refine Need.mk ?h ?_; case h => first | omega | (intro _; rfl) | assumption | (simp <;> omega)) | refine Ix.zero ?_ | refine Ix.one ?_ | refine Ix.two ?_ | refine Ix.nat ?_ | refine Ix.add ?_ | (apply Go.Eng.Pin.mk; apply Exists.intro) | apply Go.Eng.Pinned.mk rfl rfl | (apply Go.Eng.PinH.mk; apply Exists.intro; apply Exists.intro) | exact Go.Eng.Fin0.mk | refine Go.Eng.Chk.mk ?_ ?_ | refine Own.l ?_ | fail))
            refine ⟨(j + 1 : Nat), by show A.length - (j + 1) < A.length - j; omega, hjl, ?_⟩
            (repeat' (first | exact trivial | rfl | exact Nat.one_pos | (refine And.intro ?_ ?_) | omega | ((conv => whnf); (refine And.intro ?_ ?_)) | ((conv => whnf); exact trivial)))
            (conv => whnf)
            rw [hskip]
        · have e : j = A.length := by omega
          subst e
          have hfin := barsB_all hS.cov hv hz
          have hstep : TabT cs A (fun v => loE cs v cs.length) (x.2.set (loE cs v cs.length).toNat (barsB A v)) (loE cs v cs.length + 1) := TabT.step he hv (T := x.2) (by show TabT _ _ _ _ (loE cs v cs.length); rw [hve]; exact hx4) (by show (loE cs v cs.length).toNat < _; omega)
          rw [hvp, hve] at hstep
          (repeat' ((conv => whnf); first | (refine Giv.mk fun _ => ?_) | (refine Alt.l (Need.mk ?h ?_); case h => omega) | (refine Alt.r (Need.mk ?h ?_); case h => omega) | (refine Need.mk ?h ?_; case h => first | omega | (intro _; rfl) | assumption | (simp <;> omega)) | refine Ix.zero ?_ | refine Ix.one ?_ | refine Ix.two ?_ | refine Ix.nat ?_ | refine Ix.add ?_ | (apply Go.Eng.Pin.mk; apply Exists.intro) | apply Go.Eng.Pinned.mk rfl rfl | (apply Go.Eng.PinH.mk; apply Exists.intro; apply Exists.intro) | exact Go.Eng.Fin0.mk | refine Go.Eng.Chk.mk ?_ ?_ | refine Own.l ?_ | fail))
          refine ⟨((x.1 + 1 : Nat), x.2.set x.1 (barsB A v)), ?_, ⟨?_, hlt, by simp [hx3], hstep⟩, ?_⟩
          · show S - (x.1 + 1) < S - x.1
            omega
          · show 1 ≤ x.1 + 1
            omega
          · (repeat' (first | exact trivial | rfl | exact Nat.one_pos | (refine And.intro ?_ ?_) | omega | ((conv => whnf); (refine And.intro ?_ ?_)) | ((conv => whnf); exact trivial)))
            (conv => whnf)
            rw [hfin]
      · have e : x.1 = S := by omega
        have htl : (x.2.length : Int) = prodS cs cs.length := by omega
        have hfull : loE cs cs cs.length = (S : Int) - 1 := he.full
        have hGood : ∀ w, Vec cs w → GoodOk cs A x.2 w := fun w hw => ⟨hS, hw, htl, by rw [hS1, ← e]; exact hx4⟩
        have hv := vec_self hS.tab.c0
        have hw := h.wgt h0
        have hout : pathB A cs = [] ++ pathB A cs := rfl
        have hstep : ∀ (v : List Int) (out : List Int) (m : Nat), Vec cs v → 0 < loE cs v cs.length → wgt v ≤ m + 1 → pathB A cs = out ++ pathB A v → (allZ v = false ∧ firstI A v < A.length ∧ LessOk cs (A.getD (firstI A v) []) v ∧ Vec cs (subV v (A.getD (firstI A v) [])) ∧ wgt (subV v (A.getD (firstI A v) [])) ≤ m ∧ pathB A cs = (out ++ [(firstI A v : Int)]) ++ pathB A (subV v (A.getD (firstI A v) []))) := fun v out m hv hpos hw hout => by
          have hz := allZ_pos he hv hpos
          obtain ⟨f1, f2, f3⟩ := firstI_spec hS.cov hv hz
          have hne := (of_decide_eq_true f2).1
          have hpp := (hS.cov.pos _ f1).2
          have := wgt_sub hv.nneg (fun t ht => hpp t (by rw [← hv.len]; exact ht)) hne
          refine ⟨hz, f1, hS.lessOk hv f1, hv.sub hpp, by omega, ?_⟩
          rw [hout, pathB_step hS.cov hv hz]; simp
        have hend : ∀ v : List Int, Vec cs v → ¬ 0 < loE cs v cs.length → pathB A v = [] := fun v hv hn => pathB_zero (vec_end he hv hn)
        have hlast : ∀ v : List Int, Vec cs v → wgt v ≤ 0 → ¬ 0 < loE cs v cs.length := fun v hv hw hpos => by
          have hz := allZ_pos he hv hpos
          obtain ⟨f1, f2, f3⟩ := firstI_spec hS.cov hv hz
          have hne := (of_decide_eq_true f2).1
          have hpp := (hS.cov.pos _ f1).2
          have := wgt_sub hv.nneg (fun t ht => hpp t (by rw [← hv.len]; exact ht)) hne
          omega
        (repeat' ((conv => whnf); first | (refine Giv.mk fun _ => ?_) | (refine Alt.l (Need.mk ?h ?_); case h => omega) | (refine Alt.r (Need.mk ?h ?_); case h => omega) | (refine Need.mk ?h ?_; case h => first | omega | (intro _; rfl) | assumption | (simp <;> omega)) | refine Ix.zero ?_ | refine Ix.one ?_ | refine Ix.two ?_ | refine Ix.nat ?_ | refine Ix.add ?_ | (apply Go.Eng.Pin.mk; apply Exists.intro) | apply Go.Eng.Pinned.mk rfl rfl | (apply Go.Eng.PinH.mk; apply Exists.intro; apply Exists.intro) | exact Go.Eng.Fin0.mk | refine Go.Eng.Chk.mk ?_ ?_ | refine Own.l ?_ | fail))
        refine Ask.mk ⟨{ X := List Int × List Int, pre := fun y => Vec cs y.1 ∧ pathB A cs = y.2 ++ pathB A y.1 ∧ y.2.length + wgt y.1 ≤ 16, mod := fun y _ => [(23, .ref 5 1), (24, .ptr 6 0)], heap := fun y _ => [.vec 1 (.int .i64) [] 3, .cells [Ls cs, Ls (stepsL cs cs.length), I S] 55, .vec 1 (.int .i64) x.2 3, .vec 1 (.int .i64) [] 3, .cells [.ref 2 1] 22, .vec 1 (.int .i64) y.2 3, .cells [I (loE cs y.1 cs.length)] 3], objs := [5, 6], mu := fun y => (wgt y.1), swp := some (24, 6) }, rfl, ?_⟩
        (repeat' ((conv => whnf); first | (refine Giv.mk fun _ => ?_) | (refine Alt.l (Need.mk ?h ?_); case h => omega) | (refine Alt.r (Need.mk ?h ?_); case h => omega) | (refine Need.mk ?h ?_; case h => first | omega | (intro _; rfl) | assumption | (simp <;> omega)) | refine Ix.zero ?_ | refine Ix.one ?_ | refine Ix.two ?_ | refine Ix.nat ?_ | refine Ix.add ?_ | (apply Go.Eng.Pin.mk; apply Exists.intro) | apply Go.Eng.Pinned.mk rfl rfl | (apply Go.Eng.PinH.mk; apply Exists.intro; apply Exists.intro) | exact Go.Eng.Fin0.mk | refine Go.Eng.Chk.mk ?_ ?_ | refine Own.l ?_ | fail))
        refine ⟨⟨(cs, []), ⟨hv, rfl, by simpa using hw⟩, by (repeat' (first | exact trivial | rfl | exact Nat.one_pos | (refine And.intro ?_ ?_) | omega | ((conv => whnf); (refine And.intro ?_ ?_)) | ((conv => whnf); exact trivial))); exact hfull.symm⟩, fun (y : List Int × List Int) hy => ?_⟩
        obtain ⟨v, out⟩ := y
        obtain ⟨hv, hout, hw⟩ := hy
        have hv : Vec cs v := hv
        have hout : pathB A cs = out ++ pathB A v := hout
        have hw : out.length + wgt v ≤ 16 := hw
        (repeat' ((conv => whnf); first | (refine Giv.mk fun _ => ?_) | (refine Alt.l (Need.mk ?h ?_); case h => omega) | (refine Alt.r (Need.mk ?h ?_); case h => omega) | (refine Need.mk ?h ?_; case h => first | omega | (intro _; rfl) | assumption | (simp <;> omega)) | refine Ix.zero ?_ | refine Ix.one ?_ | refine Ix.two ?_ | refine Ix.nat ?_ | refine Ix.add ?_ | (apply Go.Eng.Pin.mk; apply Exists.intro) | apply Go.Eng.Pinned.mk rfl rfl | (apply Go.Eng.PinH.mk; apply Exists.intro; apply Exists.intro) | exact Go.Eng.Fin0.mk | refine Go.Eng.Chk.mk ?_ ?_ | refine Own.l ?_ | fail))
        (refine Br.mk (fun _ => ?_) (fun _ => ?_))
        · rename_i hpos
          obtain ⟨hz, f1, hL, hv2, hw2, hout2⟩ := hstep v out (wgt v - 1) hv hpos (by omega) hout
          have hw3 : 0 < wgt v := by
            rcases Nat.eq_zero_or_pos (wgt v) with h | h
            · exact absurd hpos (hlast v hv (by omega))
            · exact h
          (repeat' ((conv => whnf); first | (refine Giv.mk fun _ => ?_) | (refine Alt.l (Need.mk ?h ?_); case h => omega) | (refine Alt.r (Need.mk ?h ?_); case h => omega) | (refine Need.mk ?h ?_; case h => first | omega | (intro _; rfl) | assumption | (simp <;> omega)) | refine Ix.zero ?_ | refine Ix.one ?_ | refine Ix.two ?_ | refine Ix.nat ?_ | refine Ix.add ?_ | (apply Go.Eng.Pin.mk; apply Exists.intro) | apply Go.Eng.Pinned.mk rfl rfl | (apply Go.Eng.PinH.mk; apply Exists.intro; apply Exists.intro) | exact Go.Eng.Fin0.mk | refine Go.Eng.Chk.mk ?_ ?_ | refine Own.l ?_ | fail))
          refine ⟨v, ⟨⟨hGood v hv, hz⟩, rfl, hS1.symm, rfl⟩, ?_⟩
          (repeat' ((conv => whnf); first | (refine Giv.mk fun _ => ?_) | (refine Alt.l (Need.mk ?h ?_); case h => omega) | (refine Alt.r (Need.mk ?h ?_); case h => omega) | (refine Need.mk ?h ?_; case h => first | omega | (intro _; rfl) | assumption | (simp <;> omega)) | refine Ix.zero ?_ | refine Ix.one ?_ | refine Ix.two ?_ | refine Ix.nat ?_ | refine Ix.add ?_ | (apply Go.Eng.Pin.mk; apply Exists.intro) | apply Go.Eng.Pinned.mk rfl rfl | (apply Go.Eng.PinH.mk; apply Exists.intro; apply Exists.intro) | exact Go.Eng.Fin0.mk | refine Go.Eng.Chk.mk ?_ ?_ | refine Own.l ?_ | fail))
          refine ⟨v, ⟨hL, rfl, hS1.symm, rfl⟩, ?_⟩
          (repeat' ((conv => whnf); first | (refine Giv.mk fun _ => ?_) | (refine Alt.l (Need.mk ?h ?_); case h => omega) | (refine Alt.r (Need.mk ?h ?_); case h => omega) | (refine Need.mk ?h ?_; case h => first | omega | (intro _; rfl) | assumption | (simp <;> omega)) | refine Ix.zero ?_ | refine Ix.one ?_ | refine Ix.two ?_ | refine Ix.nat ?_ | refine Ix.add ?_ | (apply Go.Eng.Pin.mk; apply Exists.intro) | apply Go.Eng.Pinned.mk rfl rfl | (apply Go.Eng.PinH.mk; apply Exists.intro; apply Exists.intro) | exact Go.Eng.Fin0.mk | refine Go.Eng.Chk.mk ?_ ?_ | refine Own.l ?_ | fail))
          refine ⟨(subV v (A.getD (firstI A v) []), out ++ [(firstI A v : Int)]), by show wgt (subV _ _) < wgt v; omega, ?_⟩
          (conv => whnf)
          refine ⟨⟨hv2, hout2, by simp only [List.length_append, List.length_singleton]; omega⟩, by (repeat' (first | exact trivial | rfl | exact Nat.one_pos | (refine And.intro ?_ ?_) | omega | ((conv => whnf); (refine And.intro ?_ ?_)) | ((conv => whnf); exact trivial)))⟩
        · rename_i hpos
          have hp := hend _ hv hpos
          rw [hp, List.append_nil] at hout
          rw [hout]
          (repeat' ((conv => whnf); first | (refine Giv.mk fun _ => ?_) | (refine Alt.l (Need.mk ?h ?_); case h => omega) | (refine Alt.r (Need.mk ?h ?_); case h => omega) | (refine Need.mk ?h ?_; case h => first | omega | (intro _; rfl) | assumption | (simp <;> omega)) | refine Ix.zero ?_ | refine Ix.one ?_ | refine Ix.two ?_ | refine Ix.nat ?_ | refine Ix.add ?_ | (apply Go.Eng.Pin.mk; apply Exists.intro) | apply Go.Eng.Pinned.mk rfl rfl | (apply Go.Eng.PinH.mk; apply Exists.intro; apply Exists.intro) | exact Go.Eng.Fin0.mk | refine Go.Eng.Chk.mk ?_ ?_ | refine Own.l ?_ | fail))
          (conv => whnf)
          (repeat' (first | exact trivial | rfl | exact Nat.one_pos | (refine And.intro ?_ ?_) | ((conv => whnf); (refine And.intro ?_ ?_)) | ((conv => whnf); exact trivial)))
def c15 : Con := mkCon 15 false fun args K => match args with | [.seq (.int .i64) ls, .seq (.int .i64) cs, .val (.int .i64 len), .val (.int .i64 kerf)] => Need (LeastOk ls cs len kerf) (K (.tup [I (lstB ls cs len kerf).length, Ls (lstB ls cs len kerf), I (lstC ls cs len kerf)])) | _ => False
theorem k15 : ConOK Try.prog c15 := by
  refine conOK_of rfl (enters_of Try.func15 (by kernel_rfl) rfl) ?_
  intro args K h
  simp only [c15] at h
  split at h
  · rename_i ls cs len kerf; exact ⟨_, h.go, tri_of_body (Γ := [c34, c13, c41, c42, cL43]) (by simp [k34, k13, k41, k42, kL43]) Try.func15 (by simp [Try.ntmps15]) rfl (b15 ls cs len kerf h.ok)⟩
  · exact h.elim
end PB
end
section
set_option linter.unusedVariables false
open Go Go.Proofs Go.Eng Go.Shelf
namespace PB
set_option maxRecDepth 100000
set_option linter.unusedVariables false
theorem flat_len {α β : Type} (f : α → List β) (m : Nat) : ∀ xs : List α, (∀ x ∈ xs, (f x).length ≤ m) → (xs.flatMap f).length ≤ xs.length * m
  | [], _ => by simp
  | x :: xs, h => by
    have h1 := h x List.mem_cons_self
    have h2 := flat_len f m xs fun y hy => h y (List.mem_cons_of_mem _ hy)
    rw [List.flatMap_cons, List.length_append, List.length_cons, Nat.add_mul, Nat.one_mul]
    omega
theorem pats_len (kerf : Int) : ∀ (ls cs : List Int) (room : Int), cs.length = ls.length → (∀ i, i < ls.length → 0 ≤ cs.getD i 0 ∧ cs.getD i 0 ≤ 4) → (pats kerf ls cs room).length ≤ 5 ^ ls.length
  | [], _, _, _, _ => by simp [pats]
  | l :: ls, c :: cs, room, hl, hc => by
    simp only [pats, List.headD_cons, List.tail_cons]
    have h0 := hc 0 (by simp)
    simp only [List.getD_cons_zero] at h0
    have hm : most kerf l c room ≤ 4 := by unfold most; omega
    have := flat_len (fun (n : Nat) => (pats kerf ls cs (room - n * (l + kerf))).map ((n : Int) :: ·)) (5 ^ ls.length) (down (most kerf l c room)) fun n _ => by
      rw [List.length_map]
      exact pats_len kerf ls cs _ (by simpa using hl) fun i hi => by simpa using hc (i + 1) (by simpa using hi)
    rw [down_len] at this
    have h2 : (most kerf l c room + 1) * 5 ^ ls.length ≤ 5 * 5 ^ ls.length := Nat.mul_le_mul_right _ (by omega)
    rw [List.length_cons, Nat.pow_succ]
    omega
theorem small_of {ls cs : List Int} {len kerf : Int} (hg : greatE ls cs = false) (h0 : allE ls cs len kerf = 0) : ls.length ≤ 4 ∧ ∀ i, i < ls.length → 0 ≤ cs.getD i 0 ∧ cs.getD i 0 ≤ 4 := by
  have hok := okC_of h0
  unfold greatE at hg
  rw [Bool.or_eq_false_iff] at hg
  obtain ⟨h1, h2⟩ := hg
  have h2 := of_decide_eq_false h2
  refine ⟨by have := hok.1.few; omega, fun i hi => ?_⟩
  have h3 := hok.1.cB i hi
  have hi' : i < cs.length := by rw [hok.1.len]; exact hi
  rw [List.any_eq_false] at h1
  have h4 := h1 _ (List.getElem_mem hi')
  have e : cs.getD i 0 = cs[i] := by simp [List.getD_eq_getElem?_getD, hi']
  rw [← e] at h4
  simp only [decide_eq_true_eq] at h4
  omega
theorem small_least {ls cs : List Int} {len kerf : Int} (hs : allE ls cs len kerf = 0 → ls.length ≤ 4 ∧ ∀ i, i < ls.length → 0 ≤ cs.getD i 0 ∧ cs.getD i 0 ≤ 4) : LeastOk ls cs len kerf := by
  have hall : AllOk ls cs len kerf := fun h0 => by
    obtain ⟨h1, h2⟩ := hs h0
    have hl := (okC_of h0).1.len
    have h3 : (allP ls cs len kerf).length ≤ 5 ^ ls.length := pats_len kerf ls cs (len + kerf) hl h2
    have h4 : 5 ^ ls.length ≤ 5 ^ 4 := Nat.pow_le_pow_right (by decide) h1
    omega
  refine ⟨hall, fun h0 => ?_, fun h0 => ?_⟩
  · obtain ⟨h1, h2⟩ := hs h0
    have hl := (okC_of h0).1.len
    have key : ∀ k, k ≤ cs.length → 0 ≤ prodS cs k ∧ prodS cs k ≤ 5 ^ k := by
      intro k
      induction k with
      | zero => intro _; simp [prodS]
      | succ k ih =>
        intro hk
        have h3 := ih (by omega)
        have h4 := h2 k (by omega)
        have h5 := mul_range (a := prodS cs k) (b := cs.getD k 0 + 1) (A := 5 ^ k) (B := 5) h3 ⟨by omega, by omega⟩
        simp only [prodS]
        rw [Int.pow_succ]
        exact h5
    have h3 := (key cs.length (Nat.le_refl _)).2
    have h4 : (5 : Int) ^ cs.length ≤ 5 ^ 4 := by
      have : 5 ^ cs.length ≤ 5 ^ 4 := Nat.pow_le_pow_right (by decide) (by omega)
      exact_mod_cast this
    omega
  · obtain ⟨h1, h2⟩ := hs h0
    have hl := (okC_of h0).1.len
    have key : ∀ k, k ≤ cs.length → sumP cs k ≤ 4 * k := by
      intro k
      induction k with
      | zero => intro _; simp [sumP]
      | succ k ih =>
        intro hk
        have h3 := ih (by omega)
        have h4 := h2 k (by omega)
        rw [sumP_succ]; omega
    have := key cs.length (Nat.le_refl _)
    unfold wgt
    omega
theorem great_least {ls cs : List Int} {len kerf : Int} (hg : greatE ls cs = false) : LeastOk ls cs len kerf := small_least fun h0 => small_of hg h0
end PB
end
section
set_option linter.unusedVariables false
open Go Go.Proofs Go.Eng Go.Shelf
namespace PB
set_option maxRecDepth 100000
set_option linter.unusedVariables false
theorem b12 : body Try.prog [c13, c15, c17, c18] {} true Try.f12 [] (.val (.bool true)) := by
  have hE : allE [5, 3] [3, 3] 13 0 = 0 := by decide +kernel
  have hR : allR [5, 3] [3, 3] 13 0 = [[2, 1], [1, 2], [0, 3]] := by decide +kernel
  have hC : lstC [5, 3] [3, 3] 13 0 = 0 := by decide +kernel
  have hB : lstB [5, 3] [3, 3] 13 0 = [0, 1] := by decide +kernel
  have hL : LeastOk [5, 3] [3, 3] 13 0 := small_least fun _ => ⟨by decide, by decide⟩
  (repeat' ((conv => whnf); first | (refine Giv.mk fun _ => ?_) | (refine Alt.l (Need.mk ?h ?_); case h => omega) | (refine Alt.r (Need.mk ?h ?_); case h => omega) | (refine Need.mk ?h ?_; case h => first | omega | (intro _; rfl) | assumption | (simp <;> omega)) | refine Ix.zero ?_ | refine Ix.one ?_ | refine Ix.two ?_ | refine Ix.nat ?_ | refine Ix.add ?_ | (apply Go.Eng.Pin.mk; apply Exists.intro) | apply Go.Eng.Pinned.mk rfl rfl | (apply Go.Eng.PinH.mk; apply Exists.intro; apply Exists.intro) | exact Go.Eng.Fin0.mk | refine Go.Eng.Chk.mk ?_ ?_ | refine Own.l ?_ | fail))
  refine Need.mk hL.all ?_
  rw [hE, hR]
  (repeat' ((conv => whnf); first | (refine Giv.mk fun _ => ?_) | (refine Alt.l (Need.mk ?h ?_); case h => omega) | (refine Alt.r (Need.mk ?h ?_); case h => omega) | (refine Need.mk ?h ?_; case h => first | omega | (intro _; rfl) | assumption | (simp <;> omega)) | refine Ix.zero ?_ | refine Ix.one ?_ | refine Ix.two ?_ | refine Ix.nat ?_ | refine Ix.add ?_ | (apply Go.Eng.Pin.mk; apply Exists.intro) | apply Go.Eng.Pinned.mk rfl rfl | (apply Go.Eng.PinH.mk; apply Exists.intro; apply Exists.intro) | exact Go.Eng.Fin0.mk | refine Go.Eng.Chk.mk ?_ ?_ | refine Own.l ?_ | fail))
  rw [hC, hB]
  repeat (refine Br.mkY rfl ?_; (repeat' ((conv => whnf); first | (refine Giv.mk fun _ => ?_) | (refine Alt.l (Need.mk ?h ?_); case h => omega) | (refine Alt.r (Need.mk ?h ?_); case h => omega) | (refine Need.mk ?h ?_; case h => first | omega | (intro _; rfl) | assumption | (simp <;> omega)) | refine Ix.zero ?_ | refine Ix.one ?_ | refine Ix.two ?_ | refine Ix.nat ?_ | refine Ix.add ?_ | (apply Go.Eng.Pin.mk; apply Exists.intro) | apply Go.Eng.Pinned.mk rfl rfl | (apply Go.Eng.PinH.mk; apply Exists.intro; apply Exists.intro) | exact Go.Eng.Fin0.mk | refine Go.Eng.Chk.mk ?_ ?_ | refine Own.l ?_ | fail)))
  (conv => whnf)
  exact ⟨fun _ => rfl, fun _ => rfl⟩
def c12 : Con := mkCon 12 true fun args K => match args with | [] => K (.val (.bool true)) | _ => False
theorem k12 : ConOK Try.prog c12 := by
  refine conOK_of rfl (enters_of Try.func12 (by kernel_rfl) rfl) ?_
  intro args K h
  simp only [c12] at h
  split at h
  · exact ⟨_, h, tri_of_body (Γ := [c13, c15, c17, c18]) (by simp [k13, k15, k17, k18]) Try.func12 (by simp [Try.ntmps12]) rfl b12⟩
  · exact h.elim
theorem b3 (ls cs : List Int) (len kerf : Int) : body Try.prog [c11, c12, c13, c14, c15, c16, c17, c18] {} true Try.f3 [Ls ls, Ls cs, I len, I kerf] (.val (.bool true)) := by
  (repeat' ((conv => whnf); first | (refine Giv.mk fun _ => ?_) | (refine Alt.l (Need.mk ?h ?_); case h => omega) | (refine Alt.r (Need.mk ?h ?_); case h => omega) | (refine Need.mk ?h ?_; case h => first | omega | (intro _; rfl) | assumption | (simp <;> omega)) | refine Ix.zero ?_ | refine Ix.one ?_ | refine Ix.two ?_ | refine Ix.nat ?_ | refine Ix.add ?_ | (apply Go.Eng.Pin.mk; apply Exists.intro) | apply Go.Eng.Pinned.mk rfl rfl | (apply Go.Eng.PinH.mk; apply Exists.intro; apply Exists.intro) | exact Go.Eng.Fin0.mk | refine Go.Eng.Chk.mk ?_ ?_ | refine Own.l ?_ | fail))
  (refine Br.mk (fun _ => ?_) (fun _ => ?_))
  · (repeat' ((conv => whnf); first | (refine Giv.mk fun _ => ?_) | (refine Alt.l (Need.mk ?h ?_); case h => omega) | (refine Alt.r (Need.mk ?h ?_); case h => omega) | (refine Need.mk ?h ?_; case h => first | omega | (intro _; rfl) | assumption | (simp <;> omega)) | refine Ix.zero ?_ | refine Ix.one ?_ | refine Ix.two ?_ | refine Ix.nat ?_ | refine Ix.add ?_ | (apply Go.Eng.Pin.mk; apply Exists.intro) | apply Go.Eng.Pinned.mk rfl rfl | (apply Go.Eng.PinH.mk; apply Exists.intro; apply Exists.intro) | exact Go.Eng.Fin0.mk | refine Go.Eng.Chk.mk ?_ ?_ | refine Own.l ?_ | fail))
    (conv => whnf)
    (repeat' (first | exact trivial | rfl | exact Nat.one_pos | (refine And.intro ?_ ?_) | ((conv => whnf); (refine And.intro ?_ ?_)) | ((conv => whnf); exact trivial)))
  · rename_i hg
    have hg : greatE ls cs = false := by simpa using hg
    have hL := great_least (len := len) (kerf := kerf) hg
    (repeat' ((conv => whnf); first | (refine Giv.mk fun _ => ?_) | (refine Alt.l (Need.mk ?h ?_); case h => omega) | (refine Alt.r (Need.mk ?h ?_); case h => omega) | (refine Need.mk ?h ?_; case h => first | omega | (intro _; rfl) | assumption | (simp <;> omega)) | refine Ix.zero ?_ | refine Ix.one ?_ | refine Ix.two ?_ | refine Ix.nat ?_ | refine Ix.add ?_ | (apply Go.Eng.Pin.mk; apply Exists.intro) | apply Go.Eng.Pinned.mk rfl rfl | (apply Go.Eng.PinH.mk; apply Exists.intro; apply Exists.intro) | exact Go.Eng.Fin0.mk | refine Go.Eng.Chk.mk ?_ ?_ | refine Own.l ?_ | fail))
    refine Need.mk hL.all ?_
    (repeat' ((conv => whnf); first | (refine Giv.mk fun _ => ?_) | (refine Alt.l (Need.mk ?h ?_); case h => omega) | (refine Alt.r (Need.mk ?h ?_); case h => omega) | (refine Need.mk ?h ?_; case h => first | omega | (intro _; rfl) | assumption | (simp <;> omega)) | refine Ix.zero ?_ | refine Ix.one ?_ | refine Ix.two ?_ | refine Ix.nat ?_ | refine Ix.add ?_ | (apply Go.Eng.Pin.mk; apply Exists.intro) | apply Go.Eng.Pinned.mk rfl rfl | (apply Go.Eng.PinH.mk; apply Exists.intro; apply Exists.intro) | exact Go.Eng.Fin0.mk | refine Go.Eng.Chk.mk ?_ ?_ | refine Own.l ?_ | fail))
    refine Need.mk hL.all ?_
    (repeat' ((conv => whnf); first | (refine Giv.mk fun _ => ?_) | (refine Alt.l (Need.mk ?h ?_); case h => omega) | (refine Alt.r (Need.mk ?h ?_); case h => omega) | (refine Need.mk ?h ?_; case h => first | omega | (intro _; rfl) | assumption | (simp <;> omega)) | refine Ix.zero ?_ | refine Ix.one ?_ | refine Ix.two ?_ | refine Ix.nat ?_ | refine Ix.add ?_ | (apply Go.Eng.Pin.mk; apply Exists.intro) | apply Go.Eng.Pinned.mk rfl rfl | (apply Go.Eng.PinH.mk; apply Exists.intro; apply Exists.intro) | exact Go.Eng.Fin0.mk | refine Go.Eng.Chk.mk ?_ ?_ | refine Own.l ?_ | fail))
    repeat (refine Br.mkY rfl ?_; (repeat' ((conv => whnf); first | (refine Giv.mk fun _ => ?_) | (refine Alt.l (Need.mk ?h ?_); case h => omega) | (refine Alt.r (Need.mk ?h ?_); case h => omega) | (refine Need.mk ?h ?_; case h => first | omega | (intro _; rfl) | assumption | (simp <;> omega)) | refine Ix.zero ?_ | refine Ix.one ?_ | refine Ix.two ?_ | refine Ix.nat ?_ | refine Ix.add ?_ | (apply Go.Eng.Pin.mk; apply Exists.intro) | apply Go.Eng.Pinned.mk rfl rfl | (apply Go.Eng.PinH.mk; apply Exists.intro; apply Exists.intro) | exact Go.Eng.Fin0.mk | refine Go.Eng.Chk.mk ?_ ?_ | refine Own.l ?_ | fail)))
    (conv => whnf)
    (repeat' (first | exact trivial | rfl | exact Nat.one_pos | (refine And.intro ?_ ?_) | ((conv => whnf); (refine And.intro ?_ ?_)) | ((conv => whnf); exact trivial)))
theorem t3 (ls cs : List Int) (len kerf : Int) (_ : Okd (.slice (.int .i64)) ls) (_ : Okd (.slice (.int .i64)) cs) (_ : inK .i64 len) (_ : inK .i64 kerf) : Tri Try.prog true 3 [Ls ls, Ls cs, I len, I kerf] (.val (.bool true)) :=
  tri_of_body (Γ := [c11, c12, c13, c14, c15, c16, c17, c18]) (by simp [k11, k12, k13, k14, k15, k16, k17, k18]) Try.func3 (by simp [Try.ntmps3]) rfl (b3 ls cs len kerf)
end PB
end
