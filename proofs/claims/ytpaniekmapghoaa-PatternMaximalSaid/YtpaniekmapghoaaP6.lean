/-
  Part 6: a symbolic executor over the model, contracts of functions and plain laws.
-/
import Derived.Test.YtpaniekmapghoaaP5
section
set_option linter.unusedVariables false
open Go Go.Proofs Go.Eng Go.Shelf
namespace PB
set_option maxRecDepth 100000
set_option linter.unusedVariables false
abbrev cS26 : Con := S.c26
theorem kS26 : ConOK Try.prog cS26 := S.k26
abbrev cS31 : Con := S.c31
theorem kS31 : ConOK Try.prog cS31 := S.k31
abbrev cS32 : Con := S.c32
theorem kS32 : ConOK Try.prog cS32 := S.k32
set_option maxHeartbeats 8000000 in
theorem b10 (ls cs : List Int) (len kerf : Int) (pk : List Int) : body Try.prog [c12, c13, c19, cO20, cS26, cS31, cS32] { asks := [(0, []), (2, []), (4, [])] } true Try.f10 [Ls ls, Ls cs, I len, I kerf, .seq (.int .u8) pk] (.val (.bool true)) := by
  (repeat' ((conv => whnf); first | (refine Giv.mk fun _ => ?_) | (refine Alt.l (Need.mk ?h ?_); case h => omega) | (refine Alt.r (Need.mk ?h ?_); case h => omega) | (refine Need.mk ?h ?_; case h => first | omega | (intro _; rfl) | assumption | (simp <;> omega)) | refine Ix.zero ?_ | refine Ix.one ?_ | refine Ix.two ?_ | refine Ix.nat ?_ | refine Ix.add ?_ | (apply Go.Eng.Pin.mk; apply Exists.intro) | apply Go.Eng.Pinned.mk rfl rfl | (apply Go.Eng.PinH.mk; apply Exists.intro; apply Exists.intro) | exact Go.Eng.Fin0.mk | refine Go.Eng.Chk.mk ?_ ?_ | refine Own.l ?_ | fail))
  (refine Br.mk (fun _ => ?_) (fun _ => ?_))
  · (repeat' ((conv => whnf); first | (refine Giv.mk fun _ => ?_) | (refine Alt.l (Need.mk ?h ?_); case h => omega) | (refine Alt.r (Need.mk ?h ?_); case h => omega) | (refine Need.mk ?h ?_; case h => first | omega | (intro _; rfl) | assumption | (simp <;> omega)) | refine Ix.zero ?_ | refine Ix.one ?_ | refine Ix.two ?_ | refine Ix.nat ?_ | refine Ix.add ?_ | (apply Go.Eng.Pin.mk; apply Exists.intro) | apply Go.Eng.Pinned.mk rfl rfl | (apply Go.Eng.PinH.mk; apply Exists.intro; apply Exists.intro) | exact Go.Eng.Fin0.mk | refine Go.Eng.Chk.mk ?_ ?_ | refine Own.l ?_ | fail))
    (conv => whnf)
    (repeat' (first | exact trivial | rfl | exact Nat.one_pos | (refine And.intro ?_ ?_) | ((conv => whnf); (refine And.intro ?_ ?_)) | ((conv => whnf); exact trivial)))
  · rename_i hf
    obtain ⟨hg, h0⟩ : fineE ls cs len kerf := Classical.not_not.1 hf
    obtain ⟨b1, b2, b3, b4⟩ := allE_iff.1 h0
    have hok := okC_of h0
    have hfew := hok.1.few
    have hL := great_least (len := len) (kerf := kerf) hg
    have hAll := hL.all
    have hne := allM_ne h0
    have har : allR ls cs len kerf = allM ls cs len kerf := if_neg (by rw [h0]; decide)
    have hfit : ∀ j, j < (allM ls cs len kerf).length → Fit ls cs ((allM ls cs len kerf).getD j []) len kerf := fun j hj => mem_fit hok ((allM_mem hok).1 (allM_get hj)).1
    have hmax : ∀ j, j < (allM ls cs len kerf).length → maxE ls cs ((allM ls cs len kerf).getD j []) len kerf = true := fun j hj => ((allM_mem hok).1 (allM_get hj)).2
    have hdesc := fun i => allM_desc (ls := ls) (cs := cs) (len := len) (kerf := kerf) (i := i)
    have hund := fun q => fit_under (ls := ls) (cs := cs) (q := q) (len := len) (kerf := kerf)
    (repeat' ((conv => whnf); first | (refine Giv.mk fun _ => ?_) | (refine Alt.l (Need.mk ?h ?_); case h => omega) | (refine Alt.r (Need.mk ?h ?_); case h => omega) | (refine Need.mk ?h ?_; case h => first | omega | (intro _; rfl) | assumption | (simp <;> omega)) | refine Ix.zero ?_ | refine Ix.one ?_ | refine Ix.two ?_ | refine Ix.nat ?_ | refine Ix.add ?_ | (apply Go.Eng.Pin.mk; apply Exists.intro) | apply Go.Eng.Pinned.mk rfl rfl | (apply Go.Eng.PinH.mk; apply Exists.intro; apply Exists.intro) | exact Go.Eng.Fin0.mk | refine Go.Eng.Chk.mk ?_ ?_ | refine Own.l ?_ | fail))
    (refine Br.mk (fun _ => ?_) (fun _ => ?_))
    · (repeat' ((conv => whnf); first | (refine Giv.mk fun _ => ?_) | (refine Alt.l (Need.mk ?h ?_); case h => omega) | (refine Alt.r (Need.mk ?h ?_); case h => omega) | (refine Need.mk ?h ?_; case h => first | omega | (intro _; rfl) | assumption | (simp <;> omega)) | refine Ix.zero ?_ | refine Ix.one ?_ | refine Ix.two ?_ | refine Ix.nat ?_ | refine Ix.add ?_ | (apply Go.Eng.Pin.mk; apply Exists.intro) | apply Go.Eng.Pinned.mk rfl rfl | (apply Go.Eng.PinH.mk; apply Exists.intro; apply Exists.intro) | exact Go.Eng.Fin0.mk | refine Go.Eng.Chk.mk ?_ ?_ | refine Own.l ?_ | fail))
      (conv => whnf)
      (repeat' (first | exact trivial | rfl | exact Nat.one_pos | (refine And.intro ?_ ?_) | ((conv => whnf); (refine And.intro ?_ ?_)) | ((conv => whnf); exact trivial)))
    · rename_i hp20
      (repeat' ((conv => whnf); first | (refine Giv.mk fun _ => ?_) | (refine Alt.l (Need.mk ?h ?_); case h => omega) | (refine Alt.r (Need.mk ?h ?_); case h => omega) | (refine Need.mk ?h ?_; case h => first | omega | (intro _; rfl) | assumption | (simp <;> omega)) | refine Ix.zero ?_ | refine Ix.one ?_ | refine Ix.two ?_ | refine Ix.nat ?_ | refine Ix.add ?_ | (apply Go.Eng.Pin.mk; apply Exists.intro) | apply Go.Eng.Pinned.mk rfl rfl | (apply Go.Eng.PinH.mk; apply Exists.intro; apply Exists.intro) | exact Go.Eng.Fin0.mk | refine Go.Eng.Chk.mk ?_ ?_ | refine Own.l ?_ | fail))
      rw [har]
      obtain ⟨A, hA⟩ : ∃ A, allM ls cs len kerf = A := ⟨_, rfl⟩
      rw [hA] at hne hfit hmax hdesc hund ⊢
      refine Br.mkN (not_not_intro h0) ?_
      (repeat' ((conv => whnf); first | (refine Giv.mk fun _ => ?_) | (refine Alt.l (Need.mk ?h ?_); case h => omega) | (refine Alt.r (Need.mk ?h ?_); case h => omega) | (refine Need.mk ?h ?_; case h => first | omega | (intro _; rfl) | assumption | (simp <;> omega)) | refine Ix.zero ?_ | refine Ix.one ?_ | refine Ix.two ?_ | refine Ix.nat ?_ | refine Ix.add ?_ | (apply Go.Eng.Pin.mk; apply Exists.intro) | apply Go.Eng.Pinned.mk rfl rfl | (apply Go.Eng.PinH.mk; apply Exists.intro; apply Exists.intro) | exact Go.Eng.Fin0.mk | refine Go.Eng.Chk.mk ?_ ?_ | refine Own.l ?_ | fail))
      refine Br.mkN (by omega) ?_
      (repeat' ((conv => whnf); first | (refine Giv.mk fun _ => ?_) | (refine Alt.l (Need.mk ?h ?_); case h => omega) | (refine Alt.r (Need.mk ?h ?_); case h => omega) | (refine Need.mk ?h ?_; case h => first | omega | (intro _; rfl) | assumption | (simp <;> omega)) | refine Ix.zero ?_ | refine Ix.one ?_ | refine Ix.two ?_ | refine Ix.nat ?_ | refine Ix.add ?_ | (apply Go.Eng.Pin.mk; apply Exists.intro) | apply Go.Eng.Pinned.mk rfl rfl | (apply Go.Eng.PinH.mk; apply Exists.intro; apply Exists.intro) | exact Go.Eng.Fin0.mk | refine Go.Eng.Chk.mk ?_ ?_ | refine Own.l ?_ | fail))
      refine Ask.mk ⟨{ X := Nat, pre := fun i => i ≤ A.length, mod := fun i _ => [(51, I i)], mu := fun i => A.length - i }, rfl, ?_⟩
      (repeat' ((conv => whnf); first | (refine Giv.mk fun _ => ?_) | (refine Alt.l (Need.mk ?h ?_); case h => omega) | (refine Alt.r (Need.mk ?h ?_); case h => omega) | (refine Need.mk ?h ?_; case h => first | omega | (intro _; rfl) | assumption | (simp <;> omega)) | refine Ix.zero ?_ | refine Ix.one ?_ | refine Ix.two ?_ | refine Ix.nat ?_ | refine Ix.add ?_ | (apply Go.Eng.Pin.mk; apply Exists.intro) | apply Go.Eng.Pinned.mk rfl rfl | (apply Go.Eng.PinH.mk; apply Exists.intro; apply Exists.intro) | exact Go.Eng.Fin0.mk | refine Go.Eng.Chk.mk ?_ ?_ | refine Own.l ?_ | fail))
      refine ⟨⟨(0 : Nat), Nat.zero_le _, by (repeat' (first | exact trivial | rfl | exact Nat.one_pos | (refine And.intro ?_ ?_) | omega | ((conv => whnf); (refine And.intro ?_ ?_)) | ((conv => whnf); exact trivial)))⟩, fun (i : Nat) hi => ?_⟩
      have hi : i ≤ A.length := hi
      (repeat' ((conv => whnf); first | (refine Giv.mk fun _ => ?_) | (refine Alt.l (Need.mk ?h ?_); case h => omega) | (refine Alt.r (Need.mk ?h ?_); case h => omega) | (refine Need.mk ?h ?_; case h => first | omega | (intro _; rfl) | assumption | (simp <;> omega)) | refine Ix.zero ?_ | refine Ix.one ?_ | refine Ix.two ?_ | refine Ix.nat ?_ | refine Ix.add ?_ | (apply Go.Eng.Pin.mk; apply Exists.intro) | apply Go.Eng.Pinned.mk rfl rfl | (apply Go.Eng.PinH.mk; apply Exists.intro; apply Exists.intro) | exact Go.Eng.Fin0.mk | refine Go.Eng.Chk.mk ?_ ?_ | refine Own.l ?_ | fail))
      (refine Br.mk (fun _ => ?_) (fun _ => ?_))
      · have hlt : i < A.length := by omega
        have hF := hfit i hlt
        have hX := hmax i hlt
        have hff := fit_fits h0 hF
        obtain ⟨p, hp⟩ : ∃ p, A.getD i [] = p := ⟨_, rfl⟩
        rw [hp] at hF hX hff
        have hpl := hF.ql
        (repeat' ((conv => whnf); first | (refine Giv.mk fun _ => ?_) | (refine Alt.l (Need.mk ?h ?_); case h => omega) | (refine Alt.r (Need.mk ?h ?_); case h => omega) | (refine Need.mk ?h ?_; case h => first | omega | (intro _; rfl) | assumption | (simp <;> omega)) | refine Ix.zero ?_ | refine Ix.one ?_ | refine Ix.two ?_ | refine Ix.nat ?_ | refine Ix.add ?_ | (apply Go.Eng.Pin.mk; apply Exists.intro) | apply Go.Eng.Pinned.mk rfl rfl | (apply Go.Eng.PinH.mk; apply Exists.intro; apply Exists.intro) | exact Go.Eng.Fin0.mk | refine Go.Eng.Chk.mk ?_ ?_ | refine Own.l ?_ | fail))
        rw [hp]
        (repeat' ((conv => whnf); first | (refine Giv.mk fun _ => ?_) | (refine Alt.l (Need.mk ?h ?_); case h => omega) | (refine Alt.r (Need.mk ?h ?_); case h => omega) | (refine Need.mk ?h ?_; case h => first | omega | (intro _; rfl) | assumption | (simp <;> omega)) | refine Ix.zero ?_ | refine Ix.one ?_ | refine Ix.two ?_ | refine Ix.nat ?_ | refine Ix.add ?_ | (apply Go.Eng.Pin.mk; apply Exists.intro) | apply Go.Eng.Pinned.mk rfl rfl | (apply Go.Eng.PinH.mk; apply Exists.intro; apply Exists.intro) | exact Go.Eng.Fin0.mk | refine Go.Eng.Chk.mk ?_ ?_ | refine Own.l ?_ | fail))
        refine Br.mkN (not_not_intro (by omega)) ?_
        (repeat' ((conv => whnf); first | (refine Giv.mk fun _ => ?_) | (refine Alt.l (Need.mk ?h ?_); case h => omega) | (refine Alt.r (Need.mk ?h ?_); case h => omega) | (refine Need.mk ?h ?_; case h => first | omega | (intro _; rfl) | assumption | (simp <;> omega)) | refine Ix.zero ?_ | refine Ix.one ?_ | refine Ix.two ?_ | refine Ix.nat ?_ | refine Ix.add ?_ | (apply Go.Eng.Pin.mk; apply Exists.intro) | apply Go.Eng.Pinned.mk rfl rfl | (apply Go.Eng.PinH.mk; apply Exists.intro; apply Exists.intro) | exact Go.Eng.Fin0.mk | refine Go.Eng.Chk.mk ?_ ?_ | refine Own.l ?_ | fail))
        refine Br.mkN (not_not_intro hff) ?_
        (repeat' ((conv => whnf); first | (refine Giv.mk fun _ => ?_) | (refine Alt.l (Need.mk ?h ?_); case h => omega) | (refine Alt.r (Need.mk ?h ?_); case h => omega) | (refine Need.mk ?h ?_; case h => first | omega | (intro _; rfl) | assumption | (simp <;> omega)) | refine Ix.zero ?_ | refine Ix.one ?_ | refine Ix.two ?_ | refine Ix.nat ?_ | refine Ix.add ?_ | (apply Go.Eng.Pin.mk; apply Exists.intro) | apply Go.Eng.Pinned.mk rfl rfl | (apply Go.Eng.PinH.mk; apply Exists.intro; apply Exists.intro) | exact Go.Eng.Fin0.mk | refine Go.Eng.Chk.mk ?_ ?_ | refine Own.l ?_ | fail))
        refine Br.mk (fun g => ?pos) (fun g => ?zer)
        case' pos =>
          obtain ⟨k, rfl⟩ : ∃ k, i = k + 1 := ⟨i - 1, by omega⟩
          have hd := hdesc k hlt
          rw [hp] at hd
          have hkl : (A.getD k []).length = p.length := by rw [(hfit k (by omega)).ql, hpl]
          (repeat' ((conv => whnf); first | (refine Giv.mk fun _ => ?_) | (refine Alt.l (Need.mk ?h ?_); case h => omega) | (refine Alt.r (Need.mk ?h ?_); case h => omega) | (refine Need.mk ?h ?_; case h => first | omega | (intro _; rfl) | assumption | (simp <;> omega)) | refine Ix.zero ?_ | refine Ix.one ?_ | refine Ix.two ?_ | refine Ix.nat ?_ | refine Ix.add ?_ | (apply Go.Eng.Pin.mk; apply Exists.intro) | apply Go.Eng.Pinned.mk rfl rfl | (apply Go.Eng.PinH.mk; apply Exists.intro; apply Exists.intro) | exact Go.Eng.Fin0.mk | refine Go.Eng.Chk.mk ?_ ?_ | refine Own.l ?_ | fail))
          refine ⟨fun q hq => ?_⟩
          obtain rfl : k = q := by omega
          (repeat' ((conv => whnf); first | (refine Giv.mk fun _ => ?_) | (refine Alt.l (Need.mk ?h ?_); case h => omega) | (refine Alt.r (Need.mk ?h ?_); case h => omega) | (refine Need.mk ?h ?_; case h => first | omega | (intro _; rfl) | assumption | (simp <;> omega)) | refine Ix.zero ?_ | refine Ix.one ?_ | refine Ix.two ?_ | refine Ix.nat ?_ | refine Ix.add ?_ | (apply Go.Eng.Pin.mk; apply Exists.intro) | apply Go.Eng.Pinned.mk rfl rfl | (apply Go.Eng.PinH.mk; apply Exists.intro; apply Exists.intro) | exact Go.Eng.Fin0.mk | refine Go.Eng.Chk.mk ?_ ?_ | refine Own.l ?_ | fail))
          refine Br.mkN (by omega) ?_
        all_goals
          (repeat' ((conv => whnf); first | (refine Giv.mk fun _ => ?_) | (refine Alt.l (Need.mk ?h ?_); case h => omega) | (refine Alt.r (Need.mk ?h ?_); case h => omega) | (refine Need.mk ?h ?_; case h => first | omega | (intro _; rfl) | assumption | (simp <;> omega)) | refine Ix.zero ?_ | refine Ix.one ?_ | refine Ix.two ?_ | refine Ix.nat ?_ | refine Ix.add ?_ | (apply Go.Eng.Pin.mk; apply Exists.intro) | apply Go.Eng.Pinned.mk rfl rfl | (apply Go.Eng.PinH.mk; apply Exists.intro; apply Exists.intro) | exact Go.Eng.Fin0.mk | refine Go.Eng.Chk.mk ?_ ?_ | refine Own.l ?_ | fail))
          refine Ask.mk ⟨{ X := Nat, pre := fun j => j ≤ p.length, mod := fun j _ => [(83, I j)], mu := fun j => p.length - j }, rfl, ?_⟩
          (repeat' ((conv => whnf); first | (refine Giv.mk fun _ => ?_) | (refine Alt.l (Need.mk ?h ?_); case h => omega) | (refine Alt.r (Need.mk ?h ?_); case h => omega) | (refine Need.mk ?h ?_; case h => first | omega | (intro _; rfl) | assumption | (simp <;> omega)) | refine Ix.zero ?_ | refine Ix.one ?_ | refine Ix.two ?_ | refine Ix.nat ?_ | refine Ix.add ?_ | (apply Go.Eng.Pin.mk; apply Exists.intro) | apply Go.Eng.Pinned.mk rfl rfl | (apply Go.Eng.PinH.mk; apply Exists.intro; apply Exists.intro) | exact Go.Eng.Fin0.mk | refine Go.Eng.Chk.mk ?_ ?_ | refine Own.l ?_ | fail))
          refine ⟨⟨(0 : Nat), Nat.zero_le _, by (repeat' (first | exact trivial | rfl | exact Nat.one_pos | (refine And.intro ?_ ?_) | omega | ((conv => whnf); (refine And.intro ?_ ?_)) | ((conv => whnf); exact trivial)))⟩, fun (j : Nat) hj => ?_⟩
          have hj : j ≤ p.length := hj
          (repeat' ((conv => whnf); first | (refine Giv.mk fun _ => ?_) | (refine Alt.l (Need.mk ?h ?_); case h => omega) | (refine Alt.r (Need.mk ?h ?_); case h => omega) | (refine Need.mk ?h ?_; case h => first | omega | (intro _; rfl) | assumption | (simp <;> omega)) | refine Ix.zero ?_ | refine Ix.one ?_ | refine Ix.two ?_ | refine Ix.nat ?_ | refine Ix.add ?_ | (apply Go.Eng.Pin.mk; apply Exists.intro) | apply Go.Eng.Pinned.mk rfl rfl | (apply Go.Eng.PinH.mk; apply Exists.intro; apply Exists.intro) | exact Go.Eng.Fin0.mk | refine Go.Eng.Chk.mk ?_ ?_ | refine Own.l ?_ | fail))
          (refine Br.mk (fun _ => ?_) (fun _ => ?_))
          · have hjl : j < p.length := by omega
            have hq := hF.qB j (by omega)
            have hcj := b4 j (by omega)
            (repeat' ((conv => whnf); first | (refine Giv.mk fun _ => ?_) | (refine Alt.l (Need.mk ?h ?_); case h => omega) | (refine Alt.r (Need.mk ?h ?_); case h => omega) | (refine Need.mk ?h ?_; case h => first | omega | (intro _; rfl) | assumption | (simp <;> omega)) | refine Ix.zero ?_ | refine Ix.one ?_ | refine Ix.two ?_ | refine Ix.nat ?_ | refine Ix.add ?_ | (apply Go.Eng.Pin.mk; apply Exists.intro) | apply Go.Eng.Pinned.mk rfl rfl | (apply Go.Eng.PinH.mk; apply Exists.intro; apply Exists.intro) | exact Go.Eng.Fin0.mk | refine Go.Eng.Chk.mk ?_ ?_ | refine Own.l ?_ | fail))
            refine Br.mkN (by omega) ?_
            (repeat' ((conv => whnf); first | (refine Giv.mk fun _ => ?_) | (refine Alt.l (Need.mk ?h ?_); case h => omega) | (refine Alt.r (Need.mk ?h ?_); case h => omega) | (refine Need.mk ?h ?_; case h => first | omega | (intro _; rfl) | assumption | (simp <;> omega)) | refine Ix.zero ?_ | refine Ix.one ?_ | refine Ix.two ?_ | refine Ix.nat ?_ | refine Ix.add ?_ | (apply Go.Eng.Pin.mk; apply Exists.intro) | apply Go.Eng.Pinned.mk rfl rfl | (apply Go.Eng.PinH.mk; apply Exists.intro; apply Exists.intro) | exact Go.Eng.Fin0.mk | refine Go.Eng.Chk.mk ?_ ?_ | refine Own.l ?_ | fail))
            (refine Br.mk (fun _ => ?_) (fun _ => ?_))
            · rename_i g2
              have hno := max_not hX hjl g2
              (repeat' ((conv => whnf); first | (refine Giv.mk fun _ => ?_) | (refine Alt.l (Need.mk ?h ?_); case h => omega) | (refine Alt.r (Need.mk ?h ?_); case h => omega) | (refine Need.mk ?h ?_; case h => first | omega | (intro _; rfl) | assumption | (simp <;> omega)) | refine Ix.zero ?_ | refine Ix.one ?_ | refine Ix.two ?_ | refine Ix.nat ?_ | refine Ix.add ?_ | (apply Go.Eng.Pin.mk; apply Exists.intro) | apply Go.Eng.Pinned.mk rfl rfl | (apply Go.Eng.PinH.mk; apply Exists.intro; apply Exists.intro) | exact Go.Eng.Fin0.mk | refine Go.Eng.Chk.mk ?_ ?_ | refine Own.l ?_ | fail))
              refine Br.mkN hno ?_
              (repeat' ((conv => whnf); first | (refine Giv.mk fun _ => ?_) | (refine Alt.l (Need.mk ?h ?_); case h => omega) | (refine Alt.r (Need.mk ?h ?_); case h => omega) | (refine Need.mk ?h ?_; case h => first | omega | (intro _; rfl) | assumption | (simp <;> omega)) | refine Ix.zero ?_ | refine Ix.one ?_ | refine Ix.two ?_ | refine Ix.nat ?_ | refine Ix.add ?_ | (apply Go.Eng.Pin.mk; apply Exists.intro) | apply Go.Eng.Pinned.mk rfl rfl | (apply Go.Eng.PinH.mk; apply Exists.intro; apply Exists.intro) | exact Go.Eng.Fin0.mk | refine Go.Eng.Chk.mk ?_ ?_ | refine Own.l ?_ | fail))
              refine ⟨(j + 1 : Nat), by show p.length - (j + 1) < p.length - j; omega, hjl, by (repeat' (first | exact trivial | rfl | exact Nat.one_pos | (refine And.intro ?_ ?_) | omega | ((conv => whnf); (refine And.intro ?_ ?_)) | ((conv => whnf); exact trivial)))⟩
            · (repeat' ((conv => whnf); first | (refine Giv.mk fun _ => ?_) | (refine Alt.l (Need.mk ?h ?_); case h => omega) | (refine Alt.r (Need.mk ?h ?_); case h => omega) | (refine Need.mk ?h ?_; case h => first | omega | (intro _; rfl) | assumption | (simp <;> omega)) | refine Ix.zero ?_ | refine Ix.one ?_ | refine Ix.two ?_ | refine Ix.nat ?_ | refine Ix.add ?_ | (apply Go.Eng.Pin.mk; apply Exists.intro) | apply Go.Eng.Pinned.mk rfl rfl | (apply Go.Eng.PinH.mk; apply Exists.intro; apply Exists.intro) | exact Go.Eng.Fin0.mk | refine Go.Eng.Chk.mk ?_ ?_ | refine Own.l ?_ | fail))
              refine ⟨(j + 1 : Nat), by show p.length - (j + 1) < p.length - j; omega, hjl, by (repeat' (first | exact trivial | rfl | exact Nat.one_pos | (refine And.intro ?_ ?_) | omega | ((conv => whnf); (refine And.intro ?_ ?_)) | ((conv => whnf); exact trivial)))⟩
          · (repeat' ((conv => whnf); first | (refine Giv.mk fun _ => ?_) | (refine Alt.l (Need.mk ?h ?_); case h => omega) | (refine Alt.r (Need.mk ?h ?_); case h => omega) | (refine Need.mk ?h ?_; case h => first | omega | (intro _; rfl) | assumption | (simp <;> omega)) | refine Ix.zero ?_ | refine Ix.one ?_ | refine Ix.two ?_ | refine Ix.nat ?_ | refine Ix.add ?_ | (apply Go.Eng.Pin.mk; apply Exists.intro) | apply Go.Eng.Pinned.mk rfl rfl | (apply Go.Eng.PinH.mk; apply Exists.intro; apply Exists.intro) | exact Go.Eng.Fin0.mk | refine Go.Eng.Chk.mk ?_ ?_ | refine Own.l ?_ | fail))
            first | refine ⟨(k + 1 + 1 : Nat), by show A.length - (k + 1 + 1) < A.length - (k + 1); omega, hlt, by (repeat' (first | exact trivial | rfl | exact Nat.one_pos | (refine And.intro ?_ ?_) | omega | ((conv => whnf); (refine And.intro ?_ ?_)) | ((conv => whnf); exact trivial)))⟩ | refine ⟨(i + 1 : Nat), by show A.length - (i + 1) < A.length - i; omega, hlt, by (repeat' (first | exact trivial | rfl | exact Nat.one_pos | (refine And.intro ?_ ?_) | omega | ((conv => whnf); (refine And.intro ?_ ?_)) | ((conv => whnf); exact trivial)))⟩
      · have e : i = A.length := by omega
        (repeat' ((conv => whnf); first | (refine Giv.mk fun _ => ?_) | (refine Alt.l (Need.mk ?h ?_); case h => omega) | (refine Alt.r (Need.mk ?h ?_); case h => omega) | (refine Need.mk ?h ?_; case h => first | omega | (intro _; rfl) | assumption | (simp <;> omega)) | refine Ix.zero ?_ | refine Ix.one ?_ | refine Ix.two ?_ | refine Ix.nat ?_ | refine Ix.add ?_ | (apply Go.Eng.Pin.mk; apply Exists.intro) | apply Go.Eng.Pinned.mk rfl rfl | (apply Go.Eng.PinH.mk; apply Exists.intro; apply Exists.intro) | exact Go.Eng.Fin0.mk | refine Go.Eng.Chk.mk ?_ ?_ | refine Own.l ?_ | fail))
        refine Need.mk (show 0 ≤ (ls.length : Int) ∧ (ls.length : Int) ≤ ls.length ∧ (ls.length : Int) ≤ 140737488355328 ∧ (ls.length : Int) * ((8 : Nat) : Int) ≤ 140737488355328 by omega) ?_
        (repeat' ((conv => whnf); first | (refine Giv.mk fun _ => ?_) | (refine Alt.l (Need.mk ?h ?_); case h => omega) | (refine Alt.r (Need.mk ?h ?_); case h => omega) | (refine Need.mk ?h ?_; case h => first | omega | (intro _; rfl) | assumption | (simp <;> omega)) | refine Ix.zero ?_ | refine Ix.one ?_ | refine Ix.two ?_ | refine Ix.nat ?_ | refine Ix.add ?_ | (apply Go.Eng.Pin.mk; apply Exists.intro) | apply Go.Eng.Pinned.mk rfl rfl | (apply Go.Eng.PinH.mk; apply Exists.intro; apply Exists.intro) | exact Go.Eng.Fin0.mk | refine Go.Eng.Chk.mk ?_ ?_ | refine Own.l ?_ | fail))
        refine Ask.mk ⟨{ X := Nat, pre := fun m => m ≤ ls.length, mod := fun m _ => [(126, I m)], heap := fun m _ => [.cells [Ls ls] 22, .cells [I len] 3, .cells [I kerf] 3, .vec 1 (.int .i64) (pvL pk cs ls.length m) 3, .vec 1 (.int .i64) [] 3, .cells [.ref 3 1] 22], mu := fun m => ls.length - m }, rfl, ?_⟩
        (repeat' ((conv => whnf); first | (refine Giv.mk fun _ => ?_) | (refine Alt.l (Need.mk ?h ?_); case h => omega) | (refine Alt.r (Need.mk ?h ?_); case h => omega) | (refine Need.mk ?h ?_; case h => first | omega | (intro _; rfl) | assumption | (simp <;> omega)) | refine Ix.zero ?_ | refine Ix.one ?_ | refine Ix.two ?_ | refine Ix.nat ?_ | refine Ix.add ?_ | (apply Go.Eng.Pin.mk; apply Exists.intro) | apply Go.Eng.Pinned.mk rfl rfl | (apply Go.Eng.PinH.mk; apply Exists.intro; apply Exists.intro) | exact Go.Eng.Fin0.mk | refine Go.Eng.Chk.mk ?_ ?_ | refine Own.l ?_ | fail))
        have hrl : (List.replicate ((ls.length : Int)).toNat (0 : Int)).length = ls.length := by simp
        refine ⟨⟨(0 : Nat), Nat.zero_le _, by (repeat' (first | exact trivial | rfl | exact Nat.one_pos | (refine And.intro ?_ ?_) | omega | ((conv => whnf); (refine And.intro ?_ ?_)) | ((conv => whnf); exact trivial))); rw [pvL_zero]; rfl⟩, fun (m : Nat) hm => ?_⟩
        have hm : m ≤ ls.length := hm
        have hvl := pvL_len pk cs ls.length m
        (repeat' ((conv => whnf); first | (refine Giv.mk fun _ => ?_) | (refine Alt.l (Need.mk ?h ?_); case h => omega) | (refine Alt.r (Need.mk ?h ?_); case h => omega) | (refine Need.mk ?h ?_; case h => first | omega | (intro _; rfl) | assumption | (simp <;> omega)) | refine Ix.zero ?_ | refine Ix.one ?_ | refine Ix.two ?_ | refine Ix.nat ?_ | refine Ix.add ?_ | (apply Go.Eng.Pin.mk; apply Exists.intro) | apply Go.Eng.Pinned.mk rfl rfl | (apply Go.Eng.PinH.mk; apply Exists.intro; apply Exists.intro) | exact Go.Eng.Fin0.mk | refine Go.Eng.Chk.mk ?_ ?_ | refine Own.l ?_ | fail))
        (refine Br.mk (fun _ => ?_) (fun _ => ?_))
        · have hml : m < ls.length := by omega
          have hcm := b4 m (by omega)
          (repeat' ((conv => whnf); first | (refine Giv.mk fun _ => ?_) | (refine Alt.l (Need.mk ?h ?_); case h => omega) | (refine Alt.r (Need.mk ?h ?_); case h => omega) | (refine Need.mk ?h ?_; case h => first | omega | (intro _; rfl) | assumption | (simp <;> omega)) | refine Ix.zero ?_ | refine Ix.one ?_ | refine Ix.two ?_ | refine Ix.nat ?_ | refine Ix.add ?_ | (apply Go.Eng.Pin.mk; apply Exists.intro) | apply Go.Eng.Pinned.mk rfl rfl | (apply Go.Eng.PinH.mk; apply Exists.intro; apply Exists.intro) | exact Go.Eng.Fin0.mk | refine Go.Eng.Chk.mk ?_ ?_ | refine Own.l ?_ | fail))
          (refine Br.mk (fun _ => ?_) (fun _ => ?_))
          · have hmp : m < pk.length := by omega
            have hst := pvL_step pk cs ls.length m hml hmp
            (repeat' ((conv => whnf); first | (refine Giv.mk fun _ => ?_) | (refine Alt.l (Need.mk ?h ?_); case h => omega) | (refine Alt.r (Need.mk ?h ?_); case h => omega) | (refine Need.mk ?h ?_; case h => first | omega | (intro _; rfl) | assumption | (simp <;> omega)) | refine Ix.zero ?_ | refine Ix.one ?_ | refine Ix.two ?_ | refine Ix.nat ?_ | refine Ix.add ?_ | (apply Go.Eng.Pin.mk; apply Exists.intro) | apply Go.Eng.Pinned.mk rfl rfl | (apply Go.Eng.PinH.mk; apply Exists.intro; apply Exists.intro) | exact Go.Eng.Fin0.mk | refine Go.Eng.Chk.mk ?_ ?_ | refine Own.l ?_ | fail))
            refine ⟨(m + 1 : Nat), by show ls.length - (m + 1) < ls.length - m; omega, hml, by (repeat' (first | exact trivial | rfl | exact Nat.one_pos | (refine And.intro ?_ ?_) | omega | ((conv => whnf); (refine And.intro ?_ ?_)) | ((conv => whnf); exact trivial))); (conv => whnf); exact hst⟩
          · have hst := pvL_skip pk cs ls.length m (by omega)
            (repeat' ((conv => whnf); first | (refine Giv.mk fun _ => ?_) | (refine Alt.l (Need.mk ?h ?_); case h => omega) | (refine Alt.r (Need.mk ?h ?_); case h => omega) | (refine Need.mk ?h ?_; case h => first | omega | (intro _; rfl) | assumption | (simp <;> omega)) | refine Ix.zero ?_ | refine Ix.one ?_ | refine Ix.two ?_ | refine Ix.nat ?_ | refine Ix.add ?_ | (apply Go.Eng.Pin.mk; apply Exists.intro) | apply Go.Eng.Pinned.mk rfl rfl | (apply Go.Eng.PinH.mk; apply Exists.intro; apply Exists.intro) | exact Go.Eng.Fin0.mk | refine Go.Eng.Chk.mk ?_ ?_ | refine Own.l ?_ | fail))
            refine ⟨(m + 1 : Nat), by show ls.length - (m + 1) < ls.length - m; omega, hml, by (repeat' (first | exact trivial | rfl | exact Nat.one_pos | (refine And.intro ?_ ?_) | omega | ((conv => whnf); (refine And.intro ?_ ?_)) | ((conv => whnf); exact trivial))); (conv => whnf); exact hst.symm⟩
        · have e2 : m = ls.length := by omega
          subst e2
          have hvb : ∀ i, i < ls.length → 0 ≤ (pvL pk cs ls.length ls.length).getD i 0 ∧ (pvL pk cs ls.length ls.length).getD i 0 ≤ cs.getD i 0 := fun i hi => by
            have := b4 i (by omega)
            rw [pvL_get _ _ _ _ _ hi]
            split
            · have := Int.emod_nonneg (pk.getD i 0) (show cs.getD i 0 + 1 ≠ 0 by omega)
              have := Int.emod_lt_of_pos (pk.getD i 0) (show 0 < cs.getD i 0 + 1 by omega)
              omega
            · omega
          have hlens : ∀ j, j < A.length → (A.getD j []).length = (pvL pk cs ls.length ls.length).length := fun j hj => by rw [hvl, (hfit j hj).ql]
          (repeat' ((conv => whnf); first | (refine Giv.mk fun _ => ?_) | (refine Alt.l (Need.mk ?h ?_); case h => omega) | (refine Alt.r (Need.mk ?h ?_); case h => omega) | (refine Need.mk ?h ?_; case h => first | omega | (intro _; rfl) | assumption | (simp <;> omega)) | refine Ix.zero ?_ | refine Ix.one ?_ | refine Ix.two ?_ | refine Ix.nat ?_ | refine Ix.add ?_ | (apply Go.Eng.Pin.mk; apply Exists.intro) | apply Go.Eng.Pinned.mk rfl rfl | (apply Go.Eng.PinH.mk; apply Exists.intro; apply Exists.intro) | exact Go.Eng.Fin0.mk | refine Go.Eng.Chk.mk ?_ ?_ | refine Own.l ?_ | fail))
          (refine Br.mk (fun _ => ?_) (fun _ => ?_))
          · (repeat' ((conv => whnf); first | (refine Giv.mk fun _ => ?_) | (refine Alt.l (Need.mk ?h ?_); case h => omega) | (refine Alt.r (Need.mk ?h ?_); case h => omega) | (refine Need.mk ?h ?_; case h => first | omega | (intro _; rfl) | assumption | (simp <;> omega)) | refine Ix.zero ?_ | refine Ix.one ?_ | refine Ix.two ?_ | refine Ix.nat ?_ | refine Ix.add ?_ | (apply Go.Eng.Pin.mk; apply Exists.intro) | apply Go.Eng.Pinned.mk rfl rfl | (apply Go.Eng.PinH.mk; apply Exists.intro; apply Exists.intro) | exact Go.Eng.Fin0.mk | refine Go.Eng.Chk.mk ?_ ?_ | refine Own.l ?_ | fail))
            (conv => whnf)
            (repeat' (first | exact trivial | rfl | exact Nat.one_pos | (refine And.intro ?_ ?_) | ((conv => whnf); (refine And.intro ?_ ?_)) | ((conv => whnf); exact trivial)))
          · rename_i g
            have hpf : fitsE ls (pvL pk cs ls.length ls.length) len kerf := Classical.not_not.1 g
            have hex : 0 ≤ S.hasI A (pvL pk cs ls.length ls.length) := by
              obtain ⟨q, hq, hle⟩ := hund _ (fits_fit h0 hvl hvb hpf)
              obtain ⟨j, hj, rfl⟩ := List.getElem_of_mem hq
              have e : A.getD j [] = A[j] := by rw [List.getD_eq_getElem?_getD, List.getElem?_eq_getElem hj]; rfl
              have hlp : S.leP (pvL pk cs ls.length ls.length) (A.getD j []) := fun k hk => by rw [hvl] at hk; rw [e]; exact hle k hk
              apply Classical.byContradiction
              intro hneg
              have hall : ∀ j, j < A.length → ¬ S.leP (pvL pk cs ls.length ls.length) (A.getD j []) := by
                intro j
                induction j using Nat.strongRecOn with
                | _ j ih =>
                  intro hj hl
                  exact hneg (by rw [S.hasI_hit (fun k hk => ih k hk (by omega)) hj hl]; omega)
              exact hall j hj hlp
            (repeat' ((conv => whnf); first | (refine Giv.mk fun _ => ?_) | (refine Alt.l (Need.mk ?h ?_); case h => omega) | (refine Alt.r (Need.mk ?h ?_); case h => omega) | (refine Need.mk ?h ?_; case h => first | omega | (intro _; rfl) | assumption | (simp <;> omega)) | refine Ix.zero ?_ | refine Ix.one ?_ | refine Ix.two ?_ | refine Ix.nat ?_ | refine Ix.add ?_ | (apply Go.Eng.Pin.mk; apply Exists.intro) | apply Go.Eng.Pinned.mk rfl rfl | (apply Go.Eng.PinH.mk; apply Exists.intro; apply Exists.intro) | exact Go.Eng.Fin0.mk | refine Go.Eng.Chk.mk ?_ ?_ | refine Own.l ?_ | fail))
            refine Br.mkY hex ?_
            (repeat' ((conv => whnf); first | (refine Giv.mk fun _ => ?_) | (refine Alt.l (Need.mk ?h ?_); case h => omega) | (refine Alt.r (Need.mk ?h ?_); case h => omega) | (refine Need.mk ?h ?_; case h => first | omega | (intro _; rfl) | assumption | (simp <;> omega)) | refine Ix.zero ?_ | refine Ix.one ?_ | refine Ix.two ?_ | refine Ix.nat ?_ | refine Ix.add ?_ | (apply Go.Eng.Pin.mk; apply Exists.intro) | apply Go.Eng.Pinned.mk rfl rfl | (apply Go.Eng.PinH.mk; apply Exists.intro; apply Exists.intro) | exact Go.Eng.Fin0.mk | refine Go.Eng.Chk.mk ?_ ?_ | refine Own.l ?_ | fail))
            (conv => whnf)
theorem t10 (ls cs : List Int) (len kerf : Int) (pk : List Int) (_ : Okd (.slice (.int .i64)) ls) (_ : Okd (.slice (.int .i64)) cs) (_ : inK .i64 len) (_ : inK .i64 kerf) (_ : Okd (.slice (.int .u8)) pk) : Tri Try.prog true 10 [Ls ls, Ls cs, I len, I kerf, .seq (.int .u8) pk] (.val (.bool true)) :=
  tri_of_body (Γ := [c12, c13, c19, cO20, cS26, cS31, cS32]) (by simp [k12, k13, k19, kO20, kS26, kS31, kS32]) Try.func10 (by simp [Try.ntmps10]) rfl (b10 ls cs len kerf pk)
end PB
end
