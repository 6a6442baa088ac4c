/-
  Part 5: a symbolic executor over the model, contracts of functions and plain laws.
-/
import Derived.Test.YtpmbhgmifiianaaP4
section
set_option linter.unusedVariables false
open Go Go.Proofs Go.Eng Go.Shelf
namespace EB
set_option maxRecDepth 10000
/-! ### erect.Check -/
theorem firstE_zero {f : Nat → Int} {m : Nat} (h : firstE f m = 0) : ∀ j, j < m → f j = 0 := by
  intro i hi
  by_cases hz : f i = 0
  · exact hz
  · exfalso
    have : ∃ j, j < m ∧ f j ≠ 0 ∧ ∀ q, q < j → f q = 0 := by
      induction i using Nat.strongRecOn with
      | _ j ih =>
        by_cases hm : ∀ q, q < j → f q = 0
        · exact ⟨j, hi, hz, hm⟩
        · rw [Classical.not_forall] at hm
          obtain ⟨q, hm⟩ := hm
          rw [Classical.not_imp] at hm
          exact ih q hm.1 (by omega) hm.2
    obtain ⟨j, h1, h2, h3⟩ := this
    rw [firstE_some h1 h2 h3] at h
    exact h2 h
theorem chkE_ok {n : Int} {S : List (Int × Int)} (hn : 0 ≤ n) (h : chkE n S = 0) : ∀ i, i < S.length → (1 ≤ (S.getD i (0, 0)).1 ∧ (S.getD i (0, 0)).1 ≤ 3) ∧ 0 ≤ (S.getD i (0, 0)).2 ∧ (S.getD i (0, 0)).2 < n := by
  intro i hi
  unfold chkE at h
  split at h
  · cases h
  have := firstE_zero h i hi
  unfold chkAt at this
  split at this
  · cases this
  split at this
  · cases this
  omega
/-- What stands, which props, and whether a step was not possible. -/
structure CS where
  st : List Int
  pr : List Int
  err : Bool
def canDo (on : List (List Int)) (rs : List Bool) (c : CS) (x : Int × Int) : Prop :=
  if x.1 = 1 then readyP on c.st x.2 ∧ (rs.getD x.2.toNat false = true ∨ hasW c.pr x.2)
  else if x.1 = 2 then ¬ hasW c.pr x.2
  else hasW c.pr x.2 ∧ (¬ hasW c.st x.2 ∨ rs.getD x.2.toNat false = true)
instance (on : List (List Int)) (rs : List Bool) (c : CS) (x : Int × Int) : Decidable (canDo on rs c x) := by unfold canDo; exact inferInstance
def doStep (on : List (List Int)) (rs : List Bool) (S : List (Int × Int)) (c : CS) (i : Nat) : CS :=
  if c.err = true then c
  else if ¬ canDo on rs c (S.getD i (0, 0)) then ⟨c.st, c.pr, true⟩
  else if (S.getD i (0, 0)).1 = 1 then ⟨putW c.st (S.getD i (0, 0)).2, c.pr, false⟩
  else if (S.getD i (0, 0)).1 = 2 then ⟨c.st, putW c.pr (S.getD i (0, 0)).2, false⟩
  else ⟨c.st, takeW c.pr (S.getD i (0, 0)).2, false⟩
def doAt (on : List (List Int)) (rs : List Bool) (n : Int) (S : List (Int × Int)) (i : Nat) : CS := (List.range i).foldl (doStep on rs S) ⟨words n, words n, false⟩
theorem doAt_succ (on : List (List Int)) (rs : List Bool) (n : Int) (S : List (Int × Int)) (i : Nat) : doAt on rs n S (i + 1) = doStep on rs S (doAt on rs n S i) i := by
  unfold doAt; rw [List.range_succ, List.foldl_append]; rfl
theorem doAt_stay {on : List (List Int)} {rs : List Bool} {n : Int} {S : List (Int × Int)} {i : Nat} (h : (doAt on rs n S i).err = true) : ∀ j, doAt on rs n S (i + j) = doAt on rs n S i
  | 0 => rfl
  | j + 1 => by rw [← Nat.add_assoc, doAt_succ, doAt_stay h j]; unfold doStep; rw [if_pos h]
def endE (n : Int) (c : CS) : Int := if c.err = true then 26 else if ((memsTo c.st (64 * c.st.length)).length : Int) < n then 9 else 0
def checkE (n : Int) (l S : List (Int × Int)) : Int := if ¬ supE n l = 0 then 1 else if ¬ chkE n S = 0 then chkE n S else endE n (doAt (onL n l) (restL n l) n S S.length)
theorem checkE_bad {n : Int} {l S : List (Int × Int)} (h1 : supE n l = 0) (h2 : chkE n S = 0) {i : Nat} (hi : i < S.length) (he : (doAt (onL n l) (restL n l) n S (i + 1)).err = true) : 26 = checkE n l S := by
  obtain ⟨j, hj⟩ := Nat.exists_eq_add_of_le (show i + 1 ≤ S.length from hi)
  have : (doAt (onL n l) (restL n l) n S S.length).err = true := by rw [hj, doAt_stay he, he]
  unfold checkE endE; rw [if_neg (fun e => e h1), if_neg (fun e => e h2), if_pos this]
theorem b16 (n : Int) (l S : List (Int × Int)) : body Try.prog [c43, c46, c47, c48, c49, c51, c52, c53, c54] { asks := [(0, [])] } true Try.f16 [I n, Ps l, Ps S] (I (checkE n l S)) := by
  (repeat' ((conv => whnf); first | (refine Giv.mk fun _ => ?_) | (refine Alt.l (Need.mk ?h ?_); case h => omega) | (refine Alt.r (Need.mk ?h ?_); case h => omega) | (refine Need.mk ?h ?_; case h => first | omega | (intro _; rfl) | assumption | (simp <;> omega)) | refine Ix.zero ?_ | refine Ix.one ?_ | refine Ix.two ?_ | refine Ix.nat ?_ | refine Ix.add ?_ | (apply Go.Eng.Pin.mk; apply Exists.intro) | apply Go.Eng.Pinned.mk rfl rfl | (apply Go.Eng.PinH.mk; apply Exists.intro; apply Exists.intro) | exact Go.Eng.Fin0.mk | refine Go.Eng.Chk.mk ?_ ?_ | refine Own.l ?_ | fail))
  (refine Br.mk (fun _ => ?_) (fun _ => ?_))
  · rename_i h
    (repeat' ((conv => whnf); first | (refine Giv.mk fun _ => ?_) | (refine Alt.l (Need.mk ?h ?_); case h => omega) | (refine Alt.r (Need.mk ?h ?_); case h => omega) | (refine Need.mk ?h ?_; case h => first | omega | (intro _; rfl) | assumption | (simp <;> omega)) | refine Ix.zero ?_ | refine Ix.one ?_ | refine Ix.two ?_ | refine Ix.nat ?_ | refine Ix.add ?_ | (apply Go.Eng.Pin.mk; apply Exists.intro) | apply Go.Eng.Pinned.mk rfl rfl | (apply Go.Eng.PinH.mk; apply Exists.intro; apply Exists.intro) | exact Go.Eng.Fin0.mk | refine Go.Eng.Chk.mk ?_ ?_ | refine Own.l ?_ | fail))
    (conv => whnf)
    exact ⟨rfl, by unfold checkE; rw [if_pos h]⟩
  rename_i h
  have h := Classical.not_not.1 h
  have hro := supE_rests h
  obtain ⟨r1, r2, r3, r4⟩ := id hro
  (repeat' ((conv => whnf); first | (refine Giv.mk fun _ => ?_) | (refine Alt.l (Need.mk ?h ?_); case h => omega) | (refine Alt.r (Need.mk ?h ?_); case h => omega) | (refine Need.mk ?h ?_; case h => first | omega | (intro _; rfl) | assumption | (simp <;> omega)) | refine Ix.zero ?_ | refine Ix.one ?_ | refine Ix.two ?_ | refine Ix.nat ?_ | refine Ix.add ?_ | (apply Go.Eng.Pin.mk; apply Exists.intro) | apply Go.Eng.Pinned.mk rfl rfl | (apply Go.Eng.PinH.mk; apply Exists.intro; apply Exists.intro) | exact Go.Eng.Fin0.mk | refine Go.Eng.Chk.mk ?_ ?_ | refine Own.l ?_ | fail))
  (refine Br.mk (fun _ => ?_) (fun _ => ?_))
  · rename_i hc
    (repeat' ((conv => whnf); first | (refine Giv.mk fun _ => ?_) | (refine Alt.l (Need.mk ?h ?_); case h => omega) | (refine Alt.r (Need.mk ?h ?_); case h => omega) | (refine Need.mk ?h ?_; case h => first | omega | (intro _; rfl) | assumption | (simp <;> omega)) | refine Ix.zero ?_ | refine Ix.one ?_ | refine Ix.two ?_ | refine Ix.nat ?_ | refine Ix.add ?_ | (apply Go.Eng.Pin.mk; apply Exists.intro) | apply Go.Eng.Pinned.mk rfl rfl | (apply Go.Eng.PinH.mk; apply Exists.intro; apply Exists.intro) | exact Go.Eng.Fin0.mk | refine Go.Eng.Chk.mk ?_ ?_ | refine Own.l ?_ | fail))
    (conv => whnf)
    exact ⟨rfl, by unfold checkE; rw [if_neg (fun e => e h), if_pos hc]⟩
  rename_i hc
  have hc := Classical.not_not.1 hc
  have hco := chkE_ok r2 hc
  have hok := onL_ok n l
  have hol := onL_len n l
  have hrl : (restL n l).length = n.toNat := restN_len _ _ _
  (repeat' ((conv => whnf); first | (refine Giv.mk fun _ => ?_) | (refine Alt.l (Need.mk ?h ?_); case h => omega) | (refine Alt.r (Need.mk ?h ?_); case h => omega) | (refine Need.mk ?h ?_; case h => first | omega | (intro _; rfl) | assumption | (simp <;> omega)) | refine Ix.zero ?_ | refine Ix.one ?_ | refine Ix.two ?_ | refine Ix.nat ?_ | refine Ix.add ?_ | (apply Go.Eng.Pin.mk; apply Exists.intro) | apply Go.Eng.Pinned.mk rfl rfl | (apply Go.Eng.PinH.mk; apply Exists.intro; apply Exists.intro) | exact Go.Eng.Fin0.mk | refine Go.Eng.Chk.mk ?_ ?_ | refine Own.l ?_ | fail))
  refine Ask.mk ⟨{ X := Nat, pre := fun i => i ≤ S.length ∧ (doAt (onL n l) (restL n l) n S i).err = false ∧ ((doAt (onL n l) (restL n l) n S i).st.length : Int) = (n + 63) / 64 ∧ ((doAt (onL n l) (restL n l) n S i).pr.length : Int) = (n + 63) / 64, mod := fun i _ => [(34, I i)], heap := fun i _ => [.vec 1 (.int .u64) (doAt (onL n l) (restL n l) n S i).st 103, .vec 1 (.int .u64) (doAt (onL n l) (restL n l) n S i).pr 103, .cells [.seq (.slice (.int .i64)) (onL n l), .seq .bool (restL n l)] 75], mu := fun i => S.length - i }, rfl, ?_⟩
  (repeat' ((conv => whnf); first | (refine Giv.mk fun _ => ?_) | (refine Alt.l (Need.mk ?h ?_); case h => omega) | (refine Alt.r (Need.mk ?h ?_); case h => omega) | (refine Need.mk ?h ?_; case h => first | omega | (intro _; rfl) | assumption | (simp <;> omega)) | refine Ix.zero ?_ | refine Ix.one ?_ | refine Ix.two ?_ | refine Ix.nat ?_ | refine Ix.add ?_ | (apply Go.Eng.Pin.mk; apply Exists.intro) | apply Go.Eng.Pinned.mk rfl rfl | (apply Go.Eng.PinH.mk; apply Exists.intro; apply Exists.intro) | exact Go.Eng.Fin0.mk | refine Go.Eng.Chk.mk ?_ ?_ | refine Own.l ?_ | fail))
  refine ⟨⟨(0 : Nat), ⟨Nat.zero_le _, rfl, words_len n r2, words_len n r2⟩, ?_⟩, fun (i : Nat) hi => ?_⟩
  · (repeat' (first | exact trivial | rfl | exact Nat.one_pos | (refine And.intro ?_ ?_) | omega | ((conv => whnf); (refine And.intro ?_ ?_)) | ((conv => whnf); exact trivial)))
  · obtain ⟨hi, he, hs1, hs2⟩ := hi
    have hst := doAt_succ (onL n l) (restL n l) n S i
    unfold doStep at hst
    rw [if_neg (by rw [he]; simp)] at hst
    (repeat' ((conv => whnf); first | (refine Giv.mk fun _ => ?_) | (refine Alt.l (Need.mk ?h ?_); case h => omega) | (refine Alt.r (Need.mk ?h ?_); case h => omega) | (refine Need.mk ?h ?_; case h => first | omega | (intro _; rfl) | assumption | (simp <;> omega)) | refine Ix.zero ?_ | refine Ix.one ?_ | refine Ix.two ?_ | refine Ix.nat ?_ | refine Ix.add ?_ | (apply Go.Eng.Pin.mk; apply Exists.intro) | apply Go.Eng.Pinned.mk rfl rfl | (apply Go.Eng.PinH.mk; apply Exists.intro; apply Exists.intro) | exact Go.Eng.Fin0.mk | refine Go.Eng.Chk.mk ?_ ?_ | refine Own.l ?_ | fail))
    (refine Br.mk (fun _ => ?_) (fun _ => ?_))
    · have hlt : i < S.length := by omega
      obtain ⟨q1, q2, q3⟩ := hco i hlt
      have bad : ¬ canDo (onL n l) (restL n l) (doAt (onL n l) (restL n l) n S i) (S.getD i (0, 0)) → 26 = checkE n l S := fun hb => checkE_bad h hc hlt (by rw [hst, if_pos hb])
      have arr : ∀ {a b : List Int}, doAt (onL n l) (restL n l) n S (i + 1) = ⟨a, b, false⟩ → (a.length : Int) = (n + 63) / 64 → (b.length : Int) = (n + 63) / 64 → i + 1 ≤ S.length ∧ (doAt (onL n l) (restL n l) n S (i + 1)).err = false ∧ ((doAt (onL n l) (restL n l) n S (i + 1)).st.length : Int) = (n + 63) / 64 ∧ ((doAt (onL n l) (restL n l) n S (i + 1)).pr.length : Int) = (n + 63) / 64 := fun e ha hb => ⟨hlt, by rw [e], by rw [e]; exact ha, by rw [e]; exact hb⟩
      have lp1 := putW_len (doAt (onL n l) (restL n l) n S i).st (S.getD i (0, 0)).2
      have lp2 := putW_len (doAt (onL n l) (restL n l) n S i).pr (S.getD i (0, 0)).2
      have lp3 : (takeW (doAt (onL n l) (restL n l) n S i).pr (S.getD i (0, 0)).2).length = (doAt (onL n l) (restL n l) n S i).pr.length := by simp [takeW]
      have hrl2 : (S.getD i (0, 0)).2.toNat < (restL n l).length := by omega
      (repeat' ((conv => whnf); first | (refine Giv.mk fun _ => ?_) | (refine Alt.l (Need.mk ?h ?_); case h => omega) | (refine Alt.r (Need.mk ?h ?_); case h => omega) | (refine Need.mk ?h ?_; case h => first | omega | (intro _; rfl) | assumption | (simp <;> omega)) | refine Ix.zero ?_ | refine Ix.one ?_ | refine Ix.two ?_ | refine Ix.nat ?_ | refine Ix.add ?_ | (apply Go.Eng.Pin.mk; apply Exists.intro) | apply Go.Eng.Pinned.mk rfl rfl | (apply Go.Eng.PinH.mk; apply Exists.intro; apply Exists.intro) | exact Go.Eng.Fin0.mk | refine Go.Eng.Chk.mk ?_ ?_ | refine Own.l ?_ | fail))
      (refine Br.mk (fun _ => ?_) (fun _ => ?_))
      · rename_i k1
        have hcd : canDo (onL n l) (restL n l) (doAt (onL n l) (restL n l) n S i) (S.getD i (0, 0)) ↔ readyP (onL n l) (doAt (onL n l) (restL n l) n S i).st (S.getD i (0, 0)).2 ∧ ((restL n l).getD (S.getD i (0, 0)).2.toNat false = true ∨ hasW (doAt (onL n l) (restL n l) n S i).pr (S.getD i (0, 0)).2) := by unfold canDo; rw [if_pos k1]
        refine Need.mk ⟨hok, q2, by omega⟩ ?_
        (repeat' ((conv => whnf); first | (refine Giv.mk fun _ => ?_) | (refine Alt.l (Need.mk ?h ?_); case h => omega) | (refine Alt.r (Need.mk ?h ?_); case h => omega) | (refine Need.mk ?h ?_; case h => first | omega | (intro _; rfl) | assumption | (simp <;> omega)) | refine Ix.zero ?_ | refine Ix.one ?_ | refine Ix.two ?_ | refine Ix.nat ?_ | refine Ix.add ?_ | (apply Go.Eng.Pin.mk; apply Exists.intro) | apply Go.Eng.Pinned.mk rfl rfl | (apply Go.Eng.PinH.mk; apply Exists.intro; apply Exists.intro) | exact Go.Eng.Fin0.mk | refine Go.Eng.Chk.mk ?_ ?_ | refine Own.l ?_ | fail))
        (refine Br.mk (fun _ => ?_) (fun _ => ?_))
        · rename_i m1
          (repeat' ((conv => whnf); first | (refine Giv.mk fun _ => ?_) | (refine Alt.l (Need.mk ?h ?_); case h => omega) | (refine Alt.r (Need.mk ?h ?_); case h => omega) | (refine Need.mk ?h ?_; case h => first | omega | (intro _; rfl) | assumption | (simp <;> omega)) | refine Ix.zero ?_ | refine Ix.one ?_ | refine Ix.two ?_ | refine Ix.nat ?_ | refine Ix.add ?_ | (apply Go.Eng.Pin.mk; apply Exists.intro) | apply Go.Eng.Pinned.mk rfl rfl | (apply Go.Eng.PinH.mk; apply Exists.intro; apply Exists.intro) | exact Go.Eng.Fin0.mk | refine Go.Eng.Chk.mk ?_ ?_ | refine Own.l ?_ | fail))
          refine ix_at (S.getD i (0, 0)).2.toNat (by omega) ?_
          (repeat' ((conv => whnf); first | (refine Giv.mk fun _ => ?_) | (refine Alt.l (Need.mk ?h ?_); case h => omega) | (refine Alt.r (Need.mk ?h ?_); case h => omega) | (refine Need.mk ?h ?_; case h => first | omega | (intro _; rfl) | assumption | (simp <;> omega)) | refine Ix.zero ?_ | refine Ix.one ?_ | refine Ix.two ?_ | refine Ix.nat ?_ | refine Ix.add ?_ | (apply Go.Eng.Pin.mk; apply Exists.intro) | apply Go.Eng.Pinned.mk rfl rfl | (apply Go.Eng.PinH.mk; apply Exists.intro; apply Exists.intro) | exact Go.Eng.Fin0.mk | refine Go.Eng.Chk.mk ?_ ?_ | refine Own.l ?_ | fail))
          (refine Br.mk (fun _ => ?_) (fun _ => ?_))
          · rename_i m2
            have e := hst
            rw [if_neg (Classical.not_not.2 (hcd.2 ⟨m1, .inl m2⟩)), if_pos k1] at e
            (repeat' ((conv => whnf); first | (refine Giv.mk fun _ => ?_) | (refine Alt.l (Need.mk ?h ?_); case h => omega) | (refine Alt.r (Need.mk ?h ?_); case h => omega) | (refine Need.mk ?h ?_; case h => first | omega | (intro _; rfl) | assumption | (simp <;> omega)) | refine Ix.zero ?_ | refine Ix.one ?_ | refine Ix.two ?_ | refine Ix.nat ?_ | refine Ix.add ?_ | (apply Go.Eng.Pin.mk; apply Exists.intro) | apply Go.Eng.Pinned.mk rfl rfl | (apply Go.Eng.PinH.mk; apply Exists.intro; apply Exists.intro) | exact Go.Eng.Fin0.mk | refine Go.Eng.Chk.mk ?_ ?_ | refine Own.l ?_ | fail))
            refine ⟨(i + 1 : Nat), by show S.length - (i + 1) < S.length - i; omega, arr e (by omega) (by omega), ?_⟩
            (repeat' (first | exact trivial | rfl | exact Nat.one_pos | (refine And.intro ?_ ?_) | omega | ((conv => whnf); (refine And.intro ?_ ?_)) | ((conv => whnf); exact trivial)))
            · exact (congrArg CS.st e).symm
            · exact (congrArg CS.pr e).symm
          · rename_i m2
            (repeat' ((conv => whnf); first | (refine Giv.mk fun _ => ?_) | (refine Alt.l (Need.mk ?h ?_); case h => omega) | (refine Alt.r (Need.mk ?h ?_); case h => omega) | (refine Need.mk ?h ?_; case h => first | omega | (intro _; rfl) | assumption | (simp <;> omega)) | refine Ix.zero ?_ | refine Ix.one ?_ | refine Ix.two ?_ | refine Ix.nat ?_ | refine Ix.add ?_ | (apply Go.Eng.Pin.mk; apply Exists.intro) | apply Go.Eng.Pinned.mk rfl rfl | (apply Go.Eng.PinH.mk; apply Exists.intro; apply Exists.intro) | exact Go.Eng.Fin0.mk | refine Go.Eng.Chk.mk ?_ ?_ | refine Own.l ?_ | fail))
            (refine Br.mk (fun _ => ?_) (fun _ => ?_))
            · rename_i m3
              (repeat' ((conv => whnf); first | (refine Giv.mk fun _ => ?_) | (refine Alt.l (Need.mk ?h ?_); case h => omega) | (refine Alt.r (Need.mk ?h ?_); case h => omega) | (refine Need.mk ?h ?_; case h => first | omega | (intro _; rfl) | assumption | (simp <;> omega)) | refine Ix.zero ?_ | refine Ix.one ?_ | refine Ix.two ?_ | refine Ix.nat ?_ | refine Ix.add ?_ | (apply Go.Eng.Pin.mk; apply Exists.intro) | apply Go.Eng.Pinned.mk rfl rfl | (apply Go.Eng.PinH.mk; apply Exists.intro; apply Exists.intro) | exact Go.Eng.Fin0.mk | refine Go.Eng.Chk.mk ?_ ?_ | refine Own.l ?_ | fail))
              (conv => whnf)
              exact ⟨rfl, bad fun e => by exact (hcd.1 e).2.elim m2 m3⟩
            · rename_i m3
              have m3 := Classical.not_not.1 m3
              have e := hst
              rw [if_neg (Classical.not_not.2 (hcd.2 ⟨m1, .inr m3⟩)), if_pos k1] at e
              (repeat' ((conv => whnf); first | (refine Giv.mk fun _ => ?_) | (refine Alt.l (Need.mk ?h ?_); case h => omega) | (refine Alt.r (Need.mk ?h ?_); case h => omega) | (refine Need.mk ?h ?_; case h => first | omega | (intro _; rfl) | assumption | (simp <;> omega)) | refine Ix.zero ?_ | refine Ix.one ?_ | refine Ix.two ?_ | refine Ix.nat ?_ | refine Ix.add ?_ | (apply Go.Eng.Pin.mk; apply Exists.intro) | apply Go.Eng.Pinned.mk rfl rfl | (apply Go.Eng.PinH.mk; apply Exists.intro; apply Exists.intro) | exact Go.Eng.Fin0.mk | refine Go.Eng.Chk.mk ?_ ?_ | refine Own.l ?_ | fail))
              refine ⟨(i + 1 : Nat), by show S.length - (i + 1) < S.length - i; omega, arr e (by omega) (by omega), ?_⟩
              (repeat' (first | exact trivial | rfl | exact Nat.one_pos | (refine And.intro ?_ ?_) | omega | ((conv => whnf); (refine And.intro ?_ ?_)) | ((conv => whnf); exact trivial)))
              · exact (congrArg CS.st e).symm
              · exact (congrArg CS.pr e).symm
        · rename_i m1
          (repeat' ((conv => whnf); first | (refine Giv.mk fun _ => ?_) | (refine Alt.l (Need.mk ?h ?_); case h => omega) | (refine Alt.r (Need.mk ?h ?_); case h => omega) | (refine Need.mk ?h ?_; case h => first | omega | (intro _; rfl) | assumption | (simp <;> omega)) | refine Ix.zero ?_ | refine Ix.one ?_ | refine Ix.two ?_ | refine Ix.nat ?_ | refine Ix.add ?_ | (apply Go.Eng.Pin.mk; apply Exists.intro) | apply Go.Eng.Pinned.mk rfl rfl | (apply Go.Eng.PinH.mk; apply Exists.intro; apply Exists.intro) | exact Go.Eng.Fin0.mk | refine Go.Eng.Chk.mk ?_ ?_ | refine Own.l ?_ | fail))
          (conv => whnf)
          exact ⟨rfl, bad fun e => m1 (hcd.1 e).1⟩
      · rename_i k1
        (repeat' ((conv => whnf); first | (refine Giv.mk fun _ => ?_) | (refine Alt.l (Need.mk ?h ?_); case h => omega) | (refine Alt.r (Need.mk ?h ?_); case h => omega) | (refine Need.mk ?h ?_; case h => first | omega | (intro _; rfl) | assumption | (simp <;> omega)) | refine Ix.zero ?_ | refine Ix.one ?_ | refine Ix.two ?_ | refine Ix.nat ?_ | refine Ix.add ?_ | (apply Go.Eng.Pin.mk; apply Exists.intro) | apply Go.Eng.Pinned.mk rfl rfl | (apply Go.Eng.PinH.mk; apply Exists.intro; apply Exists.intro) | exact Go.Eng.Fin0.mk | refine Go.Eng.Chk.mk ?_ ?_ | refine Own.l ?_ | fail))
        (refine Br.mk (fun _ => ?_) (fun _ => ?_))
        · rename_i k2
          have hcd : canDo (onL n l) (restL n l) (doAt (onL n l) (restL n l) n S i) (S.getD i (0, 0)) ↔ ¬ hasW (doAt (onL n l) (restL n l) n S i).pr (S.getD i (0, 0)).2 := by unfold canDo; rw [if_neg k1, if_pos k2]
          (repeat' ((conv => whnf); first | (refine Giv.mk fun _ => ?_) | (refine Alt.l (Need.mk ?h ?_); case h => omega) | (refine Alt.r (Need.mk ?h ?_); case h => omega) | (refine Need.mk ?h ?_; case h => first | omega | (intro _; rfl) | assumption | (simp <;> omega)) | refine Ix.zero ?_ | refine Ix.one ?_ | refine Ix.two ?_ | refine Ix.nat ?_ | refine Ix.add ?_ | (apply Go.Eng.Pin.mk; apply Exists.intro) | apply Go.Eng.Pinned.mk rfl rfl | (apply Go.Eng.PinH.mk; apply Exists.intro; apply Exists.intro) | exact Go.Eng.Fin0.mk | refine Go.Eng.Chk.mk ?_ ?_ | refine Own.l ?_ | fail))
          (refine Br.mk (fun _ => ?_) (fun _ => ?_))
          · rename_i m1
            (repeat' ((conv => whnf); first | (refine Giv.mk fun _ => ?_) | (refine Alt.l (Need.mk ?h ?_); case h => omega) | (refine Alt.r (Need.mk ?h ?_); case h => omega) | (refine Need.mk ?h ?_; case h => first | omega | (intro _; rfl) | assumption | (simp <;> omega)) | refine Ix.zero ?_ | refine Ix.one ?_ | refine Ix.two ?_ | refine Ix.nat ?_ | refine Ix.add ?_ | (apply Go.Eng.Pin.mk; apply Exists.intro) | apply Go.Eng.Pinned.mk rfl rfl | (apply Go.Eng.PinH.mk; apply Exists.intro; apply Exists.intro) | exact Go.Eng.Fin0.mk | refine Go.Eng.Chk.mk ?_ ?_ | refine Own.l ?_ | fail))
            (conv => whnf)
            exact ⟨rfl, bad fun e => m1 (hcd.1 e)⟩
          · rename_i m1
            have m1 := Classical.not_not.1 m1
            have e := hst
            rw [if_neg (Classical.not_not.2 (hcd.2 m1)), if_neg k1, if_pos k2] at e
            (repeat' ((conv => whnf); first | (refine Giv.mk fun _ => ?_) | (refine Alt.l (Need.mk ?h ?_); case h => omega) | (refine Alt.r (Need.mk ?h ?_); case h => omega) | (refine Need.mk ?h ?_; case h => first | omega | (intro _; rfl) | assumption | (simp <;> omega)) | refine Ix.zero ?_ | refine Ix.one ?_ | refine Ix.two ?_ | refine Ix.nat ?_ | refine Ix.add ?_ | (apply Go.Eng.Pin.mk; apply Exists.intro) | apply Go.Eng.Pinned.mk rfl rfl | (apply Go.Eng.PinH.mk; apply Exists.intro; apply Exists.intro) | exact Go.Eng.Fin0.mk | refine Go.Eng.Chk.mk ?_ ?_ | refine Own.l ?_ | fail))
            refine ⟨(i + 1 : Nat), by show S.length - (i + 1) < S.length - i; omega, arr e (by omega) (by omega), ?_⟩
            (repeat' (first | exact trivial | rfl | exact Nat.one_pos | (refine And.intro ?_ ?_) | omega | ((conv => whnf); (refine And.intro ?_ ?_)) | ((conv => whnf); exact trivial)))
            · exact (congrArg CS.st e).symm
            · exact (congrArg CS.pr e).symm
        · rename_i k2
          have hcd : canDo (onL n l) (restL n l) (doAt (onL n l) (restL n l) n S i) (S.getD i (0, 0)) ↔ hasW (doAt (onL n l) (restL n l) n S i).pr (S.getD i (0, 0)).2 ∧ (¬ hasW (doAt (onL n l) (restL n l) n S i).st (S.getD i (0, 0)).2 ∨ (restL n l).getD (S.getD i (0, 0)).2.toNat false = true) := by unfold canDo; rw [if_neg k1, if_neg k2]
          (repeat' ((conv => whnf); first | (refine Giv.mk fun _ => ?_) | (refine Alt.l (Need.mk ?h ?_); case h => omega) | (refine Alt.r (Need.mk ?h ?_); case h => omega) | (refine Need.mk ?h ?_; case h => first | omega | (intro _; rfl) | assumption | (simp <;> omega)) | refine Ix.zero ?_ | refine Ix.one ?_ | refine Ix.two ?_ | refine Ix.nat ?_ | refine Ix.add ?_ | (apply Go.Eng.Pin.mk; apply Exists.intro) | apply Go.Eng.Pinned.mk rfl rfl | (apply Go.Eng.PinH.mk; apply Exists.intro; apply Exists.intro) | exact Go.Eng.Fin0.mk | refine Go.Eng.Chk.mk ?_ ?_ | refine Own.l ?_ | fail))
          (refine Br.mk (fun _ => ?_) (fun _ => ?_))
          · rename_i m1
            (repeat' ((conv => whnf); first | (refine Giv.mk fun _ => ?_) | (refine Alt.l (Need.mk ?h ?_); case h => omega) | (refine Alt.r (Need.mk ?h ?_); case h => omega) | (refine Need.mk ?h ?_; case h => first | omega | (intro _; rfl) | assumption | (simp <;> omega)) | refine Ix.zero ?_ | refine Ix.one ?_ | refine Ix.two ?_ | refine Ix.nat ?_ | refine Ix.add ?_ | (apply Go.Eng.Pin.mk; apply Exists.intro) | apply Go.Eng.Pinned.mk rfl rfl | (apply Go.Eng.PinH.mk; apply Exists.intro; apply Exists.intro) | exact Go.Eng.Fin0.mk | refine Go.Eng.Chk.mk ?_ ?_ | refine Own.l ?_ | fail))
            (refine Br.mk (fun _ => ?_) (fun _ => ?_))
            · rename_i m2
              have e := hst
              rw [if_neg (Classical.not_not.2 (hcd.2 ⟨m1, .inl m2⟩)), if_neg k1, if_neg k2] at e
              (repeat' ((conv => whnf); first | (refine Giv.mk fun _ => ?_) | (refine Alt.l (Need.mk ?h ?_); case h => omega) | (refine Alt.r (Need.mk ?h ?_); case h => omega) | (refine Need.mk ?h ?_; case h => first | omega | (intro _; rfl) | assumption | (simp <;> omega)) | refine Ix.zero ?_ | refine Ix.one ?_ | refine Ix.two ?_ | refine Ix.nat ?_ | refine Ix.add ?_ | (apply Go.Eng.Pin.mk; apply Exists.intro) | apply Go.Eng.Pinned.mk rfl rfl | (apply Go.Eng.PinH.mk; apply Exists.intro; apply Exists.intro) | exact Go.Eng.Fin0.mk | refine Go.Eng.Chk.mk ?_ ?_ | refine Own.l ?_ | fail))
              refine ⟨(i + 1 : Nat), by show S.length - (i + 1) < S.length - i; omega, arr e (by omega) (by omega), ?_⟩
              (repeat' (first | exact trivial | rfl | exact Nat.one_pos | (refine And.intro ?_ ?_) | omega | ((conv => whnf); (refine And.intro ?_ ?_)) | ((conv => whnf); exact trivial)))
              · exact (congrArg CS.st e).symm
              · exact (congrArg CS.pr e).symm
            · rename_i m2
              have m2 := Classical.not_not.1 m2
              (repeat' ((conv => whnf); first | (refine Giv.mk fun _ => ?_) | (refine Alt.l (Need.mk ?h ?_); case h => omega) | (refine Alt.r (Need.mk ?h ?_); case h => omega) | (refine Need.mk ?h ?_; case h => first | omega | (intro _; rfl) | assumption | (simp <;> omega)) | refine Ix.zero ?_ | refine Ix.one ?_ | refine Ix.two ?_ | refine Ix.nat ?_ | refine Ix.add ?_ | (apply Go.Eng.Pin.mk; apply Exists.intro) | apply Go.Eng.Pinned.mk rfl rfl | (apply Go.Eng.PinH.mk; apply Exists.intro; apply Exists.intro) | exact Go.Eng.Fin0.mk | refine Go.Eng.Chk.mk ?_ ?_ | refine Own.l ?_ | fail))
              refine ix_at (S.getD i (0, 0)).2.toNat (by omega) ?_
              (repeat' ((conv => whnf); first | (refine Giv.mk fun _ => ?_) | (refine Alt.l (Need.mk ?h ?_); case h => omega) | (refine Alt.r (Need.mk ?h ?_); case h => omega) | (refine Need.mk ?h ?_; case h => first | omega | (intro _; rfl) | assumption | (simp <;> omega)) | refine Ix.zero ?_ | refine Ix.one ?_ | refine Ix.two ?_ | refine Ix.nat ?_ | refine Ix.add ?_ | (apply Go.Eng.Pin.mk; apply Exists.intro) | apply Go.Eng.Pinned.mk rfl rfl | (apply Go.Eng.PinH.mk; apply Exists.intro; apply Exists.intro) | exact Go.Eng.Fin0.mk | refine Go.Eng.Chk.mk ?_ ?_ | refine Own.l ?_ | fail))
              (refine Br.mk (fun _ => ?_) (fun _ => ?_))
              · rename_i m3
                (repeat' ((conv => whnf); first | (refine Giv.mk fun _ => ?_) | (refine Alt.l (Need.mk ?h ?_); case h => omega) | (refine Alt.r (Need.mk ?h ?_); case h => omega) | (refine Need.mk ?h ?_; case h => first | omega | (intro _; rfl) | assumption | (simp <;> omega)) | refine Ix.zero ?_ | refine Ix.one ?_ | refine Ix.two ?_ | refine Ix.nat ?_ | refine Ix.add ?_ | (apply Go.Eng.Pin.mk; apply Exists.intro) | apply Go.Eng.Pinned.mk rfl rfl | (apply Go.Eng.PinH.mk; apply Exists.intro; apply Exists.intro) | exact Go.Eng.Fin0.mk | refine Go.Eng.Chk.mk ?_ ?_ | refine Own.l ?_ | fail))
                (conv => whnf)
                exact ⟨rfl, bad fun e => by exact (hcd.1 e).2.elim (fun h => h m2) m3⟩
              · rename_i m3
                have m3 := Classical.not_not.1 m3
                have e := hst
                rw [if_neg (Classical.not_not.2 (hcd.2 ⟨m1, .inr m3⟩)), if_neg k1, if_neg k2] at e
                (repeat' ((conv => whnf); first | (refine Giv.mk fun _ => ?_) | (refine Alt.l (Need.mk ?h ?_); case h => omega) | (refine Alt.r (Need.mk ?h ?_); case h => omega) | (refine Need.mk ?h ?_; case h => first | omega | (intro _; rfl) | assumption | (simp <;> omega)) | refine Ix.zero ?_ | refine Ix.one ?_ | refine Ix.two ?_ | refine Ix.nat ?_ | refine Ix.add ?_ | (apply Go.Eng.Pin.mk; apply Exists.intro) | apply Go.Eng.Pinned.mk rfl rfl | (apply Go.Eng.PinH.mk; apply Exists.intro; apply Exists.intro) | exact Go.Eng.Fin0.mk | refine Go.Eng.Chk.mk ?_ ?_ | refine Own.l ?_ | fail))
                refine ⟨(i + 1 : Nat), by show S.length - (i + 1) < S.length - i; omega, arr e (by omega) (by omega), ?_⟩
                (repeat' (first | exact trivial | rfl | exact Nat.one_pos | (refine And.intro ?_ ?_) | omega | ((conv => whnf); (refine And.intro ?_ ?_)) | ((conv => whnf); exact trivial)))
                · exact (congrArg CS.st e).symm
                · exact (congrArg CS.pr e).symm
          · rename_i m1
            (repeat' ((conv => whnf); first | (refine Giv.mk fun _ => ?_) | (refine Alt.l (Need.mk ?h ?_); case h => omega) | (refine Alt.r (Need.mk ?h ?_); case h => omega) | (refine Need.mk ?h ?_; case h => first | omega | (intro _; rfl) | assumption | (simp <;> omega)) | refine Ix.zero ?_ | refine Ix.one ?_ | refine Ix.two ?_ | refine Ix.nat ?_ | refine Ix.add ?_ | (apply Go.Eng.Pin.mk; apply Exists.intro) | apply Go.Eng.Pinned.mk rfl rfl | (apply Go.Eng.PinH.mk; apply Exists.intro; apply Exists.intro) | exact Go.Eng.Fin0.mk | refine Go.Eng.Chk.mk ?_ ?_ | refine Own.l ?_ | fail))
            (conv => whnf)
            exact ⟨rfl, bad fun e => m1 (hcd.1 e).1⟩
    · have hii : i = S.length := by omega
      subst hii
      have hend : checkE n l S = endE n (doAt (onL n l) (restL n l) n S S.length) := by unfold checkE; rw [if_neg (fun e => e h), if_neg (fun e => e hc)]
      (repeat' ((conv => whnf); first | (refine Giv.mk fun _ => ?_) | (refine Alt.l (Need.mk ?h ?_); case h => omega) | (refine Alt.r (Need.mk ?h ?_); case h => omega) | (refine Need.mk ?h ?_; case h => first | omega | (intro _; rfl) | assumption | (simp <;> omega)) | refine Ix.zero ?_ | refine Ix.one ?_ | refine Ix.two ?_ | refine Ix.nat ?_ | refine Ix.add ?_ | (apply Go.Eng.Pin.mk; apply Exists.intro) | apply Go.Eng.Pinned.mk rfl rfl | (apply Go.Eng.PinH.mk; apply Exists.intro; apply Exists.intro) | exact Go.Eng.Fin0.mk | refine Go.Eng.Chk.mk ?_ ?_ | refine Own.l ?_ | fail))
      (refine Br.mk (fun _ => ?_) (fun _ => ?_))
      · rename_i hx
        (repeat' ((conv => whnf); first | (refine Giv.mk fun _ => ?_) | (refine Alt.l (Need.mk ?h ?_); case h => omega) | (refine Alt.r (Need.mk ?h ?_); case h => omega) | (refine Need.mk ?h ?_; case h => first | omega | (intro _; rfl) | assumption | (simp <;> omega)) | refine Ix.zero ?_ | refine Ix.one ?_ | refine Ix.two ?_ | refine Ix.nat ?_ | refine Ix.add ?_ | (apply Go.Eng.Pin.mk; apply Exists.intro) | apply Go.Eng.Pinned.mk rfl rfl | (apply Go.Eng.PinH.mk; apply Exists.intro; apply Exists.intro) | exact Go.Eng.Fin0.mk | refine Go.Eng.Chk.mk ?_ ?_ | refine Own.l ?_ | fail))
        (conv => whnf)
        exact ⟨rfl, by rw [hend]; unfold endE; rw [if_neg (by rw [he]; simp), if_pos hx]⟩
      · rename_i hx
        (repeat' ((conv => whnf); first | (refine Giv.mk fun _ => ?_) | (refine Alt.l (Need.mk ?h ?_); case h => omega) | (refine Alt.r (Need.mk ?h ?_); case h => omega) | (refine Need.mk ?h ?_; case h => first | omega | (intro _; rfl) | assumption | (simp <;> omega)) | refine Ix.zero ?_ | refine Ix.one ?_ | refine Ix.two ?_ | refine Ix.nat ?_ | refine Ix.add ?_ | (apply Go.Eng.Pin.mk; apply Exists.intro) | apply Go.Eng.Pinned.mk rfl rfl | (apply Go.Eng.PinH.mk; apply Exists.intro; apply Exists.intro) | exact Go.Eng.Fin0.mk | refine Go.Eng.Chk.mk ?_ ?_ | refine Own.l ?_ | fail))
        (conv => whnf)
        exact ⟨rfl, by rw [hend]; unfold endE; rw [if_neg (by rw [he]; simp), if_neg hx]⟩
def c16 : Con := mkCon 16 true fun args K => match args with | [.val (.int .i64 n), .seq (.pair (.int .i64) (.int .i64)) l, .seq (.pair (.int .i64) (.int .i64)) S] => K (I (checkE n l S)) | _ => False
theorem k16 : ConOK Try.prog c16 := by
  refine conOK_of rfl (enters_of Try.func16 (by kernel_rfl) rfl) ?_
  intro args K h
  simp only [c16] at h
  split at h
  · rename_i n l S; exact ⟨_, h, tri_of_body (Γ := [c43, c46, c47, c48, c49, c51, c52, c53, c54]) (by simp [k43, k46, k47, k48, k49, k51, k52, k53, k54]) Try.func16 (by simp [Try.ntmps16]) rfl (b16 n l S)⟩
  · exact h.elim
end EB
end
section
set_option linter.unusedVariables false
open Go Go.Proofs Go.Eng Go.Shelf
namespace EB
set_option maxRecDepth 10000
/-! ### Members that rest on nothing -/
theorem b55 (a b m : Int) : body Try.prog [] {} true Try.f55 [.agg [I a, I b], .lelem [I m] 0] (.bl (a = m) inferInstance) := by
  (repeat' ((conv => whnf); first | (refine Giv.mk fun _ => ?_) | (refine Alt.l (Need.mk ?h ?_); case h => omega) | (refine Alt.r (Need.mk ?h ?_); case h => omega) | (refine Need.mk ?h ?_; case h => first | omega | (intro _; rfl) | assumption | (simp <;> omega)) | refine Ix.zero ?_ | refine Ix.one ?_ | refine Ix.two ?_ | refine Ix.nat ?_ | refine Ix.add ?_ | (apply Go.Eng.Pin.mk; apply Exists.intro) | apply Go.Eng.Pinned.mk rfl rfl | (apply Go.Eng.PinH.mk; apply Exists.intro; apply Exists.intro) | exact Go.Eng.Fin0.mk | refine Go.Eng.Chk.mk ?_ ?_ | refine Own.l ?_ | fail))
  (conv => whnf)
def c55 : Con := mkCon 55 true fun args K => match args with | [.agg [.val (.int .i64 a), .val (.int .i64 b)], .lelem [.val (.int .i64 m)] 0] => K (.bl (a = m) inferInstance) | _ => False
theorem k55 : ConOK Try.prog c55 := by
  refine conOK_of rfl (enters_of Try.func55 (by kernel_rfl) rfl) ?_
  intro args K h
  simp only [c55] at h
  split at h
  · rename_i a b m; exact ⟨_, h, tri_of_body (Γ := []) (by simp) Try.func55 (by simp [Try.ntmps55]) rfl (b55 a b m)⟩
  · exact h.elim
def upP (m : Int) (r : Int × Int) : Bool := decide (r.1 = m)
theorem b65 (xs : List (Int × Int)) (m : Int) : body Try.prog [c55] { loops := [(0, anIx 8 (upP m) xs (0, 0))] } false Try.f65 [Ps xs, .clo 55 [] [.lelem [I m] 0]] (I (idxOf (upP m) xs)) := by
  (repeat' ((conv => whnf); first | (refine Giv.mk fun _ => ?_) | (refine Alt.l (Need.mk ?h ?_); case h => omega) | (refine Alt.r (Need.mk ?h ?_); case h => omega) | (refine Need.mk ?h ?_; case h => first | omega | (intro _; rfl) | assumption | (simp <;> omega)) | refine Ix.zero ?_ | refine Ix.one ?_ | refine Ix.two ?_ | refine Ix.nat ?_ | refine Ix.add ?_ | (apply Go.Eng.Pin.mk; apply Exists.intro) | apply Go.Eng.Pinned.mk rfl rfl | (apply Go.Eng.PinH.mk; apply Exists.intro; apply Exists.intro) | exact Go.Eng.Fin0.mk | refine Go.Eng.Chk.mk ?_ ?_ | refine Own.l ?_ | fail))
  refine ⟨⟨(0 : Nat), ⟨Nat.zero_le _, fun j hj => absurd hj (Nat.not_lt_zero _)⟩, by (repeat' (first | exact trivial | rfl | exact Nat.one_pos | (refine And.intro ?_ ?_) | omega | ((conv => whnf); (refine And.intro ?_ ?_)) | ((conv => whnf); exact trivial)))⟩, fun (i : Nat) hi => ?_⟩
  obtain ⟨hi, hb⟩ := hi
  (repeat' ((conv => whnf); first | (refine Giv.mk fun _ => ?_) | (refine Alt.l (Need.mk ?h ?_); case h => omega) | (refine Alt.r (Need.mk ?h ?_); case h => omega) | (refine Need.mk ?h ?_; case h => first | omega | (intro _; rfl) | assumption | (simp <;> omega)) | refine Ix.zero ?_ | refine Ix.one ?_ | refine Ix.two ?_ | refine Ix.nat ?_ | refine Ix.add ?_ | (apply Go.Eng.Pin.mk; apply Exists.intro) | apply Go.Eng.Pinned.mk rfl rfl | (apply Go.Eng.PinH.mk; apply Exists.intro; apply Exists.intro) | exact Go.Eng.Fin0.mk | refine Go.Eng.Chk.mk ?_ ?_ | refine Own.l ?_ | fail))
  (refine Br.mk (fun _ => ?_) (fun _ => ?_))
  · have hlt : i < xs.length := by omega
    (repeat' ((conv => whnf); first | (refine Giv.mk fun _ => ?_) | (refine Alt.l (Need.mk ?h ?_); case h => omega) | (refine Alt.r (Need.mk ?h ?_); case h => omega) | (refine Need.mk ?h ?_; case h => first | omega | (intro _; rfl) | assumption | (simp <;> omega)) | refine Ix.zero ?_ | refine Ix.one ?_ | refine Ix.two ?_ | refine Ix.nat ?_ | refine Ix.add ?_ | (apply Go.Eng.Pin.mk; apply Exists.intro) | apply Go.Eng.Pinned.mk rfl rfl | (apply Go.Eng.PinH.mk; apply Exists.intro; apply Exists.intro) | exact Go.Eng.Fin0.mk | refine Go.Eng.Chk.mk ?_ ?_ | refine Own.l ?_ | fail))
    (refine Br.mk (fun _ => ?_) (fun _ => ?_))
    · rename_i hh
      (repeat' ((conv => whnf); first | (refine Giv.mk fun _ => ?_) | (refine Alt.l (Need.mk ?h ?_); case h => omega) | (refine Alt.r (Need.mk ?h ?_); case h => omega) | (refine Need.mk ?h ?_; case h => first | omega | (intro _; rfl) | assumption | (simp <;> omega)) | refine Ix.zero ?_ | refine Ix.one ?_ | refine Ix.two ?_ | refine Ix.nat ?_ | refine Ix.add ?_ | (apply Go.Eng.Pin.mk; apply Exists.intro) | apply Go.Eng.Pinned.mk rfl rfl | (apply Go.Eng.PinH.mk; apply Exists.intro; apply Exists.intro) | exact Go.Eng.Fin0.mk | refine Go.Eng.Chk.mk ?_ ?_ | refine Own.l ?_ | fail))
      (conv => whnf)
      exact ⟨rfl, (idxOf_some (0, 0) hlt (decide_eq_true hh) hb).symm⟩
    · rename_i hh
      (repeat' ((conv => whnf); first | (refine Giv.mk fun _ => ?_) | (refine Alt.l (Need.mk ?h ?_); case h => omega) | (refine Alt.r (Need.mk ?h ?_); case h => omega) | (refine Need.mk ?h ?_; case h => first | omega | (intro _; rfl) | assumption | (simp <;> omega)) | refine Ix.zero ?_ | refine Ix.one ?_ | refine Ix.two ?_ | refine Ix.nat ?_ | refine Ix.add ?_ | (apply Go.Eng.Pin.mk; apply Exists.intro) | apply Go.Eng.Pinned.mk rfl rfl | (apply Go.Eng.PinH.mk; apply Exists.intro; apply Exists.intro) | exact Go.Eng.Fin0.mk | refine Go.Eng.Chk.mk ?_ ?_ | refine Own.l ?_ | fail))
      refine ⟨(i + 1 : Nat), by show xs.length - (i + 1) < xs.length - i; omega, ⟨hlt, fun j hj => ?_⟩, by (repeat' (first | exact trivial | rfl | exact Nat.one_pos | (refine And.intro ?_ ?_) | omega | ((conv => whnf); (refine And.intro ?_ ?_)) | ((conv => whnf); exact trivial)))⟩
      by_cases e : j = i
      · subst e; exact decide_eq_false hh
      · exact hb j (by omega)
  · have hii : i = xs.length := by omega
    subst hii
    (repeat' ((conv => whnf); first | (refine Giv.mk fun _ => ?_) | (refine Alt.l (Need.mk ?h ?_); case h => omega) | (refine Alt.r (Need.mk ?h ?_); case h => omega) | (refine Need.mk ?h ?_; case h => first | omega | (intro _; rfl) | assumption | (simp <;> omega)) | refine Ix.zero ?_ | refine Ix.one ?_ | refine Ix.two ?_ | refine Ix.nat ?_ | refine Ix.add ?_ | (apply Go.Eng.Pin.mk; apply Exists.intro) | apply Go.Eng.Pinned.mk rfl rfl | (apply Go.Eng.PinH.mk; apply Exists.intro; apply Exists.intro) | exact Go.Eng.Fin0.mk | refine Go.Eng.Chk.mk ?_ ?_ | refine Own.l ?_ | fail))
    (conv => whnf)
    exact ⟨rfl, (idxOf_none (0, 0) hb).symm⟩
def c65 : Con := mkCon 65 false fun args K => match args with | [.seq (.pair (.int .i64) (.int .i64)) xs, .clo 55 [] [.lelem [.val (.int .i64 m)] 0]] => K (I (idxOf (upP m) xs)) | _ => False
theorem k65 : ConOK Try.prog c65 := by
  refine conOK_of rfl (enters_of Try.func65 (by kernel_rfl) rfl) ?_
  intro args K h
  simp only [c65] at h
  split at h
  · rename_i xs m; exact ⟨_, h, tri_of_body (Γ := [c55]) (by simp [k55]) Try.func65 (by simp [Try.ntmps65]) rfl (b65 xs m)⟩
  · exact h.elim
theorem b40 (xs : List (Int × Int)) (m : Int) : body Try.prog [c65] {} false Try.f40 [Ps xs, .clo 55 [] [.lelem [I m] 0]] (.bl (xs.any (upP m) = true) inferInstance) := by
  (repeat' ((conv => whnf); first | (refine Giv.mk fun _ => ?_) | (refine Alt.l (Need.mk ?h ?_); case h => omega) | (refine Alt.r (Need.mk ?h ?_); case h => omega) | (refine Need.mk ?h ?_; case h => first | omega | (intro _; rfl) | assumption | (simp <;> omega)) | refine Ix.zero ?_ | refine Ix.one ?_ | refine Ix.two ?_ | refine Ix.nat ?_ | refine Ix.add ?_ | (apply Go.Eng.Pin.mk; apply Exists.intro) | apply Go.Eng.Pinned.mk rfl rfl | (apply Go.Eng.PinH.mk; apply Exists.intro; apply Exists.intro) | exact Go.Eng.Fin0.mk | refine Go.Eng.Chk.mk ?_ ?_ | refine Own.l ?_ | fail))
  (conv => whnf)
  exact idxOf_pos _ _
def c40 : Con := mkCon 40 false fun args K => match args with | [.seq (.pair (.int .i64) (.int .i64)) xs, .clo 55 [] [.lelem [.val (.int .i64 m)] 0]] => K (.bl (xs.any (upP m) = true) inferInstance) | _ => False
theorem k40 : ConOK Try.prog c40 := by
  refine conOK_of rfl (enters_of Try.func40 (by kernel_rfl) rfl) ?_
  intro args K h
  simp only [c40] at h
  split at h
  · rename_i xs m; exact ⟨_, h, tri_of_body (Γ := [c65]) (by simp [k65]) Try.func40 (by simp [Try.ntmps40]) rfl (b40 xs m)⟩
  · exact h.elim
theorem b17 (xs : List (Int × Int)) (m : Int) : body Try.prog [c40] {} true Try.f17 [Ps xs, I m] (.bl (¬ xs.any (upP m) = true) inferInstance) := by
  (repeat' ((conv => whnf); first | (refine Giv.mk fun _ => ?_) | (refine Alt.l (Need.mk ?h ?_); case h => omega) | (refine Alt.r (Need.mk ?h ?_); case h => omega) | (refine Need.mk ?h ?_; case h => first | omega | (intro _; rfl) | assumption | (simp <;> omega)) | refine Ix.zero ?_ | refine Ix.one ?_ | refine Ix.two ?_ | refine Ix.nat ?_ | refine Ix.add ?_ | (apply Go.Eng.Pin.mk; apply Exists.intro) | apply Go.Eng.Pinned.mk rfl rfl | (apply Go.Eng.PinH.mk; apply Exists.intro; apply Exists.intro) | exact Go.Eng.Fin0.mk | refine Go.Eng.Chk.mk ?_ ?_ | refine Own.l ?_ | fail))
  (conv => whnf)
def c17 : Con := mkCon 17 true fun args K => match args with | [.seq (.pair (.int .i64) (.int .i64)) xs, .val (.int .i64 m)] => K (.bl (¬ xs.any (upP m) = true) inferInstance) | _ => False
theorem k17 : ConOK Try.prog c17 := by
  refine conOK_of rfl (enters_of Try.func17 (by kernel_rfl) rfl) ?_
  intro args K h
  simp only [c17] at h
  split at h
  · rename_i xs m; exact ⟨_, h, tri_of_body (Γ := [c40]) (by simp [k40]) Try.func17 (by simp [Try.ntmps17]) rfl (b17 xs m)⟩
  · exact h.elim
/-- What a rest list says of a member: the site's flag. -/
theorem rest_up (n : Int) (l : List (Int × Int)) (m : Nat) (h : m < n.toNat) : (restL n l).getD m false = l.any (upP m) := by
  show (restN n.toNat l l.length).getD m false = _
  rw [restN_get _ _ _ _ h]
  unfold restB
  rw [List.take_length]; rfl
/-! ### All ones -/
theorem b19 (k : Int) : body Try.prog [] {} true Try.f19 [I k] (.bl (¬ k = 1) inferInstance) := by
  (repeat' ((conv => whnf); first | (refine Giv.mk fun _ => ?_) | (refine Alt.l (Need.mk ?h ?_); case h => omega) | (refine Alt.r (Need.mk ?h ?_); case h => omega) | (refine Need.mk ?h ?_; case h => first | omega | (intro _; rfl) | assumption | (simp <;> omega)) | refine Ix.zero ?_ | refine Ix.one ?_ | refine Ix.two ?_ | refine Ix.nat ?_ | refine Ix.add ?_ | (apply Go.Eng.Pin.mk; apply Exists.intro) | apply Go.Eng.Pinned.mk rfl rfl | (apply Go.Eng.PinH.mk; apply Exists.intro; apply Exists.intro) | exact Go.Eng.Fin0.mk | refine Go.Eng.Chk.mk ?_ ?_ | refine Own.l ?_ | fail))
  (conv => whnf)
def c19 : Con := mkCon 19 true fun args K => match args with | [.val (.int .i64 k)] => K (.bl (¬ k = 1) inferInstance) | _ => False
theorem k19 : ConOK Try.prog c19 := by
  refine conOK_of rfl (enters_of Try.func19 (by kernel_rfl) rfl) ?_
  intro args K h
  simp only [c19] at h
  split at h
  · rename_i k; exact ⟨_, h, tri_of_body (Γ := []) (by simp) Try.func19 (by simp [Try.ntmps19]) rfl (b19 k)⟩
  · exact h.elim
end EB
end
section
set_option linter.unusedVariables false
open Go Go.Proofs Go.Eng Go.Shelf
namespace EB
set_option maxRecDepth 10000
/-! ### An order is accepted -/
def doOne (on : List (List Int)) (rs : List Bool) (c : CS) (x : Int × Int) : CS :=
  if c.err = true then c
  else if ¬ canDo on rs c x then ⟨c.st, c.pr, true⟩
  else if x.1 = 1 then ⟨putW c.st x.2, c.pr, false⟩
  else if x.1 = 2 then ⟨c.st, putW c.pr x.2, false⟩
  else ⟨c.st, takeW c.pr x.2, false⟩
theorem doAt_fold (on : List (List Int)) (rs : List Bool) (n : Int) (S : List (Int × Int)) : ∀ i, i ≤ S.length → doAt on rs n S i = (S.take i).foldl (doOne on rs) ⟨words n, words n, false⟩
  | 0, _ => rfl
  | i + 1, h => by
    rw [doAt_succ, doAt_fold on rs n S i (by omega), take_pair S i h, List.foldl_append]
    rfl
def propsOf (rs : List Bool) (ms : List Int) : List Int := ms.filter fun m => !(rs.getD m.toNat false)
theorem propsOf_in {n : Int} {rs : List Bool} {ms : List Int} (h : InN n ms) : InN n (propsOf rs ms) := fun m hm => h m (List.mem_filter.1 hm).1
theorem in_snoc {n : Int} {ms : List Int} {m : Int} (h : InN n ms) (h0 : 0 ≤ m ∧ m < n) : InN n (ms ++ [m]) := by
  intro x hx
  rcases List.mem_append.1 hx with hx | hx
  · exact h x hx
  · rw [List.mem_singleton.1 hx]; exact h0
theorem do_order {on : List (List Int)} (rs : List Bool) {n : Int} (hn : 0 ≤ n) : ∀ k : Nat, (stepsOf rs (msAt on n k)).foldl (doOne on rs) ⟨words n, words n, false⟩ = ⟨putL (words n) (msAt on n k), putL (words n) (propsOf rs (msAt on n k)), false⟩
  | 0 => rfl
  | k + 1 => by
    have ih := do_order (on := on) rs hn k
    have hin := msAt_in on n k
    rw [msAt_succ]
    split
    · rename_i h0
      rcases nxt_cases on n (msAt on n k) with h | ⟨i, h1, h2, h3, _⟩
      · omega
      rw [h2]
      have hii : 0 ≤ (i : Int) ∧ (i : Int) < n := by omega
      have hni : ¬ (i : Int) ∈ msAt on n k := fun hm => h3.1 ((has_mem hn hin hii.1).2 hm)
      rw [stepsOf_append, List.foldl_append, ih, show stepsOf rs [(i : Int)] = stepOf rs i from List.append_nil _, putL_snoc]
      unfold stepOf
      by_cases hr : rs.getD (i : Int).toNat false = true
      · rw [if_pos hr]
        have hp : propsOf rs (msAt on n k ++ [(i : Int)]) = propsOf rs (msAt on n k) := by
          unfold propsOf; rw [List.filter_append, List.filter_cons_of_neg (by rw [hr]; simp), List.filter_nil, List.append_nil]
        rw [hp]
        have hc : canDo on rs ⟨putL (words n) (msAt on n k), putL (words n) (propsOf rs (msAt on n k)), false⟩ (1, (i : Int)) := by
          unfold canDo; rw [if_pos rfl]; exact ⟨h3, .inl hr⟩
        rw [List.foldl_cons, List.foldl_nil]
        unfold doOne
        rw [if_neg (by simp), if_neg (Classical.not_not.2 hc), if_pos rfl]
      · rw [if_neg hr]
        have hp : propsOf rs (msAt on n k ++ [(i : Int)]) = propsOf rs (msAt on n k) ++ [(i : Int)] := by
          unfold propsOf; rw [List.filter_append, List.filter_cons_of_pos (by rw [Bool.eq_false_iff.2 hr]; rfl), List.filter_nil]
        rw [hp, putL_snoc]
        have hpi := propsOf_in (rs := rs) hin
        have hc : canDo on rs ⟨putL (words n) (msAt on n k), putL (words n) (propsOf rs (msAt on n k)), false⟩ (2, (i : Int)) := by
          unfold canDo; rw [if_neg (show ¬ (2 : Int) = 1 by decide), if_pos rfl]
          exact fun hh => hni (List.mem_filter.1 ((has_mem hn hpi hii.1).1 hh)).1
        have hc2 : canDo on rs ⟨putL (words n) (msAt on n k), putW (putL (words n) (propsOf rs (msAt on n k))) i, false⟩ (1, (i : Int)) := by
          unfold canDo; rw [if_pos rfl]
          refine ⟨h3, .inr ?_⟩
          show hasW (putW (putL (words n) (propsOf rs (msAt on n k))) i) i
          rw [← putL_snoc, has_mem hn (in_snoc hpi hii) hii.1]
          simp
        rw [List.foldl_cons, List.foldl_cons, List.foldl_nil]
        have e1 : doOne on rs ⟨putL (words n) (msAt on n k), putL (words n) (propsOf rs (msAt on n k)), false⟩ (2, (i : Int)) = ⟨putL (words n) (msAt on n k), putW (putL (words n) (propsOf rs (msAt on n k))) i, false⟩ := by
          unfold doOne
          rw [if_neg (by simp), if_neg (Classical.not_not.2 hc), if_neg (show ¬ (2 : Int) = 1 by decide), if_pos rfl]
        rw [e1]
        unfold doOne
        rw [if_neg (by simp), if_neg (Classical.not_not.2 hc2), if_pos rfl]
    · exact ih
theorem steps_mem (rs : List Bool) : ∀ (ms : List Int) (x : Int × Int), x ∈ stepsOf rs ms → (x.1 = 1 ∨ x.1 = 2) ∧ x.2 ∈ ms := by
  intro ms x hx
  unfold stepsOf at hx
  rw [List.mem_flatMap] at hx
  obtain ⟨m, hm, hx⟩ := hx
  unfold stepOf at hx
  split at hx
  · rw [List.mem_singleton] at hx; subst hx; exact ⟨.inl rfl, hm⟩
  · rcases List.mem_cons.1 hx with h | h
    · subst h; exact ⟨.inr rfl, hm⟩
    · rw [List.mem_singleton] at h; subst h; exact ⟨.inl rfl, hm⟩
theorem all_in {n : Int} (hn : 0 ≤ n) {ms : List Int} (h1 : ms.Nodup) (h2 : InN n ms) (h3 : ms.length = n.toNat) {j : Int} (hj : 0 ≤ j ∧ j < n) : j ∈ ms := by
  apply Classical.byContradiction
  intro hne
  have h4 : (ms ++ [j]).Nodup := by
    rw [List.nodup_append]
    refine ⟨h1, by simp, fun a ha b hb => ?_⟩
    rw [List.mem_singleton.1 hb]; rintro rfl; exact hne ha
  have := nodup_len hn h4 (in_snoc h2 hj)
  rw [List.length_append, List.length_singleton] at this
  omega
theorem memsTo_full (ws : List Int) : ∀ k : Nat, (∀ j : Nat, j < k → hasW ws j) → (memsTo ws k).length = k
  | 0, _ => rfl
  | k + 1, h => by rw [memsTo_succ, if_pos (h k (by omega)), List.length_append, memsTo_full ws k fun j hj => h j (by omega)]; rfl
theorem memsTo_grow (ws : List Int) (k : Nat) : ∀ d : Nat, (memsTo ws k).length ≤ (memsTo ws (k + d)).length
  | 0 => Nat.le_refl _
  | d + 1 => by
    have := memsTo_grow ws k d
    rw [← Nat.add_assoc, memsTo_succ]
    split
    · rw [List.length_append]; omega
    · exact this
theorem chkE_zero {n : Int} {S : List (Int × Int)} (hl : S.length ≤ 4096) (h : ∀ x ∈ S, (x.1 = 1 ∨ x.1 = 2 ∨ x.1 = 3) ∧ 0 ≤ x.2 ∧ x.2 < n) : chkE n S = 0 := by
  unfold chkE
  rw [if_neg (by omega), firstE_none]
  intro i hi
  have hm : S.getD i (0, 0) ∈ S := by rw [List.getD_eq_getElem?_getD, List.getElem?_eq_getElem hi]; exact List.getElem_mem hi
  have := h _ hm
  unfold chkAt
  rw [if_neg (by omega), if_neg (by omega)]
/-- What is known of an order that is whole. -/
theorem whole {n : Int} {l : List (Int × Int)} (h : orderErr n l = 0) : supE n l = 0 ∧ orderRes n l = ordL n l ∧ (msAt (onL n l) n n.toNat).length = n.toNat ∧ 0 ≤ n ∧ n ≤ 512 := by
  unfold orderErr at h
  split at h
  · cases h
  rename_i hs
  split at h
  · cases h
  rename_i hr
  have hs := Classical.not_not.1 hs
  obtain ⟨r1, r2, r3, r4⟩ := supE_rests hs
  have hms := msAt_len (onL n l) r2 n.toNat
  have hraise : raisedL (ordL n l) (ordL n l).length = msAt (onL n l) n n.toNat := raised_all _ _
  have hr2 := hr
  rw [raisedIn_eq, hraise] at hr2
  exact ⟨hs, by unfold orderRes; rw [if_pos ⟨hs, hr⟩], by omega, r2, r3⟩
theorem order_chk {n : Int} {l : List (Int × Int)} (h : orderErr n l = 0) : checkE n l (orderRes n l) = 0 := by
  obtain ⟨hs, hS, hfull, r2, r3⟩ := whole h
  have hin := msAt_in (onL n l) n n.toNat
  have hlen : (ordL n l).length ≤ 4096 := by
    have := stepsOf_len (restL n l) (msAt (onL n l) n n.toNat)
    show (stepsOf _ _).length ≤ _
    omega
  have hc : chkE n (ordL n l) = 0 := chkE_zero hlen fun x hx => by
    obtain ⟨h1, h2⟩ := steps_mem _ _ _ hx
    exact ⟨by omega, hin _ h2⟩
  have hd : doAt (onL n l) (restL n l) n (ordL n l) (ordL n l).length = ⟨putL (words n) (msAt (onL n l) n n.toNat), putL (words n) (propsOf (restL n l) (msAt (onL n l) n n.toNat)), false⟩ := by
    rw [doAt_fold _ _ _ _ _ (Nat.le_refl _), List.take_length]
    exact do_order _ r2 n.toNat
  unfold checkE
  rw [hS, if_neg (by rw [hs]; simp), if_neg (by rw [hc]; simp), hd]
  unfold endE
  rw [if_neg (by simp), if_neg]
  have hw := words_len n r2
  have hpl := putL_len (msAt (onL n l) n n.toNat) (words n)
  have h1 := memsTo_full (putL (words n) (msAt (onL n l) n n.toNat)) n.toNat fun j hj => (has_mem r2 hin (by omega)).2 (all_in r2 (msAt_nodup _ r2 _) hin hfull ⟨by omega, by omega⟩)
  obtain ⟨d, hd⟩ := Nat.exists_eq_add_of_le (show n.toNat ≤ 64 * (putL (words n) (msAt (onL n l) n n.toNat)).length by rw [hpl]; omega)
  have h2 := memsTo_grow (putL (words n) (msAt (onL n l) n n.toNat)) n.toNat d
  rw [← hd, h1] at h2
  show ¬ ((memsTo (putL (words n) (msAt (onL n l) n n.toNat)) (64 * (putL (words n) (msAt (onL n l) n n.toNat)).length)).length : Int) < n
  omega
end EB
end
section
set_option linter.unusedVariables false
open Go Go.Proofs Go.Eng Go.Shelf
namespace EB
set_option maxRecDepth 10000
/-! ### The plain law of ErectComplete -/
theorem app_get {α : Type} (A B : List α) (d : α) (i : Nat) : (A ++ B).getD i d = if i < A.length then A.getD i d else B.getD (i - A.length) d := by
  simp only [List.getD_eq_getElem?_getD]
  split
  · rename_i h; rw [List.getElem?_append_left h]
  · rename_i h; rw [List.getElem?_append_right (by omega)]
/-- A prop's step: the member rests on nothing, and is raised at once. A raise's: if it rests on nothing, its prop came just ahead. -/
theorem steps_at (rs : List Bool) : ∀ (ms : List Int) (i : Nat), i < (stepsOf rs ms).length →
    (((stepsOf rs ms).getD i (0, 0)).1 = 2 → rs.getD ((stepsOf rs ms).getD i (0, 0)).2.toNat false = false ∧ i + 1 < (stepsOf rs ms).length ∧ (stepsOf rs ms).getD (i + 1) (0, 0) = (1, ((stepsOf rs ms).getD i (0, 0)).2)) ∧
    (((stepsOf rs ms).getD i (0, 0)).1 = 1 → rs.getD ((stepsOf rs ms).getD i (0, 0)).2.toNat false = false → 0 < i ∧ ((stepsOf rs ms).getD (i - 1) (0, 0)).1 = 2)
  | [], i, h => absurd h (Nat.not_lt_zero _)
  | m :: r, i, h => by
    have e : stepsOf rs (m :: r) = stepOf rs m ++ stepsOf rs r := rfl
    rw [e] at h ⊢
    rw [List.length_append] at h
    simp only [app_get, List.length_append]
    by_cases hr : rs.getD m.toNat false = true
    · have e1 : stepOf rs m = [(1, m)] := by unfold stepOf; rw [if_pos hr]
      rw [e1] at h ⊢
      simp only [List.length_singleton] at h ⊢
      by_cases h0 : i = 0
      · subst h0
        refine ⟨fun hk => ?_, fun _ hf => ?_⟩
        · rw [if_pos (by omega)] at hk; exact absurd hk (by show ¬ (1 : Int) = 2; decide)
        · rw [if_pos (by omega)] at hf
          have hf : rs.getD m.toNat false = false := hf
          rw [hr] at hf; cases hf
      · obtain ⟨p1, p2⟩ := steps_at rs r (i - 1) (by omega)
        rw [if_neg (by omega), if_neg (by omega)]
        refine ⟨fun hk => ?_, fun hk hf => ?_⟩
        · obtain ⟨a, b, c⟩ := p1 hk
          exact ⟨a, by omega, by rw [show i + 1 - 1 = i - 1 + 1 by omega]; exact c⟩
        · obtain ⟨a, b⟩ := p2 hk hf
          exact ⟨by omega, by rw [if_neg (by omega)]; exact b⟩
    · have e1 : stepOf rs m = [(2, m), (1, m)] := by unfold stepOf; rw [if_neg hr]
      have hr' := Bool.eq_false_iff.2 hr
      rw [e1] at h ⊢
      have hl2 : [((2 : Int), m), (1, m)].length = 2 := rfl
      rw [hl2] at h ⊢
      by_cases h0 : i = 0
      · subst h0
        refine ⟨fun _ => ⟨?_, by omega, ?_⟩, fun hk => ?_⟩
        · rw [if_pos (by omega)]; exact hr'
        · rw [if_pos (by omega), if_pos (by omega)]; rfl
        · rw [if_pos (by omega)] at hk; exact absurd hk (by show ¬ (2 : Int) = 1; decide)
      · by_cases h1 : i = 1
        · subst h1
          refine ⟨fun hk => ?_, fun _ _ => ⟨by omega, ?_⟩⟩
          · rw [if_pos (by omega)] at hk; exact absurd hk (by show ¬ (1 : Int) = 2; decide)
          · rw [if_pos (by omega)]; rfl
        · obtain ⟨p1, p2⟩ := steps_at rs r (i - 2) (by omega)
          rw [if_neg (by omega), if_neg (by omega)]
          refine ⟨fun hk => ?_, fun hk hf => ?_⟩
          · obtain ⟨a, b, c⟩ := p1 hk
            exact ⟨a, by omega, by rw [show i + 1 - 2 = i - 2 + 1 by omega]; exact c⟩
          · obtain ⟨a, b⟩ := p2 hk hf
            exact ⟨by omega, by rw [if_neg (by omega), show i - 1 - 2 = i - 2 - 1 by omega]; exact b⟩
end EB
end
section
set_option linter.unusedVariables false
open Go Go.Proofs Go.Eng Go.Shelf
set_option linter.unusedVariables false
namespace EB.Q
set_option maxRecDepth 10000
/-! ### Whether all are ones -/
def notOne (k : Int) : Bool := decide (¬ k = 1)
theorem b56 (xs : List Int) : body Try.prog [c19] { loops := [(0, anIx 8 notOne xs 0)] } false Try.f56 [Ls xs, .clo 19 [] []] (I (idxOf notOne xs)) := by
  (repeat' ((conv => whnf); first | (refine Giv.mk fun _ => ?_) | (refine Alt.l (Need.mk ?h ?_); case h => omega) | (refine Alt.r (Need.mk ?h ?_); case h => omega) | (refine Need.mk ?h ?_; case h => first | omega | (intro _; rfl) | assumption | (simp <;> omega)) | refine Ix.zero ?_ | refine Ix.one ?_ | refine Ix.two ?_ | refine Ix.nat ?_ | refine Ix.add ?_ | (apply Go.Eng.Pin.mk; apply Exists.intro) | apply Go.Eng.Pinned.mk rfl rfl | (apply Go.Eng.PinH.mk; apply Exists.intro; apply Exists.intro) | exact Go.Eng.Fin0.mk | refine Go.Eng.Chk.mk ?_ ?_ | refine Own.l ?_ | fail))
  refine ⟨⟨(0 : Nat), ⟨Nat.zero_le _, fun j hj => absurd hj (Nat.not_lt_zero _)⟩, by (repeat' (first | exact trivial | rfl | exact Nat.one_pos | (refine And.intro ?_ ?_) | omega | ((conv => whnf); (refine And.intro ?_ ?_)) | ((conv => whnf); exact trivial)))⟩, fun (i : Nat) hi => ?_⟩
  obtain ⟨hi, hb⟩ := hi
  (repeat' ((conv => whnf); first | (refine Giv.mk fun _ => ?_) | (refine Alt.l (Need.mk ?h ?_); case h => omega) | (refine Alt.r (Need.mk ?h ?_); case h => omega) | (refine Need.mk ?h ?_; case h => first | omega | (intro _; rfl) | assumption | (simp <;> omega)) | refine Ix.zero ?_ | refine Ix.one ?_ | refine Ix.two ?_ | refine Ix.nat ?_ | refine Ix.add ?_ | (apply Go.Eng.Pin.mk; apply Exists.intro) | apply Go.Eng.Pinned.mk rfl rfl | (apply Go.Eng.PinH.mk; apply Exists.intro; apply Exists.intro) | exact Go.Eng.Fin0.mk | refine Go.Eng.Chk.mk ?_ ?_ | refine Own.l ?_ | fail))
  (refine Br.mk (fun _ => ?_) (fun _ => ?_))
  · have hlt : i < xs.length := by omega
    (repeat' ((conv => whnf); first | (refine Giv.mk fun _ => ?_) | (refine Alt.l (Need.mk ?h ?_); case h => omega) | (refine Alt.r (Need.mk ?h ?_); case h => omega) | (refine Need.mk ?h ?_; case h => first | omega | (intro _; rfl) | assumption | (simp <;> omega)) | refine Ix.zero ?_ | refine Ix.one ?_ | refine Ix.two ?_ | refine Ix.nat ?_ | refine Ix.add ?_ | (apply Go.Eng.Pin.mk; apply Exists.intro) | apply Go.Eng.Pinned.mk rfl rfl | (apply Go.Eng.PinH.mk; apply Exists.intro; apply Exists.intro) | exact Go.Eng.Fin0.mk | refine Go.Eng.Chk.mk ?_ ?_ | refine Own.l ?_ | fail))
    (refine Br.mk (fun _ => ?_) (fun _ => ?_))
    · rename_i hh
      (repeat' ((conv => whnf); first | (refine Giv.mk fun _ => ?_) | (refine Alt.l (Need.mk ?h ?_); case h => omega) | (refine Alt.r (Need.mk ?h ?_); case h => omega) | (refine Need.mk ?h ?_; case h => first | omega | (intro _; rfl) | assumption | (simp <;> omega)) | refine Ix.zero ?_ | refine Ix.one ?_ | refine Ix.two ?_ | refine Ix.nat ?_ | refine Ix.add ?_ | (apply Go.Eng.Pin.mk; apply Exists.intro) | apply Go.Eng.Pinned.mk rfl rfl | (apply Go.Eng.PinH.mk; apply Exists.intro; apply Exists.intro) | exact Go.Eng.Fin0.mk | refine Go.Eng.Chk.mk ?_ ?_ | refine Own.l ?_ | fail))
      (conv => whnf)
      exact ⟨rfl, (idxOf_some 0 hlt (decide_eq_true hh) hb).symm⟩
    · rename_i hh
      (repeat' ((conv => whnf); first | (refine Giv.mk fun _ => ?_) | (refine Alt.l (Need.mk ?h ?_); case h => omega) | (refine Alt.r (Need.mk ?h ?_); case h => omega) | (refine Need.mk ?h ?_; case h => first | omega | (intro _; rfl) | assumption | (simp <;> omega)) | refine Ix.zero ?_ | refine Ix.one ?_ | refine Ix.two ?_ | refine Ix.nat ?_ | refine Ix.add ?_ | (apply Go.Eng.Pin.mk; apply Exists.intro) | apply Go.Eng.Pinned.mk rfl rfl | (apply Go.Eng.PinH.mk; apply Exists.intro; apply Exists.intro) | exact Go.Eng.Fin0.mk | refine Go.Eng.Chk.mk ?_ ?_ | refine Own.l ?_ | fail))
      refine ⟨(i + 1 : Nat), by show xs.length - (i + 1) < xs.length - i; omega, ⟨hlt, fun j hj => ?_⟩, by (repeat' (first | exact trivial | rfl | exact Nat.one_pos | (refine And.intro ?_ ?_) | omega | ((conv => whnf); (refine And.intro ?_ ?_)) | ((conv => whnf); exact trivial)))⟩
      by_cases e : j = i
      · subst e; exact decide_eq_false hh
      · exact hb j (by omega)
  · have hii : i = xs.length := by omega
    subst hii
    (repeat' ((conv => whnf); first | (refine Giv.mk fun _ => ?_) | (refine Alt.l (Need.mk ?h ?_); case h => omega) | (refine Alt.r (Need.mk ?h ?_); case h => omega) | (refine Need.mk ?h ?_; case h => first | omega | (intro _; rfl) | assumption | (simp <;> omega)) | refine Ix.zero ?_ | refine Ix.one ?_ | refine Ix.two ?_ | refine Ix.nat ?_ | refine Ix.add ?_ | (apply Go.Eng.Pin.mk; apply Exists.intro) | apply Go.Eng.Pinned.mk rfl rfl | (apply Go.Eng.PinH.mk; apply Exists.intro; apply Exists.intro) | exact Go.Eng.Fin0.mk | refine Go.Eng.Chk.mk ?_ ?_ | refine Own.l ?_ | fail))
    (conv => whnf)
    exact ⟨rfl, (idxOf_none 0 hb).symm⟩
def c56 : Con := mkCon 56 false fun args K => match args with | [.seq (.int .i64) xs, .clo 19 [] []] => K (I (idxOf notOne xs)) | _ => False
theorem k56 : ConOK Try.prog c56 := by
  refine conOK_of rfl (enters_of Try.func56 (by kernel_rfl) rfl) ?_
  intro args K h
  simp only [c56] at h
  split at h
  · rename_i xs; exact ⟨_, h, tri_of_body (Γ := [c19]) (by simp [k19]) Try.func56 (by simp [Try.ntmps56]) rfl (b56 xs)⟩
  · exact h.elim
theorem b18 (xs : List Int) : body Try.prog [c56] {} false Try.f18 [Ls xs, .clo 19 [] []] (.bl (xs.any notOne = true) inferInstance) := by
  (repeat' ((conv => whnf); first | (refine Giv.mk fun _ => ?_) | (refine Alt.l (Need.mk ?h ?_); case h => omega) | (refine Alt.r (Need.mk ?h ?_); case h => omega) | (refine Need.mk ?h ?_; case h => first | omega | (intro _; rfl) | assumption | (simp <;> omega)) | refine Ix.zero ?_ | refine Ix.one ?_ | refine Ix.two ?_ | refine Ix.nat ?_ | refine Ix.add ?_ | (apply Go.Eng.Pin.mk; apply Exists.intro) | apply Go.Eng.Pinned.mk rfl rfl | (apply Go.Eng.PinH.mk; apply Exists.intro; apply Exists.intro) | exact Go.Eng.Fin0.mk | refine Go.Eng.Chk.mk ?_ ?_ | refine Own.l ?_ | fail))
  (conv => whnf)
  exact idxOf_pos _ _
def c18 : Con := mkCon 18 false fun args K => match args with | [.seq (.int .i64) xs, .clo 19 [] []] => K (.bl (xs.any notOne = true) inferInstance) | _ => False
theorem k18 : ConOK Try.prog c18 := by
  refine conOK_of rfl (enters_of Try.func18 (by kernel_rfl) rfl) ?_
  intro args K h
  simp only [c18] at h
  split at h
  · rename_i xs; exact ⟨_, h, tri_of_body (Γ := [c56]) (by simp [k56]) Try.func18 (by simp [Try.ntmps18]) rfl (b18 xs)⟩
  · exact h.elim
end EB.Q
end
section
set_option linter.unusedVariables false
open Go Go.Proofs Go.Eng Go.Shelf
set_option linter.unusedVariables false
namespace EB
set_option maxRecDepth 10000
/-! ### How often each member is raised -/
def cntN (n : Nat) (ms : List Int) : List Int := (List.range n).map fun m : Nat => (ms.count (m : Int) : Int)
theorem cntN_len (n : Nat) (ms : List Int) : (cntN n ms).length = n := by simp [cntN]
theorem cntN_get (n : Nat) (ms : List Int) (m : Nat) (h : m < n) : (cntN n ms).getD m 0 = ms.count (m : Int) := by simp [cntN, List.getD_eq_getElem?_getD, h]
theorem cntN_nil (n : Nat) : cntN n [] = List.replicate n 0 := by
  apply List.ext_getElem <;> simp [cntN]
theorem cntN_step (n : Nat) (ms : List Int) (x : Int) (hx : 0 ≤ x ∧ x < n) : (cntN n ms).set x.toNat ((cntN n ms).getD x.toNat 0 + 1) = cntN n (ms ++ [x]) := by
  have hxn : x.toNat < n := by omega
  apply List.ext_getElem?
  intro m
  rw [List.getElem?_set, cntN_len, cntN_get _ _ _ hxn]
  by_cases e : x.toNat = m
  · subst e
    rw [if_pos rfl, if_pos hxn]
    have e1 : ((x.toNat : Nat) : Int) = x := by omega
    simp only [cntN, List.getElem?_map, List.getElem?_range hxn, Option.map_some, e1, List.count_append, List.count_singleton_self]
    rfl
  · rw [if_neg e]
    by_cases hm : m < n
    · have e1 : ¬ x = (m : Int) := by omega
      simp only [cntN, List.getElem?_map, List.getElem?_range hm, Option.map_some, List.count_append]
      rw [List.count_singleton]
      simp [e1]
    · rw [List.getElem?_eq_none (by rw [cntN_len]; omega), List.getElem?_eq_none (by rw [cntN_len]; omega)]
end EB
end
section
set_option linter.unusedVariables false
open Go Go.Proofs Go.Eng Go.Shelf
set_option linter.unusedVariables false
namespace EB
set_option maxRecDepth 10000
/-! ### The plain law of ErectComplete -/
/-- What the laws have of a whole order. -/
structure Whole (n : Int) (l S : List (Int × Int)) : Prop where
  n0 : 0 ≤ n
  n1 : n ≤ 512
  sup : supE n l = 0
  chk : checkE n l S = 0
  len : S.length ≤ 1024
  at_ : ∀ i, i < S.length → ((S.getD i (0, 0)).1 = 1 ∨ (S.getD i (0, 0)).1 = 2) ∧ 0 ≤ (S.getD i (0, 0)).2 ∧ (S.getD i (0, 0)).2 < n
  prop_ : ∀ i, i < S.length → (S.getD i (0, 0)).1 = 2 → ¬ l.any (upP (S.getD i (0, 0)).2) = true ∧ i + 1 < S.length ∧ S.getD (i + 1) (0, 0) = (1, (S.getD i (0, 0)).2)
  raise : ∀ i, i < S.length → (S.getD i (0, 0)).1 = 1 → ¬ l.any (upP (S.getD i (0, 0)).2) = true → 0 < i ∧ (S.getD (i - 1) (0, 0)).1 = 2
  once : ∀ m : Int, 0 ≤ m → m < n → (raisedL S S.length).count m = 1
theorem whole_ord {n : Int} {l : List (Int × Int)} (h : orderErr n l = 0) : Whole n l (orderRes n l) := by
  obtain ⟨hs, hS, hfull, r2, r3⟩ := whole h
  have hin := msAt_in (onL n l) n n.toNat
  have hnd := msAt_nodup (onL n l) r2 n.toNat
  have hmem : ∀ i, i < (ordL n l).length → (((ordL n l).getD i (0, 0)).1 = 1 ∨ ((ordL n l).getD i (0, 0)).1 = 2) ∧ 0 ≤ ((ordL n l).getD i (0, 0)).2 ∧ ((ordL n l).getD i (0, 0)).2 < n := fun i hi => by
    have hm : (ordL n l).getD i (0, 0) ∈ ordL n l := by rw [List.getD_eq_getElem?_getD, List.getElem?_eq_getElem hi]; exact List.getElem_mem hi
    obtain ⟨h1, h2⟩ := steps_mem _ _ _ hm
    exact ⟨h1, hin _ h2⟩
  have hup : ∀ i, i < (ordL n l).length → (restL n l).getD ((ordL n l).getD i (0, 0)).2.toNat false = l.any (upP ((ordL n l).getD i (0, 0)).2) := fun i hi => by
    obtain ⟨_, h1, h2⟩ := hmem i hi
    rw [rest_up n l _ (by omega), Int.toNat_of_nonneg h1]
  have hck := order_chk h
  rw [hS] at hck ⊢
  refine ⟨r2, r3, hs, hck, ?_, hmem, fun i hi hk => ?_, fun i hi hk hl => ?_, fun m h0 h1 => ?_⟩
  · have := stepsOf_len (restL n l) (msAt (onL n l) n n.toNat)
    show (stepsOf _ _).length ≤ _
    omega
  · obtain ⟨a, b, c⟩ := (steps_at (restL n l) (msAt (onL n l) n n.toNat) i hi).1 hk
    have a : (restL n l).getD ((ordL n l).getD i (0, 0)).2.toNat false = false := a
    rw [hup i hi] at a
    exact ⟨by rw [a]; simp, b, c⟩
  · refine (steps_at (restL n l) (msAt (onL n l) n n.toNat) i hi).2 hk ?_
    show (restL n l).getD ((ordL n l).getD i (0, 0)).2.toNat false = false
    rw [hup i hi]; exact Bool.eq_false_iff.2 hl
  · have hraise : raisedL (ordL n l) (ordL n l).length = msAt (onL n l) n n.toNat := raised_all _ _
    rw [hraise]
    exact hnd.count.trans (if_pos (all_in r2 hnd hin hfull ⟨h0, h1⟩))
theorem Whole.ones {n : Int} {l S : List (Int × Int)} (h : Whole n l S) : ¬ (cntN n.toNat (raisedL S S.length)).any Q.notOne = true := by
  rw [Bool.not_eq_true, List.any_eq_false]
  intro x hx
  unfold cntN at hx
  rw [List.mem_map] at hx
  obtain ⟨m, hm, rfl⟩ := hx
  rw [List.mem_range] at hm
  rw [h.once m (by omega) (by omega)]
  decide
theorem cntN_bound (S : List (Int × Int)) (n i m : Nat) (hm : m < n) (hs : S.length ≤ 1024) : 0 ≤ (cntN n (raisedL S i)).getD m 0 ∧ (cntN n (raisedL S i)).getD m 0 ≤ 1024 := by
  rw [cntN_get _ _ _ hm]
  have h1 := raisedL_len S i
  have h2 := List.count_le_length (a := (m : Int)) (l := raisedL S i)
  omega
theorem b4 (s : Int) (l : List (Int × Int)) (hs : inK .u8 s) : body Try.prog [c12, c13, c16, c17, Q.c18] { asks := [(0, [])] } true Try.f4 [.val (.int .u8 s), Ps l] (.val (.bool true)) := by
  have h1 : 0 ≤ s := by have := hs.1; simpa [lo] using this
  have h2 : s ≤ 255 := by have := hs.2; simpa [hi] using this
  (repeat' ((conv => whnf); first | (refine Giv.mk fun _ => ?_) | (refine Alt.l (Need.mk ?h ?_); case h => omega) | (refine Alt.r (Need.mk ?h ?_); case h => omega) | (refine Need.mk ?h ?_; case h => first | omega | (intro _; rfl) | assumption | (simp <;> omega)) | refine Ix.zero ?_ | refine Ix.one ?_ | refine Ix.two ?_ | refine Ix.nat ?_ | refine Ix.add ?_ | (apply Go.Eng.Pin.mk; apply Exists.intro) | apply Go.Eng.Pinned.mk rfl rfl | (apply Go.Eng.PinH.mk; apply Exists.intro; apply Exists.intro) | exact Go.Eng.Fin0.mk | refine Go.Eng.Chk.mk ?_ ?_ | refine Own.l ?_ | fail))
  (refine Br.mk (fun _ => ?_) (fun _ => ?_))
  · (repeat' ((conv => whnf); first | (refine Giv.mk fun _ => ?_) | (refine Alt.l (Need.mk ?h ?_); case h => omega) | (refine Alt.r (Need.mk ?h ?_); case h => omega) | (refine Need.mk ?h ?_; case h => first | omega | (intro _; rfl) | assumption | (simp <;> omega)) | refine Ix.zero ?_ | refine Ix.one ?_ | refine Ix.two ?_ | refine Ix.nat ?_ | refine Ix.add ?_ | (apply Go.Eng.Pin.mk; apply Exists.intro) | apply Go.Eng.Pinned.mk rfl rfl | (apply Go.Eng.PinH.mk; apply Exists.intro; apply Exists.intro) | exact Go.Eng.Fin0.mk | refine Go.Eng.Chk.mk ?_ ?_ | refine Own.l ?_ | fail))
    (conv => whnf)
  · rename_i hok
    have hok := Classical.not_not.1 hok
    have hw := whole_ord hok.2
    have hr12 : res12 s l = orderRes (n12 s) l := by unfold res12; rw [if_pos hok.1]
    rw [← hr12] at hw
    obtain ⟨w0, w1, w2, w3, w4, w5, w6, w7, w8⟩ := id hw
    (repeat' ((conv => whnf); first | (refine Giv.mk fun _ => ?_) | (refine Alt.l (Need.mk ?h ?_); case h => omega) | (refine Alt.r (Need.mk ?h ?_); case h => omega) | (refine Need.mk ?h ?_; case h => first | omega | (intro _; rfl) | assumption | (simp <;> omega)) | refine Ix.zero ?_ | refine Ix.one ?_ | refine Ix.two ?_ | refine Ix.nat ?_ | refine Ix.add ?_ | (apply Go.Eng.Pin.mk; apply Exists.intro) | apply Go.Eng.Pinned.mk rfl rfl | (apply Go.Eng.PinH.mk; apply Exists.intro; apply Exists.intro) | exact Go.Eng.Fin0.mk | refine Go.Eng.Chk.mk ?_ ?_ | refine Own.l ?_ | fail))
    refine Br.mkN (fun e => e w3) ?_
    (repeat' ((conv => whnf); first | (refine Giv.mk fun _ => ?_) | (refine Alt.l (Need.mk ?h ?_); case h => omega) | (refine Alt.r (Need.mk ?h ?_); case h => omega) | (refine Need.mk ?h ?_; case h => first | omega | (intro _; rfl) | assumption | (simp <;> omega)) | refine Ix.zero ?_ | refine Ix.one ?_ | refine Ix.two ?_ | refine Ix.nat ?_ | refine Ix.add ?_ | (apply Go.Eng.Pin.mk; apply Exists.intro) | apply Go.Eng.Pinned.mk rfl rfl | (apply Go.Eng.PinH.mk; apply Exists.intro; apply Exists.intro) | exact Go.Eng.Fin0.mk | refine Go.Eng.Chk.mk ?_ ?_ | refine Own.l ?_ | fail))
    refine Need.mk (show 0 ≤ n12 s ∧ n12 s ≤ n12 s ∧ n12 s ≤ 140737488355328 ∧ n12 s * ((8 : Nat) : Int) ≤ 140737488355328 by omega) ?_
    (repeat' ((conv => whnf); first | (refine Giv.mk fun _ => ?_) | (refine Alt.l (Need.mk ?h ?_); case h => omega) | (refine Alt.r (Need.mk ?h ?_); case h => omega) | (refine Need.mk ?h ?_; case h => first | omega | (intro _; rfl) | assumption | (simp <;> omega)) | refine Ix.zero ?_ | refine Ix.one ?_ | refine Ix.two ?_ | refine Ix.nat ?_ | refine Ix.add ?_ | (apply Go.Eng.Pin.mk; apply Exists.intro) | apply Go.Eng.Pinned.mk rfl rfl | (apply Go.Eng.PinH.mk; apply Exists.intro; apply Exists.intro) | exact Go.Eng.Fin0.mk | refine Go.Eng.Chk.mk ?_ ?_ | refine Own.l ?_ | fail))
    refine Ask.mk ⟨{ X := Nat, pre := fun i => i ≤ (res12 s l).length, mod := fun i _ => [(30, I i)], heap := fun i _ => [.vec 1 (.int .i64) (cntN (n12 s).toNat (raisedL (res12 s l) i)) 3], mu := fun i => (res12 s l).length - i }, rfl, ?_⟩
    (repeat' ((conv => whnf); first | (refine Giv.mk fun _ => ?_) | (refine Alt.l (Need.mk ?h ?_); case h => omega) | (refine Alt.r (Need.mk ?h ?_); case h => omega) | (refine Need.mk ?h ?_; case h => first | omega | (intro _; rfl) | assumption | (simp <;> omega)) | refine Ix.zero ?_ | refine Ix.one ?_ | refine Ix.two ?_ | refine Ix.nat ?_ | refine Ix.add ?_ | (apply Go.Eng.Pin.mk; apply Exists.intro) | apply Go.Eng.Pinned.mk rfl rfl | (apply Go.Eng.PinH.mk; apply Exists.intro; apply Exists.intro) | exact Go.Eng.Fin0.mk | refine Go.Eng.Chk.mk ?_ ?_ | refine Own.l ?_ | fail))
    refine ⟨⟨(0 : Nat), Nat.zero_le _, ?_⟩, fun (i : Nat) (hi : i ≤ (res12 s l).length) => ?_⟩
    · (repeat' (first | exact trivial | rfl | exact Nat.one_pos | (refine And.intro ?_ ?_) | omega | ((conv => whnf); (refine And.intro ?_ ?_)) | ((conv => whnf); exact trivial)))
      exact (cntN_nil _).symm
    · (repeat' ((conv => whnf); first | (refine Giv.mk fun _ => ?_) | (refine Alt.l (Need.mk ?h ?_); case h => omega) | (refine Alt.r (Need.mk ?h ?_); case h => omega) | (refine Need.mk ?h ?_; case h => first | omega | (intro _; rfl) | assumption | (simp <;> omega)) | refine Ix.zero ?_ | refine Ix.one ?_ | refine Ix.two ?_ | refine Ix.nat ?_ | refine Ix.add ?_ | (apply Go.Eng.Pin.mk; apply Exists.intro) | apply Go.Eng.Pinned.mk rfl rfl | (apply Go.Eng.PinH.mk; apply Exists.intro; apply Exists.intro) | exact Go.Eng.Fin0.mk | refine Go.Eng.Chk.mk ?_ ?_ | refine Own.l ?_ | fail))
      (refine Br.mk (fun _ => ?_) (fun _ => ?_))
      · have hlt : i < (res12 s l).length := by omega
        have hsu := raisedL_succ (res12 s l) i hlt
        obtain ⟨q1, q2, q3⟩ := w5 i hlt
        have hmn : ((res12 s l).getD i (0, 0)).2.toNat < (n12 s).toNat := by omega
        have hcl := cntN_len (n12 s).toNat (raisedL (res12 s l) i)
        have hcb := cntN_bound (res12 s l) (n12 s).toNat i _ hmn w4
        have hcs := cntN_step (n12 s).toNat (raisedL (res12 s l) i) ((res12 s l).getD i (0, 0)).2 ⟨by omega, by omega⟩
        rcases q1 with k | k
        · rw [if_pos k] at hsu
          rw [← hsu] at hcs
          (repeat' ((conv => whnf); first | (refine Giv.mk fun _ => ?_) | (refine Alt.l (Need.mk ?h ?_); case h => omega) | (refine Alt.r (Need.mk ?h ?_); case h => omega) | (refine Need.mk ?h ?_; case h => first | omega | (intro _; rfl) | assumption | (simp <;> omega)) | refine Ix.zero ?_ | refine Ix.one ?_ | refine Ix.two ?_ | refine Ix.nat ?_ | refine Ix.add ?_ | (apply Go.Eng.Pin.mk; apply Exists.intro) | apply Go.Eng.Pinned.mk rfl rfl | (apply Go.Eng.PinH.mk; apply Exists.intro; apply Exists.intro) | exact Go.Eng.Fin0.mk | refine Go.Eng.Chk.mk ?_ ?_ | refine Own.l ?_ | (refine Br.mkY ?h ?_; case h => first | omega | assumption) | (refine Br.mkN ?h ?_; case h => first | omega | assumption | exact not_not_intro (by assumption)) | fail))
          refine ix_at ((res12 s l).getD i (0, 0)).2.toNat (by omega) ?_
          (repeat' ((conv => whnf); first | (refine Giv.mk fun _ => ?_) | (refine Alt.l (Need.mk ?h ?_); case h => omega) | (refine Alt.r (Need.mk ?h ?_); case h => omega) | (refine Need.mk ?h ?_; case h => first | omega | (intro _; rfl) | assumption | (simp <;> omega)) | refine Ix.zero ?_ | refine Ix.one ?_ | refine Ix.two ?_ | refine Ix.nat ?_ | refine Ix.add ?_ | (apply Go.Eng.Pin.mk; apply Exists.intro) | apply Go.Eng.Pinned.mk rfl rfl | (apply Go.Eng.PinH.mk; apply Exists.intro; apply Exists.intro) | exact Go.Eng.Fin0.mk | refine Go.Eng.Chk.mk ?_ ?_ | refine Own.l ?_ | (refine Br.mkY ?h ?_; case h => first | omega | assumption) | (refine Br.mkN ?h ?_; case h => first | omega | assumption | exact not_not_intro (by assumption)) | fail))
          refine ix_at ((res12 s l).getD i (0, 0)).2.toNat (by omega) ?_
          (repeat' ((conv => whnf); first | (refine Giv.mk fun _ => ?_) | (refine Alt.l (Need.mk ?h ?_); case h => omega) | (refine Alt.r (Need.mk ?h ?_); case h => omega) | (refine Need.mk ?h ?_; case h => first | omega | (intro _; rfl) | assumption | (simp <;> omega)) | refine Ix.zero ?_ | refine Ix.one ?_ | refine Ix.two ?_ | refine Ix.nat ?_ | refine Ix.add ?_ | (apply Go.Eng.Pin.mk; apply Exists.intro) | apply Go.Eng.Pinned.mk rfl rfl | (apply Go.Eng.PinH.mk; apply Exists.intro; apply Exists.intro) | exact Go.Eng.Fin0.mk | refine Go.Eng.Chk.mk ?_ ?_ | refine Own.l ?_ | (refine Br.mkY ?h ?_; case h => first | omega | assumption) | (refine Br.mkN ?h ?_; case h => first | omega | assumption | exact not_not_intro (by assumption)) | fail))
          (refine Br.mk (fun _ => ?_) (fun _ => ?_))
          · rename_i hu
            obtain ⟨p1, p2⟩ := w7 i hlt k hu
            have hi1 : (i : Int) - 1 = ((i - 1 : Nat) : Int) := by omega
            (repeat' ((conv => whnf); first | (refine Giv.mk fun _ => ?_) | (refine Alt.l (Need.mk ?h ?_); case h => omega) | (refine Alt.r (Need.mk ?h ?_); case h => omega) | (refine Need.mk ?h ?_; case h => first | omega | (intro _; rfl) | assumption | (simp <;> omega)) | refine Ix.zero ?_ | refine Ix.one ?_ | refine Ix.two ?_ | refine Ix.nat ?_ | refine Ix.add ?_ | (apply Go.Eng.Pin.mk; apply Exists.intro) | apply Go.Eng.Pinned.mk rfl rfl | (apply Go.Eng.PinH.mk; apply Exists.intro; apply Exists.intro) | exact Go.Eng.Fin0.mk | refine Go.Eng.Chk.mk ?_ ?_ | refine Own.l ?_ | (refine Br.mkY ?h ?_; case h => first | omega | assumption) | (refine Br.mkN ?h ?_; case h => first | omega | assumption | exact not_not_intro (by assumption)) | fail))
            refine ix_at (i - 1) hi1 ?_
            (repeat' ((conv => whnf); first | (refine Giv.mk fun _ => ?_) | (refine Alt.l (Need.mk ?h ?_); case h => omega) | (refine Alt.r (Need.mk ?h ?_); case h => omega) | (refine Need.mk ?h ?_; case h => first | omega | (intro _; rfl) | assumption | (simp <;> omega)) | refine Ix.zero ?_ | refine Ix.one ?_ | refine Ix.two ?_ | refine Ix.nat ?_ | refine Ix.add ?_ | (apply Go.Eng.Pin.mk; apply Exists.intro) | apply Go.Eng.Pinned.mk rfl rfl | (apply Go.Eng.PinH.mk; apply Exists.intro; apply Exists.intro) | exact Go.Eng.Fin0.mk | refine Go.Eng.Chk.mk ?_ ?_ | refine Own.l ?_ | (refine Br.mkY ?h ?_; case h => first | omega | assumption) | (refine Br.mkN ?h ?_; case h => first | omega | assumption | exact not_not_intro (by assumption)) | fail))
            refine ⟨(i + 1 : Nat), by show (res12 s l).length - (i + 1) < (res12 s l).length - i; omega, hlt, ?_⟩
            (repeat' (first | exact trivial | rfl | exact Nat.one_pos | (refine And.intro ?_ ?_) | omega | ((conv => whnf); (refine And.intro ?_ ?_)) | ((conv => whnf); exact trivial)))
            exact hcs
          · (repeat' ((conv => whnf); first | (refine Giv.mk fun _ => ?_) | (refine Alt.l (Need.mk ?h ?_); case h => omega) | (refine Alt.r (Need.mk ?h ?_); case h => omega) | (refine Need.mk ?h ?_; case h => first | omega | (intro _; rfl) | assumption | (simp <;> omega)) | refine Ix.zero ?_ | refine Ix.one ?_ | refine Ix.two ?_ | refine Ix.nat ?_ | refine Ix.add ?_ | (apply Go.Eng.Pin.mk; apply Exists.intro) | apply Go.Eng.Pinned.mk rfl rfl | (apply Go.Eng.PinH.mk; apply Exists.intro; apply Exists.intro) | exact Go.Eng.Fin0.mk | refine Go.Eng.Chk.mk ?_ ?_ | refine Own.l ?_ | (refine Br.mkY ?h ?_; case h => first | omega | assumption) | (refine Br.mkN ?h ?_; case h => first | omega | assumption | exact not_not_intro (by assumption)) | fail))
            refine ⟨(i + 1 : Nat), by show (res12 s l).length - (i + 1) < (res12 s l).length - i; omega, hlt, ?_⟩
            (repeat' (first | exact trivial | rfl | exact Nat.one_pos | (refine And.intro ?_ ?_) | omega | ((conv => whnf); (refine And.intro ?_ ?_)) | ((conv => whnf); exact trivial)))
            exact hcs
        · rw [if_neg (by omega)] at hsu
          obtain ⟨p1, p2, p3⟩ := w6 i hlt k
          have p4 : ((res12 s l).getD (i + 1) (0, 0)).1 = 1 ∧ ((res12 s l).getD (i + 1) (0, 0)).2 = ((res12 s l).getD i (0, 0)).2 := by rw [p3]; exact ⟨rfl, rfl⟩
          (repeat' ((conv => whnf); first | (refine Giv.mk fun _ => ?_) | (refine Alt.l (Need.mk ?h ?_); case h => omega) | (refine Alt.r (Need.mk ?h ?_); case h => omega) | (refine Need.mk ?h ?_; case h => first | omega | (intro _; rfl) | assumption | (simp <;> omega)) | refine Ix.zero ?_ | refine Ix.one ?_ | refine Ix.two ?_ | refine Ix.nat ?_ | refine Ix.add ?_ | (apply Go.Eng.Pin.mk; apply Exists.intro) | apply Go.Eng.Pinned.mk rfl rfl | (apply Go.Eng.PinH.mk; apply Exists.intro; apply Exists.intro) | exact Go.Eng.Fin0.mk | refine Go.Eng.Chk.mk ?_ ?_ | refine Own.l ?_ | (refine Br.mkY ?h ?_; case h => first | omega | assumption) | (refine Br.mkN ?h ?_; case h => first | omega | assumption | exact not_not_intro (by assumption)) | fail))
          refine ⟨(i + 1 : Nat), by show (res12 s l).length - (i + 1) < (res12 s l).length - i; omega, hlt, ?_⟩
          (repeat' (first | exact trivial | rfl | exact Nat.one_pos | (refine And.intro ?_ ?_) | omega | ((conv => whnf); (refine And.intro ?_ ?_)) | ((conv => whnf); exact trivial)))
          exact congrArg (cntN (n12 s).toNat) hsu.symm
      · have hii : i = (res12 s l).length := by omega
        subst hii
        have w9 := hw.ones
        (repeat' ((conv => whnf); first | (refine Giv.mk fun _ => ?_) | (refine Alt.l (Need.mk ?h ?_); case h => omega) | (refine Alt.r (Need.mk ?h ?_); case h => omega) | (refine Need.mk ?h ?_; case h => first | omega | (intro _; rfl) | assumption | (simp <;> omega)) | refine Ix.zero ?_ | refine Ix.one ?_ | refine Ix.two ?_ | refine Ix.nat ?_ | refine Ix.add ?_ | (apply Go.Eng.Pin.mk; apply Exists.intro) | apply Go.Eng.Pinned.mk rfl rfl | (apply Go.Eng.PinH.mk; apply Exists.intro; apply Exists.intro) | exact Go.Eng.Fin0.mk | refine Go.Eng.Chk.mk ?_ ?_ | refine Own.l ?_ | (refine Br.mkY ?h ?_; case h => first | omega | assumption) | (refine Br.mkN ?h ?_; case h => first | omega | assumption | exact not_not_intro (by assumption)) | fail))
        (conv => whnf)
theorem t4 (s : Int) (l : List (Int × Int)) (hs : inK .u8 s) (hl : Okd (.slice Two) l) :
    Tri Try.prog true 4 [.val (.int .u8 s), Ps l] (.val (.bool true)) :=
  tri_of_body (Γ := [c12, c13, c16, c17, Q.c18]) (by simp [k12, k13, k16, k17, Q.k18]) Try.func4 (by simp [Try.ntmps4]) rfl (b4 s l hs)
end EB
end
section
set_option linter.unusedVariables false
open Go Go.Proofs Go.Eng Go.Shelf
set_option linter.unusedVariables false
namespace EB
set_option maxRecDepth 10000
/-! ### What stands behind some steps -/
def wStep (c : List Int × List Int) (x : Int × Int) : List Int × List Int := if x.1 = 1 then (putW c.1 x.2, c.2) else if x.1 = 2 then (c.1, putW c.2 x.2) else (c.1, takeW c.2 x.2)
def wF (n : Int) (T : List (Int × Int)) : List Int × List Int := T.foldl wStep (words n, words n)
def stB (T : List (Int × Int)) (m : Nat) : Bool := T.foldl (fun b x => if x.2 = (m : Int) ∧ x.1 = 1 then true else b) false
def prB (T : List (Int × Int)) (m : Nat) : Bool := T.foldl (fun b x => if x.2 = (m : Int) then (if x.1 = 1 then b else decide (x.1 = 2)) else b) false
def memL (n : Int) (f : Nat → Bool) : List Int := ((List.range n.toNat).filter f).map fun (i : Nat) => (i : Int)
theorem wF_snoc (n : Int) (T : List (Int × Int)) (x : Int × Int) : wF n (T ++ [x]) = wStep (wF n T) x := by simp [wF]
theorem stB_snoc (T : List (Int × Int)) (x : Int × Int) (m : Nat) : stB (T ++ [x]) m = if x.2 = (m : Int) ∧ x.1 = 1 then true else stB T m := by simp [stB]
theorem prB_snoc (T : List (Int × Int)) (x : Int × Int) (m : Nat) : prB (T ++ [x]) m = if x.2 = (m : Int) then (if x.1 = 1 then prB T m else decide (x.1 = 2)) else prB T m := by simp [prB]
/-- Steps that may be. -/
def StepsOk (n : Int) (T : List (Int × Int)) : Prop := ∀ i, i < T.length → (1 ≤ (T.getD i (0, 0)).1 ∧ (T.getD i (0, 0)).1 ≤ 3) ∧ 0 ≤ (T.getD i (0, 0)).2 ∧ (T.getD i (0, 0)).2 < n
structure WF (n : Int) (T : List (Int × Int)) : Prop where
  l1 : ((wF n T).1.length : Int) = (n + 63) / 64
  l2 : ((wF n T).2.length : Int) = (n + 63) / 64
  o1 : WOk (wF n T).1
  o2 : WOk (wF n T).2
  s1 : ∀ j : Nat, hasW (wF n T).1 j ↔ stB T j = true
  s2 : ∀ j : Nat, hasW (wF n T).2 j ↔ prB T j = true
  b1 : ∀ j : Nat, stB T j = true → (j : Int) < n
  b2 : ∀ j : Nat, prB T j = true → (j : Int) < n
theorem wf_nil {n : Int} (hn : 0 ≤ n) : WF n [] := ⟨words_len n hn, words_len n hn, words_ok n, words_ok n, (fun j => ⟨fun h => absurd h (words_none _ _), fun h => nomatch h⟩), (fun j => ⟨fun h => absurd h (words_none _ _), fun h => nomatch h⟩), (fun j h => nomatch h), (fun j h => nomatch h)⟩
theorem takeW_len (ws : List Int) (i : Int) : (takeW ws i).length = ws.length := by simp [takeW]
theorem wf_snoc {n : Int} {T : List (Int × Int)} {x : Int × Int} (h : WF n T) (hx : 0 ≤ x.2 ∧ x.2 < n) (hk : 1 ≤ x.1 ∧ x.1 ≤ 3) : WF n (T ++ [x]) := by
  obtain ⟨l1, l2, o1, o2, s1, s2, b1, b2⟩ := h
  have e : x.2 = (x.2.toNat : Int) := by omega
  have h1 : x.2.toNat / 64 < (wF n T).1.length := by omega
  have h2 : x.2.toNat / 64 < (wF n T).2.length := by omega
  have hw := wF_snoc n T x
  unfold wStep at hw
  by_cases k1 : x.1 = 1
  · rw [if_pos k1] at hw
    refine ⟨by rw [hw]; show ((putW _ _).length : Int) = _; rw [putW_len]; exact l1, by rw [hw]; exact l2, by rw [hw, e]; exact putW_ok o1 _ h1, by rw [hw]; exact o2, fun j => ?_, fun j => ?_, fun j hj => ?_, fun j hj => ?_⟩
    · rw [hw, stB_snoc, e]
      show hasW (putW _ _) _ ↔ _
      rw [hasW_put o1 _ _ h1, s1 j]
      by_cases c : j = x.2.toNat
      · rw [if_pos ⟨by omega, k1⟩]; simp [c]
      · rw [if_neg (by omega)]; simp [c]
    · rw [hw, prB_snoc, s2 j, if_pos k1]; simp
    · rw [stB_snoc] at hj
      split at hj
      · omega
      · exact b1 j hj
    · rw [prB_snoc, if_pos k1] at hj
      simp at hj
      exact b2 j hj
  · rw [if_neg k1] at hw
    by_cases k2 : x.1 = 2
    · rw [if_pos k2] at hw
      refine ⟨by rw [hw]; exact l1, by rw [hw]; show ((putW _ _).length : Int) = _; rw [putW_len]; exact l2, by rw [hw]; exact o1, by rw [hw, e]; exact putW_ok o2 _ h2, fun j => ?_, fun j => ?_, fun j hj => ?_, fun j hj => ?_⟩
      · rw [hw, stB_snoc, if_neg (by omega), s1 j]
      · rw [hw, prB_snoc, e, if_neg k1]
        show hasW (putW _ _) _ ↔ _
        rw [hasW_put o2 _ _ h2, s2 j]
        by_cases c : j = x.2.toNat
        · rw [if_pos (by omega), decide_eq_true k2]; simp [c]
        · rw [if_neg (by omega)]; simp [c]
      · rw [stB_snoc, if_neg (by omega)] at hj
        exact b1 j hj
      · rw [prB_snoc] at hj
        split at hj
        · omega
        · exact b2 j hj
    · rw [if_neg k2] at hw
      refine ⟨by rw [hw]; exact l1, by rw [hw]; show ((takeW _ _).length : Int) = _; rw [takeW_len]; exact l2, by rw [hw]; exact o1, by rw [hw, e]; exact takeW_ok o2 _ h2, fun j => ?_, fun j => ?_, fun j hj => ?_, fun j hj => ?_⟩
      · rw [hw, stB_snoc, if_neg (by omega), s1 j]
      · rw [hw, prB_snoc, e, if_neg k1]
        show hasW (takeW _ _) _ ↔ _
        rw [hasW_take o2 _ _ h2, s2 j]
        by_cases c : j = x.2.toNat
        · rw [if_pos (by omega), decide_eq_false k2]; simp [c]
        · rw [if_neg (by omega)]; simp [c]
      · rw [stB_snoc, if_neg (by omega)] at hj
        exact b1 j hj
      · rw [prB_snoc] at hj
        split at hj
        · omega
        · exact b2 j hj
theorem wf_take {n : Int} (hn : 0 ≤ n) {T : List (Int × Int)} (h : StepsOk n T) : ∀ i, i ≤ T.length → WF n (T.take i)
  | 0, _ => wf_nil hn
  | i + 1, hi => by
    rw [take_pair T i hi]
    exact wf_snoc (wf_take hn h i (by omega)) (h i hi).2 (h i hi).1
theorem wf_all {n : Int} (hn : 0 ≤ n) {T : List (Int × Int)} (h : StepsOk n T) : WF n T := by
  have := wf_take hn h T.length (Nat.le_refl _)
  rwa [List.take_length] at this
theorem memsTo_eq {ws : List Int} {n : Int} (hn : 0 ≤ n) (hl : (ws.length : Int) = (n + 63) / 64) {f : Nat → Bool} (h : ∀ j : Nat, hasW ws j ↔ f j = true) (hb : ∀ j : Nat, f j = true → (j : Int) < n) : memsTo ws (64 * ws.length) = memL n f := by
  unfold memsTo memL
  obtain ⟨d, hd⟩ := Nat.exists_eq_add_of_le (show n.toNat ≤ 64 * ws.length by omega)
  rw [hd, List.range_add, List.filter_append]
  have h1 : (List.range n.toNat).filter (fun (i : Nat) => decide (hasW ws i)) = (List.range n.toNat).filter f := by
    refine List.filter_congr fun j _ => ?_
    rw [Bool.eq_iff_iff, decide_eq_true_iff]; exact h j
  have h2 : ((List.range d).map (n.toNat + ·)).filter (fun (i : Nat) => decide (hasW ws i)) = [] := by
    rw [List.filter_eq_nil_iff]
    intro j hj
    rw [List.mem_map] at hj
    obtain ⟨a, _, rfl⟩ := hj
    rw [decide_eq_true_iff, h]
    intro hf
    have := hb _ hf
    omega
  rw [h1, h2, List.append_nil]
theorem take_ok {n : Int} {S : List (Int × Int)} (h : StepsOk n S) (k : Nat) : StepsOk n (S.take k) := by
  intro i hi
  rw [List.length_take] at hi
  have e : (S.take k).getD i (0, 0) = S.getD i (0, 0) := by
    rw [List.getD_eq_getElem?_getD, List.getD_eq_getElem?_getD, List.getElem?_take_of_lt (by omega)]
  rw [e]
  exact h i (by omega)
def stdE (n : Int) (S : List (Int × Int)) (k : Int) : Int := if n < 0 ∨ 512 < n then 1 else if ¬ chkE n S = 0 then chkE n S else if k < 0 ∨ (S.length : Int) < k then 2 else 0
def stdM (n : Int) (S : List (Int × Int)) (k : Int) : List Int := if stdE n S k = 0 then memL n (stB (S.take k.toNat)) else []
def stdP (n : Int) (S : List (Int × Int)) (k : Int) : List Int := if stdE n S k = 0 then memL n (prB (S.take k.toNat)) else []
theorem std_bad {n k e : Int} {S : List (Int × Int)} (h : e = stdE n S k) (h0 : ¬ e = 0) : [] = stdM n S k ∧ [] = stdP n S k := by
  unfold stdM stdP
  rw [if_neg (by rw [← h]; exact h0), if_neg (by rw [← h]; exact h0)]
  exact ⟨rfl, rfl⟩
theorem b20 (n : Int) (S : List (Int × Int)) (k : Int) : body Try.prog [c46, c47, c51, c53, c54] { asks := [(0, [])] } false Try.f20 [I n, Ps S, I k] (.tup [Ls (stdM n S k), Ls (stdP n S k), I (stdE n S k)]) := by
  have hend : ∀ {e : Int}, e = stdE n S k → ¬ e = 0 → [] = stdM n S k ∧ [] = stdP n S k ∧ e = stdE n S k := fun h h0 => ⟨(std_bad h h0).1, (std_bad h h0).2, h⟩
  (repeat' ((conv => whnf); first | (refine Giv.mk fun _ => ?_) | (refine Alt.l (Need.mk ?h ?_); case h => omega) | (refine Alt.r (Need.mk ?h ?_); case h => omega) | (refine Need.mk ?h ?_; case h => first | omega | (intro _; rfl) | assumption | (simp <;> omega)) | refine Ix.zero ?_ | refine Ix.one ?_ | refine Ix.two ?_ | refine Ix.nat ?_ | refine Ix.add ?_ | (apply Go.Eng.Pin.mk; apply Exists.intro) | apply Go.Eng.Pinned.mk rfl rfl | (apply Go.Eng.PinH.mk; apply Exists.intro; apply Exists.intro) | exact Go.Eng.Fin0.mk | refine Go.Eng.Chk.mk ?_ ?_ | refine Own.l ?_ | fail))
  (repeat' ((conv => whnf); first | (refine Giv.mk fun _ => ?_) | (refine Alt.l (Need.mk ?h ?_); case h => omega) | (refine Alt.r (Need.mk ?h ?_); case h => omega) | (refine Need.mk ?h ?_; case h => first | omega | (intro _; rfl) | assumption | (simp <;> omega)) | refine Ix.zero ?_ | refine Ix.one ?_ | refine Ix.two ?_ | refine Ix.nat ?_ | refine Ix.add ?_ | (apply Go.Eng.Pin.mk; apply Exists.intro) | apply Go.Eng.Pinned.mk rfl rfl | (apply Go.Eng.PinH.mk; apply Exists.intro; apply Exists.intro) | exact Go.Eng.Fin0.mk | refine Go.Eng.Chk.mk ?_ ?_ | refine Own.l ?_ | (refine Br.mkY ?h ?_; case h => first | omega | assumption) | (refine Br.mkN ?h ?_; case h => first | omega | assumption | exact not_not_intro (by assumption)) | (refine Br.mk (fun _ => ?_) (fun _ => ?_)) | fail))
  · have e : (1 : Int) = stdE n S k := by unfold stdE; rw [if_pos (by omega)]
    obtain ⟨e1, e2, e3⟩ := hend e (by omega)
    (conv => whnf)
    (repeat' (first | exact trivial | rfl | exact Nat.one_pos | (refine And.intro ?_ ?_) | ((conv => whnf); (refine And.intro ?_ ?_)) | ((conv => whnf); exact trivial)))
    all_goals assumption
  · have e : (1 : Int) = stdE n S k := by unfold stdE; rw [if_pos (by omega)]
    obtain ⟨e1, e2, e3⟩ := hend e (by omega)
    (conv => whnf)
    (repeat' (first | exact trivial | rfl | exact Nat.one_pos | (refine And.intro ?_ ?_) | ((conv => whnf); (refine And.intro ?_ ?_)) | ((conv => whnf); exact trivial)))
    all_goals assumption
  · rename_i hc
    have e : chkE n S = stdE n S k := by unfold stdE; rw [if_neg (by omega), if_pos hc]
    obtain ⟨e1, e2, e3⟩ := hend e hc
    (conv => whnf)
    (repeat' (first | exact trivial | rfl | exact Nat.one_pos | (refine And.intro ?_ ?_) | ((conv => whnf); (refine And.intro ?_ ?_)) | ((conv => whnf); exact trivial)))
    all_goals assumption
  · rename_i hc _
    have e : 2 = stdE n S k := by unfold stdE; rw [if_neg (by omega), if_neg hc, if_pos (by omega)]
    obtain ⟨e1, e2, e3⟩ := hend e (by omega)
    (conv => whnf)
    (repeat' (first | exact trivial | rfl | exact Nat.one_pos | (refine And.intro ?_ ?_) | ((conv => whnf); (refine And.intro ?_ ?_)) | ((conv => whnf); exact trivial)))
    all_goals assumption
  · rename_i hc _ _ _
    have e : 2 = stdE n S k := by unfold stdE; rw [if_neg (by omega), if_neg hc, if_pos (by omega)]
    obtain ⟨e1, e2, e3⟩ := hend e (by omega)
    (conv => whnf)
    (repeat' (first | exact trivial | rfl | exact Nat.one_pos | (refine And.intro ?_ ?_) | ((conv => whnf); (refine And.intro ?_ ?_)) | ((conv => whnf); exact trivial)))
    all_goals assumption
  · rename_i hc _ _ _
    have hc := Classical.not_not.1 hc
    have hn : 0 ≤ n := by omega
    have hT := take_ok (chkE_ok hn hc) k.toNat
    have hso : stdE n S k = 0 := by unfold stdE; rw [if_neg (by omega), if_neg (not_not_intro hc), if_neg (by omega)]
    refine ix_at k.toNat (by omega) ?_
    (repeat' ((conv => whnf); first | (refine Giv.mk fun _ => ?_) | (refine Alt.l (Need.mk ?h ?_); case h => omega) | (refine Alt.r (Need.mk ?h ?_); case h => omega) | (refine Need.mk ?h ?_; case h => first | omega | (intro _; rfl) | assumption | (simp <;> omega)) | refine Ix.zero ?_ | refine Ix.one ?_ | refine Ix.two ?_ | refine Ix.nat ?_ | refine Ix.add ?_ | (apply Go.Eng.Pin.mk; apply Exists.intro) | apply Go.Eng.Pinned.mk rfl rfl | (apply Go.Eng.PinH.mk; apply Exists.intro; apply Exists.intro) | exact Go.Eng.Fin0.mk | refine Go.Eng.Chk.mk ?_ ?_ | refine Own.l ?_ | fail))
    refine Ask.mk ⟨{ X := Nat, pre := fun i => i ≤ (S.take k.toNat).length, mod := fun i _ => [(42, I i)], heap := fun i _ => [.vec 1 (.int .i64) [] 3, .vec 1 (.int .i64) [] 3, .vec 1 (.int .u64) (wF n ((S.take k.toNat).take i)).1 103, .vec 1 (.int .u64) (wF n ((S.take k.toNat).take i)).2 103], mu := fun i => (S.take k.toNat).length - i }, rfl, ?_⟩
    (repeat' ((conv => whnf); first | (refine Giv.mk fun _ => ?_) | (refine Alt.l (Need.mk ?h ?_); case h => omega) | (refine Alt.r (Need.mk ?h ?_); case h => omega) | (refine Need.mk ?h ?_; case h => first | omega | (intro _; rfl) | assumption | (simp <;> omega)) | refine Ix.zero ?_ | refine Ix.one ?_ | refine Ix.two ?_ | refine Ix.nat ?_ | refine Ix.add ?_ | (apply Go.Eng.Pin.mk; apply Exists.intro) | apply Go.Eng.Pinned.mk rfl rfl | (apply Go.Eng.PinH.mk; apply Exists.intro; apply Exists.intro) | exact Go.Eng.Fin0.mk | refine Go.Eng.Chk.mk ?_ ?_ | refine Own.l ?_ | fail))
    refine ⟨⟨(0 : Nat), Nat.zero_le _, ?_⟩, fun (i : Nat) (hi : i ≤ (S.take k.toNat).length) => ?_⟩
    · (repeat' (first | exact trivial | rfl | exact Nat.one_pos | (refine And.intro ?_ ?_) | omega | ((conv => whnf); (refine And.intro ?_ ?_)) | ((conv => whnf); exact trivial)))
    · obtain ⟨l1, l2, _, _, _, _, _, _⟩ := wf_take hn hT i hi
      (repeat' ((conv => whnf); first | (refine Giv.mk fun _ => ?_) | (refine Alt.l (Need.mk ?h ?_); case h => omega) | (refine Alt.r (Need.mk ?h ?_); case h => omega) | (refine Need.mk ?h ?_; case h => first | omega | (intro _; rfl) | assumption | (simp <;> omega)) | refine Ix.zero ?_ | refine Ix.one ?_ | refine Ix.two ?_ | refine Ix.nat ?_ | refine Ix.add ?_ | (apply Go.Eng.Pin.mk; apply Exists.intro) | apply Go.Eng.Pinned.mk rfl rfl | (apply Go.Eng.PinH.mk; apply Exists.intro; apply Exists.intro) | exact Go.Eng.Fin0.mk | refine Go.Eng.Chk.mk ?_ ?_ | refine Own.l ?_ | fail))
      (refine Br.mk (fun _ => ?_) (fun _ => ?_))
      · have hlt : i < (S.take k.toNat).length := by omega
        obtain ⟨q1, q2, q3⟩ := hT i hlt
        have hsn := wF_snoc n ((S.take k.toNat).take i) ((S.take k.toNat).getD i (0, 0))
        rw [← take_pair _ i hlt] at hsn
        unfold wStep at hsn
        (repeat' ((conv => whnf); first | (refine Giv.mk fun _ => ?_) | (refine Alt.l (Need.mk ?h ?_); case h => omega) | (refine Alt.r (Need.mk ?h ?_); case h => omega) | (refine Need.mk ?h ?_; case h => first | omega | (intro _; rfl) | assumption | (simp <;> omega)) | refine Ix.zero ?_ | refine Ix.one ?_ | refine Ix.two ?_ | refine Ix.nat ?_ | refine Ix.add ?_ | (apply Go.Eng.Pin.mk; apply Exists.intro) | apply Go.Eng.Pinned.mk rfl rfl | (apply Go.Eng.PinH.mk; apply Exists.intro; apply Exists.intro) | exact Go.Eng.Fin0.mk | refine Go.Eng.Chk.mk ?_ ?_ | refine Own.l ?_ | (refine Br.mkY ?h ?_; case h => first | omega | assumption) | (refine Br.mkN ?h ?_; case h => first | omega | assumption | exact not_not_intro (by assumption)) | (refine Br.mk (fun _ => ?_) (fun _ => ?_)) | fail))
        · rename_i k1
          rw [if_pos k1] at hsn
          refine ⟨(i + 1 : Nat), by show (S.take k.toNat).length - (i + 1) < (S.take k.toNat).length - i; omega, hlt, ?_⟩
          (repeat' (first | exact trivial | rfl | exact Nat.one_pos | (refine And.intro ?_ ?_) | omega | ((conv => whnf); (refine And.intro ?_ ?_)) | ((conv => whnf); exact trivial)))
          · exact (congrArg Prod.fst hsn).symm
          · exact (congrArg Prod.snd hsn).symm
        · rename_i k1 k2
          rw [if_neg k1, if_pos k2] at hsn
          refine ⟨(i + 1 : Nat), by show (S.take k.toNat).length - (i + 1) < (S.take k.toNat).length - i; omega, hlt, ?_⟩
          (repeat' (first | exact trivial | rfl | exact Nat.one_pos | (refine And.intro ?_ ?_) | omega | ((conv => whnf); (refine And.intro ?_ ?_)) | ((conv => whnf); exact trivial)))
          · exact (congrArg Prod.fst hsn).symm
          · exact (congrArg Prod.snd hsn).symm
        · rename_i k1 k2
          rw [if_neg k1, if_neg k2] at hsn
          refine ⟨(i + 1 : Nat), by show (S.take k.toNat).length - (i + 1) < (S.take k.toNat).length - i; omega, hlt, ?_⟩
          (repeat' (first | exact trivial | rfl | exact Nat.one_pos | (refine And.intro ?_ ?_) | omega | ((conv => whnf); (refine And.intro ?_ ?_)) | ((conv => whnf); exact trivial)))
          · exact (congrArg Prod.fst hsn).symm
          · exact (congrArg Prod.snd hsn).symm
      · have hii : i = (S.take k.toNat).length := by omega
        have hT2 : (S.take k.toNat).take i = S.take k.toNat := by rw [hii, List.take_length]
        obtain ⟨_, _, _, _, s1, s2, b1, b2⟩ := wf_take hn hT i hi
        have e1 := memsTo_eq hn l1 s1 b1
        have e2 := memsTo_eq hn l2 s2 b2
        rw [hT2] at e1 e2
        (repeat' ((conv => whnf); first | (refine Giv.mk fun _ => ?_) | (refine Alt.l (Need.mk ?h ?_); case h => omega) | (refine Alt.r (Need.mk ?h ?_); case h => omega) | (refine Need.mk ?h ?_; case h => first | omega | (intro _; rfl) | assumption | (simp <;> omega)) | refine Ix.zero ?_ | refine Ix.one ?_ | refine Ix.two ?_ | refine Ix.nat ?_ | refine Ix.add ?_ | (apply Go.Eng.Pin.mk; apply Exists.intro) | apply Go.Eng.Pinned.mk rfl rfl | (apply Go.Eng.PinH.mk; apply Exists.intro; apply Exists.intro) | exact Go.Eng.Fin0.mk | refine Go.Eng.Chk.mk ?_ ?_ | refine Own.l ?_ | (refine Br.mkY ?h ?_; case h => first | omega | assumption) | (refine Br.mkN ?h ?_; case h => first | omega | assumption | exact not_not_intro (by assumption)) | fail))
        (conv => whnf)
        (repeat' (first | exact trivial | rfl | exact Nat.one_pos | (refine And.intro ?_ ?_) | ((conv => whnf); (refine And.intro ?_ ?_)) | ((conv => whnf); exact trivial)))
        · (conv => whnf)
          rw [hT2, e1]; unfold stdM; rw [if_pos hso]
        · (conv => whnf)
          rw [hT2, e2]; unfold stdP; rw [if_pos hso]
        · exact hso.symm
def c20 : Con := mkCon 20 false fun args K => match args with | [.val (.int .i64 n), .seq (.pair (.int .i64) (.int .i64)) S, .val (.int .i64 k)] => K (.tup [Ls (stdM n S k), Ls (stdP n S k), I (stdE n S k)]) | _ => False
theorem k20 : ConOK Try.prog c20 := by
  refine conOK_of rfl (enters_of Try.func20 (by kernel_rfl) rfl) ?_
  intro args K h
  simp only [c20] at h
  split at h
  · rename_i n S k; exact ⟨_, h, tri_of_body (Γ := [c46, c47, c51, c53, c54]) (by simp [k46, k47, k51, k53, k54]) Try.func20 (by simp [Try.ntmps20]) rfl (b20 n S k)⟩
  · exact h.elim
/-! ### slices.Contains -/
def isV (v x : Int) : Bool := decide (x = v)
theorem b57 (xs : List Int) (v : Int) : body Try.prog [] { loops := [(0, anIx 8 (isV v) xs 0)] } true Try.f57 [Ls xs, I v] (I (idxOf (isV v) xs)) := by
  (repeat' ((conv => whnf); first | (refine Giv.mk fun _ => ?_) | (refine Alt.l (Need.mk ?h ?_); case h => omega) | (refine Alt.r (Need.mk ?h ?_); case h => omega) | (refine Need.mk ?h ?_; case h => first | omega | (intro _; rfl) | assumption | (simp <;> omega)) | refine Ix.zero ?_ | refine Ix.one ?_ | refine Ix.two ?_ | refine Ix.nat ?_ | refine Ix.add ?_ | (apply Go.Eng.Pin.mk; apply Exists.intro) | apply Go.Eng.Pinned.mk rfl rfl | (apply Go.Eng.PinH.mk; apply Exists.intro; apply Exists.intro) | exact Go.Eng.Fin0.mk | refine Go.Eng.Chk.mk ?_ ?_ | refine Own.l ?_ | fail))
  refine ⟨⟨(0 : Nat), ⟨Nat.zero_le _, fun j hj => absurd hj (Nat.not_lt_zero _)⟩, by (repeat' (first | exact trivial | rfl | exact Nat.one_pos | (refine And.intro ?_ ?_) | omega | ((conv => whnf); (refine And.intro ?_ ?_)) | ((conv => whnf); exact trivial)))⟩, fun (i : Nat) hi => ?_⟩
  obtain ⟨hi, hb⟩ := hi
  (repeat' ((conv => whnf); first | (refine Giv.mk fun _ => ?_) | (refine Alt.l (Need.mk ?h ?_); case h => omega) | (refine Alt.r (Need.mk ?h ?_); case h => omega) | (refine Need.mk ?h ?_; case h => first | omega | (intro _; rfl) | assumption | (simp <;> omega)) | refine Ix.zero ?_ | refine Ix.one ?_ | refine Ix.two ?_ | refine Ix.nat ?_ | refine Ix.add ?_ | (apply Go.Eng.Pin.mk; apply Exists.intro) | apply Go.Eng.Pinned.mk rfl rfl | (apply Go.Eng.PinH.mk; apply Exists.intro; apply Exists.intro) | exact Go.Eng.Fin0.mk | refine Go.Eng.Chk.mk ?_ ?_ | refine Own.l ?_ | fail))
  (refine Br.mk (fun _ => ?_) (fun _ => ?_))
  · have hlt : i < xs.length := by omega
    (repeat' ((conv => whnf); first | (refine Giv.mk fun _ => ?_) | (refine Alt.l (Need.mk ?h ?_); case h => omega) | (refine Alt.r (Need.mk ?h ?_); case h => omega) | (refine Need.mk ?h ?_; case h => first | omega | (intro _; rfl) | assumption | (simp <;> omega)) | refine Ix.zero ?_ | refine Ix.one ?_ | refine Ix.two ?_ | refine Ix.nat ?_ | refine Ix.add ?_ | (apply Go.Eng.Pin.mk; apply Exists.intro) | apply Go.Eng.Pinned.mk rfl rfl | (apply Go.Eng.PinH.mk; apply Exists.intro; apply Exists.intro) | exact Go.Eng.Fin0.mk | refine Go.Eng.Chk.mk ?_ ?_ | refine Own.l ?_ | fail))
    (refine Br.mk (fun _ => ?_) (fun _ => ?_))
    · rename_i hh
      (repeat' ((conv => whnf); first | (refine Giv.mk fun _ => ?_) | (refine Alt.l (Need.mk ?h ?_); case h => omega) | (refine Alt.r (Need.mk ?h ?_); case h => omega) | (refine Need.mk ?h ?_; case h => first | omega | (intro _; rfl) | assumption | (simp <;> omega)) | refine Ix.zero ?_ | refine Ix.one ?_ | refine Ix.two ?_ | refine Ix.nat ?_ | refine Ix.add ?_ | (apply Go.Eng.Pin.mk; apply Exists.intro) | apply Go.Eng.Pinned.mk rfl rfl | (apply Go.Eng.PinH.mk; apply Exists.intro; apply Exists.intro) | exact Go.Eng.Fin0.mk | refine Go.Eng.Chk.mk ?_ ?_ | refine Own.l ?_ | fail))
      (conv => whnf)
      exact ⟨rfl, (idxOf_some 0 hlt (decide_eq_true (by omega)) hb).symm⟩
    · rename_i hh
      (repeat' ((conv => whnf); first | (refine Giv.mk fun _ => ?_) | (refine Alt.l (Need.mk ?h ?_); case h => omega) | (refine Alt.r (Need.mk ?h ?_); case h => omega) | (refine Need.mk ?h ?_; case h => first | omega | (intro _; rfl) | assumption | (simp <;> omega)) | refine Ix.zero ?_ | refine Ix.one ?_ | refine Ix.two ?_ | refine Ix.nat ?_ | refine Ix.add ?_ | (apply Go.Eng.Pin.mk; apply Exists.intro) | apply Go.Eng.Pinned.mk rfl rfl | (apply Go.Eng.PinH.mk; apply Exists.intro; apply Exists.intro) | exact Go.Eng.Fin0.mk | refine Go.Eng.Chk.mk ?_ ?_ | refine Own.l ?_ | fail))
      refine ⟨(i + 1 : Nat), by show xs.length - (i + 1) < xs.length - i; omega, ⟨hlt, fun j hj => ?_⟩, by (repeat' (first | exact trivial | rfl | exact Nat.one_pos | (refine And.intro ?_ ?_) | omega | ((conv => whnf); (refine And.intro ?_ ?_)) | ((conv => whnf); exact trivial)))⟩
      by_cases e : j = i
      · subst e; exact decide_eq_false (by omega)
      · exact hb j (by omega)
  · have hii : i = xs.length := by omega
    subst hii
    (repeat' ((conv => whnf); first | (refine Giv.mk fun _ => ?_) | (refine Alt.l (Need.mk ?h ?_); case h => omega) | (refine Alt.r (Need.mk ?h ?_); case h => omega) | (refine Need.mk ?h ?_; case h => first | omega | (intro _; rfl) | assumption | (simp <;> omega)) | refine Ix.zero ?_ | refine Ix.one ?_ | refine Ix.two ?_ | refine Ix.nat ?_ | refine Ix.add ?_ | (apply Go.Eng.Pin.mk; apply Exists.intro) | apply Go.Eng.Pinned.mk rfl rfl | (apply Go.Eng.PinH.mk; apply Exists.intro; apply Exists.intro) | exact Go.Eng.Fin0.mk | refine Go.Eng.Chk.mk ?_ ?_ | refine Own.l ?_ | fail))
    (conv => whnf)
    exact ⟨rfl, (idxOf_none 0 hb).symm⟩
def c57 : Con := mkCon 57 true fun args K => match args with | [.seq (.int .i64) xs, .val (.int .i64 v)] => K (I (idxOf (isV v) xs)) | _ => False
theorem k57 : ConOK Try.prog c57 := by
  refine conOK_of rfl (enters_of Try.func57 (by kernel_rfl) rfl) ?_
  intro args K h
  simp only [c57] at h
  split at h
  · rename_i xs v; exact ⟨_, h, tri_of_body (Γ := []) (by simp) Try.func57 (by simp [Try.ntmps57]) rfl (b57 xs v)⟩
  · exact h.elim
theorem any_isV (xs : List Int) (v : Int) : xs.any (isV v) = true ↔ v ∈ xs := by
  rw [List.any_eq_true]
  constructor
  · rintro ⟨x, hx, h⟩
    have := of_decide_eq_true h
    subst this; exact hx
  · intro h; exact ⟨v, h, decide_eq_true rfl⟩
theorem b21 (xs : List Int) (v : Int) : body Try.prog [c57] {} true Try.f21 [Ls xs, I v] (.bl (v ∈ xs) inferInstance) := by
  (repeat' ((conv => whnf); first | (refine Giv.mk fun _ => ?_) | (refine Alt.l (Need.mk ?h ?_); case h => omega) | (refine Alt.r (Need.mk ?h ?_); case h => omega) | (refine Need.mk ?h ?_; case h => first | omega | (intro _; rfl) | assumption | (simp <;> omega)) | refine Ix.zero ?_ | refine Ix.one ?_ | refine Ix.two ?_ | refine Ix.nat ?_ | refine Ix.add ?_ | (apply Go.Eng.Pin.mk; apply Exists.intro) | apply Go.Eng.Pinned.mk rfl rfl | (apply Go.Eng.PinH.mk; apply Exists.intro; apply Exists.intro) | exact Go.Eng.Fin0.mk | refine Go.Eng.Chk.mk ?_ ?_ | refine Own.l ?_ | fail))
  (conv => whnf)
  exact (idxOf_pos _ _).trans (any_isV xs v)
def c21 : Con := mkCon 21 true fun args K => match args with | [.seq (.int .i64) xs, .val (.int .i64 v)] => K (.bl (v ∈ xs) inferInstance) | _ => False
theorem k21 : ConOK Try.prog c21 := by
  refine conOK_of rfl (enters_of Try.func21 (by kernel_rfl) rfl) ?_
  intro args K h
  simp only [c21] at h
  split at h
  · rename_i xs v; exact ⟨_, h, tri_of_body (Γ := [c57]) (by simp [k57]) Try.func21 (by simp [Try.ntmps21]) rfl (b21 xs v)⟩
  · exact h.elim
end EB
end
section
set_option linter.unusedVariables false
open Go Go.Proofs Go.Eng Go.Shelf
set_option linter.unusedVariables false
namespace EB
set_option maxRecDepth 10000
/-! ### The plain law of ErectPrefixes -/
theorem fold_st (m : Int) : ∀ (T : List (Int × Int)) (b : Bool), T.foldl (fun b x => if x.2 = m ∧ x.1 = 1 then true else b) b = true ↔ b = true ∨ (1, m) ∈ T
  | [], b => by simp
  | x :: r, b => by
    rw [List.foldl_cons, fold_st m r, List.mem_cons]
    by_cases h : x.2 = m ∧ x.1 = 1
    · rw [if_pos h]
      have : (1, m) = x := Prod.ext h.2.symm h.1.symm
      simp [this]
    · rw [if_neg h]
      have : ¬ (1, m) = x := fun e => h (by rw [← e]; exact ⟨rfl, rfl⟩)
      simp [this]
theorem stB_iff (T : List (Int × Int)) (m : Nat) : stB T m = true ↔ (1, (m : Int)) ∈ T := by
  unfold stB; rw [fold_st]; simp
theorem fold_pr (m : Int) : ∀ (T : List (Int × Int)) (b : Bool), (∀ x ∈ T, x.1 = 1 ∨ x.1 = 2) → (T.foldl (fun b x => if x.2 = m then (if x.1 = 1 then b else decide (x.1 = 2)) else b) b = true ↔ b = true ∨ (2, m) ∈ T)
  | [], b, _ => by simp
  | x :: r, b, h => by
    rw [List.foldl_cons, fold_pr m r _ fun y hy => h y (List.mem_cons_of_mem _ hy), List.mem_cons]
    have hx := h x List.mem_cons_self
    by_cases h1 : x.2 = m
    · rw [if_pos h1]
      by_cases h2 : x.1 = 1
      · rw [if_pos h2]
        have : ¬ (2, m) = x := fun e => by rw [← e] at h2; exact absurd h2 (show ¬ (2 : Int) = 1 by decide)
        simp [this]
      · rw [if_neg h2]
        have h3 : x.1 = 2 := by omega
        have : (2, m) = x := Prod.ext h3.symm h1.symm
        simp [this, h3]
    · rw [if_neg h1]
      have : ¬ (2, m) = x := fun e => h1 (by rw [← e])
      simp [this]
theorem prB_iff {T : List (Int × Int)} (h : ∀ x ∈ T, x.1 = 1 ∨ x.1 = 2) (m : Nat) : prB T m = true ↔ (2, (m : Int)) ∈ T := by
  unfold prB; rw [fold_pr _ _ _ h]; simp
theorem memL_iff (n : Int) (f : Nat → Bool) (m : Int) : m ∈ memL n f ↔ 0 ≤ m ∧ m < n ∧ f m.toNat = true := by
  unfold memL
  simp only [List.mem_map, List.mem_filter, List.mem_range]
  constructor
  · rintro ⟨a, ⟨h1, h2⟩, rfl⟩
    exact ⟨by omega, by omega, h2⟩
  · rintro ⟨h1, h2, h3⟩
    exact ⟨m.toNat, ⟨by omega, h3⟩, by omega⟩
theorem mem_at {T : List (Int × Int)} {x : Int × Int} (h : x ∈ T) : ∃ i, i < T.length ∧ T.getD i (0, 0) = x := by
  obtain ⟨i, hi, rfl⟩ := List.getElem_of_mem h
  exact ⟨i, hi, by simp [List.getD_eq_getElem?_getD, hi]⟩
theorem at_mem (T : List (Int × Int)) (i : Nat) (h : i < T.length) : T.getD i (0, 0) ∈ T := by
  rw [List.getD_eq_getElem?_getD, List.getElem?_eq_getElem h]; exact List.getElem_mem h
theorem take_mem {T : List (Int × Int)} {k : Nat} {x : Int × Int} : x ∈ T.take k ↔ ∃ i, i < k ∧ i < T.length ∧ T.getD i (0, 0) = x := by
  constructor
  · intro h
    obtain ⟨i, hi, e⟩ := mem_at h
    rw [List.length_take] at hi
    refine ⟨i, by omega, by omega, ?_⟩
    rw [← e, List.getD_eq_getElem?_getD, List.getD_eq_getElem?_getD, List.getElem?_take_of_lt (by omega)]
  · rintro ⟨i, h1, h2, e⟩
    have : (T.take k).getD i (0, 0) = x := by rw [← e, List.getD_eq_getElem?_getD, List.getD_eq_getElem?_getD, List.getElem?_take_of_lt h1]
    rw [← this]
    exact at_mem _ _ (by rw [List.length_take]; omega)
theorem raisedL_mem (S : List (Int × Int)) (k : Nat) (m : Int) : m ∈ raisedL S k ↔ (1, m) ∈ S.take k := by
  unfold raisedL
  simp only [List.mem_map, List.mem_filter, decide_eq_true_eq]
  constructor
  · rintro ⟨x, ⟨h1, h2⟩, rfl⟩
    have : x = (1, x.2) := Prod.ext h2 rfl
    rw [← this]; exact h1
  · intro h; exact ⟨_, ⟨h, rfl⟩, rfl⟩
theorem take_mono {S : List (Int × Int)} {i k : Nat} (h : i ≤ k) {x : Int × Int} (hx : x ∈ S.take i) : x ∈ S.take k := by
  rw [take_mem] at hx ⊢
  obtain ⟨j, h1, h2, h3⟩ := hx
  exact ⟨j, by omega, h2, h3⟩
/-- A member that is raised was ready. -/
theorem ready_at {n : Int} {l : List (Int × Int)} (h : orderErr n l = 0) {i : Nat} (hi : i < (orderRes n l).length) (hk : ((orderRes n l).getD i (0, 0)).1 = 1) : readyP (onL n l) (putL (words n) (raisedL (orderRes n l) i)) ((orderRes n l).getD i (0, 0)).2 := by
  obtain ⟨_, _, r, h3⟩ := (ordered h).step i hi hk
  unfold readyRes at h3
  split at h3
  · have : ((orderRes n l).getD i (0, 0)).2 ∈ readyTo (onL n l) (putL (words n) (raisedL (orderRes n l) i)) n.toNat := by rw [h3]; exact List.mem_cons_self
    unfold readyTo at this
    rw [List.mem_map] at this
    obtain ⟨a, h1, h2⟩ := this
    rw [← h2]
    exact of_decide_eq_true (List.mem_filter.1 h1).2
  · cases h3
theorem lower_in {n : Int} {l : List (Int × Int)} {ms : List Int} (hn : 0 ≤ n) (hm : InN n ms) {u : Int} (hu : 0 ≤ u ∧ u < n) (h : readyP (onL n l) (putL (words n) ms) u) {r : Int × Int} (hr : r ∈ l) (h1 : r.1 = u) (h2 : 0 ≤ r.2) : r.2 ∈ ms := by
  have h3 := h.2
  have e : (onL n l).getD u.toNat [] = rowOf l l.length u.toNat := onN_get _ _ _ _ (by omega)
  rw [e, Bool.not_eq_true, List.any_eq_false] at h3
  have h4 : r.2 ∈ rowOf l l.length u.toNat := by
    unfold rowOf
    rw [List.take_length, List.mem_map]
    exact ⟨r, List.mem_filter.2 ⟨hr, decide_eq_true ⟨by omega, h2⟩⟩, rfl⟩
  have h5 := h3 _ h4
  unfold lackP at h5
  rw [decide_eq_true_iff] at h5
  exact (has_mem hn hm h2).1 (Classical.not_not.1 h5)
structure Pref (n : Int) (l S : List (Int × Int)) : Prop where
  ok : ∀ k : Nat, k ≤ S.length → stdE n S k = 0
  low : ∀ k : Nat, k ≤ S.length → ∀ r ∈ l, r.1 ∈ stdM n S k → 0 ≤ r.2 → r.2 ∈ stdM n S k
  prop_ : ∀ k : Nat, k ≤ S.length → ∀ m ∈ stdM n S k, ¬ l.any (upP m) = true → m ∈ stdP n S k
  all : ((stdM n S S.length).length : Int) = n
theorem chk_parts {n : Int} {l S : List (Int × Int)} (h : checkE n l S = 0) : supE n l = 0 ∧ chkE n S = 0 ∧ endE n (doAt (onL n l) (restL n l) n S S.length) = 0 := by
  unfold checkE at h
  split at h
  · cases h
  split at h
  · rename_i h1 h2; exact absurd h h2
  · rename_i h1 h2; exact ⟨Classical.not_not.1 h1, Classical.not_not.1 h2, h⟩
theorem pref {n : Int} {l : List (Int × Int)} (h : orderErr n l = 0) : Pref n l (orderRes n l) := by
  obtain ⟨w0, w1, w2, w3, w4, w5, w6, w7, w8⟩ := whole_ord h
  obtain ⟨_, hc, _⟩ := chk_parts w3
  have hok : ∀ k : Nat, k ≤ (orderRes n l).length → stdE n (orderRes n l) k = 0 := fun k hk => by
    unfold stdE; rw [if_neg (by omega), if_neg (not_not_intro hc), if_neg (by omega)]
  have hM : ∀ k : Nat, k ≤ (orderRes n l).length → ∀ m : Int, m ∈ stdM n (orderRes n l) k ↔ (0 ≤ m ∧ m < n) ∧ (1, m) ∈ (orderRes n l).take k := fun k hk m => by
    unfold stdM
    rw [if_pos (hok k hk), memL_iff, Int.toNat_natCast, stB_iff]
    constructor
    · rintro ⟨h1, h2, h3⟩
      rw [Int.toNat_of_nonneg h1] at h3
      exact ⟨⟨h1, h2⟩, h3⟩
    · rintro ⟨⟨h1, h2⟩, h3⟩
      refine ⟨h1, h2, ?_⟩
      rw [Int.toNat_of_nonneg h1]; exact h3
  have hin : ∀ i, InN n (raisedL (orderRes n l) i) := fun i m hm => by
    rw [raisedL_mem, take_mem] at hm
    obtain ⟨j, h1, h2, h3⟩ := hm
    have := (w5 j h2).2
    rw [h3] at this
    exact this
  have k12 : ∀ k : Nat, ∀ x ∈ (orderRes n l).take k, x.1 = 1 ∨ x.1 = 2 := fun k x hx => by
    rw [take_mem] at hx
    obtain ⟨j, h1, h2, h3⟩ := hx
    rw [← h3]; exact (w5 j h2).1
  refine ⟨hok, fun k hk r hr h1 h2 => ?_, fun k hk m hm hl => ?_, ?_⟩
  · rw [hM k hk] at h1 ⊢
    obtain ⟨h1, h3⟩ := h1
    rw [take_mem] at h3
    obtain ⟨i, i1, i2, i3⟩ := h3
    have hra := ready_at h i2 (by rw [i3])
    rw [i3] at hra
    have := lower_in w0 (hin i) h1 hra hr rfl h2
    refine ⟨hin i _ this, ?_⟩
    rw [raisedL_mem] at this
    exact take_mono (by omega) this
  · rw [hM k hk] at hm
    obtain ⟨h1, h3⟩ := hm
    rw [take_mem] at h3
    obtain ⟨i, i1, i2, i3⟩ := h3
    obtain ⟨p1, p2⟩ := w7 i i2 (by rw [i3]) (by rw [i3]; exact hl)
    have p3 := (w6 (i - 1) (by omega) p2).2.2
    rw [show i - 1 + 1 = i by omega, i3] at p3
    have p4 : (orderRes n l).getD (i - 1) (0, 0) = (2, m) := Prod.ext p2 (congrArg Prod.snd p3).symm
    unfold stdP
    rw [if_pos (hok k hk), memL_iff, Int.toNat_natCast, prB_iff (k12 k), Int.toNat_of_nonneg h1.1]
    exact ⟨h1.1, h1.2, take_mem.2 ⟨i - 1, by omega, by omega, p4⟩⟩
  · unfold stdM
    rw [if_pos (hok _ (Nat.le_refl _)), Int.toNat_natCast, List.take_length]
    have : (List.range n.toNat).filter (stB (orderRes n l)) = List.range n.toNat := by
      rw [List.filter_eq_self]
      intro m hm
      rw [List.mem_range] at hm
      have h1 := w8 m (by omega) (by omega)
      have h2 : (m : Int) ∈ raisedL (orderRes n l) (orderRes n l).length := by
        rw [← List.count_pos_iff]; omega
      rw [raisedL_mem, List.take_length] at h2
      rw [stB_iff]; exact h2
    unfold memL
    rw [this, List.length_map, List.length_range]; omega
end EB
end
section
set_option linter.unusedVariables false
open Go Go.Proofs Go.Eng Go.Shelf
set_option linter.unusedVariables false
namespace EB
set_option maxRecDepth 10000
theorem b5 (s : Int) (l : List (Int × Int)) (hs : inK .u8 s) : body Try.prog [c12, c13, c17, c20, c21] { asks := [(0, []), (2, []), (4, [])] } true Try.f5 [.val (.int .u8 s), Ps l] (.val (.bool true)) := by
  have h1 : 0 ≤ s := by have := hs.1; simpa [lo] using this
  have h2 : s ≤ 255 := by have := hs.2; simpa [hi] using this
  (repeat' ((conv => whnf); first | (refine Giv.mk fun _ => ?_) | (refine Alt.l (Need.mk ?h ?_); case h => omega) | (refine Alt.r (Need.mk ?h ?_); case h => omega) | (refine Need.mk ?h ?_; case h => first | omega | (intro _; rfl) | assumption | (simp <;> omega)) | refine Ix.zero ?_ | refine Ix.one ?_ | refine Ix.two ?_ | refine Ix.nat ?_ | refine Ix.add ?_ | (apply Go.Eng.Pin.mk; apply Exists.intro) | apply Go.Eng.Pinned.mk rfl rfl | (apply Go.Eng.PinH.mk; apply Exists.intro; apply Exists.intro) | exact Go.Eng.Fin0.mk | refine Go.Eng.Chk.mk ?_ ?_ | refine Own.l ?_ | fail))
  (refine Br.mk (fun _ => ?_) (fun _ => ?_))
  · (repeat' ((conv => whnf); first | (refine Giv.mk fun _ => ?_) | (refine Alt.l (Need.mk ?h ?_); case h => omega) | (refine Alt.r (Need.mk ?h ?_); case h => omega) | (refine Need.mk ?h ?_; case h => first | omega | (intro _; rfl) | assumption | (simp <;> omega)) | refine Ix.zero ?_ | refine Ix.one ?_ | refine Ix.two ?_ | refine Ix.nat ?_ | refine Ix.add ?_ | (apply Go.Eng.Pin.mk; apply Exists.intro) | apply Go.Eng.Pinned.mk rfl rfl | (apply Go.Eng.PinH.mk; apply Exists.intro; apply Exists.intro) | exact Go.Eng.Fin0.mk | refine Go.Eng.Chk.mk ?_ ?_ | refine Own.l ?_ | fail))
    (conv => whnf)
  · rename_i hok
    have hok := Classical.not_not.1 hok
    have hp := pref hok.2
    have hw := whole_ord hok.2
    have hr12 : res12 s l = orderRes (n12 s) l := by unfold res12; rw [if_pos hok.1]
    rw [← hr12] at hp hw
    obtain ⟨p1, p2, p3, p4⟩ := hp
    have w4 := hw.len
    (repeat' ((conv => whnf); first | (refine Giv.mk fun _ => ?_) | (refine Alt.l (Need.mk ?h ?_); case h => omega) | (refine Alt.r (Need.mk ?h ?_); case h => omega) | (refine Need.mk ?h ?_; case h => first | omega | (intro _; rfl) | assumption | (simp <;> omega)) | refine Ix.zero ?_ | refine Ix.one ?_ | refine Ix.two ?_ | refine Ix.nat ?_ | refine Ix.add ?_ | (apply Go.Eng.Pin.mk; apply Exists.intro) | apply Go.Eng.Pinned.mk rfl rfl | (apply Go.Eng.PinH.mk; apply Exists.intro; apply Exists.intro) | exact Go.Eng.Fin0.mk | refine Go.Eng.Chk.mk ?_ ?_ | refine Own.l ?_ | fail))
    refine Ask.mk ⟨{ X := Nat, pre := fun k => k ≤ (res12 s l).length + 1, mod := fun k _ => [(29, I k)], mu := fun k => (res12 s l).length + 1 - k }, rfl, ?_⟩
    (repeat' ((conv => whnf); first | (refine Giv.mk fun _ => ?_) | (refine Alt.l (Need.mk ?h ?_); case h => omega) | (refine Alt.r (Need.mk ?h ?_); case h => omega) | (refine Need.mk ?h ?_; case h => first | omega | (intro _; rfl) | assumption | (simp <;> omega)) | refine Ix.zero ?_ | refine Ix.one ?_ | refine Ix.two ?_ | refine Ix.nat ?_ | refine Ix.add ?_ | (apply Go.Eng.Pin.mk; apply Exists.intro) | apply Go.Eng.Pinned.mk rfl rfl | (apply Go.Eng.PinH.mk; apply Exists.intro; apply Exists.intro) | exact Go.Eng.Fin0.mk | refine Go.Eng.Chk.mk ?_ ?_ | refine Own.l ?_ | fail))
    refine ⟨⟨(0 : Nat), Nat.zero_le _, ?_⟩, fun (k : Nat) (hk : k ≤ (res12 s l).length + 1) => ?_⟩
    · (repeat' (first | exact trivial | rfl | exact Nat.one_pos | (refine And.intro ?_ ?_) | omega | ((conv => whnf); (refine And.intro ?_ ?_)) | ((conv => whnf); exact trivial)))
    · (repeat' ((conv => whnf); first | (refine Giv.mk fun _ => ?_) | (refine Alt.l (Need.mk ?h ?_); case h => omega) | (refine Alt.r (Need.mk ?h ?_); case h => omega) | (refine Need.mk ?h ?_; case h => first | omega | (intro _; rfl) | assumption | (simp <;> omega)) | refine Ix.zero ?_ | refine Ix.one ?_ | refine Ix.two ?_ | refine Ix.nat ?_ | refine Ix.add ?_ | (apply Go.Eng.Pin.mk; apply Exists.intro) | apply Go.Eng.Pinned.mk rfl rfl | (apply Go.Eng.PinH.mk; apply Exists.intro; apply Exists.intro) | exact Go.Eng.Fin0.mk | refine Go.Eng.Chk.mk ?_ ?_ | refine Own.l ?_ | fail))
      (refine Br.mk (fun _ => ?_) (fun _ => ?_))
      · have hkl : k ≤ (res12 s l).length := by omega
        have e1 := p1 k hkl
        (repeat' ((conv => whnf); first | (refine Giv.mk fun _ => ?_) | (refine Alt.l (Need.mk ?h ?_); case h => omega) | (refine Alt.r (Need.mk ?h ?_); case h => omega) | (refine Need.mk ?h ?_; case h => first | omega | (intro _; rfl) | assumption | (simp <;> omega)) | refine Ix.zero ?_ | refine Ix.one ?_ | refine Ix.two ?_ | refine Ix.nat ?_ | refine Ix.add ?_ | (apply Go.Eng.Pin.mk; apply Exists.intro) | apply Go.Eng.Pinned.mk rfl rfl | (apply Go.Eng.PinH.mk; apply Exists.intro; apply Exists.intro) | exact Go.Eng.Fin0.mk | refine Go.Eng.Chk.mk ?_ ?_ | refine Own.l ?_ | (refine Br.mkY ?h ?_; case h => first | omega | assumption) | (refine Br.mkN ?h ?_; case h => first | omega | assumption | exact not_not_intro (by assumption)) | fail))
        refine Ask.mk ⟨{ X := Nat, pre := fun i => i ≤ l.length, mod := fun i _ => [(44, I i)], mu := fun i => l.length - i }, rfl, ?_⟩
        (repeat' ((conv => whnf); first | (refine Giv.mk fun _ => ?_) | (refine Alt.l (Need.mk ?h ?_); case h => omega) | (refine Alt.r (Need.mk ?h ?_); case h => omega) | (refine Need.mk ?h ?_; case h => first | omega | (intro _; rfl) | assumption | (simp <;> omega)) | refine Ix.zero ?_ | refine Ix.one ?_ | refine Ix.two ?_ | refine Ix.nat ?_ | refine Ix.add ?_ | (apply Go.Eng.Pin.mk; apply Exists.intro) | apply Go.Eng.Pinned.mk rfl rfl | (apply Go.Eng.PinH.mk; apply Exists.intro; apply Exists.intro) | exact Go.Eng.Fin0.mk | refine Go.Eng.Chk.mk ?_ ?_ | refine Own.l ?_ | fail))
        refine ⟨⟨(0 : Nat), Nat.zero_le _, ?_⟩, fun (i : Nat) (hi : i ≤ l.length) => ?_⟩
        · (repeat' (first | exact trivial | rfl | exact Nat.one_pos | (refine And.intro ?_ ?_) | omega | ((conv => whnf); (refine And.intro ?_ ?_)) | ((conv => whnf); exact trivial)))
        · (repeat' ((conv => whnf); first | (refine Giv.mk fun _ => ?_) | (refine Alt.l (Need.mk ?h ?_); case h => omega) | (refine Alt.r (Need.mk ?h ?_); case h => omega) | (refine Need.mk ?h ?_; case h => first | omega | (intro _; rfl) | assumption | (simp <;> omega)) | refine Ix.zero ?_ | refine Ix.one ?_ | refine Ix.two ?_ | refine Ix.nat ?_ | refine Ix.add ?_ | (apply Go.Eng.Pin.mk; apply Exists.intro) | apply Go.Eng.Pinned.mk rfl rfl | (apply Go.Eng.PinH.mk; apply Exists.intro; apply Exists.intro) | exact Go.Eng.Fin0.mk | refine Go.Eng.Chk.mk ?_ ?_ | refine Own.l ?_ | fail))
          (refine Br.mk (fun _ => ?_) (fun _ => ?_))
          · have hlt : i < l.length := by omega
            have a1 := p2 k hkl _ (at_mem l i hlt)
            have arr : ∃ x', (l.length - x' < l.length - i) ∧ x' = i + 1 := ⟨i + 1, by omega, rfl⟩
            (repeat' ((conv => whnf); first | (refine Giv.mk fun _ => ?_) | (refine Alt.l (Need.mk ?h ?_); case h => omega) | (refine Alt.r (Need.mk ?h ?_); case h => omega) | (refine Need.mk ?h ?_; case h => first | omega | (intro _; rfl) | assumption | (simp <;> omega)) | refine Ix.zero ?_ | refine Ix.one ?_ | refine Ix.two ?_ | refine Ix.nat ?_ | refine Ix.add ?_ | (apply Go.Eng.Pin.mk; apply Exists.intro) | apply Go.Eng.Pinned.mk rfl rfl | (apply Go.Eng.PinH.mk; apply Exists.intro; apply Exists.intro) | exact Go.Eng.Fin0.mk | refine Go.Eng.Chk.mk ?_ ?_ | refine Own.l ?_ | fail))
            (refine Br.mk (fun _ => ?_) (fun _ => ?_))
            · rename_i b1
              (repeat' ((conv => whnf); first | (refine Giv.mk fun _ => ?_) | (refine Alt.l (Need.mk ?h ?_); case h => omega) | (refine Alt.r (Need.mk ?h ?_); case h => omega) | (refine Need.mk ?h ?_; case h => first | omega | (intro _; rfl) | assumption | (simp <;> omega)) | refine Ix.zero ?_ | refine Ix.one ?_ | refine Ix.two ?_ | refine Ix.nat ?_ | refine Ix.add ?_ | (apply Go.Eng.Pin.mk; apply Exists.intro) | apply Go.Eng.Pinned.mk rfl rfl | (apply Go.Eng.PinH.mk; apply Exists.intro; apply Exists.intro) | exact Go.Eng.Fin0.mk | refine Go.Eng.Chk.mk ?_ ?_ | refine Own.l ?_ | fail))
              (refine Br.mk (fun _ => ?_) (fun _ => ?_))
              · rename_i b2
                have a2 := a1 b1 (by omega)
                (repeat' ((conv => whnf); first | (refine Giv.mk fun _ => ?_) | (refine Alt.l (Need.mk ?h ?_); case h => omega) | (refine Alt.r (Need.mk ?h ?_); case h => omega) | (refine Need.mk ?h ?_; case h => first | omega | (intro _; rfl) | assumption | (simp <;> omega)) | refine Ix.zero ?_ | refine Ix.one ?_ | refine Ix.two ?_ | refine Ix.nat ?_ | refine Ix.add ?_ | (apply Go.Eng.Pin.mk; apply Exists.intro) | apply Go.Eng.Pinned.mk rfl rfl | (apply Go.Eng.PinH.mk; apply Exists.intro; apply Exists.intro) | exact Go.Eng.Fin0.mk | refine Go.Eng.Chk.mk ?_ ?_ | refine Own.l ?_ | (refine Br.mkY ?h ?_; case h => first | omega | assumption) | (refine Br.mkN ?h ?_; case h => first | omega | assumption | exact not_not_intro (by assumption)) | fail))
                refine ⟨(i + 1 : Nat), by show l.length - (i + 1) < l.length - i; omega, hlt, ?_⟩
                (repeat' (first | exact trivial | rfl | exact Nat.one_pos | (refine And.intro ?_ ?_) | omega | ((conv => whnf); (refine And.intro ?_ ?_)) | ((conv => whnf); exact trivial)))
              · (repeat' ((conv => whnf); first | (refine Giv.mk fun _ => ?_) | (refine Alt.l (Need.mk ?h ?_); case h => omega) | (refine Alt.r (Need.mk ?h ?_); case h => omega) | (refine Need.mk ?h ?_; case h => first | omega | (intro _; rfl) | assumption | (simp <;> omega)) | refine Ix.zero ?_ | refine Ix.one ?_ | refine Ix.two ?_ | refine Ix.nat ?_ | refine Ix.add ?_ | (apply Go.Eng.Pin.mk; apply Exists.intro) | apply Go.Eng.Pinned.mk rfl rfl | (apply Go.Eng.PinH.mk; apply Exists.intro; apply Exists.intro) | exact Go.Eng.Fin0.mk | refine Go.Eng.Chk.mk ?_ ?_ | refine Own.l ?_ | (refine Br.mkY ?h ?_; case h => first | omega | assumption) | (refine Br.mkN ?h ?_; case h => first | omega | assumption | exact not_not_intro (by assumption)) | fail))
                refine ⟨(i + 1 : Nat), by show l.length - (i + 1) < l.length - i; omega, hlt, ?_⟩
                (repeat' (first | exact trivial | rfl | exact Nat.one_pos | (refine And.intro ?_ ?_) | omega | ((conv => whnf); (refine And.intro ?_ ?_)) | ((conv => whnf); exact trivial)))
            · (repeat' ((conv => whnf); first | (refine Giv.mk fun _ => ?_) | (refine Alt.l (Need.mk ?h ?_); case h => omega) | (refine Alt.r (Need.mk ?h ?_); case h => omega) | (refine Need.mk ?h ?_; case h => first | omega | (intro _; rfl) | assumption | (simp <;> omega)) | refine Ix.zero ?_ | refine Ix.one ?_ | refine Ix.two ?_ | refine Ix.nat ?_ | refine Ix.add ?_ | (apply Go.Eng.Pin.mk; apply Exists.intro) | apply Go.Eng.Pinned.mk rfl rfl | (apply Go.Eng.PinH.mk; apply Exists.intro; apply Exists.intro) | exact Go.Eng.Fin0.mk | refine Go.Eng.Chk.mk ?_ ?_ | refine Own.l ?_ | (refine Br.mkY ?h ?_; case h => first | omega | assumption) | (refine Br.mkN ?h ?_; case h => first | omega | assumption | exact not_not_intro (by assumption)) | fail))
              refine ⟨(i + 1 : Nat), by show l.length - (i + 1) < l.length - i; omega, hlt, ?_⟩
              (repeat' (first | exact trivial | rfl | exact Nat.one_pos | (refine And.intro ?_ ?_) | omega | ((conv => whnf); (refine And.intro ?_ ?_)) | ((conv => whnf); exact trivial)))
          · (repeat' ((conv => whnf); first | (refine Giv.mk fun _ => ?_) | (refine Alt.l (Need.mk ?h ?_); case h => omega) | (refine Alt.r (Need.mk ?h ?_); case h => omega) | (refine Need.mk ?h ?_; case h => first | omega | (intro _; rfl) | assumption | (simp <;> omega)) | refine Ix.zero ?_ | refine Ix.one ?_ | refine Ix.two ?_ | refine Ix.nat ?_ | refine Ix.add ?_ | (apply Go.Eng.Pin.mk; apply Exists.intro) | apply Go.Eng.Pinned.mk rfl rfl | (apply Go.Eng.PinH.mk; apply Exists.intro; apply Exists.intro) | exact Go.Eng.Fin0.mk | refine Go.Eng.Chk.mk ?_ ?_ | refine Own.l ?_ | fail))
            refine Ask.mk ⟨{ X := Nat, pre := fun i => i ≤ (stdM (n12 s) (res12 s l) k).length, mod := fun i _ => [(67, I i)], mu := fun i => (stdM (n12 s) (res12 s l) k).length - i }, rfl, ?_⟩
            (repeat' ((conv => whnf); first | (refine Giv.mk fun _ => ?_) | (refine Alt.l (Need.mk ?h ?_); case h => omega) | (refine Alt.r (Need.mk ?h ?_); case h => omega) | (refine Need.mk ?h ?_; case h => first | omega | (intro _; rfl) | assumption | (simp <;> omega)) | refine Ix.zero ?_ | refine Ix.one ?_ | refine Ix.two ?_ | refine Ix.nat ?_ | refine Ix.add ?_ | (apply Go.Eng.Pin.mk; apply Exists.intro) | apply Go.Eng.Pinned.mk rfl rfl | (apply Go.Eng.PinH.mk; apply Exists.intro; apply Exists.intro) | exact Go.Eng.Fin0.mk | refine Go.Eng.Chk.mk ?_ ?_ | refine Own.l ?_ | fail))
            refine ⟨⟨(0 : Nat), Nat.zero_le _, ?_⟩, fun (j : Nat) (hj : j ≤ (stdM (n12 s) (res12 s l) k).length) => ?_⟩
            · (repeat' (first | exact trivial | rfl | exact Nat.one_pos | (refine And.intro ?_ ?_) | omega | ((conv => whnf); (refine And.intro ?_ ?_)) | ((conv => whnf); exact trivial)))
            · (repeat' ((conv => whnf); first | (refine Giv.mk fun _ => ?_) | (refine Alt.l (Need.mk ?h ?_); case h => omega) | (refine Alt.r (Need.mk ?h ?_); case h => omega) | (refine Need.mk ?h ?_; case h => first | omega | (intro _; rfl) | assumption | (simp <;> omega)) | refine Ix.zero ?_ | refine Ix.one ?_ | refine Ix.two ?_ | refine Ix.nat ?_ | refine Ix.add ?_ | (apply Go.Eng.Pin.mk; apply Exists.intro) | apply Go.Eng.Pinned.mk rfl rfl | (apply Go.Eng.PinH.mk; apply Exists.intro; apply Exists.intro) | exact Go.Eng.Fin0.mk | refine Go.Eng.Chk.mk ?_ ?_ | refine Own.l ?_ | fail))
              (refine Br.mk (fun _ => ?_) (fun _ => ?_))
              · have hlt : j < (stdM (n12 s) (res12 s l) k).length := by omega
                have a1 := p3 k hkl ((stdM (n12 s) (res12 s l) k).getD j 0) (by rw [List.getD_eq_getElem?_getD, List.getElem?_eq_getElem hlt]; exact List.getElem_mem hlt)
                (repeat' ((conv => whnf); first | (refine Giv.mk fun _ => ?_) | (refine Alt.l (Need.mk ?h ?_); case h => omega) | (refine Alt.r (Need.mk ?h ?_); case h => omega) | (refine Need.mk ?h ?_; case h => first | omega | (intro _; rfl) | assumption | (simp <;> omega)) | refine Ix.zero ?_ | refine Ix.one ?_ | refine Ix.two ?_ | refine Ix.nat ?_ | refine Ix.add ?_ | (apply Go.Eng.Pin.mk; apply Exists.intro) | apply Go.Eng.Pinned.mk rfl rfl | (apply Go.Eng.PinH.mk; apply Exists.intro; apply Exists.intro) | exact Go.Eng.Fin0.mk | refine Go.Eng.Chk.mk ?_ ?_ | refine Own.l ?_ | fail))
                (refine Br.mk (fun _ => ?_) (fun _ => ?_))
                · rename_i b1
                  have a2 := a1 b1
                  (repeat' ((conv => whnf); first | (refine Giv.mk fun _ => ?_) | (refine Alt.l (Need.mk ?h ?_); case h => omega) | (refine Alt.r (Need.mk ?h ?_); case h => omega) | (refine Need.mk ?h ?_; case h => first | omega | (intro _; rfl) | assumption | (simp <;> omega)) | refine Ix.zero ?_ | refine Ix.one ?_ | refine Ix.two ?_ | refine Ix.nat ?_ | refine Ix.add ?_ | (apply Go.Eng.Pin.mk; apply Exists.intro) | apply Go.Eng.Pinned.mk rfl rfl | (apply Go.Eng.PinH.mk; apply Exists.intro; apply Exists.intro) | exact Go.Eng.Fin0.mk | refine Go.Eng.Chk.mk ?_ ?_ | refine Own.l ?_ | (refine Br.mkY ?h ?_; case h => first | omega | assumption) | (refine Br.mkN ?h ?_; case h => first | omega | assumption | exact not_not_intro (by assumption)) | fail))
                  refine ⟨(j + 1 : Nat), by show (stdM (n12 s) (res12 s l) k).length - (j + 1) < (stdM (n12 s) (res12 s l) k).length - j; omega, hlt, ?_⟩
                  (repeat' (first | exact trivial | rfl | exact Nat.one_pos | (refine And.intro ?_ ?_) | omega | ((conv => whnf); (refine And.intro ?_ ?_)) | ((conv => whnf); exact trivial)))
                · (repeat' ((conv => whnf); first | (refine Giv.mk fun _ => ?_) | (refine Alt.l (Need.mk ?h ?_); case h => omega) | (refine Alt.r (Need.mk ?h ?_); case h => omega) | (refine Need.mk ?h ?_; case h => first | omega | (intro _; rfl) | assumption | (simp <;> omega)) | refine Ix.zero ?_ | refine Ix.one ?_ | refine Ix.two ?_ | refine Ix.nat ?_ | refine Ix.add ?_ | (apply Go.Eng.Pin.mk; apply Exists.intro) | apply Go.Eng.Pinned.mk rfl rfl | (apply Go.Eng.PinH.mk; apply Exists.intro; apply Exists.intro) | exact Go.Eng.Fin0.mk | refine Go.Eng.Chk.mk ?_ ?_ | refine Own.l ?_ | (refine Br.mkY ?h ?_; case h => first | omega | assumption) | (refine Br.mkN ?h ?_; case h => first | omega | assumption | exact not_not_intro (by assumption)) | fail))
                  refine ⟨(j + 1 : Nat), by show (stdM (n12 s) (res12 s l) k).length - (j + 1) < (stdM (n12 s) (res12 s l) k).length - j; omega, hlt, ?_⟩
                  (repeat' (first | exact trivial | rfl | exact Nat.one_pos | (refine And.intro ?_ ?_) | omega | ((conv => whnf); (refine And.intro ?_ ?_)) | ((conv => whnf); exact trivial)))
              · (repeat' ((conv => whnf); first | (refine Giv.mk fun _ => ?_) | (refine Alt.l (Need.mk ?h ?_); case h => omega) | (refine Alt.r (Need.mk ?h ?_); case h => omega) | (refine Need.mk ?h ?_; case h => first | omega | (intro _; rfl) | assumption | (simp <;> omega)) | refine Ix.zero ?_ | refine Ix.one ?_ | refine Ix.two ?_ | refine Ix.nat ?_ | refine Ix.add ?_ | (apply Go.Eng.Pin.mk; apply Exists.intro) | apply Go.Eng.Pinned.mk rfl rfl | (apply Go.Eng.PinH.mk; apply Exists.intro; apply Exists.intro) | exact Go.Eng.Fin0.mk | refine Go.Eng.Chk.mk ?_ ?_ | refine Own.l ?_ | fail))
                (refine Br.mk (fun _ => ?_) (fun _ => ?_))
                · rename_i b1
                  have hkk : k = (res12 s l).length := by omega
                  subst hkk
                  (repeat' ((conv => whnf); first | (refine Giv.mk fun _ => ?_) | (refine Alt.l (Need.mk ?h ?_); case h => omega) | (refine Alt.r (Need.mk ?h ?_); case h => omega) | (refine Need.mk ?h ?_; case h => first | omega | (intro _; rfl) | assumption | (simp <;> omega)) | refine Ix.zero ?_ | refine Ix.one ?_ | refine Ix.two ?_ | refine Ix.nat ?_ | refine Ix.add ?_ | (apply Go.Eng.Pin.mk; apply Exists.intro) | apply Go.Eng.Pinned.mk rfl rfl | (apply Go.Eng.PinH.mk; apply Exists.intro; apply Exists.intro) | exact Go.Eng.Fin0.mk | refine Go.Eng.Chk.mk ?_ ?_ | refine Own.l ?_ | (refine Br.mkY ?h ?_; case h => first | omega | assumption) | (refine Br.mkN ?h ?_; case h => first | omega | assumption | exact not_not_intro (by assumption)) | fail))
                  refine ⟨((res12 s l).length + 1 : Nat), by show (res12 s l).length + 1 - ((res12 s l).length + 1) < (res12 s l).length + 1 - (res12 s l).length; omega, Nat.le_refl _, ?_⟩
                  (repeat' (first | exact trivial | rfl | exact Nat.one_pos | (refine And.intro ?_ ?_) | omega | ((conv => whnf); (refine And.intro ?_ ?_)) | ((conv => whnf); exact trivial)))
                · (repeat' ((conv => whnf); first | (refine Giv.mk fun _ => ?_) | (refine Alt.l (Need.mk ?h ?_); case h => omega) | (refine Alt.r (Need.mk ?h ?_); case h => omega) | (refine Need.mk ?h ?_; case h => first | omega | (intro _; rfl) | assumption | (simp <;> omega)) | refine Ix.zero ?_ | refine Ix.one ?_ | refine Ix.two ?_ | refine Ix.nat ?_ | refine Ix.add ?_ | (apply Go.Eng.Pin.mk; apply Exists.intro) | apply Go.Eng.Pinned.mk rfl rfl | (apply Go.Eng.PinH.mk; apply Exists.intro; apply Exists.intro) | exact Go.Eng.Fin0.mk | refine Go.Eng.Chk.mk ?_ ?_ | refine Own.l ?_ | (refine Br.mkY ?h ?_; case h => first | omega | assumption) | (refine Br.mkN ?h ?_; case h => first | omega | assumption | exact not_not_intro (by assumption)) | fail))
                  refine ⟨(k + 1 : Nat), by show (res12 s l).length + 1 - (k + 1) < (res12 s l).length + 1 - k; omega, by show k + 1 ≤ _; omega, ?_⟩
                  (repeat' (first | exact trivial | rfl | exact Nat.one_pos | (refine And.intro ?_ ?_) | omega | ((conv => whnf); (refine And.intro ?_ ?_)) | ((conv => whnf); exact trivial)))
      · (repeat' ((conv => whnf); first | (refine Giv.mk fun _ => ?_) | (refine Alt.l (Need.mk ?h ?_); case h => omega) | (refine Alt.r (Need.mk ?h ?_); case h => omega) | (refine Need.mk ?h ?_; case h => first | omega | (intro _; rfl) | assumption | (simp <;> omega)) | refine Ix.zero ?_ | refine Ix.one ?_ | refine Ix.two ?_ | refine Ix.nat ?_ | refine Ix.add ?_ | (apply Go.Eng.Pin.mk; apply Exists.intro) | apply Go.Eng.Pinned.mk rfl rfl | (apply Go.Eng.PinH.mk; apply Exists.intro; apply Exists.intro) | exact Go.Eng.Fin0.mk | refine Go.Eng.Chk.mk ?_ ?_ | refine Own.l ?_ | (refine Br.mkY ?h ?_; case h => first | omega | assumption) | (refine Br.mkN ?h ?_; case h => first | omega | assumption | exact not_not_intro (by assumption)) | fail))
        (conv => whnf)
theorem t5 (s : Int) (l : List (Int × Int)) (hs : inK .u8 s) (hl : Okd (.slice Two) l) :
    Tri Try.prog true 5 [.val (.int .u8 s), Ps l] (.val (.bool true)) :=
  tri_of_body (Γ := [c12, c13, c17, c20, c21]) (by simp [k12, k13, k17, k20, k21]) Try.func5 (by simp [Try.ntmps5]) rfl (b5 s l hs)
end EB
end
section
set_option linter.unusedVariables false
open Go Go.Proofs Go.Eng Go.Shelf
set_option linter.unusedVariables false
namespace EB
set_option maxRecDepth 10000
/-! ### Props, as a list of members -/
theorem snoc_ind {α : Type} {P : List α → Prop} (h0 : P []) (h1 : ∀ l a, P l → P (l ++ [a])) : ∀ l, P l := by
  have : ∀ l : List α, P l.reverse := by
    intro l
    induction l with
    | nil => exact h0
    | cons a r ih => rw [List.reverse_cons]; exact h1 _ _ ih
  intro l
  have h := this l.reverse
  rwa [List.reverse_reverse] at h
structure RS where
  set : List Int
  most : Int
  err : Int
def refStep (s : RS) (x : Int × Int) : RS :=
  if s.err ≠ 0 then s
  else if x.1 = 2 then (if x.2 ∈ s.set then ⟨s.set, 0, 7⟩ else ⟨s.set ++ [x.2], max s.most ((s.set.length + 1 : Nat) : Int), 0⟩)
  else if x.1 = 3 then (if x.2 ∈ s.set then ⟨s.set.erase x.2, s.most, 0⟩ else ⟨s.set, 0, 6⟩)
  else s
def refF (T : List (Int × Int)) : RS := T.foldl refStep ⟨[], 0, 0⟩
theorem refF_snoc (T : List (Int × Int)) (x : Int × Int) : refF (T ++ [x]) = refStep (refF T) x := by simp [refF]
def keysOf (m : MapS Bool) : List Int := m.es.map fun e => e.2.1
def AllT (m : MapS Bool) : Prop := ∀ e ∈ m.es, e.2.2 = true
theorem findK_keys : ∀ (es : List (Nat × Int × Bool)), (∀ e ∈ es, e.2.2 = true) → ∀ n, ((findK es n).getD false = true ↔ n ∈ es.map fun e => e.2.1)
  | [], _, n => by simp [findK]
  | e :: r, h, n => by
    have ih := findK_keys r (fun x hx => h x (List.mem_cons_of_mem _ hx)) n
    unfold findK
    rw [List.map_cons, List.mem_cons]
    by_cases hn : e.2.1 = n
    · rw [if_pos hn]; simp [hn, h e List.mem_cons_self]
    · rw [if_neg hn, ih]
      constructor
      · exact .inr
      · rintro (h | h)
        · exact absurd h.symm hn
        · exact h
theorem get_keys {m : MapS Bool} (h : AllT m) (n : Int) : (m.get n).getD false = true ↔ n ∈ keysOf m := findK_keys m.es h n
theorem findK_none : ∀ (es : List (Nat × Int × Bool)) (n : Int), ¬ n ∈ (es.map fun e => e.2.1) → findK es n = none
  | [], _, _ => rfl
  | e :: r, n, h => by
    rw [List.map_cons, List.mem_cons] at h
    unfold findK
    rw [if_neg fun e => h (.inl e.symm), findK_none r n fun e => h (.inr e)]
theorem put_keys {m : MapS Bool} {n : Int} (ha : AllT m) (h : ¬ n ∈ keysOf m) : keysOf (m.put n true) = keysOf m ++ [n] ∧ AllT (m.put n true) := by
  have hf : findK m.es n = none := findK_none _ _ h
  unfold MapS.put keysOf AllT
  rw [hf]
  refine ⟨by simp, fun e he => ?_⟩
  rcases List.mem_append.1 he with h | h
  · exact ha e h
  · rw [List.mem_singleton.1 h]
theorem delK_keys : ∀ (es : List (Nat × Int × Bool)) (n : Int), (delK es n).map (fun e => e.2.1) = (es.map fun e => e.2.1).erase n
  | [], _ => rfl
  | e :: r, n => by
    unfold delK
    rw [List.map_cons, List.erase_cons]
    by_cases h : e.2.1 = n
    · rw [if_pos h, if_pos (by simpa using h)]
    · rw [if_neg h, if_neg (by simpa using h), List.map_cons, delK_keys r n]
theorem delK_sub : ∀ (es : List (Nat × Int × Bool)) (n : Int) (e), e ∈ delK es n → e ∈ es
  | [], _, _, h => h
  | x :: r, n, e, h => by
    unfold delK at h
    split at h
    · exact List.mem_cons_of_mem _ h
    · rcases List.mem_cons.1 h with h | h
      · rw [h]; exact List.mem_cons_self
      · exact List.mem_cons_of_mem _ (delK_sub r n e h)
theorem del_keys {m : MapS Bool} {n : Int} (ha : AllT m) : keysOf (m.del n) = (keysOf m).erase n ∧ AllT (m.del n) :=
  ⟨delK_keys m.es n, fun e he => ha e (delK_sub m.es n e he)⟩
structure Sim (p : PS) (r : RS) : Prop where
  err : p.err = r.err
  most : p.most = r.most
  keys : p.err = 0 → keysOf p.m = r.set ∧ AllT p.m
theorem keys_len (m : MapS Bool) : (keysOf m).length = m.es.length := by simp [keysOf]
theorem sim_take (S : List (Int × Int)) : ∀ i, i ≤ S.length → Sim (propAt S i) (refF (S.take i))
  | 0, _ => ⟨rfl, rfl, fun _ => ⟨rfl, fun e he => nomatch he⟩⟩
  | i + 1, hi => by
    obtain ⟨h1, h2, h3⟩ := sim_take S i (by omega)
    rw [take_pair S i hi, refF_snoc, propAt_succ]
    unfold propStep refStep
    rw [← h1]
    by_cases he : (propAt S i).err ≠ 0
    · rw [if_pos he, if_pos he]; exact ⟨h1, h2, h3⟩
    · rw [if_neg he, if_neg he]
      have he := Classical.not_not.1 he
      obtain ⟨k1, k2⟩ := h3 he
      have hg := get_keys k2 (S.getD i (0, 0)).2
      rw [k1] at hg
      by_cases c2 : (S.getD i (0, 0)).1 = 2
      · rw [if_pos c2, if_pos c2]
        by_cases hm : (S.getD i (0, 0)).2 ∈ (refF (S.take i)).set
        · rw [if_pos (hg.2 hm), if_pos hm]
          exact ⟨rfl, rfl, fun h => by cases h⟩
        · rw [if_neg (fun h => hm (hg.1 h)), if_neg hm]
          obtain ⟨p1, p2⟩ := put_keys (n := (S.getD i (0, 0)).2) k2 (by rw [k1]; exact hm)
          refine ⟨rfl, ?_, fun _ => ⟨by rw [p1, k1], p2⟩⟩
          show max _ _ = max _ _
          rw [h2, ← keys_len, p1, k1, List.length_append]; rfl
      · rw [if_neg c2, if_neg c2]
        by_cases c3 : (S.getD i (0, 0)).1 = 3
        · rw [if_pos c3, if_pos c3]
          by_cases hm : (S.getD i (0, 0)).2 ∈ (refF (S.take i)).set
          · rw [if_pos (hg.2 hm), if_pos hm]
            obtain ⟨p1, p2⟩ := del_keys (n := (S.getD i (0, 0)).2) k2
            exact ⟨rfl, h2, fun _ => ⟨by rw [p1, k1], p2⟩⟩
          · rw [if_neg (fun h => hm (hg.1 h)), if_neg hm]
            exact ⟨rfl, rfl, fun h => by cases h⟩
        · rw [if_neg c3, if_neg c3]
          exact ⟨h1, h2, h3⟩
theorem props_ref {S : List (Int × Int)} (hc : chkE (-1) S = 0) : propsE S = (refF S).err ∧ propsN S = if (refF S).err = 0 then (refF S).most else 0 := by
  have hs := sim_take S S.length (Nat.le_refl _)
  rw [List.take_length] at hs
  have e : propsE S = (refF S).err := by unfold propsE; rw [if_neg (not_not_intro hc), hs.err]
  refine ⟨e, ?_⟩
  unfold propsN
  rw [e]
  by_cases h : (refF S).err = 0
  · rw [if_neg (not_not_intro h), if_pos h, hs.most]
  · rw [if_pos h, if_neg h]
/-! ### The props of an order -/
theorem ref_order (rs : List Bool) : ∀ ms : List Int, ms.Nodup → refF (stepsOf rs ms) = ⟨propsOf rs ms, (propsOf rs ms).length, 0⟩ := by
  refine snoc_ind (fun _ => rfl) fun ms m ih hnd => ?_
  rw [List.nodup_append] at hnd
  have hni : ¬ m ∈ ms := fun h => hnd.2.2 m h m (List.mem_singleton.2 rfl) rfl
  have ih := ih hnd.1
  rw [stepsOf_append, show stepsOf rs [m] = stepOf rs m from List.append_nil _]
  unfold stepOf
  by_cases hr : rs.getD m.toNat false = true
  · rw [if_pos hr, refF_snoc, ih]
    have hp : propsOf rs (ms ++ [m]) = propsOf rs ms := by
      unfold propsOf; rw [List.filter_append, List.filter_cons_of_neg (by rw [hr]; simp), List.filter_nil, List.append_nil]
    rw [hp]
    unfold refStep
    rw [if_neg (by simp), if_neg (show ¬ (1 : Int) = 2 by decide), if_neg (show ¬ (1 : Int) = 3 by decide)]
  · rw [if_neg hr, show stepsOf rs ms ++ [(2, m), (1, m)] = (stepsOf rs ms ++ [(2, m)]) ++ [(1, m)] by simp, refF_snoc, refF_snoc, ih]
    have hp : propsOf rs (ms ++ [m]) = propsOf rs ms ++ [m] := by
      unfold propsOf; rw [List.filter_append, List.filter_cons_of_pos (by rw [Bool.eq_false_iff.2 hr]; rfl), List.filter_nil]
    rw [hp]
    have hn : ¬ m ∈ propsOf rs ms := fun h => hni (List.mem_filter.1 h).1
    have e1 : refStep ⟨propsOf rs ms, (propsOf rs ms).length, 0⟩ (2, m) = ⟨propsOf rs ms ++ [m], ((propsOf rs ms ++ [m]).length : Nat), 0⟩ := by
      unfold refStep
      rw [if_neg (by simp), if_pos rfl, if_neg hn]
      congr 1
      show max ((propsOf rs ms).length : Int) (((propsOf rs ms).length + 1 : Nat) : Int) = _
      rw [List.length_append, List.length_singleton]
      omega
    rw [e1]
    unfold refStep
    rw [if_neg (by simp), if_neg (show ¬ (1 : Int) = 2 by decide), if_neg (show ¬ (1 : Int) = 3 by decide)]
def cntFree (l : List (Int × Int)) (i : Nat) : Int := ((List.range i).filter fun m : Nat => !(l.any (upP m))).length
theorem cntFree_succ (l : List (Int × Int)) (i : Nat) : cntFree l (i + 1) = if ¬ l.any (upP i) = true then cntFree l i + 1 else cntFree l i := by
  unfold cntFree
  rw [List.range_succ, List.filter_append, List.length_append]
  by_cases h : l.any (upP i) = true
  · rw [if_neg (not_not_intro h), List.filter_cons_of_neg (by rw [h]; simp)]; simp
  · rw [if_pos h, List.filter_cons_of_pos (by rw [Bool.eq_false_iff.2 h]; rfl)]; simp
theorem cntFree_le (l : List (Int × Int)) (i : Nat) : 0 ≤ cntFree l i ∧ cntFree l i ≤ i := by
  have := List.length_filter_le (fun m : Nat => !(l.any (upP m))) (List.range i)
  rw [List.length_range] at this
  unfold cntFree
  omega
theorem ms_perm {n : Int} (hn : 0 ≤ n) {ms : List Int} (h1 : ms.Nodup) (h2 : InN n ms) (h3 : ms.length = n.toNat) : ms.Perm ((List.range n.toNat).map fun i : Nat => (i : Int)) := by
  rw [List.perm_iff_count]
  intro a
  have h4 : ((List.range n.toNat).map fun i : Nat => (i : Int)).Nodup := by
    rw [List.nodup_iff_pairwise_ne, List.pairwise_map]
    exact List.Pairwise.imp (fun h => by omega) List.pairwise_lt_range
  rw [h1.count, h4.count]
  by_cases ha : a ∈ ms
  · have := h2 a ha
    rw [if_pos ha, if_pos (List.mem_map.2 ⟨a.toNat, List.mem_range.2 (by omega), by omega⟩)]
  · rw [if_neg ha, if_neg]
    intro hm
    rw [List.mem_map] at hm
    obtain ⟨i, hi, rfl⟩ := hm
    rw [List.mem_range] at hi
    exact ha (all_in hn h1 h2 h3 ⟨by omega, by omega⟩)
theorem propsOf_len {n : Int} {l : List (Int × Int)} (hn : 0 ≤ n) {ms : List Int} (h1 : ms.Nodup) (h2 : InN n ms) (h3 : ms.length = n.toNat) : ((propsOf (restL n l) ms).length : Int) = cntFree l n.toNat := by
  have hp := (ms_perm hn h1 h2 h3).filter fun m => !((restL n l).getD m.toNat false)
  have := hp.length_eq
  unfold propsOf cntFree
  rw [this, List.filter_map, List.length_map]
  congr 2
  refine List.filter_congr fun i hi => ?_
  rw [List.mem_range] at hi
  show (!((restL n l).getD (i : Int).toNat false)) = _
  rw [Int.toNat_natCast, rest_up n l i hi]
/-- The props of a whole order. -/
theorem order_props {n : Int} {l : List (Int × Int)} (h : orderErr n l = 0) : propsE (orderRes n l) = 0 ∧ propsN (orderRes n l) = cntFree l n.toNat := by
  obtain ⟨hs, hS, hfull, r2, r3⟩ := whole h
  have hw := whole_ord h
  have hin := msAt_in (onL n l) n n.toNat
  have hnd := msAt_nodup (onL n l) r2 n.toNat
  have hc : chkE (-1) (orderRes n l) = 0 := by
    unfold chkE
    have := hw.len
    rw [if_neg (by omega), firstE_none]
    intro i hi
    have := hw.at_ i hi
    unfold chkAt
    rw [if_neg (by omega), if_neg (by omega)]
  obtain ⟨e1, e2⟩ := props_ref hc
  have hr : refF (orderRes n l) = ⟨propsOf (restL n l) (msAt (onL n l) n n.toNat), (propsOf (restL n l) (msAt (onL n l) n n.toNat)).length, 0⟩ := by
    rw [hS]; exact ref_order _ _ hnd
  rw [hr] at e1 e2
  refine ⟨e1, ?_⟩
  rw [e2, if_pos rfl]
  exact propsOf_len r2 hnd hin hfull
end EB
end
section
set_option linter.unusedVariables false
open Go Go.Proofs Go.Eng Go.Shelf
set_option linter.unusedVariables false
namespace EB
set_option maxRecDepth 10000
/-! ### An order with a prop more, taken away behind it -/
theorem do_order2 {on : List (List Int)} (rs : List Bool) {n : Int} (hn : 0 ≤ n) {ps : List Int} (hps : InN n ps) (hpr : ∀ p ∈ ps, rs.getD p.toNat false = true) : ∀ k : Nat, (stepsOf rs (msAt on n k)).foldl (doOne on rs) ⟨words n, putL (words n) ps, false⟩ = ⟨putL (words n) (msAt on n k), putL (words n) (ps ++ propsOf rs (msAt on n k)), false⟩
  | 0 => by simp [msAt, stepsOf, propsOf]; rfl
  | k + 1 => by
    have ih := do_order2 (on := on) rs hn hps hpr k
    have hin := msAt_in on n k
    rw [msAt_succ]
    split
    · rename_i h0
      rcases nxt_cases on n (msAt on n k) with h | ⟨i, h1, h2, h3, _⟩
      · omega
      rw [h2]
      have hii : 0 ≤ (i : Int) ∧ (i : Int) < n := by omega
      have hni : ¬ (i : Int) ∈ msAt on n k := fun hm => h3.1 ((has_mem hn hin hii.1).2 hm)
      rw [stepsOf_append, List.foldl_append, ih, show stepsOf rs [(i : Int)] = stepOf rs i from List.append_nil _, putL_snoc]
      unfold stepOf
      by_cases hr : rs.getD (i : Int).toNat false = true
      · rw [if_pos hr]
        have hp : propsOf rs (msAt on n k ++ [(i : Int)]) = propsOf rs (msAt on n k) := by
          unfold propsOf; rw [List.filter_append, List.filter_cons_of_neg (by rw [hr]; simp), List.filter_nil, List.append_nil]
        rw [hp]
        have hc : canDo on rs ⟨putL (words n) (msAt on n k), putL (words n) (ps ++ propsOf rs (msAt on n k)), false⟩ (1, (i : Int)) := by
          unfold canDo; rw [if_pos rfl]; exact ⟨h3, .inl hr⟩
        rw [List.foldl_cons, List.foldl_nil]
        unfold doOne
        rw [if_neg (by simp), if_neg (Classical.not_not.2 hc), if_pos rfl]
      · rw [if_neg hr]
        have hp : propsOf rs (msAt on n k ++ [(i : Int)]) = propsOf rs (msAt on n k) ++ [(i : Int)] := by
          unfold propsOf; rw [List.filter_append, List.filter_cons_of_pos (by rw [Bool.eq_false_iff.2 hr]; rfl), List.filter_nil]
        rw [hp, ← List.append_assoc, putL_snoc]
        have hpi : InN n (ps ++ propsOf rs (msAt on n k)) := fun m hm => (List.mem_append.1 hm).elim (hps m) (propsOf_in hin m)
        have hnp : ¬ (i : Int) ∈ ps ++ propsOf rs (msAt on n k) := fun hm => (List.mem_append.1 hm).elim (fun h => hr (hpr _ h)) fun h => hni (List.mem_filter.1 h).1
        have hc : canDo on rs ⟨putL (words n) (msAt on n k), putL (words n) (ps ++ propsOf rs (msAt on n k)), false⟩ (2, (i : Int)) := by
          unfold canDo; rw [if_neg (show ¬ (2 : Int) = 1 by decide), if_pos rfl]
          exact fun hh => hnp ((has_mem hn hpi hii.1).1 hh)
        have hc2 : canDo on rs ⟨putL (words n) (msAt on n k), putW (putL (words n) (ps ++ propsOf rs (msAt on n k))) i, false⟩ (1, (i : Int)) := by
          unfold canDo; rw [if_pos rfl]
          refine ⟨h3, .inr ?_⟩
          show hasW (putW (putL (words n) (ps ++ propsOf rs (msAt on n k))) i) i
          rw [← putL_snoc, has_mem hn (in_snoc hpi hii) hii.1]
          simp
        rw [List.foldl_cons, List.foldl_cons, List.foldl_nil]
        have e1 : doOne on rs ⟨putL (words n) (msAt on n k), putL (words n) (ps ++ propsOf rs (msAt on n k)), false⟩ (2, (i : Int)) = ⟨putL (words n) (msAt on n k), putW (putL (words n) (ps ++ propsOf rs (msAt on n k))) i, false⟩ := by
          unfold doOne
          rw [if_neg (by simp), if_neg (Classical.not_not.2 hc), if_neg (show ¬ (2 : Int) = 1 by decide), if_pos rfl]
        rw [e1]
        unfold doOne
        rw [if_neg (by simp), if_neg (Classical.not_not.2 hc2), if_pos rfl]
    · exact ih
/-- What a list of steps does from the beginning. -/
def doF (on : List (List Int)) (rs : List Bool) (n : Int) (T : List (Int × Int)) : CS := T.foldl (doOne on rs) ⟨words n, words n, false⟩
theorem check_doF {n : Int} {l T : List (Int × Int)} (hs : supE n l = 0) (hc : chkE n T = 0) : checkE n l T = endE n (doF (onL n l) (restL n l) n T) := by
  unfold checkE
  rw [if_neg (not_not_intro hs), if_neg (not_not_intro hc), doAt_fold _ _ _ _ _ (Nat.le_refl _), List.take_length]; rfl
theorem endE_st {n : Int} {a b : CS} (h1 : a.err = b.err) (h2 : a.st = b.st) : endE n a = endE n b := by unfold endE; rw [h1, h2]
theorem order_doF {n : Int} {l : List (Int × Int)} (h : orderErr n l = 0) : doF (onL n l) (restL n l) n (orderRes n l) = ⟨putL (words n) (msAt (onL n l) n n.toNat), putL (words n) (propsOf (restL n l) (msAt (onL n l) n n.toNat)), false⟩ := by
  obtain ⟨hs, hS, hfull, r2, r3⟩ := whole h
  rw [hS]
  exact do_order _ r2 n.toNat
theorem order_more1 {n : Int} {l : List (Int × Int)} (h : orderErr n l = 0) {m : Int} (hm : 0 ≤ m ∧ m < n) (hl : ¬ l.any (upP m) = true) : checkE n l (orderRes n l ++ [(3, m)]) = 26 := by
  obtain ⟨hs, hS, hfull, r2, r3⟩ := whole h
  have hw := whole_ord h
  have hin := msAt_in (onL n l) n n.toNat
  have hc : chkE n (orderRes n l ++ [(3, m)]) = 0 := chkE_zero (by have := hw.len; simp; omega) fun x hx => by
    rcases List.mem_append.1 hx with hx | hx
    · obtain ⟨i, h1, h2⟩ := mem_at hx
      have := hw.at_ i h1
      rw [h2] at this
      omega
    · rw [List.mem_singleton.1 hx]; exact ⟨.inr (.inr rfl), hm⟩
  rw [check_doF hs hc]
  unfold doF
  rw [List.foldl_append]
  show endE n (List.foldl _ (doF (onL n l) (restL n l) n (orderRes n l)) _) = 26
  rw [order_doF h, List.foldl_cons, List.foldl_nil]
  have hst : hasW (putL (words n) (msAt (onL n l) n n.toNat)) m := (has_mem r2 hin hm.1).2 (all_in r2 (msAt_nodup _ r2 _) hin hfull hm)
  have hre : ¬ (restL n l).getD m.toNat false = true := by
    rw [rest_up n l _ (by omega), Int.toNat_of_nonneg hm.1]; exact hl
  unfold doOne
  rw [if_neg (by simp), if_pos]
  · rfl
  · unfold canDo
    rw [if_neg (show ¬ (3 : Int) = 1 by decide), if_neg (show ¬ (3 : Int) = 2 by decide)]
    rintro ⟨_, h | h⟩
    · exact h hst
    · exact hre h
theorem order_more2 {n : Int} {l : List (Int × Int)} (h : orderErr n l = 0) {m : Int} (hm : 0 ≤ m ∧ m < n) (hl : l.any (upP m) = true) : checkE n l ((2, m) :: orderRes n l ++ [(3, m)]) = 0 := by
  obtain ⟨hs, hS, hfull, r2, r3⟩ := whole h
  have hw := whole_ord h
  have hin := msAt_in (onL n l) n n.toNat
  obtain ⟨_, hcS, hend⟩ := chk_parts hw.chk
  have hc : chkE n ((2, m) :: orderRes n l ++ [(3, m)]) = 0 := chkE_zero (by have := hw.len; simp; omega) fun x hx => by
    rcases List.mem_append.1 hx with hx | hx
    · rcases List.mem_cons.1 hx with hx | hx
      · rw [hx]; exact ⟨.inr (.inl rfl), hm⟩
      · obtain ⟨i, h1, h2⟩ := mem_at hx
        have := hw.at_ i h1
        rw [h2] at this
        omega
    · rw [List.mem_singleton.1 hx]; exact ⟨.inr (.inr rfl), hm⟩
  rw [check_doF hs hc]
  have hre : (restL n l).getD m.toNat false = true := by
    rw [rest_up n l _ (by omega), Int.toNat_of_nonneg hm.1]; exact hl
  have hps : InN n [m] := fun x hx => by rw [List.mem_singleton.1 hx]; exact hm
  have e0 : doOne (onL n l) (restL n l) ⟨words n, words n, false⟩ (2, m) = ⟨words n, putL (words n) [m], false⟩ := by
    unfold doOne
    rw [if_neg (by simp), if_neg, if_neg (show ¬ (2 : Int) = 1 by decide), if_pos rfl]
    · rfl
    · refine not_not_intro ?_
      unfold canDo
      rw [if_neg (show ¬ (2 : Int) = 1 by decide), if_pos rfl]
      have := words_none n m.toNat
      rwa [Int.toNat_of_nonneg hm.1] at this
  have e1 := do_order2 (on := onL n l) (restL n l) r2 hps (fun p hp => by rw [List.mem_singleton.1 hp]; exact hre) n.toNat
  unfold doF
  rw [List.cons_append, List.foldl_cons, List.foldl_append, e0]
  have e2 : orderRes n l = stepsOf (restL n l) (msAt (onL n l) n n.toNat) := hS
  rw [e2, e1, List.foldl_cons, List.foldl_nil]
  have hpi : InN n ([m] ++ propsOf (restL n l) (msAt (onL n l) n n.toNat)) := fun x hx => (List.mem_append.1 hx).elim (hps x) (propsOf_in hin x)
  have hpr : hasW (putL (words n) ([m] ++ propsOf (restL n l) (msAt (onL n l) n n.toNat))) m := (has_mem r2 hpi hm.1).2 (List.mem_append.2 (.inl (List.mem_singleton.2 rfl)))
  have hd : doAt (onL n l) (restL n l) n (orderRes n l) (orderRes n l).length = doF (onL n l) (restL n l) n (orderRes n l) := by
    rw [doAt_fold _ _ _ _ _ (Nat.le_refl _), List.take_length]; rfl
  rw [hd, order_doF h] at hend
  refine Eq.trans (endE_st ?_ ?_) hend
  all_goals
    unfold doOne
    rw [if_neg (by simp), if_neg, if_neg (show ¬ (3 : Int) = 1 by decide), if_neg (show ¬ (3 : Int) = 2 by decide)]
    refine not_not_intro ?_
    unfold canDo
    rw [if_neg (show ¬ (3 : Int) = 1 by decide), if_neg (show ¬ (3 : Int) = 2 by decide)]
    exact ⟨hpr, .inr hre⟩
/-! ### slices.Clone -/
theorem b23 (S : List (Int × Int)) (h : S.length ≤ 100000) : bodyO Try.prog [] {} Try.f23 [Ps S] (.ref 0 1) Two S 29 := by
  (conv => whnf)
  intro q hq
  (repeat' ((conv => whnf); first | (refine Giv.mk fun _ => ?_) | (refine Alt.l (Need.mk ?h ?_); case h => omega) | (refine Alt.r (Need.mk ?h ?_); case h => omega) | (refine Need.mk ?h ?_; case h => first | omega | (intro _; rfl) | assumption | (simp <;> omega)) | refine Ix.zero ?_ | refine Ix.one ?_ | refine Ix.two ?_ | refine Ix.nat ?_ | refine Ix.add ?_ | (apply Go.Eng.Pin.mk; apply Exists.intro) | apply Go.Eng.Pinned.mk rfl rfl | (apply Go.Eng.PinH.mk; apply Exists.intro; apply Exists.intro) | exact Go.Eng.Fin0.mk | refine Go.Eng.Chk.mk ?_ ?_ | refine Own.l ?_ | fail))
  (refine Br.mk (fun _ => ?_) (fun _ => ?_))
  · rename_i hx
    have hx := hq hx
    subst hx
    (repeat' ((conv => whnf); first | (refine Giv.mk fun _ => ?_) | (refine Alt.l (Need.mk ?h ?_); case h => omega) | (refine Alt.r (Need.mk ?h ?_); case h => omega) | (refine Need.mk ?h ?_; case h => first | omega | (intro _; rfl) | assumption | (simp <;> omega)) | refine Ix.zero ?_ | refine Ix.one ?_ | refine Ix.two ?_ | refine Ix.nat ?_ | refine Ix.add ?_ | (apply Go.Eng.Pin.mk; apply Exists.intro) | apply Go.Eng.Pinned.mk rfl rfl | (apply Go.Eng.PinH.mk; apply Exists.intro; apply Exists.intro) | exact Go.Eng.Fin0.mk | refine Go.Eng.Chk.mk ?_ ?_ | refine Own.l ?_ | fail))
    (conv => whnf)
    (repeat' (first | exact trivial | rfl | exact Nat.one_pos | (refine And.intro ?_ ?_) | ((conv => whnf); (refine And.intro ?_ ?_)) | ((conv => whnf); exact trivial)))
  · (repeat' ((conv => whnf); first | (refine Giv.mk fun _ => ?_) | (refine Alt.l (Need.mk ?h ?_); case h => omega) | (refine Alt.r (Need.mk ?h ?_); case h => omega) | (refine Need.mk ?h ?_; case h => first | omega | (intro _; rfl) | assumption | (simp <;> omega)) | refine Ix.zero ?_ | refine Ix.one ?_ | refine Ix.two ?_ | refine Ix.nat ?_ | refine Ix.add ?_ | (apply Go.Eng.Pin.mk; apply Exists.intro) | apply Go.Eng.Pinned.mk rfl rfl | (apply Go.Eng.PinH.mk; apply Exists.intro; apply Exists.intro) | exact Go.Eng.Fin0.mk | refine Go.Eng.Chk.mk ?_ ?_ | refine Own.l ?_ | fail))
    (conv => whnf)
    (repeat' (first | exact trivial | rfl | exact Nat.one_pos | (refine And.intro ?_ ?_) | ((conv => whnf); (refine And.intro ?_ ?_)) | ((conv => whnf); exact trivial)))
def c23 : Con := ownCon 23 fun args K => match args with | [.seq (.pair (.int .i64) (.int .i64)) S] => Need (S.length ≤ 100000) (K (.ref 0 1) (.vec 1 (Two) (S) 29)) | _ => False
theorem k23 : ConOK Try.prog c23 := by
  refine ownOK_of (enters_of Try.func23 (by kernel_rfl) rfl) ?_
  intro args K h
  split at h
  · rename_i S; exact ⟨_, _, _, _, _, h.go, fun hfl => otri_of_body (Γ := []) (by simp) Try.func23 (by simp [Try.ntmps23]) hfl (b23 S h.ok)⟩
  · exact h.elim
theorem b6 (s : Int) (l : List (Int × Int)) (w : Int) (hs : inK .u8 s) (hw0 : inK .u8 w) : body Try.prog [c12, c13, c16, c17, c22, c23] { asks := [(0, [])] } true Try.f6 [.val (.int .u8 s), Ps l, .val (.int .u8 w)] (.val (.bool true)) := by
  have h1 : 0 ≤ s := by have := hs.1; simpa [lo] using this
  have h2 : s ≤ 255 := by have := hs.2; simpa [hi] using this
  have h3 : 0 ≤ w := by have := hw0.1; simpa [lo] using this
  have h4 : w ≤ 255 := by have := hw0.2; simpa [hi] using this
  (repeat' ((conv => whnf); first | (refine Giv.mk fun _ => ?_) | (refine Alt.l (Need.mk ?h ?_); case h => omega) | (refine Alt.r (Need.mk ?h ?_); case h => omega) | (refine Need.mk ?h ?_; case h => first | omega | (intro _; rfl) | assumption | (simp <;> omega)) | refine Ix.zero ?_ | refine Ix.one ?_ | refine Ix.two ?_ | refine Ix.nat ?_ | refine Ix.add ?_ | (apply Go.Eng.Pin.mk; apply Exists.intro) | apply Go.Eng.Pinned.mk rfl rfl | (apply Go.Eng.PinH.mk; apply Exists.intro; apply Exists.intro) | exact Go.Eng.Fin0.mk | refine Go.Eng.Chk.mk ?_ ?_ | refine Own.l ?_ | fail))
  (refine Br.mk (fun _ => ?_) (fun _ => ?_))
  · (repeat' ((conv => whnf); first | (refine Giv.mk fun _ => ?_) | (refine Alt.l (Need.mk ?h ?_); case h => omega) | (refine Alt.r (Need.mk ?h ?_); case h => omega) | (refine Need.mk ?h ?_; case h => first | omega | (intro _; rfl) | assumption | (simp <;> omega)) | refine Ix.zero ?_ | refine Ix.one ?_ | refine Ix.two ?_ | refine Ix.nat ?_ | refine Ix.add ?_ | (apply Go.Eng.Pin.mk; apply Exists.intro) | apply Go.Eng.Pinned.mk rfl rfl | (apply Go.Eng.PinH.mk; apply Exists.intro; apply Exists.intro) | exact Go.Eng.Fin0.mk | refine Go.Eng.Chk.mk ?_ ?_ | refine Own.l ?_ | fail))
    (conv => whnf)
  · rename_i hok
    have hok := Classical.not_not.1 hok
    have hw := whole_ord hok.2
    have hp := order_props hok.2
    have hm1 := fun m => order_more1 (m := m) hok.2
    have hm2 := fun m => order_more2 (m := m) hok.2
    have hr12 : res12 s l = orderRes (n12 s) l := by unfold res12; rw [if_pos hok.1]
    rw [← hr12] at hw hp hm1 hm2
    have w0 := hw.n0
    have w1 := hw.n1
    have w4 := hw.len
    obtain ⟨q1, q2⟩ := hp
    (repeat' ((conv => whnf); first | (refine Giv.mk fun _ => ?_) | (refine Alt.l (Need.mk ?h ?_); case h => omega) | (refine Alt.r (Need.mk ?h ?_); case h => omega) | (refine Need.mk ?h ?_; case h => first | omega | (intro _; rfl) | assumption | (simp <;> omega)) | refine Ix.zero ?_ | refine Ix.one ?_ | refine Ix.two ?_ | refine Ix.nat ?_ | refine Ix.add ?_ | (apply Go.Eng.Pin.mk; apply Exists.intro) | apply Go.Eng.Pinned.mk rfl rfl | (apply Go.Eng.PinH.mk; apply Exists.intro; apply Exists.intro) | exact Go.Eng.Fin0.mk | refine Go.Eng.Chk.mk ?_ ?_ | refine Own.l ?_ | fail))
    refine Ask.mk ⟨{ X := Nat, pre := fun i => i ≤ (n12 s).toNat, mod := fun i _ => [(10, I (cntFree l i)), (28, I i)], mu := fun i => (n12 s).toNat - i }, rfl, ?_⟩
    (repeat' ((conv => whnf); first | (refine Giv.mk fun _ => ?_) | (refine Alt.l (Need.mk ?h ?_); case h => omega) | (refine Alt.r (Need.mk ?h ?_); case h => omega) | (refine Need.mk ?h ?_; case h => first | omega | (intro _; rfl) | assumption | (simp <;> omega)) | refine Ix.zero ?_ | refine Ix.one ?_ | refine Ix.two ?_ | refine Ix.nat ?_ | refine Ix.add ?_ | (apply Go.Eng.Pin.mk; apply Exists.intro) | apply Go.Eng.Pinned.mk rfl rfl | (apply Go.Eng.PinH.mk; apply Exists.intro; apply Exists.intro) | exact Go.Eng.Fin0.mk | refine Go.Eng.Chk.mk ?_ ?_ | refine Own.l ?_ | fail))
    refine ⟨⟨(0 : Nat), Nat.zero_le _, ?_⟩, fun (i : Nat) (hi : i ≤ (n12 s).toNat) => ?_⟩
    · (repeat' (first | exact trivial | rfl | exact Nat.one_pos | (refine And.intro ?_ ?_) | omega | ((conv => whnf); (refine And.intro ?_ ?_)) | ((conv => whnf); exact trivial)))
    · have hsu := cntFree_succ l i
      have hle := cntFree_le l i
      (repeat' ((conv => whnf); first | (refine Giv.mk fun _ => ?_) | (refine Alt.l (Need.mk ?h ?_); case h => omega) | (refine Alt.r (Need.mk ?h ?_); case h => omega) | (refine Need.mk ?h ?_; case h => first | omega | (intro _; rfl) | assumption | (simp <;> omega)) | refine Ix.zero ?_ | refine Ix.one ?_ | refine Ix.two ?_ | refine Ix.nat ?_ | refine Ix.add ?_ | (apply Go.Eng.Pin.mk; apply Exists.intro) | apply Go.Eng.Pinned.mk rfl rfl | (apply Go.Eng.PinH.mk; apply Exists.intro; apply Exists.intro) | exact Go.Eng.Fin0.mk | refine Go.Eng.Chk.mk ?_ ?_ | refine Own.l ?_ | fail))
      (refine Br.mk (fun _ => ?_) (fun _ => ?_))
      · (repeat' ((conv => whnf); first | (refine Giv.mk fun _ => ?_) | (refine Alt.l (Need.mk ?h ?_); case h => omega) | (refine Alt.r (Need.mk ?h ?_); case h => omega) | (refine Need.mk ?h ?_; case h => first | omega | (intro _; rfl) | assumption | (simp <;> omega)) | refine Ix.zero ?_ | refine Ix.one ?_ | refine Ix.two ?_ | refine Ix.nat ?_ | refine Ix.add ?_ | (apply Go.Eng.Pin.mk; apply Exists.intro) | apply Go.Eng.Pinned.mk rfl rfl | (apply Go.Eng.PinH.mk; apply Exists.intro; apply Exists.intro) | exact Go.Eng.Fin0.mk | refine Go.Eng.Chk.mk ?_ ?_ | refine Own.l ?_ | fail))
        (refine Br.mk (fun _ => ?_) (fun _ => ?_))
        · rename_i hf
          rw [if_pos hf] at hsu
          (repeat' ((conv => whnf); first | (refine Giv.mk fun _ => ?_) | (refine Alt.l (Need.mk ?h ?_); case h => omega) | (refine Alt.r (Need.mk ?h ?_); case h => omega) | (refine Need.mk ?h ?_; case h => first | omega | (intro _; rfl) | assumption | (simp <;> omega)) | refine Ix.zero ?_ | refine Ix.one ?_ | refine Ix.two ?_ | refine Ix.nat ?_ | refine Ix.add ?_ | (apply Go.Eng.Pin.mk; apply Exists.intro) | apply Go.Eng.Pinned.mk rfl rfl | (apply Go.Eng.PinH.mk; apply Exists.intro; apply Exists.intro) | exact Go.Eng.Fin0.mk | refine Go.Eng.Chk.mk ?_ ?_ | refine Own.l ?_ | (refine Br.mkY ?h ?_; case h => first | omega | assumption) | (refine Br.mkN ?h ?_; case h => first | omega | assumption | exact not_not_intro (by assumption)) | fail))
          refine ⟨(i + 1 : Nat), by show (n12 s).toNat - (i + 1) < (n12 s).toNat - i; omega, by show i + 1 ≤ (n12 s).toNat; omega, ?_⟩
          (repeat' (first | exact trivial | rfl | exact Nat.one_pos | (refine And.intro ?_ ?_) | omega | ((conv => whnf); (refine And.intro ?_ ?_)) | ((conv => whnf); exact trivial)))
        · rename_i hf
          rw [if_neg hf] at hsu
          (repeat' ((conv => whnf); first | (refine Giv.mk fun _ => ?_) | (refine Alt.l (Need.mk ?h ?_); case h => omega) | (refine Alt.r (Need.mk ?h ?_); case h => omega) | (refine Need.mk ?h ?_; case h => first | omega | (intro _; rfl) | assumption | (simp <;> omega)) | refine Ix.zero ?_ | refine Ix.one ?_ | refine Ix.two ?_ | refine Ix.nat ?_ | refine Ix.add ?_ | (apply Go.Eng.Pin.mk; apply Exists.intro) | apply Go.Eng.Pinned.mk rfl rfl | (apply Go.Eng.PinH.mk; apply Exists.intro; apply Exists.intro) | exact Go.Eng.Fin0.mk | refine Go.Eng.Chk.mk ?_ ?_ | refine Own.l ?_ | (refine Br.mkY ?h ?_; case h => first | omega | assumption) | (refine Br.mkN ?h ?_; case h => first | omega | assumption | exact not_not_intro (by assumption)) | fail))
          refine ⟨(i + 1 : Nat), by show (n12 s).toNat - (i + 1) < (n12 s).toNat - i; omega, by show i + 1 ≤ (n12 s).toNat; omega, ?_⟩
          (repeat' (first | exact trivial | rfl | exact Nat.one_pos | (refine And.intro ?_ ?_) | omega | ((conv => whnf); (refine And.intro ?_ ?_)) | ((conv => whnf); exact trivial)))
      · have hii : i = (n12 s).toNat := by omega
        subst hii
        (repeat' ((conv => whnf); first | (refine Giv.mk fun _ => ?_) | (refine Alt.l (Need.mk ?h ?_); case h => omega) | (refine Alt.r (Need.mk ?h ?_); case h => omega) | (refine Need.mk ?h ?_; case h => first | omega | (intro _; rfl) | assumption | (simp <;> omega)) | refine Ix.zero ?_ | refine Ix.one ?_ | refine Ix.two ?_ | refine Ix.nat ?_ | refine Ix.add ?_ | (apply Go.Eng.Pin.mk; apply Exists.intro) | apply Go.Eng.Pinned.mk rfl rfl | (apply Go.Eng.PinH.mk; apply Exists.intro; apply Exists.intro) | exact Go.Eng.Fin0.mk | refine Go.Eng.Chk.mk ?_ ?_ | refine Own.l ?_ | (refine Br.mkY ?h ?_; case h => first | omega | assumption) | (refine Br.mkN ?h ?_; case h => first | omega | assumption | exact not_not_intro (by assumption)) | fail))
        (refine Br.mk (fun _ => ?_) (fun _ => ?_))
        · (repeat' ((conv => whnf); first | (refine Giv.mk fun _ => ?_) | (refine Alt.l (Need.mk ?h ?_); case h => omega) | (refine Alt.r (Need.mk ?h ?_); case h => omega) | (refine Need.mk ?h ?_; case h => first | omega | (intro _; rfl) | assumption | (simp <;> omega)) | refine Ix.zero ?_ | refine Ix.one ?_ | refine Ix.two ?_ | refine Ix.nat ?_ | refine Ix.add ?_ | (apply Go.Eng.Pin.mk; apply Exists.intro) | apply Go.Eng.Pinned.mk rfl rfl | (apply Go.Eng.PinH.mk; apply Exists.intro; apply Exists.intro) | exact Go.Eng.Fin0.mk | refine Go.Eng.Chk.mk ?_ ?_ | refine Own.l ?_ | fail))
          (conv => whnf)
        · have hmn : 0 ≤ w % n12 s ∧ w % n12 s < n12 s := ⟨Int.emod_nonneg _ (by omega), Int.emod_lt_of_pos _ (by omega)⟩
          have hm1 := hm1 _ hmn
          have hm2 := hm2 _ hmn
          (repeat' ((conv => whnf); first | (refine Giv.mk fun _ => ?_) | (refine Alt.l (Need.mk ?h ?_); case h => omega) | (refine Alt.r (Need.mk ?h ?_); case h => omega) | (refine Need.mk ?h ?_; case h => first | omega | (intro _; rfl) | assumption | (simp <;> omega)) | refine Ix.zero ?_ | refine Ix.one ?_ | refine Ix.two ?_ | refine Ix.nat ?_ | refine Ix.add ?_ | (apply Go.Eng.Pin.mk; apply Exists.intro) | apply Go.Eng.Pinned.mk rfl rfl | (apply Go.Eng.PinH.mk; apply Exists.intro; apply Exists.intro) | exact Go.Eng.Fin0.mk | refine Go.Eng.Chk.mk ?_ ?_ | refine Own.l ?_ | (refine Br.mkY ?h ?_; case h => first | omega | assumption) | (refine Br.mkN ?h ?_; case h => first | omega | assumption | exact not_not_intro (by assumption)) | fail))
          (refine Br.mk (fun _ => ?_) (fun _ => ?_))
          · rename_i hf
            have hf := Classical.not_not.1 hf
            have hm2 := hm2 hf
            (repeat' ((conv => whnf); first | (refine Giv.mk fun _ => ?_) | (refine Alt.l (Need.mk ?h ?_); case h => omega) | (refine Alt.r (Need.mk ?h ?_); case h => omega) | (refine Need.mk ?h ?_; case h => first | omega | (intro _; rfl) | assumption | (simp <;> omega)) | refine Ix.zero ?_ | refine Ix.one ?_ | refine Ix.two ?_ | refine Ix.nat ?_ | refine Ix.add ?_ | (apply Go.Eng.Pin.mk; apply Exists.intro) | apply Go.Eng.Pinned.mk rfl rfl | (apply Go.Eng.PinH.mk; apply Exists.intro; apply Exists.intro) | exact Go.Eng.Fin0.mk | refine Go.Eng.Chk.mk ?_ ?_ | (refine Br.mkY ?h ?_; case h => first | omega | assumption) | (refine Br.mkN ?h ?_; case h => first | omega | assumption | exact not_not_intro (by assumption)) | fail))
            refine Own.r ?_
            (repeat' ((conv => whnf); first | (refine Giv.mk fun _ => ?_) | (refine Alt.l (Need.mk ?h ?_); case h => omega) | (refine Alt.r (Need.mk ?h ?_); case h => omega) | (refine Need.mk ?h ?_; case h => first | omega | (intro _; rfl) | assumption | (simp <;> omega)) | refine Ix.zero ?_ | refine Ix.one ?_ | refine Ix.two ?_ | refine Ix.nat ?_ | refine Ix.add ?_ | (apply Go.Eng.Pin.mk; apply Exists.intro) | apply Go.Eng.Pinned.mk rfl rfl | (apply Go.Eng.PinH.mk; apply Exists.intro; apply Exists.intro) | exact Go.Eng.Fin0.mk | refine Go.Eng.Chk.mk ?_ ?_ | (refine Br.mkY ?h ?_; case h => first | omega | assumption) | (refine Br.mkN ?h ?_; case h => first | omega | assumption | exact not_not_intro (by assumption)) | fail))
            refine Own.l ?_
            (repeat' ((conv => whnf); first | (refine Giv.mk fun _ => ?_) | (refine Alt.l (Need.mk ?h ?_); case h => omega) | (refine Alt.r (Need.mk ?h ?_); case h => omega) | (refine Need.mk ?h ?_; case h => first | omega | (intro _; rfl) | assumption | (simp <;> omega)) | refine Ix.zero ?_ | refine Ix.one ?_ | refine Ix.two ?_ | refine Ix.nat ?_ | refine Ix.add ?_ | (apply Go.Eng.Pin.mk; apply Exists.intro) | apply Go.Eng.Pinned.mk rfl rfl | (apply Go.Eng.PinH.mk; apply Exists.intro; apply Exists.intro) | exact Go.Eng.Fin0.mk | refine Go.Eng.Chk.mk ?_ ?_ | refine Own.l ?_ | (refine Br.mkY ?h ?_; case h => first | omega | assumption) | (refine Br.mkN ?h ?_; case h => first | omega | assumption | exact not_not_intro (by assumption)) | fail))
            (conv => whnf)
          · rename_i hf
            have hf : ¬ l.any (upP (w % n12 s)) = true := fun e => hf (not_not_intro e)
            have hm1 := hm1 hf
            (repeat' ((conv => whnf); first | (refine Giv.mk fun _ => ?_) | (refine Alt.l (Need.mk ?h ?_); case h => omega) | (refine Alt.r (Need.mk ?h ?_); case h => omega) | (refine Need.mk ?h ?_; case h => first | omega | (intro _; rfl) | assumption | (simp <;> omega)) | refine Ix.zero ?_ | refine Ix.one ?_ | refine Ix.two ?_ | refine Ix.nat ?_ | refine Ix.add ?_ | (apply Go.Eng.Pin.mk; apply Exists.intro) | apply Go.Eng.Pinned.mk rfl rfl | (apply Go.Eng.PinH.mk; apply Exists.intro; apply Exists.intro) | exact Go.Eng.Fin0.mk | refine Go.Eng.Chk.mk ?_ ?_ | refine Own.l ?_ | (refine Br.mkY ?h ?_; case h => first | omega | assumption) | (refine Br.mkN ?h ?_; case h => first | omega | assumption | exact not_not_intro (by assumption)) | fail))
            (conv => whnf)
theorem t6 (s : Int) (l : List (Int × Int)) (w : Int) (hs : inK .u8 s) (hl : Okd (.slice Two) l) (hw : inK .u8 w) :
    Tri Try.prog true 6 [.val (.int .u8 s), Ps l, .val (.int .u8 w)] (.val (.bool true)) :=
  tri_of_body (Γ := [c12, c13, c16, c17, c22, c23]) (by simp [k12, k13, k16, k17, k22, k23]) Try.func6 (by simp [Try.ntmps6]) rfl (b6 s l w hs hw)
end EB
end
section
set_option linter.unusedVariables false
open Go Go.Proofs Go.Eng Go.Shelf
set_option linter.unusedVariables false
namespace EB
set_option maxRecDepth 10000
/-! ### The reference's own checks -/
theorem b58 (n : Int) (S : List (Int × Int)) : body Try.prog [] { loops := [(0, { X := Nat, pre := fun i => i ≤ S.length ∧ ∀ j, j < i → chkAt n S j = 0, mod := fun i _ => [(5, I i)], mu := fun i => S.length - i })] } true Try.f58 [I n, Ps S] (I (chkE n S)) := by
  (repeat' ((conv => whnf); first | (refine Giv.mk fun _ => ?_) | (refine Alt.l (Need.mk ?h ?_); case h => omega) | (refine Alt.r (Need.mk ?h ?_); case h => omega) | (refine Need.mk ?h ?_; case h => first | omega | (intro _; rfl) | assumption | (simp <;> omega)) | refine Ix.zero ?_ | refine Ix.one ?_ | refine Ix.two ?_ | refine Ix.nat ?_ | refine Ix.add ?_ | (apply Go.Eng.Pin.mk; apply Exists.intro) | apply Go.Eng.Pinned.mk rfl rfl | (apply Go.Eng.PinH.mk; apply Exists.intro; apply Exists.intro) | exact Go.Eng.Fin0.mk | refine Go.Eng.Chk.mk ?_ ?_ | refine Own.l ?_ | fail))
  (refine Br.mk (fun _ => ?_) (fun _ => ?_))
  · rename_i h
    (repeat' ((conv => whnf); first | (refine Giv.mk fun _ => ?_) | (refine Alt.l (Need.mk ?h ?_); case h => omega) | (refine Alt.r (Need.mk ?h ?_); case h => omega) | (refine Need.mk ?h ?_; case h => first | omega | (intro _; rfl) | assumption | (simp <;> omega)) | refine Ix.zero ?_ | refine Ix.one ?_ | refine Ix.two ?_ | refine Ix.nat ?_ | refine Ix.add ?_ | (apply Go.Eng.Pin.mk; apply Exists.intro) | apply Go.Eng.Pinned.mk rfl rfl | (apply Go.Eng.PinH.mk; apply Exists.intro; apply Exists.intro) | exact Go.Eng.Fin0.mk | refine Go.Eng.Chk.mk ?_ ?_ | refine Own.l ?_ | fail))
    (conv => whnf)
    exact ⟨rfl, by unfold chkE; rw [if_pos (by omega)]⟩
  rename_i g3
  (repeat' ((conv => whnf); first | (refine Giv.mk fun _ => ?_) | (refine Alt.l (Need.mk ?h ?_); case h => omega) | (refine Alt.r (Need.mk ?h ?_); case h => omega) | (refine Need.mk ?h ?_; case h => first | omega | (intro _; rfl) | assumption | (simp <;> omega)) | refine Ix.zero ?_ | refine Ix.one ?_ | refine Ix.two ?_ | refine Ix.nat ?_ | refine Ix.add ?_ | (apply Go.Eng.Pin.mk; apply Exists.intro) | apply Go.Eng.Pinned.mk rfl rfl | (apply Go.Eng.PinH.mk; apply Exists.intro; apply Exists.intro) | exact Go.Eng.Fin0.mk | refine Go.Eng.Chk.mk ?_ ?_ | refine Own.l ?_ | fail))
  refine ⟨⟨(0 : Nat), ⟨Nat.zero_le _, fun j hj => absurd hj (Nat.not_lt_zero _)⟩, by (repeat' (first | exact trivial | rfl | exact Nat.one_pos | (refine And.intro ?_ ?_) | omega | ((conv => whnf); (refine And.intro ?_ ?_)) | ((conv => whnf); exact trivial)))⟩, fun (i : Nat) hi => ?_⟩
  obtain ⟨hi, hb⟩ := hi
  (repeat' ((conv => whnf); first | (refine Giv.mk fun _ => ?_) | (refine Alt.l (Need.mk ?h ?_); case h => omega) | (refine Alt.r (Need.mk ?h ?_); case h => omega) | (refine Need.mk ?h ?_; case h => first | omega | (intro _; rfl) | assumption | (simp <;> omega)) | refine Ix.zero ?_ | refine Ix.one ?_ | refine Ix.two ?_ | refine Ix.nat ?_ | refine Ix.add ?_ | (apply Go.Eng.Pin.mk; apply Exists.intro) | apply Go.Eng.Pinned.mk rfl rfl | (apply Go.Eng.PinH.mk; apply Exists.intro; apply Exists.intro) | exact Go.Eng.Fin0.mk | refine Go.Eng.Chk.mk ?_ ?_ | refine Own.l ?_ | fail))
  (refine Br.mk (fun _ => ?_) (fun _ => ?_))
  · have hlt : i < S.length := by omega
    have e8 : ((S.getD i (0, 0)).1 < 1 ∨ 3 < (S.getD i (0, 0)).1) → 8 = chkE n S := fun h => chkE_at g3 hlt hb (by unfold chkAt; rw [if_pos h]) (by decide)
    have e2 : ¬ ((S.getD i (0, 0)).1 < 1 ∨ 3 < (S.getD i (0, 0)).1) → ((S.getD i (0, 0)).2 < 0 ∨ (0 ≤ n ∧ n ≤ (S.getD i (0, 0)).2)) → 2 = chkE n S := fun h h2 => chkE_at g3 hlt hb (by unfold chkAt; rw [if_neg h, if_pos h2]) (by decide)
    have e0 : ¬ ((S.getD i (0, 0)).1 < 1 ∨ 3 < (S.getD i (0, 0)).1) → ¬ ((S.getD i (0, 0)).2 < 0 ∨ (0 ≤ n ∧ n ≤ (S.getD i (0, 0)).2)) → ∀ j, j < i + 1 → chkAt n S j = 0 := fun h h2 j hj => by
      by_cases e : j = i
      · subst e; unfold chkAt; rw [if_neg h, if_neg h2]
      · exact hb j (by omega)
    (repeat' ((conv => whnf); first | (refine Giv.mk fun _ => ?_) | (refine Alt.l (Need.mk ?h ?_); case h => omega) | (refine Alt.r (Need.mk ?h ?_); case h => omega) | (refine Need.mk ?h ?_; case h => first | omega | (intro _; rfl) | assumption | (simp <;> omega)) | refine Ix.zero ?_ | refine Ix.one ?_ | refine Ix.two ?_ | refine Ix.nat ?_ | refine Ix.add ?_ | (apply Go.Eng.Pin.mk; apply Exists.intro) | apply Go.Eng.Pinned.mk rfl rfl | (apply Go.Eng.PinH.mk; apply Exists.intro; apply Exists.intro) | exact Go.Eng.Fin0.mk | refine Go.Eng.Chk.mk ?_ ?_ | refine Own.l ?_ | (refine Br.mkY ?h ?_; case h => first | omega | assumption) | (refine Br.mkN ?h ?_; case h => first | omega | assumption | exact not_not_intro (by assumption)) | (refine Br.mk (fun _ => ?_) (fun _ => ?_)) | fail))
    · (conv => whnf)
      exact ⟨rfl, e8 (.inl ‹_›)⟩
    · (conv => whnf)
      exact ⟨rfl, e8 (.inr ‹_›)⟩
    · (conv => whnf)
      exact ⟨rfl, e2 (by omega) (.inl ‹_›)⟩
    · (conv => whnf)
      exact ⟨rfl, e2 (by omega) (.inr ⟨‹_›, ‹_›⟩)⟩
    · refine ⟨(i + 1 : Nat), by show S.length - (i + 1) < S.length - i; omega, ⟨hlt, e0 (by omega) (by omega)⟩, by (repeat' (first | exact trivial | rfl | exact Nat.one_pos | (refine And.intro ?_ ?_) | omega | ((conv => whnf); (refine And.intro ?_ ?_)) | ((conv => whnf); exact trivial)))⟩
    · refine ⟨(i + 1 : Nat), by show S.length - (i + 1) < S.length - i; omega, ⟨hlt, e0 (by omega) (by omega)⟩, by (repeat' (first | exact trivial | rfl | exact Nat.one_pos | (refine And.intro ?_ ?_) | omega | ((conv => whnf); (refine And.intro ?_ ?_)) | ((conv => whnf); exact trivial)))⟩
  · have hii : i = S.length := by omega
    subst hii
    (repeat' ((conv => whnf); first | (refine Giv.mk fun _ => ?_) | (refine Alt.l (Need.mk ?h ?_); case h => omega) | (refine Alt.r (Need.mk ?h ?_); case h => omega) | (refine Need.mk ?h ?_; case h => first | omega | (intro _; rfl) | assumption | (simp <;> omega)) | refine Ix.zero ?_ | refine Ix.one ?_ | refine Ix.two ?_ | refine Ix.nat ?_ | refine Ix.add ?_ | (apply Go.Eng.Pin.mk; apply Exists.intro) | apply Go.Eng.Pinned.mk rfl rfl | (apply Go.Eng.PinH.mk; apply Exists.intro; apply Exists.intro) | exact Go.Eng.Fin0.mk | refine Go.Eng.Chk.mk ?_ ?_ | refine Own.l ?_ | (refine Br.mkY ?h ?_; case h => first | omega | assumption) | (refine Br.mkN ?h ?_; case h => first | omega | assumption | exact not_not_intro (by assumption)) | fail))
    (conv => whnf)
    exact ⟨rfl, by unfold chkE; rw [if_neg (by omega), firstE_none hb]⟩
def c58 : Con := mkCon 58 true fun args K => match args with | [.val (.int .i64 n), .seq (.pair (.int .i64) (.int .i64)) S] => K (I (chkE n S)) | _ => False
theorem k58 : ConOK Try.prog c58 := by
  refine conOK_of rfl (enters_of Try.func58 (by kernel_rfl) rfl) ?_
  intro args K h
  simp only [c58] at h
  split at h
  · rename_i n S; exact ⟨_, h, tri_of_body (Γ := []) (by simp) Try.func58 (by simp [Try.ntmps58]) rfl (b58 n S)⟩
  · exact h.elim
theorem orI_two (a b : Int) : orI [a, b] = if a ≠ 0 then a else b := by
  by_cases h : a = 0
  · subst h
    by_cases hb : b = 0
    · subst hb; rfl
    · have h0 : ∀ j, j < 1 → [0, b].getD j 0 = 0 := fun j hj => by
        obtain rfl : j = 0 := by omega
        rfl
      rw [orI_at [0, b] 1 (show 1 < 2 by decide) hb h0]
      rfl
  · rw [orI_at [a, b] 0 (show 0 < 2 by decide) h (fun j hj => absurd hj (Nat.not_lt_zero _)), if_pos h]; rfl
theorem ordAt (a b c d : Int) : 0 ≤ orI [cmpI a c, cmpI b d] ↔ c < a ∨ (c = a ∧ d ≤ b) := by
  rw [orI_two]
  unfold cmpI
  by_cases h1 : a < c
  · rw [if_pos h1]; simp; omega
  · rw [if_neg h1]
    by_cases h2 : c < a
    · rw [if_pos h2]; simp; omega
    · rw [if_neg h2]
      simp
      have : c = a := by omega
      by_cases h3 : b < d
      · rw [if_pos h3]; omega
      · rw [if_neg h3]
        by_cases h4 : d < b
        · rw [if_pos h4]; omega
        · rw [if_neg h4]; omega
theorem b62 (n : Int) (l : List (Int × Int)) : body Try.prog [] { asks := [(0, [])] } true Try.f62 [I n, Ps l] (I (supE n l)) := by
  (repeat' ((conv => whnf); first | (refine Giv.mk fun _ => ?_) | (refine Alt.l (Need.mk ?h ?_); case h => omega) | (refine Alt.r (Need.mk ?h ?_); case h => omega) | (refine Need.mk ?h ?_; case h => first | omega | (intro _; rfl) | assumption | (simp <;> omega)) | refine Ix.zero ?_ | refine Ix.one ?_ | refine Ix.two ?_ | refine Ix.nat ?_ | refine Ix.add ?_ | (apply Go.Eng.Pin.mk; apply Exists.intro) | apply Go.Eng.Pinned.mk rfl rfl | (apply Go.Eng.PinH.mk; apply Exists.intro; apply Exists.intro) | exact Go.Eng.Fin0.mk | refine Go.Eng.Chk.mk ?_ ?_ | refine Own.l ?_ | fail))
  (refine Br.mk (fun _ => ?_) (fun _ => ?_))
  · rename_i h
    (repeat' ((conv => whnf); first | (refine Giv.mk fun _ => ?_) | (refine Alt.l (Need.mk ?h ?_); case h => omega) | (refine Alt.r (Need.mk ?h ?_); case h => omega) | (refine Need.mk ?h ?_; case h => first | omega | (intro _; rfl) | assumption | (simp <;> omega)) | refine Ix.zero ?_ | refine Ix.one ?_ | refine Ix.two ?_ | refine Ix.nat ?_ | refine Ix.add ?_ | (apply Go.Eng.Pin.mk; apply Exists.intro) | apply Go.Eng.Pinned.mk rfl rfl | (apply Go.Eng.PinH.mk; apply Exists.intro; apply Exists.intro) | exact Go.Eng.Fin0.mk | refine Go.Eng.Chk.mk ?_ ?_ | refine Own.l ?_ | fail))
    (conv => whnf)
    exact ⟨rfl, supE_out (.inl h)⟩
  rename_i g1
  (repeat' ((conv => whnf); first | (refine Giv.mk fun _ => ?_) | (refine Alt.l (Need.mk ?h ?_); case h => omega) | (refine Alt.r (Need.mk ?h ?_); case h => omega) | (refine Need.mk ?h ?_; case h => first | omega | (intro _; rfl) | assumption | (simp <;> omega)) | refine Ix.zero ?_ | refine Ix.one ?_ | refine Ix.two ?_ | refine Ix.nat ?_ | refine Ix.add ?_ | (apply Go.Eng.Pin.mk; apply Exists.intro) | apply Go.Eng.Pinned.mk rfl rfl | (apply Go.Eng.PinH.mk; apply Exists.intro; apply Exists.intro) | exact Go.Eng.Fin0.mk | refine Go.Eng.Chk.mk ?_ ?_ | refine Own.l ?_ | fail))
  (refine Br.mk (fun _ => ?_) (fun _ => ?_))
  · rename_i h
    (repeat' ((conv => whnf); first | (refine Giv.mk fun _ => ?_) | (refine Alt.l (Need.mk ?h ?_); case h => omega) | (refine Alt.r (Need.mk ?h ?_); case h => omega) | (refine Need.mk ?h ?_; case h => first | omega | (intro _; rfl) | assumption | (simp <;> omega)) | refine Ix.zero ?_ | refine Ix.one ?_ | refine Ix.two ?_ | refine Ix.nat ?_ | refine Ix.add ?_ | (apply Go.Eng.Pin.mk; apply Exists.intro) | apply Go.Eng.Pinned.mk rfl rfl | (apply Go.Eng.PinH.mk; apply Exists.intro; apply Exists.intro) | exact Go.Eng.Fin0.mk | refine Go.Eng.Chk.mk ?_ ?_ | refine Own.l ?_ | fail))
    (conv => whnf)
    exact ⟨rfl, supE_out (.inr h)⟩
  rename_i g2
  (repeat' ((conv => whnf); first | (refine Giv.mk fun _ => ?_) | (refine Alt.l (Need.mk ?h ?_); case h => omega) | (refine Alt.r (Need.mk ?h ?_); case h => omega) | (refine Need.mk ?h ?_; case h => first | omega | (intro _; rfl) | assumption | (simp <;> omega)) | refine Ix.zero ?_ | refine Ix.one ?_ | refine Ix.two ?_ | refine Ix.nat ?_ | refine Ix.add ?_ | (apply Go.Eng.Pin.mk; apply Exists.intro) | apply Go.Eng.Pinned.mk rfl rfl | (apply Go.Eng.PinH.mk; apply Exists.intro; apply Exists.intro) | exact Go.Eng.Fin0.mk | refine Go.Eng.Chk.mk ?_ ?_ | refine Own.l ?_ | fail))
  (refine Br.mk (fun _ => ?_) (fun _ => ?_))
  · rename_i h
    (repeat' ((conv => whnf); first | (refine Giv.mk fun _ => ?_) | (refine Alt.l (Need.mk ?h ?_); case h => omega) | (refine Alt.r (Need.mk ?h ?_); case h => omega) | (refine Need.mk ?h ?_; case h => first | omega | (intro _; rfl) | assumption | (simp <;> omega)) | refine Ix.zero ?_ | refine Ix.one ?_ | refine Ix.two ?_ | refine Ix.nat ?_ | refine Ix.add ?_ | (apply Go.Eng.Pin.mk; apply Exists.intro) | apply Go.Eng.Pinned.mk rfl rfl | (apply Go.Eng.PinH.mk; apply Exists.intro; apply Exists.intro) | exact Go.Eng.Fin0.mk | refine Go.Eng.Chk.mk ?_ ?_ | refine Own.l ?_ | fail))
    (conv => whnf)
    exact ⟨rfl, supE_long g1 g2 h⟩
  rename_i g3
  (repeat' ((conv => whnf); first | (refine Giv.mk fun _ => ?_) | (refine Alt.l (Need.mk ?h ?_); case h => omega) | (refine Alt.r (Need.mk ?h ?_); case h => omega) | (refine Need.mk ?h ?_; case h => first | omega | (intro _; rfl) | assumption | (simp <;> omega)) | refine Ix.zero ?_ | refine Ix.one ?_ | refine Ix.two ?_ | refine Ix.nat ?_ | refine Ix.add ?_ | (apply Go.Eng.Pin.mk; apply Exists.intro) | apply Go.Eng.Pinned.mk rfl rfl | (apply Go.Eng.PinH.mk; apply Exists.intro; apply Exists.intro) | exact Go.Eng.Fin0.mk | refine Go.Eng.Chk.mk ?_ ?_ | refine Own.l ?_ | fail))
  refine Ask.mk ⟨{ X := Nat, pre := fun i => i ≤ l.length ∧ ∀ j, j < i → supAt n l j = 0, mod := fun i _ => [(5, I i)], mu := fun i => l.length - i }, rfl, ?_⟩
  (repeat' ((conv => whnf); first | (refine Giv.mk fun _ => ?_) | (refine Alt.l (Need.mk ?h ?_); case h => omega) | (refine Alt.r (Need.mk ?h ?_); case h => omega) | (refine Need.mk ?h ?_; case h => first | omega | (intro _; rfl) | assumption | (simp <;> omega)) | refine Ix.zero ?_ | refine Ix.one ?_ | refine Ix.two ?_ | refine Ix.nat ?_ | refine Ix.add ?_ | (apply Go.Eng.Pin.mk; apply Exists.intro) | apply Go.Eng.Pinned.mk rfl rfl | (apply Go.Eng.PinH.mk; apply Exists.intro; apply Exists.intro) | exact Go.Eng.Fin0.mk | refine Go.Eng.Chk.mk ?_ ?_ | refine Own.l ?_ | fail))
  refine ⟨⟨(0 : Nat), ⟨Nat.zero_le _, by omega⟩, by (repeat' (first | exact trivial | rfl | exact Nat.one_pos | (refine And.intro ?_ ?_) | omega | ((conv => whnf); (refine And.intro ?_ ?_)) | ((conv => whnf); exact trivial)))⟩, fun (i : Nat) hi => ?_⟩
  obtain ⟨hi, hb⟩ := hi
  (repeat' ((conv => whnf); first | (refine Giv.mk fun _ => ?_) | (refine Alt.l (Need.mk ?h ?_); case h => omega) | (refine Alt.r (Need.mk ?h ?_); case h => omega) | (refine Need.mk ?h ?_; case h => first | omega | (intro _; rfl) | assumption | (simp <;> omega)) | refine Ix.zero ?_ | refine Ix.one ?_ | refine Ix.two ?_ | refine Ix.nat ?_ | refine Ix.add ?_ | (apply Go.Eng.Pin.mk; apply Exists.intro) | apply Go.Eng.Pinned.mk rfl rfl | (apply Go.Eng.PinH.mk; apply Exists.intro; apply Exists.intro) | exact Go.Eng.Fin0.mk | refine Go.Eng.Chk.mk ?_ ?_ | refine Own.l ?_ | fail))
  (refine Br.mk (fun _ => ?_) (fun _ => ?_))
  · have hlt : i < l.length := by omega
    have bad : ((l.getD i (0, 0)).1 < 0 ∨ n ≤ (l.getD i (0, 0)).1 ∨ (l.getD i (0, 0)).2 < -1 ∨ n ≤ (l.getD i (0, 0)).2) → 2 = supE n l := fun h =>
      supE_at g1 g2 g3 hlt hb (by unfold supAt; rw [if_pos h]) (by decide)
    have hord := ordAt (l.getD (i - 1) (0, 0)).1 (l.getD (i - 1) (0, 0)).2 (l.getD i (0, 0)).1 (l.getD i (0, 0)).2
    have bad3 : 0 < (i : Int) → ((l.getD i (0, 0)).1 < (l.getD (i - 1) (0, 0)).1 ∨ ((l.getD i (0, 0)).1 = (l.getD (i - 1) (0, 0)).1 ∧ (l.getD i (0, 0)).2 ≤ (l.getD (i - 1) (0, 0)).2)) → ¬ ((l.getD i (0, 0)).1 < 0 ∨ n ≤ (l.getD i (0, 0)).1 ∨ (l.getD i (0, 0)).2 < -1 ∨ n ≤ (l.getD i (0, 0)).2) → ¬ (l.getD i (0, 0)).1 = (l.getD i (0, 0)).2 → 10 = supE n l := fun h1 h2 h3 h4 =>
      supE_at g1 g2 g3 hlt hb (by unfold supAt; rw [if_neg h3, if_neg h4, if_pos ⟨by omega, hord.2 h2⟩]) (by decide)
    have good : ¬ ((l.getD i (0, 0)).1 < 0 ∨ n ≤ (l.getD i (0, 0)).1 ∨ (l.getD i (0, 0)).2 < -1 ∨ n ≤ (l.getD i (0, 0)).2) → ¬ (l.getD i (0, 0)).1 = (l.getD i (0, 0)).2 → (0 < (i : Int) → ¬ ((l.getD i (0, 0)).1 < (l.getD (i - 1) (0, 0)).1 ∨ ((l.getD i (0, 0)).1 = (l.getD (i - 1) (0, 0)).1 ∧ (l.getD i (0, 0)).2 ≤ (l.getD (i - 1) (0, 0)).2))) → ∀ j, j < i + 1 → supAt n l j = 0 := fun h3 h4 h5 j hj => by
      by_cases e : j = i
      · subst e
        unfold supAt
        rw [if_neg h3, if_neg h4, if_neg fun h => h5 (by omega) (hord.1 h.2)]
      · exact hb j (by omega)
    (repeat' ((conv => whnf); first | (refine Giv.mk fun _ => ?_) | (refine Alt.l (Need.mk ?h ?_); case h => omega) | (refine Alt.r (Need.mk ?h ?_); case h => omega) | (refine Need.mk ?h ?_; case h => first | omega | (intro _; rfl) | assumption | (simp <;> omega)) | refine Ix.zero ?_ | refine Ix.one ?_ | refine Ix.two ?_ | refine Ix.nat ?_ | refine Ix.add ?_ | (apply Go.Eng.Pin.mk; apply Exists.intro) | apply Go.Eng.Pinned.mk rfl rfl | (apply Go.Eng.PinH.mk; apply Exists.intro; apply Exists.intro) | exact Go.Eng.Fin0.mk | refine Go.Eng.Chk.mk ?_ ?_ | refine Own.l ?_ | (refine Br.mkY ?h ?_; case h => first | omega | assumption) | (refine Br.mkN ?h ?_; case h => first | omega | assumption | exact not_not_intro (by assumption)) | (refine Br.mk (fun _ => ?_) (fun _ => ?_)) | fail))
    · (conv => whnf)
      exact ⟨rfl, bad (.inl ‹_›)⟩
    · (conv => whnf)
      exact ⟨rfl, bad (.inr (.inl ‹_›))⟩
    · (conv => whnf)
      exact ⟨rfl, bad (.inr (.inr (.inl ‹_›)))⟩
    · (conv => whnf)
      exact ⟨rfl, bad (.inr (.inr (.inr ‹_›)))⟩
    · rename_i k1 k2 k3 k4 k5
      (conv => whnf)
      exact ⟨rfl, supE_at g1 g2 g3 hlt hb (by unfold supAt; rw [if_neg (by omega), if_pos k5]) (by decide)⟩
    · refine ix_at (i - 1) (by omega) ?_
      (repeat' ((conv => whnf); first | (refine Giv.mk fun _ => ?_) | (refine Alt.l (Need.mk ?h ?_); case h => omega) | (refine Alt.r (Need.mk ?h ?_); case h => omega) | (refine Need.mk ?h ?_; case h => first | omega | (intro _; rfl) | assumption | (simp <;> omega)) | refine Ix.zero ?_ | refine Ix.one ?_ | refine Ix.two ?_ | refine Ix.nat ?_ | refine Ix.add ?_ | (apply Go.Eng.Pin.mk; apply Exists.intro) | apply Go.Eng.Pinned.mk rfl rfl | (apply Go.Eng.PinH.mk; apply Exists.intro; apply Exists.intro) | exact Go.Eng.Fin0.mk | refine Go.Eng.Chk.mk ?_ ?_ | refine Own.l ?_ | (refine Br.mkY ?h ?_; case h => first | omega | assumption) | (refine Br.mkN ?h ?_; case h => first | omega | assumption | exact not_not_intro (by assumption)) | (refine Br.mk (fun _ => ?_) (fun _ => ?_)) | fail))
      · exact ⟨rfl, bad3 ‹_› (.inl ‹_›) (by omega) (by omega)⟩
      · refine ix_at (i - 1) (by omega) ?_
        (repeat' ((conv => whnf); first | (refine Giv.mk fun _ => ?_) | (refine Alt.l (Need.mk ?h ?_); case h => omega) | (refine Alt.r (Need.mk ?h ?_); case h => omega) | (refine Need.mk ?h ?_; case h => first | omega | (intro _; rfl) | assumption | (simp <;> omega)) | refine Ix.zero ?_ | refine Ix.one ?_ | refine Ix.two ?_ | refine Ix.nat ?_ | refine Ix.add ?_ | (apply Go.Eng.Pin.mk; apply Exists.intro) | apply Go.Eng.Pinned.mk rfl rfl | (apply Go.Eng.PinH.mk; apply Exists.intro; apply Exists.intro) | exact Go.Eng.Fin0.mk | refine Go.Eng.Chk.mk ?_ ?_ | refine Own.l ?_ | (refine Br.mkY ?h ?_; case h => first | omega | assumption) | (refine Br.mkN ?h ?_; case h => first | omega | assumption | exact not_not_intro (by assumption)) | (refine Br.mk (fun _ => ?_) (fun _ => ?_)) | fail))
        · refine ix_at (i - 1) (by omega) ?_
          (repeat' ((conv => whnf); first | (refine Giv.mk fun _ => ?_) | (refine Alt.l (Need.mk ?h ?_); case h => omega) | (refine Alt.r (Need.mk ?h ?_); case h => omega) | (refine Need.mk ?h ?_; case h => first | omega | (intro _; rfl) | assumption | (simp <;> omega)) | refine Ix.zero ?_ | refine Ix.one ?_ | refine Ix.two ?_ | refine Ix.nat ?_ | refine Ix.add ?_ | (apply Go.Eng.Pin.mk; apply Exists.intro) | apply Go.Eng.Pinned.mk rfl rfl | (apply Go.Eng.PinH.mk; apply Exists.intro; apply Exists.intro) | exact Go.Eng.Fin0.mk | refine Go.Eng.Chk.mk ?_ ?_ | refine Own.l ?_ | (refine Br.mkY ?h ?_; case h => first | omega | assumption) | (refine Br.mkN ?h ?_; case h => first | omega | assumption | exact not_not_intro (by assumption)) | (refine Br.mk (fun _ => ?_) (fun _ => ?_)) | fail))
          · exact ⟨rfl, bad3 ‹_› (.inr ⟨by omega, by omega⟩) (by omega) (by omega)⟩
          · refine ⟨(i + 1 : Nat), by show l.length - (i + 1) < l.length - i; omega, ⟨hlt, good (by omega) (by omega) fun _ => by omega⟩, by (repeat' (first | exact trivial | rfl | exact Nat.one_pos | (refine And.intro ?_ ?_) | omega | ((conv => whnf); (refine And.intro ?_ ?_)) | ((conv => whnf); exact trivial)))⟩
        · refine ⟨(i + 1 : Nat), by show l.length - (i + 1) < l.length - i; omega, ⟨hlt, good (by omega) (by omega) fun _ => by omega⟩, by (repeat' (first | exact trivial | rfl | exact Nat.one_pos | (refine And.intro ?_ ?_) | omega | ((conv => whnf); (refine And.intro ?_ ?_)) | ((conv => whnf); exact trivial)))⟩
    · refine ⟨(i + 1 : Nat), by show l.length - (i + 1) < l.length - i; omega, ⟨hlt, good (by omega) (by omega) fun _ => by omega⟩, by (repeat' (first | exact trivial | rfl | exact Nat.one_pos | (refine And.intro ?_ ?_) | omega | ((conv => whnf); (refine And.intro ?_ ?_)) | ((conv => whnf); exact trivial)))⟩
  · have hii : i = l.length := by omega
    subst hii
    (repeat' ((conv => whnf); first | (refine Giv.mk fun _ => ?_) | (refine Alt.l (Need.mk ?h ?_); case h => omega) | (refine Alt.r (Need.mk ?h ?_); case h => omega) | (refine Need.mk ?h ?_; case h => first | omega | (intro _; rfl) | assumption | (simp <;> omega)) | refine Ix.zero ?_ | refine Ix.one ?_ | refine Ix.two ?_ | refine Ix.nat ?_ | refine Ix.add ?_ | (apply Go.Eng.Pin.mk; apply Exists.intro) | apply Go.Eng.Pinned.mk rfl rfl | (apply Go.Eng.PinH.mk; apply Exists.intro; apply Exists.intro) | exact Go.Eng.Fin0.mk | refine Go.Eng.Chk.mk ?_ ?_ | refine Own.l ?_ | (refine Br.mkY ?h ?_; case h => first | omega | assumption) | (refine Br.mkN ?h ?_; case h => first | omega | assumption | exact not_not_intro (by assumption)) | fail))
    (conv => whnf)
    exact ⟨rfl, supE_ok g1 g2 g3 hb⟩
def c62 : Con := mkCon 62 true fun args K => match args with | [.val (.int .i64 n), .seq (.pair (.int .i64) (.int .i64)) l] => K (I (supE n l)) | _ => False
theorem k62 : ConOK Try.prog c62 := by
  refine conOK_of rfl (enters_of Try.func62 (by kernel_rfl) rfl) ?_
  intro args K h
  simp only [c62] at h
  split at h
  · rename_i n l; exact ⟨_, h, tri_of_body (Γ := []) (by simp) Try.func62 (by simp [Try.ntmps62]) rfl (b62 n l)⟩
  · exact h.elim
/-! ### What the reference looks up -/
def someF (l : List (Int × Int)) (m : Int) (k : Nat) : Bool := (l.take k).any (upP m)
def allF (l : List (Int × Int)) (st : List Bool) (m : Int) (k : Nat) : Bool := (l.take k).all fun r => !(upP m r) || (decide (r.2 < 0) || st.getD r.2.toNat false)
theorem someF_succ (l : List (Int × Int)) (m : Int) (k : Nat) (h : k < l.length) : someF l m (k + 1) = (someF l m k || upP m (l.getD k (0, 0))) := by
  unfold someF; rw [take_pair l k h, List.any_append]; simp
theorem allF_succ (l : List (Int × Int)) (st : List Bool) (m : Int) (k : Nat) (h : k < l.length) : allF l st m (k + 1) = (allF l st m k && (!(upP m (l.getD k (0, 0))) || (decide ((l.getD k (0, 0)).2 < 0) || st.getD (l.getD k (0, 0)).2.toNat false))) := by
  unfold allF; rw [take_pair l k h, List.all_append]; simp
abbrev Bs (xs : List Bool) : SV := .seq .bool xs
theorem b63 (l : List (Int × Int)) (m : Int) (st : List Bool) (h : ∀ i, i < l.length → (l.getD i (0, 0)).2 < st.length) : body Try.prog [] { asks := [(0, [])] } true Try.f63 [Ps l, I m, Bs st] (.tup [.bl (l.any (upP m) = true) inferInstance, .bl (allF l st m l.length = true) inferInstance]) := by
  (repeat' ((conv => whnf); first | (refine Giv.mk fun _ => ?_) | (refine Alt.l (Need.mk ?h ?_); case h => omega) | (refine Alt.r (Need.mk ?h ?_); case h => omega) | (refine Need.mk ?h ?_; case h => first | omega | (intro _; rfl) | assumption | (simp <;> omega)) | refine Ix.zero ?_ | refine Ix.one ?_ | refine Ix.two ?_ | refine Ix.nat ?_ | refine Ix.add ?_ | (apply Go.Eng.Pin.mk; apply Exists.intro) | apply Go.Eng.Pinned.mk rfl rfl | (apply Go.Eng.PinH.mk; apply Exists.intro; apply Exists.intro) | exact Go.Eng.Fin0.mk | refine Go.Eng.Chk.mk ?_ ?_ | refine Own.l ?_ | fail))
  refine Ask.mk ⟨{ X := Nat, pre := fun i => i ≤ l.length, mod := fun i _ => [(8, .bl (someF l m i = true) inferInstance), (9, .bl (allF l st m i = true) inferInstance), (10, I i)], mu := fun i => l.length - i }, rfl, ?_⟩
  (repeat' ((conv => whnf); first | (refine Giv.mk fun _ => ?_) | (refine Alt.l (Need.mk ?h ?_); case h => omega) | (refine Alt.r (Need.mk ?h ?_); case h => omega) | (refine Need.mk ?h ?_; case h => first | omega | (intro _; rfl) | assumption | (simp <;> omega)) | refine Ix.zero ?_ | refine Ix.one ?_ | refine Ix.two ?_ | refine Ix.nat ?_ | refine Ix.add ?_ | (apply Go.Eng.Pin.mk; apply Exists.intro) | apply Go.Eng.Pinned.mk rfl rfl | (apply Go.Eng.PinH.mk; apply Exists.intro; apply Exists.intro) | exact Go.Eng.Fin0.mk | refine Go.Eng.Chk.mk ?_ ?_ | refine Own.l ?_ | fail))
  refine ⟨⟨(0 : Nat), Nat.zero_le _, ?_⟩, fun (i : Nat) (hi : i ≤ l.length) => ?_⟩
  · (repeat' (first | exact trivial | rfl | exact Nat.one_pos | (refine And.intro ?_ ?_) | omega | ((conv => whnf); (refine And.intro ?_ ?_)) | ((conv => whnf); exact trivial)))
    all_goals (conv => whnf)
    all_goals first | rfl | (intro h; cases h)
  · (repeat' ((conv => whnf); first | (refine Giv.mk fun _ => ?_) | (refine Alt.l (Need.mk ?h ?_); case h => omega) | (refine Alt.r (Need.mk ?h ?_); case h => omega) | (refine Need.mk ?h ?_; case h => first | omega | (intro _; rfl) | assumption | (simp <;> omega)) | refine Ix.zero ?_ | refine Ix.one ?_ | refine Ix.two ?_ | refine Ix.nat ?_ | refine Ix.add ?_ | (apply Go.Eng.Pin.mk; apply Exists.intro) | apply Go.Eng.Pinned.mk rfl rfl | (apply Go.Eng.PinH.mk; apply Exists.intro; apply Exists.intro) | exact Go.Eng.Fin0.mk | refine Go.Eng.Chk.mk ?_ ?_ | refine Own.l ?_ | fail))
    (refine Br.mk (fun _ => ?_) (fun _ => ?_))
    · have hlt : i < l.length := by omega
      have e1 := someF_succ l m i hlt
      have e2 := allF_succ l st m i hlt
      have e3 := h i hlt
      have arr : ∀ {p q : Prop}, (p ↔ someF l m (i + 1) = true) → (q ↔ allF l st m (i + 1) = true) → (p ↔ someF l m (i + 1) = true) ∧ (q ↔ allF l st m (i + 1) = true) := fun a b => ⟨a, b⟩
      (repeat' ((conv => whnf); first | (refine Giv.mk fun _ => ?_) | (refine Alt.l (Need.mk ?h ?_); case h => omega) | (refine Alt.r (Need.mk ?h ?_); case h => omega) | (refine Need.mk ?h ?_; case h => first | omega | (intro _; rfl) | assumption | (simp <;> omega)) | refine Ix.zero ?_ | refine Ix.one ?_ | refine Ix.two ?_ | refine Ix.nat ?_ | refine Ix.add ?_ | (apply Go.Eng.Pin.mk; apply Exists.intro) | apply Go.Eng.Pinned.mk rfl rfl | (apply Go.Eng.PinH.mk; apply Exists.intro; apply Exists.intro) | exact Go.Eng.Fin0.mk | refine Go.Eng.Chk.mk ?_ ?_ | refine Own.l ?_ | fail))
      (refine Br.mk (fun _ => ?_) (fun _ => ?_))
      · rename_i hu
        rw [show upP m (l.getD i (0, 0)) = true from decide_eq_true hu, Bool.or_true] at e1
        rw [show upP m (l.getD i (0, 0)) = true from decide_eq_true hu, Bool.not_true, Bool.false_or] at e2
        (repeat' ((conv => whnf); first | (refine Giv.mk fun _ => ?_) | (refine Alt.l (Need.mk ?h ?_); case h => omega) | (refine Alt.r (Need.mk ?h ?_); case h => omega) | (refine Need.mk ?h ?_; case h => first | omega | (intro _; rfl) | assumption | (simp <;> omega)) | refine Ix.zero ?_ | refine Ix.one ?_ | refine Ix.two ?_ | refine Ix.nat ?_ | refine Ix.add ?_ | (apply Go.Eng.Pin.mk; apply Exists.intro) | apply Go.Eng.Pinned.mk rfl rfl | (apply Go.Eng.PinH.mk; apply Exists.intro; apply Exists.intro) | exact Go.Eng.Fin0.mk | refine Go.Eng.Chk.mk ?_ ?_ | refine Own.l ?_ | fail))
        (refine Br.mk (fun _ => ?_) (fun _ => ?_))
        · rename_i ha
          rw [ha, Bool.true_and] at e2
          (repeat' ((conv => whnf); first | (refine Giv.mk fun _ => ?_) | (refine Alt.l (Need.mk ?h ?_); case h => omega) | (refine Alt.r (Need.mk ?h ?_); case h => omega) | (refine Need.mk ?h ?_; case h => first | omega | (intro _; rfl) | assumption | (simp <;> omega)) | refine Ix.zero ?_ | refine Ix.one ?_ | refine Ix.two ?_ | refine Ix.nat ?_ | refine Ix.add ?_ | (apply Go.Eng.Pin.mk; apply Exists.intro) | apply Go.Eng.Pinned.mk rfl rfl | (apply Go.Eng.PinH.mk; apply Exists.intro; apply Exists.intro) | exact Go.Eng.Fin0.mk | refine Go.Eng.Chk.mk ?_ ?_ | refine Own.l ?_ | fail))
          (refine Br.mk (fun _ => ?_) (fun _ => ?_))
          · rename_i hn
            rw [decide_eq_true hn, Bool.true_or] at e2
            (repeat' ((conv => whnf); first | (refine Giv.mk fun _ => ?_) | (refine Alt.l (Need.mk ?h ?_); case h => omega) | (refine Alt.r (Need.mk ?h ?_); case h => omega) | (refine Need.mk ?h ?_; case h => first | omega | (intro _; rfl) | assumption | (simp <;> omega)) | refine Ix.zero ?_ | refine Ix.one ?_ | refine Ix.two ?_ | refine Ix.nat ?_ | refine Ix.add ?_ | (apply Go.Eng.Pin.mk; apply Exists.intro) | apply Go.Eng.Pinned.mk rfl rfl | (apply Go.Eng.PinH.mk; apply Exists.intro; apply Exists.intro) | exact Go.Eng.Fin0.mk | refine Go.Eng.Chk.mk ?_ ?_ | refine Own.l ?_ | fail))
            refine ⟨(i + 1 : Nat), by show l.length - (i + 1) < l.length - i; omega, hlt, ?_⟩
            (repeat' (first | exact trivial | rfl | exact Nat.one_pos | (refine And.intro ?_ ?_) | omega | ((conv => whnf); (refine And.intro ?_ ?_)) | ((conv => whnf); exact trivial)))
            · exact e1
            · exact e2
          · rename_i hn
            rw [decide_eq_false hn, Bool.false_or] at e2
            (repeat' ((conv => whnf); first | (refine Giv.mk fun _ => ?_) | (refine Alt.l (Need.mk ?h ?_); case h => omega) | (refine Alt.r (Need.mk ?h ?_); case h => omega) | (refine Need.mk ?h ?_; case h => first | omega | (intro _; rfl) | assumption | (simp <;> omega)) | refine Ix.zero ?_ | refine Ix.one ?_ | refine Ix.two ?_ | refine Ix.nat ?_ | refine Ix.add ?_ | (apply Go.Eng.Pin.mk; apply Exists.intro) | apply Go.Eng.Pinned.mk rfl rfl | (apply Go.Eng.PinH.mk; apply Exists.intro; apply Exists.intro) | exact Go.Eng.Fin0.mk | refine Go.Eng.Chk.mk ?_ ?_ | refine Own.l ?_ | (refine Br.mkY ?h ?_; case h => first | omega | assumption) | (refine Br.mkN ?h ?_; case h => first | omega | assumption | exact not_not_intro (by assumption)) | fail))
            refine ix_at (l.getD i (0, 0)).2.toNat (by omega) ?_
            (repeat' ((conv => whnf); first | (refine Giv.mk fun _ => ?_) | (refine Alt.l (Need.mk ?h ?_); case h => omega) | (refine Alt.r (Need.mk ?h ?_); case h => omega) | (refine Need.mk ?h ?_; case h => first | omega | (intro _; rfl) | assumption | (simp <;> omega)) | refine Ix.zero ?_ | refine Ix.one ?_ | refine Ix.two ?_ | refine Ix.nat ?_ | refine Ix.add ?_ | (apply Go.Eng.Pin.mk; apply Exists.intro) | apply Go.Eng.Pinned.mk rfl rfl | (apply Go.Eng.PinH.mk; apply Exists.intro; apply Exists.intro) | exact Go.Eng.Fin0.mk | refine Go.Eng.Chk.mk ?_ ?_ | refine Own.l ?_ | fail))
            refine ⟨(i + 1 : Nat), by show l.length - (i + 1) < l.length - i; omega, hlt, ?_⟩
            (repeat' (first | exact trivial | rfl | exact Nat.one_pos | (refine And.intro ?_ ?_) | omega | ((conv => whnf); (refine And.intro ?_ ?_)) | ((conv => whnf); exact trivial)))
            · exact e1
            · (conv => whnf)
              rw [e2]
        · rename_i ha
          rw [Bool.eq_false_iff.2 ha, Bool.false_and] at e2
          (repeat' ((conv => whnf); first | (refine Giv.mk fun _ => ?_) | (refine Alt.l (Need.mk ?h ?_); case h => omega) | (refine Alt.r (Need.mk ?h ?_); case h => omega) | (refine Need.mk ?h ?_; case h => first | omega | (intro _; rfl) | assumption | (simp <;> omega)) | refine Ix.zero ?_ | refine Ix.one ?_ | refine Ix.two ?_ | refine Ix.nat ?_ | refine Ix.add ?_ | (apply Go.Eng.Pin.mk; apply Exists.intro) | apply Go.Eng.Pinned.mk rfl rfl | (apply Go.Eng.PinH.mk; apply Exists.intro; apply Exists.intro) | exact Go.Eng.Fin0.mk | refine Go.Eng.Chk.mk ?_ ?_ | refine Own.l ?_ | fail))
          refine ⟨(i + 1 : Nat), by show l.length - (i + 1) < l.length - i; omega, hlt, ?_⟩
          (repeat' (first | exact trivial | rfl | exact Nat.one_pos | (refine And.intro ?_ ?_) | omega | ((conv => whnf); (refine And.intro ?_ ?_)) | ((conv => whnf); exact trivial)))
          · exact e1
          · (conv => whnf)
            rw [e2]; simp
      · rename_i hu
        rw [show upP m (l.getD i (0, 0)) = false from decide_eq_false hu, Bool.or_false] at e1
        rw [show upP m (l.getD i (0, 0)) = false from decide_eq_false hu, Bool.not_false, Bool.true_or, Bool.and_true] at e2
        (repeat' ((conv => whnf); first | (refine Giv.mk fun _ => ?_) | (refine Alt.l (Need.mk ?h ?_); case h => omega) | (refine Alt.r (Need.mk ?h ?_); case h => omega) | (refine Need.mk ?h ?_; case h => first | omega | (intro _; rfl) | assumption | (simp <;> omega)) | refine Ix.zero ?_ | refine Ix.one ?_ | refine Ix.two ?_ | refine Ix.nat ?_ | refine Ix.add ?_ | (apply Go.Eng.Pin.mk; apply Exists.intro) | apply Go.Eng.Pinned.mk rfl rfl | (apply Go.Eng.PinH.mk; apply Exists.intro; apply Exists.intro) | exact Go.Eng.Fin0.mk | refine Go.Eng.Chk.mk ?_ ?_ | refine Own.l ?_ | fail))
        refine ⟨(i + 1 : Nat), by show l.length - (i + 1) < l.length - i; omega, hlt, ?_⟩
        (repeat' (first | exact trivial | rfl | exact Nat.one_pos | (refine And.intro ?_ ?_) | omega | ((conv => whnf); (refine And.intro ?_ ?_)) | ((conv => whnf); exact trivial)))
        · (conv => whnf)
          rw [e1]
        · (conv => whnf)
          rw [e2]
    · have hii : i = l.length := by omega
      subst hii
      (repeat' ((conv => whnf); first | (refine Giv.mk fun _ => ?_) | (refine Alt.l (Need.mk ?h ?_); case h => omega) | (refine Alt.r (Need.mk ?h ?_); case h => omega) | (refine Need.mk ?h ?_; case h => first | omega | (intro _; rfl) | assumption | (simp <;> omega)) | refine Ix.zero ?_ | refine Ix.one ?_ | refine Ix.two ?_ | refine Ix.nat ?_ | refine Ix.add ?_ | (apply Go.Eng.Pin.mk; apply Exists.intro) | apply Go.Eng.Pinned.mk rfl rfl | (apply Go.Eng.PinH.mk; apply Exists.intro; apply Exists.intro) | exact Go.Eng.Fin0.mk | refine Go.Eng.Chk.mk ?_ ?_ | refine Own.l ?_ | fail))
      (conv => whnf)
      (repeat' (first | exact trivial | rfl | exact Nat.one_pos | (refine And.intro ?_ ?_) | ((conv => whnf); (refine And.intro ?_ ?_)) | ((conv => whnf); exact trivial)))
      unfold someF
      rw [List.take_length]
      (conv => whnf)
def c63 : Con := mkCon 63 true fun args K => match args with | [.seq (.pair (.int .i64) (.int .i64)) l, .val (.int .i64 m), .seq .bool st] => Need (∀ i, i < l.length → (l.getD i (0, 0)).2 < st.length) (K (.tup [.bl (l.any (upP m) = true) inferInstance, .bl (allF l st m l.length = true) inferInstance])) | _ => False
theorem k63 : ConOK Try.prog c63 := by
  refine conOK_of rfl (enters_of Try.func63 (by kernel_rfl) rfl) ?_
  intro args K h
  simp only [c63] at h
  split at h
  · rename_i l m st; exact ⟨_, h.go, tri_of_body (Γ := []) (by simp) Try.func63 (by simp [Try.ntmps63]) rfl (b63 l m st h.ok)⟩
  · exact h.elim
/-! ### The places of a list that are true -/
def idxL (st : List Bool) (k : Nat) : List Int := ((List.range k).filter fun i => st.getD i false).map fun (i : Nat) => (i : Int)
theorem idxL_succ (st : List Bool) (k : Nat) : idxL st (k + 1) = if st.getD k false = true then idxL st k ++ [(k : Int)] else idxL st k := by
  unfold idxL
  rw [List.range_succ, List.filter_append, List.map_append]
  by_cases h : st.getD k false = true
  · rw [if_pos h, List.filter_cons_of_pos (p := fun i => st.getD i false) h]; rfl
  · rw [if_neg h, List.filter_cons_of_neg (p := fun i => st.getD i false) h]; simp
theorem idxL_len (st : List Bool) (k : Nat) : (idxL st k).length ≤ k := by
  unfold idxL
  rw [List.length_map]
  exact Nat.le_trans (List.length_filter_le _ _) (by simp)
theorem b59 (st : List Bool) (h : st.length ≤ 100000) : body Try.prog [] { asks := [(0, [1])] } true Try.f59 [Bs st] (Ls (idxL st st.length)) := by
  (repeat' ((conv => whnf); first | (refine Giv.mk fun _ => ?_) | (refine Alt.l (Need.mk ?h ?_); case h => omega) | (refine Alt.r (Need.mk ?h ?_); case h => omega) | (refine Need.mk ?h ?_; case h => first | omega | (intro _; rfl) | assumption | (simp <;> omega)) | refine Ix.zero ?_ | refine Ix.one ?_ | refine Ix.two ?_ | refine Ix.nat ?_ | refine Ix.add ?_ | (apply Go.Eng.Pin.mk; apply Exists.intro) | apply Go.Eng.Pinned.mk rfl rfl | (apply Go.Eng.PinH.mk; apply Exists.intro; apply Exists.intro) | exact Go.Eng.Fin0.mk | refine Go.Eng.Chk.mk ?_ ?_ | refine Own.l ?_ | fail))
  refine Ask.mk ⟨{ X := Nat, pre := fun i => i ≤ st.length, mod := fun i _ => [(3, .ref 1 1), (4, I i)], objs := [1], heap := fun i _ => [.vec 1 (.int .i64) [] 3, .vec 1 (.int .i64) (idxL st i) 3], mu := fun i => st.length - i }, rfl, ?_⟩
  (repeat' ((conv => whnf); first | (refine Giv.mk fun _ => ?_) | (refine Alt.l (Need.mk ?h ?_); case h => omega) | (refine Alt.r (Need.mk ?h ?_); case h => omega) | (refine Need.mk ?h ?_; case h => first | omega | (intro _; rfl) | assumption | (simp <;> omega)) | refine Ix.zero ?_ | refine Ix.one ?_ | refine Ix.two ?_ | refine Ix.nat ?_ | refine Ix.add ?_ | (apply Go.Eng.Pin.mk; apply Exists.intro) | apply Go.Eng.Pinned.mk rfl rfl | (apply Go.Eng.PinH.mk; apply Exists.intro; apply Exists.intro) | exact Go.Eng.Fin0.mk | refine Go.Eng.Chk.mk ?_ ?_ | refine Own.l ?_ | fail))
  refine ⟨⟨(0 : Nat), Nat.zero_le _, ?_⟩, fun (i : Nat) (hi : i ≤ st.length) => ?_⟩
  · (repeat' (first | exact trivial | rfl | exact Nat.one_pos | (refine And.intro ?_ ?_) | omega | ((conv => whnf); (refine And.intro ?_ ?_)) | ((conv => whnf); exact trivial)))
  · have hl := idxL_len st i
    have hsu := idxL_succ st i
    (repeat' ((conv => whnf); first | (refine Giv.mk fun _ => ?_) | (refine Alt.l (Need.mk ?h ?_); case h => omega) | (refine Alt.r (Need.mk ?h ?_); case h => omega) | (refine Need.mk ?h ?_; case h => first | omega | (intro _; rfl) | assumption | (simp <;> omega)) | refine Ix.zero ?_ | refine Ix.one ?_ | refine Ix.two ?_ | refine Ix.nat ?_ | refine Ix.add ?_ | (apply Go.Eng.Pin.mk; apply Exists.intro) | apply Go.Eng.Pinned.mk rfl rfl | (apply Go.Eng.PinH.mk; apply Exists.intro; apply Exists.intro) | exact Go.Eng.Fin0.mk | refine Go.Eng.Chk.mk ?_ ?_ | refine Own.l ?_ | fail))
    (refine Br.mk (fun _ => ?_) (fun _ => ?_))
    · (repeat' ((conv => whnf); first | (refine Giv.mk fun _ => ?_) | (refine Alt.l (Need.mk ?h ?_); case h => omega) | (refine Alt.r (Need.mk ?h ?_); case h => omega) | (refine Need.mk ?h ?_; case h => first | omega | (intro _; rfl) | assumption | (simp <;> omega)) | refine Ix.zero ?_ | refine Ix.one ?_ | refine Ix.two ?_ | refine Ix.nat ?_ | refine Ix.add ?_ | (apply Go.Eng.Pin.mk; apply Exists.intro) | apply Go.Eng.Pinned.mk rfl rfl | (apply Go.Eng.PinH.mk; apply Exists.intro; apply Exists.intro) | exact Go.Eng.Fin0.mk | refine Go.Eng.Chk.mk ?_ ?_ | refine Own.l ?_ | fail))
      (refine Br.mk (fun _ => ?_) (fun _ => ?_))
      · rename_i hh
        rw [if_pos hh] at hsu
        (repeat' ((conv => whnf); first | (refine Giv.mk fun _ => ?_) | (refine Alt.l (Need.mk ?h ?_); case h => omega) | (refine Alt.r (Need.mk ?h ?_); case h => omega) | (refine Need.mk ?h ?_; case h => first | omega | (intro _; rfl) | assumption | (simp <;> omega)) | refine Ix.zero ?_ | refine Ix.one ?_ | refine Ix.two ?_ | refine Ix.nat ?_ | refine Ix.add ?_ | (apply Go.Eng.Pin.mk; apply Exists.intro) | apply Go.Eng.Pinned.mk rfl rfl | (apply Go.Eng.PinH.mk; apply Exists.intro; apply Exists.intro) | exact Go.Eng.Fin0.mk | refine Go.Eng.Chk.mk ?_ ?_ | refine Own.l ?_ | fail))
        refine ⟨(i + 1 : Nat), by show st.length - (i + 1) < st.length - i; omega, by show i + 1 ≤ st.length; omega, ?_⟩
        (repeat' (first | exact trivial | rfl | exact Nat.one_pos | (refine And.intro ?_ ?_) | omega | ((conv => whnf); (refine And.intro ?_ ?_)) | ((conv => whnf); exact trivial)))
        exact hsu.symm
      · rename_i hh
        rw [if_neg hh] at hsu
        (repeat' ((conv => whnf); first | (refine Giv.mk fun _ => ?_) | (refine Alt.l (Need.mk ?h ?_); case h => omega) | (refine Alt.r (Need.mk ?h ?_); case h => omega) | (refine Need.mk ?h ?_; case h => first | omega | (intro _; rfl) | assumption | (simp <;> omega)) | refine Ix.zero ?_ | refine Ix.one ?_ | refine Ix.two ?_ | refine Ix.nat ?_ | refine Ix.add ?_ | (apply Go.Eng.Pin.mk; apply Exists.intro) | apply Go.Eng.Pinned.mk rfl rfl | (apply Go.Eng.PinH.mk; apply Exists.intro; apply Exists.intro) | exact Go.Eng.Fin0.mk | refine Go.Eng.Chk.mk ?_ ?_ | refine Own.l ?_ | fail))
        refine ⟨(i + 1 : Nat), by show st.length - (i + 1) < st.length - i; omega, by show i + 1 ≤ st.length; omega, ?_⟩
        (repeat' (first | exact trivial | rfl | exact Nat.one_pos | (refine And.intro ?_ ?_) | omega | ((conv => whnf); (refine And.intro ?_ ?_)) | ((conv => whnf); exact trivial)))
        exact hsu.symm
    · have hii : i = st.length := by omega
      subst hii
      (repeat' ((conv => whnf); first | (refine Giv.mk fun _ => ?_) | (refine Alt.l (Need.mk ?h ?_); case h => omega) | (refine Alt.r (Need.mk ?h ?_); case h => omega) | (refine Need.mk ?h ?_; case h => first | omega | (intro _; rfl) | assumption | (simp <;> omega)) | refine Ix.zero ?_ | refine Ix.one ?_ | refine Ix.two ?_ | refine Ix.nat ?_ | refine Ix.add ?_ | (apply Go.Eng.Pin.mk; apply Exists.intro) | apply Go.Eng.Pinned.mk rfl rfl | (apply Go.Eng.PinH.mk; apply Exists.intro; apply Exists.intro) | exact Go.Eng.Fin0.mk | refine Go.Eng.Chk.mk ?_ ?_ | refine Own.l ?_ | fail))
      (conv => whnf)
      (repeat' (first | exact trivial | rfl | exact Nat.one_pos | (refine And.intro ?_ ?_) | ((conv => whnf); (refine And.intro ?_ ?_)) | ((conv => whnf); exact trivial)))
def c59 : Con := mkCon 59 true fun args K => match args with | [.seq .bool st] => Need (st.length ≤ 100000) (K (Ls (idxL st st.length))) | _ => False
theorem k59 : ConOK Try.prog c59 := by
  refine conOK_of rfl (enters_of Try.func59 (by kernel_rfl) rfl) ?_
  intro args K h
  simp only [c59] at h
  split at h
  · rename_i st; exact ⟨_, h.go, tri_of_body (Γ := []) (by simp) Try.func59 (by simp [Try.ntmps59]) rfl (b59 st h.ok)⟩
  · exact h.elim
/-! ### Comparisons -/
theorem int_ext {xs ys : List Int} (h : xs.length = ys.length) (hg : ∀ p, p < xs.length → xs.getD p 0 = ys.getD p 0) : xs = ys := by
  apply List.ext_getElem h
  intro p h1 h2
  have := hg p h1
  simpa [List.getD_eq_getElem?_getD, h1, h2] using this
theorem b30 (xs ys : List Int) : body Try.prog [] { loops := [(0, { X := Nat, pre := fun i => i ≤ xs.length ∧ ∀ j, j < i → xs.getD j 0 = ys.getD j 0, mod := fun i _ => [(13, I i)], mu := fun i => xs.length - i })] } true Try.f30 [Ls xs, Ls ys] (.bl (xs = ys) inferInstance) := by
  (repeat' ((conv => whnf); first | (refine Giv.mk fun _ => ?_) | (refine Alt.l (Need.mk ?h ?_); case h => omega) | (refine Alt.r (Need.mk ?h ?_); case h => omega) | (refine Need.mk ?h ?_; case h => first | omega | (intro _; rfl) | assumption | (simp <;> omega)) | refine Ix.zero ?_ | refine Ix.one ?_ | refine Ix.two ?_ | refine Ix.nat ?_ | refine Ix.add ?_ | (apply Go.Eng.Pin.mk; apply Exists.intro) | apply Go.Eng.Pinned.mk rfl rfl | (apply Go.Eng.PinH.mk; apply Exists.intro; apply Exists.intro) | exact Go.Eng.Fin0.mk | refine Go.Eng.Chk.mk ?_ ?_ | refine Own.l ?_ | fail))
  (refine Br.mk (fun _ => ?_) (fun _ => ?_))
  · rename_i h
    (conv => whnf)
    exact fun e => h (by rw [e])
  · rename_i hl
    (repeat' ((conv => whnf); first | (refine Giv.mk fun _ => ?_) | (refine Alt.l (Need.mk ?h ?_); case h => omega) | (refine Alt.r (Need.mk ?h ?_); case h => omega) | (refine Need.mk ?h ?_; case h => first | omega | (intro _; rfl) | assumption | (simp <;> omega)) | refine Ix.zero ?_ | refine Ix.one ?_ | refine Ix.two ?_ | refine Ix.nat ?_ | refine Ix.add ?_ | (apply Go.Eng.Pin.mk; apply Exists.intro) | apply Go.Eng.Pinned.mk rfl rfl | (apply Go.Eng.PinH.mk; apply Exists.intro; apply Exists.intro) | exact Go.Eng.Fin0.mk | refine Go.Eng.Chk.mk ?_ ?_ | refine Own.l ?_ | fail))
    refine ⟨⟨(0 : Nat), ⟨Nat.zero_le _, fun j hj => absurd hj (Nat.not_lt_zero _)⟩, by (repeat' (first | exact trivial | rfl | exact Nat.one_pos | (refine And.intro ?_ ?_) | omega | ((conv => whnf); (refine And.intro ?_ ?_)) | ((conv => whnf); exact trivial)))⟩, fun (i : Nat) hi => ?_⟩
    obtain ⟨hi, hb⟩ := hi
    (repeat' ((conv => whnf); first | (refine Giv.mk fun _ => ?_) | (refine Alt.l (Need.mk ?h ?_); case h => omega) | (refine Alt.r (Need.mk ?h ?_); case h => omega) | (refine Need.mk ?h ?_; case h => first | omega | (intro _; rfl) | assumption | (simp <;> omega)) | refine Ix.zero ?_ | refine Ix.one ?_ | refine Ix.two ?_ | refine Ix.nat ?_ | refine Ix.add ?_ | (apply Go.Eng.Pin.mk; apply Exists.intro) | apply Go.Eng.Pinned.mk rfl rfl | (apply Go.Eng.PinH.mk; apply Exists.intro; apply Exists.intro) | exact Go.Eng.Fin0.mk | refine Go.Eng.Chk.mk ?_ ?_ | refine Own.l ?_ | fail))
    (refine Br.mk (fun _ => ?_) (fun _ => ?_))
    · have hlt : i < xs.length := by omega
      have hlt2 : i < ys.length := by omega
      (repeat' ((conv => whnf); first | (refine Giv.mk fun _ => ?_) | (refine Alt.l (Need.mk ?h ?_); case h => omega) | (refine Alt.r (Need.mk ?h ?_); case h => omega) | (refine Need.mk ?h ?_; case h => first | omega | (intro _; rfl) | assumption | (simp <;> omega)) | refine Ix.zero ?_ | refine Ix.one ?_ | refine Ix.two ?_ | refine Ix.nat ?_ | refine Ix.add ?_ | (apply Go.Eng.Pin.mk; apply Exists.intro) | apply Go.Eng.Pinned.mk rfl rfl | (apply Go.Eng.PinH.mk; apply Exists.intro; apply Exists.intro) | exact Go.Eng.Fin0.mk | refine Go.Eng.Chk.mk ?_ ?_ | refine Own.l ?_ | fail))
      (refine Br.mk (fun _ => ?_) (fun _ => ?_))
      · rename_i hne
        (repeat' ((conv => whnf); first | (refine Giv.mk fun _ => ?_) | (refine Alt.l (Need.mk ?h ?_); case h => omega) | (refine Alt.r (Need.mk ?h ?_); case h => omega) | (refine Need.mk ?h ?_; case h => first | omega | (intro _; rfl) | assumption | (simp <;> omega)) | refine Ix.zero ?_ | refine Ix.one ?_ | refine Ix.two ?_ | refine Ix.nat ?_ | refine Ix.add ?_ | (apply Go.Eng.Pin.mk; apply Exists.intro) | apply Go.Eng.Pinned.mk rfl rfl | (apply Go.Eng.PinH.mk; apply Exists.intro; apply Exists.intro) | exact Go.Eng.Fin0.mk | refine Go.Eng.Chk.mk ?_ ?_ | refine Own.l ?_ | fail))
        (conv => whnf)
        exact fun e => hne (by rw [e])
      · rename_i hne
        have hne := Classical.not_not.1 hne
        (repeat' ((conv => whnf); first | (refine Giv.mk fun _ => ?_) | (refine Alt.l (Need.mk ?h ?_); case h => omega) | (refine Alt.r (Need.mk ?h ?_); case h => omega) | (refine Need.mk ?h ?_; case h => first | omega | (intro _; rfl) | assumption | (simp <;> omega)) | refine Ix.zero ?_ | refine Ix.one ?_ | refine Ix.two ?_ | refine Ix.nat ?_ | refine Ix.add ?_ | (apply Go.Eng.Pin.mk; apply Exists.intro) | apply Go.Eng.Pinned.mk rfl rfl | (apply Go.Eng.PinH.mk; apply Exists.intro; apply Exists.intro) | exact Go.Eng.Fin0.mk | refine Go.Eng.Chk.mk ?_ ?_ | refine Own.l ?_ | fail))
        refine ⟨(i + 1 : Nat), by show xs.length - (i + 1) < xs.length - i; omega, ⟨hlt, fun j hj => ?_⟩, by (repeat' (first | exact trivial | rfl | exact Nat.one_pos | (refine And.intro ?_ ?_) | omega | ((conv => whnf); (refine And.intro ?_ ?_)) | ((conv => whnf); exact trivial)))⟩
        by_cases e : j = i
        · subst e; exact hne
        · exact hb j (by omega)
    · have hii : i = xs.length := by omega
      subst hii
      (conv => whnf)
      exact int_ext (by omega) hb
def c30 : Con := mkCon 30 true fun args K => match args with | [.seq (.int .i64) xs, .seq (.int .i64) ys] => K (.bl (xs = ys) inferInstance) | _ => False
theorem k30 : ConOK Try.prog c30 := by
  refine conOK_of rfl (enters_of Try.func30 (by kernel_rfl) rfl) ?_
  intro args K h
  simp only [c30] at h
  split at h
  · rename_i xs ys; exact ⟨_, h, tri_of_body (Γ := []) (by simp) Try.func30 (by simp [Try.ntmps30]) rfl (b30 xs ys)⟩
  · exact h.elim
theorem b31 (xs ys : List (Int × Int)) : body Try.prog [] { loops := [(0, { X := Nat, pre := fun i => i ≤ xs.length ∧ ∀ j, j < i → xs.getD j (0, 0) = ys.getD j (0, 0), mod := fun i _ => [(5, I i)], mu := fun i => xs.length - i })] } true Try.f31 [Ps xs, Ps ys] (.bl (xs = ys) inferInstance) := by
  (repeat' ((conv => whnf); first | (refine Giv.mk fun _ => ?_) | (refine Alt.l (Need.mk ?h ?_); case h => omega) | (refine Alt.r (Need.mk ?h ?_); case h => omega) | (refine Need.mk ?h ?_; case h => first | omega | (intro _; rfl) | assumption | (simp <;> omega)) | refine Ix.zero ?_ | refine Ix.one ?_ | refine Ix.two ?_ | refine Ix.nat ?_ | refine Ix.add ?_ | (apply Go.Eng.Pin.mk; apply Exists.intro) | apply Go.Eng.Pinned.mk rfl rfl | (apply Go.Eng.PinH.mk; apply Exists.intro; apply Exists.intro) | exact Go.Eng.Fin0.mk | refine Go.Eng.Chk.mk ?_ ?_ | refine Own.l ?_ | fail))
  (refine Br.mk (fun _ => ?_) (fun _ => ?_))
  · rename_i h
    (conv => whnf)
    exact fun e => h (by rw [e])
  · rename_i hl
    (repeat' ((conv => whnf); first | (refine Giv.mk fun _ => ?_) | (refine Alt.l (Need.mk ?h ?_); case h => omega) | (refine Alt.r (Need.mk ?h ?_); case h => omega) | (refine Need.mk ?h ?_; case h => first | omega | (intro _; rfl) | assumption | (simp <;> omega)) | refine Ix.zero ?_ | refine Ix.one ?_ | refine Ix.two ?_ | refine Ix.nat ?_ | refine Ix.add ?_ | (apply Go.Eng.Pin.mk; apply Exists.intro) | apply Go.Eng.Pinned.mk rfl rfl | (apply Go.Eng.PinH.mk; apply Exists.intro; apply Exists.intro) | exact Go.Eng.Fin0.mk | refine Go.Eng.Chk.mk ?_ ?_ | refine Own.l ?_ | fail))
    refine ⟨⟨(0 : Nat), ⟨Nat.zero_le _, fun j hj => absurd hj (Nat.not_lt_zero _)⟩, by (repeat' (first | exact trivial | rfl | exact Nat.one_pos | (refine And.intro ?_ ?_) | omega | ((conv => whnf); (refine And.intro ?_ ?_)) | ((conv => whnf); exact trivial)))⟩, fun (i : Nat) hi => ?_⟩
    obtain ⟨hi, hb⟩ := hi
    (repeat' ((conv => whnf); first | (refine Giv.mk fun _ => ?_) | (refine Alt.l (Need.mk ?h ?_); case h => omega) | (refine Alt.r (Need.mk ?h ?_); case h => omega) | (refine Need.mk ?h ?_; case h => first | omega | (intro _; rfl) | assumption | (simp <;> omega)) | refine Ix.zero ?_ | refine Ix.one ?_ | refine Ix.two ?_ | refine Ix.nat ?_ | refine Ix.add ?_ | (apply Go.Eng.Pin.mk; apply Exists.intro) | apply Go.Eng.Pinned.mk rfl rfl | (apply Go.Eng.PinH.mk; apply Exists.intro; apply Exists.intro) | exact Go.Eng.Fin0.mk | refine Go.Eng.Chk.mk ?_ ?_ | refine Own.l ?_ | fail))
    (refine Br.mk (fun _ => ?_) (fun _ => ?_))
    · have hlt : i < xs.length := by omega
      have hlt2 : i < ys.length := by omega
      (repeat' ((conv => whnf); first | (refine Giv.mk fun _ => ?_) | (refine Alt.l (Need.mk ?h ?_); case h => omega) | (refine Alt.r (Need.mk ?h ?_); case h => omega) | (refine Need.mk ?h ?_; case h => first | omega | (intro _; rfl) | assumption | (simp <;> omega)) | refine Ix.zero ?_ | refine Ix.one ?_ | refine Ix.two ?_ | refine Ix.nat ?_ | refine Ix.add ?_ | (apply Go.Eng.Pin.mk; apply Exists.intro) | apply Go.Eng.Pinned.mk rfl rfl | (apply Go.Eng.PinH.mk; apply Exists.intro; apply Exists.intro) | exact Go.Eng.Fin0.mk | refine Go.Eng.Chk.mk ?_ ?_ | refine Own.l ?_ | fail))
      (refine Br.mk (fun _ => ?_) (fun _ => ?_))
      · rename_i hne
        (repeat' ((conv => whnf); first | (refine Giv.mk fun _ => ?_) | (refine Alt.l (Need.mk ?h ?_); case h => omega) | (refine Alt.r (Need.mk ?h ?_); case h => omega) | (refine Need.mk ?h ?_; case h => first | omega | (intro _; rfl) | assumption | (simp <;> omega)) | refine Ix.zero ?_ | refine Ix.one ?_ | refine Ix.two ?_ | refine Ix.nat ?_ | refine Ix.add ?_ | (apply Go.Eng.Pin.mk; apply Exists.intro) | apply Go.Eng.Pinned.mk rfl rfl | (apply Go.Eng.PinH.mk; apply Exists.intro; apply Exists.intro) | exact Go.Eng.Fin0.mk | refine Go.Eng.Chk.mk ?_ ?_ | refine Own.l ?_ | fail))
        (conv => whnf)
        exact fun e => hne (by rw [e]; exact ⟨rfl, rfl⟩)
      · rename_i hne
        have hne := Classical.not_not.1 hne
        (repeat' ((conv => whnf); first | (refine Giv.mk fun _ => ?_) | (refine Alt.l (Need.mk ?h ?_); case h => omega) | (refine Alt.r (Need.mk ?h ?_); case h => omega) | (refine Need.mk ?h ?_; case h => first | omega | (intro _; rfl) | assumption | (simp <;> omega)) | refine Ix.zero ?_ | refine Ix.one ?_ | refine Ix.two ?_ | refine Ix.nat ?_ | refine Ix.add ?_ | (apply Go.Eng.Pin.mk; apply Exists.intro) | apply Go.Eng.Pinned.mk rfl rfl | (apply Go.Eng.PinH.mk; apply Exists.intro; apply Exists.intro) | exact Go.Eng.Fin0.mk | refine Go.Eng.Chk.mk ?_ ?_ | refine Own.l ?_ | fail))
        refine ⟨(i + 1 : Nat), by show xs.length - (i + 1) < xs.length - i; omega, ⟨hlt, fun j hj => ?_⟩, by (repeat' (first | exact trivial | rfl | exact Nat.one_pos | (refine And.intro ?_ ?_) | omega | ((conv => whnf); (refine And.intro ?_ ?_)) | ((conv => whnf); exact trivial)))⟩
        by_cases e : j = i
        · subst e; exact Prod.ext hne.1 hne.2
        · exact hb j (by omega)
    · have hii : i = xs.length := by omega
      subst hii
      (repeat' ((conv => whnf); first | (refine Giv.mk fun _ => ?_) | (refine Alt.l (Need.mk ?h ?_); case h => omega) | (refine Alt.r (Need.mk ?h ?_); case h => omega) | (refine Need.mk ?h ?_; case h => first | omega | (intro _; rfl) | assumption | (simp <;> omega)) | refine Ix.zero ?_ | refine Ix.one ?_ | refine Ix.two ?_ | refine Ix.nat ?_ | refine Ix.add ?_ | (apply Go.Eng.Pin.mk; apply Exists.intro) | apply Go.Eng.Pinned.mk rfl rfl | (apply Go.Eng.PinH.mk; apply Exists.intro; apply Exists.intro) | exact Go.Eng.Fin0.mk | refine Go.Eng.Chk.mk ?_ ?_ | refine Own.l ?_ | (refine Br.mkY ?h ?_; case h => first | omega | assumption) | (refine Br.mkN ?h ?_; case h => first | omega | assumption | exact not_not_intro (by assumption)) | fail))
      (conv => whnf)
      exact pair_ext (by omega) hb
def c31 : Con := mkCon 31 true fun args K => match args with | [.seq (.pair (.int .i64) (.int .i64)) xs, .seq (.pair (.int .i64) (.int .i64)) ys] => K (.bl (xs = ys) inferInstance) | _ => False
theorem k31 : ConOK Try.prog c31 := by
  refine conOK_of rfl (enters_of Try.func31 (by kernel_rfl) rfl) ?_
  intro args K h
  simp only [c31] at h
  split at h
  · rename_i xs ys; exact ⟨_, h, tri_of_body (Γ := []) (by simp) Try.func31 (by simp [Try.ntmps31]) rfl (b31 xs ys)⟩
  · exact h.elim
/-! ### Sizes -/
def greatN (n : Int) (l : List (Int × Int)) : Prop := (12 < n ∧ n ≤ 512) ∨ 30 < l.length
instance (n : Int) (l : List (Int × Int)) : Decidable (greatN n l) := by unfold greatN; exact inferInstance
theorem b24 (n : Int) (l : List (Int × Int)) : body Try.prog [] {} true Try.f24 [I n, Ps l] (.bl (greatN n l) inferInstance) := by
  (repeat' ((conv => whnf); first | (refine Giv.mk fun _ => ?_) | (refine Alt.l (Need.mk ?h ?_); case h => omega) | (refine Alt.r (Need.mk ?h ?_); case h => omega) | (refine Need.mk ?h ?_; case h => first | omega | (intro _; rfl) | assumption | (simp <;> omega)) | refine Ix.zero ?_ | refine Ix.one ?_ | refine Ix.two ?_ | refine Ix.nat ?_ | refine Ix.add ?_ | (apply Go.Eng.Pin.mk; apply Exists.intro) | apply Go.Eng.Pinned.mk rfl rfl | (apply Go.Eng.PinH.mk; apply Exists.intro; apply Exists.intro) | exact Go.Eng.Fin0.mk | refine Go.Eng.Chk.mk ?_ ?_ | refine Own.l ?_ | fail))
  all_goals unfold greatN
  (repeat' ((conv => whnf); first | (refine Giv.mk fun _ => ?_) | (refine Alt.l (Need.mk ?h ?_); case h => omega) | (refine Alt.r (Need.mk ?h ?_); case h => omega) | (refine Need.mk ?h ?_; case h => first | omega | (intro _; rfl) | assumption | (simp <;> omega)) | refine Ix.zero ?_ | refine Ix.one ?_ | refine Ix.two ?_ | refine Ix.nat ?_ | refine Ix.add ?_ | (apply Go.Eng.Pin.mk; apply Exists.intro) | apply Go.Eng.Pinned.mk rfl rfl | (apply Go.Eng.PinH.mk; apply Exists.intro; apply Exists.intro) | exact Go.Eng.Fin0.mk | refine Go.Eng.Chk.mk ?_ ?_ | refine Own.l ?_ | (refine Br.mkY ?h ?_; case h => first | omega | assumption) | (refine Br.mkN ?h ?_; case h => first | omega | assumption | exact not_not_intro (by assumption)) | (refine Br.mk (fun _ => ?_) (fun _ => ?_)) | fail))
  all_goals (conv => whnf)
  all_goals first | omega | (constructor <;> omega)
def c24 : Con := mkCon 24 true fun args K => match args with | [.val (.int .i64 n), .seq (.pair (.int .i64) (.int .i64)) l] => K (.bl (greatN n l) inferInstance) | _ => False
theorem k24 : ConOK Try.prog c24 := by
  refine conOK_of rfl (enters_of Try.func24 (by kernel_rfl) rfl) ?_
  intro args K h
  simp only [c24] at h
  split at h
  · rename_i n l; exact ⟨_, h, tri_of_body (Γ := []) (by simp) Try.func24 (by simp [Try.ntmps24]) rfl (b24 n l)⟩
  · exact h.elim
def greatS (S : List (Int × Int)) : Prop := (30 < S.length ∧ S.length ≤ 4096) ∨ 4098 < S.length
instance (S : List (Int × Int)) : Decidable (greatS S) := by unfold greatS; exact inferInstance
theorem b25 (S : List (Int × Int)) : body Try.prog [] {} true Try.f25 [Ps S] (.bl (greatS S) inferInstance) := by
  (repeat' ((conv => whnf); first | (refine Giv.mk fun _ => ?_) | (refine Alt.l (Need.mk ?h ?_); case h => omega) | (refine Alt.r (Need.mk ?h ?_); case h => omega) | (refine Need.mk ?h ?_; case h => first | omega | (intro _; rfl) | assumption | (simp <;> omega)) | refine Ix.zero ?_ | refine Ix.one ?_ | refine Ix.two ?_ | refine Ix.nat ?_ | refine Ix.add ?_ | (apply Go.Eng.Pin.mk; apply Exists.intro) | apply Go.Eng.Pinned.mk rfl rfl | (apply Go.Eng.PinH.mk; apply Exists.intro; apply Exists.intro) | exact Go.Eng.Fin0.mk | refine Go.Eng.Chk.mk ?_ ?_ | refine Own.l ?_ | fail))
  all_goals unfold greatS
  (repeat' ((conv => whnf); first | (refine Giv.mk fun _ => ?_) | (refine Alt.l (Need.mk ?h ?_); case h => omega) | (refine Alt.r (Need.mk ?h ?_); case h => omega) | (refine Need.mk ?h ?_; case h => first | omega | (intro _; rfl) | assumption | (simp <;> omega)) | refine Ix.zero ?_ | refine Ix.one ?_ | refine Ix.two ?_ | refine Ix.nat ?_ | refine Ix.add ?_ | (apply Go.Eng.Pin.mk; apply Exists.intro) | apply Go.Eng.Pinned.mk rfl rfl | (apply Go.Eng.PinH.mk; apply Exists.intro; apply Exists.intro) | exact Go.Eng.Fin0.mk | refine Go.Eng.Chk.mk ?_ ?_ | refine Own.l ?_ | (refine Br.mkY ?h ?_; case h => first | omega | assumption) | (refine Br.mkN ?h ?_; case h => first | omega | assumption | exact not_not_intro (by assumption)) | (refine Br.mk (fun _ => ?_) (fun _ => ?_)) | fail))
  all_goals (conv => whnf)
  all_goals first | omega | (constructor <;> omega)
def c25 : Con := mkCon 25 true fun args K => match args with | [.seq (.pair (.int .i64) (.int .i64)) S] => K (.bl (greatS S) inferInstance) | _ => False
theorem k25 : ConOK Try.prog c25 := by
  refine conOK_of rfl (enters_of Try.func25 (by kernel_rfl) rfl) ?_
  intro args K h
  simp only [c25] at h
  split at h
  · rename_i S; exact ⟨_, h, tri_of_body (Γ := []) (by simp) Try.func25 (by simp [Try.ntmps25]) rfl (b25 S)⟩
  · exact h.elim
end EB
end
section
set_option linter.unusedVariables false
open Go Go.Proofs Go.Eng Go.Shelf
set_option linter.unusedVariables false
namespace EB
set_option maxRecDepth 10000
/-! ### Sets of members as lists of truths -/
def bitsL (n : Int) (ws : List Int) : List Bool := (List.range n.toNat).map fun (i : Nat) => decide (hasW ws i)
theorem bitsL_len (n : Int) (ws : List Int) : (bitsL n ws).length = n.toNat := by simp [bitsL]
theorem bitsL_get (n : Int) (ws : List Int) (i : Nat) (h : i < n.toNat) : (bitsL n ws).getD i false = decide (hasW ws i) := by
  simp [bitsL, List.getD_eq_getElem?_getD, h]
theorem bitsL_nil (n : Int) : bitsL n (words n) = List.replicate n.toNat false := by
  apply List.ext_getElem
  · simp [bitsL]
  · intro i h1 h2
    simp only [bitsL, List.getElem_map, List.getElem_range, List.getElem_replicate]
    exact decide_eq_false (words_none n i)
theorem bitsL_set {n : Int} {ws ws' : List Int} {m : Nat} {b : Bool} (hm : m < n.toNat) (h1 : decide (hasW ws' m) = b) (h2 : ∀ j : Nat, j ≠ m → (hasW ws' j ↔ hasW ws j)) : (bitsL n ws).set m b = bitsL n ws' := by
  apply List.ext_getElem?
  intro j
  rw [List.getElem?_set, bitsL_len]
  by_cases e : m = j
  · subst e
    rw [if_pos rfl, if_pos hm]
    simp only [bitsL, List.getElem?_map, List.getElem?_range hm, Option.map_some]
    rw [h1]
  · rw [if_neg e]
    simp only [bitsL, List.getElem?_map]
    by_cases hj : j < n.toNat
    · rw [List.getElem?_range hj]
      simp only [Option.map_some]
      have := h2 j (fun h => e h.symm)
      rw [decide_eq_decide.2 this]
    · rw [List.getElem?_eq_none (by simpa using Nat.le_of_not_lt hj)]; rfl
theorem bitsL_put {n : Int} {ws : List Int} (hw : WOk ws) (hl : (ws.length : Int) = (n + 63) / 64) {m : Int} (hm : 0 ≤ m ∧ m < n) : (bitsL n ws).set m.toNat true = bitsL n (putW ws m) := by
  have e : m = (m.toNat : Int) := by omega
  have hlt : m.toNat / 64 < ws.length := by omega
  refine bitsL_set (by omega) ?_ fun j hj => ?_
  · refine decide_eq_true ?_
    rw [e, Int.toNat_natCast]
    exact (hasW_put hw _ _ hlt).2 (.inl rfl)
  · rw [e, hasW_put hw _ _ hlt]
    constructor
    · rintro (h | h)
      · exact absurd h hj
      · exact h
    · exact .inr
theorem bitsL_take {n : Int} {ws : List Int} (hw : WOk ws) (hl : (ws.length : Int) = (n + 63) / 64) {m : Int} (hm : 0 ≤ m ∧ m < n) : (bitsL n ws).set m.toNat false = bitsL n (takeW ws m) := by
  have e : m = (m.toNat : Int) := by omega
  have hlt : m.toNat / 64 < ws.length := by omega
  refine bitsL_set (by omega) ?_ fun j hj => ?_
  · refine decide_eq_false ?_
    rw [e, Int.toNat_natCast]
    exact fun h => ((hasW_take hw _ _ hlt).1 h).1 rfl
  · rw [e, hasW_take hw _ _ hlt]
    constructor
    · exact fun h => h.2
    · exact fun h => ⟨hj, h⟩
/-- Whether all on which a member rests stand. -/
theorem ready_iff {n : Int} {l : List (Int × Int)} (h : RestsOk n l) (ws : List Int) {m : Int} (hm : 0 ≤ m ∧ m < n) : readyP (onL n l) ws m ↔ ¬ hasW ws m ∧ allF l (bitsL n ws) m l.length = true := by
  unfold readyP
  have e : (onL n l).getD m.toNat [] = rowOf l l.length m.toNat := onN_get _ _ _ _ (by omega)
  rw [e]
  refine and_congr Iff.rfl ?_
  unfold allF rowOf
  rw [List.take_length, Bool.not_eq_true, List.any_eq_false, List.all_eq_true]
  constructor
  · intro h1 r hr
    by_cases hu : r.1 = m
    · by_cases h0 : r.2 < 0
      · rw [decide_eq_true h0]; simp
      · obtain ⟨i, hi, hi2⟩ := mem_at hr
        have h4 := (h.2.2.2 i hi)
        rw [hi2] at h4
        have h2 := h1 r.2 (List.mem_map.2 ⟨r, List.mem_filter.2 ⟨hr, decide_eq_true ⟨by omega, by omega⟩⟩, rfl⟩)
        unfold lackP at h2
        rw [decide_eq_true_iff, Classical.not_not] at h2
        rw [bitsL_get _ _ _ (by omega), Int.toNat_of_nonneg (by omega), decide_eq_true h2]; simp
    · unfold upP
      rw [decide_eq_false hu]; simp
  · intro h1 k hk
    rw [List.mem_map] at hk
    obtain ⟨r, hr, rfl⟩ := hk
    rw [List.mem_filter] at hr
    obtain ⟨hr, h2⟩ := hr
    have h2 := of_decide_eq_true h2
    have h3 := h1 r hr
    obtain ⟨i, hi, hi2⟩ := mem_at hr
    have h4 := (h.2.2.2 i hi)
    rw [hi2] at h4
    rw [show upP m r = true from decide_eq_true (by omega), decide_eq_false (show ¬ r.2 < 0 by omega), bitsL_get _ _ _ (by omega), Int.toNat_of_nonneg h2.2] at h3
    unfold lackP
    rw [decide_eq_true_iff, Classical.not_not]
    simpa using h3
theorem rest_any {n : Int} {l : List (Int × Int)} {m : Int} (hm : 0 ≤ m ∧ m < n) : (restL n l).getD m.toNat false = l.any (upP m) := by
  rw [rest_up n l _ (by omega), Int.toNat_of_nonneg hm.1]
/-! ### The least one, looked for from the end -/
def nf (on : List (List Int)) (n : Int) (ws : List Int) : Nat → Int
  | 0 => -1
  | j + 1 => if readyP on ws (n - 1 - j) then n - 1 - j else nf on n ws j
theorem nf_spec (on : List (List Int)) {n : Int} (hn : 0 ≤ n) (ws : List Int) : ∀ j : Nat, j ≤ n.toNat → (nf on n ws j = -1 ∧ ∀ i : Nat, n.toNat - j ≤ i → i < n.toNat → ¬ readyP on ws i) ∨ ∃ i : Nat, n.toNat - j ≤ i ∧ i < n.toNat ∧ nf on n ws j = i ∧ readyP on ws i ∧ ∀ q : Nat, n.toNat - j ≤ q → q < i → ¬ readyP on ws q
  | 0, _ => .inl ⟨rfl, fun i h1 h2 => by omega⟩
  | j + 1, hj => by
    have e : n - 1 - (j : Int) = ((n.toNat - (j + 1) : Nat) : Int) := by omega
    by_cases hr : readyP on ws (n - 1 - j)
    · refine .inr ⟨n.toNat - (j + 1), Nat.le_refl _, by omega, ?_, by rw [← e]; exact hr, fun q h1 h2 => by omega⟩
      unfold nf; rw [if_pos hr, e]
    · have e2 : nf on n ws (j + 1) = nf on n ws j := by show (if _ then _ else _) = _; rw [if_neg hr]
      rw [e2]
      have hno : ∀ i : Nat, n.toNat - (j + 1) ≤ i → i < n.toNat - j → ¬ readyP on ws i := fun i h1 h2 => by
        have : (i : Int) = n - 1 - j := by omega
        rw [this]; exact hr
      rcases nf_spec on hn ws j (by omega) with ⟨h1, h2⟩ | ⟨i, h1, h2, h3, h4, h5⟩
      · refine .inl ⟨h1, fun i q1 q2 => ?_⟩
        by_cases hi : i < n.toNat - j
        · exact hno i q1 hi
        · exact h2 i (by omega) q2
      · refine .inr ⟨i, by omega, h2, h3, h4, fun q q1 q2 => ?_⟩
        by_cases hi : q < n.toNat - j
        · exact hno q q1 hi
        · exact h5 q (by omega) q2
theorem nf_nxt (on : List (List Int)) {n : Int} (hn : 0 ≤ n) (ms : List Int) : nf on n (putL (words n) ms) n.toNat = nxt on n ms := by
  rcases nf_spec on hn (putL (words n) ms) n.toNat (Nat.le_refl _) with ⟨h1, h2⟩ | ⟨i, h1, h2, h3, h4, h5⟩
  · rw [h1, nxt_none fun j hj => h2 j (by omega) hj]
  · rw [h3, nxt_some h2 h4 fun j hj => h5 j (by omega) hj]
theorem nf_bound (on : List (List Int)) {n : Int} (hn : 0 ≤ n) (ws : List Int) (j : Nat) (hj : j ≤ n.toNat) : -1 ≤ nf on n ws j ∧ nf on n ws j < n := by
  rcases nf_spec on hn ws j hj with ⟨h1, h2⟩ | ⟨i, h1, h2, h3, h4, h5⟩ <;> omega
theorem raised_ms {n : Int} {l : List (Int × Int)} (k : Nat) : raisedL (stepsOf (restL n l) (msAt (onL n l) n k)) (stepsOf (restL n l) (msAt (onL n l) n k)).length = msAt (onL n l) n k := raised_all _ _
/-- None is ready, and some are left. -/
theorem order_cycle {n : Int} {l : List (Int × Int)} (hs : supE n l = 0) {k : Nat} (hk : k < n.toNat) (hl : (msAt (onL n l) n k).length = k) (h : nxt (onL n l) n (msAt (onL n l) n k) < 0) : orderErr n l = 27 ∧ orderRes n l = [] := by
  have e : ordL n l = stepsOf (restL n l) (msAt (onL n l) n k) := ordS_end (by omega) (by omega)
  have hr : raisedIn (ordL n l) (ordL n l).length < n := by
    rw [raisedIn_eq, e, raised_ms, hl]; omega
  refine ⟨?_, ?_⟩
  · unfold orderErr; rw [if_neg (not_not_intro hs), if_pos hr]
  · unfold orderRes; rw [if_neg fun h => h.2 hr]
theorem order_full {n : Int} {l : List (Int × Int)} (hs : supE n l = 0) (hn : 0 ≤ n) (hl : (msAt (onL n l) n n.toNat).length = n.toNat) : orderErr n l = 0 ∧ orderRes n l = stepsOf (restL n l) (msAt (onL n l) n n.toNat) := by
  have e : ordL n l = stepsOf (restL n l) (msAt (onL n l) n n.toNat) := rfl
  have hr : ¬ raisedIn (ordL n l) (ordL n l).length < n := by
    rw [raisedIn_eq, e, raised_ms, hl]; omega
  refine ⟨?_, ?_⟩
  · unfold orderErr; rw [if_neg (not_not_intro hs), if_neg hr]
  · unfold orderRes; rw [if_pos ⟨hs, hr⟩]; rfl
/-! ### Steps that are possible turn the sets as they say -/
theorem doAt_wF {on : List (List Int)} {rs : List Bool} {n : Int} {S : List (Int × Int)} : ∀ i, i ≤ S.length → (doAt on rs n S i).err = false → (doAt on rs n S i).st = (wF n (S.take i)).1 ∧ (doAt on rs n S i).pr = (wF n (S.take i)).2
  | 0, _, _ => ⟨rfl, rfl⟩
  | i + 1, hi, h => by
    rw [doAt_succ] at h ⊢
    have h0 : (doAt on rs n S i).err = false := by
      unfold doStep at h
      by_cases he : (doAt on rs n S i).err = true
      · rw [if_pos he, he] at h; cases h
      · exact Bool.eq_false_iff.2 he
    obtain ⟨e1, e2⟩ := doAt_wF i (by omega) h0
    rw [take_pair S i hi, wF_snoc]
    unfold doStep at h ⊢
    unfold wStep
    rw [if_neg (by rw [h0]; simp)] at h ⊢
    by_cases hc : canDo on rs (doAt on rs n S i) (S.getD i (0, 0))
    · rw [if_neg (not_not_intro hc)] at h ⊢
      by_cases k1 : (S.getD i (0, 0)).1 = 1
      · rw [if_pos k1, if_pos k1, ← e1, ← e2]; exact ⟨rfl, rfl⟩
      · rw [if_neg k1, if_neg k1]
        by_cases k2 : (S.getD i (0, 0)).1 = 2
        · rw [if_pos k2, if_pos k2, ← e1, ← e2]; exact ⟨rfl, rfl⟩
        · rw [if_neg k2, if_neg k2, ← e1, ← e2]; exact ⟨rfl, rfl⟩
    · rw [if_pos hc] at h; cases h
theorem memL_full {n : Int} {f : Nat → Bool} (h : ∀ j : Nat, j < n.toNat → f j = true) : (memL n f).length = n.toNat := by
  unfold memL
  rw [List.length_map, List.filter_eq_self.2 fun j hj => h j (List.mem_range.1 hj), List.length_range]
theorem memL_less {n : Int} {f : Nat → Bool} {j : Nat} (hj : j < n.toNat) (h : f j = false) : (memL n f).length < n.toNat := by
  unfold memL
  rw [List.length_map]
  have : ((List.range n.toNat).filter f).length < (List.range n.toNat).length := List.length_filter_lt_length_iff_exists.2 ⟨j, List.mem_range.2 hj, by rw [h]; simp⟩
  rwa [List.length_range] at this
end EB
end
