/-
  Part 7: a symbolic executor over the model, contracts of functions and plain laws.
-/
import Derived.Test.YtpmbhgmifiianaaP6
section
set_option linter.unusedVariables false
open Go Go.Proofs Go.Eng Go.Shelf
set_option linter.unusedVariables false
namespace EB
set_option maxRecDepth 10000
/-! ### slices.Delete, slices.Index -/
def cutL (xs : List (Int × Int)) (i j : Nat) : List (Int × Int) := xs.take i ++ xs.drop j
theorem cut_lay {α : Type} (xs ys zs : List α) (p : Nat) (h : p + ys.length ≤ xs.length) : List.take (p + ys.length) (layL (layL xs p ys) (p + ys.length - 0) zs) = xs.take p ++ ys := by
  have h1 : (xs.take p).length = p := by rw [List.length_take]; omega
  have h2 : (layL xs p ys).take (p + ys.length) = xs.take p ++ ys := by
    unfold layL
    first
      | rw [List.take_append_of_le_length (by rw [List.length_append, h1]; exact Nat.le_refl _), List.take_of_length_le (by rw [List.length_append, h1]; exact Nat.le_refl _)]
      | rw [← List.append_assoc, List.take_append_of_le_length (by rw [List.length_append, h1]; exact Nat.le_refl _), List.take_of_length_le (by rw [List.length_append, h1]; exact Nat.le_refl _)]
  have h3 : (layL xs p ys).length = xs.length := layL_len _ _ _ h
  rw [Nat.sub_zero, ← h2]
  generalize layL xs p ys = A at h3
  generalize p + ys.length = k at h
  have h4 : (A.take k).length = k := by rw [List.length_take]; omega
  unfold layL
  first
    | rw [List.take_append_of_le_length (by rw [List.length_append, h4]; omega), List.take_append_of_le_length (by omega), List.take_take, Nat.min_self]
    | rw [List.take_append_of_le_length (by omega), List.take_take, Nat.min_self]
theorem b36 (i j : Int) (xs : List (Int × Int)) (h : 0 ≤ i ∧ i < j ∧ j ≤ (xs.length : Int)) : bodyL Try.prog [] {} Try.f36 0 false [.any, I i, I j] Two xs 29 (.ref 0 1) (cutL xs i.toNat j.toNat) := by
  obtain ⟨h1, h2, h3⟩ := h
  obtain ⟨p, rfl⟩ : ∃ p : Nat, i = p := ⟨i.toNat, by omega⟩
  obtain ⟨q, rfl⟩ : ∃ q : Nat, j = q := ⟨j.toNat, by omega⟩
  have hl : (List.drop q (List.take xs.length xs)).length = xs.length - q := by simp
  have hll : (layL xs p (List.drop q (List.take xs.length xs))).length = xs.length := layL_len _ _ _ (by rw [hl]; omega)
  (repeat' ((conv => whnf); first | (refine Giv.mk fun _ => ?_) | (refine Alt.l (Need.mk ?h ?_); case h => omega) | (refine Alt.r (Need.mk ?h ?_); case h => omega) | (refine Need.mk ?h ?_; case h => first | omega | (intro _; rfl) | assumption | (simp <;> omega)) | refine Ix.zero ?_ | refine Ix.one ?_ | refine Ix.two ?_ | refine Ix.nat ?_ | refine Ix.add ?_ | (apply Go.Eng.Pin.mk; apply Exists.intro) | apply Go.Eng.Pinned.mk rfl rfl | (apply Go.Eng.PinH.mk; apply Exists.intro; apply Exists.intro) | exact Go.Eng.Fin0.mk | refine Go.Eng.Chk.mk ?_ ?_ | (refine Br.mkY ?h ?_; case h => first | omega | assumption) | (refine Br.mkN ?h ?_; case h => first | omega | assumption | exact not_not_intro (by assumption)) | fail))
  refine Own.r ?_
  (repeat' ((conv => whnf); first | (refine Giv.mk fun _ => ?_) | (refine Alt.l (Need.mk ?h ?_); case h => omega) | (refine Alt.r (Need.mk ?h ?_); case h => omega) | (refine Need.mk ?h ?_; case h => first | omega | (intro _; rfl) | assumption | (simp <;> omega)) | refine Ix.zero ?_ | refine Ix.one ?_ | refine Ix.two ?_ | refine Ix.nat ?_ | refine Ix.add ?_ | (apply Go.Eng.Pin.mk; apply Exists.intro) | apply Go.Eng.Pinned.mk rfl rfl | (apply Go.Eng.PinH.mk; apply Exists.intro; apply Exists.intro) | exact Go.Eng.Fin0.mk | refine Go.Eng.Chk.mk ?_ ?_ | (refine Br.mkY ?h ?_; case h => first | omega | assumption) | (refine Br.mkN ?h ?_; case h => first | omega | assumption | exact not_not_intro (by assumption)) | fail))
  refine Own.r ?_
  (repeat' ((conv => whnf); first | (refine Giv.mk fun _ => ?_) | (refine Alt.l (Need.mk ?h ?_); case h => omega) | (refine Alt.r (Need.mk ?h ?_); case h => omega) | (refine Need.mk ?h ?_; case h => first | omega | (intro _; rfl) | assumption | (simp <;> omega)) | refine Ix.zero ?_ | refine Ix.one ?_ | refine Ix.two ?_ | refine Ix.nat ?_ | refine Ix.add ?_ | (apply Go.Eng.Pin.mk; apply Exists.intro) | apply Go.Eng.Pinned.mk rfl rfl | (apply Go.Eng.PinH.mk; apply Exists.intro; apply Exists.intro) | exact Go.Eng.Fin0.mk | refine Go.Eng.Chk.mk ?_ ?_ | (refine Br.mkY ?h ?_; case h => first | omega | assumption) | (refine Br.mkN ?h ?_; case h => first | omega | assumption | exact not_not_intro (by assumption)) | fail))
  refine Own.l ?_
  (repeat' ((conv => whnf); first | (refine Giv.mk fun _ => ?_) | (refine Alt.l (Need.mk ?h ?_); case h => omega) | (refine Alt.r (Need.mk ?h ?_); case h => omega) | (refine Need.mk ?h ?_; case h => first | omega | (intro _; rfl) | assumption | (simp <;> omega)) | refine Ix.zero ?_ | refine Ix.one ?_ | refine Ix.two ?_ | refine Ix.nat ?_ | refine Ix.add ?_ | (apply Go.Eng.Pin.mk; apply Exists.intro) | apply Go.Eng.Pinned.mk rfl rfl | (apply Go.Eng.PinH.mk; apply Exists.intro; apply Exists.intro) | exact Go.Eng.Fin0.mk | refine Go.Eng.Chk.mk ?_ ?_ | (refine Br.mkY ?h ?_; case h => first | omega | assumption) | (refine Br.mkN ?h ?_; case h => first | omega | assumption | exact not_not_intro (by assumption)) | fail))
  refine Own.r ?_
  (repeat' ((conv => whnf); first | (refine Giv.mk fun _ => ?_) | (refine Alt.l (Need.mk ?h ?_); case h => omega) | (refine Alt.r (Need.mk ?h ?_); case h => omega) | (refine Need.mk ?h ?_; case h => first | omega | (intro _; rfl) | assumption | (simp <;> omega)) | refine Ix.zero ?_ | refine Ix.one ?_ | refine Ix.two ?_ | refine Ix.nat ?_ | refine Ix.add ?_ | (apply Go.Eng.Pin.mk; apply Exists.intro) | apply Go.Eng.Pinned.mk rfl rfl | (apply Go.Eng.PinH.mk; apply Exists.intro; apply Exists.intro) | exact Go.Eng.Fin0.mk | refine Go.Eng.Chk.mk ?_ ?_ | (refine Br.mkY ?h ?_; case h => first | omega | assumption) | (refine Br.mkN ?h ?_; case h => first | omega | assumption | exact not_not_intro (by assumption)) | fail))
  (repeat' (first | exact trivial | rfl | exact Nat.one_pos | (refine And.intro ?_ ?_) | ((conv => whnf); (refine And.intro ?_ ?_)) | ((conv => whnf); exact trivial)))
  rw [cut_lay xs _ _ p (by omega), List.take_length]
  rfl
def isS (v x : Int × Int) : Bool := decide (x = v)
theorem b37 (xs : List (Int × Int)) (a b : Int) : body Try.prog [] { loops := [(0, anIx 8 (isS (a, b)) xs (0, 0))] } true Try.f37 [Ps xs, .agg [I a, I b]] (I (idxOf (isS (a, b)) xs)) := by
  (repeat' ((conv => whnf); first | (refine Giv.mk fun _ => ?_) | (refine Alt.l (Need.mk ?h ?_); case h => omega) | (refine Alt.r (Need.mk ?h ?_); case h => omega) | (refine Need.mk ?h ?_; case h => first | omega | (intro _; rfl) | assumption | (simp <;> omega)) | refine Ix.zero ?_ | refine Ix.one ?_ | refine Ix.two ?_ | refine Ix.nat ?_ | refine Ix.add ?_ | (apply Go.Eng.Pin.mk; apply Exists.intro) | apply Go.Eng.Pinned.mk rfl rfl | (apply Go.Eng.PinH.mk; apply Exists.intro; apply Exists.intro) | exact Go.Eng.Fin0.mk | refine Go.Eng.Chk.mk ?_ ?_ | refine Own.l ?_ | fail))
  refine ⟨⟨(0 : Nat), ⟨Nat.zero_le _, fun j hj => absurd hj (Nat.not_lt_zero _)⟩, by (repeat' (first | exact trivial | rfl | exact Nat.one_pos | (refine And.intro ?_ ?_) | omega | ((conv => whnf); (refine And.intro ?_ ?_)) | ((conv => whnf); exact trivial)))⟩, fun (i : Nat) hi => ?_⟩
  obtain ⟨hi, hb⟩ := hi
  (repeat' ((conv => whnf); first | (refine Giv.mk fun _ => ?_) | (refine Alt.l (Need.mk ?h ?_); case h => omega) | (refine Alt.r (Need.mk ?h ?_); case h => omega) | (refine Need.mk ?h ?_; case h => first | omega | (intro _; rfl) | assumption | (simp <;> omega)) | refine Ix.zero ?_ | refine Ix.one ?_ | refine Ix.two ?_ | refine Ix.nat ?_ | refine Ix.add ?_ | (apply Go.Eng.Pin.mk; apply Exists.intro) | apply Go.Eng.Pinned.mk rfl rfl | (apply Go.Eng.PinH.mk; apply Exists.intro; apply Exists.intro) | exact Go.Eng.Fin0.mk | refine Go.Eng.Chk.mk ?_ ?_ | refine Own.l ?_ | fail))
  (refine Br.mk (fun _ => ?_) (fun _ => ?_))
  · have hlt : i < xs.length := by omega
    (repeat' ((conv => whnf); first | (refine Giv.mk fun _ => ?_) | (refine Alt.l (Need.mk ?h ?_); case h => omega) | (refine Alt.r (Need.mk ?h ?_); case h => omega) | (refine Need.mk ?h ?_; case h => first | omega | (intro _; rfl) | assumption | (simp <;> omega)) | refine Ix.zero ?_ | refine Ix.one ?_ | refine Ix.two ?_ | refine Ix.nat ?_ | refine Ix.add ?_ | (apply Go.Eng.Pin.mk; apply Exists.intro) | apply Go.Eng.Pinned.mk rfl rfl | (apply Go.Eng.PinH.mk; apply Exists.intro; apply Exists.intro) | exact Go.Eng.Fin0.mk | refine Go.Eng.Chk.mk ?_ ?_ | refine Own.l ?_ | fail))
    (refine Br.mk (fun _ => ?_) (fun _ => ?_))
    · rename_i hh
      (repeat' ((conv => whnf); first | (refine Giv.mk fun _ => ?_) | (refine Alt.l (Need.mk ?h ?_); case h => omega) | (refine Alt.r (Need.mk ?h ?_); case h => omega) | (refine Need.mk ?h ?_; case h => first | omega | (intro _; rfl) | assumption | (simp <;> omega)) | refine Ix.zero ?_ | refine Ix.one ?_ | refine Ix.two ?_ | refine Ix.nat ?_ | refine Ix.add ?_ | (apply Go.Eng.Pin.mk; apply Exists.intro) | apply Go.Eng.Pinned.mk rfl rfl | (apply Go.Eng.PinH.mk; apply Exists.intro; apply Exists.intro) | exact Go.Eng.Fin0.mk | refine Go.Eng.Chk.mk ?_ ?_ | refine Own.l ?_ | fail))
      (conv => whnf)
      exact ⟨rfl, (idxOf_some (0, 0) hlt (decide_eq_true (Prod.ext hh.1.symm hh.2.symm)) hb).symm⟩
    · rename_i hh
      (repeat' ((conv => whnf); first | (refine Giv.mk fun _ => ?_) | (refine Alt.l (Need.mk ?h ?_); case h => omega) | (refine Alt.r (Need.mk ?h ?_); case h => omega) | (refine Need.mk ?h ?_; case h => first | omega | (intro _; rfl) | assumption | (simp <;> omega)) | refine Ix.zero ?_ | refine Ix.one ?_ | refine Ix.two ?_ | refine Ix.nat ?_ | refine Ix.add ?_ | (apply Go.Eng.Pin.mk; apply Exists.intro) | apply Go.Eng.Pinned.mk rfl rfl | (apply Go.Eng.PinH.mk; apply Exists.intro; apply Exists.intro) | exact Go.Eng.Fin0.mk | refine Go.Eng.Chk.mk ?_ ?_ | refine Own.l ?_ | fail))
      refine ⟨(i + 1 : Nat), by show xs.length - (i + 1) < xs.length - i; omega, ⟨hlt, fun j hj => ?_⟩, by (repeat' (first | exact trivial | rfl | exact Nat.one_pos | (refine And.intro ?_ ?_) | omega | ((conv => whnf); (refine And.intro ?_ ?_)) | ((conv => whnf); exact trivial)))⟩
      by_cases e : j = i
      · subst e; exact decide_eq_false fun e => hh (by rw [e]; exact ⟨rfl, rfl⟩)
      · exact hb j (by omega)
  · have hii : i = xs.length := by omega
    subst hii
    (repeat' ((conv => whnf); first | (refine Giv.mk fun _ => ?_) | (refine Alt.l (Need.mk ?h ?_); case h => omega) | (refine Alt.r (Need.mk ?h ?_); case h => omega) | (refine Need.mk ?h ?_; case h => first | omega | (intro _; rfl) | assumption | (simp <;> omega)) | refine Ix.zero ?_ | refine Ix.one ?_ | refine Ix.two ?_ | refine Ix.nat ?_ | refine Ix.add ?_ | (apply Go.Eng.Pin.mk; apply Exists.intro) | apply Go.Eng.Pinned.mk rfl rfl | (apply Go.Eng.PinH.mk; apply Exists.intro; apply Exists.intro) | exact Go.Eng.Fin0.mk | refine Go.Eng.Chk.mk ?_ ?_ | refine Own.l ?_ | fail))
    (conv => whnf)
    exact ⟨rfl, (idxOf_none (0, 0) hb).symm⟩
def c36 : Con := linCon 36 0 false fun args o K => match args, o with | [.any, .val (.int .i64 i), .val (.int .i64 j)], .vec 1 (.pair (.int .i64) (.int .i64)) ws 29 => Need (0 ≤ i ∧ i < j ∧ j ≤ (ws.length : Int)) (K (.ref 0 1) (.vec 1 (.pair (.int .i64) (.int .i64)) (cutL ws i.toNat j.toNat) 29)) | _, _ => False
theorem k36 : ConOK Try.prog c36 := by
  refine linOK_of (enters_of Try.func36 (by kernel_rfl) rfl) ?_
  intro args t xs e K hfl h
  split at h
  · rename_i i j zs heq
    cases heq
    first | exact ⟨_, _, h.go, ltri_of_body (Γ := []) (by simp) Try.func36 (by simp [Try.ntmps36]) rfl (b36 i j zs h.ok)⟩ | exact ⟨_, _, h.go, ltri_of_body (Γ := []) (by simp) Try.func36 (by simp [Try.ntmps36]) rfl (b36 i j xs h.ok)⟩
  · exact h.elim
def c37 : Con := mkCon 37 true fun args K => match args with | [.seq (.pair (.int .i64) (.int .i64)) xs, .agg [.val (.int .i64 a), .val (.int .i64 b)]] => K (I (idxOf (isS (a, b)) xs)) | _ => False
theorem k37 : ConOK Try.prog c37 := by
  refine conOK_of rfl (enters_of Try.func37 (by kernel_rfl) rfl) ?_
  intro args K h
  simp only [c37] at h
  split at h
  · rename_i xs a b; exact ⟨_, h, tri_of_body (Γ := []) (by simp) Try.func37 (by simp [Try.ntmps37]) rfl (b37 xs a b)⟩
  · exact h.elim
end EB
end
section
set_option linter.unusedVariables false
open Go Go.Proofs Go.Eng Go.Shelf
set_option linter.unusedVariables false
namespace EB
set_option maxRecDepth 10000
/-! ### Steps that only raise and prop -/
def rsd (T : List (Int × Int)) : List Int := (T.filter fun x => decide (x.1 = 1)).map (·.2)
def prp (T : List (Int × Int)) : List Int := (T.filter fun x => decide (x.1 = 2)).map (·.2)
section
variable {on : List (List Int)} {rs : List Bool}
theorem fold_err : ∀ (T : List (Int × Int)) (c : CS), c.err = true → T.foldl (doOne on rs) c = c
  | [], _, _ => rfl
  | x :: r, c, h => by
    rw [List.foldl_cons]
    have : doOne on rs c x = c := by unfold doOne; rw [if_pos h]
    rw [this]; exact fold_err r c h
theorem doOne_ok {c : CS} {x : Int × Int} (hk : x.1 = 1 ∨ x.1 = 2) (h : ¬ (doOne on rs c x).err = true) : canDo on rs c x ∧ doOne on rs c x = if x.1 = 1 then ⟨putW c.st x.2, c.pr, false⟩ else ⟨c.st, putW c.pr x.2, false⟩ := by
  unfold doOne at h ⊢
  by_cases h1 : c.err = true
  · rw [if_pos h1] at h; exact absurd h1 h
  rw [if_neg h1] at h ⊢
  by_cases h2 : ¬ canDo on rs c x
  · rw [if_pos h2] at h; exact absurd rfl h
  rw [if_neg h2] at h ⊢
  refine ⟨Classical.not_not.1 h2, ?_⟩
  by_cases h3 : x.1 = 1
  · rw [if_pos h3, if_pos h3]
  · rw [if_neg h3, if_neg h3, if_pos (by omega)]
theorem fold_rp {w : List Int} : ∀ (T : List (Int × Int)) (A B : List Int), (∀ x ∈ T, x.1 = 1 ∨ x.1 = 2) → ¬ (T.foldl (doOne on rs) ⟨putL w A, putL w B, false⟩).err = true → T.foldl (doOne on rs) ⟨putL w A, putL w B, false⟩ = ⟨putL w (A ++ rsd T), putL w (B ++ prp T), false⟩
  | [], A, B, _, _ => by simp [rsd, prp]
  | x :: r, A, B, hk, h => by
    rw [List.foldl_cons] at h ⊢
    by_cases he : (doOne on rs ⟨putL w A, putL w B, false⟩ x).err = true
    · rw [fold_err _ _ he] at h; exact absurd he h
    obtain ⟨_, e⟩ := doOne_ok (hk x List.mem_cons_self) he
    rw [e] at h ⊢
    have hk' : ∀ y ∈ r, y.1 = 1 ∨ y.1 = 2 := fun y hy => hk y (List.mem_cons_of_mem _ hy)
    by_cases h1 : x.1 = 1
    · rw [if_pos h1] at h ⊢
      have e1 : rsd (x :: r) = x.2 :: rsd r := by simp [rsd, h1]
      have e2 : prp (x :: r) = prp r := by unfold prp; rw [List.filter_cons_of_neg (by simp; omega)]
      have e3 : putW (putL w A) x.2 = putL w (A ++ [x.2]) := (putL_snoc w A x.2).symm
      have h : ¬ (r.foldl (doOne on rs) ⟨putW (putL w A) x.2, putL w B, false⟩).err = true := h
      show r.foldl (doOne on rs) ⟨putW (putL w A) x.2, putL w B, false⟩ = _
      rw [e3] at h ⊢
      rw [fold_rp r _ _ hk' h, e1, e2, List.append_assoc]; rfl
    · rw [if_neg h1] at h ⊢
      have h2 : x.1 = 2 := (hk x List.mem_cons_self).resolve_left h1
      have e1 : rsd (x :: r) = rsd r := by unfold rsd; rw [List.filter_cons_of_neg (by simp; omega)]
      have e2 : prp (x :: r) = x.2 :: prp r := by simp [prp, h2]
      have e3 : putW (putL w B) x.2 = putL w (B ++ [x.2]) := (putL_snoc w B x.2).symm
      have h : ¬ (r.foldl (doOne on rs) ⟨putL w A, putW (putL w B) x.2, false⟩).err = true := h
      show r.foldl (doOne on rs) ⟨putL w A, putW (putL w B) x.2, false⟩ = _
      rw [e3] at h ⊢
      rw [fold_rp r _ _ hk' h, e1, e2, List.append_assoc]; rfl
theorem fold_can {n : Int} {X Y : List (Int × Int)} {x : Int × Int} (hk : ∀ y ∈ X ++ x :: Y, y.1 = 1 ∨ y.1 = 2) (h : ¬ (doF on rs n (X ++ x :: Y)).err = true) : canDo on rs ⟨putL (words n) (rsd X), putL (words n) (prp X), false⟩ x := by
  unfold doF at h
  rw [List.foldl_append] at h
  by_cases he : (X.foldl (doOne on rs) ⟨words n, words n, false⟩).err = true
  · rw [fold_err _ _ he] at h; exact absurd he h
  have e := fold_rp (on := on) (rs := rs) (w := words n) X [] [] (fun y hy => hk y (List.mem_append.2 (.inl hy))) he
  have e : X.foldl (doOne on rs) ⟨words n, words n, false⟩ = ⟨putL (words n) (rsd X), putL (words n) (prp X), false⟩ := e
  rw [e, List.foldl_cons] at h
  by_cases h2 : (doOne on rs ⟨putL (words n) (rsd X), putL (words n) (prp X), false⟩ x).err = true
  · rw [fold_err _ _ h2] at h; exact absurd h2 h
  exact (doOne_ok (hk x (List.mem_append.2 (.inr List.mem_cons_self))) h2).1
end
theorem rsd_mem {T : List (Int × Int)} {m : Int} : m ∈ rsd T ↔ (1, m) ∈ T := by
  unfold rsd
  simp only [List.mem_map, List.mem_filter, decide_eq_true_eq]
  constructor
  · rintro ⟨x, ⟨h1, h2⟩, rfl⟩
    have : x = (1, x.2) := Prod.ext h2 rfl
    rw [← this]; exact h1
  · intro h; exact ⟨_, ⟨h, rfl⟩, rfl⟩
theorem prp_mem {T : List (Int × Int)} {m : Int} : m ∈ prp T ↔ (2, m) ∈ T := by
  unfold prp
  simp only [List.mem_map, List.mem_filter, decide_eq_true_eq]
  constructor
  · rintro ⟨x, ⟨h1, h2⟩, rfl⟩
    have : x = (2, x.2) := Prod.ext h2 rfl
    rw [← this]; exact h1
  · intro h; exact ⟨_, ⟨h, rfl⟩, rfl⟩
theorem rsd_len (T : List (Int × Int)) : (rsd T).length ≤ T.length := by
  unfold rsd; rw [List.length_map]; exact List.length_filter_le _ _
theorem drop_mem {T : List (Int × Int)} {k : Nat} {x : Int × Int} (h : x ∈ T.drop k) : ∃ j, k ≤ j ∧ j < T.length ∧ T.getD j (0, 0) = x := by
  obtain ⟨i, hi, rfl⟩ := List.getElem_of_mem h
  have hi' : k + i < T.length := by rw [List.length_drop] at hi; omega
  exact ⟨k + i, by omega, hi', by rw [List.getElem_drop, List.getD_eq_getElem?_getD, List.getElem?_eq_getElem hi']; rfl⟩
/-! ### Without one of its steps an order is refused -/
theorem ord_chk2 {n : Int} {l T : List (Int × Int)} (h : orderErr n l = 0) (hl : T.length ≤ 4096) (hm : ∀ x ∈ T, x ∈ orderRes n l) : chkE n T = 0 ∧ (∀ x ∈ T, x.1 = 1 ∨ x.1 = 2) ∧ ∀ x ∈ T, 0 ≤ x.2 ∧ x.2 < n := by
  have hw := whole_ord h
  have key : ∀ x ∈ T, (x.1 = 1 ∨ x.1 = 2) ∧ 0 ≤ x.2 ∧ x.2 < n := fun x hx => by
    obtain ⟨i, h1, h2⟩ := mem_at (hm x hx)
    have := hw.at_ i h1
    rw [h2] at this
    exact this
  refine ⟨chkE_zero hl fun x hx => ?_, fun x hx => (key x hx).1, fun x hx => (key x hx).2⟩
  have := key x hx
  exact ⟨this.1.elim .inl fun h => .inr (.inl h), this.2⟩
theorem less_refused {n : Int} {l : List (Int × Int)} (h : orderErr n l = 0) {i : Nat} (hi : i < (orderRes n l).length) : checkE n l (cutL (orderRes n l) i (i + 1)) = 26 ∨ checkE n l (cutL (orderRes n l) i (i + 1)) = 9 := by
  have hw := whole_ord h
  have hu := raise_uniq h
  have hlen := hw.len
  have hT : ∀ x ∈ cutL (orderRes n l) i (i + 1), x ∈ orderRes n l := fun x hx => by
    rcases List.mem_append.1 hx with hx | hx
    · exact List.mem_of_mem_take hx
    · exact List.mem_of_mem_drop hx
  obtain ⟨hc, hk, hin⟩ := ord_chk2 h (by unfold cutL; simp; omega) hT
  rw [check_doF hw.sup hc]
  by_cases he : (doF (onL n l) (restL n l) n (cutL (orderRes n l) i (i + 1))).err = true
  · left; unfold endE; rw [if_pos he]
  have hx := hw.at_ i hi
  have hcut : cutL (orderRes n l) i (i + 1) = (orderRes n l).take i ++ (orderRes n l).drop (i + 1) := rfl
  rcases hx.1 with h1 | h1
  · right
    generalize hm : ((orderRes n l).getD i (0, 0)).2 = m at hx
    have hoi : (orderRes n l).getD i (0, 0) = (1, m) := Prod.ext h1 hm
    have e : doF (onL n l) (restL n l) n (cutL (orderRes n l) i (i + 1)) = ⟨putL (words n) (rsd (cutL (orderRes n l) i (i + 1))), putL (words n) (prp (cutL (orderRes n l) i (i + 1))), false⟩ := fold_rp (cutL (orderRes n l) i (i + 1)) [] [] hk he
    have hnm : ¬ m ∈ rsd (cutL (orderRes n l) i (i + 1)) := fun hm => by
      rw [rsd_mem, hcut] at hm
      rcases List.mem_append.1 hm with hm | hm
      · obtain ⟨j, j1, j2, j3⟩ := take_mem.1 hm
        exact hu j i m j1 hi j3 hoi
      · obtain ⟨j, j1, j2, j3⟩ := drop_mem hm
        exact hu i j m (by omega) j2 hoi j3
    have hin2 : InN n (rsd (cutL (orderRes n l) i (i + 1))) := fun x hx => hin _ (rsd_mem.1 hx)
    rw [e]
    unfold endE
    rw [if_neg (by simp), if_pos]
    show ((memsTo (putL (words n) (rsd (cutL (orderRes n l) i (i + 1)))) (64 * (putL (words n) (rsd (cutL (orderRes n l) i (i + 1)))).length)).length : Int) < n
    rw [memsTo_eq (n := n) (f := fun j => decide ((j : Int) ∈ rsd (cutL (orderRes n l) i (i + 1)))) hw.n0 (by rw [putL_len]; exact words_len n hw.n0) (fun j => by rw [has_mem hw.n0 hin2 (by omega), decide_eq_true_iff]) (fun j hj => (hin2 _ (of_decide_eq_true hj)).2)]
    unfold memL
    rw [List.length_map]
    have hlt : ((List.range n.toNat).filter fun (j : Nat) => decide ((j : Int) ∈ rsd (cutL (orderRes n l) i (i + 1)))).length < (List.range n.toNat).length := by
      rw [List.length_filter_lt_length_iff_exists]
      refine ⟨m.toNat, by rw [List.mem_range]; omega, ?_⟩
      rw [decide_eq_true_iff, Int.toNat_of_nonneg hx.2.1]
      exact hnm
    rw [List.length_range] at hlt
    have := hw.n0
    omega
  · exfalso
    obtain ⟨p1, p2, p3⟩ := hw.prop_ i hi h1
    generalize hm : ((orderRes n l).getD i (0, 0)).2 = m at hx p1 p3
    have hoi : (orderRes n l).getD i (0, 0) = (2, m) := Prod.ext h1 hm
    have hd : (orderRes n l).drop (i + 1) = (1, m) :: (orderRes n l).drop (i + 2) := by
      rw [List.drop_eq_getElem_cons p2]
      congr 1
      rw [← p3, List.getD_eq_getElem?_getD, List.getElem?_eq_getElem p2]; rfl
    rw [hcut, hd] at he hk
    have hcan := fold_can hk he
    unfold canDo at hcan
    rw [if_pos rfl] at hcan
    have hin2 : InN n (prp ((orderRes n l).take i)) := fun x hx => hin _ (by rw [hcut]; exact List.mem_append.2 (.inl (prp_mem.1 hx)))
    rcases hcan.2 with h2 | h2
    · rw [rest_up n l _ (by show m.toNat < _; omega)] at h2
      refine p1 ?_
      have : ((m.toNat : Nat) : Int) = m := Int.toNat_of_nonneg hx.2.1
      rw [← this]; exact h2
    · have h3 := (has_mem hw.n0 hin2 hx.2.1).1 h2
      rw [prp_mem] at h3
      obtain ⟨j, j1, j2, j3⟩ := take_mem.1 h3
      obtain ⟨_, q2, q3⟩ := hw.prop_ j j2 (by rw [j3])
      rw [j3] at q3
      exact hu (j + 1) (i + 1) m (by omega) p2 q3 p3
/-! ### A member that is raised ahead of one on which it rests -/
def swapL (o : List (Int × Int)) (a b : Nat) : List (Int × Int) := (o.set a (o.getD b (0, 0))).set b (o.getD a (0, 0))
theorem swap_mem {o : List (Int × Int)} {a b : Nat} (ha : a < o.length) (hb : b < o.length) {x : Int × Int} (h : x ∈ swapL o a b) : x ∈ o := by
  rcases List.mem_or_eq_of_mem_set h with h | rfl
  · rcases List.mem_or_eq_of_mem_set h with h | rfl
    · exact h
    · exact at_mem o b hb
  · exact at_mem o a ha
theorem raised_once {n : Int} {l : List (Int × Int)} (h : orderErr n l = 0) {m : Int} (hm : 0 ≤ m ∧ m < n) : ∃ i, i < (orderRes n l).length ∧ idxOf (isS (1, m)) (orderRes n l) = (i : Int) ∧ (orderRes n l).getD i (0, 0) = (1, m) := by
  have h3 := (whole_ord h).once m hm.1 hm.2
  have h4 : m ∈ raisedL (orderRes n l) (orderRes n l).length := by rw [← List.count_pos_iff]; omega
  rw [raisedL_mem, take_mem] at h4
  obtain ⟨j, _, h5, h6⟩ := h4
  rcases idxOf_cases (isS (1, m)) (orderRes n l) (0, 0) with ⟨_, h7⟩ | ⟨i, i1, i2, i3, _⟩
  · have := h7 j h5
    rw [h6] at this
    exact absurd rfl (of_decide_eq_false this)
  · exact ⟨i, i1, i2, of_decide_eq_true i3⟩
theorem swap_refused {n : Int} {l : List (Int × Int)} (h : orderErr n l = 0) {r : Int × Int} (hr : r ∈ l) (h0 : 0 ≤ r.2) : ∃ a b : Nat, b < a ∧ a < (orderRes n l).length ∧ idxOf (isS (1, r.1)) (orderRes n l) = (a : Int) ∧ idxOf (isS (1, r.2)) (orderRes n l) = (b : Int) ∧ checkE n l (swapL (orderRes n l) a b) = 26 := by
  have hw := whole_ord h
  have hu := raise_uniq h
  have hlen := hw.len
  obtain ⟨r1, r2, r3, r4⟩ := supE_rests hw.sup
  obtain ⟨q, q1, q2⟩ := mem_at hr
  have hq := r4 q q1
  rw [q2] at hq
  obtain ⟨a, a1, a2, a3⟩ := raised_once h (m := r.1) ⟨hq.1, hq.2.1⟩
  obtain ⟨b, b1, b2, b3⟩ := raised_once h (m := r.2) ⟨h0, hq.2.2.2⟩
  obtain ⟨j, j1, j2⟩ := edge_pos h ⟨hq.1, hq.2.1⟩ ((onL_edge ⟨hq.1, hq.2.1⟩).2 ⟨h0, hr⟩) a a1 a3
  have hbj : b = j := by
    rcases Nat.lt_trichotomy b j with hh | hh | hh
    · exact (hu b j _ hh (by omega) b3 j2).elim
    · exact hh
    · exact (hu j b _ hh b1 j2 b3).elim
  have hba : b < a := by omega
  refine ⟨a, b, hba, a1, a2, b2, ?_⟩
  obtain ⟨hc, hk, hin⟩ := ord_chk2 h (by simp [swapL]; omega) (fun x hx => swap_mem a1 b1 hx)
  rw [check_doF hw.sup hc]
  by_cases he : (doF (onL n l) (restL n l) n (swapL (orderRes n l) a b)).err = true
  · unfold endE; rw [if_pos he]
  exfalso
  have hl : b < (swapL (orderRes n l) a b).length := by simp [swapL]; omega
  have hsp : swapL (orderRes n l) a b = (orderRes n l).take b ++ (1, r.1) :: (swapL (orderRes n l) a b).drop (b + 1) := by
    have e1 : (swapL (orderRes n l) a b).take b = (orderRes n l).take b := by
      unfold swapL
      rw [List.take_set_of_le (Nat.le_refl _), List.take_set_of_le (by omega)]
    have e2 : (swapL (orderRes n l) a b)[b]'hl = (1, r.1) := by
      unfold swapL
      first | exact (List.getElem_set_self _).trans a3 | rw [List.getElem_set, if_pos rfl, a3]
    rw [← e1, ← e2, ← List.drop_eq_getElem_cons hl, List.take_append_drop]
  rw [hsp] at he hk
  have hcan := fold_can hk he
  unfold canDo at hcan
  rw [if_pos rfl] at hcan
  have hin2 : InN n (rsd ((orderRes n l).take b)) := fun x hx => by
    rw [rsd_mem, take_mem] at hx
    obtain ⟨i, _, i2, i3⟩ := hx
    have := (hw.at_ i i2).2
    rw [i3] at this
    exact this
  have := lower_in hw.n0 hin2 ⟨hq.1, hq.2.1⟩ hcan.1 hr rfl h0
  rw [rsd_mem, take_mem] at this
  obtain ⟨i, i1, i2, i3⟩ := this
  exact hu i b _ i1 b1 i3 b3
end EB
end
section
set_option linter.unusedVariables false
open Go Go.Proofs Go.Eng Go.Shelf
set_option linter.unusedVariables false
namespace EB
set_option maxRecDepth 10000
/-! ### kingpostlaw55.ErectRefused -/
set_option maxHeartbeats 1000000 in
theorem b9 (s : Int) (l : List (Int × Int)) (w : Int) (hs : inK .u8 s) (hw0 : inK .u8 w) : body Try.prog [c12, c13, c16, c23, c36, c37] { asks := [(0, [])] } true Try.f9 [.val (.int .u8 s), Ps l, .val (.int .u8 w)] (.val (.bool true)) := by
  have h1 : 0 ≤ s := by have := hs.1; simpa [lo] using this
  have h2 : s ≤ 255 := by have := hs.2; simpa [hi] using this
  have h3 : 0 ≤ w := by have := hw0.1; simpa [lo] using this
  have h4 : w ≤ 255 := by have := hw0.2; simpa [hi] using this
  (repeat' ((conv => whnf); first | (refine Giv.mk fun _ => ?_) | (refine Alt.l (Need.mk ?h ?_); case h => omega) | (refine Alt.r (Need.mk ?h ?_); case h => omega) | (refine Need.mk ?h ?_; case h => first | omega | (intro _; rfl) | assumption | (simp <;> omega)) | refine Ix.zero ?_ | refine Ix.one ?_ | refine Ix.two ?_ | refine Ix.nat ?_ | refine Ix.add ?_ | (apply Go.Eng.Pin.mk; apply Exists.intro) | apply Go.Eng.Pinned.mk rfl rfl | (apply Go.Eng.PinH.mk; apply Exists.intro; apply Exists.intro) | exact Go.Eng.Fin0.mk | refine Go.Eng.Chk.mk ?_ ?_ | refine Own.l ?_ | fail))
  (refine Br.mk (fun _ => ?_) (fun _ => ?_))
  · (repeat' ((conv => whnf); first | (refine Giv.mk fun _ => ?_) | (refine Alt.l (Need.mk ?h ?_); case h => omega) | (refine Alt.r (Need.mk ?h ?_); case h => omega) | (refine Need.mk ?h ?_; case h => first | omega | (intro _; rfl) | assumption | (simp <;> omega)) | refine Ix.zero ?_ | refine Ix.one ?_ | refine Ix.two ?_ | refine Ix.nat ?_ | refine Ix.add ?_ | (apply Go.Eng.Pin.mk; apply Exists.intro) | apply Go.Eng.Pinned.mk rfl rfl | (apply Go.Eng.PinH.mk; apply Exists.intro; apply Exists.intro) | exact Go.Eng.Fin0.mk | refine Go.Eng.Chk.mk ?_ ?_ | refine Own.l ?_ | fail))
    (conv => whnf)
  · rename_i hok
    have hok := Classical.not_not.1 hok
    have hw := whole_ord hok.2
    have hle := fun i hi => less_refused (i := i) hok.2 hi
    have hsw := fun r (hr : r ∈ l) h0 => swap_refused hok.2 hr h0
    have hr12 : res12 s l = orderRes (n12 s) l := by unfold res12; rw [if_pos hok.1]
    rw [← hr12] at hw hle hsw
    have w0 := hw.n0
    have w1 := hw.n1
    have w4 := hw.len
    (repeat' ((conv => whnf); first | (refine Giv.mk fun _ => ?_) | (refine Alt.l (Need.mk ?h ?_); case h => omega) | (refine Alt.r (Need.mk ?h ?_); case h => omega) | (refine Need.mk ?h ?_; case h => first | omega | (intro _; rfl) | assumption | (simp <;> omega)) | refine Ix.zero ?_ | refine Ix.one ?_ | refine Ix.two ?_ | refine Ix.nat ?_ | refine Ix.add ?_ | (apply Go.Eng.Pin.mk; apply Exists.intro) | apply Go.Eng.Pinned.mk rfl rfl | (apply Go.Eng.PinH.mk; apply Exists.intro; apply Exists.intro) | exact Go.Eng.Fin0.mk | refine Go.Eng.Chk.mk ?_ ?_ | refine Own.l ?_ | fail))
    (refine Br.mk (fun _ => ?_) (fun _ => ?_))
    · (repeat' ((conv => whnf); first | (refine Giv.mk fun _ => ?_) | (refine Alt.l (Need.mk ?h ?_); case h => omega) | (refine Alt.r (Need.mk ?h ?_); case h => omega) | (refine Need.mk ?h ?_; case h => first | omega | (intro _; rfl) | assumption | (simp <;> omega)) | refine Ix.zero ?_ | refine Ix.one ?_ | refine Ix.two ?_ | refine Ix.nat ?_ | refine Ix.add ?_ | (apply Go.Eng.Pin.mk; apply Exists.intro) | apply Go.Eng.Pinned.mk rfl rfl | (apply Go.Eng.PinH.mk; apply Exists.intro; apply Exists.intro) | exact Go.Eng.Fin0.mk | refine Go.Eng.Chk.mk ?_ ?_ | refine Own.l ?_ | fail))
      (conv => whnf)
    · rename_i hne
      have hi0 : 0 ≤ w % ((res12 s l).length : Int) ∧ w % ((res12 s l).length : Int) < ((res12 s l).length : Int) := ⟨Int.emod_nonneg _ hne, Int.emod_lt_of_pos _ (by omega)⟩
      have hl2 := hle (w % ((res12 s l).length : Int)).toNat (by omega)
      have et : (w % ((res12 s l).length : Int) + 1).toNat = (w % ((res12 s l).length : Int)).toNat + 1 := by omega
      rw [← et] at hl2
      (repeat' ((conv => whnf); first | (refine Giv.mk fun _ => ?_) | (refine Alt.l (Need.mk ?h ?_); case h => omega) | (refine Alt.r (Need.mk ?h ?_); case h => omega) | (refine Need.mk ?h ?_; case h => first | omega | (intro _; rfl) | assumption | (simp <;> omega)) | refine Ix.zero ?_ | refine Ix.one ?_ | refine Ix.two ?_ | refine Ix.nat ?_ | refine Ix.add ?_ | (apply Go.Eng.Pin.mk; apply Exists.intro) | apply Go.Eng.Pinned.mk rfl rfl | (apply Go.Eng.PinH.mk; apply Exists.intro; apply Exists.intro) | exact Go.Eng.Fin0.mk | refine Go.Eng.Chk.mk ?_ ?_ | (refine Br.mkY ?h ?_; case h => first | omega | assumption) | (refine Br.mkN ?h ?_; case h => first | omega | assumption | exact not_not_intro (by assumption)) | fail))
      refine Br.mk (fun hc0 => ?_) (fun hc => ?_)
      all_goals
        try have hc := hl2.resolve_left hc0
        (repeat' ((conv => whnf); first | (refine Giv.mk fun _ => ?_) | (refine Alt.l (Need.mk ?h ?_); case h => omega) | (refine Alt.r (Need.mk ?h ?_); case h => omega) | (refine Need.mk ?h ?_; case h => first | omega | (intro _; rfl) | assumption | (simp <;> omega)) | refine Ix.zero ?_ | refine Ix.one ?_ | refine Ix.two ?_ | refine Ix.nat ?_ | refine Ix.add ?_ | (apply Go.Eng.Pin.mk; apply Exists.intro) | apply Go.Eng.Pinned.mk rfl rfl | (apply Go.Eng.PinH.mk; apply Exists.intro; apply Exists.intro) | exact Go.Eng.Fin0.mk | refine Go.Eng.Chk.mk ?_ ?_ | (refine Br.mkY ?h ?_; case h => first | omega | assumption) | (refine Br.mkN ?h ?_; case h => first | omega | assumption | exact not_not_intro (by assumption)) | fail))
        refine Ask.mk ⟨{ X := Nat, pre := fun k => k ≤ l.length, mod := fun k _ => [(56, I k)], mu := fun k => l.length - k }, rfl, ?_⟩
        (repeat' ((conv => whnf); first | (refine Giv.mk fun _ => ?_) | (refine Alt.l (Need.mk ?h ?_); case h => omega) | (refine Alt.r (Need.mk ?h ?_); case h => omega) | (refine Need.mk ?h ?_; case h => first | omega | (intro _; rfl) | assumption | (simp <;> omega)) | refine Ix.zero ?_ | refine Ix.one ?_ | refine Ix.two ?_ | refine Ix.nat ?_ | refine Ix.add ?_ | (apply Go.Eng.Pin.mk; apply Exists.intro) | apply Go.Eng.Pinned.mk rfl rfl | (apply Go.Eng.PinH.mk; apply Exists.intro; apply Exists.intro) | exact Go.Eng.Fin0.mk | refine Go.Eng.Chk.mk ?_ ?_ | refine Own.l ?_ | fail))
        refine ⟨⟨(0 : Nat), Nat.zero_le _, ?_⟩, fun (k : Nat) (hk : k ≤ l.length) => ?_⟩
        · (repeat' (first | exact trivial | rfl | exact Nat.one_pos | (refine And.intro ?_ ?_) | omega | ((conv => whnf); (refine And.intro ?_ ?_)) | ((conv => whnf); exact trivial)))
        · (repeat' ((conv => whnf); first | (refine Giv.mk fun _ => ?_) | (refine Alt.l (Need.mk ?h ?_); case h => omega) | (refine Alt.r (Need.mk ?h ?_); case h => omega) | (refine Need.mk ?h ?_; case h => first | omega | (intro _; rfl) | assumption | (simp <;> omega)) | refine Ix.zero ?_ | refine Ix.one ?_ | refine Ix.two ?_ | refine Ix.nat ?_ | refine Ix.add ?_ | (apply Go.Eng.Pin.mk; apply Exists.intro) | apply Go.Eng.Pinned.mk rfl rfl | (apply Go.Eng.PinH.mk; apply Exists.intro; apply Exists.intro) | exact Go.Eng.Fin0.mk | refine Go.Eng.Chk.mk ?_ ?_ | refine Own.l ?_ | fail))
          (refine Br.mk (fun _ => ?_) (fun _ => ?_))
          · have hkl : k < l.length := by omega
            have hsk := hsw (l.getD k (0, 0)) (at_mem l k hkl)
            (repeat' ((conv => whnf); first | (refine Giv.mk fun _ => ?_) | (refine Alt.l (Need.mk ?h ?_); case h => omega) | (refine Alt.r (Need.mk ?h ?_); case h => omega) | (refine Need.mk ?h ?_; case h => first | omega | (intro _; rfl) | assumption | (simp <;> omega)) | refine Ix.zero ?_ | refine Ix.one ?_ | refine Ix.two ?_ | refine Ix.nat ?_ | refine Ix.add ?_ | (apply Go.Eng.Pin.mk; apply Exists.intro) | apply Go.Eng.Pinned.mk rfl rfl | (apply Go.Eng.PinH.mk; apply Exists.intro; apply Exists.intro) | exact Go.Eng.Fin0.mk | refine Go.Eng.Chk.mk ?_ ?_ | (refine Br.mkY ?h ?_; case h => first | omega | assumption) | (refine Br.mkN ?h ?_; case h => first | omega | assumption | exact not_not_intro (by assumption)) | fail))
            refine Br.mk (fun h0 => ?_) (fun h0 => ?_)
            · (repeat' ((conv => whnf); first | (refine Giv.mk fun _ => ?_) | (refine Alt.l (Need.mk ?h ?_); case h => omega) | (refine Alt.r (Need.mk ?h ?_); case h => omega) | (refine Need.mk ?h ?_; case h => first | omega | (intro _; rfl) | assumption | (simp <;> omega)) | refine Ix.zero ?_ | refine Ix.one ?_ | refine Ix.two ?_ | refine Ix.nat ?_ | refine Ix.add ?_ | (apply Go.Eng.Pin.mk; apply Exists.intro) | apply Go.Eng.Pinned.mk rfl rfl | (apply Go.Eng.PinH.mk; apply Exists.intro; apply Exists.intro) | exact Go.Eng.Fin0.mk | refine Go.Eng.Chk.mk ?_ ?_ | (refine Br.mkY ?h ?_; case h => first | omega | assumption) | (refine Br.mkN ?h ?_; case h => first | omega | assumption | exact not_not_intro (by assumption)) | fail))
              refine ⟨(k + 1 : Nat), by show l.length - (k + 1) < l.length - k; omega, by show k + 1 ≤ l.length; omega, ?_⟩
              (repeat' (first | exact trivial | rfl | exact Nat.one_pos | (refine And.intro ?_ ?_) | omega | ((conv => whnf); (refine And.intro ?_ ?_)) | ((conv => whnf); exact trivial)))
            · obtain ⟨a, b, g1, g2, g3, g4, g5⟩ := hsk (by omega)
              (repeat' ((conv => whnf); first | (refine Giv.mk fun _ => ?_) | (refine Alt.l (Need.mk ?h ?_); case h => omega) | (refine Alt.r (Need.mk ?h ?_); case h => omega) | (refine Need.mk ?h ?_; case h => first | omega | (intro _; rfl) | assumption | (simp <;> omega)) | refine Ix.zero ?_ | refine Ix.one ?_ | refine Ix.two ?_ | refine Ix.nat ?_ | refine Ix.add ?_ | (apply Go.Eng.Pin.mk; apply Exists.intro) | apply Go.Eng.Pinned.mk rfl rfl | (apply Go.Eng.PinH.mk; apply Exists.intro; apply Exists.intro) | exact Go.Eng.Fin0.mk | refine Go.Eng.Chk.mk ?_ ?_ | (refine Br.mkY ?h ?_; case h => first | omega | assumption) | (refine Br.mkN ?h ?_; case h => first | omega | assumption | exact not_not_intro (by assumption)) | fail))
              refine ix_at b g4 ?_
              (repeat' ((conv => whnf); first | (refine Giv.mk fun _ => ?_) | (refine Alt.l (Need.mk ?h ?_); case h => omega) | (refine Alt.r (Need.mk ?h ?_); case h => omega) | (refine Need.mk ?h ?_; case h => first | omega | (intro _; rfl) | assumption | (simp <;> omega)) | refine Ix.zero ?_ | refine Ix.one ?_ | refine Ix.two ?_ | refine Ix.nat ?_ | refine Ix.add ?_ | (apply Go.Eng.Pin.mk; apply Exists.intro) | apply Go.Eng.Pinned.mk rfl rfl | (apply Go.Eng.PinH.mk; apply Exists.intro; apply Exists.intro) | exact Go.Eng.Fin0.mk | refine Go.Eng.Chk.mk ?_ ?_ | (refine Br.mkY ?h ?_; case h => first | omega | assumption) | (refine Br.mkN ?h ?_; case h => first | omega | assumption | exact not_not_intro (by assumption)) | fail))
              refine ix_at a g3 ?_
              (repeat' ((conv => whnf); first | (refine Giv.mk fun _ => ?_) | (refine Alt.l (Need.mk ?h ?_); case h => omega) | (refine Alt.r (Need.mk ?h ?_); case h => omega) | (refine Need.mk ?h ?_; case h => first | omega | (intro _; rfl) | assumption | (simp <;> omega)) | refine Ix.zero ?_ | refine Ix.one ?_ | refine Ix.two ?_ | refine Ix.nat ?_ | refine Ix.add ?_ | (apply Go.Eng.Pin.mk; apply Exists.intro) | apply Go.Eng.Pinned.mk rfl rfl | (apply Go.Eng.PinH.mk; apply Exists.intro; apply Exists.intro) | exact Go.Eng.Fin0.mk | refine Go.Eng.Chk.mk ?_ ?_ | (refine Br.mkY ?h ?_; case h => first | omega | assumption) | (refine Br.mkN ?h ?_; case h => first | omega | assumption | exact not_not_intro (by assumption)) | fail))
              have hst : ((res12 s l).set a (((res12 s l).getD b (0, 0)).fst, ((res12 s l).getD b (0, 0)).snd)).length = (res12 s l).length := List.length_set
              refine ix_at a g3 ?_
              (repeat' ((conv => whnf); first | (refine Giv.mk fun _ => ?_) | (refine Alt.l (Need.mk ?h ?_); case h => omega) | (refine Alt.r (Need.mk ?h ?_); case h => omega) | (refine Need.mk ?h ?_; case h => first | omega | (intro _; rfl) | assumption | (simp <;> omega)) | refine Ix.zero ?_ | refine Ix.one ?_ | refine Ix.two ?_ | refine Ix.nat ?_ | refine Ix.add ?_ | (apply Go.Eng.Pin.mk; apply Exists.intro) | apply Go.Eng.Pinned.mk rfl rfl | (apply Go.Eng.PinH.mk; apply Exists.intro; apply Exists.intro) | exact Go.Eng.Fin0.mk | refine Go.Eng.Chk.mk ?_ ?_ | (refine Br.mkY ?h ?_; case h => first | omega | assumption) | (refine Br.mkN ?h ?_; case h => first | omega | assumption | exact not_not_intro (by assumption)) | fail))
              refine ix_at b g4 ?_
              (repeat' ((conv => whnf); first | (refine Giv.mk fun _ => ?_) | (refine Alt.l (Need.mk ?h ?_); case h => omega) | (refine Alt.r (Need.mk ?h ?_); case h => omega) | (refine Need.mk ?h ?_; case h => first | omega | (intro _; rfl) | assumption | (simp <;> omega)) | refine Ix.zero ?_ | refine Ix.one ?_ | refine Ix.two ?_ | refine Ix.nat ?_ | refine Ix.add ?_ | (apply Go.Eng.Pin.mk; apply Exists.intro) | apply Go.Eng.Pinned.mk rfl rfl | (apply Go.Eng.PinH.mk; apply Exists.intro; apply Exists.intro) | exact Go.Eng.Fin0.mk | refine Go.Eng.Chk.mk ?_ ?_ | (refine Br.mkY ?h ?_; case h => first | omega | assumption) | (refine Br.mkN ?h ?_; case h => first | omega | assumption | exact not_not_intro (by assumption)) | fail))
              refine ⟨(k + 1 : Nat), by show l.length - (k + 1) < l.length - k; omega, by show k + 1 ≤ l.length; omega, ?_⟩
              (repeat' (first | exact trivial | rfl | exact Nat.one_pos | (refine And.intro ?_ ?_) | omega | ((conv => whnf); (refine And.intro ?_ ?_)) | ((conv => whnf); exact trivial)))
          · (repeat' ((conv => whnf); first | (refine Giv.mk fun _ => ?_) | (refine Alt.l (Need.mk ?h ?_); case h => omega) | (refine Alt.r (Need.mk ?h ?_); case h => omega) | (refine Need.mk ?h ?_; case h => first | omega | (intro _; rfl) | assumption | (simp <;> omega)) | refine Ix.zero ?_ | refine Ix.one ?_ | refine Ix.two ?_ | refine Ix.nat ?_ | refine Ix.add ?_ | (apply Go.Eng.Pin.mk; apply Exists.intro) | apply Go.Eng.Pinned.mk rfl rfl | (apply Go.Eng.PinH.mk; apply Exists.intro; apply Exists.intro) | exact Go.Eng.Fin0.mk | refine Go.Eng.Chk.mk ?_ ?_ | refine Own.l ?_ | fail))
            (conv => whnf)
theorem t9 (s : Int) (l : List (Int × Int)) (w : Int) (hs : inK .u8 s) (hl : Okd (.slice Two) l) (hw : inK .u8 w) :
    Tri Try.prog true 9 [.val (.int .u8 s), Ps l, .val (.int .u8 w)] (.val (.bool true)) :=
  tri_of_body (Γ := [c12, c13, c16, c23, c36, c37]) (by simp [k12, k13, k16, k23, k36, k37]) Try.func9 (by simp [Try.ntmps9]) rfl (b9 s l w hs hw)
end EB
end
