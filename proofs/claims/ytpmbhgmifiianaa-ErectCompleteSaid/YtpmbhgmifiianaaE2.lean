import Derived.Test.YtpmbhgmifiianaaE1
open Go Go.Proofs Go.Eng Go.Shelf
namespace EB
set_option maxRecDepth 10000
/-! ### What rests on what -/
def rowOf (l : List (Int × Int)) (k m : Nat) : List Int := ((l.take k).filter fun r => decide (r.1 = (m : Int) ∧ 0 ≤ r.2)).map (·.2)
def onN (n : Nat) (l : List (Int × Int)) (k : Nat) : List (List Int) := (List.range n).map (rowOf l k)
def restB (l : List (Int × Int)) (k m : Nat) : Bool := (l.take k).any fun r => decide (r.1 = (m : Int))
def restN (n : Nat) (l : List (Int × Int)) (k : Nat) : List Bool := (List.range n).map (restB l k)
theorem onN_len (n : Nat) (l : List (Int × Int)) (k : Nat) : (onN n l k).length = n := by simp [onN]
theorem restN_len (n : Nat) (l : List (Int × Int)) (k : Nat) : (restN n l k).length = n := by simp [restN]
theorem onN_get (n : Nat) (l : List (Int × Int)) (k m : Nat) (h : m < n) : (onN n l k).getD m [] = rowOf l k m := by
  simp [onN, List.getD_eq_getElem?_getD, h]
theorem restN_get (n : Nat) (l : List (Int × Int)) (k m : Nat) (h : m < n) : (restN n l k).getD m false = restB l k m := by
  simp [restN, List.getD_eq_getElem?_getD, h]
theorem onN_zero (n : Nat) (l : List (Int × Int)) : onN n l 0 = List.replicate n [] := by
  apply List.ext_getElem <;> simp [onN, rowOf]
theorem restN_zero (n : Nat) (l : List (Int × Int)) : restN n l 0 = List.replicate n false := by
  apply List.ext_getElem <;> simp [restN, restB]
theorem take_pair (l : List (Int × Int)) (k : Nat) (h : k < l.length) : l.take (k + 1) = l.take k ++ [l.getD k (0, 0)] := by
  rw [List.take_succ_eq_append_getElem h]; simp [List.getD_eq_getElem?_getD, h]
theorem rowOf_len (l : List (Int × Int)) (k m : Nat) : (rowOf l k m).length ≤ l.length := by
  unfold rowOf
  rw [List.length_map]
  refine Nat.le_trans (List.length_filter_le _ _) ?_
  rw [List.length_take]; omega
theorem rowOf_succ (l : List (Int × Int)) (k m : Nat) (h : k < l.length) : rowOf l (k + 1) m = if (l.getD k (0, 0)).1 = (m : Int) ∧ 0 ≤ (l.getD k (0, 0)).2 then rowOf l k m ++ [(l.getD k (0, 0)).2] else rowOf l k m := by
  unfold rowOf
  rw [take_pair l k h, List.filter_append, List.map_append]
  by_cases e : (l.getD k (0, 0)).1 = (m : Int) ∧ 0 ≤ (l.getD k (0, 0)).2
  · rw [if_pos e]; simp only [List.filter_cons, decide_eq_true e]; rfl
  · rw [if_neg e]; simp only [List.filter_cons, decide_eq_false e]; simp
theorem restB_succ (l : List (Int × Int)) (k m : Nat) (h : k < l.length) : restB l (k + 1) m = (restB l k m || decide ((l.getD k (0, 0)).1 = (m : Int))) := by
  unfold restB
  rw [take_pair l k h, List.any_append]; simp
theorem onN_same (n : Nat) (l : List (Int × Int)) (k : Nat) (h : k < l.length) (h2 : ¬ 0 ≤ (l.getD k (0, 0)).2) : onN n l (k + 1) = onN n l k := by
  unfold onN
  refine List.map_congr_left fun m _ => ?_
  rw [rowOf_succ l k m h, if_neg fun e => h2 e.2]
theorem onN_step (n : Nat) (l : List (Int × Int)) (k u : Nat) (h : k < l.length) (hu : (l.getD k (0, 0)).1 = (u : Int)) (h2 : 0 ≤ (l.getD k (0, 0)).2) (hun : u < n) : (onN n l k).set u ((onN n l k).getD u [] ++ [(l.getD k (0, 0)).2]) = onN n l (k + 1) := by
  apply List.ext_getElem?
  intro m
  rw [List.getElem?_set, onN_len, onN_get _ _ _ _ hun]
  by_cases e : u = m
  · subst e
    simp only [if_true, if_pos hun, onN, List.getElem?_map, List.getElem?_range hun, Option.map_some]
    rw [rowOf_succ l k u h, if_pos ⟨hu, h2⟩]
  · rw [if_neg e]
    simp only [onN, List.getElem?_map]
    cases hm : (List.range n)[m]? with
    | none => rfl
    | some j =>
      have hj : j = m := by
        have := List.getElem?_eq_some_iff.1 hm
        obtain ⟨h1, h2⟩ := this
        simpa using h2.symm
      subst hj
      simp only [Option.map_some]
      rw [rowOf_succ l k j h, if_neg (by rintro ⟨h1, _⟩; omega)]
theorem restN_step (n : Nat) (l : List (Int × Int)) (k u : Nat) (h : k < l.length) (hu : (l.getD k (0, 0)).1 = (u : Int)) (hun : u < n) : (restN n l k).set u true = restN n l (k + 1) := by
  apply List.ext_getElem?
  intro m
  rw [List.getElem?_set, restN_len]
  by_cases e : u = m
  · subst e
    simp only [if_true, if_pos hun, restN, List.getElem?_map, List.getElem?_range hun, Option.map_some]
    rw [restB_succ l k u h, decide_eq_true hu, Bool.or_true]
  · rw [if_neg e]
    simp only [restN, List.getElem?_map]
    cases hm : (List.range n)[m]? with
    | none => rfl
    | some j =>
      have hj : j = m := by
        have := List.getElem?_eq_some_iff.1 hm
        obtain ⟨h1, h2⟩ := this
        simpa using h2.symm
      subst hj
      simp only [Option.map_some]
      rw [restB_succ l k j h, decide_eq_false (by omega), Bool.or_false]
/-- Rests that can be. -/
def RestsOk (n : Int) (l : List (Int × Int)) : Prop := l.length ≤ 4096 ∧ 0 ≤ n ∧ n ≤ 512 ∧ ∀ i, i < l.length → 0 ≤ (l.getD i (0, 0)).1 ∧ (l.getD i (0, 0)).1 < n ∧ -1 ≤ (l.getD i (0, 0)).2 ∧ (l.getD i (0, 0)).2 < n
theorem b48 (n : Int) (l : List (Int × Int)) (h : RestsOk n l) : body Try.prog [] { asks := [(0, [])] } true Try.f48 [I n, Ps l] (.agg [.seq (.slice (.int .i64)) (onN n.toNat l l.length), .seq .bool (restN n.toNat l l.length)]) := by
  obtain ⟨h1, h2, h3, h4⟩ := h
  (repeat' ((conv => whnf); first | (refine Giv.mk (fun _ => ?_)) | (refine Alt.l (Need.mk ?h ?_); case h => omega) | (refine Alt.r (Need.mk ?h ?_); case h => omega) | (refine Need.mk ?h ?_; case h => omega) | (refine Need.mk ?h ?_; case h => (intro _; rfl)) | (refine Need.mk ?h ?_; case h => assumption) | (refine Need.mk ?h ?_; case h => (simp <;> omega)) | (refine Ix.zero ?_) | (refine Ix.one ?_) | (refine Ix.two ?_) | (refine Ix.nat ?_) | (refine Ix.add ?_) | (apply Go.Eng.Pin.mk; apply Exists.intro) | (apply Go.Eng.Pinned.mk (Eq.refl _) (Eq.refl _)) | (apply Go.Eng.PinH.mk; apply Exists.intro; apply Exists.intro) | (exact Go.Eng.Fin0.mk) | (refine Go.Eng.Chk.mk ?_ ?_) | fail))
  refine Need.mk (show 0 ≤ n ∧ n ≤ n ∧ n ≤ 140737488355328 ∧ n * ((24 : Nat) : Int) ≤ 140737488355328 by omega) ?_
  (repeat' ((conv => whnf); first | (refine Giv.mk (fun _ => ?_)) | (refine Alt.l (Need.mk ?h ?_); case h => omega) | (refine Alt.r (Need.mk ?h ?_); case h => omega) | (refine Need.mk ?h ?_; case h => omega) | (refine Need.mk ?h ?_; case h => (intro _; rfl)) | (refine Need.mk ?h ?_; case h => assumption) | (refine Need.mk ?h ?_; case h => (simp <;> omega)) | (refine Ix.zero ?_) | (refine Ix.one ?_) | (refine Ix.two ?_) | (refine Ix.nat ?_) | (refine Ix.add ?_) | (apply Go.Eng.Pin.mk; apply Exists.intro) | (apply Go.Eng.Pinned.mk (Eq.refl _) (Eq.refl _)) | (apply Go.Eng.PinH.mk; apply Exists.intro; apply Exists.intro) | (exact Go.Eng.Fin0.mk) | (refine Go.Eng.Chk.mk ?_ ?_) | fail))
  refine Need.mk (show 0 ≤ n ∧ n ≤ n ∧ n ≤ 140737488355328 ∧ n * ((1 : Nat) : Int) ≤ 140737488355328 by omega) ?_
  (repeat' ((conv => whnf); first | (refine Giv.mk (fun _ => ?_)) | (refine Alt.l (Need.mk ?h ?_); case h => omega) | (refine Alt.r (Need.mk ?h ?_); case h => omega) | (refine Need.mk ?h ?_; case h => omega) | (refine Need.mk ?h ?_; case h => (intro _; rfl)) | (refine Need.mk ?h ?_; case h => assumption) | (refine Need.mk ?h ?_; case h => (simp <;> omega)) | (refine Ix.zero ?_) | (refine Ix.one ?_) | (refine Ix.two ?_) | (refine Ix.nat ?_) | (refine Ix.add ?_) | (apply Go.Eng.Pin.mk; apply Exists.intro) | (apply Go.Eng.Pinned.mk (Eq.refl _) (Eq.refl _)) | (apply Go.Eng.PinH.mk; apply Exists.intro; apply Exists.intro) | (exact Go.Eng.Fin0.mk) | (refine Go.Eng.Chk.mk ?_ ?_) | fail))
  refine Ask.mk ⟨{ X := Nat × Nat, pre := fun x => x.1 ≤ l.length, mod := fun x _ => [(15, I x.1)], heap := fun x _ => [.cells [.val (.slice none 0 0), .val (.slice none 0 0)] 75, .vv 1 x.2 (.int .i64) (onN n.toNat l x.1) none 27 3, .vec 1 .bool (restN n.toNat l x.1) 4, .cells [.ref 1 1, .ref 2 1] 75], mu := fun x => l.length - x.1 }, rfl, ?_⟩
  (repeat' ((conv => whnf); first | (refine Giv.mk (fun _ => ?_)) | (refine Alt.l (Need.mk ?h ?_); case h => omega) | (refine Alt.r (Need.mk ?h ?_); case h => omega) | (refine Need.mk ?h ?_; case h => omega) | (refine Need.mk ?h ?_; case h => (intro _; rfl)) | (refine Need.mk ?h ?_; case h => assumption) | (refine Need.mk ?h ?_; case h => (simp <;> omega)) | (refine Ix.zero ?_) | (refine Ix.one ?_) | (refine Ix.two ?_) | (refine Ix.nat ?_) | (refine Ix.add ?_) | (apply Go.Eng.Pin.mk; apply Exists.intro) | (apply Go.Eng.Pinned.mk (Eq.refl _) (Eq.refl _)) | (apply Go.Eng.PinH.mk; apply Exists.intro; apply Exists.intro) | (exact Go.Eng.Fin0.mk) | (refine Go.Eng.Chk.mk ?_ ?_) | fail))
  refine ⟨⟨((0 : Nat), (0 : Nat)), Nat.zero_le _, ?_⟩, fun (x : Nat × Nat) hi => ?_⟩
  · (repeat' (first | exact trivial | rfl | exact Nat.one_pos | (refine And.intro ?_ ?_) | omega | ((conv => whnf); (refine And.intro ?_ ?_)) | ((conv => whnf); exact trivial)))
    · exact (onN_zero _ _).symm
    · exact (restN_zero _ _).symm
  · have hi : x.1 ≤ l.length := hi
    have hol := onN_len n.toNat l x.1
    have hrl := restN_len n.toNat l x.1
    (repeat' ((conv => whnf); first | (refine Giv.mk (fun _ => ?_)) | (refine Alt.l (Need.mk ?h ?_); case h => omega) | (refine Alt.r (Need.mk ?h ?_); case h => omega) | (refine Need.mk ?h ?_; case h => omega) | (refine Need.mk ?h ?_; case h => (intro _; rfl)) | (refine Need.mk ?h ?_; case h => assumption) | (refine Need.mk ?h ?_; case h => (simp <;> omega)) | (refine Ix.zero ?_) | (refine Ix.one ?_) | (refine Ix.two ?_) | (refine Ix.nat ?_) | (refine Ix.add ?_) | (apply Go.Eng.Pin.mk; apply Exists.intro) | (apply Go.Eng.Pinned.mk (Eq.refl _) (Eq.refl _)) | (apply Go.Eng.PinH.mk; apply Exists.intro; apply Exists.intro) | (exact Go.Eng.Fin0.mk) | (refine Go.Eng.Chk.mk ?_ ?_) | fail))
    (refine Br.mk (fun _ => ?_) (fun _ => ?_))
    · have hlt : x.1 < l.length := by omega
      obtain ⟨g1, g2, g3, g4⟩ := h4 x.1 hlt
      have hun : (l.getD x.1 (0, 0)).1.toNat < n.toNat := by omega
      have hu : (l.getD x.1 (0, 0)).1 = ((l.getD x.1 (0, 0)).1.toNat : Int) := by omega
      have hrs := restN_step n.toNat l x.1 _ hlt hu hun
      have hrow := rowOf_len l x.1 (l.getD x.1 (0, 0)).1.toNat
      have hget := onN_get n.toNat l x.1 _ hun
      (repeat' ((conv => whnf); first | (refine Giv.mk (fun _ => ?_)) | (refine Alt.l (Need.mk ?h ?_); case h => omega) | (refine Alt.r (Need.mk ?h ?_); case h => omega) | (refine Need.mk ?h ?_; case h => omega) | (refine Need.mk ?h ?_; case h => (intro _; rfl)) | (refine Need.mk ?h ?_; case h => assumption) | (refine Need.mk ?h ?_; case h => (simp <;> omega)) | (refine Ix.zero ?_) | (refine Ix.one ?_) | (refine Ix.two ?_) | (refine Ix.nat ?_) | (refine Ix.add ?_) | (apply Go.Eng.Pin.mk; apply Exists.intro) | (apply Go.Eng.Pinned.mk (Eq.refl _) (Eq.refl _)) | (apply Go.Eng.PinH.mk; apply Exists.intro; apply Exists.intro) | (exact Go.Eng.Fin0.mk) | (refine Go.Eng.Chk.mk ?_ ?_) | fail))
      refine ix_at (l.getD x.1 (0, 0)).1.toNat hu ?_
      (repeat' ((conv => whnf); first | (refine Giv.mk (fun _ => ?_)) | (refine Alt.l (Need.mk ?h ?_); case h => omega) | (refine Alt.r (Need.mk ?h ?_); case h => omega) | (refine Need.mk ?h ?_; case h => omega) | (refine Need.mk ?h ?_; case h => (intro _; rfl)) | (refine Need.mk ?h ?_; case h => assumption) | (refine Need.mk ?h ?_; case h => (simp <;> omega)) | (refine Ix.zero ?_) | (refine Ix.one ?_) | (refine Ix.two ?_) | (refine Ix.nat ?_) | (refine Ix.add ?_) | (apply Go.Eng.Pin.mk; apply Exists.intro) | (apply Go.Eng.Pinned.mk (Eq.refl _) (Eq.refl _)) | (apply Go.Eng.PinH.mk; apply Exists.intro; apply Exists.intro) | (exact Go.Eng.Fin0.mk) | (refine Go.Eng.Chk.mk ?_ ?_) | fail))
      (refine Br.mk (fun _ => ?_) (fun _ => ?_))
      · (repeat' ((conv => whnf); first | (refine Giv.mk (fun _ => ?_)) | (refine Alt.l (Need.mk ?h ?_); case h => omega) | (refine Alt.r (Need.mk ?h ?_); case h => omega) | (refine Need.mk ?h ?_; case h => omega) | (refine Need.mk ?h ?_; case h => (intro _; rfl)) | (refine Need.mk ?h ?_; case h => assumption) | (refine Need.mk ?h ?_; case h => (simp <;> omega)) | (refine Ix.zero ?_) | (refine Ix.one ?_) | (refine Ix.two ?_) | (refine Ix.nat ?_) | (refine Ix.add ?_) | (apply Go.Eng.Pin.mk; apply Exists.intro) | (apply Go.Eng.Pinned.mk (Eq.refl _) (Eq.refl _)) | (apply Go.Eng.PinH.mk; apply Exists.intro; apply Exists.intro) | (exact Go.Eng.Fin0.mk) | (refine Go.Eng.Chk.mk ?_ ?_) | fail))
        refine ix_at (l.getD x.1 (0, 0)).1.toNat hu ?_
        (repeat' ((conv => whnf); first | (refine Giv.mk (fun _ => ?_)) | (refine Alt.l (Need.mk ?h ?_); case h => omega) | (refine Alt.r (Need.mk ?h ?_); case h => omega) | (refine Need.mk ?h ?_; case h => omega) | (refine Need.mk ?h ?_; case h => (intro _; rfl)) | (refine Need.mk ?h ?_; case h => assumption) | (refine Need.mk ?h ?_; case h => (simp <;> omega)) | (refine Ix.zero ?_) | (refine Ix.one ?_) | (refine Ix.two ?_) | (refine Ix.nat ?_) | (refine Ix.add ?_) | (apply Go.Eng.Pin.mk; apply Exists.intro) | (apply Go.Eng.Pinned.mk (Eq.refl _) (Eq.refl _)) | (apply Go.Eng.PinH.mk; apply Exists.intro; apply Exists.intro) | (exact Go.Eng.Fin0.mk) | (refine Go.Eng.Chk.mk ?_ ?_) | fail))
        refine Need.mk (show ((onN n.toNat l x.1).getD (l.getD x.1 (0, 0)).1.toNat []).length + 1 ≤ 17592186044416 by rw [hget]; omega) ?_
        (repeat' ((conv => whnf); first | (refine Giv.mk (fun _ => ?_)) | (refine Alt.l (Need.mk ?h ?_); case h => omega) | (refine Alt.r (Need.mk ?h ?_); case h => omega) | (refine Need.mk ?h ?_; case h => omega) | (refine Need.mk ?h ?_; case h => (intro _; rfl)) | (refine Need.mk ?h ?_; case h => assumption) | (refine Need.mk ?h ?_; case h => (simp <;> omega)) | (refine Ix.zero ?_) | (refine Ix.one ?_) | (refine Ix.two ?_) | (refine Ix.nat ?_) | (refine Ix.add ?_) | (apply Go.Eng.Pin.mk; apply Exists.intro) | (apply Go.Eng.Pinned.mk (Eq.refl _) (Eq.refl _)) | (apply Go.Eng.PinH.mk; apply Exists.intro; apply Exists.intro) | (exact Go.Eng.Fin0.mk) | (refine Go.Eng.Chk.mk ?_ ?_) | fail))
        · refine Need.mk (show ((onN n.toNat l x.1).getD (l.getD x.1 (0, 0)).1.toNat []).length + 1 ≤ 17592186044416 by rw [hget]; omega) ?_
          (repeat' ((conv => whnf); first | (refine Giv.mk (fun _ => ?_)) | (refine Alt.l (Need.mk ?h ?_); case h => omega) | (refine Alt.r (Need.mk ?h ?_); case h => omega) | (refine Need.mk ?h ?_; case h => omega) | (refine Need.mk ?h ?_; case h => (intro _; rfl)) | (refine Need.mk ?h ?_; case h => assumption) | (refine Need.mk ?h ?_; case h => (simp <;> omega)) | (refine Ix.zero ?_) | (refine Ix.one ?_) | (refine Ix.two ?_) | (refine Ix.nat ?_) | (refine Ix.add ?_) | (apply Go.Eng.Pin.mk; apply Exists.intro) | (apply Go.Eng.Pinned.mk (Eq.refl _) (Eq.refl _)) | (apply Go.Eng.PinH.mk; apply Exists.intro; apply Exists.intro) | (exact Go.Eng.Fin0.mk) | (refine Go.Eng.Chk.mk ?_ ?_) | fail))
        · refine ix_at (l.getD x.1 (0, 0)).1.toNat hu ?_
          (repeat' ((conv => whnf); first | (refine Giv.mk (fun _ => ?_)) | (refine Alt.l (Need.mk ?h ?_); case h => omega) | (refine Alt.r (Need.mk ?h ?_); case h => omega) | (refine Need.mk ?h ?_; case h => omega) | (refine Need.mk ?h ?_; case h => (intro _; rfl)) | (refine Need.mk ?h ?_; case h => assumption) | (refine Need.mk ?h ?_; case h => (simp <;> omega)) | (refine Ix.zero ?_) | (refine Ix.one ?_) | (refine Ix.two ?_) | (refine Ix.nat ?_) | (refine Ix.add ?_) | (apply Go.Eng.Pin.mk; apply Exists.intro) | (apply Go.Eng.Pinned.mk (Eq.refl _) (Eq.refl _)) | (apply Go.Eng.PinH.mk; apply Exists.intro; apply Exists.intro) | (exact Go.Eng.Fin0.mk) | (refine Go.Eng.Chk.mk ?_ ?_) | fail))
        · refine ix_at (l.getD x.1 (0, 0)).1.toNat hu ?_
          (repeat' ((conv => whnf); first | (refine Giv.mk (fun _ => ?_)) | (refine Alt.l (Need.mk ?h ?_); case h => omega) | (refine Alt.r (Need.mk ?h ?_); case h => omega) | (refine Need.mk ?h ?_; case h => omega) | (refine Need.mk ?h ?_; case h => (intro _; rfl)) | (refine Need.mk ?h ?_; case h => assumption) | (refine Need.mk ?h ?_; case h => (simp <;> omega)) | (refine Ix.zero ?_) | (refine Ix.one ?_) | (refine Ix.two ?_) | (refine Ix.nat ?_) | (refine Ix.add ?_) | (apply Go.Eng.Pin.mk; apply Exists.intro) | (apply Go.Eng.Pinned.mk (Eq.refl _) (Eq.refl _)) | (apply Go.Eng.PinH.mk; apply Exists.intro; apply Exists.intro) | (exact Go.Eng.Fin0.mk) | (refine Go.Eng.Chk.mk ?_ ?_) | fail))
          refine Need.mk (show ((onN n.toNat l x.1).getD (l.getD x.1 (0, 0)).1.toNat [] ++ [(l.getD x.1 (0, 0)).2]).length ≤ 140737488355328 by rw [hget, List.length_append, List.length_singleton]; omega) ?_
          (repeat' ((conv => whnf); first | (refine Giv.mk (fun _ => ?_)) | (refine Alt.l (Need.mk ?h ?_); case h => omega) | (refine Alt.r (Need.mk ?h ?_); case h => omega) | (refine Need.mk ?h ?_; case h => omega) | (refine Need.mk ?h ?_; case h => (intro _; rfl)) | (refine Need.mk ?h ?_; case h => assumption) | (refine Need.mk ?h ?_; case h => (simp <;> omega)) | (refine Ix.zero ?_) | (refine Ix.one ?_) | (refine Ix.two ?_) | (refine Ix.nat ?_) | (refine Ix.add ?_) | (apply Go.Eng.Pin.mk; apply Exists.intro) | (apply Go.Eng.Pinned.mk (Eq.refl _) (Eq.refl _)) | (apply Go.Eng.PinH.mk; apply Exists.intro; apply Exists.intro) | (exact Go.Eng.Fin0.mk) | (refine Go.Eng.Chk.mk ?_ ?_) | fail))
          refine ⟨((x.1 + 1 : Nat), (x.2 + 1 + 1 : Nat)), ?_, ?_, ?_⟩
          · show l.length - (x.1 + 1) < l.length - x.1
            omega
          · show x.1 + 1 ≤ l.length
            omega
          · (repeat' (first | exact trivial | rfl | exact Nat.one_pos | (refine And.intro ?_ ?_) | omega | ((conv => whnf); (refine And.intro ?_ ?_)) | ((conv => whnf); exact trivial)))
            · exact onN_step n.toNat l x.1 _ hlt hu ‹_› hun
            · exact hrs
      · have hos := onN_same n.toNat l x.1 hlt ‹_›
        (repeat' ((conv => whnf); first | (refine Giv.mk (fun _ => ?_)) | (refine Alt.l (Need.mk ?h ?_); case h => omega) | (refine Alt.r (Need.mk ?h ?_); case h => omega) | (refine Need.mk ?h ?_; case h => omega) | (refine Need.mk ?h ?_; case h => (intro _; rfl)) | (refine Need.mk ?h ?_; case h => assumption) | (refine Need.mk ?h ?_; case h => (simp <;> omega)) | (refine Ix.zero ?_) | (refine Ix.one ?_) | (refine Ix.two ?_) | (refine Ix.nat ?_) | (refine Ix.add ?_) | (apply Go.Eng.Pin.mk; apply Exists.intro) | (apply Go.Eng.Pinned.mk (Eq.refl _) (Eq.refl _)) | (apply Go.Eng.PinH.mk; apply Exists.intro; apply Exists.intro) | (exact Go.Eng.Fin0.mk) | (refine Go.Eng.Chk.mk ?_ ?_) | fail))
        (conv => whnf)
        refine ⟨((x.1 + 1 : Nat), x.2), ?_, ?_, ?_⟩
        · show l.length - (x.1 + 1) < l.length - x.1
          omega
        · show x.1 + 1 ≤ l.length
          omega
        · (repeat' (first | exact trivial | rfl | exact Nat.one_pos | (refine And.intro ?_ ?_) | omega | ((conv => whnf); (refine And.intro ?_ ?_)) | ((conv => whnf); exact trivial)))
          · exact hos.symm
          · exact hrs
    · have hii : x.1 = l.length := by omega
      (repeat' ((conv => whnf); first | (refine Giv.mk (fun _ => ?_)) | (refine Alt.l (Need.mk ?h ?_); case h => omega) | (refine Alt.r (Need.mk ?h ?_); case h => omega) | (refine Need.mk ?h ?_; case h => omega) | (refine Need.mk ?h ?_; case h => (intro _; rfl)) | (refine Need.mk ?h ?_; case h => assumption) | (refine Need.mk ?h ?_; case h => (simp <;> omega)) | (refine Ix.zero ?_) | (refine Ix.one ?_) | (refine Ix.two ?_) | (refine Ix.nat ?_) | (refine Ix.add ?_) | (apply Go.Eng.Pin.mk; apply Exists.intro) | (apply Go.Eng.Pinned.mk (Eq.refl _) (Eq.refl _)) | (apply Go.Eng.PinH.mk; apply Exists.intro; apply Exists.intro) | (exact Go.Eng.Fin0.mk) | (refine Go.Eng.Chk.mk ?_ ?_) | fail))
      (conv => whnf)
      refine ⟨?_, ?_, trivial⟩
      · (conv => whnf)
        rw [hii]
      · (conv => whnf)
        rw [hii]
def c48 : Con := mkCon 48 true fun args K => match args with | [.val (.int .i64 n), .seq (.pair (.int .i64) (.int .i64)) l] => Need (RestsOk n l) (K (.agg [.seq (.slice (.int .i64)) (onN n.toNat l l.length), .seq .bool (restN n.toNat l l.length)])) | _ => False
theorem k48 : ConOK Try.prog c48 := by
  refine conOK_of rfl (enters_of Try.func48 (by kernel_rfl) rfl) ?_
  intro args K h
  simp only [c48] at h
  split at h
  · rename_i n l; exact ⟨_, h.go, tri_of_body (Γ := []) (by simp) Try.func48 (by simp [Try.ntmps48]) rfl (b48 n l h.ok)⟩
  · exact h.elim
end EB
