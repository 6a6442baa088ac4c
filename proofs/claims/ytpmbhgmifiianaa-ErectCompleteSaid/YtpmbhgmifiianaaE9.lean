import Derived.Test.YtpmbhgmifiianaaE8
open Go Go.Proofs Go.Eng Go.Shelf
namespace EB
set_option maxRecDepth 10000
/-! ### erect.Order -/
def ordL (n : Int) (l : List (Int × Int)) : List (Int × Int) := ordS (onL n l) (restL n l) n
def raisedIn (S : List (Int × Int)) (k : Nat) : Int := ((S.take k).filter fun x => decide (x.1 = 1)).length
def orderRes (n : Int) (l : List (Int × Int)) : List (Int × Int) := if supE n l = 0 ∧ ¬ raisedIn (ordL n l) (ordL n l).length < n then ordL n l else []
def orderErr (n : Int) (l : List (Int × Int)) : Int := if ¬ supE n l = 0 then 1 else if raisedIn (ordL n l) (ordL n l).length < n then 27 else 0
theorem raised_le (S : List (Int × Int)) (k : Nat) : 0 ≤ raisedIn S k ∧ raisedIn S k ≤ S.length := by
  unfold raisedIn
  have := List.length_filter_le (fun x : Int × Int => decide (x.1 = 1)) (S.take k)
  rw [List.length_take] at this
  omega
theorem raised_succ (S : List (Int × Int)) (k : Nat) (h : k < S.length) : raisedIn S (k + 1) = raisedIn S k + (if (S.getD k (0, 0)).1 = 1 then 1 else 0) := by
  unfold raisedIn
  rw [take_pair S k h, List.filter_append, List.length_append]
  by_cases e : (S.getD k (0, 0)).1 = 1
  · rw [if_pos e]; simp only [List.filter_cons, decide_eq_true e]; simp
  · rw [if_neg e]; simp only [List.filter_cons, decide_eq_false e]; simp
theorem siteOk (n : Int) (l : List (Int × Int)) (h : RestsOk n l) : SiteOk (onL n l) (restL n l) := by
  obtain ⟨h1, h2, h3, h4⟩ := h
  refine ⟨onL_ok n l, by rw [onL_len]; omega, by rw [onL_len]; exact restN_len _ _ _⟩
theorem b32 (n : Int) (l : List (Int × Int)) : body Try.prog [c43, c48, c61, c75] { asks := [(0, [1])] } true Try.f32 [I n, Ps l] (.tup [Ps (orderRes n l), I (orderErr n l)]) := by
  (repeat' ((conv => whnf); first | (refine Giv.mk (fun _ => ?_)) | (refine Alt.l (Need.mk ?h ?_); case h => omega) | (refine Alt.r (Need.mk ?h ?_); case h => omega) | (refine Need.mk ?h ?_; case h => omega) | (refine Need.mk ?h ?_; case h => (intro _; rfl)) | (refine Need.mk ?h ?_; case h => assumption) | (refine Need.mk ?h ?_; case h => (simp <;> omega)) | (refine Ix.zero ?_) | (refine Ix.one ?_) | (refine Ix.two ?_) | (refine Ix.nat ?_) | (refine Ix.add ?_) | (apply Go.Eng.Pin.mk; apply Exists.intro) | (apply Go.Eng.Pinned.mk (Eq.refl _) (Eq.refl _)) | (apply Go.Eng.PinH.mk; apply Exists.intro; apply Exists.intro) | (exact Go.Eng.Fin0.mk) | (refine Go.Eng.Chk.mk ?_ ?_) | fail))
  (refine Br.mk (fun _ => ?_) (fun _ => ?_))
  · rename_i h
    (repeat' ((conv => whnf); first | (refine Giv.mk (fun _ => ?_)) | (refine Alt.l (Need.mk ?h ?_); case h => omega) | (refine Alt.r (Need.mk ?h ?_); case h => omega) | (refine Need.mk ?h ?_; case h => omega) | (refine Need.mk ?h ?_; case h => (intro _; rfl)) | (refine Need.mk ?h ?_; case h => assumption) | (refine Need.mk ?h ?_; case h => (simp <;> omega)) | (refine Ix.zero ?_) | (refine Ix.one ?_) | (refine Ix.two ?_) | (refine Ix.nat ?_) | (refine Ix.add ?_) | (apply Go.Eng.Pin.mk; apply Exists.intro) | (apply Go.Eng.Pinned.mk (Eq.refl _) (Eq.refl _)) | (apply Go.Eng.PinH.mk; apply Exists.intro; apply Exists.intro) | (exact Go.Eng.Fin0.mk) | (refine Go.Eng.Chk.mk ?_ ?_) | fail))
    (conv => whnf)
    refine ⟨?_, ?_, trivial⟩
    · (conv => whnf)
      unfold orderRes; rw [if_neg fun e => h e.1]
    · exact ⟨rfl, by unfold orderErr; rw [if_pos h]⟩
  · rename_i h
    have h : supE n l = 0 := Classical.not_not.1 h
    have hro := supE_rests h
    obtain ⟨r1, r2, r3, r4⟩ := id hro
    have hso := siteOk n l hro
    have hon : ((onL n l).length : Int) = n := by rw [onL_len]; omega
    (repeat' ((conv => whnf); first | (refine Giv.mk (fun _ => ?_)) | (refine Alt.l (Need.mk ?h ?_); case h => omega) | (refine Alt.r (Need.mk ?h ?_); case h => omega) | (refine Need.mk ?h ?_; case h => omega) | (refine Need.mk ?h ?_; case h => (intro _; rfl)) | (refine Need.mk ?h ?_; case h => assumption) | (refine Need.mk ?h ?_; case h => (simp <;> omega)) | (refine Ix.zero ?_) | (refine Ix.one ?_) | (refine Ix.two ?_) | (refine Ix.nat ?_) | (refine Ix.add ?_) | (apply Go.Eng.Pin.mk; apply Exists.intro) | (apply Go.Eng.Pinned.mk (Eq.refl _) (Eq.refl _)) | (apply Go.Eng.PinH.mk; apply Exists.intro; apply Exists.intro) | (exact Go.Eng.Fin0.mk) | (refine Go.Eng.Chk.mk ?_ ?_) | fail))
    have hS : ordS (onN n.toNat l l.length) (restN n.toNat l l.length) (onN n.toNat l l.length).length = ordL n l := by
      show ordS (onL n l) (restL n l) (onL n l).length = ordL n l
      unfold ordL; rw [hon]
    have hSl : (ordL n l).length ≤ 2048 := by
      have := stepsOf_len (restL n l) (msAt (onL n l) n n.toNat)
      have h2 := msAt_len (onL n l) r2 n.toNat
      show (stepsOf _ _).length ≤ _
      omega
    have hrl := raised_le (ordL n l)
    refine Ask.mk ⟨{ X := Nat, pre := fun i => i ≤ (ordL n l).length, mod := fun _ _ => [], heap := fun i _ => [.vec 1 Two [] 29, .vec 1 Two ((ordL n l).take i) 29, .cells [.ref 1 1] 23, .cells [I (raisedIn (ordL n l) i)] 3], objs := [1], mu := fun i => i }, rfl, ?_⟩
    (repeat' ((conv => whnf); first | (refine Giv.mk (fun _ => ?_)) | (refine Alt.l (Need.mk ?h ?_); case h => omega) | (refine Alt.r (Need.mk ?h ?_); case h => omega) | (refine Need.mk ?h ?_; case h => omega) | (refine Need.mk ?h ?_; case h => (intro _; rfl)) | (refine Need.mk ?h ?_; case h => assumption) | (refine Need.mk ?h ?_; case h => (simp <;> omega)) | (refine Ix.zero ?_) | (refine Ix.one ?_) | (refine Ix.two ?_) | (refine Ix.nat ?_) | (refine Ix.add ?_) | (apply Go.Eng.Pin.mk; apply Exists.intro) | (apply Go.Eng.Pinned.mk (Eq.refl _) (Eq.refl _)) | (apply Go.Eng.PinH.mk; apply Exists.intro; apply Exists.intro) | (exact Go.Eng.Fin0.mk) | (refine Go.Eng.Chk.mk ?_ ?_) | fail))
    rw [hS]
    refine ⟨⟨(0 : Nat), rfl, Nat.zero_le _, ?_⟩, fun (i : Nat) hi (hlt : i < (ordL n l).length) => ?_, fun (i : Nat) hi (he : i = (ordL n l).length) => ?_⟩
    · (repeat' (first | exact trivial | rfl | exact Nat.one_pos | (refine And.intro ?_ ?_) | omega | ((conv => whnf); (refine And.intro ?_ ?_)) | ((conv => whnf); exact trivial)))
    · have hi : i ≤ (ordL n l).length := hi
      have hrs := raised_succ (ordL n l) i hlt
      have hb1 := hrl i
      have htk := take_pair (ordL n l) i hlt
      (repeat' ((conv => whnf); first | (refine Giv.mk (fun _ => ?_)) | (refine Alt.l (Need.mk ?h ?_); case h => omega) | (refine Alt.r (Need.mk ?h ?_); case h => omega) | (refine Need.mk ?h ?_; case h => omega) | (refine Need.mk ?h ?_; case h => (intro _; rfl)) | (refine Need.mk ?h ?_; case h => assumption) | (refine Need.mk ?h ?_; case h => (simp <;> omega)) | (refine Ix.zero ?_) | (refine Ix.one ?_) | (refine Ix.two ?_) | (refine Ix.nat ?_) | (refine Ix.add ?_) | (apply Go.Eng.Pin.mk; apply Exists.intro) | (apply Go.Eng.Pinned.mk (Eq.refl _) (Eq.refl _)) | (apply Go.Eng.PinH.mk; apply Exists.intro; apply Exists.intro) | (exact Go.Eng.Fin0.mk) | (refine Go.Eng.Chk.mk ?_ ?_) | fail))
      (refine Br.mk (fun _ => ?_) (fun _ => ?_))
      · rename_i hh
        have hh : ((ordL n l).getD i (0, 0)).1 = 1 := hh
        rw [if_pos hh] at hrs
        (repeat' ((conv => whnf); first | (refine Giv.mk (fun _ => ?_)) | (refine Alt.l (Need.mk ?h ?_); case h => omega) | (refine Alt.r (Need.mk ?h ?_); case h => omega) | (refine Need.mk ?h ?_; case h => omega) | (refine Need.mk ?h ?_; case h => (intro _; rfl)) | (refine Need.mk ?h ?_; case h => assumption) | (refine Need.mk ?h ?_; case h => (simp <;> omega)) | (refine Ix.zero ?_) | (refine Ix.one ?_) | (refine Ix.two ?_) | (refine Ix.nat ?_) | (refine Ix.add ?_) | (apply Go.Eng.Pin.mk; apply Exists.intro) | (apply Go.Eng.Pinned.mk (Eq.refl _) (Eq.refl _)) | (apply Go.Eng.PinH.mk; apply Exists.intro; apply Exists.intro) | (exact Go.Eng.Fin0.mk) | (refine Go.Eng.Chk.mk ?_ ?_) | fail))
        refine ⟨(i + 1 : Nat), rfl, hlt, ?_⟩
        (repeat' (first | exact trivial | rfl | exact Nat.one_pos | (refine And.intro ?_ ?_) | omega | ((conv => whnf); (refine And.intro ?_ ?_)) | ((conv => whnf); exact trivial)))
        exact htk.symm
      · rename_i hh
        have hh : ¬ ((ordL n l).getD i (0, 0)).1 = 1 := hh
        rw [if_neg hh] at hrs
        (repeat' ((conv => whnf); first | (refine Giv.mk (fun _ => ?_)) | (refine Alt.l (Need.mk ?h ?_); case h => omega) | (refine Alt.r (Need.mk ?h ?_); case h => omega) | (refine Need.mk ?h ?_; case h => omega) | (refine Need.mk ?h ?_; case h => (intro _; rfl)) | (refine Need.mk ?h ?_; case h => assumption) | (refine Need.mk ?h ?_; case h => (simp <;> omega)) | (refine Ix.zero ?_) | (refine Ix.one ?_) | (refine Ix.two ?_) | (refine Ix.nat ?_) | (refine Ix.add ?_) | (apply Go.Eng.Pin.mk; apply Exists.intro) | (apply Go.Eng.Pinned.mk (Eq.refl _) (Eq.refl _)) | (apply Go.Eng.PinH.mk; apply Exists.intro; apply Exists.intro) | (exact Go.Eng.Fin0.mk) | (refine Go.Eng.Chk.mk ?_ ?_) | fail))
        refine ⟨(i + 1 : Nat), rfl, hlt, ?_⟩
        (repeat' (first | exact trivial | rfl | exact Nat.one_pos | (refine And.intro ?_ ?_) | omega | ((conv => whnf); (refine And.intro ?_ ?_)) | ((conv => whnf); exact trivial)))
        exact htk.symm
    · have he : i = (ordL n l).length := he
      subst he
      (repeat' ((conv => whnf); first | (refine Giv.mk (fun _ => ?_)) | (refine Alt.l (Need.mk ?h ?_); case h => omega) | (refine Alt.r (Need.mk ?h ?_); case h => omega) | (refine Need.mk ?h ?_; case h => omega) | (refine Need.mk ?h ?_; case h => (intro _; rfl)) | (refine Need.mk ?h ?_; case h => assumption) | (refine Need.mk ?h ?_; case h => (simp <;> omega)) | (refine Ix.zero ?_) | (refine Ix.one ?_) | (refine Ix.two ?_) | (refine Ix.nat ?_) | (refine Ix.add ?_) | (apply Go.Eng.Pin.mk; apply Exists.intro) | (apply Go.Eng.Pinned.mk (Eq.refl _) (Eq.refl _)) | (apply Go.Eng.PinH.mk; apply Exists.intro; apply Exists.intro) | (exact Go.Eng.Fin0.mk) | (refine Go.Eng.Chk.mk ?_ ?_) | fail))
      (refine Br.mk (fun _ => ?_) (fun _ => ?_))
      · rename_i hlt
        (repeat' ((conv => whnf); first | (refine Giv.mk (fun _ => ?_)) | (refine Alt.l (Need.mk ?h ?_); case h => omega) | (refine Alt.r (Need.mk ?h ?_); case h => omega) | (refine Need.mk ?h ?_; case h => omega) | (refine Need.mk ?h ?_; case h => (intro _; rfl)) | (refine Need.mk ?h ?_; case h => assumption) | (refine Need.mk ?h ?_; case h => (simp <;> omega)) | (refine Ix.zero ?_) | (refine Ix.one ?_) | (refine Ix.two ?_) | (refine Ix.nat ?_) | (refine Ix.add ?_) | (apply Go.Eng.Pin.mk; apply Exists.intro) | (apply Go.Eng.Pinned.mk (Eq.refl _) (Eq.refl _)) | (apply Go.Eng.PinH.mk; apply Exists.intro; apply Exists.intro) | (exact Go.Eng.Fin0.mk) | (refine Go.Eng.Chk.mk ?_ ?_) | fail))
        (conv => whnf)
        refine ⟨?_, ⟨rfl, ?_⟩, trivial⟩
        · (conv => whnf)
          unfold orderRes; rw [if_neg fun e => e.2 hlt]
        · unfold orderErr; rw [if_neg fun e => e h, if_pos hlt]
      · rename_i hlt
        (repeat' ((conv => whnf); first | (refine Giv.mk (fun _ => ?_)) | (refine Alt.l (Need.mk ?h ?_); case h => omega) | (refine Alt.r (Need.mk ?h ?_); case h => omega) | (refine Need.mk ?h ?_; case h => omega) | (refine Need.mk ?h ?_; case h => (intro _; rfl)) | (refine Need.mk ?h ?_; case h => assumption) | (refine Need.mk ?h ?_; case h => (simp <;> omega)) | (refine Ix.zero ?_) | (refine Ix.one ?_) | (refine Ix.two ?_) | (refine Ix.nat ?_) | (refine Ix.add ?_) | (apply Go.Eng.Pin.mk; apply Exists.intro) | (apply Go.Eng.Pinned.mk (Eq.refl _) (Eq.refl _)) | (apply Go.Eng.PinH.mk; apply Exists.intro; apply Exists.intro) | (exact Go.Eng.Fin0.mk) | (refine Go.Eng.Chk.mk ?_ ?_) | fail))
        (conv => whnf)
        refine ⟨?_, ⟨rfl, ?_⟩, trivial⟩
        · (conv => whnf)
          unfold orderRes; rw [if_pos ⟨h, hlt⟩, List.take_length]
        · unfold orderErr; rw [if_neg fun e => e h, if_neg hlt]
def c32 : Con := mkCon 32 true fun args K => match args with | [.val (.int .i64 n), .seq (.pair (.int .i64) (.int .i64)) l] => K (.tup [Ps (orderRes n l), I (orderErr n l)]) | _ => False
theorem k32 : ConOK Try.prog c32 := by
  refine conOK_of rfl (enters_of Try.func32 (by kernel_rfl) rfl) ?_
  intro args K h
  simp only [c32] at h
  split at h
  · rename_i n l; exact ⟨_, h, tri_of_body (Γ := [c43, c48, c61, c75]) (by simp [k43, k48, k61, k75]) Try.func32 (by simp [Try.ntmps32]) rfl (b32 n l)⟩
  · exact h.elim
/-! ### The laws' own functions -/
theorem b45 : body Try.prog [] {} false Try.f45 [] (Ps [(0, -1), (1, 0)]) := by
  (repeat' ((conv => whnf); first | (refine Giv.mk (fun _ => ?_)) | (refine Alt.l (Need.mk ?h ?_); case h => omega) | (refine Alt.r (Need.mk ?h ?_); case h => omega) | (refine Need.mk ?h ?_; case h => omega) | (refine Need.mk ?h ?_; case h => (intro _; rfl)) | (refine Need.mk ?h ?_; case h => assumption) | (refine Need.mk ?h ?_; case h => (simp <;> omega)) | (refine Ix.zero ?_) | (refine Ix.one ?_) | (refine Ix.two ?_) | (refine Ix.nat ?_) | (refine Ix.add ?_) | (apply Go.Eng.Pin.mk; apply Exists.intro) | (apply Go.Eng.Pinned.mk (Eq.refl _) (Eq.refl _)) | (apply Go.Eng.PinH.mk; apply Exists.intro; apply Exists.intro) | (exact Go.Eng.Fin0.mk) | (refine Go.Eng.Chk.mk ?_ ?_) | fail))
  (conv => whnf)
def c45 : Con := mkCon 45 false fun args K => match args with | [] => K (Ps [(0, -1), (1, 0)]) | _ => False
theorem k45 : ConOK Try.prog c45 := by
  refine conOK_of rfl (enters_of Try.func45 (by kernel_rfl) rfl) ?_
  intro args K h
  simp only [c45] at h
  split at h
  · exact ⟨_, h, tri_of_body (Γ := []) (by simp) Try.func45 (by simp [Try.ntmps45]) rfl b45⟩
  · exact h.elim
def n12 (s : Int) : Int := s % 13
def okP (s : Int) (l : List (Int × Int)) : Prop := l.length ≤ 30 ∧ orderErr (n12 s) l = 0
instance (s : Int) (l : List (Int × Int)) : Decidable (okP s l) := by unfold okP; exact inferInstance
def res12 (s : Int) (l : List (Int × Int)) : List (Int × Int) := if l.length ≤ 30 then orderRes (n12 s) l else []
theorem orderRes_bad {n : Int} {l : List (Int × Int)} (h : ¬ supE n l = 0) : orderRes n l = [] ∧ ¬ orderErr n l = 0 := by
  unfold orderRes orderErr
  rw [if_neg fun e => h e.1, if_pos h]
  exact ⟨rfl, by decide⟩
theorem b12 (s : Int) (l : List (Int × Int)) (h : 0 ≤ s ∧ s ≤ 255) : body Try.prog [c32, c43] {} false Try.f12 [.val (.int .u8 s), Ps l] (.tup [I (n12 s), Ps (res12 s l), .bl (okP s l) inferInstance]) := by
  obtain ⟨h1, h2⟩ := h
  (repeat' ((conv => whnf); first | (refine Giv.mk (fun _ => ?_)) | (refine Alt.l (Need.mk ?h ?_); case h => omega) | (refine Alt.r (Need.mk ?h ?_); case h => omega) | (refine Need.mk ?h ?_; case h => omega) | (refine Need.mk ?h ?_; case h => (intro _; rfl)) | (refine Need.mk ?h ?_; case h => assumption) | (refine Need.mk ?h ?_; case h => (simp <;> omega)) | (refine Ix.zero ?_) | (refine Ix.one ?_) | (refine Ix.two ?_) | (refine Ix.nat ?_) | (refine Ix.add ?_) | (apply Go.Eng.Pin.mk; apply Exists.intro) | (apply Go.Eng.Pinned.mk (Eq.refl _) (Eq.refl _)) | (apply Go.Eng.PinH.mk; apply Exists.intro; apply Exists.intro) | (exact Go.Eng.Fin0.mk) | (refine Go.Eng.Chk.mk ?_ ?_) | fail))
  (refine Br.mk (fun _ => ?_) (fun _ => ?_))
  · rename_i hl
    (repeat' ((conv => whnf); first | (refine Giv.mk (fun _ => ?_)) | (refine Alt.l (Need.mk ?h ?_); case h => omega) | (refine Alt.r (Need.mk ?h ?_); case h => omega) | (refine Need.mk ?h ?_; case h => omega) | (refine Need.mk ?h ?_; case h => (intro _; rfl)) | (refine Need.mk ?h ?_; case h => assumption) | (refine Need.mk ?h ?_; case h => (simp <;> omega)) | (refine Ix.zero ?_) | (refine Ix.one ?_) | (refine Ix.two ?_) | (refine Ix.nat ?_) | (refine Ix.add ?_) | (apply Go.Eng.Pin.mk; apply Exists.intro) | (apply Go.Eng.Pinned.mk (Eq.refl _) (Eq.refl _)) | (apply Go.Eng.PinH.mk; apply Exists.intro; apply Exists.intro) | (exact Go.Eng.Fin0.mk) | (refine Go.Eng.Chk.mk ?_ ?_) | fail))
    (conv => whnf)
    refine ⟨⟨rfl, rfl⟩, ?_, ?_, trivial⟩
    · (conv => whnf)
      show [] = res12 s l
      unfold res12; rw [if_neg (by omega)]
    · exact fun e => by have := e.1; omega
  · rename_i hl
    have hl : l.length ≤ 30 := by omega
    (repeat' ((conv => whnf); first | (refine Giv.mk (fun _ => ?_)) | (refine Alt.l (Need.mk ?h ?_); case h => omega) | (refine Alt.r (Need.mk ?h ?_); case h => omega) | (refine Need.mk ?h ?_; case h => omega) | (refine Need.mk ?h ?_; case h => (intro _; rfl)) | (refine Need.mk ?h ?_; case h => assumption) | (refine Need.mk ?h ?_; case h => (simp <;> omega)) | (refine Ix.zero ?_) | (refine Ix.one ?_) | (refine Ix.two ?_) | (refine Ix.nat ?_) | (refine Ix.add ?_) | (apply Go.Eng.Pin.mk; apply Exists.intro) | (apply Go.Eng.Pinned.mk (Eq.refl _) (Eq.refl _)) | (apply Go.Eng.PinH.mk; apply Exists.intro; apply Exists.intro) | (exact Go.Eng.Fin0.mk) | (refine Go.Eng.Chk.mk ?_ ?_) | fail))
    (refine Br.mk (fun _ => ?_) (fun _ => ?_))
    · rename_i hs
      (repeat' ((conv => whnf); first | (refine Giv.mk (fun _ => ?_)) | (refine Alt.l (Need.mk ?h ?_); case h => omega) | (refine Alt.r (Need.mk ?h ?_); case h => omega) | (refine Need.mk ?h ?_; case h => omega) | (refine Need.mk ?h ?_; case h => (intro _; rfl)) | (refine Need.mk ?h ?_; case h => assumption) | (refine Need.mk ?h ?_; case h => (simp <;> omega)) | (refine Ix.zero ?_) | (refine Ix.one ?_) | (refine Ix.two ?_) | (refine Ix.nat ?_) | (refine Ix.add ?_) | (apply Go.Eng.Pin.mk; apply Exists.intro) | (apply Go.Eng.Pinned.mk (Eq.refl _) (Eq.refl _)) | (apply Go.Eng.PinH.mk; apply Exists.intro; apply Exists.intro) | (exact Go.Eng.Fin0.mk) | (refine Go.Eng.Chk.mk ?_ ?_) | fail))
      (conv => whnf)
      refine ⟨⟨rfl, rfl⟩, ?_, ?_, trivial⟩
      · (conv => whnf)
        show [] = res12 s l
        unfold res12; rw [if_pos hl]; exact (orderRes_bad hs).1.symm
      · exact fun e => (orderRes_bad hs).2 e.2
    · rename_i hs
      (repeat' ((conv => whnf); first | (refine Giv.mk (fun _ => ?_)) | (refine Alt.l (Need.mk ?h ?_); case h => omega) | (refine Alt.r (Need.mk ?h ?_); case h => omega) | (refine Need.mk ?h ?_; case h => omega) | (refine Need.mk ?h ?_; case h => (intro _; rfl)) | (refine Need.mk ?h ?_; case h => assumption) | (refine Need.mk ?h ?_; case h => (simp <;> omega)) | (refine Ix.zero ?_) | (refine Ix.one ?_) | (refine Ix.two ?_) | (refine Ix.nat ?_) | (refine Ix.add ?_) | (apply Go.Eng.Pin.mk; apply Exists.intro) | (apply Go.Eng.Pinned.mk (Eq.refl _) (Eq.refl _)) | (apply Go.Eng.PinH.mk; apply Exists.intro; apply Exists.intro) | (exact Go.Eng.Fin0.mk) | (refine Go.Eng.Chk.mk ?_ ?_) | fail))
      (conv => whnf)
      refine ⟨⟨rfl, rfl⟩, ?_, ?_, trivial⟩
      · (conv => whnf)
        show _ = res12 s l
        unfold res12; rw [if_pos hl]; rfl
      · exact ⟨fun e => ⟨hl, e⟩, fun e => e.2⟩
def c12 : Con := mkCon 12 false fun args K => match args with | [.val (.int .u8 s), .seq (.pair (.int .i64) (.int .i64)) l] => Need (0 ≤ s ∧ s ≤ 255) (K (.tup [I (n12 s), Ps (res12 s l), .bl (okP s l) inferInstance])) | _ => False
theorem k12 : ConOK Try.prog c12 := by
  refine conOK_of rfl (enters_of Try.func12 (by kernel_rfl) rfl) ?_
  intro args K h
  simp only [c12] at h
  split at h
  · rename_i s l; exact ⟨_, h.go, tri_of_body (Γ := [c32, c43]) (by simp [k32, k43]) Try.func12 (by simp [Try.ntmps12]) rfl (b12 s l h.ok)⟩
  · exact h.elim
end EB