import Derived.Test.YtfdcfcnobfebgaaN14
open Go Go.Proofs Go.Eng Go.Shelf
namespace NB
set_option maxRecDepth 10000
/-! ### slices.Concat -/
abbrev LLs (xss : List (List Int)) : SV := .seq (.slice (.int .i64)) xss
theorem take_flat (xss : List (List Int)) (i : Nat) : (xss.take (i + 1)).flatten = (xss.take i).flatten ++ xss.getD i [] := by
  rw [List.take_add_one, List.flatten_append, List.getD_eq_getElem?_getD]
  cases xss[i]? <;> simp
theorem take_len (xss : List (List Int)) (i : Nat) : (xss.take i).flatten.length ≤ xss.flatten.length := by
  have : xss.flatten = (xss.take i).flatten ++ (xss.drop i).flatten := by rw [← List.flatten_append, List.take_append_drop]
  rw [this, List.length_append]; omega
def lsum (xss : List (List Int)) (i : Nat) : Int := ((xss.take i).flatten.length : Nat)
theorem b23 (xss : List (List Int)) (h : xss.flatten.length ≤ 1000000 ∧ xss.length ≤ 1000) : body Try.prog [c35] { asks := [(0, []), (2, [1])] } true Try.f23 [LLs xss] (.seq (.int .i64) xss.flatten) := by
  have h2 := h.2
  have h := h.1
  (repeat' ((conv => whnf); first | (refine Giv.mk (fun _ => ?_)) | (refine Alt.l (Need.mk ?h ?_); case h => omega) | (refine Alt.r (Need.mk ?h ?_); case h => omega) | (refine Need.mk ?h ?_; case h => omega) | (refine Need.mk ?h ?_; case h => (intro _; rfl)) | (refine Need.mk ?h ?_; case h => assumption) | (refine Need.mk ?h ?_; case h => (simp <;> omega)) | (refine Ix.zero ?_) | (refine Ix.one ?_) | (refine Ix.two ?_) | (refine Ix.nat ?_) | (refine Ix.add ?_) | (apply Go.Eng.Pin.mk; apply Exists.intro) | (apply Go.Eng.Pinned.mk (Eq.refl _) (Eq.refl _)) | fail))
  refine Ask.mk ⟨{ X := Nat, pre := fun i => i ≤ xss.length, mod := fun i _ => [(3, I (lsum xss i)), (11, I i)], mu := fun i => xss.length - i }, rfl, ?_⟩
  (repeat' ((conv => whnf); first | (refine Giv.mk (fun _ => ?_)) | (refine Alt.l (Need.mk ?h ?_); case h => omega) | (refine Alt.r (Need.mk ?h ?_); case h => omega) | (refine Need.mk ?h ?_; case h => omega) | (refine Need.mk ?h ?_; case h => (intro _; rfl)) | (refine Need.mk ?h ?_; case h => assumption) | (refine Need.mk ?h ?_; case h => (simp <;> omega)) | (refine Ix.zero ?_) | (refine Ix.one ?_) | (refine Ix.two ?_) | (refine Ix.nat ?_) | (refine Ix.add ?_) | (apply Go.Eng.Pin.mk; apply Exists.intro) | (apply Go.Eng.Pinned.mk (Eq.refl _) (Eq.refl _)) | fail))
  refine ⟨⟨(0 : Nat), Nat.zero_le _, ?_⟩, fun (i : Nat) (hi : i ≤ xss.length) => ?_⟩
  · (repeat' (first | exact trivial | rfl | exact Nat.one_pos | (refine And.intro ?_ ?_) | omega | ((conv => whnf); (refine And.intro ?_ ?_)) | ((conv => whnf); exact trivial)))
  · have hs : lsum xss (i + 1) = lsum xss i + (xss.getD i []).length := by
      unfold lsum; rw [take_flat, List.length_append]; omega
    have hs0 : 0 ≤ lsum xss i ∧ lsum xss i ≤ 1000000 := by
      have := take_len xss i
      unfold lsum; omega
    have hs1 : 0 ≤ lsum xss (i + 1) ∧ lsum xss (i + 1) ≤ 1000000 := by
      have := take_len xss (i + 1)
      unfold lsum; omega
    (repeat' ((conv => whnf); first | (refine Giv.mk (fun _ => ?_)) | (refine Alt.l (Need.mk ?h ?_); case h => omega) | (refine Alt.r (Need.mk ?h ?_); case h => omega) | (refine Need.mk ?h ?_; case h => omega) | (refine Need.mk ?h ?_; case h => (intro _; rfl)) | (refine Need.mk ?h ?_; case h => assumption) | (refine Need.mk ?h ?_; case h => (simp <;> omega)) | (refine Ix.zero ?_) | (refine Ix.one ?_) | (refine Ix.two ?_) | (refine Ix.nat ?_) | (refine Ix.add ?_) | (apply Go.Eng.Pin.mk; apply Exists.intro) | (apply Go.Eng.Pinned.mk (Eq.refl _) (Eq.refl _)) | fail))
    (refine Br.mk (fun _ => ?_) (fun _ => ?_))
    · (repeat' ((conv => whnf); first | (refine Giv.mk (fun _ => ?_)) | (refine Alt.l (Need.mk ?h ?_); case h => omega) | (refine Alt.r (Need.mk ?h ?_); case h => omega) | (refine Need.mk ?h ?_; case h => omega) | (refine Need.mk ?h ?_; case h => (intro _; rfl)) | (refine Need.mk ?h ?_; case h => assumption) | (refine Need.mk ?h ?_; case h => (simp <;> omega)) | (refine Ix.zero ?_) | (refine Ix.one ?_) | (refine Ix.two ?_) | (refine Ix.nat ?_) | (refine Ix.add ?_) | (apply Go.Eng.Pin.mk; apply Exists.intro) | (apply Go.Eng.Pinned.mk (Eq.refl _) (Eq.refl _)) | fail))
      (refine Br.mk (fun _ => ?_) (fun _ => ?_))
      · rename_i hneg
        exfalso
        have : lsum xss i + ((xss.getD i []).length : Int) < 0 := hneg
        omega
      · (repeat' ((conv => whnf); first | (refine Giv.mk (fun _ => ?_)) | (refine Alt.l (Need.mk ?h ?_); case h => omega) | (refine Alt.r (Need.mk ?h ?_); case h => omega) | (refine Need.mk ?h ?_; case h => omega) | (refine Need.mk ?h ?_; case h => (intro _; rfl)) | (refine Need.mk ?h ?_; case h => assumption) | (refine Need.mk ?h ?_; case h => (simp <;> omega)) | (refine Ix.zero ?_) | (refine Ix.one ?_) | (refine Ix.two ?_) | (refine Ix.nat ?_) | (refine Ix.add ?_) | (apply Go.Eng.Pin.mk; apply Exists.intro) | (apply Go.Eng.Pinned.mk (Eq.refl _) (Eq.refl _)) | fail))
        refine ⟨(i + 1 : Nat), ?_, ?_, ?_⟩
        · show xss.length - (i + 1) < xss.length - i
          omega
        · show i + 1 ≤ xss.length
          omega
        · (repeat' (first | exact trivial | rfl | exact Nat.one_pos | (refine And.intro ?_ ?_) | omega | ((conv => whnf); (refine And.intro ?_ ?_)) | ((conv => whnf); exact trivial)))
    · have hii : i = xss.length := by omega
      subst hii
      (repeat' ((conv => whnf); first | (refine Giv.mk (fun _ => ?_)) | (refine Alt.l (Need.mk ?h ?_); case h => omega) | (refine Alt.r (Need.mk ?h ?_); case h => omega) | (refine Need.mk ?h ?_; case h => omega) | (refine Need.mk ?h ?_; case h => (intro _; rfl)) | (refine Need.mk ?h ?_; case h => assumption) | (refine Need.mk ?h ?_; case h => (simp <;> omega)) | (refine Ix.zero ?_) | (refine Ix.one ?_) | (refine Ix.two ?_) | (refine Ix.nat ?_) | (refine Ix.add ?_) | (apply Go.Eng.Pin.mk; apply Exists.intro) | (apply Go.Eng.Pinned.mk (Eq.refl _) (Eq.refl _)) | fail))
      refine Ask.mk ⟨{ X := Nat, pre := fun i => i ≤ xss.length, mod := fun i _ => [(6, .ref 1 1), (27, I i)], objs := [1], heap := fun i _ => [.vec 1 (.int .i64) [] 3, .vec 1 (.int .i64) (xss.take i).flatten 3], mu := fun i => xss.length - i }, rfl, ?_⟩
      (repeat' ((conv => whnf); first | (refine Giv.mk (fun _ => ?_)) | (refine Alt.l (Need.mk ?h ?_); case h => omega) | (refine Alt.r (Need.mk ?h ?_); case h => omega) | (refine Need.mk ?h ?_; case h => omega) | (refine Need.mk ?h ?_; case h => (intro _; rfl)) | (refine Need.mk ?h ?_; case h => assumption) | (refine Need.mk ?h ?_; case h => (simp <;> omega)) | (refine Ix.zero ?_) | (refine Ix.one ?_) | (refine Ix.two ?_) | (refine Ix.nat ?_) | (refine Ix.add ?_) | (apply Go.Eng.Pin.mk; apply Exists.intro) | (apply Go.Eng.Pinned.mk (Eq.refl _) (Eq.refl _)) | fail))
      refine ⟨⟨(0 : Nat), Nat.zero_le _, ?_⟩, fun (i : Nat) (hi : i ≤ xss.length) => ?_⟩
      · (repeat' (first | exact trivial | rfl | exact Nat.one_pos | (refine And.intro ?_ ?_) | omega | ((conv => whnf); (refine And.intro ?_ ?_)) | ((conv => whnf); exact trivial)))
      · have hs2 : (xss.take (i + 1)).flatten = (xss.take i).flatten ++ xss.getD i [] := take_flat xss i
        have hs3 : (xss.take i).flatten.length + (xss.getD i []).length ≤ 1000000 := by
          have := take_len xss (i + 1)
          rw [hs2, List.length_append] at this; omega
        (repeat' ((conv => whnf); first | (refine Giv.mk (fun _ => ?_)) | (refine Alt.l (Need.mk ?h ?_); case h => omega) | (refine Alt.r (Need.mk ?h ?_); case h => omega) | (refine Need.mk ?h ?_; case h => omega) | (refine Need.mk ?h ?_; case h => (intro _; rfl)) | (refine Need.mk ?h ?_; case h => assumption) | (refine Need.mk ?h ?_; case h => (simp <;> omega)) | (refine Ix.zero ?_) | (refine Ix.one ?_) | (refine Ix.two ?_) | (refine Ix.nat ?_) | (refine Ix.add ?_) | (apply Go.Eng.Pin.mk; apply Exists.intro) | (apply Go.Eng.Pinned.mk (Eq.refl _) (Eq.refl _)) | fail))
        (refine Br.mk (fun _ => ?_) (fun _ => ?_))
        · (repeat' ((conv => whnf); first | (refine Giv.mk (fun _ => ?_)) | (refine Alt.l (Need.mk ?h ?_); case h => omega) | (refine Alt.r (Need.mk ?h ?_); case h => omega) | (refine Need.mk ?h ?_; case h => omega) | (refine Need.mk ?h ?_; case h => (intro _; rfl)) | (refine Need.mk ?h ?_; case h => assumption) | (refine Need.mk ?h ?_; case h => (simp <;> omega)) | (refine Ix.zero ?_) | (refine Ix.one ?_) | (refine Ix.two ?_) | (refine Ix.nat ?_) | (refine Ix.add ?_) | (apply Go.Eng.Pin.mk; apply Exists.intro) | (apply Go.Eng.Pinned.mk (Eq.refl _) (Eq.refl _)) | fail))
          refine ⟨(i + 1 : Nat), ?_, ?_, ?_⟩
          · show xss.length - (i + 1) < xss.length - i
            omega
          · show i + 1 ≤ xss.length
            omega
          · (repeat' (first | exact trivial | rfl | exact Nat.one_pos | (refine And.intro ?_ ?_) | omega | ((conv => whnf); (refine And.intro ?_ ?_)) | ((conv => whnf); exact trivial)))
            exact hs2.symm
        · (repeat' ((conv => whnf); first | (refine Giv.mk (fun _ => ?_)) | (refine Alt.l (Need.mk ?h ?_); case h => omega) | (refine Alt.r (Need.mk ?h ?_); case h => omega) | (refine Need.mk ?h ?_; case h => omega) | (refine Need.mk ?h ?_; case h => (intro _; rfl)) | (refine Need.mk ?h ?_; case h => assumption) | (refine Need.mk ?h ?_; case h => (simp <;> omega)) | (refine Ix.zero ?_) | (refine Ix.one ?_) | (refine Ix.two ?_) | (refine Ix.nat ?_) | (refine Ix.add ?_) | (apply Go.Eng.Pin.mk; apply Exists.intro) | (apply Go.Eng.Pinned.mk (Eq.refl _) (Eq.refl _)) | fail))
          (conv => whnf)
          (repeat' (first | exact trivial | rfl | exact Nat.one_pos | (refine And.intro ?_ ?_) | ((conv => whnf); (refine And.intro ?_ ?_)) | ((conv => whnf); exact trivial)))
          rw [List.take_of_length_le (by omega)]
          (repeat' (first | exact trivial | rfl | exact Nat.one_pos | (refine And.intro ?_ ?_) | ((conv => whnf); (refine And.intro ?_ ?_)) | ((conv => whnf); exact trivial)))
def c23 : Con := mkCon 23 true fun args K => match args with | [.seq (.slice (.int .i64)) xss] => Need (xss.flatten.length ≤ 1000000 ∧ xss.length ≤ 1000) (K (.seq (.int .i64) xss.flatten)) | _ => False
theorem k23 : ConOK Try.prog c23 := by
  refine conOK_of rfl (enters_of Try.func23 (by kernel_rfl) rfl) ?_
  intro args K h
  simp only [c23] at h
  split at h
  · rename_i xss; exact ⟨_, h.go, tri_of_body (Γ := [c35]) (by simp [k35]) Try.func23 (by simp [Try.ntmps23]) rfl (b23 xss h.ok)⟩
  · exact h.elim
end NB
