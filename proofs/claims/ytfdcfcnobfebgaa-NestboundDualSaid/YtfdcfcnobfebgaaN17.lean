import Derived.Test.YtfdcfcnobfebgaaN9
open Go Go.Proofs Go.Eng Go.Shelf
namespace NB
set_option maxRecDepth 10000
/-! ### An assignment of pieces to bars -/
def useS (bars xs : List Int) (k : Int) (m : MapS Int) (i : Nat) : MapS Int := m.put (bars.getD i 0) ((m.get (bars.getD i 0)).getD 0 + (xs.getD i 0 + k))
def usedM (bars xs : List Int) (k : Int) (i : Nat) : MapS Int := (List.range i).foldl (useS bars xs k) .new
theorem usedM_succ (bars xs : List Int) (k : Int) (i : Nat) : usedM bars xs k (i + 1) = useS bars xs k (usedM bars xs k i) i := by
  unfold usedM; rw [List.range_succ, List.foldl_append]; rfl
theorem setK_mem {α : Type} {n : Int} {x : α} : ∀ {es : List (Nat × Int × α)} {e}, e ∈ setK es n x → e ∈ es ∨ e.2.2 = x
  | [], _, h => by simp [setK] at h
  | e₀ :: r, e, h => by
    simp only [setK] at h
    split at h
    · rcases List.mem_cons.1 h with rfl | h
      · exact .inr rfl
      · exact .inl (List.mem_cons_of_mem _ h)
    · rcases List.mem_cons.1 h with rfl | h
      · exact .inl List.mem_cons_self
      · rcases setK_mem h with h | h
        · exact .inl (List.mem_cons_of_mem _ h)
        · exact .inr h
theorem put_mem {α : Type} {m : MapS α} {n : Int} {x : α} {e : Nat × Int × α} (h : e ∈ (m.put n x).es) : e ∈ m.es ∨ e.2.2 = x := by
  unfold MapS.put at h
  split at h
  · exact setK_mem h
  · simp only [List.mem_append, List.mem_singleton] at h
    rcases h with h | rfl
    · exact .inl h
    · exact .inr rfl
theorem findK_mem {α : Type} {n : Int} {x : α} : ∀ {es : List (Nat × Int × α)}, findK es n = some x → ∃ e ∈ es, e.2.1 = n ∧ e.2.2 = x
  | e₀ :: r, h => by
    simp only [findK] at h
    split at h
    · rename_i h1; cases h; exact ⟨e₀, List.mem_cons_self, h1, rfl⟩
    · obtain ⟨e, h1, h2⟩ := findK_mem h; exact ⟨e, List.mem_cons_of_mem _ h1, h2⟩
def SizesOk (xs : List Int) (k : Int) : Prop := xs.length ≤ 1000 ∧ (∀ i, i < xs.length → 0 ≤ xs.getD i 0 ∧ xs.getD i 0 ≤ 65536) ∧ 0 ≤ k ∧ k ≤ 1000
theorem usedM_range {bars xs : List Int} {k : Int} (h : SizesOk xs k) : ∀ i, i ≤ xs.length → (∀ e ∈ (usedM bars xs k i).es, 0 ≤ e.2.2 ∧ e.2.2 ≤ 100000 * i) ∧ (usedM bars xs k i).es.length ≤ i
  | 0, _ => by simp [usedM, MapS.new]
  | i + 1, hi => by
    obtain ⟨h1, h2⟩ := usedM_range h i (by omega)
    have h3 := h.2.1 i (by omega)
    have h4 := h.2.2
    rw [usedM_succ]
    have hg : 0 ≤ ((usedM bars xs k i).get (bars.getD i 0)).getD 0 ∧ ((usedM bars xs k i).get (bars.getD i 0)).getD 0 ≤ 100000 * i := by
      cases hf : (usedM bars xs k i).get (bars.getD i 0) with
      | none => simp; omega
      | some y =>
        obtain ⟨e, h5, _, h6⟩ := findK_mem hf
        have := h1 e h5
        simp only [Option.getD_some]; omega
    refine ⟨fun e he => ?_, ?_⟩
    · rcases put_mem he with he | he
      · have := h1 e he; omega
      · rw [he]; omega
    · have := (usedM bars xs k i).put_length (bars.getD i 0) (((usedM bars xs k i).get (bars.getD i 0)).getD 0 + (xs.getD i 0 + k))
      show ((usedM bars xs k i).put _ _).es.length ≤ i + 1
      omega
theorem usedM_get {bars xs : List Int} {k : Int} (h : SizesOk xs k) {i : Nat} (hi : i ≤ xs.length) (n : Int) : 0 ≤ ((usedM bars xs k i).get n).getD 0 ∧ ((usedM bars xs k i).get n).getD 0 ≤ 100000 * i := by
  cases hf : (usedM bars xs k i).get n with
  | none => simp only [Option.getD_none]; omega
  | some y =>
    obtain ⟨e, h5, _, h6⟩ := findK_mem hf
    have := (usedM_range h i hi).1 e h5
    simp only [Option.getD_some]; omega
/-- How many entries a walk has not seen. -/
def unseen : List (Nat × Int × Int) → List Nat → Nat
  | [], _ => 0
  | e :: r, s => (if e.1 ∈ s then 0 else 1) + unseen r s
theorem unseen_le (s : List Nat) (b : Nat) : ∀ es : List (Nat × Int × Int), unseen es (s ++ [b]) ≤ unseen es s
  | [] => Nat.le_refl _
  | e :: r => by
    have := unseen_le s b r
    simp only [unseen]
    by_cases h : e.1 ∈ s
    · rw [if_pos h, if_pos (by simp [h])]; omega
    · rw [if_neg h]; split <;> omega
theorem unseen_less {seen : List Nat} {e : Nat × Int × Int} (hs : ¬ e.1 ∈ seen) : ∀ {es : List (Nat × Int × Int)}, e ∈ es → unseen es (seen ++ [e.1]) < unseen es seen
  | x :: r, he => by
    simp only [unseen]
    rcases List.mem_cons.1 he with rfl | he
    · have := unseen_le seen e.1 r
      rw [if_pos (by simp), if_neg hs]; omega
    · have := unseen_less hs he
      by_cases h : x.1 ∈ seen
      · rw [if_pos h, if_pos (by simp [h])]; omega
      · rw [if_neg h]; split <;> omega
theorem born_one {α : Type} : ∀ {es : List (Nat × Int × α)}, es.Pairwise (fun a b => a.1 ≠ b.1) → ∀ {e f}, e ∈ es → f ∈ es → e.1 = f.1 → e = f
  | x :: r, h, e, f, he, hf, hef => by
    obtain ⟨h1, h2⟩ := List.pairwise_cons.1 h
    rcases List.mem_cons.1 he with he' | he'
    · rcases List.mem_cons.1 hf with hf' | hf'
      · rw [he', hf']
      · exact absurd (he' ▸ hef) (h1 f hf')
    · rcases List.mem_cons.1 hf with hf' | hf'
      · exact absurd (hf' ▸ hef).symm (h1 e he')
      · exact born_one h2 he' hf' hef
def fitP (bars xs : List Int) (L k : Int) : Prop := ∀ e ∈ (usedM bars xs k xs.length).es, e.2.2 ≤ L + k
noncomputable instance (bars xs : List Int) (L k : Int) : Decidable (fitP bars xs L k) := Classical.propDecidable _
noncomputable def fitN (bars xs : List Int) (L k : Int) : Int := if fitP bars xs L k then (usedM bars xs k xs.length).es.length else 0
theorem b19 (xs bars : List Int) (L k : Int) (h : SizesOk xs k ∧ bars.length = xs.length ∧ 0 ≤ L ∧ L ≤ 100000) : body Try.prog [] { asks := [(0, []), (2, [])] } true Try.f19 [Ls xs, Bs bars, I L, I k] (.tup [I (fitN bars xs L k), .bl (fitP bars xs L k) inferInstance]) := by
  obtain ⟨hs, hbl, hL0, hL1⟩ := h
  obtain ⟨h1, h2, h3, h4⟩ := id hs
  (repeat' ((conv => whnf); first | (refine Giv.mk (fun _ => ?_)) | (refine Alt.l (Need.mk ?h ?_); case h => omega) | (refine Alt.r (Need.mk ?h ?_); case h => omega) | (refine Need.mk ?h ?_; case h => omega) | (refine Need.mk ?h ?_; case h => (intro _; rfl)) | (refine Need.mk ?h ?_; case h => assumption) | (refine Need.mk ?h ?_; case h => (simp <;> omega)) | (refine Ix.zero ?_) | (refine Ix.one ?_) | (refine Ix.two ?_) | (refine Ix.nat ?_) | (refine Ix.add ?_) | (apply Go.Eng.Pin.mk; apply Exists.intro) | (apply Go.Eng.Pinned.mk (Eq.refl _) (Eq.refl _)) | (apply Go.Eng.PinH.mk; apply Exists.intro; apply Exists.intro) | (exact Go.Eng.Fin0.mk) | (refine Go.Eng.Chk.mk ?_ ?_) | (refine Br.mkY ?h ?_; case h => omega) | (refine Br.mkN ?h ?_; case h => omega) | fail))
  refine Ask.mk ⟨{ X := Nat, pre := fun i => i ≤ xs.length, mod := fun i _ => [(18, I i)], heap := fun i _ => [.map .u8 (.int .i64) (usedM bars xs k i)], mu := fun i => xs.length - i }, rfl, ?_⟩
  (repeat' ((conv => whnf); first | (refine Giv.mk (fun _ => ?_)) | (refine Alt.l (Need.mk ?h ?_); case h => omega) | (refine Alt.r (Need.mk ?h ?_); case h => omega) | (refine Need.mk ?h ?_; case h => omega) | (refine Need.mk ?h ?_; case h => (intro _; rfl)) | (refine Need.mk ?h ?_; case h => assumption) | (refine Need.mk ?h ?_; case h => (simp <;> omega)) | (refine Ix.zero ?_) | (refine Ix.one ?_) | (refine Ix.two ?_) | (refine Ix.nat ?_) | (refine Ix.add ?_) | (apply Go.Eng.Pin.mk; apply Exists.intro) | (apply Go.Eng.Pinned.mk (Eq.refl _) (Eq.refl _)) | (apply Go.Eng.PinH.mk; apply Exists.intro; apply Exists.intro) | (exact Go.Eng.Fin0.mk) | (refine Go.Eng.Chk.mk ?_ ?_) | (refine Br.mkY ?h ?_; case h => omega) | (refine Br.mkN ?h ?_; case h => omega) | fail))
  refine ⟨⟨(0 : Nat), Nat.zero_le _, by (repeat' (first | exact trivial | rfl | exact Nat.one_pos | (refine And.intro ?_ ?_) | omega | ((conv => whnf); (refine And.intro ?_ ?_)) | ((conv => whnf); exact trivial)))⟩, fun (i : Nat) (hi : i ≤ xs.length) => ?_⟩
  obtain ⟨hr, hln⟩ := usedM_range (bars := bars) hs i hi
  (repeat' ((conv => whnf); first | (refine Giv.mk (fun _ => ?_)) | (refine Alt.l (Need.mk ?h ?_); case h => omega) | (refine Alt.r (Need.mk ?h ?_); case h => omega) | (refine Need.mk ?h ?_; case h => omega) | (refine Need.mk ?h ?_; case h => (intro _; rfl)) | (refine Need.mk ?h ?_; case h => assumption) | (refine Need.mk ?h ?_; case h => (simp <;> omega)) | (refine Ix.zero ?_) | (refine Ix.one ?_) | (refine Ix.two ?_) | (refine Ix.nat ?_) | (refine Ix.add ?_) | (apply Go.Eng.Pin.mk; apply Exists.intro) | (apply Go.Eng.Pinned.mk (Eq.refl _) (Eq.refl _)) | (apply Go.Eng.PinH.mk; apply Exists.intro; apply Exists.intro) | (exact Go.Eng.Fin0.mk) | (refine Go.Eng.Chk.mk ?_ ?_) | fail))
  (refine Br.mk (fun _ => ?_) (fun _ => ?_))
  · have hlt : i < xs.length := by omega
    have h5 := h2 i hlt
    have h6 := usedM_get (bars := bars) hs hi (bars.getD i 0)
    (repeat' ((conv => whnf); first | (refine Giv.mk (fun _ => ?_)) | (refine Alt.l (Need.mk ?h ?_); case h => omega) | (refine Alt.r (Need.mk ?h ?_); case h => omega) | (refine Need.mk ?h ?_; case h => omega) | (refine Need.mk ?h ?_; case h => (intro _; rfl)) | (refine Need.mk ?h ?_; case h => assumption) | (refine Need.mk ?h ?_; case h => (simp <;> omega)) | (refine Ix.zero ?_) | (refine Ix.one ?_) | (refine Ix.two ?_) | (refine Ix.nat ?_) | (refine Ix.add ?_) | (apply Go.Eng.Pin.mk; apply Exists.intro) | (apply Go.Eng.Pinned.mk (Eq.refl _) (Eq.refl _)) | (apply Go.Eng.PinH.mk; apply Exists.intro; apply Exists.intro) | (exact Go.Eng.Fin0.mk) | (refine Go.Eng.Chk.mk ?_ ?_) | fail))
    refine ⟨(i + 1 : Nat), by show xs.length - (i + 1) < xs.length - i; omega, hlt, ?_⟩
    (repeat' (first | exact trivial | rfl | exact Nat.one_pos | (refine And.intro ?_ ?_) | ((conv => whnf); (refine And.intro ?_ ?_)) | ((conv => whnf); exact trivial)))
    exact (usedM_succ bars xs k i).symm
  · have hi2 : i = xs.length := by omega
    subst hi2
    (repeat' ((conv => whnf); first | (refine Giv.mk (fun _ => ?_)) | (refine Alt.l (Need.mk ?h ?_); case h => omega) | (refine Alt.r (Need.mk ?h ?_); case h => omega) | (refine Need.mk ?h ?_; case h => omega) | (refine Need.mk ?h ?_; case h => (intro _; rfl)) | (refine Need.mk ?h ?_; case h => assumption) | (refine Need.mk ?h ?_; case h => (simp <;> omega)) | (refine Ix.zero ?_) | (refine Ix.one ?_) | (refine Ix.two ?_) | (refine Ix.nat ?_) | (refine Ix.add ?_) | (apply Go.Eng.Pin.mk; apply Exists.intro) | (apply Go.Eng.Pinned.mk (Eq.refl _) (Eq.refl _)) | (apply Go.Eng.PinH.mk; apply Exists.intro; apply Exists.intro) | (exact Go.Eng.Fin0.mk) | (refine Go.Eng.Chk.mk ?_ ?_) | fail))
    rename_i hwf
    refine Ask.mk ⟨{ X := List Nat, pre := fun seen => ∀ e ∈ (usedM bars xs k xs.length).es, e.1 ∈ seen → e.2.2 ≤ L + k, mod := fun _ _ => [], heap := fun seen _ => [.map .u8 (.int .i64) (usedM bars xs k xs.length), .mit 0 (usedM bars xs k xs.length).clock seen (usedM bars xs k xs.length).clock], mu := fun seen => unseen (usedM bars xs k xs.length).es seen }, rfl, ?_⟩
    (repeat' ((conv => whnf); first | (refine Giv.mk (fun _ => ?_)) | (refine Alt.l (Need.mk ?h ?_); case h => omega) | (refine Alt.r (Need.mk ?h ?_); case h => omega) | (refine Need.mk ?h ?_; case h => omega) | (refine Need.mk ?h ?_; case h => (intro _; rfl)) | (refine Need.mk ?h ?_; case h => assumption) | (refine Need.mk ?h ?_; case h => (simp <;> omega)) | (refine Ix.zero ?_) | (refine Ix.one ?_) | (refine Ix.two ?_) | (refine Ix.nat ?_) | (refine Ix.add ?_) | (apply Go.Eng.Pin.mk; apply Exists.intro) | (apply Go.Eng.Pinned.mk (Eq.refl _) (Eq.refl _)) | (apply Go.Eng.PinH.mk; apply Exists.intro; apply Exists.intro) | (exact Go.Eng.Fin0.mk) | (refine Go.Eng.Chk.mk ?_ ?_) | fail))
    refine ⟨⟨([] : List Nat), by simp, by (repeat' (first | exact trivial | rfl | exact Nat.one_pos | (refine And.intro ?_ ?_) | omega | ((conv => whnf); (refine And.intro ?_ ?_)) | ((conv => whnf); exact trivial)))⟩, fun (seen : List Nat) (hsn : ∀ e ∈ (usedM bars xs k xs.length).es, e.1 ∈ seen → e.2.2 ≤ L + k) => ?_⟩
    (repeat' ((conv => whnf); first | (refine Giv.mk (fun _ => ?_)) | (refine Alt.l (Need.mk ?h ?_); case h => omega) | (refine Alt.r (Need.mk ?h ?_); case h => omega) | (refine Need.mk ?h ?_; case h => omega) | (refine Need.mk ?h ?_; case h => (intro _; rfl)) | (refine Need.mk ?h ?_; case h => assumption) | (refine Need.mk ?h ?_; case h => (simp <;> omega)) | (refine Ix.zero ?_) | (refine Ix.one ?_) | (refine Ix.two ?_) | (refine Ix.nat ?_) | (refine Ix.add ?_) | (apply Go.Eng.Pin.mk; apply Exists.intro) | (apply Go.Eng.Pinned.mk (Eq.refl _) (Eq.refl _)) | (apply Go.Eng.PinH.mk; apply Exists.intro; apply Exists.intro) | (exact Go.Eng.Fin0.mk) | (refine Go.Eng.Chk.mk ?_ ?_) | fail))
    refine Need.mk ⟨hwf.born, Nat.le_refl _⟩ ?_
    refine ⟨fun hfin => ?_, fun e he hes => ?_⟩
    · have hp : fitP bars xs L k := fun e he => hsn e he (hfin e he)
      (repeat' ((conv => whnf); first | (refine Giv.mk (fun _ => ?_)) | (refine Alt.l (Need.mk ?h ?_); case h => omega) | (refine Alt.r (Need.mk ?h ?_); case h => omega) | (refine Need.mk ?h ?_; case h => omega) | (refine Need.mk ?h ?_; case h => (intro _; rfl)) | (refine Need.mk ?h ?_; case h => assumption) | (refine Need.mk ?h ?_; case h => (simp <;> omega)) | (refine Ix.zero ?_) | (refine Ix.one ?_) | (refine Ix.two ?_) | (refine Ix.nat ?_) | (refine Ix.add ?_) | (apply Go.Eng.Pin.mk; apply Exists.intro) | (apply Go.Eng.Pinned.mk (Eq.refl _) (Eq.refl _)) | (apply Go.Eng.PinH.mk; apply Exists.intro; apply Exists.intro) | (exact Go.Eng.Fin0.mk) | (refine Go.Eng.Chk.mk ?_ ?_) | fail))
      (repeat' (first | exact trivial | rfl | exact Nat.one_pos | (refine And.intro ?_ ?_) | ((conv => whnf); (refine And.intro ?_ ?_)) | ((conv => whnf); exact trivial)))
      · exact (if_pos hp).symm
      · exact hp
    · have h7 := hr e he
      (repeat' ((conv => whnf); first | (refine Giv.mk (fun _ => ?_)) | (refine Alt.l (Need.mk ?h ?_); case h => omega) | (refine Alt.r (Need.mk ?h ?_); case h => omega) | (refine Need.mk ?h ?_; case h => omega) | (refine Need.mk ?h ?_; case h => (intro _; rfl)) | (refine Need.mk ?h ?_; case h => assumption) | (refine Need.mk ?h ?_; case h => (simp <;> omega)) | (refine Ix.zero ?_) | (refine Ix.one ?_) | (refine Ix.two ?_) | (refine Ix.nat ?_) | (refine Ix.add ?_) | (apply Go.Eng.Pin.mk; apply Exists.intro) | (apply Go.Eng.Pinned.mk (Eq.refl _) (Eq.refl _)) | (apply Go.Eng.PinH.mk; apply Exists.intro; apply Exists.intro) | (exact Go.Eng.Fin0.mk) | (refine Go.Eng.Chk.mk ?_ ?_) | fail))
      refine ⟨e, ⟨he, by simp⟩, ?_⟩
      (repeat' ((conv => whnf); first | (refine Giv.mk (fun _ => ?_)) | (refine Alt.l (Need.mk ?h ?_); case h => omega) | (refine Alt.r (Need.mk ?h ?_); case h => omega) | (refine Need.mk ?h ?_; case h => omega) | (refine Need.mk ?h ?_; case h => (intro _; rfl)) | (refine Need.mk ?h ?_; case h => assumption) | (refine Need.mk ?h ?_; case h => (simp <;> omega)) | (refine Ix.zero ?_) | (refine Ix.one ?_) | (refine Ix.two ?_) | (refine Ix.nat ?_) | (refine Ix.add ?_) | (apply Go.Eng.Pin.mk; apply Exists.intro) | (apply Go.Eng.Pinned.mk (Eq.refl _) (Eq.refl _)) | (apply Go.Eng.PinH.mk; apply Exists.intro; apply Exists.intro) | (exact Go.Eng.Fin0.mk) | (refine Go.Eng.Chk.mk ?_ ?_) | fail))
      (refine Br.mk (fun _ => ?_) (fun _ => ?_))
      · have hp : ¬ fitP bars xs L k := fun hp => by have := hp e he; omega
        (repeat' ((conv => whnf); first | (refine Giv.mk (fun _ => ?_)) | (refine Alt.l (Need.mk ?h ?_); case h => omega) | (refine Alt.r (Need.mk ?h ?_); case h => omega) | (refine Need.mk ?h ?_; case h => omega) | (refine Need.mk ?h ?_; case h => (intro _; rfl)) | (refine Need.mk ?h ?_; case h => assumption) | (refine Need.mk ?h ?_; case h => (simp <;> omega)) | (refine Ix.zero ?_) | (refine Ix.one ?_) | (refine Ix.two ?_) | (refine Ix.nat ?_) | (refine Ix.add ?_) | (apply Go.Eng.Pin.mk; apply Exists.intro) | (apply Go.Eng.Pinned.mk (Eq.refl _) (Eq.refl _)) | (apply Go.Eng.PinH.mk; apply Exists.intro; apply Exists.intro) | (exact Go.Eng.Fin0.mk) | (refine Go.Eng.Chk.mk ?_ ?_) | fail))
        (repeat' (first | exact trivial | rfl | exact Nat.one_pos | (refine And.intro ?_ ?_) | ((conv => whnf); (refine And.intro ?_ ?_)) | ((conv => whnf); exact trivial)))
        · exact (if_neg hp).symm
        · exact hp
      · (repeat' ((conv => whnf); first | (refine Giv.mk (fun _ => ?_)) | (refine Alt.l (Need.mk ?h ?_); case h => omega) | (refine Alt.r (Need.mk ?h ?_); case h => omega) | (refine Need.mk ?h ?_; case h => omega) | (refine Need.mk ?h ?_; case h => (intro _; rfl)) | (refine Need.mk ?h ?_; case h => assumption) | (refine Need.mk ?h ?_; case h => (simp <;> omega)) | (refine Ix.zero ?_) | (refine Ix.one ?_) | (refine Ix.two ?_) | (refine Ix.nat ?_) | (refine Ix.add ?_) | (apply Go.Eng.Pin.mk; apply Exists.intro) | (apply Go.Eng.Pinned.mk (Eq.refl _) (Eq.refl _)) | (apply Go.Eng.PinH.mk; apply Exists.intro; apply Exists.intro) | (exact Go.Eng.Fin0.mk) | (refine Go.Eng.Chk.mk ?_ ?_) | fail))
        refine ⟨(seen ++ [e.1] : List Nat), unseen_less hes he, ?_, by (repeat' (first | exact trivial | rfl | exact Nat.one_pos | (refine And.intro ?_ ?_) | omega | ((conv => whnf); (refine And.intro ?_ ?_)) | ((conv => whnf); exact trivial)))⟩
        intro f hf hs
        rcases List.mem_append.1 hs with hs | hs
        · exact hsn f hf hs
        · have : f = e := born_one hwf.times hf he (List.mem_singleton.1 hs)
          rw [this]; omega
def c19 : Con := mkCon 19 true fun args K => match args with | [.seq (.int .i64) xs, .seq (.int .u8) bars, .val (.int .i64 L), .val (.int .i64 k)] => Need (SizesOk xs k ∧ bars.length = xs.length ∧ 0 ≤ L ∧ L ≤ 100000) (K (.tup [I (fitN bars xs L k), .bl (fitP bars xs L k) inferInstance])) | _ => False
theorem k19 : ConOK Try.prog c19 := by
  refine conOK_of rfl (enters_of Try.func19 (by kernel_rfl) rfl) ?_
  intro args K h
  simp only [c19] at h
  split at h
  · rename_i xs bars L k; exact ⟨_, h.go, tri_of_body (Γ := []) (by simp) Try.func19 (by simp [Try.ntmps19]) rfl (b19 xs bars L k h.ok)⟩
  · exact h.elim
end NB
