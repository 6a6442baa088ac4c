import Derived.Test.YtpmbhgmifiianaaEngW
namespace Go.Eng
/-! ### Plain laws of maps -/
section
variable {α : Type}
theorem findK_app (xs ys : List (Nat × Int × α)) (n : Int) : findK (xs ++ ys) n = match findK xs n with
    | some x => some x
    | none => findK ys n := by
  induction xs with
  | nil => rfl
  | cons e r ih =>
    simp only [List.cons_append, findK]
    split
    · rfl
    · exact ih
theorem findK_setK (xs : List (Nat × Int × α)) (n n' : Int) (x : α) (h : ∃ y, findK xs n = some y) : findK (setK xs n x) n' = if n' = n then some x else findK xs n' := by
  induction xs with
  | nil => obtain ⟨y, hy⟩ := h; cases hy
  | cons e r ih =>
    simp only [setK]
    by_cases he : e.2.1 = n
    · rw [if_pos he]
      simp only [findK]
      by_cases h1 : n = n'
      · rw [if_pos h1, if_pos h1.symm]
      · rw [if_neg h1, if_neg (fun h => h1 h.symm), if_neg (by rw [he]; exact h1)]
    · rw [if_neg he]
      simp only [findK]
      have : ∃ y, findK r n = some y := by obtain ⟨y, hy⟩ := h; simp only [findK, if_neg he] at hy; exact ⟨y, hy⟩
      by_cases h1 : e.2.1 = n'
      · rw [if_pos h1, if_pos h1, if_neg (by rw [← h1]; exact he)]
      · rw [if_neg h1, if_neg h1]; exact ih this
theorem MapS.get_put (m : MapS α) (n n' : Int) (x : α) : (m.put n x).get n' = if n' = n then some x else m.get n' := by
  unfold MapS.put MapS.get
  split
  · rename_i y hy
    exact findK_setK _ _ _ _ ⟨y, hy⟩
  · rename_i hn
    simp only
    rw [findK_app]
    by_cases h : n' = n
    · subst h; rw [hn]; simp [findK]
    · rw [if_neg h]
      cases hf : findK m.es n' with
      | some y => rfl
      | none => simp [findK]; exact fun e => h e.symm
theorem findK_delK (xs : List (Nat × Int × α)) (n n' : Int) (h : xs.Pairwise fun a b => a.2.1 ≠ b.2.1) : findK (delK xs n) n' = if n' = n then none else findK xs n' := by
  induction xs with
  | nil => simp [delK, findK]
  | cons e r ih =>
    obtain ⟨h1, h2⟩ := List.pairwise_cons.1 h
    simp only [delK]
    by_cases he : e.2.1 = n
    · rw [if_pos he]
      by_cases hn : n' = n
      · rw [if_pos hn]
        subst hn
        cases hf : findK r n' with
        | none => rfl
        | some y =>
          have : ∃ e' ∈ r, e'.2.1 = n' := by
            clear ih h h1 h2
            induction r with
            | nil => cases hf
            | cons a r ih =>
              simp only [findK] at hf
              split at hf
              · rename_i h3; exact ⟨a, List.mem_cons_self, h3⟩
              · obtain ⟨e', h4, h5⟩ := ih hf; exact ⟨e', List.mem_cons_of_mem _ h4, h5⟩
          obtain ⟨e', h3, h4⟩ := this
          exact absurd (he.trans h4.symm) (h1 e' h3)
      · rw [if_neg hn]
        simp only [findK]
        rw [if_neg (by rw [he]; exact fun e => hn e.symm)]
    · rw [if_neg he]
      simp only [findK]
      by_cases h3 : e.2.1 = n'
      · rw [if_pos h3, if_pos h3, if_neg (by rw [← h3]; exact he)]
      · rw [if_neg h3, if_neg h3]; exact ih h2
theorem MapS.get_del {m : MapS α} (h : m.Wf) (n n' : Int) : (m.del n).get n' = if n' = n then none else m.get n' := findK_delK _ _ _ h.keys
theorem findK_of_mem {xs : List (Nat × Int × α)} (h : xs.Pairwise fun a b => a.2.1 ≠ b.2.1) {e} (he : e ∈ xs) : findK xs e.2.1 = some e.2.2 := by
  induction xs with
  | nil => cases he
  | cons x r ih =>
    obtain ⟨h1, h2⟩ := List.pairwise_cons.1 h
    simp only [findK]
    rcases List.mem_cons.1 he with he' | he'
    · rw [if_pos (by rw [he']), he']
    · rw [if_neg (h1 e he'), ih h2 he']
theorem mem_of_findK {n : Int} {x : α} : ∀ {es : List (Nat × Int × α)}, findK es n = some x → ∃ e ∈ es, e.2.1 = n ∧ e.2.2 = x
  | e₀ :: r, h => by
    simp only [findK] at h
    split at h
    · rename_i h1; cases h; exact ⟨e₀, List.mem_cons_self, h1, rfl⟩
    · obtain ⟨e, h1, h2⟩ := mem_of_findK h; exact ⟨e, List.mem_cons_of_mem _ h1, h2⟩
theorem MapS.get_new (n : Int) : (MapS.new : MapS α).get n = none := rfl
theorem MapS.length_put (m : MapS α) (n : Int) (x : α) : (m.put n x).es.length = if (m.get n).isSome then m.es.length else m.es.length + 1 := by
  unfold MapS.put MapS.get
  cases hf : findK m.es n with
  | some y => simp [setK_length]
  | none => simp
theorem delK_length {xs : List (Nat × Int × α)} {n : Int} {y : α} (h : findK xs n = some y) : (delK xs n).length + 1 = xs.length := by
  induction xs with
  | nil => cases h
  | cons e r ih =>
    simp only [delK]
    by_cases he : e.2.1 = n
    · rw [if_pos he]; rfl
    · rw [if_neg he]
      simp only [findK, if_neg he] at h
      simp only [List.length_cons, ih h]
theorem MapS.length_del {m : MapS α} {n : Int} (h : (m.get n).isSome) : (m.del n).es.length + 1 = m.es.length := by
  obtain ⟨y, hy⟩ := Option.isSome_iff_exists.1 h
  exact delK_length hy
end
end Go.Eng
