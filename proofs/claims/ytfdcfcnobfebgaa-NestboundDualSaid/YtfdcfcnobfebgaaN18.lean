import Derived.Test.YtfdcfcnobfebgaaN17
import Derived.Test.YtfdcfcnobfebgaaMapL
open Go Go.Proofs Go.Eng Go.Shelf
namespace NB
/-! ### Plain: what is cut from bars keeps to every bound -/
def sumI (g : Nat → Int) (js : List Nat) : Int := (js.map g).sum
theorem sumI_cons (g : Nat → Int) (j : Nat) (js : List Nat) : sumI g (j :: js) = g j + sumI g js := by simp [sumI]
theorem sum_ite {ks : List Int} (h : ks.Pairwise (· ≠ ·)) {b c : Int} (hb : b ∈ ks) : (ks.map fun x => if b = x then c else 0).sum = c := by
  induction ks with
  | nil => cases hb
  | cons k r ih =>
    obtain ⟨h1, h2⟩ := List.pairwise_cons.1 h
    have zero : ∀ r : List Int, (∀ x ∈ r, b ≠ x) → (r.map fun x => if b = x then c else 0).sum = 0 := fun r hr => by
      induction r with
      | nil => rfl
      | cons y r ih => simp only [List.map_cons, List.sum_cons]; rw [if_neg (hr y List.mem_cons_self), ih fun x hx => hr x (List.mem_cons_of_mem _ hx)]; omega
    simp only [List.map_cons, List.sum_cons]
    rcases List.mem_cons.1 hb with hb' | hb'
    · rw [if_pos hb', zero r fun x hx => by rw [hb']; exact h1 x hx]; omega
    · rw [if_neg (fun e => h1 b hb' e.symm), ih h2 hb']; omega
theorem sum_groups {ks : List Int} (h : ks.Pairwise (· ≠ ·)) (bar : Nat → Int) (g : Nat → Int) : ∀ js : List Nat, (∀ j ∈ js, bar j ∈ ks) → (ks.map fun b => sumI g (js.filter fun j => decide (bar j = b))).sum = sumI g js
  | [], _ => by
    have : ∀ ks : List Int, (ks.map fun b => sumI g (([] : List Nat).filter fun j => decide (bar j = b))).sum = 0 := fun ks => by
      induction ks with
      | nil => rfl
      | cons k r ih => simp only [List.map_cons, List.sum_cons]; rw [ih]; rfl
    exact this ks
  | j :: js, hj => by
    have ih := sum_groups h bar g js fun j' hj' => hj j' (List.mem_cons_of_mem _ hj')
    rw [sumI_cons, ← ih, ← sum_ite h (c := g j) (hj j List.mem_cons_self)]
    clear ih h hj
    induction ks with
    | nil => rfl
    | cons k r ihk =>
      simp only [List.map_cons, List.sum_cons, List.filter_cons]
      have e : sumI g (if decide (bar j = k) = true then j :: js.filter (fun j => decide (bar j = k)) else js.filter (fun j => decide (bar j = k))) = (if bar j = k then g j else 0) + sumI g (js.filter fun j => decide (bar j = k)) := by
        by_cases hb : bar j = k
        · rw [if_pos (by simpa using hb), if_pos hb, sumI_cons]
        · rw [if_neg (by simpa using hb), if_neg hb]; omega
      rw [e]
      simp only [List.filter_cons] at ihk
      omega
theorem sum_le_const {ks : List Int} {f : Int → Int} {s : Int} (h : ∀ b ∈ ks, f b ≤ s) : (ks.map f).sum ≤ ks.length * s := by
  induction ks with
  | nil => simp
  | cons k r ih =>
    have h1 := h k List.mem_cons_self
    have h2 := ih fun b hb => h b (List.mem_cons_of_mem _ hb)
    simp only [List.map_cons, List.sum_cons, List.length_cons]
    have : ((r.length + 1 : Nat) : Int) * s = r.length * s + s := by rw [Int.natCast_add, Int.add_mul]; simp
    omega
theorem usedM_wf (bars xs : List Int) (k : Int) : ∀ i, (usedM bars xs k i).Wf
  | 0 => MapS.Wf.new
  | i + 1 => by rw [usedM_succ]; exact (usedM_wf bars xs k i).put _ _
theorem usedM_is (bars xs : List Int) (k n : Int) : ∀ i, ((usedM bars xs k i).get n).getD 0 = sumI (fun j => xs.getD j 0 + k) ((List.range i).filter fun j => decide (bars.getD j 0 = n))
  | 0 => rfl
  | i + 1 => by
    have ih := usedM_is bars xs k n i
    rw [usedM_succ, useS, MapS.get_put, List.range_succ, List.filter_append]
    simp only [List.filter_cons, List.filter_nil]
    by_cases h : n = bars.getD i 0
    · rw [if_pos h, if_pos (by simpa using h.symm), ← h, ih]
      simp [sumI]
    · rw [if_neg h, if_neg (by simpa using fun e => h e.symm), ih]
      simp
theorem usedM_has (bars xs : List Int) (k : Int) : ∀ i j, j < i → ((usedM bars xs k i).get (bars.getD j 0)).isSome
  | i + 1, j, h => by
    rw [usedM_succ, useS, MapS.get_put]
    by_cases e : bars.getD j 0 = bars.getD i 0
    · rw [if_pos e]; rfl
    · rw [if_neg e]
      refine usedM_has bars xs k i j ?_
      by_cases e2 : j = i
      · subst e2; exact absurd rfl e
      · omega
/-- Weights of which no bar can bear more than s: the bars bear no more than s each. -/
theorem fit_weights {bars xs : List Int} {L k : Int} (hf : fitP bars xs L k) (g : Nat → Int) (s : Int) (hg : ∀ js : List Nat, js.Sublist (List.range xs.length) → sumI (fun j => xs.getD j 0 + k) js ≤ L + k → sumI g js ≤ s) :
    sumI g (List.range xs.length) ≤ (usedM bars xs k xs.length).es.length * s := by
  have hw := usedM_wf bars xs k xs.length
  have hp : ((usedM bars xs k xs.length).es.map (·.2.1)).Pairwise (· ≠ ·) := List.pairwise_map.2 hw.keys
  rw [← sum_groups hp (fun j => bars.getD j 0) g (List.range xs.length) fun j hj => ?_]
  · refine Int.le_trans (sum_le_const (s := s) fun b hb => ?_) (by simp)
    obtain ⟨e, he, rfl⟩ := List.mem_map.1 hb
    refine hg _ List.filter_sublist ?_
    have h1 := findK_of_mem hw.keys he
    have h2 := usedM_is bars xs k e.2.1 xs.length
    have h3 := hf e he
    rw [show (usedM bars xs k xs.length).get e.2.1 = some e.2.2 from h1] at h2
    rw [← h2]; exact h3
  · have := usedM_has bars xs k xs.length j (by simpa using hj)
    obtain ⟨y, hy⟩ := Option.isSome_iff_exists.1 this
    obtain ⟨e, he, h1, _⟩ := mem_of_findK hy
    exact List.mem_map.2 ⟨e, he, h1⟩
end NB
