import Derived.Test.YtpmbhgmifiianaaE18
open Go Go.Proofs Go.Eng Go.Shelf
set_option linter.unusedVariables false
namespace EB
set_option maxRecDepth 10000
/-! ### How often each member is raised -/
def cntN (n : Nat) (ms : List Int) : List Int := (List.range n).map fun m : Nat => (ms.count (m : Int) : Int)
theorem cntN_len (n : Nat) (ms : List Int) : (cntN n ms).length = n := by simp [cntN]
theorem cntN_get (n : Nat) (ms : List Int) (m : Nat) (h : m < n) : (cntN n ms).getD m 0 = ms.count (m : Int) := by simp [cntN, List.getD_eq_getElem?_getD, h]
theorem cntN_nil (n : Nat) : cntN n [] = List.replicate n 0 := by
  apply List.ext_getElem <;> simp [cntN]
theorem cntN_step (n : Nat) (ms : List Int) (x : Int) (hx : 0 ≤ x ∧ x < n) : (cntN n ms).set x.toNat ((cntN n ms).getD x.toNat 0 + 1) = cntN n (ms ++ [x]) := by
  have hxn : x.toNat < n := by omega
  apply List.ext_getElem?
  intro m
  rw [List.getElem?_set, cntN_len, cntN_get _ _ _ hxn]
  by_cases e : x.toNat = m
  · subst e
    rw [if_pos rfl, if_pos hxn]
    have e1 : ((x.toNat : Nat) : Int) = x := by omega
    simp only [cntN, List.getElem?_map, List.getElem?_range hxn, Option.map_some, e1, List.count_append, List.count_singleton_self]
    rfl
  · rw [if_neg e]
    by_cases hm : m < n
    · have e1 : ¬ x = (m : Int) := by omega
      simp only [cntN, List.getElem?_map, List.getElem?_range hm, Option.map_some, List.count_append]
      rw [List.count_singleton]
      simp [e1]
    · rw [List.getElem?_eq_none (by rw [cntN_len]; omega), List.getElem?_eq_none (by rw [cntN_len]; omega)]
end EB
