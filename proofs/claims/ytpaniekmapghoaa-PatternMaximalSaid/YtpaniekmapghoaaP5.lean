/-
  Part 5: a symbolic executor over the model, contracts of functions and plain laws.
-/
import Derived.Test.YtpaniekmapghoaaP4
section
set_option linter.unusedVariables false
open Go Go.Proofs Go.Eng Go.Shelf
namespace PB
set_option maxRecDepth 10000
set_option linter.unusedVariables false
def itemsP (all : List (List Int)) : Nat → List SV := fun k => [Ls (all.getD k [])]
abbrev fillA (ls cs : List Int) (kerf i room : Int) : List SV := [I i, I room, .lelem [Ls ls] 0, .ptr 1 0, .ptr 4 0, .lelem [I kerf] 0, .lelem [Ls cs] 0, .ptr 5 0]
abbrev fillH (ls cs : List Int) (kerf : Int) (n : Nat) (items : Nat → List SV) (st : Option Nat) (xs : List Int) : List HO :=
  [.yst st n items, .cells [.yld 0] 44, .vec 1 (.int .i64) xs 3, .vec 1 (.int .i64) [] 3, .cells [.ref 2 1] 22, .cells [.clo 57 [] [.lelem [Ls ls] 0, .ptr 1 0, .ptr 4 0, .lelem [I kerf] 0, .lelem [Ls cs] 0, .ptr 5 0]] 65]
structure OkC (ls cs : List Int) (kerf : Int) : Prop where
  len : cs.length = ls.length
  few : ls.length ≤ 16
  lB : ∀ i, i < ls.length → 1 ≤ ls.getD i 0 ∧ ls.getD i 0 ≤ 1048576
  cB : ∀ i, i < ls.length → 0 ≤ cs.getD i 0 ∧ cs.getD i 0 ≤ 64
  k0 : 0 ≤ kerf
  k1 : kerf ≤ 1000
structure FillPre (ls cs : List Int) (kerf : Int) (n : Nat) (all : List (List Int)) (i : Nat) (room : Int) (k : Nat) (xs : List Int) : Prop where
  ile : i ≤ ls.length
  xlen : xs.length = ls.length
  r0 : 0 ≤ room
  r1 : room ≤ 2000000
  kn : k + (patsAt kerf ls cs i room).length ≤ n
  all : ∀ j, j < (patsAt kerf ls cs i room).length → all.getD (k + j) [] = xs.take i ++ (patsAt kerf ls cs i room).getD j []
def cfill (ls cs : List Int) (kerf : Int) (n : Nat) (all : List (List Int)) (m : Nat) : Con := hpCon 57 fun args H K => ∃ (i : Nat) (room : Int) (k : Nat) (xs : List Int),
  args = fillA ls cs kerf i room ∧ H = fillH ls cs kerf n (itemsP all) (some k) xs ∧ ls.length < i + m ∧ FillPre ls cs kerf n all i room k xs ∧
  (∀ ys : List Int, ys.length = ls.length → ys.take i = xs.take i → K (.val (.bool true)) (fillH ls cs kerf n (itemsP all) (some (k + (patsAt kerf ls cs i room).length)) ys)) ∧
  (∀ ys : List Int, ys.length = ls.length → K (.val (.bool false)) (fillH ls cs kerf n (itemsP all) none ys))
def fillR (ls cs : List Int) (kerf : Int) (n : Nat) (all : List (List Int)) (i : Nat) (room : Int) (k : Nat) (xs : List Int) (s : SV) (H : List HO) : Prop :=
  (∃ ys : List Int, ys.length = ls.length ∧ ys.take i = xs.take i ∧ s = .val (.bool true) ∧ H = fillH ls cs kerf n (itemsP all) (some (k + (patsAt kerf ls cs i room).length)) ys) ∨
  (∃ ys : List Int, ys.length = ls.length ∧ s = .val (.bool false) ∧ H = fillH ls cs kerf n (itemsP all) none ys)
theorem bfill (ls cs : List Int) (kerf : Int) (n : Nat) (all : List (List Int)) (hc : OkC ls cs kerf) (m : Nat) (i : Nat) (room : Int) (k : Nat) (xs : List Int) (hm : ls.length < i + (m + 1)) (hp : FillPre ls cs kerf n all i room k xs) :
    bodyH Try.prog [cfill ls cs kerf n all m] { asks := [(0, [])] } Try.f57 (fillA ls cs kerf i room) (fillH ls cs kerf n (itemsP all) (some k) xs) (fillR ls cs kerf n all i room k xs) := by
  obtain ⟨p1, p2, p3, p4, p5, p6⟩ := hp
  (conv => whnf)
  refine Need.mk rfl ?_
  (repeat' ((conv => whnf); first | (refine Giv.mk fun _ => ?_) | (refine Alt.l (Need.mk ?h ?_); case h => omega) | (refine Alt.r (Need.mk ?h ?_); case h => omega) | (refine Need.mk ?h ?_; case h => first | omega | (intro _; rfl) | assumption | (simp <;> omega)) | refine Ix.zero ?_ | refine Ix.one ?_ | refine Ix.two ?_ | refine Ix.nat ?_ | refine Ix.add ?_ | (apply Go.Eng.Pin.mk; apply Exists.intro) | apply Go.Eng.Pinned.mk rfl rfl | (apply Go.Eng.PinH.mk; apply Exists.intro; apply Exists.intro) | exact Go.Eng.Fin0.mk | refine Go.Eng.Chk.mk ?_ ?_ | refine Own.l ?_ | fail))
  (refine Br.mk (fun _ => ?_) (fun _ => ?_))
  · have hi : ¬ i < ls.length := by omega
    have e1 := patsAt_end kerf ls cs i room hi
    rw [e1] at p5 p6
    have p7 := p6 0 (by simp)
    have p5 : k + 1 ≤ n := p5
    have p7 : all.getD k [] = xs := by
      rw [show k = k + 0 from rfl, p7, List.take_of_length_le (by omega)]; simp
    (repeat' ((conv => whnf); first | (refine Giv.mk fun _ => ?_) | (refine Alt.l (Need.mk ?h ?_); case h => omega) | (refine Alt.r (Need.mk ?h ?_); case h => omega) | (refine Need.mk ?h ?_; case h => first | omega | (intro _; rfl) | assumption | (simp <;> omega)) | refine Ix.zero ?_ | refine Ix.one ?_ | refine Ix.two ?_ | refine Ix.nat ?_ | refine Ix.add ?_ | (apply Go.Eng.Pin.mk; apply Exists.intro) | apply Go.Eng.Pinned.mk rfl rfl | (apply Go.Eng.PinH.mk; apply Exists.intro; apply Exists.intro) | exact Go.Eng.Fin0.mk | refine Go.Eng.Chk.mk ?_ ?_ | refine Own.l ?_ | fail))
    refine Need.mk ⟨p7.symm, trivial⟩ ?_
    refine Two.mk ?_ ?_
    · (repeat' ((conv => whnf); first | (refine Giv.mk fun _ => ?_) | (refine Alt.l (Need.mk ?h ?_); case h => omega) | (refine Alt.r (Need.mk ?h ?_); case h => omega) | (refine Need.mk ?h ?_; case h => first | omega | (intro _; rfl) | assumption | (simp <;> omega)) | refine Ix.zero ?_ | refine Ix.one ?_ | refine Ix.two ?_ | refine Ix.nat ?_ | refine Ix.add ?_ | (apply Go.Eng.Pin.mk; apply Exists.intro) | apply Go.Eng.Pinned.mk rfl rfl | (apply Go.Eng.PinH.mk; apply Exists.intro; apply Exists.intro) | exact Go.Eng.Fin0.mk | refine Go.Eng.Chk.mk ?_ ?_ | refine Own.l ?_ | fail))
      refine ⟨.val (.bool true), _, .inl ⟨xs, p2, rfl, rfl, rfl⟩, rfl, rfl, rfl, rfl, ?_⟩
      rw [e1]
      (repeat' (first | exact trivial | rfl | exact Nat.one_pos | (refine And.intro ?_ ?_) | ((conv => whnf); (refine And.intro ?_ ?_)) | ((conv => whnf); exact trivial)))
    · (repeat' ((conv => whnf); first | (refine Giv.mk fun _ => ?_) | (refine Alt.l (Need.mk ?h ?_); case h => omega) | (refine Alt.r (Need.mk ?h ?_); case h => omega) | (refine Need.mk ?h ?_; case h => first | omega | (intro _; rfl) | assumption | (simp <;> omega)) | refine Ix.zero ?_ | refine Ix.one ?_ | refine Ix.two ?_ | refine Ix.nat ?_ | refine Ix.add ?_ | (apply Go.Eng.Pin.mk; apply Exists.intro) | apply Go.Eng.Pinned.mk rfl rfl | (apply Go.Eng.PinH.mk; apply Exists.intro; apply Exists.intro) | exact Go.Eng.Fin0.mk | refine Go.Eng.Chk.mk ?_ ?_ | refine Own.l ?_ | fail))
      refine ⟨.val (.bool false), _, .inr ⟨xs, p2, rfl, rfl⟩, rfl, rfl, rfl, rfl, ?_⟩
      (repeat' (first | exact trivial | rfl | exact Nat.one_pos | (refine And.intro ?_ ?_) | ((conv => whnf); (refine And.intro ?_ ?_)) | ((conv => whnf); exact trivial)))
  · have hi : i < ls.length := by omega
    obtain ⟨l1, l2⟩ := hc.lB i hi
    obtain ⟨c1, c2⟩ := hc.cB i hi
    have k0 := hc.k0
    have k1 := hc.k1
    have hlen := hc.len
    have hneed : 0 < ls.getD i 0 + kerf := by omega
    have hq : 0 ≤ room / (ls.getD i 0 + kerf) ∧ room / (ls.getD i 0 + kerf) ≤ 2000000 := by
      refine ⟨Int.ediv_nonneg p3 (by omega), ?_⟩
      have := Int.ediv_le_self (ls.getD i 0 + kerf) p3
      omega
    have hN : min (cs.getD i 0) (room / (ls.getD i 0 + kerf)) = (mostAt kerf ls cs i room : Nat) := by
      unfold mostAt most
      rw [Int.toNat_of_nonneg (by omega)]
    have hNr : ((mostAt kerf ls cs i room : Nat) : Int) * (ls.getD i 0 + kerf) ≤ room := by
      have h1 : ((mostAt kerf ls cs i room : Nat) : Int) ≤ room / (ls.getD i 0 + kerf) := by rw [← hN]; omega
      have h2 := Int.mul_le_mul_of_nonneg_right h1 (show 0 ≤ ls.getD i 0 + kerf by omega)
      have h3 := Int.ediv_mul_le room (show ls.getD i 0 + kerf ≠ 0 by omega)
      omega
    have hN64 : mostAt kerf ls cs i room ≤ 64 := by omega
    (repeat' ((conv => whnf); first | (refine Giv.mk fun _ => ?_) | (refine Alt.l (Need.mk ?h ?_); case h => omega) | (refine Alt.r (Need.mk ?h ?_); case h => omega) | (refine Need.mk ?h ?_; case h => first | omega | (intro _; rfl) | assumption | (simp <;> omega)) | refine Ix.zero ?_ | refine Ix.one ?_ | refine Ix.two ?_ | refine Ix.nat ?_ | refine Ix.add ?_ | (apply Go.Eng.Pin.mk; apply Exists.intro) | apply Go.Eng.Pinned.mk rfl rfl | (apply Go.Eng.PinH.mk; apply Exists.intro; apply Exists.intro) | exact Go.Eng.Fin0.mk | refine Go.Eng.Chk.mk ?_ ?_ | refine Own.l ?_ | fail))
    obtain ⟨N, hNe⟩ : ∃ N, mostAt kerf ls cs i room = N := ⟨_, rfl⟩
    refine Ask.mk ⟨{ X := Nat × List Int, pre := fun x => x.1 ≤ N + 1 ∧ x.2.length = ls.length ∧ x.2.take i = xs.take i, mod := fun x _ => [(12, I ((N : Int) - x.1))], heap := fun x _ => fillH ls cs kerf n (itemsP all) (some (k + beenAt kerf ls cs i room x.1)) x.2, mu := fun x => N + 1 - x.1 }, rfl, ?_⟩
    (repeat' ((conv => whnf); first | (refine Giv.mk fun _ => ?_) | (refine Alt.l (Need.mk ?h ?_); case h => omega) | (refine Alt.r (Need.mk ?h ?_); case h => omega) | (refine Need.mk ?h ?_; case h => first | omega | (intro _; rfl) | assumption | (simp <;> omega)) | refine Ix.zero ?_ | refine Ix.one ?_ | refine Ix.two ?_ | refine Ix.nat ?_ | refine Ix.add ?_ | (apply Go.Eng.Pin.mk; apply Exists.intro) | apply Go.Eng.Pinned.mk rfl rfl | (apply Go.Eng.PinH.mk; apply Exists.intro; apply Exists.intro) | exact Go.Eng.Fin0.mk | refine Go.Eng.Chk.mk ?_ ?_ | refine Own.l ?_ | fail))
    refine ⟨⟨((0 : Nat), xs), ⟨by omega, p2, rfl⟩, ?_⟩, fun (x : Nat × List Int) hx => ?_⟩
    · (repeat' (first | exact trivial | rfl | exact Nat.one_pos | (refine And.intro ?_ ?_) | omega | ((conv => whnf); (refine And.intro ?_ ?_)) | ((conv => whnf); exact trivial)))
    · obtain ⟨hx1, hx2, hx3⟩ := hx
      (repeat' ((conv => whnf); first | (refine Giv.mk fun _ => ?_) | (refine Alt.l (Need.mk ?h ?_); case h => omega) | (refine Alt.r (Need.mk ?h ?_); case h => omega) | (refine Need.mk ?h ?_; case h => first | omega | (intro _; rfl) | assumption | (simp <;> omega)) | refine Ix.zero ?_ | refine Ix.one ?_ | refine Ix.two ?_ | refine Ix.nat ?_ | refine Ix.add ?_ | (apply Go.Eng.Pin.mk; apply Exists.intro) | apply Go.Eng.Pinned.mk rfl rfl | (apply Go.Eng.PinH.mk; apply Exists.intro; apply Exists.intro) | exact Go.Eng.Fin0.mk | refine Go.Eng.Chk.mk ?_ ?_ | refine Own.l ?_ | fail))
      (refine Br.mk (fun _ => ?_) (fun _ => ?_))
      · have hxN : x.1 < N + 1 := by omega
        have hv : (N : Int) - x.1 = ((N - x.1 : Nat) : Int) := by omega
        have hv0 : 0 ≤ (N : Int) - x.1 := by omega
        have hprod : 0 ≤ ((N : Int) - x.1) * (ls.getD i 0 + kerf) ∧ ((N : Int) - x.1) * (ls.getD i 0 + kerf) ≤ room := by
          refine ⟨Int.mul_nonneg hv0 (by omega), ?_⟩
          have h1 := Int.mul_le_mul_of_nonneg_right (show (N : Int) - x.1 ≤ N by omega) (show 0 ≤ ls.getD i 0 + kerf by omega)
          rw [hNe] at hNr
          omega
        have hb := beenAt_succ kerf ls cs i room x.1 (by rw [hNe]; omega)
        have hg := fun j hj => beenAt_get kerf ls cs i room hi hlen x.1 (by rw [hNe]; omega) j hj
        rw [hNe, ← hv] at hb hg
        have hset : (x.2.set i ((N : Int) - x.1)).take (i + 1) = xs.take i ++ [(N : Int) - x.1] := by
          rw [List.take_succ_eq_append_getElem (by simp; omega), List.take_set_of_le (Nat.le_refl _), hx3]
          simp
        (repeat' ((conv => whnf); first | (refine Giv.mk fun _ => ?_) | (refine Alt.l (Need.mk ?h ?_); case h => omega) | (refine Alt.r (Need.mk ?h ?_); case h => omega) | (refine Need.mk ?h ?_; case h => first | omega | (intro _; rfl) | assumption | (simp <;> omega)) | refine Ix.zero ?_ | refine Ix.one ?_ | refine Ix.two ?_ | refine Ix.nat ?_ | refine Ix.add ?_ | (apply Go.Eng.Pin.mk; apply Exists.intro) | apply Go.Eng.Pinned.mk rfl rfl | (apply Go.Eng.PinH.mk; apply Exists.intro; apply Exists.intro) | exact Go.Eng.Fin0.mk | refine Go.Eng.Chk.mk ?_ ?_ | refine Own.l ?_ | fail))
        refine ⟨i + 1, _, _, _, rfl, rfl, by omega, ⟨by omega, by simp [hx2], by omega, by omega, ?_, ?_⟩, ?_, ?_⟩
        · have := beenAt_all kerf ls cs i room hi hlen
          have h2 : beenAt kerf ls cs i room (x.1 + 1) ≤ (patsAt kerf ls cs i room).length := by
            cases hq : (patsAt kerf ls cs (i + 1) (room - ((N : Int) - x.1) * (ls.getD i 0 + kerf))).length with
            | zero =>
              rw [hb, hq]
              unfold beenAt
              rw [patsAt_step _ _ _ _ _ hi hlen, flat_split (stepAt kerf ls cs i room) _ x.1 _ (down_get _ _ (by rw [hNe]; omega))]
              simp
            | succ q =>
              have := (hg q (by omega)).1
              omega
          omega
        · intro j hj
          obtain ⟨h1, h2⟩ := hg j hj
          rw [Nat.add_assoc, p6 _ h1, h2, hset]
          simp
        · intro ys hy1 hy2
          (repeat' ((conv => whnf); first | (refine Giv.mk fun _ => ?_) | (refine Alt.l (Need.mk ?h ?_); case h => omega) | (refine Alt.r (Need.mk ?h ?_); case h => omega) | (refine Need.mk ?h ?_; case h => first | omega | (intro _; rfl) | assumption | (simp <;> omega)) | refine Ix.zero ?_ | refine Ix.one ?_ | refine Ix.two ?_ | refine Ix.nat ?_ | refine Ix.add ?_ | (apply Go.Eng.Pin.mk; apply Exists.intro) | apply Go.Eng.Pinned.mk rfl rfl | (apply Go.Eng.PinH.mk; apply Exists.intro; apply Exists.intro) | exact Go.Eng.Fin0.mk | refine Go.Eng.Chk.mk ?_ ?_ | refine Own.l ?_ | fail))
          have hy3 : ys.take i = xs.take i := by
            have h1 := congrArg (List.take i) (hy2.trans hset)
            rw [List.take_take, Nat.min_eq_left (by omega), List.take_left' (by simp; omega)] at h1
            exact h1
          refine ⟨((x.1 + 1 : Nat), ys), ?_, ⟨?_, hy1, hy3⟩, ?_⟩
          · show N + 1 - (x.1 + 1) < N + 1 - x.1
            omega
          · show x.1 + 1 ≤ N + 1
            omega
          · rw [Nat.add_assoc, ← hb]
            (repeat' (first | exact trivial | rfl | exact Nat.one_pos | (refine And.intro ?_ ?_) | omega | ((conv => whnf); (refine And.intro ?_ ?_)) | ((conv => whnf); exact trivial)))
        · intro ys hy1
          (repeat' ((conv => whnf); first | (refine Giv.mk fun _ => ?_) | (refine Alt.l (Need.mk ?h ?_); case h => omega) | (refine Alt.r (Need.mk ?h ?_); case h => omega) | (refine Need.mk ?h ?_; case h => first | omega | (intro _; rfl) | assumption | (simp <;> omega)) | refine Ix.zero ?_ | refine Ix.one ?_ | refine Ix.two ?_ | refine Ix.nat ?_ | refine Ix.add ?_ | (apply Go.Eng.Pin.mk; apply Exists.intro) | apply Go.Eng.Pinned.mk rfl rfl | (apply Go.Eng.PinH.mk; apply Exists.intro; apply Exists.intro) | exact Go.Eng.Fin0.mk | refine Go.Eng.Chk.mk ?_ ?_ | refine Own.l ?_ | fail))
          refine ⟨.val (.bool false), _, .inr ⟨ys, hy1, rfl, rfl⟩, rfl, rfl, rfl, rfl, ?_⟩
          (repeat' (first | exact trivial | rfl | exact Nat.one_pos | (refine And.intro ?_ ?_) | ((conv => whnf); (refine And.intro ?_ ?_)) | ((conv => whnf); exact trivial)))
      · have hxN : x.1 = N + 1 := by omega
        have hb := beenAt_all kerf ls cs i room hi hlen
        rw [hNe, ← hxN] at hb
        (repeat' ((conv => whnf); first | (refine Giv.mk fun _ => ?_) | (refine Alt.l (Need.mk ?h ?_); case h => omega) | (refine Alt.r (Need.mk ?h ?_); case h => omega) | (refine Need.mk ?h ?_; case h => first | omega | (intro _; rfl) | assumption | (simp <;> omega)) | refine Ix.zero ?_ | refine Ix.one ?_ | refine Ix.two ?_ | refine Ix.nat ?_ | refine Ix.add ?_ | (apply Go.Eng.Pin.mk; apply Exists.intro) | apply Go.Eng.Pinned.mk rfl rfl | (apply Go.Eng.PinH.mk; apply Exists.intro; apply Exists.intro) | exact Go.Eng.Fin0.mk | refine Go.Eng.Chk.mk ?_ ?_ | refine Own.l ?_ | fail))
        refine ⟨.val (.bool true), _, .inl ⟨x.2, hx2, hx3, rfl, rfl⟩, rfl, rfl, rfl, rfl, ?_⟩
        rw [← hb]
        (repeat' (first | exact trivial | rfl | exact Nat.one_pos | (refine And.intro ?_ ?_) | ((conv => whnf); (refine And.intro ?_ ?_)) | ((conv => whnf); exact trivial)))
theorem kfill (ls cs : List Int) (kerf : Int) (n : Nat) (all : List (List Int)) (hc : OkC ls cs kerf) : ∀ m, ConOK Try.prog (cfill ls cs kerf n all m)
  | 0 => by
    refine hpOK_of (enters_of Try.func57 (by kernel_rfl) rfl) ?_
    rintro args H K ⟨i, room, k, xs, rfl, rfl, hm, hp, _⟩
    have := hp.ile
    omega
  | m + 1 => by
    refine hpOK_of (enters_of Try.func57 (by kernel_rfl) rfl) ?_
    rintro args H K ⟨i, room, k, xs, rfl, rfl, hm, hp, h1, h2⟩
    refine ⟨fillR ls cs kerf n all i room k xs, ?_, htri_of_body (Γ := [cfill ls cs kerf n all m]) (by simp [kfill ls cs kerf n all hc m]) Try.func57 (by simp [Try.ntmps57]) (bfill ls cs kerf n all hc m i room k xs hm hp)⟩
    rintro s H' (⟨ys, q1, q2, rfl, rfl⟩ | ⟨ys, q1, rfl, rfl⟩)
    · exact h1 ys q1 q2
    · exact h2 ys q1
def allP (ls cs : List Int) (len kerf : Int) : List (List Int) := patsAt kerf ls cs 0 (len + kerf)
theorem b56 (ls : List Int) (kerf : Int) (cs : List Int) (len : Int) (h : OkC ls cs kerf ∧ 0 ≤ len ∧ len ≤ 1048576) : bodyI Try.prog [cfill ls cs kerf (allP ls cs len kerf).length (allP ls cs len kerf) (ls.length + 1)] {} Try.f56 [.lelem [Ls ls] 0, .lelem [I kerf] 0, .lelem [Ls cs] 0, .lelem [I len] 0] (allP ls cs len kerf).length (itemsP (allP ls cs len kerf)) := by
  obtain ⟨hc, l0, l1⟩ := h
  have k0 := hc.k0
  have k1 := hc.k1
  have hfew := hc.few
  (repeat' ((conv => whnf); first | (refine Giv.mk fun _ => ?_) | (refine Alt.l (Need.mk ?h ?_); case h => omega) | (refine Alt.r (Need.mk ?h ?_); case h => omega) | (refine Need.mk ?h ?_; case h => first | omega | (intro _; rfl) | assumption | (simp <;> omega)) | refine Ix.zero ?_ | refine Ix.one ?_ | refine Ix.two ?_ | refine Ix.nat ?_ | refine Ix.add ?_ | (apply Go.Eng.Pin.mk; apply Exists.intro) | apply Go.Eng.Pinned.mk rfl rfl | (apply Go.Eng.PinH.mk; apply Exists.intro; apply Exists.intro) | exact Go.Eng.Fin0.mk | refine Go.Eng.Chk.mk ?_ ?_ | refine Own.l ?_ | fail))
  refine Need.mk (show 0 ≤ (ls.length : Int) ∧ (ls.length : Int) ≤ ls.length ∧ (ls.length : Int) ≤ 140737488355328 ∧ (ls.length : Int) * ((8 : Nat) : Int) ≤ 140737488355328 by omega) ?_
  (repeat' ((conv => whnf); first | (refine Giv.mk fun _ => ?_) | (refine Alt.l (Need.mk ?h ?_); case h => omega) | (refine Alt.r (Need.mk ?h ?_); case h => omega) | (refine Need.mk ?h ?_; case h => first | omega | (intro _; rfl) | assumption | (simp <;> omega)) | refine Ix.zero ?_ | refine Ix.one ?_ | refine Ix.two ?_ | refine Ix.nat ?_ | refine Ix.add ?_ | (apply Go.Eng.Pin.mk; apply Exists.intro) | apply Go.Eng.Pinned.mk rfl rfl | (apply Go.Eng.PinH.mk; apply Exists.intro; apply Exists.intro) | exact Go.Eng.Fin0.mk | refine Go.Eng.Chk.mk ?_ ?_ | refine Own.l ?_ | fail))
  refine ⟨0, _, 0, _, rfl, rfl, by omega, ⟨Nat.zero_le _, by simp, by omega, by omega, ?_, ?_⟩, ?_, ?_⟩
  · show 0 + (patsAt kerf ls cs 0 (len + kerf)).length ≤ (allP ls cs len kerf).length
    simp [allP]
  · intro j hj
    simp [allP]
  · intro ys hy1 hy2
    (repeat' ((conv => whnf); first | (refine Giv.mk fun _ => ?_) | (refine Alt.l (Need.mk ?h ?_); case h => omega) | (refine Alt.r (Need.mk ?h ?_); case h => omega) | (refine Need.mk ?h ?_; case h => first | omega | (intro _; rfl) | assumption | (simp <;> omega)) | refine Ix.zero ?_ | refine Ix.one ?_ | refine Ix.two ?_ | refine Ix.nat ?_ | refine Ix.add ?_ | (apply Go.Eng.Pin.mk; apply Exists.intro) | apply Go.Eng.Pinned.mk rfl rfl | (apply Go.Eng.PinH.mk; apply Exists.intro; apply Exists.intro) | exact Go.Eng.Fin0.mk | refine Go.Eng.Chk.mk ?_ ?_ | refine Own.l ?_ | fail))
    (conv => whnf)
    exact Nat.zero_add _
  · intro ys hy1
    (repeat' ((conv => whnf); first | (refine Giv.mk fun _ => ?_) | (refine Alt.l (Need.mk ?h ?_); case h => omega) | (refine Alt.r (Need.mk ?h ?_); case h => omega) | (refine Need.mk ?h ?_; case h => first | omega | (intro _; rfl) | assumption | (simp <;> omega)) | refine Ix.zero ?_ | refine Ix.one ?_ | refine Ix.two ?_ | refine Ix.nat ?_ | refine Ix.add ?_ | (apply Go.Eng.Pin.mk; apply Exists.intro) | apply Go.Eng.Pinned.mk rfl rfl | (apply Go.Eng.PinH.mk; apply Exists.intro; apply Exists.intro) | exact Go.Eng.Fin0.mk | refine Go.Eng.Chk.mk ?_ ?_ | refine Own.l ?_ | fail))
    (conv => whnf)
    exact trivial
abbrev patCap (ls : List Int) (kerf : Int) (cs : List Int) (len : Int) : List SV := [.lelem [Ls ls] 0, .lelem [I kerf] 0, .lelem [Ls cs] 0, .lelem [I len] 0]
def c56 : Con := mkCon 56 false fun args K => match args with
  | [.lelem [.seq (.int .i64) ls] 0, .lelem [.val (.int .i64 kerf)] 0, .lelem [.seq (.int .i64) cs] 0, .lelem [.val (.int .i64 len)] 0] => Need (OkC ls cs kerf ∧ 0 ≤ len ∧ len ≤ 1048576) (K (.itr (allP ls cs len kerf).length (itemsP (allP ls cs len kerf))))
  | _ => False
theorem k56 : ConOK Try.prog c56 := by
  refine conOK_of rfl (enters_of Try.func56 (by kernel_rfl) rfl) ?_
  intro args K h
  simp only [c56] at h
  split at h
  · rename_i ls kerf cs len
    exact ⟨_, h.go, triI_of_body (Γ := [cfill ls cs kerf (allP ls cs len kerf).length (allP ls cs len kerf) (ls.length + 1)]) (by simp [kfill ls cs kerf _ _ h.ok.1]) Try.func56 (by simp [Try.ntmps56]) (b56 ls kerf cs len h.ok)⟩
  · exact h.elim
theorem b35 (ls cs : List Int) (len kerf : Int) : body Try.prog [] {} false Try.f35 [Ls ls, Ls cs, I len, I kerf] (.clo 56 [] (patCap ls kerf cs len)) := by
  (repeat' ((conv => whnf); first | (refine Giv.mk fun _ => ?_) | (refine Alt.l (Need.mk ?h ?_); case h => omega) | (refine Alt.r (Need.mk ?h ?_); case h => omega) | (refine Need.mk ?h ?_; case h => first | omega | (intro _; rfl) | assumption | (simp <;> omega)) | refine Ix.zero ?_ | refine Ix.one ?_ | refine Ix.two ?_ | refine Ix.nat ?_ | refine Ix.add ?_ | (apply Go.Eng.Pin.mk; apply Exists.intro) | apply Go.Eng.Pinned.mk rfl rfl | (apply Go.Eng.PinH.mk; apply Exists.intro; apply Exists.intro) | exact Go.Eng.Fin0.mk | refine Go.Eng.Chk.mk ?_ ?_ | refine Own.l ?_ | fail))
  (conv => whnf)
  (repeat' (first | exact trivial | rfl | exact Nat.one_pos | (refine And.intro ?_ ?_) | ((conv => whnf); (refine And.intro ?_ ?_)) | ((conv => whnf); exact trivial)))
def c35 : Con := mkCon 35 false fun args K => match args with | [.seq (.int .i64) ls, .seq (.int .i64) cs, .val (.int .i64 len), .val (.int .i64 kerf)] => K (.clo 56 [] (patCap ls kerf cs len)) | _ => False
theorem k35 : ConOK Try.prog c35 := by
  refine conOK_of rfl (enters_of Try.func35 (by kernel_rfl) rfl) ?_
  intro args K h
  simp only [c35] at h
  split at h
  · rename_i ls cs len kerf; exact ⟨_, h, tri_of_body (Γ := []) (by simp) Try.func35 (by simp [Try.ntmps35]) rfl (b35 ls cs len kerf)⟩
  · exact h.elim
end PB
end
section
set_option linter.unusedVariables false
open Go Go.Proofs Go.Eng Go.Shelf
namespace PB
set_option maxRecDepth 10000
set_option linter.unusedVariables false
namespace O
theorem b20 (xs : List Int) (h : xs.length ≤ 4096) : bodyO Try.prog [] {} Try.f20 [Ls xs] (.ref 0 1) (.int .i64) xs 3 := by
  (repeat' ((conv => whnf); first | (refine Giv.mk fun _ => ?_) | (refine Alt.l (Need.mk ?h ?_); case h => omega) | (refine Alt.r (Need.mk ?h ?_); case h => omega) | (refine Need.mk ?h ?_; case h => first | omega | (intro _; rfl) | assumption | (simp <;> omega)) | refine Ix.zero ?_ | refine Ix.one ?_ | refine Ix.two ?_ | refine Ix.nat ?_ | refine Ix.add ?_ | (apply Go.Eng.Pin.mk; apply Exists.intro) | apply Go.Eng.Pinned.mk rfl rfl | (apply Go.Eng.PinH.mk; apply Exists.intro; apply Exists.intro) | exact Go.Eng.Fin0.mk | refine Go.Eng.Chk.mk ?_ ?_ | refine Own.l ?_ | fail))
  intro q hq
  (repeat' ((conv => whnf); first | (refine Giv.mk fun _ => ?_) | (refine Alt.l (Need.mk ?h ?_); case h => omega) | (refine Alt.r (Need.mk ?h ?_); case h => omega) | (refine Need.mk ?h ?_; case h => first | omega | (intro _; rfl) | assumption | (simp <;> omega)) | refine Ix.zero ?_ | refine Ix.one ?_ | refine Ix.two ?_ | refine Ix.nat ?_ | refine Ix.add ?_ | (apply Go.Eng.Pin.mk; apply Exists.intro) | apply Go.Eng.Pinned.mk rfl rfl | (apply Go.Eng.PinH.mk; apply Exists.intro; apply Exists.intro) | exact Go.Eng.Fin0.mk | refine Go.Eng.Chk.mk ?_ ?_ | refine Own.l ?_ | fail))
  (refine Br.mk (fun _ => ?_) (fun _ => ?_))
  · rename_i h1
    have := hq h1
    subst this
    (repeat' ((conv => whnf); first | (refine Giv.mk fun _ => ?_) | (refine Alt.l (Need.mk ?h ?_); case h => omega) | (refine Alt.r (Need.mk ?h ?_); case h => omega) | (refine Need.mk ?h ?_; case h => first | omega | (intro _; rfl) | assumption | (simp <;> omega)) | refine Ix.zero ?_ | refine Ix.one ?_ | refine Ix.two ?_ | refine Ix.nat ?_ | refine Ix.add ?_ | (apply Go.Eng.Pin.mk; apply Exists.intro) | apply Go.Eng.Pinned.mk rfl rfl | (apply Go.Eng.PinH.mk; apply Exists.intro; apply Exists.intro) | exact Go.Eng.Fin0.mk | refine Go.Eng.Chk.mk ?_ ?_ | refine Own.l ?_ | fail))
    (conv => whnf)
    (repeat' (first | exact trivial | rfl | exact Nat.one_pos | (refine And.intro ?_ ?_) | ((conv => whnf); (refine And.intro ?_ ?_)) | ((conv => whnf); exact trivial)))
  · (repeat' ((conv => whnf); first | (refine Giv.mk fun _ => ?_) | (refine Alt.l (Need.mk ?h ?_); case h => omega) | (refine Alt.r (Need.mk ?h ?_); case h => omega) | (refine Need.mk ?h ?_; case h => first | omega | (intro _; rfl) | assumption | (simp <;> omega)) | refine Ix.zero ?_ | refine Ix.one ?_ | refine Ix.two ?_ | refine Ix.nat ?_ | refine Ix.add ?_ | (apply Go.Eng.Pin.mk; apply Exists.intro) | apply Go.Eng.Pinned.mk rfl rfl | (apply Go.Eng.PinH.mk; apply Exists.intro; apply Exists.intro) | exact Go.Eng.Fin0.mk | refine Go.Eng.Chk.mk ?_ ?_ | refine Own.l ?_ | fail))
    (conv => whnf)
    (repeat' (first | exact trivial | rfl | exact Nat.one_pos | (refine And.intro ?_ ?_) | ((conv => whnf); (refine And.intro ?_ ?_)) | ((conv => whnf); exact trivial)))
def c20 : Con := ownCon 20 fun args K => match args with | [.seq (.int .i64) xs] => Need (xs.length ≤ 4096) (K (.ref 0 1) (.vec 1 (.int .i64) (xs) 3)) | _ => False
theorem k20 : ConOK Try.prog c20 := by
  refine ownOK_of (enters_of Try.func20 (by kernel_rfl) rfl) ?_
  intro args K h
  split at h
  · rename_i xs; exact ⟨_, _, _, _, _, h.go, fun hfl => otri_of_body (Γ := []) (by simp) Try.func20 (by simp [Try.ntmps20]) hfl (b20 xs h.ok)⟩
  · exact h.elim
end O
abbrev cO20 : Con := O.c20
theorem kO20 : ConOK Try.prog cO20 := O.k20
def moreP (p : List Int) (i : Nat) : List Int := p.set i (p.getD i 0 + 1)
def maxAt (ls cs p : List Int) (len kerf : Int) (i : Nat) : Prop := p.getD i 0 + 1 ≤ cs.getD i 0 ∧ 0 ≤ restE ls (moreP p i) len kerf
instance (ls cs p : List Int) (len kerf : Int) (i : Nat) : Decidable (maxAt ls cs p len kerf i) := by unfold maxAt; exact inferInstance
def maxE (ls cs p : List Int) (len kerf : Int) : Bool := (List.range p.length).all fun i => !decide (maxAt ls cs p len kerf i)
theorem maxE_hit {ls cs p : List Int} {len kerf : Int} {i : Nat} (hi : i < p.length) (h : maxAt ls cs p len kerf i) : maxE ls cs p len kerf = false := by
  unfold maxE
  rw [List.all_eq_false]
  exact ⟨i, by simpa using hi, by simp [h]⟩
theorem maxE_none {ls cs p : List Int} {len kerf : Int} (h : ∀ i, i < p.length → ¬ maxAt ls cs p len kerf i) : maxE ls cs p len kerf = true := by
  unfold maxE
  rw [List.all_eq_true]
  intro i hi
  simp [h i (by simpa using hi)]
structure MaxOk (ls cs p : List Int) (len kerf : Int) : Prop where
  ok : OkC ls cs kerf
  pl : p.length = ls.length
  pB : ∀ i, i < ls.length → 0 ≤ p.getD i 0 ∧ p.getD i 0 ≤ cs.getD i 0
  l0 : 0 ≤ len
  l1 : len ≤ 1048576
theorem moreP_get (p : List Int) (i j : Nat) (hi : i < p.length) : (moreP p i).getD j 0 = if j = i then p.getD i 0 + 1 else p.getD j 0 := by
  unfold moreP
  rw [List.getD_eq_getElem?_getD, List.getElem?_set]
  by_cases e : j = i
  · subst e; simp [hi]
  · rw [if_neg (fun h => e h.symm), if_neg e, ← List.getD_eq_getElem?_getD]
theorem moreP_len (p : List Int) (i : Nat) : (moreP p i).length = p.length := by simp [moreP]
theorem moreP_back (p : List Int) (i : Nat) (hi : i < p.length) : (moreP p i).set i ((moreP p i).getD i 0 - 1) = p := by
  rw [moreP_get p i i hi, if_pos rfl]
  unfold moreP
  rw [List.set_set]
  apply List.ext_getElem (by simp)
  intro j h1 h2
  rw [List.getElem_set]
  split
  · rename_i e
    subst e
    simp [List.getD_eq_getElem?_getD, hi]
  · rfl
theorem moreP_rest {ls cs p : List Int} {len kerf : Int} (h : MaxOk ls cs p len kerf) (i : Nat) (hi : i < p.length) : RestOk ls (moreP p i) len kerf := by
  have hl := h.pl
  refine ⟨⟨by rw [moreP_len]; exact hl, h.ok.few, h.ok.lB, fun j hj => ?_⟩, h.l0, h.l1, h.ok.k0, h.ok.k1⟩
  rw [moreP_get p i j hi]
  have h1 := h.pB j hj
  have h2 := h.ok.cB j hj
  have h3 := h.pB i (by omega)
  have h4 := h.ok.cB i (by omega)
  split <;> omega
theorem b36 (ls cs p : List Int) (len kerf : Int) (h : MaxOk ls cs p len kerf) : body Try.prog [cO20, c48] { asks := [(0, [])] } true Try.f36 [Ls ls, Ls cs, Ls p, I len, I kerf] (.bl (maxE ls cs p len kerf = true) inferInstance) := by
  have hl := h.pl
  have hfew := h.ok.few
  have hcl := h.ok.len
  (repeat' ((conv => whnf); first | (refine Giv.mk fun _ => ?_) | (refine Alt.l (Need.mk ?h ?_); case h => omega) | (refine Alt.r (Need.mk ?h ?_); case h => omega) | (refine Need.mk ?h ?_; case h => first | omega | (intro _; rfl) | assumption | (simp <;> omega)) | refine Ix.zero ?_ | refine Ix.one ?_ | refine Ix.two ?_ | refine Ix.nat ?_ | refine Ix.add ?_ | (apply Go.Eng.Pin.mk; apply Exists.intro) | apply Go.Eng.Pinned.mk rfl rfl | (apply Go.Eng.PinH.mk; apply Exists.intro; apply Exists.intro) | exact Go.Eng.Fin0.mk | refine Go.Eng.Chk.mk ?_ ?_ | refine Own.l ?_ | fail))
  refine Ask.mk ⟨{ X := Nat, pre := fun i => i ≤ p.length ∧ ∀ j, j < i → ¬ maxAt ls cs p len kerf j, mod := fun i _ => [(17, I i)], heap := fun i _ => [.vec 1 (.int .i64) p 3], mu := fun i => p.length - i }, rfl, ?_⟩
  (repeat' ((conv => whnf); first | (refine Giv.mk fun _ => ?_) | (refine Alt.l (Need.mk ?h ?_); case h => omega) | (refine Alt.r (Need.mk ?h ?_); case h => omega) | (refine Need.mk ?h ?_; case h => first | omega | (intro _; rfl) | assumption | (simp <;> omega)) | refine Ix.zero ?_ | refine Ix.one ?_ | refine Ix.two ?_ | refine Ix.nat ?_ | refine Ix.add ?_ | (apply Go.Eng.Pin.mk; apply Exists.intro) | apply Go.Eng.Pinned.mk rfl rfl | (apply Go.Eng.PinH.mk; apply Exists.intro; apply Exists.intro) | exact Go.Eng.Fin0.mk | refine Go.Eng.Chk.mk ?_ ?_ | refine Own.l ?_ | fail))
  refine ⟨⟨(0 : Nat), ⟨Nat.zero_le _, fun j hj => by omega⟩, by (repeat' (first | exact trivial | rfl | exact Nat.one_pos | (refine And.intro ?_ ?_) | omega | ((conv => whnf); (refine And.intro ?_ ?_)) | ((conv => whnf); exact trivial)))⟩, fun (i : Nat) hi => ?_⟩
  obtain ⟨hi1, hi2⟩ := hi
  (repeat' ((conv => whnf); first | (refine Giv.mk fun _ => ?_) | (refine Alt.l (Need.mk ?h ?_); case h => omega) | (refine Alt.r (Need.mk ?h ?_); case h => omega) | (refine Need.mk ?h ?_; case h => first | omega | (intro _; rfl) | assumption | (simp <;> omega)) | refine Ix.zero ?_ | refine Ix.one ?_ | refine Ix.two ?_ | refine Ix.nat ?_ | refine Ix.add ?_ | (apply Go.Eng.Pin.mk; apply Exists.intro) | apply Go.Eng.Pinned.mk rfl rfl | (apply Go.Eng.PinH.mk; apply Exists.intro; apply Exists.intro) | exact Go.Eng.Fin0.mk | refine Go.Eng.Chk.mk ?_ ?_ | refine Own.l ?_ | fail))
  (refine Br.mk (fun _ => ?_) (fun _ => ?_))
  · have hlt : i < p.length := by omega
    have h1 := h.pB i (by omega)
    have h2 := h.ok.cB i (by omega)
    have hm := moreP_rest h i hlt
    have hg := moreP_get p i i hlt
    rw [if_pos rfl] at hg
    have hlm := moreP_len p i
    have hbk := moreP_back p i hlt
    have hat : maxAt ls cs p len kerf i ↔ (p.getD i 0 + 1 ≤ cs.getD i 0 ∧ 0 ≤ restE ls (moreP p i) len kerf) := Iff.rfl
    unfold moreP at hg hbk hm hlm hat
    have next : ¬ maxAt ls cs p len kerf i → ∀ j, j < i + 1 → ¬ maxAt ls cs p len kerf j := fun hn j hj => by
      by_cases e : j = i
      · subst e; exact hn
      · exact hi2 j (by omega)
    (repeat' ((conv => whnf); first | (refine Giv.mk fun _ => ?_) | (refine Alt.l (Need.mk ?h ?_); case h => omega) | (refine Alt.r (Need.mk ?h ?_); case h => omega) | (refine Need.mk ?h ?_; case h => first | omega | (intro _; rfl) | assumption | (simp <;> omega)) | refine Ix.zero ?_ | refine Ix.one ?_ | refine Ix.two ?_ | refine Ix.nat ?_ | refine Ix.add ?_ | (apply Go.Eng.Pin.mk; apply Exists.intro) | apply Go.Eng.Pinned.mk rfl rfl | (apply Go.Eng.PinH.mk; apply Exists.intro; apply Exists.intro) | exact Go.Eng.Fin0.mk | refine Go.Eng.Chk.mk ?_ ?_ | refine Own.l ?_ | fail))
    (refine Br.mk (fun _ => ?_) (fun _ => ?_))
    · rename_i g1
      (repeat' ((conv => whnf); first | (refine Giv.mk fun _ => ?_) | (refine Alt.l (Need.mk ?h ?_); case h => omega) | (refine Alt.r (Need.mk ?h ?_); case h => omega) | (refine Need.mk ?h ?_; case h => first | omega | (intro _; rfl) | assumption | (simp <;> omega)) | refine Ix.zero ?_ | refine Ix.one ?_ | refine Ix.two ?_ | refine Ix.nat ?_ | refine Ix.add ?_ | (apply Go.Eng.Pin.mk; apply Exists.intro) | apply Go.Eng.Pinned.mk rfl rfl | (apply Go.Eng.PinH.mk; apply Exists.intro; apply Exists.intro) | exact Go.Eng.Fin0.mk | refine Go.Eng.Chk.mk ?_ ?_ | refine Own.l ?_ | fail))
      (refine Br.mk (fun _ => ?_) (fun _ => ?_))
      · rename_i g2
        (repeat' ((conv => whnf); first | (refine Giv.mk fun _ => ?_) | (refine Alt.l (Need.mk ?h ?_); case h => omega) | (refine Alt.r (Need.mk ?h ?_); case h => omega) | (refine Need.mk ?h ?_; case h => first | omega | (intro _; rfl) | assumption | (simp <;> omega)) | refine Ix.zero ?_ | refine Ix.one ?_ | refine Ix.two ?_ | refine Ix.nat ?_ | refine Ix.add ?_ | (apply Go.Eng.Pin.mk; apply Exists.intro) | apply Go.Eng.Pinned.mk rfl rfl | (apply Go.Eng.PinH.mk; apply Exists.intro; apply Exists.intro) | exact Go.Eng.Fin0.mk | refine Go.Eng.Chk.mk ?_ ?_ | refine Own.l ?_ | fail))
        (conv => whnf)
        rw [maxE_hit hlt (hat.2 ⟨by omega, g2⟩)]
        exact Bool.false_ne_true
      · rename_i g2
        (repeat' ((conv => whnf); first | (refine Giv.mk fun _ => ?_) | (refine Alt.l (Need.mk ?h ?_); case h => omega) | (refine Alt.r (Need.mk ?h ?_); case h => omega) | (refine Need.mk ?h ?_; case h => first | omega | (intro _; rfl) | assumption | (simp <;> omega)) | refine Ix.zero ?_ | refine Ix.one ?_ | refine Ix.two ?_ | refine Ix.nat ?_ | refine Ix.add ?_ | (apply Go.Eng.Pin.mk; apply Exists.intro) | apply Go.Eng.Pinned.mk rfl rfl | (apply Go.Eng.PinH.mk; apply Exists.intro; apply Exists.intro) | exact Go.Eng.Fin0.mk | refine Go.Eng.Chk.mk ?_ ?_ | refine Own.l ?_ | fail))
        refine ⟨(i + 1 : Nat), by show p.length - (i + 1) < p.length - i; omega, ⟨hlt, next fun hc => g2 (hat.1 hc).2⟩, ?_⟩
        (repeat' (first | exact trivial | rfl | exact Nat.one_pos | (refine And.intro ?_ ?_) | ((conv => whnf); (refine And.intro ?_ ?_)) | ((conv => whnf); exact trivial)))
        exact hbk
    · rename_i g1
      (repeat' ((conv => whnf); first | (refine Giv.mk fun _ => ?_) | (refine Alt.l (Need.mk ?h ?_); case h => omega) | (refine Alt.r (Need.mk ?h ?_); case h => omega) | (refine Need.mk ?h ?_; case h => first | omega | (intro _; rfl) | assumption | (simp <;> omega)) | refine Ix.zero ?_ | refine Ix.one ?_ | refine Ix.two ?_ | refine Ix.nat ?_ | refine Ix.add ?_ | (apply Go.Eng.Pin.mk; apply Exists.intro) | apply Go.Eng.Pinned.mk rfl rfl | (apply Go.Eng.PinH.mk; apply Exists.intro; apply Exists.intro) | exact Go.Eng.Fin0.mk | refine Go.Eng.Chk.mk ?_ ?_ | refine Own.l ?_ | fail))
      refine ⟨(i + 1 : Nat), by show p.length - (i + 1) < p.length - i; omega, ⟨hlt, next fun hc => g1 (by have := (hat.1 hc).1; omega)⟩, ?_⟩
      (repeat' (first | exact trivial | rfl | exact Nat.one_pos | (refine And.intro ?_ ?_) | ((conv => whnf); (refine And.intro ?_ ?_)) | ((conv => whnf); exact trivial)))
      exact hbk
  · exact maxE_none (ls := ls) (cs := cs) (p := p) (len := len) (kerf := kerf) fun j hj => hi2 j (by omega)
def c36 : Con := mkCon 36 true fun args K => match args with | [.seq (.int .i64) ls, .seq (.int .i64) cs, .seq (.int .i64) p, .val (.int .i64 len), .val (.int .i64 kerf)] => Need (MaxOk ls cs p len kerf) (K (.bl (maxE ls cs p len kerf = true) inferInstance)) | _ => False
theorem k36 : ConOK Try.prog c36 := by
  refine conOK_of rfl (enters_of Try.func36 (by kernel_rfl) rfl) ?_
  intro args K h
  simp only [c36] at h
  split at h
  · rename_i ls cs p len kerf; exact ⟨_, h.go, tri_of_body (Γ := [cO20, c48]) (by simp [kO20, k48]) Try.func36 (by simp [Try.ntmps36]) rfl (b36 ls cs p len kerf h.ok)⟩
  · exact h.elim
end PB
end
section
set_option linter.unusedVariables false
open Go Go.Proofs Go.Eng Go.Shelf
namespace PB
set_option maxRecDepth 10000
set_option linter.unusedVariables false
def allM (ls cs : List Int) (len kerf : Int) : List (List Int) := (allP ls cs len kerf).filter fun p => maxE ls cs p len kerf
def allR (ls cs : List Int) (len kerf : Int) : List (List Int) := if allE ls cs len kerf ≠ 0 then [] else allM ls cs len kerf
def AllOk (ls cs : List Int) (len kerf : Int) : Prop := allE ls cs len kerf = 0 → (allP ls cs len kerf).length ≤ 4096
theorem pats_ok (kerf : Int) : ∀ (ls cs : List Int) (room : Int), cs.length = ls.length → (∀ i, i < ls.length → 0 ≤ cs.getD i 0) → ∀ p ∈ pats kerf ls cs room, p.length = ls.length ∧ ∀ i, i < ls.length → 0 ≤ p.getD i 0 ∧ p.getD i 0 ≤ cs.getD i 0
  | [], _, _, _, _, p, hp => by
    simp [pats] at hp
    subst hp
    simp
  | l :: ls, c :: cs, room, hl, hc, p, hp => by
    simp only [pats, List.headD_cons, List.tail_cons, List.mem_flatMap, List.mem_map] at hp
    obtain ⟨n, hn, q, hq, rfl⟩ := hp
    have hc0 := hc 0 (by simp)
    obtain ⟨h1, h2⟩ := pats_ok kerf ls cs _ (by simpa using hl) (fun i hi => by simpa using hc (i + 1) (by simpa using hi)) q hq
    have hn' : n < most kerf l c room + 1 := by simpa [down] using hn
    have hm : (most kerf l c room : Int) ≤ c := by
      unfold most
      simp at hc0
      omega
    refine ⟨by simp [h1], fun i hi => ?_⟩
    cases i with
    | zero => simp; omega
    | succ i => simpa using h2 i (by simpa using hi)
theorem okC_of {ls cs : List Int} {len kerf : Int} (h : allE ls cs len kerf = 0) : OkC ls cs kerf ∧ 0 ≤ len ∧ len ≤ 1048576 := by
  obtain ⟨⟨h1, h2, h3, h4, h5⟩, h6, h7, h8⟩ := allE_ok h
  exact ⟨⟨h1.len, h1.few, h1.lB, h7, h4, h5⟩, h2, h3⟩
theorem allP_ok {ls cs : List Int} {len kerf : Int} (h : allE ls cs len kerf = 0) {k : Nat} (hk : k < (allP ls cs len kerf).length) : MaxOk ls cs ((allP ls cs len kerf).getD k []) len kerf := by
  obtain ⟨h1, h2, h3⟩ := okC_of h
  have hm : (allP ls cs len kerf).getD k [] ∈ pats kerf ls cs (len + kerf) := by
    have : (allP ls cs len kerf).getD k [] = (allP ls cs len kerf)[k] := by simp [List.getD_eq_getElem?_getD, hk]
    rw [this]
    exact List.getElem_mem hk
  obtain ⟨h4, h5⟩ := pats_ok kerf ls cs _ h1.len (fun i hi => (h1.cB i hi).1) _ hm
  exact ⟨h1, h4, h5, h2, h3⟩
theorem filter_step {α : Type} {d : α} (f : α → Bool) (xs : List α) (k : Nat) (h : k < xs.length) : (xs.take (k + 1)).filter f = if f (xs.getD k d) = true then (xs.take k).filter f ++ [xs.getD k d] else (xs.take k).filter f := by
  rw [List.take_succ_eq_append_getElem h, List.filter_append]
  have e : xs[k] = xs.getD k d := by simp [List.getD_eq_getElem?_getD, h]
  rw [e]
  by_cases hf : f (xs.getD k d) = true
  · rw [if_pos hf]; simp only [List.filter_cons, hf, if_true, List.filter_nil]
  · rw [if_neg hf]; simp only [List.filter_cons, hf, List.filter_nil]; simp
set_option maxHeartbeats 1000000 in
theorem b13 (ls cs : List Int) (len kerf : Int) (h : AllOk ls cs len kerf) : body Try.prog [c34, c35, c36, c20, c56] { asks := [(0, [7])] } false Try.f13 [Ls ls, Ls cs, I len, I kerf] (.tup [LL (allR ls cs len kerf), I (allE ls cs len kerf)]) := by
  (repeat' ((conv => whnf); first | (refine Giv.mk fun _ => ?_) | (refine Alt.l (Need.mk ?h ?_); case h => omega) | (refine Alt.r (Need.mk ?h ?_); case h => omega) | (refine Need.mk ?h ?_; case h => first | omega | (intro _; rfl) | assumption | (simp <;> omega)) | refine Ix.zero ?_ | refine Ix.one ?_ | refine Ix.two ?_ | refine Ix.nat ?_ | refine Ix.add ?_ | (apply Go.Eng.Pin.mk; apply Exists.intro) | apply Go.Eng.Pinned.mk rfl rfl | (apply Go.Eng.PinH.mk; apply Exists.intro; apply Exists.intro) | exact Go.Eng.Fin0.mk | refine Go.Eng.Chk.mk ?_ ?_ | refine Own.l ?_ | fail))
  (refine Br.mk (fun _ => ?_) (fun _ => ?_))
  · rename_i h1
    (repeat' ((conv => whnf); first | (refine Giv.mk fun _ => ?_) | (refine Alt.l (Need.mk ?h ?_); case h => omega) | (refine Alt.r (Need.mk ?h ?_); case h => omega) | (refine Need.mk ?h ?_; case h => first | omega | (intro _; rfl) | assumption | (simp <;> omega)) | refine Ix.zero ?_ | refine Ix.one ?_ | refine Ix.two ?_ | refine Ix.nat ?_ | refine Ix.add ?_ | (apply Go.Eng.Pin.mk; apply Exists.intro) | apply Go.Eng.Pinned.mk rfl rfl | (apply Go.Eng.PinH.mk; apply Exists.intro; apply Exists.intro) | exact Go.Eng.Fin0.mk | refine Go.Eng.Chk.mk ?_ ?_ | refine Own.l ?_ | fail))
    (conv => whnf)
    (repeat' (first | exact trivial | rfl | exact Nat.one_pos | (refine And.intro ?_ ?_) | ((conv => whnf); (refine And.intro ?_ ?_)) | ((conv => whnf); exact trivial)))
    · (conv => whnf)
      unfold allR; rw [if_pos h1]
  · rename_i h1
    have h1 : allE ls cs len kerf = 0 := Classical.not_not.1 h1
    have hok := okC_of h1
    have hbig := h h1
    have hfew := hok.1.few
    have hclen := hok.1.len
    obtain ⟨A, hA⟩ : ∃ A, allP ls cs len kerf = A := ⟨_, rfl⟩
    (repeat' ((conv => whnf); first | (refine Giv.mk fun _ => ?_) | (refine Alt.l (Need.mk ?h ?_); case h => omega) | (refine Alt.r (Need.mk ?h ?_); case h => omega) | (refine Need.mk ?h ?_; case h => first | omega | (intro _; rfl) | assumption | (simp <;> omega)) | refine Ix.zero ?_ | refine Ix.one ?_ | refine Ix.two ?_ | refine Ix.nat ?_ | refine Ix.add ?_ | (apply Go.Eng.Pin.mk; apply Exists.intro) | apply Go.Eng.Pinned.mk rfl rfl | (apply Go.Eng.PinH.mk; apply Exists.intro; apply Exists.intro) | exact Go.Eng.Fin0.mk | refine Go.Eng.Chk.mk ?_ ?_ | refine Own.l ?_ | fail))
    refine Ask.mk ⟨{ X := Nat, pre := fun k => k ≤ (allP ls cs len kerf).length, mod := fun _ _ => [], heap := fun k _ => [.cells [Ls ls] 22, .cells [Ls cs] 22, .cells [I len] 3, .cells [I kerf] 3, .vec 1 (.slice (.int .i64)) [] 22, .cells [.ref 4 1] 25, .cells [I 0] 26, .vec 1 (.slice (.int .i64)) (((allP ls cs len kerf).take k).filter fun p => maxE ls cs p len kerf) 22, .cells [.ref 7 1] 25, .cells [I k] 3], objs := [7], mu := fun k => k }, rfl, ?_⟩
    (repeat' ((conv => whnf); first | (refine Giv.mk fun _ => ?_) | (refine Alt.l (Need.mk ?h ?_); case h => omega) | (refine Alt.r (Need.mk ?h ?_); case h => omega) | (refine Need.mk ?h ?_; case h => first | omega | (intro _; rfl) | assumption | (simp <;> omega)) | refine Ix.zero ?_ | refine Ix.one ?_ | refine Ix.two ?_ | refine Ix.nat ?_ | refine Ix.add ?_ | (apply Go.Eng.Pin.mk; apply Exists.intro) | apply Go.Eng.Pinned.mk rfl rfl | (apply Go.Eng.PinH.mk; apply Exists.intro; apply Exists.intro) | exact Go.Eng.Fin0.mk | refine Go.Eng.Chk.mk ?_ ?_ | refine Own.l ?_ | fail))
    refine ⟨⟨(0 : Nat), rfl, Nat.zero_le _, ?_⟩, fun (k : Nat) hk hlt => ?_, fun (k : Nat) hk he => ?_⟩
    · (repeat' (first | exact trivial | rfl | exact Nat.one_pos | (refine And.intro ?_ ?_) | omega | ((conv => whnf); (refine And.intro ?_ ?_)) | ((conv => whnf); exact trivial)))
    · have hk : k ≤ (allP ls cs len kerf).length := hk
      have hlt : k < (allP ls cs len kerf).length := hlt
      have hmx := allP_ok h1 hlt
      have hpl := hmx.pl
      have hpl4 : ((allP ls cs len kerf).getD k []).length ≤ 4096 := by omega
      have hfs := filter_step (d := []) (fun p => maxE ls cs p len kerf) (allP ls cs len kerf) k hlt
      have hfl : (((allP ls cs len kerf).take k).filter fun p => maxE ls cs p len kerf).length ≤ k := Nat.le_trans (List.length_filter_le _ _) (by simp; omega)
      (repeat' ((conv => whnf); first | (refine Giv.mk fun _ => ?_) | (refine Alt.l (Need.mk ?h ?_); case h => omega) | (refine Alt.r (Need.mk ?h ?_); case h => omega) | (refine Need.mk ?h ?_; case h => first | omega | (intro _; rfl) | assumption | (simp <;> omega)) | refine Ix.zero ?_ | refine Ix.one ?_ | refine Ix.two ?_ | refine Ix.nat ?_ | refine Ix.add ?_ | (apply Go.Eng.Pin.mk; apply Exists.intro) | apply Go.Eng.Pinned.mk rfl rfl | (apply Go.Eng.PinH.mk; apply Exists.intro; apply Exists.intro) | exact Go.Eng.Fin0.mk | refine Go.Eng.Chk.mk ?_ ?_ | refine Own.l ?_ | fail))
      refine Br.mkN (by omega) ?_
      (repeat' ((conv => whnf); first | (refine Giv.mk fun _ => ?_) | (refine Alt.l (Need.mk ?h ?_); case h => omega) | (refine Alt.r (Need.mk ?h ?_); case h => omega) | (refine Need.mk ?h ?_; case h => first | omega | (intro _; rfl) | assumption | (simp <;> omega)) | refine Ix.zero ?_ | refine Ix.one ?_ | refine Ix.two ?_ | refine Ix.nat ?_ | refine Ix.add ?_ | (apply Go.Eng.Pin.mk; apply Exists.intro) | apply Go.Eng.Pinned.mk rfl rfl | (apply Go.Eng.PinH.mk; apply Exists.intro; apply Exists.intro) | exact Go.Eng.Fin0.mk | refine Go.Eng.Chk.mk ?_ ?_ | refine Own.l ?_ | fail))
      (refine Br.mk (fun _ => ?_) (fun _ => ?_))
      · rename_i g
        rw [if_pos g] at hfs
        (repeat' ((conv => whnf); first | (refine Giv.mk fun _ => ?_) | (refine Alt.l (Need.mk ?h ?_); case h => omega) | (refine Alt.r (Need.mk ?h ?_); case h => omega) | (refine Need.mk ?h ?_; case h => first | omega | (intro _; rfl) | assumption | (simp <;> omega)) | refine Ix.zero ?_ | refine Ix.one ?_ | refine Ix.two ?_ | refine Ix.nat ?_ | refine Ix.add ?_ | (apply Go.Eng.Pin.mk; apply Exists.intro) | apply Go.Eng.Pinned.mk rfl rfl | (apply Go.Eng.PinH.mk; apply Exists.intro; apply Exists.intro) | exact Go.Eng.Fin0.mk | refine Go.Eng.Chk.mk ?_ ?_ | refine Own.l ?_ | fail))
        refine Need.mk (show (((allP ls cs len kerf).take k).filter fun p => maxE ls cs p len kerf).length + 1 ≤ 137438953472 by omega) ?_
        (repeat' ((conv => whnf); first | (refine Giv.mk fun _ => ?_) | (refine Alt.l (Need.mk ?h ?_); case h => omega) | (refine Alt.r (Need.mk ?h ?_); case h => omega) | (refine Need.mk ?h ?_; case h => first | omega | (intro _; rfl) | assumption | (simp <;> omega)) | refine Ix.zero ?_ | refine Ix.one ?_ | refine Ix.two ?_ | refine Ix.nat ?_ | refine Ix.add ?_ | (apply Go.Eng.Pin.mk; apply Exists.intro) | apply Go.Eng.Pinned.mk rfl rfl | (apply Go.Eng.PinH.mk; apply Exists.intro; apply Exists.intro) | exact Go.Eng.Fin0.mk | refine Go.Eng.Chk.mk ?_ ?_ | refine Own.l ?_ | fail))
        refine ⟨(k + 1 : Nat), rfl, hlt, ?_⟩
        (repeat' (first | exact trivial | rfl | exact Nat.one_pos | (refine And.intro ?_ ?_) | omega | ((conv => whnf); (refine And.intro ?_ ?_)) | ((conv => whnf); exact trivial)))
        exact hfs.symm
      · rename_i g
        rw [if_neg g] at hfs
        (repeat' ((conv => whnf); first | (refine Giv.mk fun _ => ?_) | (refine Alt.l (Need.mk ?h ?_); case h => omega) | (refine Alt.r (Need.mk ?h ?_); case h => omega) | (refine Need.mk ?h ?_; case h => first | omega | (intro _; rfl) | assumption | (simp <;> omega)) | refine Ix.zero ?_ | refine Ix.one ?_ | refine Ix.two ?_ | refine Ix.nat ?_ | refine Ix.add ?_ | (apply Go.Eng.Pin.mk; apply Exists.intro) | apply Go.Eng.Pinned.mk rfl rfl | (apply Go.Eng.PinH.mk; apply Exists.intro; apply Exists.intro) | exact Go.Eng.Fin0.mk | refine Go.Eng.Chk.mk ?_ ?_ | refine Own.l ?_ | fail))
        refine ⟨(k + 1 : Nat), rfl, hlt, ?_⟩
        (repeat' (first | exact trivial | rfl | exact Nat.one_pos | (refine And.intro ?_ ?_) | omega | ((conv => whnf); (refine And.intro ?_ ?_)) | ((conv => whnf); exact trivial)))
        exact hfs.symm
    · have he : k = (allP ls cs len kerf).length := he
      have hfl : (((allP ls cs len kerf).take k).filter fun p => maxE ls cs p len kerf).length ≤ 4096 := Nat.le_trans (List.length_filter_le _ _) (Nat.le_trans (by rw [List.length_take]; exact Nat.min_le_right _ _) hbig)
      (repeat' ((conv => whnf); first | (refine Giv.mk fun _ => ?_) | (refine Alt.l (Need.mk ?h ?_); case h => omega) | (refine Alt.r (Need.mk ?h ?_); case h => omega) | (refine Need.mk ?h ?_; case h => first | omega | (intro _; rfl) | assumption | (simp <;> omega)) | refine Ix.zero ?_ | refine Ix.one ?_ | refine Ix.two ?_ | refine Ix.nat ?_ | refine Ix.add ?_ | (apply Go.Eng.Pin.mk; apply Exists.intro) | apply Go.Eng.Pinned.mk rfl rfl | (apply Go.Eng.PinH.mk; apply Exists.intro; apply Exists.intro) | exact Go.Eng.Fin0.mk | refine Go.Eng.Chk.mk ?_ ?_ | refine Own.l ?_ | fail))
      refine Br.mkN (show ¬ (4096 : Int) < ((((allP ls cs len kerf).take k).filter fun p => maxE ls cs p len kerf).length : Nat) by omega) ?_
      (repeat' ((conv => whnf); first | (refine Giv.mk fun _ => ?_) | (refine Alt.l (Need.mk ?h ?_); case h => omega) | (refine Alt.r (Need.mk ?h ?_); case h => omega) | (refine Need.mk ?h ?_; case h => first | omega | (intro _; rfl) | assumption | (simp <;> omega)) | refine Ix.zero ?_ | refine Ix.one ?_ | refine Ix.two ?_ | refine Ix.nat ?_ | refine Ix.add ?_ | (apply Go.Eng.Pin.mk; apply Exists.intro) | apply Go.Eng.Pinned.mk rfl rfl | (apply Go.Eng.PinH.mk; apply Exists.intro; apply Exists.intro) | exact Go.Eng.Fin0.mk | refine Go.Eng.Chk.mk ?_ ?_ | refine Own.l ?_ | fail))
      (conv => whnf)
      refine ⟨?_, ⟨rfl, h1.symm⟩, trivial⟩
      (conv => whnf)
      unfold allR allM
      rw [if_neg (by rw [h1]; simp), he, List.take_length]
def c13 : Con := mkCon 13 false fun args K => match args with | [.seq (.int .i64) ls, .seq (.int .i64) cs, .val (.int .i64 len), .val (.int .i64 kerf)] => Need (AllOk ls cs len kerf) (K (.tup [LL (allR ls cs len kerf), I (allE ls cs len kerf)])) | _ => False
theorem k13 : ConOK Try.prog c13 := by
  refine conOK_of rfl (enters_of Try.func13 (by kernel_rfl) rfl) ?_
  intro args K h
  simp only [c13] at h
  split at h
  · rename_i ls cs len kerf; exact ⟨_, h.go, tri_of_body (Γ := [c34, c35, c36, c20, c56]) (by simp [k34, k35, k36, k20, k56]) Try.func13 (by simp [Try.ntmps13]) rfl (b13 ls cs len kerf h.ok)⟩
  · exact h.elim
end PB
end
section
set_option linter.unusedVariables false
open Go Go.Proofs Go.Eng Go.Shelf
namespace PB
set_option maxRecDepth 10000
set_option linter.unusedVariables false
def greedy (kerf : Int) : List Int → List Int → Int → List Int
  | [], _, _ => []
  | l :: ls, cs, room => (most kerf l (cs.headD 0) room : Int) :: greedy kerf ls cs.tail (room - (most kerf l (cs.headD 0) room : Int) * (l + kerf))
def RunTo {α : Type} (f : α → Option α) (e : Option α) : List α → Prop
  | [] => True
  | x :: r => (f x = match r with
    | [] => e
    | y :: _ => some y) ∧ RunTo f e r
theorem RunTo.append {α : Type} {f : α → Option α} {e : Option α} {y : α} {ys : List α} (h2 : RunTo f e (y :: ys)) : ∀ {xs : List α}, RunTo f (some y) xs → RunTo f e (xs ++ y :: ys)
  | [], _ => h2
  | [x], h => ⟨h.1, h2⟩
  | x :: z :: r, h => ⟨h.1, RunTo.append h2 (xs := z :: r) h.2⟩
theorem RunTo.map {α : Type} {f g : α → Option α} {c : α → α} {e : Option α} (hs : ∀ q q', f q = some q' → g (c q) = some (c q')) (hn : ∀ q, f q = none → g (c q) = e) : ∀ {xs : List α}, RunTo f none xs → RunTo g e (xs.map c)
  | [], _ => trivial
  | [x], h => ⟨hn x h.1, trivial⟩
  | x :: y :: r, h => ⟨hs x y h.1, RunTo.map hs hn (xs := y :: r) h.2⟩
theorem RunTo.get {α : Type} {d : α} {f : α → Option α} {e : Option α} : ∀ {xs : List α}, RunTo f e xs → ∀ i, i < xs.length → f (xs.getD i d) = if i + 1 < xs.length then some (xs.getD (i + 1) d) else e
  | [x], h, 0, _ => by simpa using h.1
  | x :: y :: r, h, 0, _ => by simpa using h.1
  | x :: y :: r, h, i + 1, hi => by
    have := RunTo.get (d := d) (xs := y :: r) h.2 i (by simpa using hi)
    simpa using this
theorem greedy_len (kerf : Int) : ∀ (ls cs : List Int) (room : Int), (greedy kerf ls cs room).length = ls.length
  | [], _, _ => rfl
  | l :: ls, cs, room => by simp [greedy, greedy_len kerf ls]
def usedK (ls : List Int) (kerf : Int) (p : List Int) (k : Nat) : Int := ((List.range k).map fun i => p.getD i 0 * (ls.getD i 0 + kerf)).sum
theorem usedK_succ (ls : List Int) (kerf : Int) (p : List Int) (k : Nat) : usedK ls kerf p (k + 1) = usedK ls kerf p k + p.getD k 0 * (ls.getD k 0 + kerf) := by
  unfold usedK
  rw [List.range_succ, List.map_append, List.map_singleton, sum_snoc]
theorem usedK_zero (ls : List Int) (kerf : Int) (p : List Int) : usedK ls kerf p 0 = 0 := rfl
theorem usedK_cons (l : Int) (ls : List Int) (kerf : Int) (n : Int) (p : List Int) : ∀ k, usedK (l :: ls) kerf (n :: p) (k + 1) = n * (l + kerf) + usedK ls kerf p k
  | 0 => by rw [usedK_succ, usedK_zero, usedK_zero]; simp
  | k + 1 => by
    rw [usedK_succ, usedK_cons l ls kerf n p k, usedK_succ]
    simp only [List.getD_cons_succ]
    omega
theorem usedK_dot (ls : List Int) (kerf : Int) (p : List Int) : ∀ k, usedK ls kerf p k = dotP ls p k + kerf * sumP p k
  | 0 => by simp [usedK, dotP, sumP]
  | k + 1 => by
    rw [usedK_succ, usedK_dot ls kerf p k, dotP_succ, sumP_succ, Int.mul_add, Int.mul_add, Int.mul_comm (p.getD k 0) kerf]
    omega
theorem dot_le_sum {ls p : List Int} (h : OkP ls p) : ∀ k, k ≤ ls.length → dotP ls p k ≤ 1048576 * sumP p k := by
  intro k
  induction k with
  | zero => intro _; simp [dotP, sumP]
  | succ k ih =>
    intro hk
    have h1 := ih (by omega)
    have h2 := h.pB k (by omega)
    have h3 := h.lB k (by omega)
    have h4 := Int.mul_le_mul_of_nonneg_left h3.2 h2.1
    rw [dotP_succ, sumP_succ]
    omega
theorem fits_iff {ls p : List Int} {len kerf : Int} (h : RestOk ls p len kerf) : 0 ≤ restE ls p len kerf ↔ usedK ls kerf p ls.length ≤ len + kerf := by
  obtain ⟨h0, h1, h2, h3, h4⟩ := h
  have r1 := dotP_range h0 ls.length (Nat.le_refl _)
  have r2 := sumP_range h0 ls.length (Nat.le_refl _)
  have r3 := dot_le_sum h0 ls.length (Nat.le_refl _)
  rw [usedK_dot]
  unfold restE
  generalize dotP ls p ls.length = d at *
  generalize sumP p ls.length = s at *
  by_cases hs : s = 0
  · subst hs
    rw [Int.max_eq_right (by omega), Int.mul_zero]
    omega
  · rw [Int.max_eq_left (by omega), Int.mul_sub, Int.mul_one]
    omega
end PB
end
section
set_option linter.unusedVariables false
open Go Go.Proofs Go.Eng Go.Shelf
namespace PB
set_option maxRecDepth 10000
set_option linter.unusedVariables false
structure GF (ls cs : List Int) (kerf room : Int) (F : List Int) (k : Nat) : Prop where
  len : F.length = ls.length
  kl : k ≤ ls.length
  gr : F.drop k = greedy kerf (ls.drop k) (cs.drop k) (room - usedK ls kerf F k)
theorem drop_getD {xs : List Int} {k : Nat} (h : k < xs.length) : xs.drop k = xs.getD k 0 :: xs.drop (k + 1) := by
  rw [List.drop_eq_getElem_cons h]
  simp [List.getD_eq_getElem?_getD, h]
theorem GF.step {ls cs : List Int} {kerf room : Int} {F : List Int} {k : Nat} (h : GF ls cs kerf room F k) (hc : cs.length = ls.length) (hk : k < ls.length) :
    F.getD k 0 = most kerf (ls.getD k 0) (cs.getD k 0) (room - usedK ls kerf F k) ∧ GF ls cs kerf room F (k + 1) := by
  have h1 := h.gr
  rw [drop_getD (by rw [h.len]; exact hk), drop_getD hk, drop_getD (xs := cs) (by omega)] at h1
  simp only [greedy, List.headD_cons, List.tail_cons, List.cons.injEq] at h1
  refine ⟨h1.1, h.len, hk, ?_⟩
  rw [h1.2, usedK_succ, h1.1]
  congr 1
  omega
theorem GF.zero {ls cs : List Int} {kerf room : Int} : GF ls cs kerf room (greedy kerf ls cs room) 0 := ⟨greedy_len kerf ls cs room, Nat.zero_le _, by simp [usedK_zero]⟩
theorem most_used {kerf l c room : Int} (h : 0 < l + kerf) (hr : 0 ≤ room) (hc : 0 ≤ c) (n : Nat) (hn : n ≤ most kerf l c room) : (n : Int) * (l + kerf) ≤ room := by
  have h1 : 0 ≤ room / (l + kerf) := Int.ediv_nonneg hr (by omega)
  have h2 : (n : Int) ≤ room / (l + kerf) := by unfold most at hn; omega
  have h3 := Int.mul_le_mul_of_nonneg_right h2 (show 0 ≤ l + kerf by omega)
  have h4 := Int.ediv_mul_le room (show l + kerf ≠ 0 by omega)
  omega
theorem pats_used (kerf : Int) : ∀ (ls cs : List Int) (room : Int), cs.length = ls.length → (∀ i, i < ls.length → 0 < ls.getD i 0 + kerf) → (∀ i, i < ls.length → 0 ≤ cs.getD i 0) → 0 ≤ room → ∀ p ∈ pats kerf ls cs room, usedK ls kerf p ls.length ≤ room
  | [], _, _, _, _, _, hr, p, hp => by simp [usedK]; exact hr
  | l :: ls, c :: cs, room, hl, hn, hc, hr, p, hp => by
    simp only [pats, List.headD_cons, List.tail_cons, List.mem_flatMap, List.mem_map] at hp
    obtain ⟨n, hm, q, hq, rfl⟩ := hp
    have hn0 := hn 0 (by simp)
    have hc0 := hc 0 (by simp)
    simp only [List.getD_cons_zero] at hn0 hc0
    have hn' : n < most kerf l c room + 1 := by simpa [down] using hm
    have h1 := most_used hn0 hr hc0 n (by omega)
    have h2 := pats_used kerf ls cs (room - n * (l + kerf)) (by simpa using hl) (fun i hi => by simpa using hn (i + 1) (by simpa using hi)) (fun i hi => by simpa using hc (i + 1) (by simpa using hi)) (by omega) q hq
    rw [List.length_cons, usedK_cons]
    omega
theorem usedK_mono {ls p : List Int} {kerf : Int} (hn : ∀ i, i < ls.length → 0 < ls.getD i 0 + kerf) (hp : ∀ i, i < ls.length → 0 ≤ p.getD i 0) {k m : Nat} (h1 : k ≤ m) (h2 : m ≤ ls.length) : usedK ls kerf p k ≤ usedK ls kerf p m := by
  induction m with
  | zero => have : k = 0 := by omega
            subst this; omega
  | succ m ih =>
    by_cases e : k = m + 1
    · subst e; omega
    · have h3 := ih (by omega) (by omega)
      have h4 := Int.mul_nonneg (hp m (by omega)) (Int.le_of_lt (hn m (by omega)))
      rw [usedK_succ]; omega
end PB
end
section
set_option linter.unusedVariables false
open Go Go.Proofs Go.Eng Go.Shelf
namespace PB
set_option maxRecDepth 10000
set_option linter.unusedVariables false
structure FOk (ls cs p : List Int) (k : Nat) (len kerf : Int) : Prop where
  ok : OkC ls cs kerf
  pl : p.length = ls.length
  kl : k < ls.length
  p0 : p.getD k 0 = 0
  pB : ∀ i, i < ls.length → 0 ≤ p.getD i 0 ∧ p.getD i 0 ≤ cs.getD i 0
  l0 : 0 ≤ len
  l1 : len ≤ 1048576
  room : usedK ls kerf p ls.length ≤ len + kerf
theorem set_get (p : List Int) (k : Nat) (x : Int) (h : k < p.length) (i : Nat) : (p.set k x).getD i 0 = if i = k then x else p.getD i 0 := by
  rw [List.getD_eq_getElem?_getD, List.getElem?_set]
  by_cases e : i = k
  · subst e; simp [h]
  · rw [if_neg (fun h => e h.symm), if_neg e, ← List.getD_eq_getElem?_getD]
theorem usedK_set {ls p : List Int} {kerf x : Int} {k : Nat} (hk : k < p.length) (h0 : p.getD k 0 = 0) : ∀ m, usedK ls kerf (p.set k x) m = usedK ls kerf p m + if k < m then x * (ls.getD k 0 + kerf) else 0
  | 0 => by simp [usedK]
  | m + 1 => by
    rw [usedK_succ, usedK_set hk h0 m, usedK_succ, set_get p k x hk m]
    by_cases e : m = k
    · subst e
      rw [if_neg (by omega), if_pos rfl, if_pos (by omega), h0]
      omega
    · rw [if_neg e]
      by_cases h : k < m
      · rw [if_pos h, if_pos (by omega)]; omega
      · rw [if_neg h, if_neg (by omega), Int.add_zero, Int.add_zero]
theorem FOk.rest {ls cs p : List Int} {k : Nat} {len kerf : Int} (h : FOk ls cs p k len kerf) (j : Nat) (hj : (j : Int) ≤ cs.getD k 0) : RestOk ls (p.set k j) len kerf ∧ (0 ≤ restE ls (p.set k j) len kerf ↔ (j : Int) ≤ (len + kerf - usedK ls kerf p ls.length) / (ls.getD k 0 + kerf)) := by
  have hkp : k < p.length := by rw [h.pl]; exact h.kl
  have hok : RestOk ls (p.set k j) len kerf := by
    refine ⟨⟨by simp [h.pl], h.ok.few, h.ok.lB, fun i hi => ?_⟩, h.l0, h.l1, h.ok.k0, h.ok.k1⟩
    rw [set_get p k j hkp]
    have h1 := h.pB i hi
    have h2 := h.ok.cB i hi
    have h3 := h.ok.cB k h.kl
    split <;> omega
  refine ⟨hok, ?_⟩
  rw [fits_iff hok, usedK_set hkp h.p0, if_pos h.kl]
  have hn : 0 < ls.getD k 0 + kerf := by have := h.ok.lB k h.kl; have := h.ok.k0; omega
  rw [Int.le_ediv_iff_mul_le hn]
  omega
structure NextOk (ls cs p : List Int) (len kerf : Int) : Prop where
  ok : OkC ls cs kerf
  l0 : 0 ≤ len
  l1 : len ≤ 1048576
  mem : p ∈ allP ls cs len kerf
theorem NextOk.pat {ls cs p : List Int} {len kerf : Int} (h : NextOk ls cs p len kerf) : p.length = ls.length ∧ (∀ i, i < ls.length → 0 ≤ p.getD i 0 ∧ p.getD i 0 ≤ cs.getD i 0) ∧ ∀ k, k ≤ ls.length → usedK ls kerf p k ≤ len + kerf := by
  have hk := h.ok.k0
  have hm : p ∈ pats kerf ls cs (len + kerf) := h.mem
  have hn : ∀ i, i < ls.length → 0 < ls.getD i 0 + kerf := fun i hi => by have := h.ok.lB i hi; omega
  obtain ⟨h1, h2⟩ := pats_ok kerf ls cs _ h.ok.len (fun i hi => (h.ok.cB i hi).1) p hm
  have h3 := pats_used kerf ls cs _ h.ok.len hn (fun i hi => (h.ok.cB i hi).1) (by have := h.l0; omega) p hm
  refine ⟨h1, h2, fun k hk => Int.le_trans (usedK_mono hn (fun i hi => (h2 i hi).1) hk (Nat.le_refl _)) h3⟩
end PB
end
section
set_option linter.unusedVariables false
open Go Go.Proofs Go.Eng Go.Shelf
namespace PB
set_option maxRecDepth 100000
set_option linter.unusedVariables false
def c14 : Con := mkCon 14 false fun args K => match args with | [.seq (.int .i64) ls, .seq (.int .i64) cs, .val (.int .i64 len), .val (.int .i64 kerf)] => Need (AllOk ls cs len kerf) (K (.tup [LL (allR ls cs len kerf), I (allE ls cs len kerf)])) | _ => False
end PB
end
section
set_option linter.unusedVariables false
open Go Go.Proofs Go.Eng Go.Shelf
namespace PB
set_option maxRecDepth 10000
set_option linter.unusedVariables false
def subV (v p : List Int) : List Int := (List.range v.length).map fun i => max 0 (v.getD i 0 - p.getD i 0)
theorem subV_len (v p : List Int) : (subV v p).length = v.length := by simp [subV]
theorem subV_get (v p : List Int) (i : Nat) (h : i < v.length) : (subV v p).getD i 0 = max 0 (v.getD i 0 - p.getD i 0) := by
  simp [subV, List.getD_eq_getElem?_getD, h]
structure Vec (cs v : List Int) : Prop where
  len : v.length = cs.length
  b : ∀ i, i < cs.length → 0 ≤ v.getD i 0 ∧ v.getD i 0 ≤ cs.getD i 0
theorem Vec.sub {cs v : List Int} (h : Vec cs v) {p : List Int} (hp : ∀ i, i < cs.length → 0 ≤ p.getD i 0) : Vec cs (subV v p) := by
  refine ⟨by rw [subV_len, h.len], fun i hi => ?_⟩
  rw [subV_get v p i (by rw [h.len]; exact hi)]
  have := h.b i hi
  have := hp i hi
  omega
def prodS (cs : List Int) : Nat → Int
  | 0 => 1
  | k + 1 => prodS cs k * (cs.getD k 0 + 1)
theorem prodS_pos {cs : List Int} (h : ∀ i, i < cs.length → 0 ≤ cs.getD i 0) : ∀ k, k ≤ cs.length → 1 ≤ prodS cs k
  | 0, _ => Int.le_refl _
  | k + 1, hk => by
    have h1 := prodS_pos h k (by omega)
    have h2 := h k (by omega)
    have h3 := Int.mul_le_mul h1 (show (1 : Int) ≤ cs.getD k 0 + 1 by omega) (by omega) (by omega)
    simp only [prodS]; omega
def loE (cs v : List Int) : Nat → Int
  | 0 => 0
  | k + 1 => loE cs v k + v.getD k 0 * prodS cs k
theorem loE_rng {cs v : List Int} (hc : ∀ i, i < cs.length → 0 ≤ cs.getD i 0) (h : Vec cs v) : ∀ k, k ≤ cs.length → 0 ≤ loE cs v k ∧ loE cs v k < prodS cs k
  | 0, _ => by simp [loE, prodS]
  | k + 1, hk => by
    obtain ⟨h1, h2⟩ := loE_rng hc h k (by omega)
    have h3 := h.b k (by omega)
    have h4 := prodS_pos hc k (by omega)
    have h5 := Int.mul_nonneg h3.1 (show 0 ≤ prodS cs k by omega)
    have h6 := Int.mul_le_mul_of_nonneg_right h3.2 (show 0 ≤ prodS cs k by omega)
    simp only [loE, prodS]
    rw [Int.mul_add, Int.mul_one, Int.mul_comm (prodS cs k)]
    omega
theorem loE_tail {cs v : List Int} (hc : ∀ i, i < cs.length → 0 ≤ cs.getD i 0) (h : Vec cs v) (i : Nat) : ∀ k, i ≤ k → k ≤ cs.length → ∃ q, 0 ≤ q ∧ loE cs v k = loE cs v i + prodS cs i * q ∧ ∃ q2, 0 ≤ q2 ∧ prodS cs k = prodS cs i * q2
  | 0, hi, _ => by
    have : i = 0 := by omega
    subst this
    exact ⟨0, Int.le_refl _, by simp, 1, by omega, by simp⟩
  | k + 1, hi, hk => by
    by_cases e : i = k + 1
    · subst e
      exact ⟨0, Int.le_refl _, by simp, 1, by omega, by simp⟩
    · obtain ⟨q, h1, h2, q2, h3, h4⟩ := loE_tail hc h i k (by omega) (by omega)
      have h5 := h.b k (by omega)
      have h6 := hc k (by omega)
      refine ⟨q + v.getD k 0 * q2, by have := Int.mul_nonneg h5.1 h3; omega, ?_, q2 * (cs.getD k 0 + 1), Int.mul_nonneg h3 (by omega), ?_⟩
      · simp only [loE]
        rw [h2, h4, Int.mul_add, ← Int.add_assoc]
        congr 1
        rw [← Int.mul_assoc, ← Int.mul_assoc, Int.mul_comm (v.getD k 0)]
      · simp only [prodS]
        rw [h4, Int.mul_assoc]
theorem loE_digit {cs v : List Int} (hc : ∀ i, i < cs.length → 0 ≤ cs.getD i 0) (h : Vec cs v) (i : Nat) (hi : i < cs.length) : loE cs v cs.length / prodS cs i % (cs.getD i 0 + 1) = v.getD i 0 := by
  obtain ⟨q, h1, h2, _⟩ := loE_tail hc h (i + 1) cs.length (by omega) (Nat.le_refl _)
  have h3 := loE_rng hc h i (by omega)
  have h4 := h.b i hi
  have h5 := prodS_pos hc i (by omega)
  have e : loE cs v cs.length = loE cs v i + prodS cs i * (v.getD i 0 + (cs.getD i 0 + 1) * q) := by
    rw [h2]
    simp only [loE, prodS]
    rw [Int.mul_add (prodS cs i) (v.getD i 0), Int.mul_comm (prodS cs i) (v.getD i 0), ← Int.mul_assoc (prodS cs i), ← Int.add_assoc]
  rw [e, Int.add_mul_ediv_left _ _ (by omega), Int.ediv_eq_zero_of_lt h3.1 h3.2, Int.zero_add, Int.add_mul_emod_self_left, Int.emod_eq_of_lt h4.1 (by omega)]
structure Enc (cs : List Int) (E : List Int → Int) (n : Int) : Prop where
  rng : ∀ v, Vec cs v → 0 ≤ E v ∧ E v < n
  inj : ∀ v w, Vec cs v → Vec cs w → E v = E w → v = w
  surj : ∀ t, 0 ≤ t → t < n → ∃ v, Vec cs v ∧ E v = t
  mono : ∀ v w, Vec cs v → Vec cs w → (∀ i, i < cs.length → w.getD i 0 ≤ v.getD i 0) → E w ≤ E v
  full : E cs = n - 1
  zero : ∀ v, Vec cs v → (E v = 0 ↔ ∀ i, i < cs.length → v.getD i 0 = 0)
theorem ediv_emod_mul (t a b : Int) (ha : 0 < a) (hb : 0 < b) (ht : 0 ≤ t) : t % (a * b) = t % a + t / a % b * a := by
  have h1 := Int.emod_add_mul_ediv t a
  have h2 := Int.emod_add_mul_ediv (t / a) b
  have h3 := Int.emod_nonneg t (show a ≠ 0 by omega)
  have h4 := Int.emod_lt_of_pos t ha
  have h5 := Int.emod_nonneg (t / a) (show b ≠ 0 by omega)
  have h6 := Int.emod_lt_of_pos (t / a) hb
  have e : t = (t % a + t / a % b * a) + a * b * (t / a / b) := by
    have : a * (t / a) = a * (t / a % b) + a * b * (t / a / b) := by
      conv => lhs; rw [← h2]
      rw [Int.mul_add, Int.mul_assoc]
    rw [Int.mul_comm (t / a % b)]
    omega
  conv => lhs; rw [e]
  rw [Int.add_mul_emod_self_left, Int.emod_eq_of_lt]
  · have := Int.mul_nonneg h5 (show 0 ≤ a by omega); omega
  · have h7 := Int.mul_le_mul_of_nonneg_right (show t / a % b ≤ b - 1 by omega) (show 0 ≤ a by omega)
    rw [Int.sub_mul, Int.one_mul, Int.mul_comm b] at h7
    omega
theorem vec_self {cs : List Int} (hc : ∀ i, i < cs.length → 0 ≤ cs.getD i 0) : Vec cs cs := ⟨rfl, fun i hi => ⟨hc i hi, Int.le_refl _⟩⟩
theorem enc_lo {cs : List Int} (hc : ∀ i, i < cs.length → 0 ≤ cs.getD i 0) : Enc cs (fun v => loE cs v cs.length) (prodS cs cs.length) := by
  refine ⟨fun v h => loE_rng hc h _ (Nat.le_refl _), fun v w hv hw e => ?_, fun t h0 ht => ?_, fun v w hv hw hle => ?_, ?_, fun v hv => ⟨fun h i hi => ?_, fun h => ?_⟩⟩
  · refine getD_ext (d := 0) (by rw [hv.len, hw.len]) fun i hi => ?_
    rw [hv.len] at hi
    rw [← loE_digit hc hv i hi, ← loE_digit hc hw i hi]
    show loE cs v cs.length / _ % _ = loE cs w cs.length / _ % _
    rw [show loE cs v cs.length = loE cs w cs.length from e]
  · obtain ⟨v, hv⟩ : ∃ v : List Int, v = (List.range cs.length).map fun i => t / prodS cs i % (cs.getD i 0 + 1) := ⟨_, rfl⟩
    have hg : ∀ i, i < cs.length → v.getD i 0 = t / prodS cs i % (cs.getD i 0 + 1) := fun i hi => by subst hv; simp [List.getD_eq_getElem?_getD, hi]
    have hV : Vec cs v := ⟨by subst hv; simp, fun i hi => by
      rw [hg i hi]
      have h1 := hc i hi
      have h2 := Int.emod_nonneg (t / prodS cs i) (show cs.getD i 0 + 1 ≠ 0 by omega)
      have h3 := Int.emod_lt_of_pos (t / prodS cs i) (show 0 < cs.getD i 0 + 1 by omega)
      omega⟩
    refine ⟨v, hV, ?_⟩
    have key : ∀ k, k ≤ cs.length → loE cs v k = t % prodS cs k := by
      intro k
      induction k with
      | zero => intro _; simp [loE, prodS, Int.emod_one]
      | succ k ih =>
        intro hk
        have h1 := prodS_pos hc k (by omega)
        have h2 := hc k (by omega)
        simp only [loE, prodS]
        rw [ih (by omega), hg k (by omega), ediv_emod_mul t _ _ (by omega) (by omega) h0]
    show loE cs v cs.length = t
    rw [key _ (Nat.le_refl _), Int.emod_eq_of_lt h0 ht]
  · have key : ∀ k, k ≤ cs.length → loE cs w k ≤ loE cs v k := by
      intro k
      induction k with
      | zero => intro _; exact Int.le_refl _
      | succ k ih =>
        intro hk
        have h1 := ih (by omega)
        have h2 := prodS_pos hc k (by omega)
        have h3 := Int.mul_le_mul_of_nonneg_right (hle k (by omega)) (show 0 ≤ prodS cs k by omega)
        simp only [loE]; omega
    exact key _ (Nat.le_refl _)
  · have key : ∀ k, k ≤ cs.length → loE cs cs k = prodS cs k - 1 := by
      intro k
      induction k with
      | zero => intro _; simp [loE, prodS]
      | succ k ih =>
        intro hk
        simp only [loE, prodS]
        rw [ih (by omega), Int.mul_add, Int.mul_one, Int.mul_comm (prodS cs k)]
        omega
    exact key _ (Nat.le_refl _)
  · have h1 := loE_digit hc hv i hi
    rw [show loE cs v cs.length = 0 from h] at h1
    rw [← h1, Int.zero_ediv, Int.zero_emod]
  · have key : ∀ k, k ≤ cs.length → loE cs v k = 0 := by
      intro k
      induction k with
      | zero => intro _; rfl
      | succ k ih =>
        intro hk
        simp only [loE]
        rw [ih (by omega), h k (by omega)]; simp
    exact key _ (Nat.le_refl _)
theorem Enc.sub_lt {cs : List Int} {E : List Int → Int} {n : Int} (he : Enc cs E n) {v p : List Int} (hv : Vec cs v) (hp : ∀ i, i < cs.length → 0 ≤ p.getD i 0) : E (subV v p) < E v ↔ subV v p ≠ v := by
  have hs := hv.sub hp
  have hle := he.mono v (subV v p) hv hs fun i hi => by
    rw [subV_get v p i (by rw [hv.len]; exact hi)]
    have := hv.b i hi
    have := hp i hi
    omega
  refine ⟨fun h e => by rw [e] at h; omega, fun h => ?_⟩
  have : E (subV v p) ≠ E v := fun e => h (he.inj _ _ hs hv e)
  omega
end PB
end
section
set_option linter.unusedVariables false
open Go Go.Proofs Go.Eng Go.Shelf
namespace PB
set_option maxRecDepth 10000
set_option linter.unusedVariables false
theorem usedK_nonneg {ls p : List Int} {kerf : Int} (hn : ∀ i, i < ls.length → 0 < ls.getD i 0 + kerf) (hp : ∀ i, i < ls.length → 0 ≤ p.getD i 0) : 0 ≤ usedK ls kerf p ls.length := by
  have := usedK_mono hn hp (Nat.zero_le ls.length) (Nat.le_refl _)
  rwa [usedK_zero] at this
theorem pats_complete (kerf : Int) : ∀ (ls cs : List Int) (room : Int) (q : List Int), cs.length = ls.length → q.length = ls.length → (∀ i, i < ls.length → 0 < ls.getD i 0 + kerf) → (∀ i, i < ls.length → 0 ≤ q.getD i 0 ∧ q.getD i 0 ≤ cs.getD i 0) →
    usedK ls kerf q ls.length ≤ room → q ∈ pats kerf ls cs room
  | [], _, _, [], _, _, _, _, _ => by simp [pats]
  | l :: ls, c :: cs, room, n :: q, hc, hq, hn, hb, hu => by
    rw [List.length_cons, usedK_cons] at hu
    have hn' : ∀ i, i < ls.length → 0 < ls.getD i 0 + kerf := fun i hi => by simpa using hn (i + 1) (by simpa using hi)
    have hb' : ∀ i, i < ls.length → 0 ≤ q.getD i 0 ∧ q.getD i 0 ≤ cs.getD i 0 := fun i hi => by simpa using hb (i + 1) (by simpa using hi)
    have h0 := hb 0 (by simp)
    have h1 := hn 0 (by simp)
    simp only [List.getD_cons_zero] at h0 h1
    have h2 := usedK_nonneg hn' fun i hi => (hb' i hi).1
    obtain ⟨m, rfl⟩ := Int.eq_ofNat_of_zero_le h0.1
    simp only [pats, List.headD_cons, List.tail_cons, List.mem_flatMap, List.mem_map]
    refine ⟨m, ?_, q, pats_complete kerf ls cs _ q (by simpa using hc) (by simpa using hq) hn' hb' (by omega), rfl⟩
    have h3 : (m : Int) ≤ room / (l + kerf) := by rw [Int.le_ediv_iff_mul_le h1]; omega
    have h4 : m ≤ most kerf l c room := by unfold most; omega
    simp [down]; omega
theorem allM_mem {ls cs : List Int} {len kerf : Int} (hok : OkC ls cs kerf ∧ 0 ≤ len ∧ len ≤ 1048576) {p : List Int} : p ∈ allM ls cs len kerf ↔ p ∈ allP ls cs len kerf ∧ maxE ls cs p len kerf = true := by
  unfold allM; rw [List.mem_filter]
theorem maxE_false {ls cs p : List Int} {len kerf : Int} (h : maxE ls cs p len kerf = false) : ∃ i, i < p.length ∧ maxAt ls cs p len kerf i := by
  unfold maxE at h
  rw [List.all_eq_false] at h
  obtain ⟨i, hi, h1⟩ := h
  exact ⟨i, by simpa using hi, by simpa using h1⟩
structure Fit (ls cs q : List Int) (len kerf : Int) : Prop where
  ok : OkC ls cs kerf
  l0 : 0 ≤ len
  l1 : len ≤ 1048576
  ql : q.length = ls.length
  qB : ∀ i, i < ls.length → 0 ≤ q.getD i 0 ∧ q.getD i 0 ≤ cs.getD i 0
  room : usedK ls kerf q ls.length ≤ len + kerf
theorem Fit.mem {ls cs q : List Int} {len kerf : Int} (h : Fit ls cs q len kerf) : q ∈ allP ls cs len kerf :=
  pats_complete kerf ls cs (len + kerf) q h.ok.len h.ql (fun i hi => by have := h.ok.lB i hi; have := h.ok.k0; omega) h.qB h.room
theorem Fit.max {ls cs q : List Int} {len kerf : Int} (h : Fit ls cs q len kerf) : MaxOk ls cs q len kerf := ⟨h.ok, h.ql, h.qB, h.l0, h.l1⟩
theorem Fit.more {ls cs q : List Int} {len kerf : Int} (h : Fit ls cs q len kerf) {i : Nat} (hi : i < q.length) (hm : maxAt ls cs q len kerf i) : Fit ls cs (moreP q i) len kerf := by
  have hr := moreP_rest h.max i hi
  refine ⟨h.ok, h.l0, h.l1, by rw [moreP_len]; exact h.ql, fun j hj => ?_, (fits_iff hr).1 hm.2⟩
  rw [moreP_get q i j hi]
  have h1 := h.qB j hj
  have h2 := hm.1
  have h3 := h.qB i (by have := h.ql; omega)
  split
  · rename_i e; subst e; omega
  · exact h1
theorem mem_fit {ls cs q : List Int} {len kerf : Int} (hok : OkC ls cs kerf ∧ 0 ≤ len ∧ len ≤ 1048576) (h : q ∈ allP ls cs len kerf) : Fit ls cs q len kerf := by
  obtain ⟨h1, h2, h3⟩ := NextOk.pat ⟨hok.1, hok.2.1, hok.2.2, h⟩
  exact ⟨hok.1, hok.2.1, hok.2.2, h1, h2, h3 _ (Nat.le_refl _)⟩
theorem fit_below {ls cs : List Int} {len kerf : Int} : ∀ (m : Nat) (q : List Int), Fit ls cs q len kerf → (∀ i, i < ls.length → sumP cs ls.length - sumP q ls.length ≤ m) → ∃ p, p ∈ allM ls cs len kerf ∧ ∀ i, i < ls.length → q.getD i 0 ≤ p.getD i 0
  | m, q, h, hm => by
    cases hx : maxE ls cs q len kerf with
    | true => exact ⟨q, (allM_mem ⟨h.ok, h.l0, h.l1⟩).2 ⟨h.mem, hx⟩, fun i _ => Int.le_refl _⟩
    | false =>
      obtain ⟨i, hi, hat⟩ := maxE_false hx
      have hi' : i < ls.length := by have := h.ql; omega
      have hf := h.more hi hat
      have hle : ∀ k, k ≤ ls.length → sumP (moreP q i) k = sumP q k + if i < k then 1 else 0 := by
        intro k
        induction k with
        | zero => intro _; simp [sumP]
        | succ k ih =>
          intro hk
          rw [sumP_succ, sumP_succ, ih (by omega), moreP_get q i k hi]
          by_cases e : k = i
          · subst e; rw [if_neg (by omega), if_pos rfl, if_pos (by omega)]; omega
          · rw [if_neg e]
            by_cases e2 : i < k
            · rw [if_pos e2, if_pos (by omega)]; omega
            · rw [if_neg e2, if_neg (by omega)]; omega
      have hcq : ∀ k, k ≤ ls.length → sumP (moreP q i) k ≤ sumP cs k := by
        intro k
        induction k with
        | zero => intro _; simp [sumP]
        | succ k ih =>
          intro hk
          have h1 := ih (by omega)
          have h2 := (hf.qB k (by omega)).2
          rw [sumP_succ, sumP_succ]; omega
      have h1 := hle ls.length (Nat.le_refl _)
      rw [if_pos hi'] at h1
      have h2 := hcq ls.length (Nat.le_refl _)
      have h3 := hm i hi'
      cases m with
      | zero => omega
      | succ m =>
        obtain ⟨p, q1, q2⟩ := fit_below m (moreP q i) hf fun j hj => by omega
        refine ⟨p, q1, fun j hj => ?_⟩
        have h4 := q2 j hj
        rw [moreP_get q i j hi] at h4
        split at h4
        · rename_i e; subst e; omega
        · exact h4
theorem fit_under {ls cs q : List Int} {len kerf : Int} (h : Fit ls cs q len kerf) : ∃ p, p ∈ allM ls cs len kerf ∧ ∀ i, i < ls.length → q.getD i 0 ≤ p.getD i 0 :=
  fit_below (sumP cs ls.length - sumP q ls.length).toNat q h fun i _ => by omega
def allZ (v : List Int) : Bool := v.all fun x => decide (x = 0)
theorem allZ_iff (v : List Int) : allZ v = true ↔ ∀ i, i < v.length → v.getD i 0 = 0 := by
  unfold allZ
  rw [List.all_eq_true]
  constructor
  · intro h i hi
    have := h _ (List.getElem_mem hi)
    simpa [List.getD_eq_getElem?_getD, hi] using this
  · intro h x hx
    obtain ⟨i, hi, rfl⟩ := List.getElem_of_mem hx
    have := h i hi
    simpa [List.getD_eq_getElem?_getD, hi] using this
def stepB (B : List Int → Int) (v : List Int) (acc : Int) (p : List Int) : Int := if subV v p ≠ v ∧ (acc < 0 ∨ B (subV v p) + 1 < acc) then B (subV v p) + 1 else acc
def Bf (all : List (List Int)) : Nat → List Int → Int
  | 0, _ => 0
  | k + 1, v => if allZ v then 0 else all.foldl (stepB (Bf all k) v) (-1)
def wgt (v : List Int) : Nat := (sumP v v.length).toNat
def barsB (all : List (List Int)) (v : List Int) : Int := Bf all (wgt v) v
def Nneg (v : List Int) : Prop := ∀ i, i < v.length → 0 ≤ v.getD i 0
theorem sumP_nonneg {v : List Int} (h : Nneg v) : ∀ k, k ≤ v.length → 0 ≤ sumP v k
  | 0, _ => by simp [sumP]
  | k + 1, hk => by rw [sumP_succ]; have := sumP_nonneg h k (by omega); have := h k (by omega); omega
theorem subV_nneg (v p : List Int) : Nneg (subV v p) := fun i hi => by
  rw [subV_len] at hi
  rw [subV_get v p i hi]; omega
def PosP (all : List (List Int)) (n : Nat) : Prop := ∀ p ∈ all, ∀ i, i < n → 0 ≤ p.getD i 0
theorem subV_le {v p : List Int} (hv : Nneg v) (hp : ∀ i, i < v.length → 0 ≤ p.getD i 0) (i : Nat) (hi : i < v.length) : (subV v p).getD i 0 ≤ v.getD i 0 := by
  rw [subV_get v p i hi]
  have := hv i hi; have := hp i hi; omega
theorem sumP_le {v w : List Int} (h : ∀ i, i < v.length → w.getD i 0 ≤ v.getD i 0) : ∀ k, k ≤ v.length → sumP w k ≤ sumP v k
  | 0, _ => by simp [sumP]
  | k + 1, hk => by rw [sumP_succ, sumP_succ]; have := sumP_le h k (by omega); have := h k (by omega); omega
theorem sumP_eq {v w : List Int} (hl : w.length = v.length) (h : ∀ i, i < v.length → w.getD i 0 ≤ v.getD i 0) : ∀ k, k ≤ v.length → sumP w k = sumP v k → ∀ i, i < k → w.getD i 0 = v.getD i 0
  | 0, _, _, i, hi => by omega
  | k + 1, hk, e, i, hi => by
    rw [sumP_succ, sumP_succ] at e
    have h1 := sumP_le h k (by omega)
    have h2 := h k (by omega)
    by_cases e2 : i = k
    · subst e2; omega
    · exact sumP_eq hl h k (by omega) (by omega) i (by omega)
theorem wgt_sub {v p : List Int} (hv : Nneg v) (hp : ∀ i, i < v.length → 0 ≤ p.getD i 0) (hne : subV v p ≠ v) : wgt (subV v p) < wgt v := by
  have h1 := sumP_nonneg (subV_nneg v p) _ (Nat.le_refl _)
  have h2 := sumP_nonneg hv _ (Nat.le_refl _)
  have h3 := sumP_le (w := subV v p) (fun i hi => subV_le hv hp i hi) v.length (Nat.le_refl _)
  unfold wgt
  rw [subV_len] at h1 ⊢
  have h4 : sumP (subV v p) v.length ≠ sumP v v.length := fun e => hne (by
    refine getD_ext (d := 0) (subV_len v p) fun i hi => ?_
    rw [subV_len] at hi
    exact sumP_eq (subV_len v p) (fun i hi => subV_le hv hp i hi) _ (Nat.le_refl _) e i hi)
  omega
theorem foldl_stepB {B B' : List Int → Int} {v : List Int} : ∀ (l : List (List Int)) (acc : Int), (∀ p ∈ l, subV v p ≠ v → B (subV v p) = B' (subV v p)) → l.foldl (stepB B v) acc = l.foldl (stepB B' v) acc
  | [], _, _ => rfl
  | p :: r, acc, h => by
    simp only [List.foldl_cons]
    have e : stepB B v acc p = stepB B' v acc p := by
      unfold stepB
      by_cases hs : subV v p ≠ v
      · rw [h p List.mem_cons_self hs]
      · rw [if_neg (fun h => hs h.1), if_neg (fun h => hs h.1)]
    rw [e]
    exact foldl_stepB r _ fun q hq => h q (List.mem_cons_of_mem _ hq)
theorem Bf_stable {all : List (List Int)} {n : Nat} (hall : PosP all n) : ∀ (k k' : Nat) (v : List Int), v.length = n → Nneg v → wgt v ≤ k → wgt v ≤ k' → Bf all k v = Bf all k' v
  | 0, 0, _, _, _, _, _ => rfl
  | 0, k' + 1, v, hl, hv, h1, _ => by
    have hz : allZ v = true := (allZ_iff v).2 fun i hi => by
      have h2 : sumP v v.length ≤ 0 := by unfold wgt at h1; omega
      have h3 := sumP_eq (v := v) (w := List.replicate v.length 0) (by simp) (fun i hi => by have := hv i hi; simp [List.getD_eq_getElem?_getD, hi] at this ⊢; exact this) v.length (Nat.le_refl _) (by
        have h4 : ∀ k, k ≤ v.length → sumP (List.replicate v.length 0) k = 0 := by
          intro k
          induction k with
          | zero => intro _; rfl
          | succ k ih => intro hk; rw [sumP_succ, ih (by omega)]; simp [List.getD_eq_getElem?_getD, show k < v.length by omega]
        have h5 := sumP_nonneg hv _ (Nat.le_refl _)
        rw [h4 _ (Nat.le_refl _)]; omega) i hi
      rw [← h3]; simp [List.getD_eq_getElem?_getD, hi]
    simp only [Bf]
    rw [if_pos hz]
  | k + 1, 0, v, hl, hv, h1, h2 => (Bf_stable hall 0 (k + 1) v hl hv h2 h1).symm
  | k + 1, k' + 1, v, hl, hv, h1, h2 => by
    simp only [Bf]
    by_cases hz : allZ v = true
    · rw [if_pos hz, if_pos hz]
    · rw [if_neg hz, if_neg hz]
      refine foldl_stepB all _ fun p hp hne => ?_
      have hw := wgt_sub hv (fun i hi => hall p hp i (by omega)) hne
      exact Bf_stable hall k k' _ (by rw [subV_len, hl]) (subV_nneg v p) (by omega) (by omega)
theorem barsB_eq {all : List (List Int)} {n : Nat} (hall : PosP all n) {v : List Int} (hl : v.length = n) (hv : Nneg v) : barsB all v = if allZ v then 0 else all.foldl (stepB (barsB all) v) (-1) := by
  by_cases hz : allZ v = true
  · rw [if_pos hz]
    unfold barsB
    cases wgt v with
    | zero => rfl
    | succ k => simp only [Bf]; rw [if_pos hz]
  · rw [if_neg hz]
    have : barsB all v = Bf all (wgt v + 1) v := Bf_stable hall _ _ v hl hv (Nat.le_refl _) (by omega)
    rw [this]
    simp only [Bf]
    rw [if_neg hz]
    refine foldl_stepB all _ fun p hp hne => ?_
    have hw := wgt_sub hv (fun i hi => hall p hp i (by omega)) hne
    exact Bf_stable hall _ _ _ (by rw [subV_len, hl]) (subV_nneg v p) (by omega) (Nat.le_refl _)
end PB
end
section
set_option linter.unusedVariables false
open Go Go.Proofs Go.Eng Go.Shelf
namespace PB
set_option maxRecDepth 10000
set_option linter.unusedVariables false
def accB (all : List (List Int)) (v : List Int) (j : Nat) : Int := (all.take j).foldl (stepB (barsB all) v) (-1)
theorem accB_succ (all : List (List Int)) (v : List Int) (j : Nat) (h : j < all.length) : accB all v (j + 1) = stepB (barsB all) v (accB all v j) (all.getD j []) := by
  unfold accB
  rw [List.take_succ_eq_append_getElem h, List.foldl_append]
  have e : all[j] = all.getD j [] := by simp [List.getD_eq_getElem?_getD, h]
  rw [e]; rfl
theorem acc_inv {all : List (List Int)} {v : List Int} (hB : ∀ j, j < all.length → subV v (all.getD j []) ≠ v → 0 ≤ barsB all (subV v (all.getD j []))) : ∀ j, j ≤ all.length →
    (accB all v j = -1 ∧ ∀ i, i < j → subV v (all.getD i []) = v) ∨
    (1 ≤ accB all v j ∧ (∃ i, i < j ∧ subV v (all.getD i []) ≠ v ∧ barsB all (subV v (all.getD i [])) + 1 = accB all v j) ∧ ∀ i, i < j → subV v (all.getD i []) ≠ v → accB all v j ≤ barsB all (subV v (all.getD i [])) + 1)
  | 0, _ => .inl ⟨rfl, fun i hi => by omega⟩
  | j + 1, hj => by
    have ih := acc_inv hB j (by omega)
    rw [accB_succ all v j hj]
    unfold stepB
    by_cases hs : subV v (all.getD j []) ≠ v
    · have h0 := hB j hj hs
      by_cases hc : accB all v j < 0 ∨ barsB all (subV v (all.getD j [])) + 1 < accB all v j
      · rw [if_pos ⟨hs, hc⟩]
        right
        refine ⟨by omega, ⟨j, by omega, hs, rfl⟩, fun i hi hne => ?_⟩
        by_cases e : i = j
        · subst e; omega
        · rcases ih with ⟨h1, h2⟩ | ⟨h1, _, h3⟩
          · exact (hne (h2 i (by omega))).elim
          · have := h3 i (by omega) hne; omega
      · rw [if_neg fun h => hc h.2]
        rcases ih with ⟨h1, h2⟩ | ⟨h1, ⟨i, h2, h3, h4⟩, h5⟩
        · omega
        · right
          refine ⟨h1, ⟨i, by omega, h3, h4⟩, fun i hi hne => ?_⟩
          by_cases e : i = j
          · subst e; omega
          · exact h5 i (by omega) hne
    · rw [if_neg fun h => hs h.1]
      have hs : subV v (all.getD j []) = v := Classical.not_not.1 hs
      rcases ih with ⟨h1, h2⟩ | ⟨h1, ⟨i, h2, h3, h4⟩, h5⟩
      · left
        refine ⟨h1, fun i hi => ?_⟩
        by_cases e : i = j
        · subst e; exact hs
        · exact h2 i (by omega)
      · right
        refine ⟨h1, ⟨i, by omega, h3, h4⟩, fun i hi hne => ?_⟩
        by_cases e : i = j
        · subst e; exact (hne hs).elim
        · exact h5 i (by omega) hne
structure Cov (cs : List Int) (all : List (List Int)) : Prop where
  cB : ∀ i, i < cs.length → 0 ≤ cs.getD i 0
  pos : ∀ j, j < all.length → (all.getD j []).length = cs.length ∧ ∀ i, i < cs.length → 0 ≤ (all.getD j []).getD i 0
  cov : ∀ v, Vec cs v → allZ v = false → ∃ j, j < all.length ∧ subV v (all.getD j []) ≠ v
theorem Cov.posP {cs : List Int} {all : List (List Int)} (h : Cov cs all) : PosP all cs.length := fun p hp i hi => by
  obtain ⟨j, hj, rfl⟩ := List.getElem_of_mem hp
  have := (h.pos j hj).2 i hi
  have e : all.getD j [] = all[j] := by simp [List.getD_eq_getElem?_getD, hj]
  rwa [e] at this
theorem Vec.nneg {cs v : List Int} (h : Vec cs v) : Nneg v := fun i hi => (h.b i (by rw [← h.len]; exact hi)).1
theorem barsB_all {cs : List Int} {all : List (List Int)} (h : Cov cs all) {v : List Int} (hv : Vec cs v) (hz : allZ v = false) : barsB all v = accB all v all.length := by
  rw [barsB_eq h.posP hv.len hv.nneg, if_neg (by rw [hz]; simp)]
  unfold accB
  rw [List.take_length]
theorem barsB_zero {cs : List Int} {all : List (List Int)} (h : Cov cs all) {v : List Int} (hv : Vec cs v) (hz : allZ v = true) : barsB all v = 0 := by
  rw [barsB_eq h.posP hv.len hv.nneg, if_pos hz]
theorem barsB_spec {cs : List Int} {all : List (List Int)} (h : Cov cs all) : ∀ (m : Nat) (v : List Int), wgt v ≤ m → Vec cs v → 0 ≤ barsB all v ∧ (allZ v = false → 1 ≤ barsB all v ∧
    (∃ i, i < all.length ∧ subV v (all.getD i []) ≠ v ∧ barsB all (subV v (all.getD i [])) + 1 = barsB all v) ∧ ∀ i, i < all.length → subV v (all.getD i []) ≠ v → barsB all v ≤ barsB all (subV v (all.getD i [])) + 1)
  | m, v, hm, hv => by
    cases hz : allZ v with
    | true => exact ⟨by rw [barsB_zero h hv hz]; exact Int.le_refl _, fun h => by cases h⟩
    | false =>
      have hB : ∀ j, j < all.length → subV v (all.getD j []) ≠ v → 0 ≤ barsB all (subV v (all.getD j [])) := fun j hj hne => by
        have hp := fun i hi => (h.pos j hj).2 i hi
        have hw := wgt_sub hv.nneg (fun i hi => hp i (by rw [← hv.len]; exact hi)) hne
        cases m with
        | zero => omega
        | succ m => exact (barsB_spec h m _ (by omega) (hv.sub hp)).1
      rw [barsB_all h hv hz]
      rcases acc_inv hB all.length (Nat.le_refl _) with ⟨_, h2⟩ | ⟨h1, h2, h3⟩
      · obtain ⟨j, hj, hne⟩ := h.cov v hv hz
        exact (hne (h2 j hj)).elim
      · exact ⟨by omega, fun _ => ⟨h1, h2, h3⟩⟩
def goodI (all : List (List Int)) (v p : List Int) : Bool := decide (subV v p ≠ v ∧ barsB all (subV v p) + 1 = barsB all v)
def firstI (all : List (List Int)) (v : List Int) : Nat := all.findIdx (goodI all v)
def pathF (all : List (List Int)) : Nat → List Int → List Int
  | 0, _ => []
  | k + 1, v => if allZ v then [] else (firstI all v : Int) :: pathF all k (subV v (all.getD (firstI all v) []))
def pathB (all : List (List Int)) (v : List Int) : List Int := pathF all (wgt v) v
theorem firstI_spec {cs : List Int} {all : List (List Int)} (h : Cov cs all) {v : List Int} (hv : Vec cs v) (hz : allZ v = false) : firstI all v < all.length ∧ goodI all v (all.getD (firstI all v) []) = true ∧ ∀ j, j < firstI all v → goodI all v (all.getD j []) = false := by
  obtain ⟨_, ⟨i, h1, h2, h3⟩, _⟩ := (barsB_spec h _ v (Nat.le_refl _) hv).2 hz
  have hlt : firstI all v < all.length := by
    unfold firstI
    rw [List.findIdx_lt_length]
    refine ⟨all.getD i [], ?_, by unfold goodI; exact decide_eq_true ⟨h2, h3⟩⟩
    have e : all.getD i [] = all[i] := by simp [List.getD_eq_getElem?_getD, h1]
    rw [e]; exact List.getElem_mem h1
  refine ⟨hlt, ?_, fun j hj => ?_⟩
  · have e : all.getD (firstI all v) [] = all[firstI all v] := by simp [List.getD_eq_getElem?_getD, hlt]
    rw [e]
    exact List.findIdx_getElem (w := hlt)
  · have hj' : j < all.length := by omega
    have e : all.getD j [] = all[j] := by simp [List.getD_eq_getElem?_getD, hj']
    rw [e]
    have := List.not_of_lt_findIdx hj
    simpa using this
theorem firstI_eq {all : List (List Int)} {v : List Int} {i : Nat} (hi : i < all.length) (h1 : goodI all v (all.getD i []) = true) (h2 : ∀ j, j < i → goodI all v (all.getD j []) = false) : firstI all v = i := by
  have e : all.getD i [] = all[i] := by simp [List.getD_eq_getElem?_getD, hi]
  unfold firstI
  rw [List.findIdx_eq hi]
  refine ⟨by rw [← e]; exact h1, fun j hj => ?_⟩
  have hj' : j < all.length := by omega
  have := h2 j hj
  have e : all.getD j [] = all[j] := by simp [List.getD_eq_getElem?_getD, hj']
  rw [e] at this
  exact this
theorem pathF_stable {cs : List Int} {all : List (List Int)} (h : Cov cs all) : ∀ (k k' : Nat) (v : List Int), Vec cs v → wgt v ≤ k → wgt v ≤ k' → pathF all k v = pathF all k' v
  | 0, 0, _, _, _, _ => rfl
  | 0, k' + 1, v, hv, h1, h2 => by
    simp only [pathF]
    rw [if_pos]
    cases hz : allZ v with
    | true => rfl
    | false =>
      obtain ⟨j, hj, hne⟩ := h.cov v hv hz
      have := wgt_sub hv.nneg (fun i hi => (h.pos j hj).2 i (by rw [← hv.len]; exact hi)) hne
      omega
  | k + 1, 0, v, hv, h1, h2 => (pathF_stable h 0 (k + 1) v hv h2 h1).symm
  | k + 1, k' + 1, v, hv, h1, h2 => by
    simp only [pathF]
    cases hz : allZ v with
    | true => simp
    | false =>
      obtain ⟨q1, q2, _⟩ := firstI_spec h hv hz
      have hp := (h.pos _ q1).2
      have hne : subV v (all.getD (firstI all v) []) ≠ v := by
        unfold goodI at q2
        exact (of_decide_eq_true q2).1
      have hw := wgt_sub hv.nneg (fun i hi => hp i (by rw [← hv.len]; exact hi)) hne
      simp only [Bool.false_eq_true, if_false]
      rw [pathF_stable h k k' _ (hv.sub hp) (by omega) (by omega)]
theorem pathB_step {cs : List Int} {all : List (List Int)} (h : Cov cs all) {v : List Int} (hv : Vec cs v) (hz : allZ v = false) : pathB all v = (firstI all v : Int) :: pathB all (subV v (all.getD (firstI all v) [])) := by
  obtain ⟨q1, q2, _⟩ := firstI_spec h hv hz
  have hp := (h.pos _ q1).2
  have hne : subV v (all.getD (firstI all v) []) ≠ v := by
    unfold goodI at q2
    exact (of_decide_eq_true q2).1
  have hw := wgt_sub hv.nneg (fun i hi => hp i (by rw [← hv.len]; exact hi)) hne
  have e : pathB all v = pathF all (wgt v + 1) v := pathF_stable h _ _ v hv (Nat.le_refl _) (by omega)
  rw [e]
  simp only [pathF, hz, Bool.false_eq_true, if_false]
  rw [pathF_stable h _ (wgt (subV v (all.getD (firstI all v) []))) _ (hv.sub hp) (by omega) (Nat.le_refl _)]
  rfl
theorem pathB_zero {all : List (List Int)} {v : List Int} (hz : allZ v = true) : pathB all v = [] := by
  unfold pathB
  cases wgt v with
  | zero => rfl
  | succ k => simp only [pathF]; rw [if_pos hz]
theorem pathB_len {cs : List Int} {all : List (List Int)} (h : Cov cs all) : ∀ (m : Nat) (v : List Int), wgt v ≤ m → Vec cs v → ((pathB all v).length : Int) = barsB all v
  | m, v, hm, hv => by
    cases hz : allZ v with
    | true => rw [pathB_zero hz, barsB_zero h hv hz]; rfl
    | false =>
      obtain ⟨q1, q2, _⟩ := firstI_spec h hv hz
      have hp := (h.pos _ q1).2
      have q3 := of_decide_eq_true q2
      have hw := wgt_sub hv.nneg (fun i hi => hp i (by rw [← hv.len]; exact hi)) q3.1
      cases m with
      | zero => omega
      | succ m =>
        rw [pathB_step h hv hz, List.length_cons]
        have := pathB_len h m _ (by omega) (hv.sub hp)
        omega
end PB
end
section
set_option linter.unusedVariables false
open Go Go.Proofs Go.Eng Go.Shelf
namespace PB
set_option maxRecDepth 100000
set_option linter.unusedVariables false
structure Tab (cs : List Int) : Prop where
  few : cs.length ≤ 16
  cB : ∀ i, i < cs.length → 0 ≤ cs.getD i 0 ∧ cs.getD i 0 ≤ 64
  size : prodS cs cs.length ≤ 65536
theorem Tab.c0 {cs : List Int} (h : Tab cs) : ∀ i, i < cs.length → 0 ≤ cs.getD i 0 := fun i hi => (h.cB i hi).1
theorem prodS_mono {cs : List Int} (hc : ∀ i, i < cs.length → 0 ≤ cs.getD i 0) (k : Nat) : ∀ m, k ≤ m → m ≤ cs.length → prodS cs k ≤ prodS cs m
  | 0, h1, _ => by have : k = 0 := by omega
                   subst this; omega
  | m + 1, h1, h2 => by
    by_cases e : k = m + 1
    · subst e; omega
    · have h3 := prodS_mono hc k m (by omega) (by omega)
      have h4 := prodS_pos hc m (by omega)
      have h5 := hc m (by omega)
      have h6 := Int.mul_le_mul_of_nonneg_left (show (1 : Int) ≤ cs.getD m 0 + 1 by omega) (show 0 ≤ prodS cs m by omega)
      simp only [prodS]; omega
theorem Tab.prod {cs : List Int} (h : Tab cs) (k : Nat) (hk : k ≤ cs.length) : 1 ≤ prodS cs k ∧ prodS cs k ≤ 65536 := ⟨prodS_pos h.c0 k hk, Int.le_trans (prodS_mono h.c0 k _ hk (Nat.le_refl _)) h.size⟩
def stepsL (cs : List Int) (k : Nat) : List Int := (List.range k).map (prodS cs)
theorem stepsL_len (cs : List Int) (k : Nat) : (stepsL cs k).length = k := by simp [stepsL]
theorem stepsL_get (cs : List Int) (k i : Nat) (h : i < k) : (stepsL cs k).getD i 0 = prodS cs i := by simp [stepsL, List.getD_eq_getElem?_getD, h]
theorem stepsL_succ (cs : List Int) (k : Nat) : stepsL cs (k + 1) = stepsL cs k ++ [prodS cs k] := by simp [stepsL, List.range_succ]
theorem b41 (cs : List Int) (h : Tab cs) : body Try.prog [] { asks := [(0, [2])] } false Try.f41 [Ls cs] (.tup [.agg [Ls cs, Ls (stepsL cs cs.length), I (prodS cs cs.length)], .val (.bool true)]) := by
  have hfew := h.few
  (repeat' ((conv => whnf); first | (refine Giv.mk fun _ => ?_) | (refine Alt.l (Need.mk ?h ?_); case h => omega) | (refine Alt.r (Need.mk ?h ?_); case h => omega) | (refine Need.mk ?h ?_; case h => first | omega | (intro _; rfl) | assumption | (simp <;> omega)) | refine Ix.zero ?_ | refine Ix.one ?_ | refine Ix.two ?_ | refine Ix.nat ?_ | refine Ix.add ?_ | (apply Go.Eng.Pin.mk; apply Exists.intro) | apply Go.Eng.Pinned.mk rfl rfl | (apply Go.Eng.PinH.mk; apply Exists.intro; apply Exists.intro) | exact Go.Eng.Fin0.mk | refine Go.Eng.Chk.mk ?_ ?_ | fail))
  refine Own.r ?_
  refine ⟨1, .int .i64, 3, ?_⟩
  (repeat' ((conv => whnf); first | (refine Giv.mk fun _ => ?_) | (refine Alt.l (Need.mk ?h ?_); case h => omega) | (refine Alt.r (Need.mk ?h ?_); case h => omega) | (refine Need.mk ?h ?_; case h => first | omega | (intro _; rfl) | assumption | (simp <;> omega)) | refine Ix.zero ?_ | refine Ix.one ?_ | refine Ix.two ?_ | refine Ix.nat ?_ | refine Ix.add ?_ | (apply Go.Eng.Pin.mk; apply Exists.intro) | apply Go.Eng.Pinned.mk rfl rfl | (apply Go.Eng.PinH.mk; apply Exists.intro; apply Exists.intro) | exact Go.Eng.Fin0.mk | refine Go.Eng.Chk.mk ?_ ?_ | fail))
  refine Ask.mk ⟨{ X := Nat, pre := fun k => k ≤ cs.length, mod := fun k _ => [(11, I k)], heap := fun k _ => [.cells [.val (.slice none 0 0), .val (.slice none 0 0), I 0] 55, .cells [Ls cs, .ref 2 1, I (prodS cs k)] 55, .vec 1 (.int .i64) (stepsL cs k) 3], objs := [2], mu := fun k => cs.length - k }, rfl, ?_⟩
  (repeat' ((conv => whnf); first | (refine Giv.mk fun _ => ?_) | (refine Alt.l (Need.mk ?h ?_); case h => omega) | (refine Alt.r (Need.mk ?h ?_); case h => omega) | (refine Need.mk ?h ?_; case h => first | omega | (intro _; rfl) | assumption | (simp <;> omega)) | refine Ix.zero ?_ | refine Ix.one ?_ | refine Ix.two ?_ | refine Ix.nat ?_ | refine Ix.add ?_ | (apply Go.Eng.Pin.mk; apply Exists.intro) | apply Go.Eng.Pinned.mk rfl rfl | (apply Go.Eng.PinH.mk; apply Exists.intro; apply Exists.intro) | exact Go.Eng.Fin0.mk | refine Go.Eng.Chk.mk ?_ ?_ | refine Own.l ?_ | fail))
  refine ⟨⟨(0 : Nat), Nat.zero_le _, ?_⟩, fun (k : Nat) hk => ?_⟩
  · (repeat' (first | exact trivial | rfl | exact Nat.one_pos | (refine And.intro ?_ ?_) | omega | ((conv => whnf); (refine And.intro ?_ ?_)) | ((conv => whnf); exact trivial)))
  · have hk : k ≤ cs.length := hk
    have hp := h.prod k hk
    have hsl := stepsL_len cs k
    (repeat' ((conv => whnf); first | (refine Giv.mk fun _ => ?_) | (refine Alt.l (Need.mk ?h ?_); case h => omega) | (refine Alt.r (Need.mk ?h ?_); case h => omega) | (refine Need.mk ?h ?_; case h => first | omega | (intro _; rfl) | assumption | (simp <;> omega)) | refine Ix.zero ?_ | refine Ix.one ?_ | refine Ix.two ?_ | refine Ix.nat ?_ | refine Ix.add ?_ | (apply Go.Eng.Pin.mk; apply Exists.intro) | apply Go.Eng.Pinned.mk rfl rfl | (apply Go.Eng.PinH.mk; apply Exists.intro; apply Exists.intro) | exact Go.Eng.Fin0.mk | refine Go.Eng.Chk.mk ?_ ?_ | refine Own.l ?_ | fail))
    (refine Br.mk (fun _ => ?_) (fun _ => ?_))
    · have hlt : k < cs.length := by omega
      have hp1 := h.prod (k + 1) hlt
      have hc := h.cB k hlt
      have hps : prodS cs (k + 1) = prodS cs k * (cs.getD k 0 + 1) := rfl
      rw [hps] at hp1
      (repeat' ((conv => whnf); first | (refine Giv.mk fun _ => ?_) | (refine Alt.l (Need.mk ?h ?_); case h => omega) | (refine Alt.r (Need.mk ?h ?_); case h => omega) | (refine Need.mk ?h ?_; case h => first | omega | (intro _; rfl) | assumption | (simp <;> omega)) | refine Ix.zero ?_ | refine Ix.one ?_ | refine Ix.two ?_ | refine Ix.nat ?_ | refine Ix.add ?_ | (apply Go.Eng.Pin.mk; apply Exists.intro) | apply Go.Eng.Pinned.mk rfl rfl | (apply Go.Eng.PinH.mk; apply Exists.intro; apply Exists.intro) | exact Go.Eng.Fin0.mk | refine Go.Eng.Chk.mk ?_ ?_ | refine Own.l ?_ | fail))
      refine Br.mkN (by omega) ?_
      (repeat' ((conv => whnf); first | (refine Giv.mk fun _ => ?_) | (refine Alt.l (Need.mk ?h ?_); case h => omega) | (refine Alt.r (Need.mk ?h ?_); case h => omega) | (refine Need.mk ?h ?_; case h => first | omega | (intro _; rfl) | assumption | (simp <;> omega)) | refine Ix.zero ?_ | refine Ix.one ?_ | refine Ix.two ?_ | refine Ix.nat ?_ | refine Ix.add ?_ | (apply Go.Eng.Pin.mk; apply Exists.intro) | apply Go.Eng.Pinned.mk rfl rfl | (apply Go.Eng.PinH.mk; apply Exists.intro; apply Exists.intro) | exact Go.Eng.Fin0.mk | refine Go.Eng.Chk.mk ?_ ?_ | refine Own.l ?_ | fail))
      refine ⟨(k + 1 : Nat), by show cs.length - (k + 1) < cs.length - k; omega, hlt, ?_⟩
      (repeat' (first | exact trivial | rfl | exact Nat.one_pos | (refine And.intro ?_ ?_) | omega | ((conv => whnf); (refine And.intro ?_ ?_)) | ((conv => whnf); exact trivial)))
      exact (stepsL_succ cs k).symm
    · have e : k = cs.length := by omega
      subst e
      (repeat' ((conv => whnf); first | (refine Giv.mk fun _ => ?_) | (refine Alt.l (Need.mk ?h ?_); case h => omega) | (refine Alt.r (Need.mk ?h ?_); case h => omega) | (refine Need.mk ?h ?_; case h => first | omega | (intro _; rfl) | assumption | (simp <;> omega)) | refine Ix.zero ?_ | refine Ix.one ?_ | refine Ix.two ?_ | refine Ix.nat ?_ | refine Ix.add ?_ | (apply Go.Eng.Pin.mk; apply Exists.intro) | apply Go.Eng.Pinned.mk rfl rfl | (apply Go.Eng.PinH.mk; apply Exists.intro; apply Exists.intro) | exact Go.Eng.Fin0.mk | refine Go.Eng.Chk.mk ?_ ?_ | refine Own.l ?_ | fail))
      (conv => whnf)
      refine ⟨?_, ?_, trivial⟩
      · (conv => whnf)
        (repeat' (first | exact trivial | rfl | exact Nat.one_pos | (refine And.intro ?_ ?_) | ((conv => whnf); (refine And.intro ?_ ?_)) | ((conv => whnf); exact trivial)))
      · (conv => whnf)
def c41 : Con := mkCon 41 false fun args K => match args with | [.seq (.int .i64) cs] => Need (Tab cs) (K (.tup [.agg [Ls cs, Ls (stepsL cs cs.length), I (prodS cs cs.length)], .val (.bool true)])) | _ => False
theorem k41 : ConOK Try.prog c41 := by
  refine conOK_of rfl (enters_of Try.func41 (by kernel_rfl) rfl) ?_
  intro args K h
  simp only [c41] at h
  split at h
  · rename_i cs; exact ⟨_, h.go, tri_of_body (Γ := []) (by simp) Try.func41 (by simp [Try.ntmps41]) rfl (b41 cs h.ok)⟩
  · exact h.elim
def mixV (v p : List Int) (i : Nat) : List Int := (List.range v.length).map fun j => if j < i then max 0 (v.getD j 0 - p.getD j 0) else v.getD j 0
theorem mixV_get (v p : List Int) (i j : Nat) (h : j < v.length) : (mixV v p i).getD j 0 = if j < i then max 0 (v.getD j 0 - p.getD j 0) else v.getD j 0 := by simp [mixV, List.getD_eq_getElem?_getD, h]
theorem mixV_vec {cs v p : List Int} (h : Vec cs v) (hp : ∀ i, i < cs.length → 0 ≤ p.getD i 0) (i : Nat) : Vec cs (mixV v p i) := by
  refine ⟨by simp [mixV, h.len], fun j hj => ?_⟩
  rw [mixV_get v p i j (by rw [h.len]; exact hj)]
  have := h.b j hj
  have := hp j hj
  split <;> omega
theorem mixV_zero (v p : List Int) : mixV v p 0 = v := getD_ext (d := 0) (by simp [mixV]) fun j hj => by
  rw [mixV_get v p 0 j (by simpa [mixV] using hj), if_neg (by omega)]
theorem mixV_all (v p : List Int) : mixV v p v.length = subV v p := getD_ext (d := 0) (by simp [mixV, subV]) fun j hj => by
  have hj : j < v.length := by simpa [mixV] using hj
  rw [mixV_get v p _ j hj, if_pos hj, subV_get v p j hj]
theorem loE_one {cs v w : List Int} (i : Nat) (h : ∀ j, j ≠ i → w.getD j 0 = v.getD j 0) : ∀ k, loE cs w k = loE cs v k + if i < k then (w.getD i 0 - v.getD i 0) * prodS cs i else 0
  | 0 => by simp [loE]
  | k + 1 => by
    simp only [loE]
    rw [loE_one i h k]
    by_cases e : k = i
    · subst e
      rw [if_neg (by omega), if_pos (by omega), Int.sub_mul]; omega
    · rw [h k e]
      by_cases e2 : i < k
      · rw [if_pos e2, if_pos (by omega)]; omega
      · rw [if_neg e2, if_neg (by omega)]; omega
theorem mixV_step {cs v p : List Int} (h : Vec cs v) (hp : ∀ i, i < cs.length → 0 ≤ p.getD i 0) {i : Nat} (hi : i < cs.length) : loE cs (mixV v p i) cs.length - min (p.getD i 0) (v.getD i 0) * prodS cs i = loE cs (mixV v p (i + 1)) cs.length := by
  have hiv : i < v.length := by rw [h.len]; exact hi
  have e := loE_one (cs := cs) (v := mixV v p i) (w := mixV v p (i + 1)) i (fun j hj => by
    by_cases hjl : j < v.length
    · rw [mixV_get v p _ j hjl, mixV_get v p _ j hjl]
      by_cases h1 : j < i
      · rw [if_pos (by omega), if_pos h1]
      · rw [if_neg (by omega), if_neg h1]
    · have h1 : ∀ m, (mixV v p m).getD j 0 = 0 := fun m => by
        rw [List.getD_eq_getElem?_getD, List.getElem?_eq_none (by simp [mixV]; omega)]; rfl
      rw [h1, h1]) cs.length
  rw [if_pos hi, mixV_get v p _ i hiv, mixV_get v p _ i hiv, if_pos (by omega), if_neg (by omega)] at e
  have h1 := h.b i hi
  have h2 := hp i hi
  have h3 : max 0 (v.getD i 0 - p.getD i 0) - v.getD i 0 = - min (p.getD i 0) (v.getD i 0) := by omega
  rw [h3, Int.neg_mul] at e
  omega
structure LessOk (cs p v : List Int) : Prop where
  tab : Tab cs
  pl : p.length = cs.length
  pB : ∀ i, i < cs.length → 0 ≤ p.getD i 0 ∧ p.getD i 0 ≤ 64
  v : Vec cs v
theorem b42 (cs p v : List Int) (h : LessOk cs p v) : body Try.prog [] { asks := [(0, [])] } true Try.f42 [.agg [Ls cs, Ls (stepsL cs cs.length), I (prodS cs cs.length)], I (loE cs v cs.length), Ls p] (I (loE cs (subV v p) cs.length)) := by
  have hfew := h.tab.few
  have hpl := h.pl
  have hp0 : ∀ i, i < cs.length → 0 ≤ p.getD i 0 := fun i hi => (h.pB i hi).1
  have hsl := stepsL_len cs cs.length
  (repeat' ((conv => whnf); first | (refine Giv.mk fun _ => ?_) | (refine Alt.l (Need.mk ?h ?_); case h => omega) | (refine Alt.r (Need.mk ?h ?_); case h => omega) | (refine Need.mk ?h ?_; case h => first | omega | (intro _; rfl) | assumption | (simp <;> omega)) | refine Ix.zero ?_ | refine Ix.one ?_ | refine Ix.two ?_ | refine Ix.nat ?_ | refine Ix.add ?_ | (apply Go.Eng.Pin.mk; apply Exists.intro) | apply Go.Eng.Pinned.mk rfl rfl | (apply Go.Eng.PinH.mk; apply Exists.intro; apply Exists.intro) | exact Go.Eng.Fin0.mk | refine Go.Eng.Chk.mk ?_ ?_ | refine Own.l ?_ | fail))
  refine Ask.mk ⟨{ X := Nat, pre := fun i => i ≤ cs.length, mod := fun i _ => [(1, I (loE cs (mixV v p i) cs.length)), (12, I i)], mu := fun i => cs.length - i }, rfl, ?_⟩
  (repeat' ((conv => whnf); first | (refine Giv.mk fun _ => ?_) | (refine Alt.l (Need.mk ?h ?_); case h => omega) | (refine Alt.r (Need.mk ?h ?_); case h => omega) | (refine Need.mk ?h ?_; case h => first | omega | (intro _; rfl) | assumption | (simp <;> omega)) | refine Ix.zero ?_ | refine Ix.one ?_ | refine Ix.two ?_ | refine Ix.nat ?_ | refine Ix.add ?_ | (apply Go.Eng.Pin.mk; apply Exists.intro) | apply Go.Eng.Pinned.mk rfl rfl | (apply Go.Eng.PinH.mk; apply Exists.intro; apply Exists.intro) | exact Go.Eng.Fin0.mk | refine Go.Eng.Chk.mk ?_ ?_ | refine Own.l ?_ | fail))
  refine ⟨⟨(0 : Nat), Nat.zero_le _, ?_⟩, fun (i : Nat) hi => ?_⟩
  · (repeat' (first | exact trivial | rfl | exact Nat.one_pos | (refine And.intro ?_ ?_) | omega | ((conv => whnf); (refine And.intro ?_ ?_)) | ((conv => whnf); exact trivial)))
    rw [mixV_zero]
  · have hi : i ≤ cs.length := hi
    have hv := mixV_vec h.v hp0 i
    have hr := loE_rng h.tab.c0 hv cs.length (Nat.le_refl _)
    have hsz := h.tab.size
    (repeat' ((conv => whnf); first | (refine Giv.mk fun _ => ?_) | (refine Alt.l (Need.mk ?h ?_); case h => omega) | (refine Alt.r (Need.mk ?h ?_); case h => omega) | (refine Need.mk ?h ?_; case h => first | omega | (intro _; rfl) | assumption | (simp <;> omega)) | refine Ix.zero ?_ | refine Ix.one ?_ | refine Ix.two ?_ | refine Ix.nat ?_ | refine Ix.add ?_ | (apply Go.Eng.Pin.mk; apply Exists.intro) | apply Go.Eng.Pinned.mk rfl rfl | (apply Go.Eng.PinH.mk; apply Exists.intro; apply Exists.intro) | exact Go.Eng.Fin0.mk | refine Go.Eng.Chk.mk ?_ ?_ | refine Own.l ?_ | fail))
    (refine Br.mk (fun _ => ?_) (fun _ => ?_))
    · have hlt : i < cs.length := by omega
      have hd := loE_digit h.tab.c0 hv i hlt
      rw [mixV_get v p i i (by rw [h.v.len]; exact hlt), if_neg (by omega)] at hd
      have hg := stepsL_get cs cs.length i hlt
      have hpr := h.tab.prod i (by omega)
      have hcb := h.tab.cB i hlt
      have hpb := h.pB i hlt
      have hvb := h.v.b i hlt
      have hst := mixV_step h.v hp0 hlt
      have hr2 := loE_rng h.tab.c0 (mixV_vec h.v hp0 (i + 1)) cs.length (Nat.le_refl _)
      have hq : 0 ≤ loE cs (mixV v p i) cs.length / prodS cs i ∧ loE cs (mixV v p i) cs.length / prodS cs i ≤ 65536 := ⟨Int.ediv_nonneg hr.1 (by omega), by have := Int.ediv_le_self (prodS cs i) hr.1; omega⟩
      rw [← hd] at hst
      rw [← hg] at hd hst hpr hq
      (repeat' ((conv => whnf); first | (refine Giv.mk fun _ => ?_) | (refine Alt.l (Need.mk ?h ?_); case h => omega) | (refine Alt.r (Need.mk ?h ?_); case h => omega) | (refine Need.mk ?h ?_; case h => first | omega | (intro _; rfl) | assumption | (simp <;> omega)) | refine Ix.zero ?_ | refine Ix.one ?_ | refine Ix.two ?_ | refine Ix.nat ?_ | refine Ix.add ?_ | (apply Go.Eng.Pin.mk; apply Exists.intro) | apply Go.Eng.Pinned.mk rfl rfl | (apply Go.Eng.PinH.mk; apply Exists.intro; apply Exists.intro) | exact Go.Eng.Fin0.mk | refine Go.Eng.Chk.mk ?_ ?_ | refine Own.l ?_ | fail))
      refine ⟨(i + 1 : Nat), by show cs.length - (i + 1) < cs.length - i; omega, hlt, ?_⟩
      (repeat' (first | exact trivial | rfl | exact Nat.one_pos | (refine And.intro ?_ ?_) | omega | ((conv => whnf); (refine And.intro ?_ ?_)) | ((conv => whnf); exact trivial)))
    · have e : i = cs.length := by omega
      subst e
      have hall : mixV v p cs.length = subV v p := by rw [← h.v.len]; exact mixV_all v p
      (repeat' ((conv => whnf); first | (refine Giv.mk fun _ => ?_) | (refine Alt.l (Need.mk ?h ?_); case h => omega) | (refine Alt.r (Need.mk ?h ?_); case h => omega) | (refine Need.mk ?h ?_; case h => first | omega | (intro _; rfl) | assumption | (simp <;> omega)) | refine Ix.zero ?_ | refine Ix.one ?_ | refine Ix.two ?_ | refine Ix.nat ?_ | refine Ix.add ?_ | (apply Go.Eng.Pin.mk; apply Exists.intro) | apply Go.Eng.Pinned.mk rfl rfl | (apply Go.Eng.PinH.mk; apply Exists.intro; apply Exists.intro) | exact Go.Eng.Fin0.mk | refine Go.Eng.Chk.mk ?_ ?_ | refine Own.l ?_ | fail))
      (conv => whnf)
      exact ⟨rfl, by rw [hall]⟩
def c42 : Con := mkCon 42 true fun args K => match args with
  | [.agg [.seq (.int .i64) cs, .seq (.int .i64) st, .val (.int .i64 sz)], .val (.int .i64 s), .seq (.int .i64) p] => ∃ v, (LessOk cs p v ∧ st = stepsL cs cs.length ∧ sz = prodS cs cs.length ∧ s = loE cs v cs.length) ∧ K (I (loE cs (subV v p) cs.length))
  | _ => False
theorem k42 : ConOK Try.prog c42 := by
  refine conOK_of rfl (enters_of Try.func42 (by kernel_rfl) rfl) ?_
  intro args K h
  simp only [c42] at h
  split at h
  · obtain ⟨v, ⟨h1, rfl, rfl, rfl⟩, hk⟩ := h
    exact ⟨_, hk, tri_of_body (Γ := []) (by simp) Try.func42 (by simp [Try.ntmps42]) rfl (b42 _ _ v h1)⟩
  · exact h.elim
structure WoOk (l p : List Int) : Prop where
  few : l.length ≤ 16
  pl : p.length = l.length
  lB : ∀ i, i < l.length → 0 ≤ l.getD i 0 ∧ l.getD i 0 ≤ 64
  pB : ∀ i, i < l.length → 0 ≤ p.getD i 0 ∧ p.getD i 0 ≤ 64
end PB
end
section
set_option linter.unusedVariables false
open Go Go.Proofs Go.Eng Go.Shelf
namespace PB
set_option maxRecDepth 100000
set_option linter.unusedVariables false
def TabT (cs : List Int) (all : List (List Int)) (E : List Int → Int) (T : List Int) (s : Int) : Prop := ∀ v, Vec cs v → E v < s → T.getD (E v).toNat 0 = barsB all v
structure Srch (cs : List Int) (all : List (List Int)) : Prop where
  tab : Tab cs
  cov : Cov cs all
  pB : ∀ j, j < all.length → ∀ i, i < cs.length → (all.getD j []).getD i 0 ≤ 64
  few : all.length ≤ 4096
theorem wgt_le {cs v : List Int} (h : Tab cs) (hv : Vec cs v) : wgt v ≤ 1024 := by
  have key : ∀ k, k ≤ cs.length → sumP v k ≤ 64 * k := by
    intro k
    induction k with
    | zero => intro _; simp [sumP]
    | succ k ih =>
      intro hk
      have h1 := ih (by omega)
      have h2 := hv.b k (by omega)
      have h3 := h.cB k (by omega)
      rw [sumP_succ]; omega
  have h1 := key cs.length (Nat.le_refl _)
  have h2 := h.few
  unfold wgt
  rw [hv.len]
  omega
theorem barsB_le {cs : List Int} {all : List (List Int)} (h : Cov cs all) : ∀ (m : Nat) (v : List Int), wgt v ≤ m → Vec cs v → barsB all v ≤ wgt v
  | m, v, hm, hv => by
    cases hz : allZ v with
    | true => rw [barsB_zero h hv hz]; omega
    | false =>
      obtain ⟨_, ⟨i, q1, q2, q3⟩, _⟩ := (barsB_spec h _ v (Nat.le_refl _) hv).2 hz
      have hp := (h.pos i q1).2
      have hw := wgt_sub hv.nneg (fun j hj => hp j (by rw [← hv.len]; exact hj)) q2
      cases m with
      | zero => omega
      | succ m =>
        have := barsB_le h m _ (by omega) (hv.sub hp)
        omega
theorem Srch.rng {cs : List Int} {all : List (List Int)} (h : Srch cs all) {v : List Int} (hv : Vec cs v) : 0 ≤ barsB all v ∧ barsB all v ≤ 1024 := by
  have h1 := (barsB_spec h.cov _ v (Nat.le_refl _) hv).1
  have h2 := barsB_le h.cov _ v (Nat.le_refl _) hv
  have h3 := wgt_le h.tab hv
  omega
theorem Srch.acc {cs : List Int} {all : List (List Int)} (h : Srch cs all) {v : List Int} (hv : Vec cs v) {j : Nat} (hj : j ≤ all.length) : -1 ≤ accB all v j ∧ accB all v j ≤ 1025 := by
  rcases acc_inv (all := all) (v := v) (fun j hj hne => (h.rng (hv.sub (h.cov.pos j hj).2)).1) j hj with ⟨h1, _⟩ | ⟨h1, ⟨i, h2, h3, h4⟩, _⟩
  · omega
  · have := h.rng (hv.sub (h.cov.pos i (by omega)).2); omega
theorem set_get' (T : List Int) (k : Nat) (x : Int) (i : Nat) (hi : i ≠ k) : (T.set k x).getD i 0 = T.getD i 0 := by
  rw [List.getD_eq_getElem?_getD, List.getElem?_set, if_neg (fun h => hi h.symm), ← List.getD_eq_getElem?_getD]
theorem TabT.step {cs : List Int} {all : List (List Int)} {E : List Int → Int} {n : Int} (he : Enc cs E n) {T : List Int} {v : List Int} (hv : Vec cs v) (h : TabT cs all E T (E v)) (hl : (E v).toNat < T.length) : TabT cs all E (T.set (E v).toNat (barsB all v)) (E v + 1) := by
  intro w hw hlt
  have h1 := (he.rng w hw).1
  have h2 := (he.rng v hv).1
  by_cases e : E w = E v
  · have := he.inj w v hw hv e
    subst this
    rw [set_get T _ _ hl, if_pos rfl]
  · rw [set_get' _ _ _ _ (by omega)]
    exact h w hw (by omega)
theorem TabT.zero {cs : List Int} {all : List (List Int)} (hc : Cov cs all) {E : List Int → Int} {n : Int} (he : Enc cs E n) (m : Nat) : TabT cs all E (List.replicate m 0) 1 := by
  intro w hw hlt
  have h1 := (he.rng w hw).1
  have h2 := (he.zero w hw).1 (by omega)
  rw [barsB_zero hc hw ((allZ_iff w).2 fun i hi => h2 i (by rw [← hw.len]; exact hi))]
  rw [List.getD_eq_getElem?_getD, List.getElem?_replicate]
  split <;> rfl
theorem allZ_enc {cs : List Int} {E : List Int → Int} {n : Int} (he : Enc cs E n) {v : List Int} (hv : Vec cs v) : allZ v = true ↔ E v = 0 := by
  rw [allZ_iff, he.zero v hv, hv.len]
theorem allZ_pos {cs : List Int} {E : List Int → Int} {n : Int} (he : Enc cs E n) {v : List Int} (hv : Vec cs v) (h : 0 < E v) : allZ v = false := by
  cases hz : allZ v with
  | false => rfl
  | true => have := (allZ_enc he hv).1 hz; omega
theorem Srch.lessOk {cs : List Int} {all : List (List Int)} (h : Srch cs all) {v : List Int} (hv : Vec cs v) {j : Nat} (hj : j < all.length) : LessOk cs (all.getD j []) v := by
  have h1 := h.cov.pos j hj
  exact ⟨h.tab, h1.1, fun i hi => ⟨h1.2 i hi, h.pB j hj i hi⟩, hv⟩
theorem Srch.cases {cs : List Int} {all : List (List Int)} (h : Srch cs all) {v : List Int} (hv : Vec cs v) {j : Nat} (hj : j ≤ all.length) : accB all v j = -1 ∨ 1 ≤ accB all v j := by
  rcases acc_inv (all := all) (v := v) (fun j hj hne => (h.rng (hv.sub (h.cov.pos j hj).2)).1) j hj with ⟨h1, _⟩ | ⟨h1, _⟩
  · exact .inl h1
  · exact .inr h1
structure GoodOk (cs : List Int) (all : List (List Int)) (T v : List Int) : Prop where
  s : Srch cs all
  v : Vec cs v
  tl : (T.length : Int) = prodS cs cs.length
  tab : TabT cs all (fun v => loE cs v cs.length) T (prodS cs cs.length)
theorem b44 (cs : List Int) (all : List (List Int)) (T v : List Int) (j : Nat) (h : GoodOk cs all T v) (hj : j < all.length) : body Try.prog [c42] {} true Try.f44 [Ls (all.getD j []), .lelem [Ls cs, Ls (stepsL cs cs.length), I (prodS cs cs.length)] 0, .lelem [I (loE cs v cs.length)] 0, .lelem [Ls T] 0] (.bl (goodI all v (all.getD j []) = true) inferInstance) := by
  have hL := h.s.lessOk h.v hj
  have he := enc_lo h.s.tab.c0
  have hp := (h.s.cov.pos j hj).2
  have hsub := h.v.sub hp
  have hlt := he.sub_lt h.v hp
  have r1 := he.rng v h.v
  have r2 := he.rng _ hsub
  have t1 : T.getD (loE cs v cs.length).toNat 0 = _ := h.tab v h.v r1.2
  have t2 : T.getD (loE cs (subV v (all.getD j [])) cs.length).toNat 0 = _ := h.tab _ hsub r2.2
  have r1 : 0 ≤ loE cs v cs.length ∧ loE cs v cs.length < prodS cs cs.length := r1
  have r2 : 0 ≤ loE cs (subV v (all.getD j [])) cs.length ∧ loE cs (subV v (all.getD j [])) cs.length < prodS cs cs.length := r2
  have hlt : loE cs (subV v (all.getD j [])) cs.length < loE cs v cs.length ↔ subV v (all.getD j []) ≠ v := hlt
  have g1 := h.s.rng h.v
  have g2 := h.s.rng hsub
  have hgood : goodI all v (all.getD j []) = true ↔ (subV v (all.getD j []) ≠ v ∧ barsB all (subV v (all.getD j [])) + 1 = barsB all v) := by unfold goodI; exact decide_eq_true_iff
  have htl := h.tl
  (repeat' ((conv => whnf); first | (refine Giv.mk fun _ => ?_) | (refine Alt.l (Need.mk ?h ?_); case h => omega) | (refine Alt.r (Need.mk ?h ?_); case h => omega) | (refine Need.mk ?h ?_; case h => first | omega | (intro _; rfl) | assumption | (simp <;> omega)) | refine Ix.zero ?_ | refine Ix.one ?_ | refine Ix.two ?_ | refine Ix.nat ?_ | refine Ix.add ?_ | (apply Go.Eng.Pin.mk; apply Exists.intro) | apply Go.Eng.Pinned.mk rfl rfl | (apply Go.Eng.PinH.mk; apply Exists.intro; apply Exists.intro) | exact Go.Eng.Fin0.mk | refine Go.Eng.Chk.mk ?_ ?_ | refine Own.l ?_ | fail))
  refine ⟨v, ⟨hL, rfl, rfl, rfl⟩, ?_⟩
  (repeat' ((conv => whnf); first | (refine Giv.mk fun _ => ?_) | (refine Alt.l (Need.mk ?h ?_); case h => omega) | (refine Alt.r (Need.mk ?h ?_); case h => omega) | (refine Need.mk ?h ?_; case h => first | omega | (intro _; rfl) | assumption | (simp <;> omega)) | refine Ix.zero ?_ | refine Ix.one ?_ | refine Ix.two ?_ | refine Ix.nat ?_ | refine Ix.add ?_ | (apply Go.Eng.Pin.mk; apply Exists.intro) | apply Go.Eng.Pinned.mk rfl rfl | (apply Go.Eng.PinH.mk; apply Exists.intro; apply Exists.intro) | exact Go.Eng.Fin0.mk | refine Go.Eng.Chk.mk ?_ ?_ | refine Own.l ?_ | fail))
  (refine Br.mk (fun _ => ?_) (fun _ => ?_))
  · rename_i hn
    have hne := hlt.1 hn
    (repeat' ((conv => whnf); first | (refine Giv.mk fun _ => ?_) | (refine Alt.l (Need.mk ?h ?_); case h => omega) | (refine Alt.r (Need.mk ?h ?_); case h => omega) | (refine Need.mk ?h ?_; case h => first | omega | (intro _; rfl) | assumption | (simp <;> omega)) | refine Ix.zero ?_ | refine Ix.one ?_ | refine Ix.two ?_ | refine Ix.nat ?_ | refine Ix.add ?_ | (apply Go.Eng.Pin.mk; apply Exists.intro) | apply Go.Eng.Pinned.mk rfl rfl | (apply Go.Eng.PinH.mk; apply Exists.intro; apply Exists.intro) | exact Go.Eng.Fin0.mk | refine Go.Eng.Chk.mk ?_ ?_ | refine Own.l ?_ | fail))
    refine ix_at (loE cs (subV v (all.getD j [])) cs.length).toNat (by omega) ?_
    (repeat' ((conv => whnf); first | (refine Giv.mk fun _ => ?_) | (refine Alt.l (Need.mk ?h ?_); case h => omega) | (refine Alt.r (Need.mk ?h ?_); case h => omega) | (refine Need.mk ?h ?_; case h => first | omega | (intro _; rfl) | assumption | (simp <;> omega)) | refine Ix.zero ?_ | refine Ix.one ?_ | refine Ix.two ?_ | refine Ix.nat ?_ | refine Ix.add ?_ | (apply Go.Eng.Pin.mk; apply Exists.intro) | apply Go.Eng.Pinned.mk rfl rfl | (apply Go.Eng.PinH.mk; apply Exists.intro; apply Exists.intro) | exact Go.Eng.Fin0.mk | refine Go.Eng.Chk.mk ?_ ?_ | refine Own.l ?_ | fail))
    refine ix_at (loE cs v cs.length).toNat (by omega) ?_
    (repeat' ((conv => whnf); first | (refine Giv.mk fun _ => ?_) | (refine Alt.l (Need.mk ?h ?_); case h => omega) | (refine Alt.r (Need.mk ?h ?_); case h => omega) | (refine Need.mk ?h ?_; case h => first | omega | (intro _; rfl) | assumption | (simp <;> omega)) | refine Ix.zero ?_ | refine Ix.one ?_ | refine Ix.two ?_ | refine Ix.nat ?_ | refine Ix.add ?_ | (apply Go.Eng.Pin.mk; apply Exists.intro) | apply Go.Eng.Pinned.mk rfl rfl | (apply Go.Eng.PinH.mk; apply Exists.intro; apply Exists.intro) | exact Go.Eng.Fin0.mk | refine Go.Eng.Chk.mk ?_ ?_ | refine Own.l ?_ | fail))
    (conv => whnf)
    rw [t1, t2]
    exact ⟨fun e => hgood.2 ⟨hne, e⟩, fun e => (hgood.1 e).2⟩
  · rename_i hn
    (repeat' ((conv => whnf); first | (refine Giv.mk fun _ => ?_) | (refine Alt.l (Need.mk ?h ?_); case h => omega) | (refine Alt.r (Need.mk ?h ?_); case h => omega) | (refine Need.mk ?h ?_; case h => first | omega | (intro _; rfl) | assumption | (simp <;> omega)) | refine Ix.zero ?_ | refine Ix.one ?_ | refine Ix.two ?_ | refine Ix.nat ?_ | refine Ix.add ?_ | (apply Go.Eng.Pin.mk; apply Exists.intro) | apply Go.Eng.Pinned.mk rfl rfl | (apply Go.Eng.PinH.mk; apply Exists.intro; apply Exists.intro) | exact Go.Eng.Fin0.mk | refine Go.Eng.Chk.mk ?_ ?_ | refine Own.l ?_ | fail))
    (conv => whnf)
    exact fun e => hn (hlt.2 (hgood.1 e).1)
def c44 : Con := mkCon 44 true fun args K => match args with
  | [.seq (.int .i64) p, .lelem [.seq (.int .i64) cs, .seq (.int .i64) st, .val (.int .i64 sz)] 0, .lelem [.val (.int .i64 s)] 0, .lelem [.seq (.int .i64) T] 0] =>
    ∃ (all : List (List Int)) (v : List Int) (j : Nat), (GoodOk cs all T v ∧ j < all.length ∧ p = all.getD j [] ∧ st = stepsL cs cs.length ∧ sz = prodS cs cs.length ∧ s = loE cs v cs.length) ∧ K (.bl (goodI all v (all.getD j []) = true) inferInstance)
  | _ => False
theorem k44 : ConOK Try.prog c44 := by
  refine conOK_of rfl (enters_of Try.func44 (by kernel_rfl) rfl) ?_
  intro args K h
  simp only [c44] at h
  split at h
  · obtain ⟨all, v, j, ⟨h1, h2, rfl, rfl, rfl, rfl⟩, hk⟩ := h
    exact ⟨_, hk, tri_of_body (Γ := [c42]) (by simp [k42]) Try.func44 (by simp [Try.ntmps44]) rfl (b44 _ all _ v j h1 h2)⟩
  · exact h.elim
abbrev goodC (cs T : List Int) (s : Int) : SV := .clo 44 [] [.lelem [Ls cs, Ls (stepsL cs cs.length), I (prodS cs cs.length)] 0, .lelem [I s] 0, .lelem [Ls T] 0]
theorem b43 (cs : List Int) (all : List (List Int)) (T v : List Int) (h : GoodOk cs all T v) (hz : allZ v = false) : body Try.prog [c44] { asks := [(0, [])] } true Try.f43 [LL all, goodC cs T (loE cs v cs.length)] (I (firstI all v)) := by
  obtain ⟨f1, f2, f3⟩ := firstI_spec h.s.cov h.v hz
  have hfew := h.s.few
  (repeat' ((conv => whnf); first | (refine Giv.mk fun _ => ?_) | (refine Alt.l (Need.mk ?h ?_); case h => omega) | (refine Alt.r (Need.mk ?h ?_); case h => omega) | (refine Need.mk ?h ?_; case h => first | omega | (intro _; rfl) | assumption | (simp <;> omega)) | refine Ix.zero ?_ | refine Ix.one ?_ | refine Ix.two ?_ | refine Ix.nat ?_ | refine Ix.add ?_ | (apply Go.Eng.Pin.mk; apply Exists.intro) | apply Go.Eng.Pinned.mk rfl rfl | (apply Go.Eng.PinH.mk; apply Exists.intro; apply Exists.intro) | exact Go.Eng.Fin0.mk | refine Go.Eng.Chk.mk ?_ ?_ | refine Own.l ?_ | fail))
  refine Ask.mk ⟨{ X := Nat, pre := fun i => i ≤ all.length ∧ ∀ j, j < i → goodI all v (all.getD j []) = false, mod := fun i _ => [(8, I i)], mu := fun i => all.length - i }, rfl, ?_⟩
  (repeat' ((conv => whnf); first | (refine Giv.mk fun _ => ?_) | (refine Alt.l (Need.mk ?h ?_); case h => omega) | (refine Alt.r (Need.mk ?h ?_); case h => omega) | (refine Need.mk ?h ?_; case h => first | omega | (intro _; rfl) | assumption | (simp <;> omega)) | refine Ix.zero ?_ | refine Ix.one ?_ | refine Ix.two ?_ | refine Ix.nat ?_ | refine Ix.add ?_ | (apply Go.Eng.Pin.mk; apply Exists.intro) | apply Go.Eng.Pinned.mk rfl rfl | (apply Go.Eng.PinH.mk; apply Exists.intro; apply Exists.intro) | exact Go.Eng.Fin0.mk | refine Go.Eng.Chk.mk ?_ ?_ | refine Own.l ?_ | fail))
  refine ⟨⟨(0 : Nat), ⟨Nat.zero_le _, fun j hj => by omega⟩, by (repeat' (first | exact trivial | rfl | exact Nat.one_pos | (refine And.intro ?_ ?_) | omega | ((conv => whnf); (refine And.intro ?_ ?_)) | ((conv => whnf); exact trivial)))⟩, fun (i : Nat) hi => ?_⟩
  obtain ⟨hi1, hi2⟩ := hi
  (repeat' ((conv => whnf); first | (refine Giv.mk fun _ => ?_) | (refine Alt.l (Need.mk ?h ?_); case h => omega) | (refine Alt.r (Need.mk ?h ?_); case h => omega) | (refine Need.mk ?h ?_; case h => first | omega | (intro _; rfl) | assumption | (simp <;> omega)) | refine Ix.zero ?_ | refine Ix.one ?_ | refine Ix.two ?_ | refine Ix.nat ?_ | refine Ix.add ?_ | (apply Go.Eng.Pin.mk; apply Exists.intro) | apply Go.Eng.Pinned.mk rfl rfl | (apply Go.Eng.PinH.mk; apply Exists.intro; apply Exists.intro) | exact Go.Eng.Fin0.mk | refine Go.Eng.Chk.mk ?_ ?_ | refine Own.l ?_ | fail))
  (refine Br.mk (fun _ => ?_) (fun _ => ?_))
  · have hlt : i < all.length := by omega
    (repeat' ((conv => whnf); first | (refine Giv.mk fun _ => ?_) | (refine Alt.l (Need.mk ?h ?_); case h => omega) | (refine Alt.r (Need.mk ?h ?_); case h => omega) | (refine Need.mk ?h ?_; case h => first | omega | (intro _; rfl) | assumption | (simp <;> omega)) | refine Ix.zero ?_ | refine Ix.one ?_ | refine Ix.two ?_ | refine Ix.nat ?_ | refine Ix.add ?_ | (apply Go.Eng.Pin.mk; apply Exists.intro) | apply Go.Eng.Pinned.mk rfl rfl | (apply Go.Eng.PinH.mk; apply Exists.intro; apply Exists.intro) | exact Go.Eng.Fin0.mk | refine Go.Eng.Chk.mk ?_ ?_ | refine Own.l ?_ | fail))
    refine ⟨all, v, i, ⟨h, hlt, rfl, rfl, rfl, rfl⟩, ?_⟩
    (repeat' ((conv => whnf); first | (refine Giv.mk fun _ => ?_) | (refine Alt.l (Need.mk ?h ?_); case h => omega) | (refine Alt.r (Need.mk ?h ?_); case h => omega) | (refine Need.mk ?h ?_; case h => first | omega | (intro _; rfl) | assumption | (simp <;> omega)) | refine Ix.zero ?_ | refine Ix.one ?_ | refine Ix.two ?_ | refine Ix.nat ?_ | refine Ix.add ?_ | (apply Go.Eng.Pin.mk; apply Exists.intro) | apply Go.Eng.Pinned.mk rfl rfl | (apply Go.Eng.PinH.mk; apply Exists.intro; apply Exists.intro) | exact Go.Eng.Fin0.mk | refine Go.Eng.Chk.mk ?_ ?_ | refine Own.l ?_ | fail))
    (refine Br.mk (fun _ => ?_) (fun _ => ?_))
    · rename_i g
      (repeat' ((conv => whnf); first | (refine Giv.mk fun _ => ?_) | (refine Alt.l (Need.mk ?h ?_); case h => omega) | (refine Alt.r (Need.mk ?h ?_); case h => omega) | (refine Need.mk ?h ?_; case h => first | omega | (intro _; rfl) | assumption | (simp <;> omega)) | refine Ix.zero ?_ | refine Ix.one ?_ | refine Ix.two ?_ | refine Ix.nat ?_ | refine Ix.add ?_ | (apply Go.Eng.Pin.mk; apply Exists.intro) | apply Go.Eng.Pinned.mk rfl rfl | (apply Go.Eng.PinH.mk; apply Exists.intro; apply Exists.intro) | exact Go.Eng.Fin0.mk | refine Go.Eng.Chk.mk ?_ ?_ | refine Own.l ?_ | fail))
      (conv => whnf)
      exact ⟨rfl, by rw [firstI_eq hlt g hi2]⟩
    · rename_i g
      (repeat' ((conv => whnf); first | (refine Giv.mk fun _ => ?_) | (refine Alt.l (Need.mk ?h ?_); case h => omega) | (refine Alt.r (Need.mk ?h ?_); case h => omega) | (refine Need.mk ?h ?_; case h => first | omega | (intro _; rfl) | assumption | (simp <;> omega)) | refine Ix.zero ?_ | refine Ix.one ?_ | refine Ix.two ?_ | refine Ix.nat ?_ | refine Ix.add ?_ | (apply Go.Eng.Pin.mk; apply Exists.intro) | apply Go.Eng.Pinned.mk rfl rfl | (apply Go.Eng.PinH.mk; apply Exists.intro; apply Exists.intro) | exact Go.Eng.Fin0.mk | refine Go.Eng.Chk.mk ?_ ?_ | refine Own.l ?_ | fail))
      refine ⟨(i + 1 : Nat), by show all.length - (i + 1) < all.length - i; omega, ⟨hlt, fun j hj => ?_⟩, ?_⟩
      · by_cases e : j = i
        · subst e; simpa using g
        · exact hi2 j (by omega)
      · (repeat' (first | exact trivial | rfl | exact Nat.one_pos | (refine And.intro ?_ ?_) | omega | ((conv => whnf); (refine And.intro ?_ ?_)) | ((conv => whnf); exact trivial)))
  · have := hi2 (firstI all v) (by omega)
    rw [f2] at this; cases this
namespace L
def c43 : Con := mkCon 43 true fun args K => match args with
  | [.seq (.slice (.int .i64)) all, .clo 44 [] [.lelem [.seq (.int .i64) cs, .seq (.int .i64) st, .val (.int .i64 sz)] 0, .lelem [.val (.int .i64 s)] 0, .lelem [.seq (.int .i64) T] 0]] =>
    ∃ v : List Int, ((GoodOk cs all T v ∧ allZ v = false) ∧ st = stepsL cs cs.length ∧ sz = prodS cs cs.length ∧ s = loE cs v cs.length) ∧ K (I (firstI all v))
  | _ => False
theorem k43 : ConOK Try.prog c43 := by
  refine conOK_of rfl (enters_of Try.func43 (by kernel_rfl) rfl) ?_
  intro args K h
  simp only [c43] at h
  split at h
  · obtain ⟨v, ⟨⟨h1, h2⟩, rfl, rfl, rfl⟩, hk⟩ := h
    exact ⟨_, hk, tri_of_body (Γ := [c44]) (by simp [k44]) Try.func43 (by simp [Try.ntmps43]) rfl (b43 _ _ _ v h1 h2)⟩
  · exact h.elim
end L
end PB
end
section
set_option linter.unusedVariables false
open Go Go.Proofs Go.Eng Go.Shelf
namespace PB
set_option maxRecDepth 100000
set_option linter.unusedVariables false
def stockE (ls cs : List Int) (len : Int) : Bool := (List.range cs.length).any fun i => decide (0 < cs.getD i 0 ∧ len < ls.getD i 0)
theorem stockE_hit {ls cs : List Int} {len : Int} {i : Nat} (hi : i < cs.length) (h : 0 < cs.getD i 0 ∧ len < ls.getD i 0) : stockE ls cs len = true := by
  unfold stockE
  rw [List.any_eq_true]
  exact ⟨i, by simpa using hi, decide_eq_true h⟩
theorem stockE_none {ls cs : List Int} {len : Int} (h : ∀ i, i < cs.length → ¬ (0 < cs.getD i 0 ∧ len < ls.getD i 0)) : stockE ls cs len = false := by
  unfold stockE
  rw [List.any_eq_false]
  intro i hi
  simpa using h i (by simpa using hi)
theorem stockE_false {ls cs : List Int} {len : Int} (h : stockE ls cs len = false) (i : Nat) (hi : i < cs.length) : ¬ (0 < cs.getD i 0 ∧ len < ls.getD i 0) := fun hc => by
  rw [stockE_hit hi hc] at h; cases h
def lstC (ls cs : List Int) (len kerf : Int) : Int := if allE ls cs len kerf ≠ 0 then allE ls cs len kerf else if stockE ls cs len = true then 22 else 0
def lstB (ls cs : List Int) (len kerf : Int) : List Int := if lstC ls cs len kerf ≠ 0 then [] else pathB (allM ls cs len kerf) cs
structure LeastOk (ls cs : List Int) (len kerf : Int) : Prop where
  all : AllOk ls cs len kerf
  size : allE ls cs len kerf = 0 → prodS cs cs.length ≤ 65536
  wgt : allE ls cs len kerf = 0 → wgt cs ≤ 16
theorem allM_get {ls cs : List Int} {len kerf : Int} {j : Nat} (hj : j < (allM ls cs len kerf).length) : (allM ls cs len kerf).getD j [] ∈ allM ls cs len kerf := by
  have : (allM ls cs len kerf).getD j [] = (allM ls cs len kerf)[j] := by simp [List.getD_eq_getElem?_getD, hj]
  rw [this]
  exact List.getElem_mem hj
theorem unit_used {ls : List Int} {kerf : Int} {n i : Nat} (hi : i < n) : ∀ k, usedK ls kerf ((List.replicate n 0).set i 1) k = if i < k then ls.getD i 0 + kerf else 0
  | 0 => by simp [usedK]
  | k + 1 => by
    rw [usedK_succ, unit_used hi k, set_get _ _ _ (by simpa using hi)]
    by_cases e : k = i
    · subst e; rw [if_neg (by omega), if_pos rfl, if_pos (by omega)]; omega
    · rw [if_neg e]
      have h0 : (List.replicate n (0 : Int)).getD k 0 = 0 := by rw [List.getD_eq_getElem?_getD, List.getElem?_replicate]; split <;> rfl
      rw [h0]
      by_cases e2 : i < k
      · rw [if_pos e2, if_pos (by omega)]; omega
      · rw [if_neg e2, if_neg (by omega)]; omega
theorem srch_of {ls cs : List Int} {len kerf : Int} (h : LeastOk ls cs len kerf) (h0 : allE ls cs len kerf = 0) (hs : stockE ls cs len = false) : Srch cs (allM ls cs len kerf) := by
  have hok := okC_of h0
  have hl := hok.1.len
  have hfew := hok.1.few
  have hcB : ∀ i, i < cs.length → 0 ≤ cs.getD i 0 ∧ cs.getD i 0 ≤ 64 := fun i hi => hok.1.cB i (by omega)
  have hpos : ∀ j, j < (allM ls cs len kerf).length → ((allM ls cs len kerf).getD j []).length = cs.length ∧ ∀ i, i < cs.length → 0 ≤ ((allM ls cs len kerf).getD j []).getD i 0 ∧ ((allM ls cs len kerf).getD j []).getD i 0 ≤ cs.getD i 0 := fun j hj => by
    have hm := (allM_mem hok).1 (allM_get hj)
    have hf := mem_fit hok hm.1
    exact ⟨by rw [hf.ql, hl], fun i hi => hf.qB i (by omega)⟩
  refine ⟨⟨by omega, hcB, h.size h0⟩, ⟨fun i hi => (hcB i hi).1, fun j hj => ⟨(hpos j hj).1, fun i hi => ((hpos j hj).2 i hi).1⟩, fun v hv hz => ?_⟩, fun j hj i hi => ?_, ?_⟩
  · obtain ⟨i, hi, hne⟩ : ∃ i, i < v.length ∧ v.getD i 0 ≠ 0 := by
      apply Classical.byContradiction
      intro hn
      have : allZ v = true := (allZ_iff v).2 fun i hi => Classical.byContradiction fun he => hn ⟨i, hi, he⟩
      rw [this] at hz; cases hz
    have hi' : i < cs.length := by rw [← hv.len]; exact hi
    have h1 := hv.b i hi'
    have h2 := stockE_false hs i hi'
    have h3 := hok.1.lB i (by omega)
    have hq : Fit ls cs ((List.replicate ls.length 0).set i 1) len kerf := by
      refine ⟨hok.1, hok.2.1, hok.2.2, by simp, fun j hj => ?_, ?_⟩
      · rw [set_get _ _ _ (by simp; omega)]
        have := hcB j (by omega)
        by_cases e : j = i
        · subst e; rw [if_pos rfl]; omega
        · rw [if_neg e, List.getD_eq_getElem?_getD, List.getElem?_replicate, if_pos hj]
          show 0 ≤ (0 : Int) ∧ (0 : Int) ≤ _
          omega
      · rw [unit_used (by omega), if_pos (by omega)]; omega
    obtain ⟨p, q1, q2⟩ := fit_under hq
    obtain ⟨j, hj, rfl⟩ := List.getElem_of_mem q1
    have e : (allM ls cs len kerf).getD j [] = (allM ls cs len kerf)[j] := by simp [List.getD_eq_getElem?_getD, hj]
    refine ⟨j, hj, fun he => ?_⟩
    have h4 := q2 i (by omega)
    rw [set_get _ _ _ (by simp; omega), if_pos rfl, ← e] at h4
    have h5 : (subV v ((allM ls cs len kerf).getD j [])).getD i 0 = v.getD i 0 := by rw [he]
    rw [subV_get _ _ i hi] at h5
    omega
  · have := (hpos j hj).2 i hi
    have := hcB i hi
    omega
  · exact Nat.le_trans (List.length_filter_le _ _) (h.all h0)
theorem vec_end {cs v : List Int} {E : List Int → Int} {n : Int} (he : Enc cs E n) (hv : Vec cs v) (h : ¬ 0 < E v) : allZ v = true := (allZ_enc he hv).2 (by have := (he.rng v hv).1; omega)
def c16 : Con := mkCon 16 false fun args K => match args with | [.seq (.int .i64) ls, .seq (.int .i64) cs, .val (.int .i64 len), .val (.int .i64 kerf)] => Need (LeastOk ls cs len kerf) (K (.tup [I (lstB ls cs len kerf).length, Ls (lstB ls cs len kerf), I (lstC ls cs len kerf)])) | _ => False
end PB
end
section
set_option linter.unusedVariables false
open Go Go.Proofs Go.Eng Go.Shelf
namespace PB
set_option maxRecDepth 100000
set_option linter.unusedVariables false
abbrev cL43 : Con := L.c43
theorem kL43 : ConOK Try.prog cL43 := L.k43
set_option maxHeartbeats 8000000 in
theorem b15 (ls cs : List Int) (len kerf : Int) (h : LeastOk ls cs len kerf) : body Try.prog [c34, c13, c41, c42, cL43] { asks := [(0, []), (2, []), (4, []), (6, [5, 6])] } false Try.f15 [Ls ls, Ls cs, I len, I kerf] (.tup [I (lstB ls cs len kerf).length, Ls (lstB ls cs len kerf), I (lstC ls cs len kerf)]) := by
  (repeat' ((conv => whnf); first | (refine Giv.mk fun _ => ?_) | (refine Alt.l (Need.mk ?h ?_); case h => omega) | (refine Alt.r (Need.mk ?h ?_); case h => omega) | (refine Need.mk ?h ?_; case h => first | omega | (intro _; rfl) | assumption | (simp <;> omega)) | refine Ix.zero ?_ | refine Ix.one ?_ | refine Ix.two ?_ | refine Ix.nat ?_ | refine Ix.add ?_ | (apply Go.Eng.Pin.mk; apply Exists.intro) | apply Go.Eng.Pinned.mk rfl rfl | (apply Go.Eng.PinH.mk; apply Exists.intro; apply Exists.intro) | exact Go.Eng.Fin0.mk | refine Go.Eng.Chk.mk ?_ ?_ | refine Own.l ?_ | fail))
  (refine Br.mk (fun _ => ?_) (fun _ => ?_))
  · rename_i h1
    have hc : lstC ls cs len kerf = allE ls cs len kerf := if_pos h1
    have hb : lstB ls cs len kerf = [] := if_pos (by rw [hc]; exact h1)
    rw [hb, hc]
    (repeat' ((conv => whnf); first | (refine Giv.mk fun _ => ?_) | (refine Alt.l (Need.mk ?h ?_); case h => omega) | (refine Alt.r (Need.mk ?h ?_); case h => omega) | (refine Need.mk ?h ?_; case h => first | omega | (intro _; rfl) | assumption | (simp <;> omega)) | refine Ix.zero ?_ | refine Ix.one ?_ | refine Ix.two ?_ | refine Ix.nat ?_ | refine Ix.add ?_ | (apply Go.Eng.Pin.mk; apply Exists.intro) | apply Go.Eng.Pinned.mk rfl rfl | (apply Go.Eng.PinH.mk; apply Exists.intro; apply Exists.intro) | exact Go.Eng.Fin0.mk | refine Go.Eng.Chk.mk ?_ ?_ | refine Own.l ?_ | fail))
    (conv => whnf)
    (repeat' (first | exact trivial | rfl | exact Nat.one_pos | (refine And.intro ?_ ?_) | ((conv => whnf); (refine And.intro ?_ ?_)) | ((conv => whnf); exact trivial)))
  · rename_i h1
    have h0 : allE ls cs len kerf = 0 := Classical.not_not.1 h1
    have hok := okC_of h0
    have hfew := hok.1.few
    have hclen := hok.1.len
    have hall := h.all
    (repeat' ((conv => whnf); first | (refine Giv.mk fun _ => ?_) | (refine Alt.l (Need.mk ?h ?_); case h => omega) | (refine Alt.r (Need.mk ?h ?_); case h => omega) | (refine Need.mk ?h ?_; case h => first | omega | (intro _; rfl) | assumption | (simp <;> omega)) | refine Ix.zero ?_ | refine Ix.one ?_ | refine Ix.two ?_ | refine Ix.nat ?_ | refine Ix.add ?_ | (apply Go.Eng.Pin.mk; apply Exists.intro) | apply Go.Eng.Pinned.mk rfl rfl | (apply Go.Eng.PinH.mk; apply Exists.intro; apply Exists.intro) | exact Go.Eng.Fin0.mk | refine Go.Eng.Chk.mk ?_ ?_ | refine Own.l ?_ | fail))
    refine Ask.mk ⟨{ X := Nat, pre := fun i => i ≤ ls.length ∧ ∀ j, j < i → ¬ (0 < cs.getD j 0 ∧ len < ls.getD j 0), mod := fun i _ => [(36, I i)], mu := fun i => ls.length - i }, rfl, ?_⟩
    (repeat' ((conv => whnf); first | (refine Giv.mk fun _ => ?_) | (refine Alt.l (Need.mk ?h ?_); case h => omega) | (refine Alt.r (Need.mk ?h ?_); case h => omega) | (refine Need.mk ?h ?_; case h => first | omega | (intro _; rfl) | assumption | (simp <;> omega)) | refine Ix.zero ?_ | refine Ix.one ?_ | refine Ix.two ?_ | refine Ix.nat ?_ | refine Ix.add ?_ | (apply Go.Eng.Pin.mk; apply Exists.intro) | apply Go.Eng.Pinned.mk rfl rfl | (apply Go.Eng.PinH.mk; apply Exists.intro; apply Exists.intro) | exact Go.Eng.Fin0.mk | refine Go.Eng.Chk.mk ?_ ?_ | refine Own.l ?_ | fail))
    refine ⟨⟨(0 : Nat), ⟨Nat.zero_le _, fun j hj => by omega⟩, by (repeat' (first | exact trivial | rfl | exact Nat.one_pos | (refine And.intro ?_ ?_) | omega | ((conv => whnf); (refine And.intro ?_ ?_)) | ((conv => whnf); exact trivial)))⟩, fun (i : Nat) hi => ?_⟩
    obtain ⟨hi1, hi2⟩ := hi
    (repeat' ((conv => whnf); first | (refine Giv.mk fun _ => ?_) | (refine Alt.l (Need.mk ?h ?_); case h => omega) | (refine Alt.r (Need.mk ?h ?_); case h => omega) | (refine Need.mk ?h ?_; case h => first | omega | (intro _; rfl) | assumption | (simp <;> omega)) | refine Ix.zero ?_ | refine Ix.one ?_ | refine Ix.two ?_ | refine Ix.nat ?_ | refine Ix.add ?_ | (apply Go.Eng.Pin.mk; apply Exists.intro) | apply Go.Eng.Pinned.mk rfl rfl | (apply Go.Eng.PinH.mk; apply Exists.intro; apply Exists.intro) | exact Go.Eng.Fin0.mk | refine Go.Eng.Chk.mk ?_ ?_ | refine Own.l ?_ | fail))
    (refine Br.mk (fun _ => ?_) (fun _ => ?_))
    · have hlt : i < ls.length := by omega
      have next : ¬ (0 < cs.getD i 0 ∧ len < ls.getD i 0) → ∀ j, j < i + 1 → ¬ (0 < cs.getD j 0 ∧ len < ls.getD j 0) := fun hn j hj => by
        by_cases e : j = i
        · subst e; exact hn
        · exact hi2 j (by omega)
      (repeat' ((conv => whnf); first | (refine Giv.mk fun _ => ?_) | (refine Alt.l (Need.mk ?h ?_); case h => omega) | (refine Alt.r (Need.mk ?h ?_); case h => omega) | (refine Need.mk ?h ?_; case h => first | omega | (intro _; rfl) | assumption | (simp <;> omega)) | refine Ix.zero ?_ | refine Ix.one ?_ | refine Ix.two ?_ | refine Ix.nat ?_ | refine Ix.add ?_ | (apply Go.Eng.Pin.mk; apply Exists.intro) | apply Go.Eng.Pinned.mk rfl rfl | (apply Go.Eng.PinH.mk; apply Exists.intro; apply Exists.intro) | exact Go.Eng.Fin0.mk | refine Go.Eng.Chk.mk ?_ ?_ | refine Own.l ?_ | fail))
      (refine Br.mk (fun _ => ?_) (fun _ => ?_))
      · rename_i g1
        (repeat' ((conv => whnf); first | (refine Giv.mk fun _ => ?_) | (refine Alt.l (Need.mk ?h ?_); case h => omega) | (refine Alt.r (Need.mk ?h ?_); case h => omega) | (refine Need.mk ?h ?_; case h => first | omega | (intro _; rfl) | assumption | (simp <;> omega)) | refine Ix.zero ?_ | refine Ix.one ?_ | refine Ix.two ?_ | refine Ix.nat ?_ | refine Ix.add ?_ | (apply Go.Eng.Pin.mk; apply Exists.intro) | apply Go.Eng.Pinned.mk rfl rfl | (apply Go.Eng.PinH.mk; apply Exists.intro; apply Exists.intro) | exact Go.Eng.Fin0.mk | refine Go.Eng.Chk.mk ?_ ?_ | refine Own.l ?_ | fail))
        (refine Br.mk (fun _ => ?_) (fun _ => ?_))
        · rename_i g2
          have hst := stockE_hit (ls := ls) (cs := cs) (len := len) (i := i) (by omega) ⟨g1, g2⟩
          have hc : lstC ls cs len kerf = 22 := by unfold lstC; rw [if_neg h1, if_pos hst]
          have hb : lstB ls cs len kerf = [] := if_pos (by rw [hc]; decide)
          rw [hb, hc]
          (repeat' ((conv => whnf); first | (refine Giv.mk fun _ => ?_) | (refine Alt.l (Need.mk ?h ?_); case h => omega) | (refine Alt.r (Need.mk ?h ?_); case h => omega) | (refine Need.mk ?h ?_; case h => first | omega | (intro _; rfl) | assumption | (simp <;> omega)) | refine Ix.zero ?_ | refine Ix.one ?_ | refine Ix.two ?_ | refine Ix.nat ?_ | refine Ix.add ?_ | (apply Go.Eng.Pin.mk; apply Exists.intro) | apply Go.Eng.Pinned.mk rfl rfl | (apply Go.Eng.PinH.mk; apply Exists.intro; apply Exists.intro) | exact Go.Eng.Fin0.mk | refine Go.Eng.Chk.mk ?_ ?_ | refine Own.l ?_ | fail))
          (conv => whnf)
          (repeat' (first | exact trivial | rfl | exact Nat.one_pos | (refine And.intro ?_ ?_) | ((conv => whnf); (refine And.intro ?_ ?_)) | ((conv => whnf); exact trivial)))
        · rename_i g2
          (repeat' ((conv => whnf); first | (refine Giv.mk fun _ => ?_) | (refine Alt.l (Need.mk ?h ?_); case h => omega) | (refine Alt.r (Need.mk ?h ?_); case h => omega) | (refine Need.mk ?h ?_; case h => first | omega | (intro _; rfl) | assumption | (simp <;> omega)) | refine Ix.zero ?_ | refine Ix.one ?_ | refine Ix.two ?_ | refine Ix.nat ?_ | refine Ix.add ?_ | (apply Go.Eng.Pin.mk; apply Exists.intro) | apply Go.Eng.Pinned.mk rfl rfl | (apply Go.Eng.PinH.mk; apply Exists.intro; apply Exists.intro) | exact Go.Eng.Fin0.mk | refine Go.Eng.Chk.mk ?_ ?_ | refine Own.l ?_ | fail))
          refine ⟨(i + 1 : Nat), by show ls.length - (i + 1) < ls.length - i; omega, ⟨hlt, next fun hc => g2 hc.2⟩, by (repeat' (first | exact trivial | rfl | exact Nat.one_pos | (refine And.intro ?_ ?_) | omega | ((conv => whnf); (refine And.intro ?_ ?_)) | ((conv => whnf); exact trivial)))⟩
      · rename_i g1
        (repeat' ((conv => whnf); first | (refine Giv.mk fun _ => ?_) | (refine Alt.l (Need.mk ?h ?_); case h => omega) | (refine Alt.r (Need.mk ?h ?_); case h => omega) | (refine Need.mk ?h ?_; case h => first | omega | (intro _; rfl) | assumption | (simp <;> omega)) | refine Ix.zero ?_ | refine Ix.one ?_ | refine Ix.two ?_ | refine Ix.nat ?_ | refine Ix.add ?_ | (apply Go.Eng.Pin.mk; apply Exists.intro) | apply Go.Eng.Pinned.mk rfl rfl | (apply Go.Eng.PinH.mk; apply Exists.intro; apply Exists.intro) | exact Go.Eng.Fin0.mk | refine Go.Eng.Chk.mk ?_ ?_ | refine Own.l ?_ | fail))
        refine ⟨(i + 1 : Nat), by show ls.length - (i + 1) < ls.length - i; omega, ⟨hlt, next fun hc => g1 hc.1⟩, by (repeat' (first | exact trivial | rfl | exact Nat.one_pos | (refine And.intro ?_ ?_) | omega | ((conv => whnf); (refine And.intro ?_ ?_)) | ((conv => whnf); exact trivial)))⟩
    · have hst := stockE_none (ls := ls) (cs := cs) (len := len) fun j hj => hi2 j (by omega)
      have hS := srch_of h h0 hst
      have hc : lstC ls cs len kerf = 0 := by unfold lstC; rw [if_neg h1, if_neg (by rw [hst]; simp)]
      have hb : lstB ls cs len kerf = pathB (allM ls cs len kerf) cs := if_neg (by rw [hc]; decide)
      have har : allR ls cs len kerf = allM ls cs len kerf := if_neg (by rw [h0]; decide)
      rw [hb, hc]
      obtain ⟨A, hA⟩ : ∃ A, allM ls cs len kerf = A := ⟨_, rfl⟩
      rw [hA] at hS har ⊢
      have he := enc_lo hS.tab.c0
      have hsz := hS.tab.prod cs.length (Nat.le_refl _)
      have htab := hS.tab
      (repeat' ((conv => whnf); first | (refine Giv.mk fun _ => ?_) | (refine Alt.l (Need.mk ?h ?_); case h => omega) | (refine Alt.r (Need.mk ?h ?_); case h => omega) | (refine Need.mk ?h ?_; case h => first | omega | (intro _; rfl) | assumption | (simp <;> omega)) | refine Ix.zero ?_ | refine Ix.one ?_ | refine Ix.two ?_ | refine Ix.nat ?_ | refine Ix.add ?_ | (apply Go.Eng.Pin.mk; apply Exists.intro) | apply Go.Eng.Pinned.mk rfl rfl | (apply Go.Eng.PinH.mk; apply Exists.intro; apply Exists.intro) | exact Go.Eng.Fin0.mk | refine Go.Eng.Chk.mk ?_ ?_ | refine Own.l ?_ | fail))
      rw [har, h0]
      refine Br.mkN (by omega) ?_
      (repeat' ((conv => whnf); first | (refine Giv.mk fun _ => ?_) | (refine Alt.l (Need.mk ?h ?_); case h => omega) | (refine Alt.r (Need.mk ?h ?_); case h => omega) | (refine Need.mk ?h ?_; case h => first | omega | (intro _; rfl) | assumption | (simp <;> omega)) | refine Ix.zero ?_ | refine Ix.one ?_ | refine Ix.two ?_ | refine Ix.nat ?_ | refine Ix.add ?_ | (apply Go.Eng.Pin.mk; apply Exists.intro) | apply Go.Eng.Pinned.mk rfl rfl | (apply Go.Eng.PinH.mk; apply Exists.intro; apply Exists.intro) | exact Go.Eng.Fin0.mk | refine Go.Eng.Chk.mk ?_ ?_ | refine Own.l ?_ | fail))
      obtain ⟨S, hS1⟩ : ∃ S : Nat, prodS cs cs.length = (S : Int) := ⟨(prodS cs cs.length).toNat, by omega⟩
      rw [hS1] at hsz he ⊢
      refine Need.mk (show 0 ≤ (S : Int) ∧ (S : Int) ≤ S ∧ (S : Int) ≤ 140737488355328 ∧ (S : Int) * ((8 : Nat) : Int) ≤ 140737488355328 by omega) ?_
      (repeat' ((conv => whnf); first | (refine Giv.mk fun _ => ?_) | (refine Alt.l (Need.mk ?h ?_); case h => omega) | (refine Alt.r (Need.mk ?h ?_); case h => omega) | (refine Need.mk ?h ?_; case h => first | omega | (intro _; rfl) | assumption | (simp <;> omega)) | refine Ix.zero ?_ | refine Ix.one ?_ | refine Ix.two ?_ | refine Ix.nat ?_ | refine Ix.add ?_ | (apply Go.Eng.Pin.mk; apply Exists.intro) | apply Go.Eng.Pinned.mk rfl rfl | (apply Go.Eng.PinH.mk; apply Exists.intro; apply Exists.intro) | exact Go.Eng.Fin0.mk | refine Go.Eng.Chk.mk ?_ ?_ | refine Own.l ?_ | fail))
      refine Ask.mk ⟨{ X := Nat × List Int, pre := fun x => 1 ≤ x.1 ∧ x.1 ≤ S ∧ x.2.length = S ∧ TabT cs A (fun v => loE cs v cs.length) x.2 x.1, mod := fun x _ => [(19, I x.1)], heap := fun x _ => [.vec 1 (.int .i64) [] 3, .cells [Ls cs, Ls (stepsL cs cs.length), I S] 55, .vec 1 (.int .i64) x.2 3, .vec 1 (.int .i64) [] 3, .cells [.ref 2 1] 22], mu := fun x => S - x.1 }, rfl, ?_⟩
      (repeat' ((conv => whnf); first | (refine Giv.mk fun _ => ?_) | (refine Alt.l (Need.mk ?h ?_); case h => omega) | (refine Alt.r (Need.mk ?h ?_); case h => omega) | (refine Need.mk ?h ?_; case h => first | omega | (intro _; rfl) | assumption | (simp <;> omega)) | refine Ix.zero ?_ | refine Ix.one ?_ | refine Ix.two ?_ | refine Ix.nat ?_ | refine Ix.add ?_ | (apply Go.Eng.Pin.mk; apply Exists.intro) | apply Go.Eng.Pinned.mk rfl rfl | (apply Go.Eng.PinH.mk; apply Exists.intro; apply Exists.intro) | exact Go.Eng.Fin0.mk | refine Go.Eng.Chk.mk ?_ ?_ | refine Own.l ?_ | fail))
      refine ⟨⟨((1 : Nat), List.replicate S 0), ⟨Nat.le_refl _, by omega, by simp, TabT.zero hS.cov he S⟩, by (repeat' (first | exact trivial | rfl | exact Nat.one_pos | (refine And.intro ?_ ?_) | omega | ((conv => whnf); (refine And.intro ?_ ?_)) | ((conv => whnf); exact trivial)))⟩, fun (x : Nat × List Int) hx => ?_⟩
      obtain ⟨hx1, hx2, hx3, hx4⟩ := hx
      (repeat' ((conv => whnf); first | (refine Giv.mk fun _ => ?_) | (refine Alt.l (Need.mk ?h ?_); case h => omega) | (refine Alt.r (Need.mk ?h ?_); case h => omega) | (refine Need.mk ?h ?_; case h => first | omega | (intro _; rfl) | assumption | (simp <;> omega)) | refine Ix.zero ?_ | refine Ix.one ?_ | refine Ix.two ?_ | refine Ix.nat ?_ | refine Ix.add ?_ | (apply Go.Eng.Pin.mk; apply Exists.intro) | apply Go.Eng.Pinned.mk rfl rfl | (apply Go.Eng.PinH.mk; apply Exists.intro; apply Exists.intro) | exact Go.Eng.Fin0.mk | refine Go.Eng.Chk.mk ?_ ?_ | refine Own.l ?_ | fail))
      (refine Br.mk (fun _ => ?_) (fun _ => ?_))
      · have hlt : x.1 < S := by omega
        obtain ⟨v, hv, hve⟩ := he.surj x.1 (by omega) (by omega)
        have hve : loE cs v cs.length = x.1 := hve
        have hvp : (loE cs v cs.length).toNat = x.1 := by omega
        have hz := allZ_pos he hv (show 0 < loE cs v cs.length by omega)
        (repeat' ((conv => whnf); first | (refine Giv.mk fun _ => ?_) | (refine Alt.l (Need.mk ?h ?_); case h => omega) | (refine Alt.r (Need.mk ?h ?_); case h => omega) | (refine Need.mk ?h ?_; case h => first | omega | (intro _; rfl) | assumption | (simp <;> omega)) | refine Ix.zero ?_ | refine Ix.one ?_ | refine Ix.two ?_ | refine Ix.nat ?_ | refine Ix.add ?_ | (apply Go.Eng.Pin.mk; apply Exists.intro) | apply Go.Eng.Pinned.mk rfl rfl | (apply Go.Eng.PinH.mk; apply Exists.intro; apply Exists.intro) | exact Go.Eng.Fin0.mk | refine Go.Eng.Chk.mk ?_ ?_ | refine Own.l ?_ | fail))
        refine Ask.mk ⟨{ X := Nat, pre := fun j => j ≤ A.length, mod := fun j _ => [(84, I j)], heap := fun j _ => [.vec 1 (.int .i64) [] 3, .cells [Ls cs, Ls (stepsL cs cs.length), I S] 55, .vec 1 (.int .i64) (x.2.set x.1 (accB A v j)) 3, .vec 1 (.int .i64) [] 3, .cells [.ref 2 1] 22], mu := fun j => A.length - j }, rfl, ?_⟩
        (repeat' ((conv => whnf); first | (refine Giv.mk fun _ => ?_) | (refine Alt.l (Need.mk ?h ?_); case h => omega) | (refine Alt.r (Need.mk ?h ?_); case h => omega) | (refine Need.mk ?h ?_; case h => first | omega | (intro _; rfl) | assumption | (simp <;> omega)) | refine Ix.zero ?_ | refine Ix.one ?_ | refine Ix.two ?_ | refine Ix.nat ?_ | refine Ix.add ?_ | (apply Go.Eng.Pin.mk; apply Exists.intro) | apply Go.Eng.Pinned.mk rfl rfl | (apply Go.Eng.PinH.mk; apply Exists.intro; apply Exists.intro) | exact Go.Eng.Fin0.mk | refine Go.Eng.Chk.mk ?_ ?_ | refine Own.l ?_ | fail))
        refine ⟨⟨(0 : Nat), Nat.zero_le _, by (repeat' (first | exact trivial | rfl | exact Nat.one_pos | (refine And.intro ?_ ?_) | omega | ((conv => whnf); (refine And.intro ?_ ?_)) | ((conv => whnf); exact trivial)))⟩, fun (j : Nat) hj => ?_⟩
        have hj : j ≤ A.length := hj
        (repeat' ((conv => whnf); first | (refine Giv.mk fun _ => ?_) | (refine Alt.l (Need.mk ?h ?_); case h => omega) | (refine Alt.r (Need.mk ?h ?_); case h => omega) | (refine Need.mk ?h ?_; case h => first | omega | (intro _; rfl) | assumption | (simp <;> omega)) | refine Ix.zero ?_ | refine Ix.one ?_ | refine Ix.two ?_ | refine Ix.nat ?_ | refine Ix.add ?_ | (apply Go.Eng.Pin.mk; apply Exists.intro) | apply Go.Eng.Pinned.mk rfl rfl | (apply Go.Eng.PinH.mk; apply Exists.intro; apply Exists.intro) | exact Go.Eng.Fin0.mk | refine Go.Eng.Chk.mk ?_ ?_ | refine Own.l ?_ | fail))
        (refine Br.mk (fun _ => ?_) (fun _ => ?_))
        · have hjl : j < A.length := by omega
          have hL := hS.lessOk hv hjl
          have hpp := (hS.cov.pos j hjl).2
          have hsub := hv.sub hpp
          have r2 : 0 ≤ loE cs (subV v (A.getD j [])) cs.length ∧ loE cs (subV v (A.getD j [])) cs.length < S := he.rng _ hsub
          have hlts : loE cs (subV v (A.getD j [])) cs.length < loE cs v cs.length ↔ subV v (A.getD j []) ≠ v := he.sub_lt hv hpp
          rw [hve] at hlts
          have g2 := hS.rng hsub
          have hcs := hS.cases hv hj
          have hac := hS.acc hv hj
          have e1 : (x.2.set x.1 (accB A v j)).getD x.1 0 = accB A v j := by rw [set_get _ _ _ (by omega), if_pos rfl]
          have e2 : (x.2.set x.1 (accB A v j)).length = S := by simp [hx3]
          have hst := accB_succ A v j hjl
          unfold stepB at hst
          (repeat' ((conv => whnf); first | (refine Giv.mk fun _ => ?_) | (refine Alt.l (Need.mk ?h ?_); case h => omega) | (refine Alt.r (Need.mk ?h ?_); case h => omega) | (refine Need.mk ?h ?_; case h => first | omega | (intro _; rfl) | assumption | (simp <;> omega)) | refine Ix.zero ?_ | refine Ix.one ?_ | refine Ix.two ?_ | refine Ix.nat ?_ | refine Ix.add ?_ | (apply Go.Eng.Pin.mk; apply Exists.intro) | apply Go.Eng.Pinned.mk rfl rfl | (apply Go.Eng.PinH.mk; apply Exists.intro; apply Exists.intro) | exact Go.Eng.Fin0.mk | refine Go.Eng.Chk.mk ?_ ?_ | refine Own.l ?_ | fail))
          refine ⟨v, ⟨hL, rfl, hS1.symm, hve.symm⟩, ?_⟩
          (repeat' ((conv => whnf); first | (refine Giv.mk fun _ => ?_) | (refine Alt.l (Need.mk ?h ?_); case h => omega) | (refine Alt.r (Need.mk ?h ?_); case h => omega) | (refine Need.mk ?h ?_; case h => first | omega | (intro _; rfl) | assumption | (simp <;> omega)) | refine Ix.zero ?_ | refine Ix.one ?_ | refine Ix.two ?_ | refine Ix.nat ?_ | refine Ix.add ?_ | (apply Go.Eng.Pin.mk; apply Exists.intro) | apply Go.Eng.Pinned.mk rfl rfl | (apply Go.Eng.PinH.mk; apply Exists.intro; apply Exists.intro) | exact Go.Eng.Fin0.mk | refine Go.Eng.Chk.mk ?_ ?_ | refine Own.l ?_ | fail))
          (refine Br.mk (fun _ => ?_) (fun _ => ?_))
          · rename_i hn
            have hne := hlts.1 hn
            have t2 : x.2.getD (loE cs (subV v (A.getD j [])) cs.length).toNat 0 = _ := hx4 _ hsub hn
            have e3 : (x.2.set x.1 (accB A v j)).getD (loE cs (subV v (A.getD j [])) cs.length).toNat 0 = barsB A (subV v (A.getD j [])) := by rw [set_get' _ _ _ _ (by omega), t2]
            have hit : (accB A v j < 0 ∨ barsB A (subV v (A.getD j [])) + 1 < accB A v j) → ((x.2.set x.1 (accB A v j)).set x.1 (barsB A (subV v (A.getD j [])) + 1)) = x.2.set x.1 (accB A v (j + 1)) := fun hq => by
              rw [hst, if_pos ⟨hne, hq⟩, List.set_set]
            (repeat' ((conv => whnf); first | (refine Giv.mk fun _ => ?_) | (refine Alt.l (Need.mk ?h ?_); case h => omega) | (refine Alt.r (Need.mk ?h ?_); case h => omega) | (refine Need.mk ?h ?_; case h => first | omega | (intro _; rfl) | assumption | (simp <;> omega)) | refine Ix.zero ?_ | refine Ix.one ?_ | refine Ix.two ?_ | refine Ix.nat ?_ | refine Ix.add ?_ | (apply Go.Eng.Pin.mk; apply Exists.intro) | apply Go.Eng.Pinned.mk rfl rfl | (apply Go.Eng.PinH.mk; apply Exists.intro; apply Exists.intro) | exact Go.Eng.Fin0.mk | refine Go.Eng.Chk.mk ?_ ?_ | refine Own.l ?_ | fail))
            (refine Br.mk (fun _ => ?_) (fun _ => ?_))
            · rename_i hz0
              rw [e1] at hz0
              have hit := hit (.inl hz0)
              (repeat' ((conv => whnf); first | (refine Giv.mk fun _ => ?_) | (refine Alt.l (Need.mk ?h ?_); case h => omega) | (refine Alt.r (Need.mk ?h ?_); case h => omega) | (refine Need.mk ?h ?_; case h => first | omega | (intro _; rfl) | assumption | (simp <;> omega)) | refine Ix.zero ?_ | refine Ix.one ?_ | refine Ix.two ?_ | refine Ix.nat ?_ | refine Ix.add ?_ | (apply Go.Eng.Pin.mk; apply Exists.intro) | apply Go.Eng.Pinned.mk rfl rfl | (apply Go.Eng.PinH.mk; apply Exists.intro; apply Exists.intro) | exact Go.Eng.Fin0.mk | refine Go.Eng.Chk.mk ?_ ?_ | refine Own.l ?_ | fail))
              refine ix_at (loE cs (subV v (A.getD j [])) cs.length).toNat (by omega) ?_
              (repeat' ((conv => whnf); first | (refine Giv.mk fun _ => ?_) | (refine Alt.l (Need.mk ?h ?_); case h => omega) | (refine Alt.r (Need.mk ?h ?_); case h => omega) | (refine Need.mk ?h ?_; case h => first | omega | (intro _; rfl) | assumption | (simp <;> omega)) | refine Ix.zero ?_ | refine Ix.one ?_ | refine Ix.two ?_ | refine Ix.nat ?_ | refine Ix.add ?_ | (apply Go.Eng.Pin.mk; apply Exists.intro) | apply Go.Eng.Pinned.mk rfl rfl | (apply Go.Eng.PinH.mk; apply Exists.intro; apply Exists.intro) | exact Go.Eng.Fin0.mk | refine Go.Eng.Chk.mk ?_ ?_ | refine Own.l ?_ | fail))
              refine ⟨(j + 1 : Nat), by show A.length - (j + 1) < A.length - j; omega, hjl, ?_⟩
              (repeat' (first | exact trivial | rfl | exact Nat.one_pos | (refine And.intro ?_ ?_) | omega | ((conv => whnf); (refine And.intro ?_ ?_)) | ((conv => whnf); exact trivial)))
              (conv => whnf)
              rw [e3]; exact hit
            · rename_i hz0
              rw [e1] at hz0
              (repeat' ((conv => whnf); first | (refine Giv.mk fun _ => ?_) | (refine Alt.l (Need.mk ?h ?_); case h => omega) | (refine Alt.r (Need.mk ?h ?_); case h => omega) | (refine Need.mk ?h ?_; case h => first | omega | (intro _; rfl) | assumption | (simp <;> omega)) | refine Ix.zero ?_ | refine Ix.one ?_ | refine Ix.two ?_ | refine Ix.nat ?_ | refine Ix.add ?_ | (apply Go.Eng.Pin.mk; apply Exists.intro) | apply Go.Eng.Pinned.mk rfl rfl | (apply Go.Eng.PinH.mk; apply Exists.intro; apply Exists.intro) | exact Go.Eng.Fin0.mk | refine Go.Eng.Chk.mk ?_ ?_ | refine Own.l ?_ | fail))
              refine ix_at (loE cs (subV v (A.getD j [])) cs.length).toNat (by omega) ?_
              (repeat' ((conv => whnf); first | (refine Giv.mk fun _ => ?_) | (refine Alt.l (Need.mk ?h ?_); case h => omega) | (refine Alt.r (Need.mk ?h ?_); case h => omega) | (refine Need.mk ?h ?_; case h => first | omega | (intro _; rfl) | assumption | (simp <;> omega)) | refine Ix.zero ?_ | refine Ix.one ?_ | refine Ix.two ?_ | refine Ix.nat ?_ | refine Ix.add ?_ | (apply Go.Eng.Pin.mk; apply Exists.intro) | apply Go.Eng.Pinned.mk rfl rfl | (apply Go.Eng.PinH.mk; apply Exists.intro; apply Exists.intro) | exact Go.Eng.Fin0.mk | refine Go.Eng.Chk.mk ?_ ?_ | refine Own.l ?_ | fail))
              (refine Br.mk (fun _ => ?_) (fun _ => ?_))
              · rename_i hlt2
                rw [e1, e3] at hlt2
                have hit := hit (.inr hlt2)
                (repeat' ((conv => whnf); first | (refine Giv.mk fun _ => ?_) | (refine Alt.l (Need.mk ?h ?_); case h => omega) | (refine Alt.r (Need.mk ?h ?_); case h => omega) | (refine Need.mk ?h ?_; case h => first | omega | (intro _; rfl) | assumption | (simp <;> omega)) | refine Ix.zero ?_ | refine Ix.one ?_ | refine Ix.two ?_ | refine Ix.nat ?_ | refine Ix.add ?_ | (apply Go.Eng.Pin.mk; apply Exists.intro) | apply Go.Eng.Pinned.mk rfl rfl | (apply Go.Eng.PinH.mk; apply Exists.intro; apply Exists.intro) | exact Go.Eng.Fin0.mk | refine Go.Eng.Chk.mk ?_ ?_ | refine Own.l ?_ | fail))
                refine ix_at (loE cs (subV v (A.getD j [])) cs.length).toNat (by omega) ?_
                (repeat' ((conv => whnf); first | (refine Giv.mk fun _ => ?_) | (refine Alt.l (Need.mk ?h ?_); case h => omega) | (refine Alt.r (Need.mk ?h ?_); case h => omega) | (refine Need.mk ?h ?_; case h => first | omega | (intro _; rfl) | assumption | (simp <;> omega)) | refine Ix.zero ?_ | refine Ix.one ?_ | refine Ix.two ?_ | refine Ix.nat ?_ | refine Ix.add ?_ | (apply Go.Eng.Pin.mk; apply Exists.intro) | apply Go.Eng.Pinned.mk rfl rfl | (apply Go.Eng.PinH.mk; apply Exists.intro; apply Exists.intro) | exact Go.Eng.Fin0.mk | refine Go.Eng.Chk.mk ?_ ?_ | refine Own.l ?_ | fail))
                refine ⟨(j + 1 : Nat), by show A.length - (j + 1) < A.length - j; omega, hjl, ?_⟩
                (repeat' (first | exact trivial | rfl | exact Nat.one_pos | (refine And.intro ?_ ?_) | omega | ((conv => whnf); (refine And.intro ?_ ?_)) | ((conv => whnf); exact trivial)))
                (conv => whnf)
                rw [e3]; exact hit
              · rename_i hlt2
                rw [e1, e3] at hlt2
                have hskip : accB A v (j + 1) = accB A v j := by rw [hst, if_neg (fun hq => hq.2.elim hz0 hlt2)]
                (repeat' ((conv => whnf); first | (refine Giv.mk fun _ => ?_) | (refine Alt.l (Need.mk ?h ?_); case h => omega) | (refine Alt.r (Need.mk ?h ?_); case h => omega) | (refine Need.mk ?h ?_; case h => first | omega | (intro _; rfl) | assumption | (simp <;> omega)) | refine Ix.zero ?_ | refine Ix.one ?_ | refine Ix.two ?_ | refine Ix.nat ?_ | refine Ix.add ?_ | (apply Go.Eng.Pin.mk; apply Exists.intro) | apply Go.Eng.Pinned.mk rfl rfl | (apply Go.Eng.PinH.mk; apply Exists.intro; apply Exists.intro) | exact Go.Eng.Fin0.mk | refine Go.Eng.Chk.mk ?_ ?_ | refine Own.l ?_ | fail))
                refine ⟨(j + 1 : Nat), by show A.length - (j + 1) < A.length - j; omega, hjl, ?_⟩
                (repeat' (first | exact trivial | rfl | exact Nat.one_pos | (refine And.intro ?_ ?_) | omega | ((conv => whnf); (refine And.intro ?_ ?_)) | ((conv => whnf); exact trivial)))
                (conv => whnf)
                rw [hskip]
          · rename_i hn
            have hskip : accB A v (j + 1) = accB A v j := by rw [hst, if_neg (fun hq => hn (hlts.2 hq.1))]
            (repeat' ((conv => whnf); first | (refine Giv.mk fun _ => ?_) | (refine Alt.l (Need.mk ?h ?_); case h => omega) | (refine Alt.r (Need.mk ?h ?_); case h => omega) | (refine Need.mk ?h ?_; case h => first | omega | (intro _; rfl) | assumption | (simp <;> omega)) | refine Ix.zero ?_ | refine Ix.one ?_ | refine Ix.two ?_ | refine Ix.nat ?_ | refine Ix.add ?_ | (apply Go.Eng.Pin.mk; apply Exists.intro) | apply Go.Eng.Pinned.mk rfl rfl | (apply Go.Eng.PinH.mk; apply Exists.intro; apply Exists.intro) | exact Go.Eng.Fin0.mk | refine Go.Eng.Chk.mk ?_ ?_ | refine Own.l ?_ | fail))
            refine ⟨(j + 1 : Nat), by show A.length - (j + 1) < A.length - j; omega, hjl, ?_⟩
            (repeat' (first | exact trivial | rfl | exact Nat.one_pos | (refine And.intro ?_ ?_) | omega | ((conv => whnf); (refine And.intro ?_ ?_)) | ((conv => whnf); exact trivial)))
            (conv => whnf)
            rw [hskip]
        · have e : j = A.length := by omega
          subst e
          have hfin := barsB_all hS.cov hv hz
          have hstep : TabT cs A (fun v => loE cs v cs.length) (x.2.set (loE cs v cs.length).toNat (barsB A v)) (loE cs v cs.length + 1) := TabT.step he hv (T := x.2) (by show TabT _ _ _ _ (loE cs v cs.length); rw [hve]; exact hx4) (by show (loE cs v cs.length).toNat < _; omega)
          rw [hvp, hve] at hstep
          (repeat' ((conv => whnf); first | (refine Giv.mk fun _ => ?_) | (refine Alt.l (Need.mk ?h ?_); case h => omega) | (refine Alt.r (Need.mk ?h ?_); case h => omega) | (refine Need.mk ?h ?_; case h => first | omega | (intro _; rfl) | assumption | (simp <;> omega)) | refine Ix.zero ?_ | refine Ix.one ?_ | refine Ix.two ?_ | refine Ix.nat ?_ | refine Ix.add ?_ | (apply Go.Eng.Pin.mk; apply Exists.intro) | apply Go.Eng.Pinned.mk rfl rfl | (apply Go.Eng.PinH.mk; apply Exists.intro; apply Exists.intro) | exact Go.Eng.Fin0.mk | refine Go.Eng.Chk.mk ?_ ?_ | refine Own.l ?_ | fail))
          refine ⟨((x.1 + 1 : Nat), x.2.set x.1 (barsB A v)), ?_, ⟨?_, hlt, by simp [hx3], hstep⟩, ?_⟩
          · show S - (x.1 + 1) < S - x.1
            omega
          · show 1 ≤ x.1 + 1
            omega
          · (repeat' (first | exact trivial | rfl | exact Nat.one_pos | (refine And.intro ?_ ?_) | omega | ((conv => whnf); (refine And.intro ?_ ?_)) | ((conv => whnf); exact trivial)))
            (conv => whnf)
            rw [hfin]
      · have e : x.1 = S := by omega
        have htl : (x.2.length : Int) = prodS cs cs.length := by omega
        have hfull : loE cs cs cs.length = (S : Int) - 1 := he.full
        have hGood : ∀ w, Vec cs w → GoodOk cs A x.2 w := fun w hw => ⟨hS, hw, htl, by rw [hS1, ← e]; exact hx4⟩
        have hv := vec_self hS.tab.c0
        have hw := h.wgt h0
        have hout : pathB A cs = [] ++ pathB A cs := rfl
        have hstep : ∀ (v : List Int) (out : List Int) (m : Nat), Vec cs v → 0 < loE cs v cs.length → wgt v ≤ m + 1 → pathB A cs = out ++ pathB A v → (allZ v = false ∧ firstI A v < A.length ∧ LessOk cs (A.getD (firstI A v) []) v ∧ Vec cs (subV v (A.getD (firstI A v) [])) ∧ wgt (subV v (A.getD (firstI A v) [])) ≤ m ∧ pathB A cs = (out ++ [(firstI A v : Int)]) ++ pathB A (subV v (A.getD (firstI A v) []))) := fun v out m hv hpos hw hout => by
          have hz := allZ_pos he hv hpos
          obtain ⟨f1, f2, f3⟩ := firstI_spec hS.cov hv hz
          have hne := (of_decide_eq_true f2).1
          have hpp := (hS.cov.pos _ f1).2
          have := wgt_sub hv.nneg (fun t ht => hpp t (by rw [← hv.len]; exact ht)) hne
          refine ⟨hz, f1, hS.lessOk hv f1, hv.sub hpp, by omega, ?_⟩
          rw [hout, pathB_step hS.cov hv hz]; simp
        have hend : ∀ v : List Int, Vec cs v → ¬ 0 < loE cs v cs.length → pathB A v = [] := fun v hv hn => pathB_zero (vec_end he hv hn)
        have hlast : ∀ v : List Int, Vec cs v → wgt v ≤ 0 → ¬ 0 < loE cs v cs.length := fun v hv hw hpos => by
          have hz := allZ_pos he hv hpos
          obtain ⟨f1, f2, f3⟩ := firstI_spec hS.cov hv hz
          have hne := (of_decide_eq_true f2).1
          have hpp := (hS.cov.pos _ f1).2
          have := wgt_sub hv.nneg (fun t ht => hpp t (by rw [← hv.len]; exact ht)) hne
          omega
        (repeat' ((conv => whnf); first | (refine Giv.mk fun _ => ?_) | (refine Alt.l (Need.mk ?h ?_); case h => omega) | (refine Alt.r (Need.mk ?h ?_); case h => omega) | (refine Need.mk ?h ?_; case h => first | omega | (intro _; rfl) | assumption | (simp <;> omega)) | refine Ix.zero ?_ | refine Ix.one ?_ | refine Ix.two ?_ | refine Ix.nat ?_ | refine Ix.add ?_ | (apply Go.Eng.Pin.mk; apply Exists.intro) | apply Go.Eng.Pinned.mk rfl rfl | (apply Go.Eng.PinH.mk; apply Exists.intro; apply Exists.intro) | exact Go.Eng.Fin0.mk | refine Go.Eng.Chk.mk ?_ ?_ | refine Own.l ?_ | fail))
        refine Ask.mk ⟨{ X := List Int × List Int, pre := fun y => Vec cs y.1 ∧ pathB A cs = y.2 ++ pathB A y.1 ∧ y.2.length + wgt y.1 ≤ 16, mod := fun y _ => [(23, .ref 5 1), (24, .ptr 6 0)], heap := fun y _ => [.vec 1 (.int .i64) [] 3, .cells [Ls cs, Ls (stepsL cs cs.length), I S] 55, .vec 1 (.int .i64) x.2 3, .vec 1 (.int .i64) [] 3, .cells [.ref 2 1] 22, .vec 1 (.int .i64) y.2 3, .cells [I (loE cs y.1 cs.length)] 3], objs := [5, 6], mu := fun y => (wgt y.1), swp := some (24, 6) }, rfl, ?_⟩
        (repeat' ((conv => whnf); first | (refine Giv.mk fun _ => ?_) | (refine Alt.l (Need.mk ?h ?_); case h => omega) | (refine Alt.r (Need.mk ?h ?_); case h => omega) | (refine Need.mk ?h ?_; case h => first | omega | (intro _; rfl) | assumption | (simp <;> omega)) | refine Ix.zero ?_ | refine Ix.one ?_ | refine Ix.two ?_ | refine Ix.nat ?_ | refine Ix.add ?_ | (apply Go.Eng.Pin.mk; apply Exists.intro) | apply Go.Eng.Pinned.mk rfl rfl | (apply Go.Eng.PinH.mk; apply Exists.intro; apply Exists.intro) | exact Go.Eng.Fin0.mk | refine Go.Eng.Chk.mk ?_ ?_ | refine Own.l ?_ | fail))
        refine ⟨⟨(cs, []), ⟨hv, rfl, by simpa using hw⟩, by (repeat' (first | exact trivial | rfl | exact Nat.one_pos | (refine And.intro ?_ ?_) | omega | ((conv => whnf); (refine And.intro ?_ ?_)) | ((conv => whnf); exact trivial))); exact hfull.symm⟩, fun (y : List Int × List Int) hy => ?_⟩
        obtain ⟨v, out⟩ := y
        obtain ⟨hv, hout, hw⟩ := hy
        have hv : Vec cs v := hv
        have hout : pathB A cs = out ++ pathB A v := hout
        have hw : out.length + wgt v ≤ 16 := hw
        (repeat' ((conv => whnf); first | (refine Giv.mk fun _ => ?_) | (refine Alt.l (Need.mk ?h ?_); case h => omega) | (refine Alt.r (Need.mk ?h ?_); case h => omega) | (refine Need.mk ?h ?_; case h => first | omega | (intro _; rfl) | assumption | (simp <;> omega)) | refine Ix.zero ?_ | refine Ix.one ?_ | refine Ix.two ?_ | refine Ix.nat ?_ | refine Ix.add ?_ | (apply Go.Eng.Pin.mk; apply Exists.intro) | apply Go.Eng.Pinned.mk rfl rfl | (apply Go.Eng.PinH.mk; apply Exists.intro; apply Exists.intro) | exact Go.Eng.Fin0.mk | refine Go.Eng.Chk.mk ?_ ?_ | refine Own.l ?_ | fail))
        (refine Br.mk (fun _ => ?_) (fun _ => ?_))
        · rename_i hpos
          obtain ⟨hz, f1, hL, hv2, hw2, hout2⟩ := hstep v out (wgt v - 1) hv hpos (by omega) hout
          have hw3 : 0 < wgt v := by
            rcases Nat.eq_zero_or_pos (wgt v) with h | h
            · exact absurd hpos (hlast v hv (by omega))
            · exact h
          (repeat' ((conv => whnf); first | (refine Giv.mk fun _ => ?_) | (refine Alt.l (Need.mk ?h ?_); case h => omega) | (refine Alt.r (Need.mk ?h ?_); case h => omega) | (refine Need.mk ?h ?_; case h => first | omega | (intro _; rfl) | assumption | (simp <;> omega)) | refine Ix.zero ?_ | refine Ix.one ?_ | refine Ix.two ?_ | refine Ix.nat ?_ | refine Ix.add ?_ | (apply Go.Eng.Pin.mk; apply Exists.intro) | apply Go.Eng.Pinned.mk rfl rfl | (apply Go.Eng.PinH.mk; apply Exists.intro; apply Exists.intro) | exact Go.Eng.Fin0.mk | refine Go.Eng.Chk.mk ?_ ?_ | refine Own.l ?_ | fail))
          refine ⟨v, ⟨⟨hGood v hv, hz⟩, rfl, hS1.symm, rfl⟩, ?_⟩
          (repeat' ((conv => whnf); first | (refine Giv.mk fun _ => ?_) | (refine Alt.l (Need.mk ?h ?_); case h => omega) | (refine Alt.r (Need.mk ?h ?_); case h => omega) | (refine Need.mk ?h ?_; case h => first | omega | (intro _; rfl) | assumption | (simp <;> omega)) | refine Ix.zero ?_ | refine Ix.one ?_ | refine Ix.two ?_ | refine Ix.nat ?_ | refine Ix.add ?_ | (apply Go.Eng.Pin.mk; apply Exists.intro) | apply Go.Eng.Pinned.mk rfl rfl | (apply Go.Eng.PinH.mk; apply Exists.intro; apply Exists.intro) | exact Go.Eng.Fin0.mk | refine Go.Eng.Chk.mk ?_ ?_ | refine Own.l ?_ | fail))
          refine ⟨v, ⟨hL, rfl, hS1.symm, rfl⟩, ?_⟩
          (repeat' ((conv => whnf); first | (refine Giv.mk fun _ => ?_) | (refine Alt.l (Need.mk ?h ?_); case h => omega) | (refine Alt.r (Need.mk ?h ?_); case h => omega) | (refine Need.mk ?h ?_; case h => first | omega | (intro _; rfl) | assumption | (simp <;> omega)) | refine Ix.zero ?_ | refine Ix.one ?_ | refine Ix.two ?_ | refine Ix.nat ?_ | refine Ix.add ?_ | (apply Go.Eng.Pin.mk; apply Exists.intro) | apply Go.Eng.Pinned.mk rfl rfl | (apply Go.Eng.PinH.mk; apply Exists.intro; apply Exists.intro) | exact Go.Eng.Fin0.mk | refine Go.Eng.Chk.mk ?_ ?_ | refine Own.l ?_ | fail))
          refine ⟨(subV v (A.getD (firstI A v) []), out ++ [(firstI A v : Int)]), by show wgt (subV _ _) < wgt v; omega, ?_⟩
          (conv => whnf)
          refine ⟨⟨hv2, hout2, by simp only [List.length_append, List.length_singleton]; omega⟩, by (repeat' (first | exact trivial | rfl | exact Nat.one_pos | (refine And.intro ?_ ?_) | omega | ((conv => whnf); (refine And.intro ?_ ?_)) | ((conv => whnf); exact trivial)))⟩
        · rename_i hpos
          have hp := hend _ hv hpos
          rw [hp, List.append_nil] at hout
          rw [hout]
          (repeat' ((conv => whnf); first | (refine Giv.mk fun _ => ?_) | (refine Alt.l (Need.mk ?h ?_); case h => omega) | (refine Alt.r (Need.mk ?h ?_); case h => omega) | (refine Need.mk ?h ?_; case h => first | omega | (intro _; rfl) | assumption | (simp <;> omega)) | refine Ix.zero ?_ | refine Ix.one ?_ | refine Ix.two ?_ | refine Ix.nat ?_ | refine Ix.add ?_ | (apply Go.Eng.Pin.mk; apply Exists.intro) | apply Go.Eng.Pinned.mk rfl rfl | (apply Go.Eng.PinH.mk; apply Exists.intro; apply Exists.intro) | exact Go.Eng.Fin0.mk | refine Go.Eng.Chk.mk ?_ ?_ | refine Own.l ?_ | fail))
          (conv => whnf)
          (repeat' (first | exact trivial | rfl | exact Nat.one_pos | (refine And.intro ?_ ?_) | ((conv => whnf); (refine And.intro ?_ ?_)) | ((conv => whnf); exact trivial)))
def c15 : Con := mkCon 15 false fun args K => match args with | [.seq (.int .i64) ls, .seq (.int .i64) cs, .val (.int .i64 len), .val (.int .i64 kerf)] => Need (LeastOk ls cs len kerf) (K (.tup [I (lstB ls cs len kerf).length, Ls (lstB ls cs len kerf), I (lstC ls cs len kerf)])) | _ => False
theorem k15 : ConOK Try.prog c15 := by
  refine conOK_of rfl (enters_of Try.func15 (by kernel_rfl) rfl) ?_
  intro args K h
  simp only [c15] at h
  split at h
  · rename_i ls cs len kerf; exact ⟨_, h.go, tri_of_body (Γ := [c34, c13, c41, c42, cL43]) (by simp [k34, k13, k41, k42, kL43]) Try.func15 (by simp [Try.ntmps15]) rfl (b15 ls cs len kerf h.ok)⟩
  · exact h.elim
end PB
end
section
set_option linter.unusedVariables false
open Go Go.Proofs Go.Eng Go.Shelf
namespace PB
set_option maxRecDepth 100000
set_option linter.unusedVariables false
theorem flat_len {α β : Type} (f : α → List β) (m : Nat) : ∀ xs : List α, (∀ x ∈ xs, (f x).length ≤ m) → (xs.flatMap f).length ≤ xs.length * m
  | [], _ => by simp
  | x :: xs, h => by
    have h1 := h x List.mem_cons_self
    have h2 := flat_len f m xs fun y hy => h y (List.mem_cons_of_mem _ hy)
    rw [List.flatMap_cons, List.length_append, List.length_cons, Nat.add_mul, Nat.one_mul]
    omega
theorem pats_len (kerf : Int) : ∀ (ls cs : List Int) (room : Int), cs.length = ls.length → (∀ i, i < ls.length → 0 ≤ cs.getD i 0 ∧ cs.getD i 0 ≤ 4) → (pats kerf ls cs room).length ≤ 5 ^ ls.length
  | [], _, _, _, _ => by simp [pats]
  | l :: ls, c :: cs, room, hl, hc => by
    simp only [pats, List.headD_cons, List.tail_cons]
    have h0 := hc 0 (by simp)
    simp only [List.getD_cons_zero] at h0
    have hm : most kerf l c room ≤ 4 := by unfold most; omega
    have := flat_len (fun (n : Nat) => (pats kerf ls cs (room - n * (l + kerf))).map ((n : Int) :: ·)) (5 ^ ls.length) (down (most kerf l c room)) fun n _ => by
      rw [List.length_map]
      exact pats_len kerf ls cs _ (by simpa using hl) fun i hi => by simpa using hc (i + 1) (by simpa using hi)
    rw [down_len] at this
    have h2 : (most kerf l c room + 1) * 5 ^ ls.length ≤ 5 * 5 ^ ls.length := Nat.mul_le_mul_right _ (by omega)
    rw [List.length_cons, Nat.pow_succ]
    omega
theorem small_of {ls cs : List Int} {len kerf : Int} (hg : greatE ls cs = false) (h0 : allE ls cs len kerf = 0) : ls.length ≤ 4 ∧ ∀ i, i < ls.length → 0 ≤ cs.getD i 0 ∧ cs.getD i 0 ≤ 4 := by
  have hok := okC_of h0
  unfold greatE at hg
  rw [Bool.or_eq_false_iff] at hg
  obtain ⟨h1, h2⟩ := hg
  have h2 := of_decide_eq_false h2
  refine ⟨by have := hok.1.few; omega, fun i hi => ?_⟩
  have h3 := hok.1.cB i hi
  have hi' : i < cs.length := by rw [hok.1.len]; exact hi
  rw [List.any_eq_false] at h1
  have h4 := h1 _ (List.getElem_mem hi')
  have e : cs.getD i 0 = cs[i] := by simp [List.getD_eq_getElem?_getD, hi']
  rw [← e] at h4
  simp only [decide_eq_true_eq] at h4
  omega
theorem small_least {ls cs : List Int} {len kerf : Int} (hs : allE ls cs len kerf = 0 → ls.length ≤ 4 ∧ ∀ i, i < ls.length → 0 ≤ cs.getD i 0 ∧ cs.getD i 0 ≤ 4) : LeastOk ls cs len kerf := by
  have hall : AllOk ls cs len kerf := fun h0 => by
    obtain ⟨h1, h2⟩ := hs h0
    have hl := (okC_of h0).1.len
    have h3 : (allP ls cs len kerf).length ≤ 5 ^ ls.length := pats_len kerf ls cs (len + kerf) hl h2
    have h4 : 5 ^ ls.length ≤ 5 ^ 4 := Nat.pow_le_pow_right (by decide) h1
    omega
  refine ⟨hall, fun h0 => ?_, fun h0 => ?_⟩
  · obtain ⟨h1, h2⟩ := hs h0
    have hl := (okC_of h0).1.len
    have key : ∀ k, k ≤ cs.length → 0 ≤ prodS cs k ∧ prodS cs k ≤ 5 ^ k := by
      intro k
      induction k with
      | zero => intro _; simp [prodS]
      | succ k ih =>
        intro hk
        have h3 := ih (by omega)
        have h4 := h2 k (by omega)
        have h5 := mul_range (a := prodS cs k) (b := cs.getD k 0 + 1) (A := 5 ^ k) (B := 5) h3 ⟨by omega, by omega⟩
        simp only [prodS]
        rw [Int.pow_succ]
        exact h5
    have h3 := (key cs.length (Nat.le_refl _)).2
    have h4 : (5 : Int) ^ cs.length ≤ 5 ^ 4 := by
      have : 5 ^ cs.length ≤ 5 ^ 4 := Nat.pow_le_pow_right (by decide) (by omega)
      exact_mod_cast this
    omega
  · obtain ⟨h1, h2⟩ := hs h0
    have hl := (okC_of h0).1.len
    have key : ∀ k, k ≤ cs.length → sumP cs k ≤ 4 * k := by
      intro k
      induction k with
      | zero => intro _; simp [sumP]
      | succ k ih =>
        intro hk
        have h3 := ih (by omega)
        have h4 := h2 k (by omega)
        rw [sumP_succ]; omega
    have := key cs.length (Nat.le_refl _)
    unfold wgt
    omega
theorem great_least {ls cs : List Int} {len kerf : Int} (hg : greatE ls cs = false) : LeastOk ls cs len kerf := small_least fun h0 => small_of hg h0
end PB
end
section
set_option linter.unusedVariables false
open Go Go.Proofs Go.Eng Go.Shelf
namespace PB
set_option maxRecDepth 100000
set_option linter.unusedVariables false
theorem b12 : body Try.prog [c13, c15, c17, c18] {} true Try.f12 [] (.val (.bool true)) := by
  have hE : allE [5, 3] [3, 3] 13 0 = 0 := by decide +kernel
  have hR : allR [5, 3] [3, 3] 13 0 = [[2, 1], [1, 2], [0, 3]] := by decide +kernel
  have hC : lstC [5, 3] [3, 3] 13 0 = 0 := by decide +kernel
  have hB : lstB [5, 3] [3, 3] 13 0 = [0, 1] := by decide +kernel
  have hL : LeastOk [5, 3] [3, 3] 13 0 := small_least fun _ => ⟨by decide, by decide⟩
  (repeat' ((conv => whnf); first | (refine Giv.mk fun _ => ?_) | (refine Alt.l (Need.mk ?h ?_); case h => omega) | (refine Alt.r (Need.mk ?h ?_); case h => omega) | (refine Need.mk ?h ?_; case h => first | omega | (intro _; rfl) | assumption | (simp <;> omega)) | refine Ix.zero ?_ | refine Ix.one ?_ | refine Ix.two ?_ | refine Ix.nat ?_ | refine Ix.add ?_ | (apply Go.Eng.Pin.mk; apply Exists.intro) | apply Go.Eng.Pinned.mk rfl rfl | (apply Go.Eng.PinH.mk; apply Exists.intro; apply Exists.intro) | exact Go.Eng.Fin0.mk | refine Go.Eng.Chk.mk ?_ ?_ | refine Own.l ?_ | fail))
  refine Need.mk hL.all ?_
  rw [hE, hR]
  (repeat' ((conv => whnf); first | (refine Giv.mk fun _ => ?_) | (refine Alt.l (Need.mk ?h ?_); case h => omega) | (refine Alt.r (Need.mk ?h ?_); case h => omega) | (refine Need.mk ?h ?_; case h => first | omega | (intro _; rfl) | assumption | (simp <;> omega)) | refine Ix.zero ?_ | refine Ix.one ?_ | refine Ix.two ?_ | refine Ix.nat ?_ | refine Ix.add ?_ | (apply Go.Eng.Pin.mk; apply Exists.intro) | apply Go.Eng.Pinned.mk rfl rfl | (apply Go.Eng.PinH.mk; apply Exists.intro; apply Exists.intro) | exact Go.Eng.Fin0.mk | refine Go.Eng.Chk.mk ?_ ?_ | refine Own.l ?_ | fail))
  rw [hC, hB]
  repeat (refine Br.mkY rfl ?_; (repeat' ((conv => whnf); first | (refine Giv.mk fun _ => ?_) | (refine Alt.l (Need.mk ?h ?_); case h => omega) | (refine Alt.r (Need.mk ?h ?_); case h => omega) | (refine Need.mk ?h ?_; case h => first | omega | (intro _; rfl) | assumption | (simp <;> omega)) | refine Ix.zero ?_ | refine Ix.one ?_ | refine Ix.two ?_ | refine Ix.nat ?_ | refine Ix.add ?_ | (apply Go.Eng.Pin.mk; apply Exists.intro) | apply Go.Eng.Pinned.mk rfl rfl | (apply Go.Eng.PinH.mk; apply Exists.intro; apply Exists.intro) | exact Go.Eng.Fin0.mk | refine Go.Eng.Chk.mk ?_ ?_ | refine Own.l ?_ | fail)))
  (conv => whnf)
  exact ⟨fun _ => rfl, fun _ => rfl⟩
def c12 : Con := mkCon 12 true fun args K => match args with | [] => K (.val (.bool true)) | _ => False
theorem k12 : ConOK Try.prog c12 := by
  refine conOK_of rfl (enters_of Try.func12 (by kernel_rfl) rfl) ?_
  intro args K h
  simp only [c12] at h
  split at h
  · exact ⟨_, h, tri_of_body (Γ := [c13, c15, c17, c18]) (by simp [k13, k15, k17, k18]) Try.func12 (by simp [Try.ntmps12]) rfl b12⟩
  · exact h.elim
theorem b3 (ls cs : List Int) (len kerf : Int) : body Try.prog [c11, c12, c13, c14, c15, c16, c17, c18] {} true Try.f3 [Ls ls, Ls cs, I len, I kerf] (.val (.bool true)) := by
  (repeat' ((conv => whnf); first | (refine Giv.mk fun _ => ?_) | (refine Alt.l (Need.mk ?h ?_); case h => omega) | (refine Alt.r (Need.mk ?h ?_); case h => omega) | (refine Need.mk ?h ?_; case h => first | omega | (intro _; rfl) | assumption | (simp <;> omega)) | refine Ix.zero ?_ | refine Ix.one ?_ | refine Ix.two ?_ | refine Ix.nat ?_ | refine Ix.add ?_ | (apply Go.Eng.Pin.mk; apply Exists.intro) | apply Go.Eng.Pinned.mk rfl rfl | (apply Go.Eng.PinH.mk; apply Exists.intro; apply Exists.intro) | exact Go.Eng.Fin0.mk | refine Go.Eng.Chk.mk ?_ ?_ | refine Own.l ?_ | fail))
  (refine Br.mk (fun _ => ?_) (fun _ => ?_))
  · (repeat' ((conv => whnf); first | (refine Giv.mk fun _ => ?_) | (refine Alt.l (Need.mk ?h ?_); case h => omega) | (refine Alt.r (Need.mk ?h ?_); case h => omega) | (refine Need.mk ?h ?_; case h => first | omega | (intro _; rfl) | assumption | (simp <;> omega)) | refine Ix.zero ?_ | refine Ix.one ?_ | refine Ix.two ?_ | refine Ix.nat ?_ | refine Ix.add ?_ | (apply Go.Eng.Pin.mk; apply Exists.intro) | apply Go.Eng.Pinned.mk rfl rfl | (apply Go.Eng.PinH.mk; apply Exists.intro; apply Exists.intro) | exact Go.Eng.Fin0.mk | refine Go.Eng.Chk.mk ?_ ?_ | refine Own.l ?_ | fail))
    (conv => whnf)
    (repeat' (first | exact trivial | rfl | exact Nat.one_pos | (refine And.intro ?_ ?_) | ((conv => whnf); (refine And.intro ?_ ?_)) | ((conv => whnf); exact trivial)))
  · rename_i hg
    have hg : greatE ls cs = false := by simpa using hg
    have hL := great_least (len := len) (kerf := kerf) hg
    (repeat' ((conv => whnf); first | (refine Giv.mk fun _ => ?_) | (refine Alt.l (Need.mk ?h ?_); case h => omega) | (refine Alt.r (Need.mk ?h ?_); case h => omega) | (refine Need.mk ?h ?_; case h => first | omega | (intro _; rfl) | assumption | (simp <;> omega)) | refine Ix.zero ?_ | refine Ix.one ?_ | refine Ix.two ?_ | refine Ix.nat ?_ | refine Ix.add ?_ | (apply Go.Eng.Pin.mk; apply Exists.intro) | apply Go.Eng.Pinned.mk rfl rfl | (apply Go.Eng.PinH.mk; apply Exists.intro; apply Exists.intro) | exact Go.Eng.Fin0.mk | refine Go.Eng.Chk.mk ?_ ?_ | refine Own.l ?_ | fail))
    refine Need.mk hL.all ?_
    (repeat' ((conv => whnf); first | (refine Giv.mk fun _ => ?_) | (refine Alt.l (Need.mk ?h ?_); case h => omega) | (refine Alt.r (Need.mk ?h ?_); case h => omega) | (refine Need.mk ?h ?_; case h => first | omega | (intro _; rfl) | assumption | (simp <;> omega)) | refine Ix.zero ?_ | refine Ix.one ?_ | refine Ix.two ?_ | refine Ix.nat ?_ | refine Ix.add ?_ | (apply Go.Eng.Pin.mk; apply Exists.intro) | apply Go.Eng.Pinned.mk rfl rfl | (apply Go.Eng.PinH.mk; apply Exists.intro; apply Exists.intro) | exact Go.Eng.Fin0.mk | refine Go.Eng.Chk.mk ?_ ?_ | refine Own.l ?_ | fail))
    refine Need.mk hL.all ?_
    (repeat' ((conv => whnf); first | (refine Giv.mk fun _ => ?_) | (refine Alt.l (Need.mk ?h ?_); case h => omega) | (refine Alt.r (Need.mk ?h ?_); case h => omega) | (refine Need.mk ?h ?_; case h => first | omega | (intro _; rfl) | assumption | (simp <;> omega)) | refine Ix.zero ?_ | refine Ix.one ?_ | refine Ix.two ?_ | refine Ix.nat ?_ | refine Ix.add ?_ | (apply Go.Eng.Pin.mk; apply Exists.intro) | apply Go.Eng.Pinned.mk rfl rfl | (apply Go.Eng.PinH.mk; apply Exists.intro; apply Exists.intro) | exact Go.Eng.Fin0.mk | refine Go.Eng.Chk.mk ?_ ?_ | refine Own.l ?_ | fail))
    repeat (refine Br.mkY rfl ?_; (repeat' ((conv => whnf); first | (refine Giv.mk fun _ => ?_) | (refine Alt.l (Need.mk ?h ?_); case h => omega) | (refine Alt.r (Need.mk ?h ?_); case h => omega) | (refine Need.mk ?h ?_; case h => first | omega | (intro _; rfl) | assumption | (simp <;> omega)) | refine Ix.zero ?_ | refine Ix.one ?_ | refine Ix.two ?_ | refine Ix.nat ?_ | refine Ix.add ?_ | (apply Go.Eng.Pin.mk; apply Exists.intro) | apply Go.Eng.Pinned.mk rfl rfl | (apply Go.Eng.PinH.mk; apply Exists.intro; apply Exists.intro) | exact Go.Eng.Fin0.mk | refine Go.Eng.Chk.mk ?_ ?_ | refine Own.l ?_ | fail)))
    (conv => whnf)
    (repeat' (first | exact trivial | rfl | exact Nat.one_pos | (refine And.intro ?_ ?_) | ((conv => whnf); (refine And.intro ?_ ?_)) | ((conv => whnf); exact trivial)))
end PB
end
section
set_option linter.unusedVariables false
open Go Go.Proofs Go.Eng Go.Shelf
namespace PB
set_option maxRecDepth 10000
set_option linter.unusedVariables false
def Pat (ls : List Int) (kerf room : Int) (p : List Int) : Prop := (∀ i, i < ls.length → 0 ≤ p.getD i 0) ∧ usedK ls kerf p ls.length ≤ room
def totP (ps : List (List Int)) (i : Nat) : Int := (ps.map fun p => p.getD i 0).sum
def Cover (ls : List Int) (kerf room : Int) (v : List Int) (n : Nat) : Prop := ∃ ps : List (List Int), ps.length = n ∧ (∀ p ∈ ps, Pat ls kerf room p) ∧ ∀ i, i < ls.length → v.getD i 0 ≤ totP ps i
theorem Cover.mono {ls : List Int} {kerf room room' : Int} {v w : List Int} {n : Nat} (h : Cover ls kerf room v n) (hr : room ≤ room') (hw : ∀ i, i < ls.length → w.getD i 0 ≤ v.getD i 0) : Cover ls kerf room' w n := by
  obtain ⟨ps, h1, h2, h3⟩ := h
  exact ⟨ps, h1, fun p hp => ⟨(h2 p hp).1, Int.le_trans (h2 p hp).2 hr⟩, fun i hi => Int.le_trans (hw i hi) (h3 i hi)⟩
theorem Cover.add {ls : List Int} {kerf room : Int} {v w p : List Int} {n : Nat} (h : Cover ls kerf room v n) (hp : Pat ls kerf room p) (hw : ∀ i, i < ls.length → w.getD i 0 ≤ v.getD i 0 + p.getD i 0) : Cover ls kerf room w (n + 1) := by
  obtain ⟨ps, h1, h2, h3⟩ := h
  refine ⟨p :: ps, by simp [h1], fun q hq => ?_, fun i hi => ?_⟩
  · rcases List.mem_cons.1 hq with rfl | hq
    · exact hp
    · exact h2 q hq
  · have h4 := h3 i hi
    have h5 := hw i hi
    show _ ≤ (((p :: ps).map fun p => p.getD i 0).sum)
    rw [List.map_cons, List.sum_cons]
    have : totP ps i = (ps.map fun p => p.getD i 0).sum := rfl
    omega
structure Sit (ls cs : List Int) (len kerf : Int) : Prop where
  ok : OkC ls cs kerf ∧ 0 ≤ len ∧ len ≤ 1048576
  s : Srch cs (allM ls cs len kerf)
theorem Sit.pat {ls cs : List Int} {len kerf : Int} (h : Sit ls cs len kerf) {j : Nat} (hj : j < (allM ls cs len kerf).length) : Fit ls cs ((allM ls cs len kerf).getD j []) len kerf := mem_fit h.ok ((allM_mem h.ok).1 (allM_get hj)).1
theorem usedK_le {ls p q : List Int} {kerf : Int} (hn : ∀ i, i < ls.length → 0 < ls.getD i 0 + kerf) (h : ∀ i, i < ls.length → p.getD i 0 ≤ q.getD i 0) : ∀ k, k ≤ ls.length → usedK ls kerf p k ≤ usedK ls kerf q k
  | 0, _ => Int.le_refl _
  | k + 1, hk => by
    rw [usedK_succ, usedK_succ]
    have h1 := usedK_le hn h k (by omega)
    have h2 := Int.mul_le_mul_of_nonneg_right (h k (by omega)) (Int.le_of_lt (hn k (by omega)))
    omega
theorem Sit.need {ls cs : List Int} {len kerf : Int} (h : Sit ls cs len kerf) : ∀ i, i < ls.length → 0 < ls.getD i 0 + kerf := fun i hi => by
  have := h.ok.1.lB i hi; have := h.ok.1.k0; omega
theorem cover_bars {ls cs : List Int} {len kerf : Int} (h : Sit ls cs len kerf) : ∀ (m : Nat) (v : List Int), wgt v ≤ m → Vec cs v → Cover ls kerf (len + kerf) v (barsB (allM ls cs len kerf) v).toNat
  | m, v, hm, hv => by
    have hl := h.ok.1.len
    cases hz : allZ v with
    | true =>
      rw [barsB_zero h.s.cov hv hz]
      refine ⟨[], rfl, fun p hp => by simp at hp, fun i hi => ?_⟩
      rw [(allZ_iff v).1 hz i (by rw [hv.len, hl]; exact hi)]
      exact Int.le_refl _
    | false =>
      obtain ⟨g1, ⟨j, q1, q2, q3⟩, _⟩ := (barsB_spec h.s.cov _ v (Nat.le_refl _) hv).2 hz
      have hp := (h.s.cov.pos j q1).2
      have hw := wgt_sub hv.nneg (fun i hi => hp i (by rw [← hv.len]; exact hi)) q2
      have hsub := hv.sub hp
      have g2 := (h.s.rng hsub).1
      cases m with
      | zero => omega
      | succ m =>
        have ih := cover_bars h m _ (by omega) hsub
        have hf := h.pat q1
        have e : (barsB (allM ls cs len kerf) v).toNat = (barsB (allM ls cs len kerf) (subV v ((allM ls cs len kerf).getD j []))).toNat + 1 := by omega
        rw [e]
        refine ih.add ⟨fun i hi => (hf.qB i hi).1, hf.room⟩ fun i hi => ?_
        rw [subV_get _ _ i (by rw [hv.len, hl]; exact hi)]
        omega
theorem bars_cover {ls cs : List Int} {len kerf : Int} (h : Sit ls cs len kerf) : ∀ (n : Nat) (v : List Int), Vec cs v → Cover ls kerf (len + kerf) v n → barsB (allM ls cs len kerf) v ≤ n
  | n, v, hv, hc => by
    have hl := h.ok.1.len
    cases hz : allZ v with
    | true => rw [barsB_zero h.s.cov hv hz]; omega
    | false =>
      obtain ⟨ps, h1, h2, h3⟩ := hc
      cases ps with
      | nil =>
        exfalso
        have : allZ v = true := (allZ_iff v).2 fun i hi => by
          have h4 := h3 i (by rw [← hl, ← hv.len]; exact hi)
          have h5 := hv.nneg i hi
          simp only [totP, List.map_nil, List.sum_nil] at h4
          omega
        rw [this] at hz; cases hz
      | cons p ps =>
        cases n with
        | zero => simp at h1
        | succ n =>
          have hp := h2 p List.mem_cons_self
          have hneed := h.need
          obtain ⟨p', hp'⟩ : ∃ p' : List Int, p' = (List.range ls.length).map fun i => min (p.getD i 0) (cs.getD i 0) := ⟨_, rfl⟩
          have hg : ∀ i, i < ls.length → p'.getD i 0 = min (p.getD i 0) (cs.getD i 0) := fun i hi => by subst hp'; simp [List.getD_eq_getElem?_getD, hi]
          have hF : Fit ls cs p' len kerf := by
            refine ⟨h.ok.1, h.ok.2.1, h.ok.2.2, by subst hp'; simp, fun i hi => ?_, ?_⟩
            · rw [hg i hi]
              have := hp.1 i hi
              have := h.ok.1.cB i hi
              omega
            · exact Int.le_trans (usedK_le hneed (fun i hi => by rw [hg i hi]; omega) _ (Nat.le_refl _)) hp.2
          obtain ⟨q, q1, q2⟩ := fit_under hF
          obtain ⟨j, hj, rfl⟩ := List.getElem_of_mem q1
          have e : (allM ls cs len kerf).getD j [] = (allM ls cs len kerf)[j] := by simp [List.getD_eq_getElem?_getD, hj]
          rw [← e] at q2
          have hpj := (h.s.cov.pos j hj).2
          have hsub := hv.sub hpj
          have hc2 : Cover ls kerf (len + kerf) (subV v ((allM ls cs len kerf).getD j [])) n := by
            refine ⟨ps, by simpa using h1, fun q hq => h2 q (List.mem_cons_of_mem _ hq), fun i hi => ?_⟩
            rw [subV_get _ _ i (by rw [hv.len, hl]; exact hi)]
            have a1 := q2 i hi
            rw [hg i hi] at a1
            have a2 := h3 i hi
            have a3 : totP (p :: ps) i = p.getD i 0 + totP ps i := by simp [totP]
            have a4 := hv.b i (by rw [hl]; exact hi)
            have a5 : 0 ≤ totP ps i := by
              have : ∀ qs : List (List Int), (∀ q ∈ qs, 0 ≤ q.getD i 0) → 0 ≤ totP qs i := by
                intro qs
                induction qs with
                | nil => intro _; exact Int.le_refl _
                | cons a r ih =>
                  intro hq
                  have b1 := hq a List.mem_cons_self
                  have b2 := ih fun q hq' => hq q (List.mem_cons_of_mem _ hq')
                  have b3 : totP (a :: r) i = a.getD i 0 + totP r i := by simp [totP]
                  omega
              exact this ps fun q hq => (h2 q (List.mem_cons_of_mem _ hq)).1 i hi
            omega
          have ih := bars_cover h n _ hsub hc2
          by_cases hne : subV v ((allM ls cs len kerf).getD j []) = v
          · rw [hne] at ih; omega
          · have := ((barsB_spec h.s.cov _ v (Nat.le_refl _) hv).2 hz).2.2 j hj hne
            omega
end PB
end
section
set_option linter.unusedVariables false
open Go Go.Proofs Go.Eng Go.Shelf
namespace PB
set_option maxRecDepth 10000
set_option linter.unusedVariables false
theorem allE_iff {ls cs : List Int} {len kerf : Int} : allE ls cs len kerf = 0 ↔ lenE ls = 0 ∧ (1 ≤ len ∧ len ≤ 1048576 ∧ 0 ≤ kerf ∧ kerf ≤ 1000) ∧ cs.length = ls.length ∧ ∀ i, i < cs.length → 0 ≤ cs.getD i 0 ∧ cs.getD i 0 ≤ 64 := by
  constructor
  · intro h
    have h1 := allE_ok h
    unfold allE at h
    split at h
    · rename_i g; exact (g h).elim
    · rename_i g
      obtain ⟨⟨a1, a2, a3, a4, a5⟩, a6, a7, a8⟩ := h1
      refine ⟨Classical.not_not.1 g, by omega, a1.len, fun i hi => a7 i (by rw [← a1.len]; exact hi)⟩
  · rintro ⟨h1, h2, h3, h4⟩
    unfold allE
    rw [if_neg (by rw [h1]; simp), if_neg (by omega)]
    exact cntE_none (by rw [h3]; simp) fun j hj => by
      have := h4 j hj
      unfold cntAt
      rw [if_neg (by omega)]
theorem lstC_zero {ls cs : List Int} {len kerf : Int} : lstC ls cs len kerf = 0 ↔ allE ls cs len kerf = 0 ∧ stockE ls cs len = false := by
  unfold lstC
  by_cases h : allE ls cs len kerf = 0
  · rw [if_neg (by rw [h]; simp)]
    cases hs : stockE ls cs len <;> simp [h]
  · rw [if_pos h]; simp [h]
theorem lstC_cases {ls cs : List Int} {len kerf : Int} (h : allE ls cs len kerf = 0) : lstC ls cs len kerf = 0 ∨ lstC ls cs len kerf = 22 := by
  unfold lstC
  rw [if_neg (by rw [h]; simp)]
  split <;> simp
theorem sit_of {ls cs : List Int} {len kerf : Int} (h : LeastOk ls cs len kerf) (hc : lstC ls cs len kerf = 0) : Sit ls cs len kerf := by
  obtain ⟨h1, h2⟩ := lstC_zero.1 hc
  exact ⟨okC_of h1, srch_of h h1 h2⟩
theorem lstB_eq {ls cs : List Int} {len kerf : Int} (hc : lstC ls cs len kerf = 0) : lstB ls cs len kerf = pathB (allM ls cs len kerf) cs := if_neg (by rw [hc]; simp)
theorem lst_len {ls cs : List Int} {len kerf : Int} (h : LeastOk ls cs len kerf) (hc : lstC ls cs len kerf = 0) : ((lstB ls cs len kerf).length : Int) = barsB (allM ls cs len kerf) cs := by
  have hs := sit_of h hc
  rw [lstB_eq hc]
  exact pathB_len hs.s.cov _ cs (Nat.le_refl _) (vec_self hs.s.tab.c0)
theorem lst_cover {ls cs : List Int} {len kerf : Int} (h : LeastOk ls cs len kerf) (hc : lstC ls cs len kerf = 0) : Cover ls kerf (len + kerf) cs (lstB ls cs len kerf).length := by
  have hs := sit_of h hc
  have h1 := cover_bars hs _ cs (Nat.le_refl _) (vec_self hs.s.tab.c0)
  have h2 := lst_len h hc
  have e : (barsB (allM ls cs len kerf) cs).toNat = (lstB ls cs len kerf).length := by omega
  rwa [e] at h1
theorem lst_min {ls cs : List Int} {len kerf : Int} (h : LeastOk ls cs len kerf) (hc : lstC ls cs len kerf = 0) {n : Nat} (hn : Cover ls kerf (len + kerf) cs n) : (lstB ls cs len kerf).length ≤ n := by
  have hs := sit_of h hc
  have h1 := bars_cover hs n cs (vec_self hs.s.tab.c0) hn
  have h2 := lst_len h hc
  omega
def lessC (cs : List Int) (i : Nat) : List Int := if 0 < cs.getD i 0 then cs.set i (cs.getD i 0 - 1) else cs
theorem lessC_len (cs : List Int) (i : Nat) : (lessC cs i).length = cs.length := by unfold lessC; split <;> simp
theorem lessC_get (cs : List Int) (i j : Nat) (hi : i < cs.length) : (lessC cs i).getD j 0 = if j = i ∧ 0 < cs.getD i 0 then cs.getD i 0 - 1 else cs.getD j 0 := by
  unfold lessC
  by_cases h : 0 < cs.getD i 0
  · rw [if_pos h, set_get _ _ _ hi]
    by_cases e : j = i
    · rw [if_pos e, if_pos ⟨e, h⟩]
    · rw [if_neg e, if_neg fun h => e h.1]
  · rw [if_neg h, if_neg fun hc => h hc.2]
theorem less_stuff {ls cs : List Int} {len kerf : Int} (hs : ls.length ≤ 4 ∧ ∀ i, i < ls.length → 0 ≤ cs.getD i 0 ∧ cs.getD i 0 ≤ 4) (h : LeastOk ls cs len kerf) (hc : lstC ls cs len kerf = 0) {i : Nat} (hi : i < cs.length) :
    LeastOk ls (lessC cs i) len kerf ∧ lstC ls (lessC cs i) len kerf = 0 ∧ (lstB ls (lessC cs i) len kerf).length ≤ (lstB ls cs len kerf).length ∧ (lstB ls cs len kerf).length ≤ (lstB ls (lessC cs i) len kerf).length + 1 := by
  obtain ⟨h0, hst⟩ := lstC_zero.1 hc
  have hok := okC_of h0
  have hl := hok.1.len
  have hg := fun j => lessC_get cs i j hi
  have hle : ∀ j, j < ls.length → (lessC cs i).getD j 0 ≤ cs.getD j 0 ∧ 0 ≤ (lessC cs i).getD j 0 := fun j hj => by
    have := (hs.2 j hj).1
    rw [hg j]
    split
    · rename_i e; obtain ⟨rfl, _⟩ := e; omega
    · omega
  have hL : LeastOk ls (lessC cs i) len kerf := small_least fun _ => ⟨hs.1, fun j hj => by
    have := hle j hj
    have := hs.2 j hj
    omega⟩
  have h0' : allE ls (lessC cs i) len kerf = 0 := by
    obtain ⟨b1, b2, b3, b4⟩ := allE_iff.1 h0
    refine allE_iff.2 ⟨b1, b2, by rw [lessC_len]; exact b3, fun j hj => ?_⟩
    rw [lessC_len] at hj
    have := hle j (by omega)
    have := b4 j hj
    omega
  have hst' : stockE ls (lessC cs i) len = false := stockE_none fun j hj hcc => by
    rw [lessC_len] at hj
    have := hle j (by omega)
    exact stockE_false hst j hj ⟨by omega, hcc.2⟩
  have hc' := lstC_zero.2 ⟨h0', hst'⟩
  refine ⟨hL, hc', lst_min hL hc' ((lst_cover h hc).mono (Int.le_refl _) fun j hj => (hle j hj).1), lst_min h hc ?_⟩
  have h1 := lst_cover hL hc'
  by_cases hp : 0 < cs.getD i 0
  · have hli := stockE_false hst i hi
    have hb := hok.1.lB i (by omega)
    refine h1.add (p := (List.replicate ls.length 0).set i 1) ⟨fun j hj => ?_, ?_⟩ fun j hj => ?_
    · rw [set_get _ _ _ (by simp; omega)]
      split
      · omega
      · rw [List.getD_eq_getElem?_getD, List.getElem?_replicate]; split <;> exact Int.le_refl _
    · rw [unit_used (by omega), if_pos (by omega)]; omega
    · rw [hg j, set_get _ _ _ (by simp; omega)]
      by_cases e : j = i
      · subst e; rw [if_pos ⟨rfl, hp⟩, if_pos rfl]; omega
      · rw [if_neg fun h => e h.1, if_neg e]
        have : 0 ≤ (List.replicate ls.length (0 : Int)).getD j 0 := by rw [List.getD_eq_getElem?_getD, List.getElem?_replicate]; split <;> exact Int.le_refl _
        omega
  · refine h1.add (p := List.replicate ls.length 0) ⟨fun j hj => ?_, ?_⟩ fun j hj => ?_
    · rw [List.getD_eq_getElem?_getD, List.getElem?_replicate]; split <;> exact Int.le_refl _
    · have : ∀ k, k ≤ ls.length → usedK ls kerf (List.replicate ls.length 0) k = 0 := by
        intro k
        induction k with
        | zero => intro _; rfl
        | succ k ih => intro hk; rw [usedK_succ, ih (by omega)]; simp [List.getD_eq_getElem?_getD, show k < ls.length by omega]
      rw [this _ (Nat.le_refl _)]
      have := hok.1.k0
      omega
    · rw [hg j, if_neg fun h => hp h.2]
      have : 0 ≤ (List.replicate ls.length (0 : Int)).getD j 0 := by rw [List.getD_eq_getElem?_getD, List.getElem?_replicate]; split <;> exact Int.le_refl _
      omega
theorem long_stuff {ls cs : List Int} {len len' kerf : Int} (hs : ls.length ≤ 4 ∧ ∀ i, i < ls.length → 0 ≤ cs.getD i 0 ∧ cs.getD i 0 ≤ 4) (h : LeastOk ls cs len kerf) (hc : lstC ls cs len kerf = 0) (h1 : len ≤ len') (h2 : len' ≤ 1048576) :
    LeastOk ls cs len' kerf ∧ lstC ls cs len' kerf = 0 ∧ (lstB ls cs len' kerf).length ≤ (lstB ls cs len kerf).length := by
  obtain ⟨h0, hst⟩ := lstC_zero.1 hc
  have hL : LeastOk ls cs len' kerf := small_least fun _ => hs
  have h0' : allE ls cs len' kerf = 0 := by
    obtain ⟨b1, b2, b3, b4⟩ := allE_iff.1 h0
    exact allE_iff.2 ⟨b1, by omega, b3, b4⟩
  have hst' : stockE ls cs len' = false := stockE_none fun j hj hcc => stockE_false hst j hj ⟨hcc.1, by omega⟩
  have hc' := lstC_zero.2 ⟨h0', hst'⟩
  exact ⟨hL, hc', lst_min hL hc' ((lst_cover h hc).mono (by omega) fun _ _ => Int.le_refl _)⟩
end PB
end
section
set_option linter.unusedVariables false
open Go Go.Proofs Go.Eng Go.Shelf
namespace PB
set_option maxRecDepth 100000
set_option linter.unusedVariables false
theorem set_getQ (p : List Int) (k : Nat) (x : Int) (h : k < p.length) (i : Nat) : (p.set k x).getD i 0 = if i = k then x else p.getD i 0 := by
  rw [List.getD_eq_getElem?_getD, List.getElem?_set]
  by_cases e : i = k
  · subst e; simp [h]
  · rw [if_neg (fun h => e h.symm), if_neg e, ← List.getD_eq_getElem?_getD]
structure ExOk (ls : List Int) (ps : List (List Int)) : Prop where
  few : ls.length ≤ 16
  len : ∀ i, i < ps.length → (ps.getD i []).length = ls.length
  pB : ∀ i, i < ps.length → ∀ k, k < ls.length → 0 ≤ (ps.getD i []).getD k 0 ∧ (ps.getD i []).getD k 0 ≤ 64
end PB
end
section
set_option linter.unusedVariables false
open Go Go.Proofs Go.Eng Go.Shelf
namespace PB
set_option maxRecDepth 100000
set_option linter.unusedVariables false
end PB
end
section
set_option linter.unusedVariables false
open Go Go.Proofs Go.Eng Go.Shelf
namespace PB
set_option maxRecDepth 100000
set_option linter.unusedVariables false
def fitsE (ls p : List Int) (len kerf : Int) : Prop := allE ls p len kerf = 0 ∧ 0 ≤ restE ls p len kerf
instance (ls p : List Int) (len kerf : Int) : Decidable (fitsE ls p len kerf) := by unfold fitsE; exact inferInstance
theorem zeros_used (ls : List Int) (kerf : Int) (n : Nat) : ∀ k, usedK ls kerf (List.replicate n 0) k = 0
  | 0 => rfl
  | k + 1 => by
    have : (List.replicate n (0 : Int)).getD k 0 = 0 := by rw [List.getD_eq_getElem?_getD, List.getElem?_replicate]; split <;> rfl
    rw [usedK_succ, zeros_used ls kerf n k, this]; simp
end PB
end
section
set_option linter.unusedVariables false
open Go Go.Proofs Go.Eng Go.Shelf
namespace PB
set_option maxRecDepth 100000
set_option linter.unusedVariables false
theorem lst_le {ls cs : List Int} {len kerf : Int} (h : LeastOk ls cs len kerf) (hc : lstC ls cs len kerf = 0) : (lstB ls cs len kerf).length ≤ 16 := by
  have hs := sit_of h hc
  have h1 := lst_len h hc
  have h2 := barsB_le hs.s.cov _ cs (Nat.le_refl _) (vec_self hs.s.tab.c0)
  have h3 := h.wgt (lstC_zero.1 hc).1
  omega
theorem b4 (ls cs : List Int) (len kerf a b : Int) (ha : inK .u8 a) (hb : inK .u8 b) : body Try.prog [c12, c15, c19, cO20] {} true Try.f4 [Ls ls, Ls cs, I len, I kerf, .val (.int .u8 a), .val (.int .u8 b)] (.val (.bool true)) := by
  have ha' : 0 ≤ a ∧ a ≤ 255 := ha
  have hb' : 0 ≤ b ∧ b ≤ 255 := hb
  (repeat' ((conv => whnf); first | (refine Giv.mk fun _ => ?_) | (refine Alt.l (Need.mk ?h ?_); case h => omega) | (refine Alt.r (Need.mk ?h ?_); case h => omega) | (refine Need.mk ?h ?_; case h => first | omega | (intro _; rfl) | assumption | (simp <;> omega)) | refine Ix.zero ?_ | refine Ix.one ?_ | refine Ix.two ?_ | refine Ix.nat ?_ | refine Ix.add ?_ | (apply Go.Eng.Pin.mk; apply Exists.intro) | apply Go.Eng.Pinned.mk rfl rfl | (apply Go.Eng.PinH.mk; apply Exists.intro; apply Exists.intro) | exact Go.Eng.Fin0.mk | refine Go.Eng.Chk.mk ?_ ?_ | refine Own.l ?_ | fail))
  (refine Br.mk (fun _ => ?_) (fun _ => ?_))
  · (repeat' ((conv => whnf); first | (refine Giv.mk fun _ => ?_) | (refine Alt.l (Need.mk ?h ?_); case h => omega) | (refine Alt.r (Need.mk ?h ?_); case h => omega) | (refine Need.mk ?h ?_; case h => first | omega | (intro _; rfl) | assumption | (simp <;> omega)) | refine Ix.zero ?_ | refine Ix.one ?_ | refine Ix.two ?_ | refine Ix.nat ?_ | refine Ix.add ?_ | (apply Go.Eng.Pin.mk; apply Exists.intro) | apply Go.Eng.Pinned.mk rfl rfl | (apply Go.Eng.PinH.mk; apply Exists.intro; apply Exists.intro) | exact Go.Eng.Fin0.mk | refine Go.Eng.Chk.mk ?_ ?_ | refine Own.l ?_ | fail))
    (conv => whnf)
    (repeat' (first | exact trivial | rfl | exact Nat.one_pos | (refine And.intro ?_ ?_) | ((conv => whnf); (refine And.intro ?_ ?_)) | ((conv => whnf); exact trivial)))
  · rename_i hf
    obtain ⟨hg, h0⟩ : fineE ls cs len kerf := Classical.not_not.1 hf
    obtain ⟨b1, b2, b3, b4⟩ := allE_iff.1 h0
    have hok := okC_of h0
    have hfew := hok.1.few
    have hlpos := (allE_ok h0).2.1
    have hL := great_least (len := len) (kerf := kerf) hg
    have hs := small_of hg h0
    rcases lstC_cases (len := len) h0 with hc | hc
    rotate_left
    · (repeat' ((conv => whnf); first | (refine Giv.mk fun _ => ?_) | (refine Alt.l (Need.mk ?h ?_); case h => omega) | (refine Alt.r (Need.mk ?h ?_); case h => omega) | (refine Need.mk ?h ?_; case h => first | omega | (intro _; rfl) | assumption | (simp <;> omega)) | refine Ix.zero ?_ | refine Ix.one ?_ | refine Ix.two ?_ | refine Ix.nat ?_ | refine Ix.add ?_ | (apply Go.Eng.Pin.mk; apply Exists.intro) | apply Go.Eng.Pinned.mk rfl rfl | (apply Go.Eng.PinH.mk; apply Exists.intro; apply Exists.intro) | exact Go.Eng.Fin0.mk | refine Go.Eng.Chk.mk ?_ ?_ | refine Own.l ?_ | fail))
      rw [hc]
      refine Br.mkY (by decide) ?_
      (repeat' ((conv => whnf); first | (refine Giv.mk fun _ => ?_) | (refine Alt.l (Need.mk ?h ?_); case h => omega) | (refine Alt.r (Need.mk ?h ?_); case h => omega) | (refine Need.mk ?h ?_; case h => first | omega | (intro _; rfl) | assumption | (simp <;> omega)) | refine Ix.zero ?_ | refine Ix.one ?_ | refine Ix.two ?_ | refine Ix.nat ?_ | refine Ix.add ?_ | (apply Go.Eng.Pin.mk; apply Exists.intro) | apply Go.Eng.Pinned.mk rfl rfl | (apply Go.Eng.PinH.mk; apply Exists.intro; apply Exists.intro) | exact Go.Eng.Fin0.mk | refine Go.Eng.Chk.mk ?_ ?_ | refine Own.l ?_ | fail))
      refine Br.mkY rfl ?_
      (repeat' ((conv => whnf); first | (refine Giv.mk fun _ => ?_) | (refine Alt.l (Need.mk ?h ?_); case h => omega) | (refine Alt.r (Need.mk ?h ?_); case h => omega) | (refine Need.mk ?h ?_; case h => first | omega | (intro _; rfl) | assumption | (simp <;> omega)) | refine Ix.zero ?_ | refine Ix.one ?_ | refine Ix.two ?_ | refine Ix.nat ?_ | refine Ix.add ?_ | (apply Go.Eng.Pin.mk; apply Exists.intro) | apply Go.Eng.Pinned.mk rfl rfl | (apply Go.Eng.PinH.mk; apply Exists.intro; apply Exists.intro) | exact Go.Eng.Fin0.mk | refine Go.Eng.Chk.mk ?_ ?_ | refine Own.l ?_ | fail))
      (conv => whnf)
    · obtain ⟨i, hie⟩ : ∃ i : Nat, a % (cs.length : Int) = (i : Int) := ⟨(a % (cs.length : Int)).toNat, (Int.toNat_of_nonneg (Int.emod_nonneg a (by omega))).symm⟩
      have hi : i < cs.length := by
        have := Int.emod_lt_of_pos a (show 0 < (cs.length : Int) by omega)
        omega
      have hpi := b4 _ hi
      have hlc : lessC cs i = if 0 < cs.getD i 0 then cs.set i (cs.getD i 0 - 1) else cs := rfl
      obtain ⟨l1, l2, l3, l4⟩ := less_stuff hs hL hc hi
      have hn := lst_le hL hc
      obtain ⟨m1, m2, m3⟩ := long_stuff (len' := min 1048576 (len + b)) hs hL hc (by omega) (by omega)
      (repeat' ((conv => whnf); first | (refine Giv.mk fun _ => ?_) | (refine Alt.l (Need.mk ?h ?_); case h => omega) | (refine Alt.r (Need.mk ?h ?_); case h => omega) | (refine Need.mk ?h ?_; case h => first | omega | (intro _; rfl) | assumption | (simp <;> omega)) | refine Ix.zero ?_ | refine Ix.one ?_ | refine Ix.two ?_ | refine Ix.nat ?_ | refine Ix.add ?_ | (apply Go.Eng.Pin.mk; apply Exists.intro) | apply Go.Eng.Pinned.mk rfl rfl | (apply Go.Eng.PinH.mk; apply Exists.intro; apply Exists.intro) | exact Go.Eng.Fin0.mk | refine Go.Eng.Chk.mk ?_ ?_ | refine Own.l ?_ | fail))
      rw [hc]
      refine Br.mkN (by simp) ?_
      (repeat' ((conv => whnf); first | (refine Giv.mk fun _ => ?_) | (refine Alt.l (Need.mk ?h ?_); case h => omega) | (refine Alt.r (Need.mk ?h ?_); case h => omega) | (refine Need.mk ?h ?_; case h => first | omega | (intro _; rfl) | assumption | (simp <;> omega)) | refine Ix.zero ?_ | refine Ix.one ?_ | refine Ix.two ?_ | refine Ix.nat ?_ | refine Ix.add ?_ | (apply Go.Eng.Pin.mk; apply Exists.intro) | apply Go.Eng.Pinned.mk rfl rfl | (apply Go.Eng.PinH.mk; apply Exists.intro; apply Exists.intro) | exact Go.Eng.Fin0.mk | refine Go.Eng.Chk.mk ?_ ?_ | refine Own.l ?_ | fail))
      rw [hie]
      (repeat' ((conv => whnf); first | (refine Giv.mk fun _ => ?_) | (refine Alt.l (Need.mk ?h ?_); case h => omega) | (refine Alt.r (Need.mk ?h ?_); case h => omega) | (refine Need.mk ?h ?_; case h => first | omega | (intro _; rfl) | assumption | (simp <;> omega)) | refine Ix.zero ?_ | refine Ix.one ?_ | refine Ix.two ?_ | refine Ix.nat ?_ | refine Ix.add ?_ | (apply Go.Eng.Pin.mk; apply Exists.intro) | apply Go.Eng.Pinned.mk rfl rfl | (apply Go.Eng.PinH.mk; apply Exists.intro; apply Exists.intro) | exact Go.Eng.Fin0.mk | refine Go.Eng.Chk.mk ?_ ?_ | refine Own.l ?_ | fail))
      (refine Br.mk (fun _ => ?_) (fun _ => ?_))
      · rename_i g
        rw [if_pos g] at hlc
        rw [hlc] at l1 l2 l3 l4
        (repeat' ((conv => whnf); first | (refine Giv.mk fun _ => ?_) | (refine Alt.l (Need.mk ?h ?_); case h => omega) | (refine Alt.r (Need.mk ?h ?_); case h => omega) | (refine Need.mk ?h ?_; case h => first | omega | (intro _; rfl) | assumption | (simp <;> omega)) | refine Ix.zero ?_ | refine Ix.one ?_ | refine Ix.two ?_ | refine Ix.nat ?_ | refine Ix.add ?_ | (apply Go.Eng.Pin.mk; apply Exists.intro) | apply Go.Eng.Pinned.mk rfl rfl | (apply Go.Eng.PinH.mk; apply Exists.intro; apply Exists.intro) | exact Go.Eng.Fin0.mk | refine Go.Eng.Chk.mk ?_ ?_ | refine Own.l ?_ | fail))
        refine Br.mkY l2 ?_
        (repeat' ((conv => whnf); first | (refine Giv.mk fun _ => ?_) | (refine Alt.l (Need.mk ?h ?_); case h => omega) | (refine Alt.r (Need.mk ?h ?_); case h => omega) | (refine Need.mk ?h ?_; case h => first | omega | (intro _; rfl) | assumption | (simp <;> omega)) | refine Ix.zero ?_ | refine Ix.one ?_ | refine Ix.two ?_ | refine Ix.nat ?_ | refine Ix.add ?_ | (apply Go.Eng.Pin.mk; apply Exists.intro) | apply Go.Eng.Pinned.mk rfl rfl | (apply Go.Eng.PinH.mk; apply Exists.intro; apply Exists.intro) | exact Go.Eng.Fin0.mk | refine Go.Eng.Chk.mk ?_ ?_ | refine Own.l ?_ | fail))
        refine Br.mkY m2 ?_
        (repeat' ((conv => whnf); first | (refine Giv.mk fun _ => ?_) | (refine Alt.l (Need.mk ?h ?_); case h => omega) | (refine Alt.r (Need.mk ?h ?_); case h => omega) | (refine Need.mk ?h ?_; case h => first | omega | (intro _; rfl) | assumption | (simp <;> omega)) | refine Ix.zero ?_ | refine Ix.one ?_ | refine Ix.two ?_ | refine Ix.nat ?_ | refine Ix.add ?_ | (apply Go.Eng.Pin.mk; apply Exists.intro) | apply Go.Eng.Pinned.mk rfl rfl | (apply Go.Eng.PinH.mk; apply Exists.intro; apply Exists.intro) | exact Go.Eng.Fin0.mk | refine Go.Eng.Chk.mk ?_ ?_ | refine Own.l ?_ | fail))
        refine Br.mkY (by omega) ?_
        (repeat' ((conv => whnf); first | (refine Giv.mk fun _ => ?_) | (refine Alt.l (Need.mk ?h ?_); case h => omega) | (refine Alt.r (Need.mk ?h ?_); case h => omega) | (refine Need.mk ?h ?_; case h => first | omega | (intro _; rfl) | assumption | (simp <;> omega)) | refine Ix.zero ?_ | refine Ix.one ?_ | refine Ix.two ?_ | refine Ix.nat ?_ | refine Ix.add ?_ | (apply Go.Eng.Pin.mk; apply Exists.intro) | apply Go.Eng.Pinned.mk rfl rfl | (apply Go.Eng.PinH.mk; apply Exists.intro; apply Exists.intro) | exact Go.Eng.Fin0.mk | refine Go.Eng.Chk.mk ?_ ?_ | refine Own.l ?_ | fail))
        refine Br.mkY (by omega) ?_
        (repeat' ((conv => whnf); first | (refine Giv.mk fun _ => ?_) | (refine Alt.l (Need.mk ?h ?_); case h => omega) | (refine Alt.r (Need.mk ?h ?_); case h => omega) | (refine Need.mk ?h ?_; case h => first | omega | (intro _; rfl) | assumption | (simp <;> omega)) | refine Ix.zero ?_ | refine Ix.one ?_ | refine Ix.two ?_ | refine Ix.nat ?_ | refine Ix.add ?_ | (apply Go.Eng.Pin.mk; apply Exists.intro) | apply Go.Eng.Pinned.mk rfl rfl | (apply Go.Eng.PinH.mk; apply Exists.intro; apply Exists.intro) | exact Go.Eng.Fin0.mk | refine Go.Eng.Chk.mk ?_ ?_ | refine Own.l ?_ | fail))
        refine Br.mkY (by omega) ?_
        (repeat' ((conv => whnf); first | (refine Giv.mk fun _ => ?_) | (refine Alt.l (Need.mk ?h ?_); case h => omega) | (refine Alt.r (Need.mk ?h ?_); case h => omega) | (refine Need.mk ?h ?_; case h => first | omega | (intro _; rfl) | assumption | (simp <;> omega)) | refine Ix.zero ?_ | refine Ix.one ?_ | refine Ix.two ?_ | refine Ix.nat ?_ | refine Ix.add ?_ | (apply Go.Eng.Pin.mk; apply Exists.intro) | apply Go.Eng.Pinned.mk rfl rfl | (apply Go.Eng.PinH.mk; apply Exists.intro; apply Exists.intro) | exact Go.Eng.Fin0.mk | refine Go.Eng.Chk.mk ?_ ?_ | refine Own.l ?_ | fail))
        (conv => whnf)
      · rename_i g
        rw [if_neg g] at hlc
        rw [hlc] at l1 l2 l3 l4
        (repeat' ((conv => whnf); first | (refine Giv.mk fun _ => ?_) | (refine Alt.l (Need.mk ?h ?_); case h => omega) | (refine Alt.r (Need.mk ?h ?_); case h => omega) | (refine Need.mk ?h ?_; case h => first | omega | (intro _; rfl) | assumption | (simp <;> omega)) | refine Ix.zero ?_ | refine Ix.one ?_ | refine Ix.two ?_ | refine Ix.nat ?_ | refine Ix.add ?_ | (apply Go.Eng.Pin.mk; apply Exists.intro) | apply Go.Eng.Pinned.mk rfl rfl | (apply Go.Eng.PinH.mk; apply Exists.intro; apply Exists.intro) | exact Go.Eng.Fin0.mk | refine Go.Eng.Chk.mk ?_ ?_ | refine Own.l ?_ | fail))
        refine Br.mkY l2 ?_
        (repeat' ((conv => whnf); first | (refine Giv.mk fun _ => ?_) | (refine Alt.l (Need.mk ?h ?_); case h => omega) | (refine Alt.r (Need.mk ?h ?_); case h => omega) | (refine Need.mk ?h ?_; case h => first | omega | (intro _; rfl) | assumption | (simp <;> omega)) | refine Ix.zero ?_ | refine Ix.one ?_ | refine Ix.two ?_ | refine Ix.nat ?_ | refine Ix.add ?_ | (apply Go.Eng.Pin.mk; apply Exists.intro) | apply Go.Eng.Pinned.mk rfl rfl | (apply Go.Eng.PinH.mk; apply Exists.intro; apply Exists.intro) | exact Go.Eng.Fin0.mk | refine Go.Eng.Chk.mk ?_ ?_ | refine Own.l ?_ | fail))
        refine Br.mkY m2 ?_
        (repeat' ((conv => whnf); first | (refine Giv.mk fun _ => ?_) | (refine Alt.l (Need.mk ?h ?_); case h => omega) | (refine Alt.r (Need.mk ?h ?_); case h => omega) | (refine Need.mk ?h ?_; case h => first | omega | (intro _; rfl) | assumption | (simp <;> omega)) | refine Ix.zero ?_ | refine Ix.one ?_ | refine Ix.two ?_ | refine Ix.nat ?_ | refine Ix.add ?_ | (apply Go.Eng.Pin.mk; apply Exists.intro) | apply Go.Eng.Pinned.mk rfl rfl | (apply Go.Eng.PinH.mk; apply Exists.intro; apply Exists.intro) | exact Go.Eng.Fin0.mk | refine Go.Eng.Chk.mk ?_ ?_ | refine Own.l ?_ | fail))
        refine Br.mkY (by omega) ?_
        (repeat' ((conv => whnf); first | (refine Giv.mk fun _ => ?_) | (refine Alt.l (Need.mk ?h ?_); case h => omega) | (refine Alt.r (Need.mk ?h ?_); case h => omega) | (refine Need.mk ?h ?_; case h => first | omega | (intro _; rfl) | assumption | (simp <;> omega)) | refine Ix.zero ?_ | refine Ix.one ?_ | refine Ix.two ?_ | refine Ix.nat ?_ | refine Ix.add ?_ | (apply Go.Eng.Pin.mk; apply Exists.intro) | apply Go.Eng.Pinned.mk rfl rfl | (apply Go.Eng.PinH.mk; apply Exists.intro; apply Exists.intro) | exact Go.Eng.Fin0.mk | refine Go.Eng.Chk.mk ?_ ?_ | refine Own.l ?_ | fail))
        refine Br.mkY (by omega) ?_
        (repeat' ((conv => whnf); first | (refine Giv.mk fun _ => ?_) | (refine Alt.l (Need.mk ?h ?_); case h => omega) | (refine Alt.r (Need.mk ?h ?_); case h => omega) | (refine Need.mk ?h ?_; case h => first | omega | (intro _; rfl) | assumption | (simp <;> omega)) | refine Ix.zero ?_ | refine Ix.one ?_ | refine Ix.two ?_ | refine Ix.nat ?_ | refine Ix.add ?_ | (apply Go.Eng.Pin.mk; apply Exists.intro) | apply Go.Eng.Pinned.mk rfl rfl | (apply Go.Eng.PinH.mk; apply Exists.intro; apply Exists.intro) | exact Go.Eng.Fin0.mk | refine Go.Eng.Chk.mk ?_ ?_ | refine Own.l ?_ | fail))
        refine Br.mkY (by omega) ?_
        (repeat' ((conv => whnf); first | (refine Giv.mk fun _ => ?_) | (refine Alt.l (Need.mk ?h ?_); case h => omega) | (refine Alt.r (Need.mk ?h ?_); case h => omega) | (refine Need.mk ?h ?_; case h => first | omega | (intro _; rfl) | assumption | (simp <;> omega)) | refine Ix.zero ?_ | refine Ix.one ?_ | refine Ix.two ?_ | refine Ix.nat ?_ | refine Ix.add ?_ | (apply Go.Eng.Pin.mk; apply Exists.intro) | apply Go.Eng.Pinned.mk rfl rfl | (apply Go.Eng.PinH.mk; apply Exists.intro; apply Exists.intro) | exact Go.Eng.Fin0.mk | refine Go.Eng.Chk.mk ?_ ?_ | refine Own.l ?_ | fail))
        (conv => whnf)
end PB
end
section
set_option linter.unusedVariables false
open Go Go.Proofs Go.Eng Go.Shelf
namespace PB
set_option maxRecDepth 100000
set_option linter.unusedVariables false
theorem zero_get (n i : Nat) : (List.replicate n (0 : Int)).getD i 0 = 0 := by rw [List.getD_eq_getElem?_getD, List.getElem?_replicate]; split <;> rfl
theorem allM_ne {ls cs : List Int} {len kerf : Int} (h : allE ls cs len kerf = 0) : 0 < (allM ls cs len kerf).length := by
  have hok := okC_of h
  obtain ⟨b1, b2, b3, b4⟩ := allE_iff.1 h
  have hf : Fit ls cs (List.replicate ls.length 0) len kerf := ⟨hok.1, hok.2.1, hok.2.2, by simp, fun i hi => by
    rw [zero_get]; have := hok.1.cB i hi; omega, by rw [zeros_used]; omega⟩
  obtain ⟨p, hp, _⟩ := fit_under hf
  exact List.length_pos_of_mem hp
end PB
end
section
set_option linter.unusedVariables false
open Go Go.Proofs Go.Eng Go.Shelf
namespace PB
set_option maxRecDepth 100000
set_option linter.unusedVariables false
def ascP (xs : List Int) : Prop := ∀ k, k + 1 < xs.length → xs.getD k 0 ≤ xs.getD (k + 1) 0
noncomputable instance (xs : List Int) : Decidable (ascP xs) := Classical.propDecidable _
namespace S
theorem b60 (x : Int) : body Try.prog [] {} true Try.f60 [I x] (.val (.bool false)) := by
  (repeat' ((conv => whnf); first | (refine Giv.mk fun _ => ?_) | (refine Alt.l (Need.mk ?h ?_); case h => omega) | (refine Alt.r (Need.mk ?h ?_); case h => omega) | (refine Need.mk ?h ?_; case h => first | omega | (intro _; rfl) | assumption | (simp <;> omega)) | refine Ix.zero ?_ | refine Ix.one ?_ | refine Ix.two ?_ | refine Ix.nat ?_ | refine Ix.add ?_ | (apply Go.Eng.Pin.mk; apply Exists.intro) | apply Go.Eng.Pinned.mk rfl rfl | (apply Go.Eng.PinH.mk; apply Exists.intro; apply Exists.intro) | exact Go.Eng.Fin0.mk | refine Go.Eng.Chk.mk ?_ ?_ | refine Own.l ?_ | fail))
  (conv => whnf)
  exact ⟨fun h => (h rfl).elim, fun h => by cases h⟩
def c60 : Con := mkCon 60 true fun args K => match args with | [.val (.int .i64 x)] => K (.val (.bool false)) | _ => False
theorem k60 : ConOK Try.prog c60 := by
  refine conOK_of rfl (enters_of Try.func60 (by kernel_rfl) rfl) ?_
  intro args K h
  simp only [c60] at h
  split at h
  · rename_i x; exact ⟨_, h, tri_of_body (Γ := []) (by simp) Try.func60 (by simp [Try.ntmps60]) rfl (b60 x)⟩
  · exact h.elim
end S
end PB
end
section
set_option linter.unusedVariables false
open Go Go.Proofs Go.Eng Go.Shelf
namespace PB
set_option maxRecDepth 100000
set_option linter.unusedVariables false
def cmpI (x y : Int) : Int := if x < y then -1 else if y < x then 1 else 0
def cmpL (xs ys : List Int) : Int := firstE (fun i => cmpI (xs.getD i 0) (ys.getD i 0)) xs.length
namespace S
theorem b55 (x y : Int) : body Try.prog [c60] {} true Try.f55 [I x, I y] (I (cmpI x y)) := by
  unfold cmpI
  (repeat' ((conv => whnf); first | (refine Giv.mk fun _ => ?_) | (refine Alt.l (Need.mk ?h ?_); case h => omega) | (refine Alt.r (Need.mk ?h ?_); case h => omega) | (refine Need.mk ?h ?_; case h => first | omega | (intro _; rfl) | assumption | (simp <;> omega)) | refine Ix.zero ?_ | refine Ix.one ?_ | refine Ix.two ?_ | refine Ix.nat ?_ | refine Ix.add ?_ | (apply Go.Eng.Pin.mk; apply Exists.intro) | apply Go.Eng.Pinned.mk rfl rfl | (apply Go.Eng.PinH.mk; apply Exists.intro; apply Exists.intro) | exact Go.Eng.Fin0.mk | refine Go.Eng.Chk.mk ?_ ?_ | refine Own.l ?_ | fail))
  (refine Br.mk (fun _ => ?_) (fun _ => ?_))
  · rename_i h
    rw [if_pos h]
    (repeat' ((conv => whnf); first | (refine Giv.mk fun _ => ?_) | (refine Alt.l (Need.mk ?h ?_); case h => omega) | (refine Alt.r (Need.mk ?h ?_); case h => omega) | (refine Need.mk ?h ?_; case h => first | omega | (intro _; rfl) | assumption | (simp <;> omega)) | refine Ix.zero ?_ | refine Ix.one ?_ | refine Ix.two ?_ | refine Ix.nat ?_ | refine Ix.add ?_ | (apply Go.Eng.Pin.mk; apply Exists.intro) | apply Go.Eng.Pinned.mk rfl rfl | (apply Go.Eng.PinH.mk; apply Exists.intro; apply Exists.intro) | exact Go.Eng.Fin0.mk | refine Go.Eng.Chk.mk ?_ ?_ | refine Own.l ?_ | fail))
    (conv => whnf)
    (repeat' (first | exact trivial | rfl | exact Nat.one_pos | (refine And.intro ?_ ?_) | ((conv => whnf); (refine And.intro ?_ ?_)) | ((conv => whnf); exact trivial)))
  · rename_i h
    rw [if_neg h]
    (repeat' ((conv => whnf); first | (refine Giv.mk fun _ => ?_) | (refine Alt.l (Need.mk ?h ?_); case h => omega) | (refine Alt.r (Need.mk ?h ?_); case h => omega) | (refine Need.mk ?h ?_; case h => first | omega | (intro _; rfl) | assumption | (simp <;> omega)) | refine Ix.zero ?_ | refine Ix.one ?_ | refine Ix.two ?_ | refine Ix.nat ?_ | refine Ix.add ?_ | (apply Go.Eng.Pin.mk; apply Exists.intro) | apply Go.Eng.Pinned.mk rfl rfl | (apply Go.Eng.PinH.mk; apply Exists.intro; apply Exists.intro) | exact Go.Eng.Fin0.mk | refine Go.Eng.Chk.mk ?_ ?_ | refine Own.l ?_ | fail))
    (refine Br.mk (fun _ => ?_) (fun _ => ?_))
    · rename_i h2
      rw [if_pos h2]
      (repeat' ((conv => whnf); first | (refine Giv.mk fun _ => ?_) | (refine Alt.l (Need.mk ?h ?_); case h => omega) | (refine Alt.r (Need.mk ?h ?_); case h => omega) | (refine Need.mk ?h ?_; case h => first | omega | (intro _; rfl) | assumption | (simp <;> omega)) | refine Ix.zero ?_ | refine Ix.one ?_ | refine Ix.two ?_ | refine Ix.nat ?_ | refine Ix.add ?_ | (apply Go.Eng.Pin.mk; apply Exists.intro) | apply Go.Eng.Pinned.mk rfl rfl | (apply Go.Eng.PinH.mk; apply Exists.intro; apply Exists.intro) | exact Go.Eng.Fin0.mk | refine Go.Eng.Chk.mk ?_ ?_ | refine Own.l ?_ | fail))
      (conv => whnf)
      (repeat' (first | exact trivial | rfl | exact Nat.one_pos | (refine And.intro ?_ ?_) | ((conv => whnf); (refine And.intro ?_ ?_)) | ((conv => whnf); exact trivial)))
    · rename_i h2
      rw [if_neg h2]
      (repeat' ((conv => whnf); first | (refine Giv.mk fun _ => ?_) | (refine Alt.l (Need.mk ?h ?_); case h => omega) | (refine Alt.r (Need.mk ?h ?_); case h => omega) | (refine Need.mk ?h ?_; case h => first | omega | (intro _; rfl) | assumption | (simp <;> omega)) | refine Ix.zero ?_ | refine Ix.one ?_ | refine Ix.two ?_ | refine Ix.nat ?_ | refine Ix.add ?_ | (apply Go.Eng.Pin.mk; apply Exists.intro) | apply Go.Eng.Pinned.mk rfl rfl | (apply Go.Eng.PinH.mk; apply Exists.intro; apply Exists.intro) | exact Go.Eng.Fin0.mk | refine Go.Eng.Chk.mk ?_ ?_ | refine Own.l ?_ | fail))
      (conv => whnf)
      (repeat' (first | exact trivial | rfl | exact Nat.one_pos | (refine And.intro ?_ ?_) | ((conv => whnf); (refine And.intro ?_ ?_)) | ((conv => whnf); exact trivial)))
def c55 : Con := mkCon 55 true fun args K => match args with | [.val (.int .i64 x), .val (.int .i64 y)] => K (I (cmpI x y)) | _ => False
theorem k55 : ConOK Try.prog c55 := by
  refine conOK_of rfl (enters_of Try.func55 (by kernel_rfl) rfl) ?_
  intro args K h
  simp only [c55] at h
  split at h
  · rename_i x y; exact ⟨_, h, tri_of_body (Γ := [c60]) (by simp [k60]) Try.func55 (by simp [Try.ntmps55]) rfl (b55 x y)⟩
  · exact h.elim
theorem b32 (xs ys : List Int) (hl : xs.length = ys.length) : body Try.prog [c55] { asks := [(0, [])] } true Try.f32 [Ls xs, Ls ys] (I (cmpL xs ys)) := by
  (repeat' ((conv => whnf); first | (refine Giv.mk fun _ => ?_) | (refine Alt.l (Need.mk ?h ?_); case h => omega) | (refine Alt.r (Need.mk ?h ?_); case h => omega) | (refine Need.mk ?h ?_; case h => first | omega | (intro _; rfl) | assumption | (simp <;> omega)) | refine Ix.zero ?_ | refine Ix.one ?_ | refine Ix.two ?_ | refine Ix.nat ?_ | refine Ix.add ?_ | (apply Go.Eng.Pin.mk; apply Exists.intro) | apply Go.Eng.Pinned.mk rfl rfl | (apply Go.Eng.PinH.mk; apply Exists.intro; apply Exists.intro) | exact Go.Eng.Fin0.mk | refine Go.Eng.Chk.mk ?_ ?_ | refine Own.l ?_ | fail))
  refine Ask.mk ⟨{ X := Nat, pre := fun i => i ≤ xs.length ∧ ∀ j, j < i → cmpI (xs.getD j 0) (ys.getD j 0) = 0, mod := fun i _ => [(11, I i)], mu := fun i => xs.length - i }, rfl, ?_⟩
  (repeat' ((conv => whnf); first | (refine Giv.mk fun _ => ?_) | (refine Alt.l (Need.mk ?h ?_); case h => omega) | (refine Alt.r (Need.mk ?h ?_); case h => omega) | (refine Need.mk ?h ?_; case h => first | omega | (intro _; rfl) | assumption | (simp <;> omega)) | refine Ix.zero ?_ | refine Ix.one ?_ | refine Ix.two ?_ | refine Ix.nat ?_ | refine Ix.add ?_ | (apply Go.Eng.Pin.mk; apply Exists.intro) | apply Go.Eng.Pinned.mk rfl rfl | (apply Go.Eng.PinH.mk; apply Exists.intro; apply Exists.intro) | exact Go.Eng.Fin0.mk | refine Go.Eng.Chk.mk ?_ ?_ | refine Own.l ?_ | fail))
  refine ⟨⟨(0 : Nat), ⟨Nat.zero_le _, fun j hj => by omega⟩, by (repeat' (first | exact trivial | rfl | exact Nat.one_pos | (refine And.intro ?_ ?_) | omega | ((conv => whnf); (refine And.intro ?_ ?_)) | ((conv => whnf); exact trivial)))⟩, fun (i : Nat) hi => ?_⟩
  obtain ⟨hi1, hi2⟩ := hi
  have hi1 : i ≤ xs.length := hi1
  (repeat' ((conv => whnf); first | (refine Giv.mk fun _ => ?_) | (refine Alt.l (Need.mk ?h ?_); case h => omega) | (refine Alt.r (Need.mk ?h ?_); case h => omega) | (refine Need.mk ?h ?_; case h => first | omega | (intro _; rfl) | assumption | (simp <;> omega)) | refine Ix.zero ?_ | refine Ix.one ?_ | refine Ix.two ?_ | refine Ix.nat ?_ | refine Ix.add ?_ | (apply Go.Eng.Pin.mk; apply Exists.intro) | apply Go.Eng.Pinned.mk rfl rfl | (apply Go.Eng.PinH.mk; apply Exists.intro; apply Exists.intro) | exact Go.Eng.Fin0.mk | refine Go.Eng.Chk.mk ?_ ?_ | refine Own.l ?_ | fail))
  (refine Br.mk (fun _ => ?_) (fun _ => ?_))
  · have hlt : i < xs.length := by omega
    (repeat' ((conv => whnf); first | (refine Giv.mk fun _ => ?_) | (refine Alt.l (Need.mk ?h ?_); case h => omega) | (refine Alt.r (Need.mk ?h ?_); case h => omega) | (refine Need.mk ?h ?_; case h => first | omega | (intro _; rfl) | assumption | (simp <;> omega)) | refine Ix.zero ?_ | refine Ix.one ?_ | refine Ix.two ?_ | refine Ix.nat ?_ | refine Ix.add ?_ | (apply Go.Eng.Pin.mk; apply Exists.intro) | apply Go.Eng.Pinned.mk rfl rfl | (apply Go.Eng.PinH.mk; apply Exists.intro; apply Exists.intro) | exact Go.Eng.Fin0.mk | refine Go.Eng.Chk.mk ?_ ?_ | refine Own.l ?_ | fail))
    refine Br.mkN (by omega) ?_
    (repeat' ((conv => whnf); first | (refine Giv.mk fun _ => ?_) | (refine Alt.l (Need.mk ?h ?_); case h => omega) | (refine Alt.r (Need.mk ?h ?_); case h => omega) | (refine Need.mk ?h ?_; case h => first | omega | (intro _; rfl) | assumption | (simp <;> omega)) | refine Ix.zero ?_ | refine Ix.one ?_ | refine Ix.two ?_ | refine Ix.nat ?_ | refine Ix.add ?_ | (apply Go.Eng.Pin.mk; apply Exists.intro) | apply Go.Eng.Pinned.mk rfl rfl | (apply Go.Eng.PinH.mk; apply Exists.intro; apply Exists.intro) | exact Go.Eng.Fin0.mk | refine Go.Eng.Chk.mk ?_ ?_ | refine Own.l ?_ | fail))
    (refine Br.mk (fun _ => ?_) (fun _ => ?_))
    · rename_i g
      (repeat' ((conv => whnf); first | (refine Giv.mk fun _ => ?_) | (refine Alt.l (Need.mk ?h ?_); case h => omega) | (refine Alt.r (Need.mk ?h ?_); case h => omega) | (refine Need.mk ?h ?_; case h => first | omega | (intro _; rfl) | assumption | (simp <;> omega)) | refine Ix.zero ?_ | refine Ix.one ?_ | refine Ix.two ?_ | refine Ix.nat ?_ | refine Ix.add ?_ | (apply Go.Eng.Pin.mk; apply Exists.intro) | apply Go.Eng.Pinned.mk rfl rfl | (apply Go.Eng.PinH.mk; apply Exists.intro; apply Exists.intro) | exact Go.Eng.Fin0.mk | refine Go.Eng.Chk.mk ?_ ?_ | refine Own.l ?_ | fail))
      (conv => whnf)
      exact ⟨rfl, (firstE_hit hi2 hlt g).symm⟩
    · rename_i g
      (repeat' ((conv => whnf); first | (refine Giv.mk fun _ => ?_) | (refine Alt.l (Need.mk ?h ?_); case h => omega) | (refine Alt.r (Need.mk ?h ?_); case h => omega) | (refine Need.mk ?h ?_; case h => first | omega | (intro _; rfl) | assumption | (simp <;> omega)) | refine Ix.zero ?_ | refine Ix.one ?_ | refine Ix.two ?_ | refine Ix.nat ?_ | refine Ix.add ?_ | (apply Go.Eng.Pin.mk; apply Exists.intro) | apply Go.Eng.Pinned.mk rfl rfl | (apply Go.Eng.PinH.mk; apply Exists.intro; apply Exists.intro) | exact Go.Eng.Fin0.mk | refine Go.Eng.Chk.mk ?_ ?_ | refine Own.l ?_ | fail))
      refine ⟨(i + 1 : Nat), by show xs.length - (i + 1) < xs.length - i; omega, ⟨hlt, fun j hj => ?_⟩, by (repeat' (first | exact trivial | rfl | exact Nat.one_pos | (refine And.intro ?_ ?_) | omega | ((conv => whnf); (refine And.intro ?_ ?_)) | ((conv => whnf); exact trivial)))⟩
      by_cases e : j = i
      · subst e; exact Classical.not_not.1 g
      · exact hi2 j (by omega)
  · (repeat' ((conv => whnf); first | (refine Giv.mk fun _ => ?_) | (refine Alt.l (Need.mk ?h ?_); case h => omega) | (refine Alt.r (Need.mk ?h ?_); case h => omega) | (refine Need.mk ?h ?_; case h => first | omega | (intro _; rfl) | assumption | (simp <;> omega)) | refine Ix.zero ?_ | refine Ix.one ?_ | refine Ix.two ?_ | refine Ix.nat ?_ | refine Ix.add ?_ | (apply Go.Eng.Pin.mk; apply Exists.intro) | apply Go.Eng.Pinned.mk rfl rfl | (apply Go.Eng.PinH.mk; apply Exists.intro; apply Exists.intro) | exact Go.Eng.Fin0.mk | refine Go.Eng.Chk.mk ?_ ?_ | refine Own.l ?_ | fail))
    refine Br.mkN (by omega) ?_
    (repeat' ((conv => whnf); first | (refine Giv.mk fun _ => ?_) | (refine Alt.l (Need.mk ?h ?_); case h => omega) | (refine Alt.r (Need.mk ?h ?_); case h => omega) | (refine Need.mk ?h ?_; case h => first | omega | (intro _; rfl) | assumption | (simp <;> omega)) | refine Ix.zero ?_ | refine Ix.one ?_ | refine Ix.two ?_ | refine Ix.nat ?_ | refine Ix.add ?_ | (apply Go.Eng.Pin.mk; apply Exists.intro) | apply Go.Eng.Pinned.mk rfl rfl | (apply Go.Eng.PinH.mk; apply Exists.intro; apply Exists.intro) | exact Go.Eng.Fin0.mk | refine Go.Eng.Chk.mk ?_ ?_ | refine Own.l ?_ | fail))
    (conv => whnf)
    exact ⟨rfl, (firstE_none fun j hj => hi2 j (by omega)).symm⟩
def c32 : Con := mkCon 32 true fun args K => match args with | [.seq (.int .i64) xs, .seq (.int .i64) ys] => Need (xs.length = ys.length) (K (I (cmpL xs ys))) | _ => False
theorem k32 : ConOK Try.prog c32 := by
  refine conOK_of rfl (enters_of Try.func32 (by kernel_rfl) rfl) ?_
  intro args K h
  simp only [c32] at h
  split at h
  · rename_i xs ys; exact ⟨_, h.go, tri_of_body (Γ := [c55]) (by simp [k55]) Try.func32 (by simp [Try.ntmps32]) rfl (b32 xs ys h.ok)⟩
  · exact h.elim
theorem b31 (p ls : List Int) (len kerf : Int) : body Try.prog [c22] {} true Try.f31 [Ls p, .lelem [Ls ls] 0, .lelem [I len] 0, .lelem [I kerf] 0] (.bl (fitsE ls p len kerf) inferInstance) := by
  unfold fitsE
  (repeat' ((conv => whnf); first | (refine Giv.mk fun _ => ?_) | (refine Alt.l (Need.mk ?h ?_); case h => omega) | (refine Alt.r (Need.mk ?h ?_); case h => omega) | (refine Need.mk ?h ?_; case h => first | omega | (intro _; rfl) | assumption | (simp <;> omega)) | refine Ix.zero ?_ | refine Ix.one ?_ | refine Ix.two ?_ | refine Ix.nat ?_ | refine Ix.add ?_ | (apply Go.Eng.Pin.mk; apply Exists.intro) | apply Go.Eng.Pinned.mk rfl rfl | (apply Go.Eng.PinH.mk; apply Exists.intro; apply Exists.intro) | exact Go.Eng.Fin0.mk | refine Go.Eng.Chk.mk ?_ ?_ | refine Own.l ?_ | fail))
  (refine Br.mk (fun _ => ?_) (fun _ => ?_))
  · rename_i h
    (conv => whnf)
  · rename_i h
    (conv => whnf)
    exact fun h1 => h h1.1
def c31 : Con := mkCon 31 true fun args K => match args with | [.seq (.int .i64) p, .lelem [.seq (.int .i64) ls] 0, .lelem [.val (.int .i64 len)] 0, .lelem [.val (.int .i64 kerf)] 0] => K (.bl (fitsE ls p len kerf) inferInstance) | _ => False
theorem k31 : ConOK Try.prog c31 := by
  refine conOK_of rfl (enters_of Try.func31 (by kernel_rfl) rfl) ?_
  intro args K h
  simp only [c31] at h
  split at h
  · rename_i p ls len kerf; exact ⟨_, h, tri_of_body (Γ := [c22]) (by simp [k22]) Try.func31 (by simp [Try.ntmps31]) rfl (b31 p ls len kerf)⟩
  · exact h.elim
def leP (v q : List Int) : Prop := ∀ k, k < v.length → v.getD k 0 ≤ q.getD k 0
noncomputable instance (v q : List Int) : Decidable (leP v q) := Classical.propDecidable _
theorem b33 (q v : List Int) (hl : q.length = v.length) : body Try.prog [] { asks := [(0, [])] } true Try.f33 [Ls q, .lelem [Ls v] 0] (.bl (leP v q) inferInstance) := by
  (repeat' ((conv => whnf); first | (refine Giv.mk fun _ => ?_) | (refine Alt.l (Need.mk ?h ?_); case h => omega) | (refine Alt.r (Need.mk ?h ?_); case h => omega) | (refine Need.mk ?h ?_; case h => first | omega | (intro _; rfl) | assumption | (simp <;> omega)) | refine Ix.zero ?_ | refine Ix.one ?_ | refine Ix.two ?_ | refine Ix.nat ?_ | refine Ix.add ?_ | (apply Go.Eng.Pin.mk; apply Exists.intro) | apply Go.Eng.Pinned.mk rfl rfl | (apply Go.Eng.PinH.mk; apply Exists.intro; apply Exists.intro) | exact Go.Eng.Fin0.mk | refine Go.Eng.Chk.mk ?_ ?_ | refine Own.l ?_ | fail))
  refine Ask.mk ⟨{ X := Nat, pre := fun i => i ≤ v.length ∧ ∀ j, j < i → v.getD j 0 ≤ q.getD j 0, mod := fun i _ => [(7, I i)], mu := fun i => v.length - i }, rfl, ?_⟩
  (repeat' ((conv => whnf); first | (refine Giv.mk fun _ => ?_) | (refine Alt.l (Need.mk ?h ?_); case h => omega) | (refine Alt.r (Need.mk ?h ?_); case h => omega) | (refine Need.mk ?h ?_; case h => first | omega | (intro _; rfl) | assumption | (simp <;> omega)) | refine Ix.zero ?_ | refine Ix.one ?_ | refine Ix.two ?_ | refine Ix.nat ?_ | refine Ix.add ?_ | (apply Go.Eng.Pin.mk; apply Exists.intro) | apply Go.Eng.Pinned.mk rfl rfl | (apply Go.Eng.PinH.mk; apply Exists.intro; apply Exists.intro) | exact Go.Eng.Fin0.mk | refine Go.Eng.Chk.mk ?_ ?_ | refine Own.l ?_ | fail))
  refine ⟨⟨(0 : Nat), ⟨Nat.zero_le _, fun j hj => by omega⟩, by (repeat' (first | exact trivial | rfl | exact Nat.one_pos | (refine And.intro ?_ ?_) | omega | ((conv => whnf); (refine And.intro ?_ ?_)) | ((conv => whnf); exact trivial)))⟩, fun (i : Nat) hi => ?_⟩
  obtain ⟨hi1, hi2⟩ := hi
  have hi1 : i ≤ v.length := hi1
  (repeat' ((conv => whnf); first | (refine Giv.mk fun _ => ?_) | (refine Alt.l (Need.mk ?h ?_); case h => omega) | (refine Alt.r (Need.mk ?h ?_); case h => omega) | (refine Need.mk ?h ?_; case h => first | omega | (intro _; rfl) | assumption | (simp <;> omega)) | refine Ix.zero ?_ | refine Ix.one ?_ | refine Ix.two ?_ | refine Ix.nat ?_ | refine Ix.add ?_ | (apply Go.Eng.Pin.mk; apply Exists.intro) | apply Go.Eng.Pinned.mk rfl rfl | (apply Go.Eng.PinH.mk; apply Exists.intro; apply Exists.intro) | exact Go.Eng.Fin0.mk | refine Go.Eng.Chk.mk ?_ ?_ | refine Own.l ?_ | fail))
  (refine Br.mk (fun _ => ?_) (fun _ => ?_))
  · have hlt : i < v.length := by omega
    (repeat' ((conv => whnf); first | (refine Giv.mk fun _ => ?_) | (refine Alt.l (Need.mk ?h ?_); case h => omega) | (refine Alt.r (Need.mk ?h ?_); case h => omega) | (refine Need.mk ?h ?_; case h => first | omega | (intro _; rfl) | assumption | (simp <;> omega)) | refine Ix.zero ?_ | refine Ix.one ?_ | refine Ix.two ?_ | refine Ix.nat ?_ | refine Ix.add ?_ | (apply Go.Eng.Pin.mk; apply Exists.intro) | apply Go.Eng.Pinned.mk rfl rfl | (apply Go.Eng.PinH.mk; apply Exists.intro; apply Exists.intro) | exact Go.Eng.Fin0.mk | refine Go.Eng.Chk.mk ?_ ?_ | refine Own.l ?_ | fail))
    (refine Br.mk (fun _ => ?_) (fun _ => ?_))
    · rename_i g
      (repeat' ((conv => whnf); first | (refine Giv.mk fun _ => ?_) | (refine Alt.l (Need.mk ?h ?_); case h => omega) | (refine Alt.r (Need.mk ?h ?_); case h => omega) | (refine Need.mk ?h ?_; case h => first | omega | (intro _; rfl) | assumption | (simp <;> omega)) | refine Ix.zero ?_ | refine Ix.one ?_ | refine Ix.two ?_ | refine Ix.nat ?_ | refine Ix.add ?_ | (apply Go.Eng.Pin.mk; apply Exists.intro) | apply Go.Eng.Pinned.mk rfl rfl | (apply Go.Eng.PinH.mk; apply Exists.intro; apply Exists.intro) | exact Go.Eng.Fin0.mk | refine Go.Eng.Chk.mk ?_ ?_ | refine Own.l ?_ | fail))
      (conv => whnf)
      exact fun h => Int.not_lt.2 (h i hlt) g
    · rename_i g
      (repeat' ((conv => whnf); first | (refine Giv.mk fun _ => ?_) | (refine Alt.l (Need.mk ?h ?_); case h => omega) | (refine Alt.r (Need.mk ?h ?_); case h => omega) | (refine Need.mk ?h ?_; case h => first | omega | (intro _; rfl) | assumption | (simp <;> omega)) | refine Ix.zero ?_ | refine Ix.one ?_ | refine Ix.two ?_ | refine Ix.nat ?_ | refine Ix.add ?_ | (apply Go.Eng.Pin.mk; apply Exists.intro) | apply Go.Eng.Pinned.mk rfl rfl | (apply Go.Eng.PinH.mk; apply Exists.intro; apply Exists.intro) | exact Go.Eng.Fin0.mk | refine Go.Eng.Chk.mk ?_ ?_ | refine Own.l ?_ | fail))
      refine ⟨(i + 1 : Nat), by show v.length - (i + 1) < v.length - i; omega, ⟨hlt, fun j hj => ?_⟩, by (repeat' (first | exact trivial | rfl | exact Nat.one_pos | (refine And.intro ?_ ?_) | omega | ((conv => whnf); (refine And.intro ?_ ?_)) | ((conv => whnf); exact trivial)))⟩
      by_cases e : j = i
      · subst e; exact Int.not_lt.1 g
      · exact hi2 j (by omega)
  · (repeat' ((conv => whnf); first | (refine Giv.mk fun _ => ?_) | (refine Alt.l (Need.mk ?h ?_); case h => omega) | (refine Alt.r (Need.mk ?h ?_); case h => omega) | (refine Need.mk ?h ?_; case h => first | omega | (intro _; rfl) | assumption | (simp <;> omega)) | refine Ix.zero ?_ | refine Ix.one ?_ | refine Ix.two ?_ | refine Ix.nat ?_ | refine Ix.add ?_ | (apply Go.Eng.Pin.mk; apply Exists.intro) | apply Go.Eng.Pinned.mk rfl rfl | (apply Go.Eng.PinH.mk; apply Exists.intro; apply Exists.intro) | exact Go.Eng.Fin0.mk | refine Go.Eng.Chk.mk ?_ ?_ | refine Own.l ?_ | fail))
    (conv => whnf)
    exact fun j hj => hi2 j (by omega)
def c33 : Con := mkCon 33 true fun args K => match args with | [.seq (.int .i64) q, .lelem [.seq (.int .i64) v] 0] => Need (q.length = v.length) (K (.bl (leP v q) inferInstance)) | _ => False
theorem k33 : ConOK Try.prog c33 := by
  refine conOK_of rfl (enters_of Try.func33 (by kernel_rfl) rfl) ?_
  intro args K h
  simp only [c33] at h
  split at h
  · rename_i q v; exact ⟨_, h.go, tri_of_body (Γ := []) (by simp) Try.func33 (by simp [Try.ntmps33]) rfl (b33 q v h.ok)⟩
  · exact h.elim
def hasP (ps : List (List Int)) (v : List Int) : Prop := ∃ j, j < ps.length ∧ leP v (ps.getD j [])
noncomputable instance (ps : List (List Int)) (v : List Int) : Decidable (hasP ps v) := Classical.propDecidable _
noncomputable def hasI (ps : List (List Int)) (v : List Int) : Int := firstE (fun j => if leP v (ps.getD j []) then (j : Int) + 1 else 0) ps.length - 1
theorem hasI_hit {ps : List (List Int)} {v : List Int} {i : Nat} (h : ∀ j, j < i → ¬ leP v (ps.getD j [])) (hn : i < ps.length) (hi : leP v (ps.getD i [])) : hasI ps v = i := by
  unfold hasI
  rw [firstE_hit (i := i) (fun j hj => if_neg (h j hj)) hn (by rw [if_pos hi]; omega), if_pos hi]; omega
theorem hasI_none {ps : List (List Int)} {v : List Int} (h : ∀ j, j < ps.length → ¬ leP v (ps.getD j [])) : hasI ps v = -1 := by
  unfold hasI
  rw [firstE_none fun j hj => if_neg (h j hj)]; rfl
theorem b43 (ps : List (List Int)) (v : List Int) (hl : ∀ j, j < ps.length → (ps.getD j []).length = v.length) : body Try.prog [c33] { asks := [(0, [])] } true Try.f43 [LL ps, .clo 33 [] [.lelem [Ls v] 0]] (I (hasI ps v)) := by
  (repeat' ((conv => whnf); first | (refine Giv.mk fun _ => ?_) | (refine Alt.l (Need.mk ?h ?_); case h => omega) | (refine Alt.r (Need.mk ?h ?_); case h => omega) | (refine Need.mk ?h ?_; case h => first | omega | (intro _; rfl) | assumption | (simp <;> omega)) | refine Ix.zero ?_ | refine Ix.one ?_ | refine Ix.two ?_ | refine Ix.nat ?_ | refine Ix.add ?_ | (apply Go.Eng.Pin.mk; apply Exists.intro) | apply Go.Eng.Pinned.mk rfl rfl | (apply Go.Eng.PinH.mk; apply Exists.intro; apply Exists.intro) | exact Go.Eng.Fin0.mk | refine Go.Eng.Chk.mk ?_ ?_ | refine Own.l ?_ | fail))
  refine Ask.mk ⟨{ X := Nat, pre := fun i => i ≤ ps.length ∧ ∀ j, j < i → ¬ leP v (ps.getD j []), mod := fun i _ => [(8, I i)], mu := fun i => ps.length - i }, rfl, ?_⟩
  (repeat' ((conv => whnf); first | (refine Giv.mk fun _ => ?_) | (refine Alt.l (Need.mk ?h ?_); case h => omega) | (refine Alt.r (Need.mk ?h ?_); case h => omega) | (refine Need.mk ?h ?_; case h => first | omega | (intro _; rfl) | assumption | (simp <;> omega)) | refine Ix.zero ?_ | refine Ix.one ?_ | refine Ix.two ?_ | refine Ix.nat ?_ | refine Ix.add ?_ | (apply Go.Eng.Pin.mk; apply Exists.intro) | apply Go.Eng.Pinned.mk rfl rfl | (apply Go.Eng.PinH.mk; apply Exists.intro; apply Exists.intro) | exact Go.Eng.Fin0.mk | refine Go.Eng.Chk.mk ?_ ?_ | refine Own.l ?_ | fail))
  refine ⟨⟨(0 : Nat), ⟨Nat.zero_le _, fun j hj => by omega⟩, by (repeat' (first | exact trivial | rfl | exact Nat.one_pos | (refine And.intro ?_ ?_) | omega | ((conv => whnf); (refine And.intro ?_ ?_)) | ((conv => whnf); exact trivial)))⟩, fun (i : Nat) hi => ?_⟩
  obtain ⟨hi1, hi2⟩ := hi
  have hi1 : i ≤ ps.length := hi1
  (repeat' ((conv => whnf); first | (refine Giv.mk fun _ => ?_) | (refine Alt.l (Need.mk ?h ?_); case h => omega) | (refine Alt.r (Need.mk ?h ?_); case h => omega) | (refine Need.mk ?h ?_; case h => first | omega | (intro _; rfl) | assumption | (simp <;> omega)) | refine Ix.zero ?_ | refine Ix.one ?_ | refine Ix.two ?_ | refine Ix.nat ?_ | refine Ix.add ?_ | (apply Go.Eng.Pin.mk; apply Exists.intro) | apply Go.Eng.Pinned.mk rfl rfl | (apply Go.Eng.PinH.mk; apply Exists.intro; apply Exists.intro) | exact Go.Eng.Fin0.mk | refine Go.Eng.Chk.mk ?_ ?_ | refine Own.l ?_ | fail))
  (refine Br.mk (fun _ => ?_) (fun _ => ?_))
  · have hlt : i < ps.length := by omega
    (repeat' ((conv => whnf); first | (refine Giv.mk fun _ => ?_) | (refine Alt.l (Need.mk ?h ?_); case h => omega) | (refine Alt.r (Need.mk ?h ?_); case h => omega) | (refine Need.mk ?h ?_; case h => first | omega | (intro _; rfl) | assumption | (simp <;> omega)) | refine Ix.zero ?_ | refine Ix.one ?_ | refine Ix.two ?_ | refine Ix.nat ?_ | refine Ix.add ?_ | (apply Go.Eng.Pin.mk; apply Exists.intro) | apply Go.Eng.Pinned.mk rfl rfl | (apply Go.Eng.PinH.mk; apply Exists.intro; apply Exists.intro) | exact Go.Eng.Fin0.mk | refine Go.Eng.Chk.mk ?_ ?_ | refine Own.l ?_ | fail))
    refine Need.mk (hl i hlt) ?_
    (repeat' ((conv => whnf); first | (refine Giv.mk fun _ => ?_) | (refine Alt.l (Need.mk ?h ?_); case h => omega) | (refine Alt.r (Need.mk ?h ?_); case h => omega) | (refine Need.mk ?h ?_; case h => first | omega | (intro _; rfl) | assumption | (simp <;> omega)) | refine Ix.zero ?_ | refine Ix.one ?_ | refine Ix.two ?_ | refine Ix.nat ?_ | refine Ix.add ?_ | (apply Go.Eng.Pin.mk; apply Exists.intro) | apply Go.Eng.Pinned.mk rfl rfl | (apply Go.Eng.PinH.mk; apply Exists.intro; apply Exists.intro) | exact Go.Eng.Fin0.mk | refine Go.Eng.Chk.mk ?_ ?_ | refine Own.l ?_ | fail))
    (refine Br.mk (fun _ => ?_) (fun _ => ?_))
    · rename_i g
      (repeat' ((conv => whnf); first | (refine Giv.mk fun _ => ?_) | (refine Alt.l (Need.mk ?h ?_); case h => omega) | (refine Alt.r (Need.mk ?h ?_); case h => omega) | (refine Need.mk ?h ?_; case h => first | omega | (intro _; rfl) | assumption | (simp <;> omega)) | refine Ix.zero ?_ | refine Ix.one ?_ | refine Ix.two ?_ | refine Ix.nat ?_ | refine Ix.add ?_ | (apply Go.Eng.Pin.mk; apply Exists.intro) | apply Go.Eng.Pinned.mk rfl rfl | (apply Go.Eng.PinH.mk; apply Exists.intro; apply Exists.intro) | exact Go.Eng.Fin0.mk | refine Go.Eng.Chk.mk ?_ ?_ | refine Own.l ?_ | fail))
      (conv => whnf)
      exact ⟨rfl, (hasI_hit hi2 hlt g).symm⟩
    · rename_i g
      (repeat' ((conv => whnf); first | (refine Giv.mk fun _ => ?_) | (refine Alt.l (Need.mk ?h ?_); case h => omega) | (refine Alt.r (Need.mk ?h ?_); case h => omega) | (refine Need.mk ?h ?_; case h => first | omega | (intro _; rfl) | assumption | (simp <;> omega)) | refine Ix.zero ?_ | refine Ix.one ?_ | refine Ix.two ?_ | refine Ix.nat ?_ | refine Ix.add ?_ | (apply Go.Eng.Pin.mk; apply Exists.intro) | apply Go.Eng.Pinned.mk rfl rfl | (apply Go.Eng.PinH.mk; apply Exists.intro; apply Exists.intro) | exact Go.Eng.Fin0.mk | refine Go.Eng.Chk.mk ?_ ?_ | refine Own.l ?_ | fail))
      refine ⟨(i + 1 : Nat), by show ps.length - (i + 1) < ps.length - i; omega, ⟨hlt, fun j hj => ?_⟩, by (repeat' (first | exact trivial | rfl | exact Nat.one_pos | (refine And.intro ?_ ?_) | omega | ((conv => whnf); (refine And.intro ?_ ?_)) | ((conv => whnf); exact trivial)))⟩
      by_cases e : j = i
      · subst e; exact g
      · exact hi2 j (by omega)
  · (repeat' ((conv => whnf); first | (refine Giv.mk fun _ => ?_) | (refine Alt.l (Need.mk ?h ?_); case h => omega) | (refine Alt.r (Need.mk ?h ?_); case h => omega) | (refine Need.mk ?h ?_; case h => first | omega | (intro _; rfl) | assumption | (simp <;> omega)) | refine Ix.zero ?_ | refine Ix.one ?_ | refine Ix.two ?_ | refine Ix.nat ?_ | refine Ix.add ?_ | (apply Go.Eng.Pin.mk; apply Exists.intro) | apply Go.Eng.Pinned.mk rfl rfl | (apply Go.Eng.PinH.mk; apply Exists.intro; apply Exists.intro) | exact Go.Eng.Fin0.mk | refine Go.Eng.Chk.mk ?_ ?_ | refine Own.l ?_ | fail))
    (conv => whnf)
    exact ⟨rfl, (hasI_none fun j hj => hi2 j (by omega)).symm⟩
def c43 : Con := mkCon 43 true fun args K => match args with | [.seq (.slice (.int .i64)) ps, .clo 33 [] [.lelem [.seq (.int .i64) v] 0]] => Need (∀ j, j < ps.length → (ps.getD j []).length = v.length) (K (I (hasI ps v))) | _ => False
theorem k43 : ConOK Try.prog c43 := by
  refine conOK_of rfl (enters_of Try.func43 (by kernel_rfl) rfl) ?_
  intro args K h
  simp only [c43] at h
  split at h
  · rename_i ps v; exact ⟨_, h.go, tri_of_body (Γ := [c33]) (by simp [k33]) Try.func43 (by simp [Try.ntmps43]) rfl (b43 ps v h.ok)⟩
  · exact h.elim
theorem b26 (ps : List (List Int)) (v : List Int) (hl : ∀ j, j < ps.length → (ps.getD j []).length = v.length) : body Try.prog [c43] {} true Try.f26 [LL ps, .clo 33 [] [.lelem [Ls v] 0]] (.bl (0 ≤ hasI ps v) inferInstance) := by
  (repeat' ((conv => whnf); first | (refine Giv.mk fun _ => ?_) | (refine Alt.l (Need.mk ?h ?_); case h => omega) | (refine Alt.r (Need.mk ?h ?_); case h => omega) | (refine Need.mk ?h ?_; case h => first | omega | (intro _; rfl) | assumption | (simp <;> omega)) | refine Ix.zero ?_ | refine Ix.one ?_ | refine Ix.two ?_ | refine Ix.nat ?_ | refine Ix.add ?_ | (apply Go.Eng.Pin.mk; apply Exists.intro) | apply Go.Eng.Pinned.mk rfl rfl | (apply Go.Eng.PinH.mk; apply Exists.intro; apply Exists.intro) | exact Go.Eng.Fin0.mk | refine Go.Eng.Chk.mk ?_ ?_ | refine Own.l ?_ | fail))
  (conv => whnf)
def c26 : Con := mkCon 26 true fun args K => match args with | [.seq (.slice (.int .i64)) ps, .clo 33 [] [.lelem [.seq (.int .i64) v] 0]] => Need (∀ j, j < ps.length → (ps.getD j []).length = v.length) (K (.bl (0 ≤ hasI ps v) inferInstance)) | _ => False
theorem k26 : ConOK Try.prog c26 := by
  refine conOK_of rfl (enters_of Try.func26 (by kernel_rfl) rfl) ?_
  intro args K h
  simp only [c26] at h
  split at h
  · rename_i ps v; exact ⟨_, h.go, tri_of_body (Γ := [c43]) (by simp [k43]) Try.func26 (by simp [Try.ntmps26]) rfl (b26 ps v h.ok)⟩
  · exact h.elim
end S
end PB
end
section
set_option linter.unusedVariables false
open Go Go.Proofs Go.Eng Go.Shelf
namespace PB
set_option maxRecDepth 100000
set_option linter.unusedVariables false
def gtL (xs ys : List Int) : Prop := ∃ i, i < xs.length ∧ (∀ j, j < i → xs.getD j 0 = ys.getD j 0) ∧ ys.getD i 0 < xs.getD i 0
theorem gtL_cmp {xs ys : List Int} (h : gtL xs ys) : cmpL xs ys = 1 := by
  obtain ⟨i, h1, h2, h3⟩ := h
  unfold cmpL
  rw [firstE_hit (i := i) (fun j hj => by rw [h2 j hj]; unfold cmpI; rw [if_neg (Int.lt_irrefl _), if_neg (Int.lt_irrefl _)]) h1 (by unfold cmpI; rw [if_neg (by omega), if_pos h3]; decide)]
  unfold cmpI; rw [if_neg (by omega), if_pos h3]
theorem down_desc (n : Nat) : (down n).Pairwise fun a b => b < a := by
  unfold down
  rw [List.pairwise_reverse]
  exact List.pairwise_lt_range
theorem pats_desc (kerf : Int) : ∀ (ls cs : List Int) (room : Int), (pats kerf ls cs room).Pairwise gtL
  | [], _, _ => by simp [pats]
  | l :: ls, cs, room => by
    simp only [pats]
    rw [List.pairwise_flatMap]
    refine ⟨fun n _ => ?_, (down_desc _).imp fun {a b} hab x hx y hy => ?_⟩
    · rw [List.pairwise_map]
      refine (pats_desc kerf ls cs.tail _).imp fun {x y} h => ?_
      obtain ⟨i, h1, h2, h3⟩ := h
      refine ⟨i + 1, by simpa using h1, fun j hj => ?_, by simpa using h3⟩
      cases j with
      | zero => rfl
      | succ j => simpa using h2 j (by omega)
    · obtain ⟨q, _, rfl⟩ := List.mem_map.1 hx
      obtain ⟨q', _, rfl⟩ := List.mem_map.1 hy
      exact ⟨0, by simp, fun j hj => by omega, by simp; omega⟩
theorem allM_desc {ls cs : List Int} {len kerf : Int} {i : Nat} (hi : i + 1 < (allM ls cs len kerf).length) : cmpL ((allM ls cs len kerf).getD i []) ((allM ls cs len kerf).getD (i + 1) []) = 1 := by
  have h1 : (allM ls cs len kerf).Pairwise gtL := (pats_desc kerf _ _ _).filter _
  have h2 := List.pairwise_iff_getElem.1 h1 i (i + 1) (by omega) hi (by omega)
  have e1 : (allM ls cs len kerf).getD i [] = (allM ls cs len kerf)[i] := by rw [List.getD_eq_getElem?_getD, List.getElem?_eq_getElem (by omega)]; rfl
  have e2 : (allM ls cs len kerf).getD (i + 1) [] = (allM ls cs len kerf)[i + 1] := by rw [List.getD_eq_getElem?_getD, List.getElem?_eq_getElem hi]; rfl
  rw [e1, e2]
  exact gtL_cmp h2
theorem fit_fits {ls cs p : List Int} {len kerf : Int} (h0 : allE ls cs len kerf = 0) (h : Fit ls cs p len kerf) : fitsE ls p len kerf := by
  obtain ⟨b1, b2, b3, b4⟩ := allE_iff.1 h0
  have h1 : allE ls p len kerf = 0 := allE_iff.2 ⟨b1, b2, h.ql, fun i hi => by
    have := h.qB i (by rw [← h.ql]; exact hi)
    have := b4 i (by rw [b3, ← h.ql]; exact hi)
    omega⟩
  exact ⟨h1, (fits_iff (allE_ok h1).1).2 h.room⟩
theorem fits_fit {ls cs p : List Int} {len kerf : Int} (h0 : allE ls cs len kerf = 0) (hl : p.length = ls.length) (hb : ∀ i, i < ls.length → 0 ≤ p.getD i 0 ∧ p.getD i 0 ≤ cs.getD i 0) (h : fitsE ls p len kerf) : Fit ls cs p len kerf := by
  have hok := okC_of h0
  exact ⟨hok.1, hok.2.1, hok.2.2, hl, hb, (fits_iff (allE_ok h.1).1).1 h.2⟩
theorem max_not {ls cs p : List Int} {len kerf : Int} (h : maxE ls cs p len kerf = true) {i : Nat} (hi : i < p.length) (hc : p.getD i 0 < cs.getD i 0) : ¬ fitsE ls (p.set i (p.getD i 0 + 1)) len kerf := fun hf => by
  have := maxE_hit (ls := ls) (cs := cs) (len := len) (kerf := kerf) hi ⟨by omega, hf.2⟩
  rw [h] at this; cases this
def pvL (pk cs : List Int) (n m : Nat) : List Int := (List.range n).map fun j => if j < m ∧ j < pk.length then pk.getD j 0 % (cs.getD j 0 + 1) else 0
theorem pvL_len (pk cs : List Int) (n m : Nat) : (pvL pk cs n m).length = n := by simp [pvL]
theorem pvL_get (pk cs : List Int) (n m j : Nat) (h : j < n) : (pvL pk cs n m).getD j 0 = if j < m ∧ j < pk.length then pk.getD j 0 % (cs.getD j 0 + 1) else 0 := by
  simp [pvL, List.getD_eq_getElem?_getD, h]
theorem pvL_zero (pk cs : List Int) (n : Nat) : pvL pk cs n 0 = List.replicate n 0 := by
  refine getD_ext (d := 0) (by simp [pvL]) fun i hi => ?_
  rw [pvL_len] at hi
  rw [pvL_get _ _ _ _ _ hi, zero_get, if_neg (by omega)]
theorem pvL_skip (pk cs : List Int) (n m : Nat) (h : ¬ m < pk.length) : pvL pk cs n (m + 1) = pvL pk cs n m := by
  refine getD_ext (d := 0) (by simp [pvL]) fun i hi => ?_
  rw [pvL_len] at hi
  rw [pvL_get _ _ _ _ _ hi, pvL_get _ _ _ _ _ hi]
  by_cases e : i < m ∧ i < pk.length
  · rw [if_pos e, if_pos (by omega)]
  · rw [if_neg e, if_neg (by omega)]
theorem pvL_step (pk cs : List Int) (n m : Nat) (hm : m < n) (h : m < pk.length) : (pvL pk cs n m).set m (pk.getD m 0 % (cs.getD m 0 + 1)) = pvL pk cs n (m + 1) := by
  refine getD_ext (d := 0) (by simp [pvL]) fun i hi => ?_
  rw [List.length_set, pvL_len] at hi
  rw [set_getQ _ _ _ (by rw [pvL_len]; exact hm), pvL_get _ _ _ _ _ hi, pvL_get _ _ _ _ _ hi]
  by_cases e : i = m
  · subst e; rw [if_pos rfl, if_pos (by omega)]
  · rw [if_neg e]
    by_cases e2 : i < m ∧ i < pk.length
    · rw [if_pos e2, if_pos (by omega)]
    · rw [if_neg e2, if_neg (by omega)]
end PB
end
