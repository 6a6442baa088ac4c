/-
  Part 7: a symbolic executor over the model, contracts of functions and plain laws.
-/
import Derived.Test.YtdfefbfaoffcbaaGreatDoorP6
section
open Go Go.Proofs Go.Eng Go.Shelf IB Go.Lib Go.RowKit
namespace RB
set_option maxRecDepth 10000
set_option linter.unusedVariables false
set_option linter.unusedSimpArgs false
theorem resI_no {n : Int} (h : lim n = true) : resI n = ([], 4) := by unfold resI; rw [if_pos h]
theorem resI_ok {n : Int} (h : lim n = false) : resI n = (itoa n, 0) := by unfold resI; rw [if_neg (by rw [h]; decide)]
theorem b80 (n d m c : List UInt8) (h : ok4 n m d c) (h0 : valI d * valI c ≠ 0) : (∀ hl : lim (valI n * valI m) = true ∨ lim (valI d * valI c) = true, body Tryz.prog [c81, c63] {} true Tryz.f80 [S n, S d, S m, S c] (.tup [S [], I 4])) ∧ (∀ hl : ¬ (lim (valI n * valI m) = true ∨ lim (valI d * valI c) = true), body Tryz.prog [c81, c63] {} true Tryz.f80 [S n, S d, S m, S c] (.tup [S (numS (Rat.divInt (valI n * valI m) (valI d * valI c))), I 0])) := by
 refine ⟨fun hl => ?_, fun hl => ?_⟩
 ·by_cases h1 : lim (valI n * valI m) = true
  ·(repeat'((conv=>whnf);first|refine Zn ?_|fail))
   refine Br.mkY h1 ?_
   (repeat'((conv=>whnf);first|refine Zy ?_|fail))
   (conv => whnf)
   (repeat'(first|exact trivial|rfl|refine And.intro ?_ ?_|fail))
  ·have h2 : lim (valI d * valI c) = true := hl.elim (fun h => absurd h h1) id
   (repeat'((conv=>whnf);first|refine Zn ?_|fail))
   refine Br.mkN h1 ?_
   skip
   refine Br.mkY (show ¬ (resI (valI d * valI c)).2 = 0 by rw [resI_no h2]; decide) ?_
   skip
   (conv => whnf)
   (repeat'(first|exact trivial|rfl|refine And.intro ?_ ?_|fail))
   (conv => whnf)
   rw [resI_no h2]
 ·have h1 : lim (valI n * valI m) = false := by
   cases h : lim (valI n * valI m) with
   | true => exact absurd (.inl h) hl
   | false => rfl
  have h2 : lim (valI d * valI c) = false := by
   cases h : lim (valI d * valI c) with
   | true => exact absurd (.inr h) hl
   | false => rfl
  have e2 := resI_ok h2
  have n1 : (chkI (itoa (valI n * valI m)) = 0 ∧ chkI (resI (valI d * valI c)).1 = 0) ∧ valI (resI (valI d * valI c)).1 ≠ 0 := by
   rw [e2]
   exact ⟨⟨chk_itoa h1, chk_itoa h2⟩, by rw [valI_itoa]; exact h0⟩
  (repeat'((conv=>whnf);first|refine Zn ?_|fail))
  refine Br.mkN (by rw [h1]; decide) ?_
  skip
  refine Br.mkN (show ¬ ¬ (resI (valI d * valI c)).2 = 0 by rw [e2]; simp) ?_
  (repeat'((conv=>whnf);first|refine Zn ?_|fail))
  (conv => whnf)
  (repeat'(first|exact trivial|rfl|refine And.intro ?_ ?_|fail))
  (conv => whnf)
  rw [e2, valI_itoa, valI_itoa]
def c80 : Con := mkCon 80 true fun args K => match args with
 | [.str n, .str d, .str m, .str c] => Need (ok4 n m d c ∧ valI d * valI c ≠ 0) (Br (lim (valI n * valI m) = true ∨ lim (valI d * valI c) = true) (K (.tup [S [], I 4])) (K (.tup [S (numS (Rat.divInt (valI n * valI m) (valI d * valI c))), I 0])))
 | _ => False
theorem k80 : ConOK Tryz.prog c80 := by
 refine conOK_of rfl (enters_of Tryz.func80 (by kernel_rfl) rfl) ?_
 intro args K h
 simp only [c80] at h
 split at h
 ·rename_i n d m c
  have hb := b80 n d m c h.ok.1 h.ok.2
  by_cases hl : lim (valI n * valI m) = true ∨ lim (valI d * valI c) = true
  ·exact ⟨_, h.go.yes hl, tri_of_body (Γ := [c81, c63]) (by simp [k81, k63]) Tryz.func80 (by simp [Tryz.ntmps80]) rfl (hb.1 hl)⟩
  ·exact ⟨_, h.go.no hl, tri_of_body (Γ := [c81, c63]) (by simp [k81, k63]) Tryz.func80 (by simp [Tryz.ntmps80]) rfl (hb.2 hl)⟩
 ·exact h.elim
theorem mul9 {x y : Int} (hx : x.natAbs < 1000000000) (hy : y.natAbs < 1000000000) : -1000000000000000000 < x * y ∧ x * y < 1000000000000000000 := by
 have h := Int.natAbs_mul x y
 have h1 : x.natAbs * y.natAbs < 1000000000 * 1000000000 := Nat.mul_lt_mul'' hx hy
 omega
theorem chk_pn {q : Rat} (h : Sz 300 q) : chkI (pn q) = 0 ∧ valI (pn q) = q.num ∧ lim q.num = false := by
 have h1 : lim q.num = false := by
  unfold lim
  have := h.digs.1
  simp; omega
 exact ⟨chk_itoa h1, val_pn q, h1⟩
theorem chk_pd {q : Rat} (h : Sz 300 q) : chkI (pd q) = 0 ∧ valI (pd q) = q.den := by
 have := chk_dec h.digs.2
 exact ⟨this.2.1, this.2.2⟩
theorem one49 : chkI [49] = 0 ∧ valI [49] = 1 := by
 have e : ([49] : List UInt8) = itoa 1 := (itoa1 (n := 1) (by decide)).symm
 rw [e, valI_itoa]
 exact ⟨chk_itoa (lim_small (by decide)), rfl⟩
theorem add_div (p q : Rat) : Rat.divInt (p.num * q.den + q.num * p.den) (p.den * q.den) = p + q := by
 rw [add_parts, ← Int.natCast_mul, Rat.divInt_ofNat]
theorem addf_ok {p q : Rat} (l1 : lim (p.num * q.den) = false) (l2 : lim (q.num * p.den) = false) (l3 : lim (p.num * q.den + q.num * p.den) = false) (l4 : lim (p.den * q.den) = false) : addf p q = (numS (p + q), 0) := by
 unfold addf
 rw [if_neg (by simp [l1, l2, l3, l4])]
theorem lim_cases (n : Int) : lim n = true ∨ lim n = false := by cases lim n <;> simp
set_option maxHeartbeats 8000000 in
theorem b67 (a b : List UInt8) (h : chkQ a = 0 ∧ chkQ b = 0) : body Tryz.prog [c70, c62, c65, c81, c103, c63] {} true Tryz.f67 [S a, S b] (.tup [S (addf (valQ a) (valQ b)).1, I (addf (valQ a) (valQ b)).2]) := by
 obtain ⟨ha, hb⟩ := h
 have hp := (chk_num ha).2
 have hq := (chk_num hb).2
 obtain ⟨cn1, vn1, ln1⟩ := chk_pn hp
 obtain ⟨cn2, vn2, ln2⟩ := chk_pn hq
 obtain ⟨cd1, vd1⟩ := chk_pd hp
 obtain ⟨cd2, vd2⟩ := chk_pd hq
 have d1 := (valQ a).den_pos
 have d2 := (valQ b).den_pos
 by_cases hs : smR (valQ a) ∧ smR (valQ b)
 ·have s1 := smR_lt hs.1
  have s2 := smR_lt hs.2
  have m1 := mul9 (x := (valQ a).num) (y := ((valQ b).den : Int)) s1.1 (by omega)
  have m2 := mul9 (x := (valQ b).num) (y := ((valQ a).den : Int)) s2.1 (by omega)
  have m3 := mul9 (x := ((valQ a).den : Int)) (y := ((valQ b).den : Int)) (by omega) (by omega)
  have m4 : 0 < ((valQ a).den : Int) * ((valQ b).den : Int) := Int.mul_pos (by omega) (by omega)
  have ea := addf_ok (p := valQ a) (q := valQ b) (lim_small (by omega)) (lim_small (by omega)) (lim_small (by omega)) (lim_small (by omega))
  (repeat'((conv=>whnf);first|refine Zn ?_|fail))
  refine Br.mkY hs.1 ?_
  (repeat'((conv=>whnf);first|refine Zn ?_|fail))
  refine Br.mkY hs.2 ?_
  (repeat'((conv=>whnf);first|refine Zn ?_|fail))
  (conv => whnf)
  (repeat'(first|exact trivial|rfl|refine And.intro ?_ ?_|fail))
  ·(conv => whnf)
   rw [ea, ← add_div]
  ·(conv => whnf)
   rw [ea]
 ·have n4 : ok4 (pn (valQ a)) (pd (valQ b)) (pn (valQ b)) (pd (valQ a)) := ⟨⟨cn1, cd2⟩, cn2, cd1⟩
  have n5 : ok4 (pd (valQ a)) (pd (valQ b)) [49] [49] := ⟨⟨cd1, cd2⟩, one49.1, one49.1⟩
  have hcase : (¬ smR (valQ a) ∧ smR (valQ b)) ∨ (¬ smR (valQ a) ∧ ¬ smR (valQ b)) ∨ (smR (valQ a) ∧ ¬ smR (valQ b)) := by
   by_cases h1 : smR (valQ a)
   ·exact .inr (.inr ⟨h1, fun h2 => hs ⟨h1, h2⟩⟩)
   ·by_cases h2 : smR (valQ b)
    ·exact .inl ⟨h1, h2⟩
    ·exact .inr (.inl ⟨h1, h2⟩)
  rcases hcase with ⟨h1, h2⟩ | ⟨h1, h2⟩ | ⟨h1, h2⟩
  all_goals (repeat'((conv=>whnf);first|refine Zn ?_|fail))
  all_goals first | refine Br.mkN h1 ?_ | refine Br.mkY h1 ?_
  all_goals (repeat'((conv=>whnf);first|refine Zn ?_|fail))
  all_goals first | refine Br.mkN h2 ?_ | refine Br.mkY h2 ?_
  all_goals (repeat'((conv=>whnf);first|refine Zn ?_|fail))
  all_goals
   rcases lim_cases ((valQ a).num * ((valQ b).den : Int)) with l1 | l1
   ·have ea : addf (valQ a) (valQ b) = ([], 4) := by unfold addf; rw [if_pos (by simp [l1])]
    rw [ea]
    refine Br.mkY (show lim (valI (pn (valQ a)) * valI (pd (valQ b))) = true by rw [vn1, vd2]; exact l1) ?_
    (repeat'((conv=>whnf);first|refine Zy ?_|fail))
    (conv => whnf)
    (repeat'(first|exact trivial|rfl|refine And.intro ?_ ?_|fail))
   ·refine Br.mkN (show ¬ lim (valI (pn (valQ a)) * valI (pd (valQ b))) = true by rw [vn1, vd2, l1]; decide) ?_
    skip
    rcases lim_cases ((valQ b).num * ((valQ a).den : Int)) with l2 | l2
    ·have ea : addf (valQ a) (valQ b) = ([], 4) := by unfold addf; rw [if_pos (by simp [l2])]
     have e4 : resI (valI (pn (valQ b)) * valI (pd (valQ a))) = ([], 4) := by rw [vn2, vd1]; exact resI_no l2
     refine Br.mkY (show ¬ (resI (valI (pn (valQ b)) * valI (pd (valQ a)))).2 = 0 by rw [e4]; decide) ?_
     skip
     (conv => whnf)
     (repeat'(first|exact trivial|rfl|refine And.intro ?_ ?_|fail))
     ·(conv => whnf)
      rw [ea]
     ·(conv => whnf)
      rw [ea, e4]
    ·have e4 : resI (valI (pn (valQ b)) * valI (pd (valQ a))) = (itoa ((valQ b).num * ((valQ a).den : Int)), 0) := by rw [vn2, vd1]; exact resI_ok l2
     refine Br.mkN (show ¬ ¬ (resI (valI (pn (valQ b)) * valI (pd (valQ a)))).2 = 0 by rw [e4]; simp) ?_
     (repeat'((conv=>whnf);first|refine Zn ?_|fail))
     rcases lim_cases (((valQ a).den : Int) * ((valQ b).den : Int)) with l4 | l4
     ·have ea : addf (valQ a) (valQ b) = ([], 4) := by unfold addf; rw [if_pos (by simp [l4])]
      refine Br.mkY (show lim (valI (pd (valQ a)) * valI (pd (valQ b))) = true by rw [vd1, vd2]; exact l4) ?_
      (repeat'((conv=>whnf);first|refine Zy ?_|fail))
      (conv => whnf)
      (repeat'(first|exact trivial|rfl|refine And.intro ?_ ?_|fail))
      ·(conv => whnf)
       rw [ea]
      ·(conv => whnf)
       rw [ea]
     ·refine Br.mkN (show ¬ lim (valI (pd (valQ a)) * valI (pd (valQ b))) = true by rw [vd1, vd2, l4]; decide) ?_
      have e49 : resI (valI [49] * valI [49]) = ([49], 0) := by
       rw [one49.2, resI_ok (lim_small (by decide))]
       exact congrArg (fun z => (z, (0 : Int))) (itoa1 (n := 1) (by decide))
      skip
      refine Br.mkN (show ¬ ¬ (resI (valI [49] * valI [49])).2 = 0 by rw [e49]; simp) ?_
      skip
      refine Br.mkN (show ¬ ¬ (resI (valI [49] * valI [49])).1 = [49] by rw [e49]; simp) ?_
      skip
      have e6 : bothI (itoa (valI (pn (valQ a)) * valI (pd (valQ b)))) (resI (valI (pn (valQ b)) * valI (pd (valQ a)))).1 (resI (valI (itoa (valI (pn (valQ a)) * valI (pd (valQ b)))) + valI (resI (valI (pn (valQ b)) * valI (pd (valQ a)))).1)) = resI ((valQ a).num * ((valQ b).den : Int) + (valQ b).num * ((valQ a).den : Int)) := by
       rw [e4, vn1, vd2, valI_itoa, valI_itoa]
       exact both_ok (chk_itoa l1) (chk_itoa l2) _
      rcases lim_cases ((valQ a).num * ((valQ b).den : Int) + (valQ b).num * ((valQ a).den : Int)) with l3 | l3
      ·have ea : addf (valQ a) (valQ b) = ([], 4) := by unfold addf; rw [if_pos (by simp [l3])]
       rw [resI_no l3] at e6
       refine Br.mkY (show ¬ (bothI (itoa (valI (pn (valQ a)) * valI (pd (valQ b)))) (resI (valI (pn (valQ b)) * valI (pd (valQ a)))).1 (resI (valI (itoa (valI (pn (valQ a)) * valI (pd (valQ b)))) + valI (resI (valI (pn (valQ b)) * valI (pd (valQ a)))).1))).2 = 0 by rw [e6]; decide) ?_
       skip
       (conv => whnf)
       (repeat'(first|exact trivial|rfl|refine And.intro ?_ ?_|fail))
       ·(conv => whnf)
        rw [ea]
       ·(conv => whnf)
        rw [ea, e6]
      ·have ea := addf_ok l1 l2 l3 l4
       rw [resI_ok l3] at e6
       have m1 : (chkI (bothI (itoa (valI (pn (valQ a)) * valI (pd (valQ b)))) (resI (valI (pn (valQ b)) * valI (pd (valQ a)))).1 (resI (valI (itoa (valI (pn (valQ a)) * valI (pd (valQ b)))) + valI (resI (valI (pn (valQ b)) * valI (pd (valQ a)))).1))).1 = 0 ∧ chkI (itoa (valI (pd (valQ a)) * valI (pd (valQ b)))) = 0) ∧ valI (itoa (valI (pd (valQ a)) * valI (pd (valQ b)))) ≠ 0 := by
        rw [e6, vd1, vd2, valI_itoa]
        exact ⟨⟨chk_itoa l3, chk_itoa l4⟩, Int.mul_ne_zero (by omega) (by omega)⟩
       refine Br.mkN (show ¬ ¬ (bothI (itoa (valI (pn (valQ a)) * valI (pd (valQ b)))) (resI (valI (pn (valQ b)) * valI (pd (valQ a)))).1 (resI (valI (itoa (valI (pn (valQ a)) * valI (pd (valQ b)))) + valI (resI (valI (pn (valQ b)) * valI (pd (valQ a)))).1))).2 = 0 by rw [e6]; simp) ?_
       (repeat'((conv=>whnf);first|refine Zn ?_|fail))
       (conv => whnf)
       (repeat'(first|exact trivial|rfl|refine And.intro ?_ ?_|fail))
       ·(conv => whnf)
        rw [ea, e6, vd1, vd2, valI_itoa, valI_itoa, add_div]
       ·(conv => whnf)
        rw [ea]
def c67 : Con := mkCon 67 true fun args K => match args with
 | [.str a, .str b] => Need (chkQ a = 0 ∧ chkQ b = 0) (K (.tup [S (addf (valQ a) (valQ b)).1, I (addf (valQ a) (valQ b)).2]))
 | _ => False
theorem k67 : ConOK Tryz.prog c67 := by
 refine conOK_of rfl (enters_of Tryz.func67 (by kernel_rfl) rfl) ?_
 intro args K h
 simp only [c67] at h
 split at h
 ·rename_i a b
  exact ⟨_, h.go, tri_of_body (Γ := [c70, c62, c65, c81, c103, c63]) (by simp [k70, k62, k65, k81, k103, k63]) Tryz.func67 (by simp [Tryz.ntmps67]) rfl (b67 a b h.ok)⟩
 ·exact h.elim
theorem bad2 {a b : List UInt8} (h : chkB a b ≠ 0) (f : Rat → Rat → List UInt8 × Int) : bothQ a b f = ([], chkB a b) := by
 unfold bothQ chkB at *
 by_cases h1 : chkQ a ≠ 0
 ·rw [if_pos h1, if_pos h1]
 ·rw [if_neg h1] at h ⊢
  rw [if_pos h, if_neg h1]
theorem good2 {a b : List UInt8} (h : ¬ chkB a b ≠ 0) : chkQ a = 0 ∧ chkQ b = 0 := by
 unfold chkB at h
 by_cases h1 : chkQ a ≠ 0
 ·rw [if_pos h1] at h; exact absurd h1 h
 ·rw [if_neg h1] at h
  exact ⟨Classical.not_not.1 h1, Classical.not_not.1 h⟩
theorem good_both {a b : List UInt8} (h : chkQ a = 0 ∧ chkQ b = 0) (f : Rat → Rat → List UInt8 × Int) : bothQ a b f = f (valQ a) (valQ b) := by
 unfold bothQ
 rw [if_neg (by rw [h.1]; simp), if_neg (by rw [h.2]; simp)]
theorem b39 (a b : List UInt8) : body Tryz.prog [c78, c67] {} true Tryz.f39 [S a, S b] (.tup [S (addQ a b).1, I (addQ a b).2]) := by
 skip
 (refine Br.mk (fun _ => ?_) (fun _ => ?_))
 ·rename_i h
  have e : addQ a b = ([], chkB a b) := bad2 h _
  rw [e]
  skip
  (conv => whnf)
  (repeat'(first|exact trivial|rfl|refine And.intro ?_ ?_|fail))
 ·rename_i h
  have e : addQ a b = addf (valQ a) (valQ b) := good_both (good2 h) _
  rw [e]
  skip
  refine Need.mk (good2 h) ?_
  skip
  (conv => whnf)
  (repeat'(first|exact trivial|rfl|refine And.intro ?_ ?_|fail))
def c39 : Con := mkCon 39 true fun args K => match args with | [.str a, .str b] => K (.tup [S (addQ a b).1, I (addQ a b).2]) | _ => False
theorem k39 : ConOK Tryz.prog c39 := by
 refine conOK_of rfl (enters_of Tryz.func39 (by kernel_rfl) rfl) ?_
 intro args K h
 simp only [c39] at h
 split at h
 ·rename_i a b; exact ⟨_, h, tri_of_body (Γ := [c78, c67]) (by simp [k78, k67]) Tryz.func39 (by simp [Tryz.ntmps39]) rfl (b39 a b)⟩
 ·exact h.elim
theorem num_neg (q : Rat) : (-q).num = -q.num ∧ (-q).den = q.den := ⟨rfl, rfl⟩
theorem numS_neg (q : Rat) : numS (-q) = if q.num < 0 then (numS q).drop 1 else if q = 0 then numS q else 45 :: numS q := by
 unfold numS
 rw [(num_neg q).1, (num_neg q).2]
 by_cases h1 : q.num < 0
 ·rw [if_pos h1, ← drop_itoa h1]
  split
  ·rfl
  ·rw [List.drop_append_of_le_length itoa_pos]
 ·rw [if_neg h1]
  by_cases h0 : q = 0
  ·rw [if_pos h0, h0]; rfl
  ·rw [if_neg h0]
   have h2 : 0 < q.num := by
    have : q.num ≠ 0 := fun e => h0 (Rat.num_eq_zero.1 e)
    omega
   rw [← neg_itoa h2]
   split <;> rfl
theorem numS_48 (q : Rat) : numS q = [48] ↔ q = 0 := ⟨fun h => numS_inj (h.trans numS0.symm), fun h => by rw [h]; exact numS0⟩
theorem numS_len {q : Rat} (h : Sz 300 q) : (numS q).length ≤ 602 := by
 have h1 := h.digs
 have h2 : (itoa q.num).length ≤ 301 := by
  rw [itoa_cases]; split
  ·rw [List.length_cons]; omega
  ·omega
 unfold numS
 split
 ·omega
 ·rw [List.length_append, List.length_cons]; omega
theorem b79 (q : Rat) (hq : Sz 300 q) : body Tryz.prog [] {} true Tryz.f79 [S (numS q)] (S (numS (-q))) := by
 have hl := numS_len hq
 have h0 := List.length_pos_iff.2 (numS_ne q)
 rw [numS_neg]
 skip
 by_cases hz : q = 0
 ·refine Br.mkY ((numS_48 q).2 hz) ?_
  skip
  (conv => whnf)
  skip
  (conv => whnf)
  rw [if_neg (by rw [hz]; decide), if_pos hz]
 ·refine Br.mkN (fun h => hz ((numS_48 q).1 h)) ?_
  (repeat'((conv=>whnf);first|refine Zg fun _=>?_|refine Zn ?_|refine Z0 ?_|fail))
  by_cases hn : q.num < 0
  ·refine Br.mkY ((numS_head q).2 ((lt0 q).2 hn)) ?_
   (repeat'((conv=>whnf);first|refine Zn ?_|refine Z1 ?_|fail))
   (conv => whnf)
   skip
   (conv => whnf)
   rw [if_pos hn]
  ·refine Br.mkN (fun h => hn ((lt0 q).1 ((numS_head q).1 h))) ?_
   (repeat'((conv=>whnf);first|refine Zn ?_|fail))
   (conv => whnf)
   skip
   (conv => whnf)
   rw [if_neg hn, if_neg hz]; rfl
def c79 : Con := mkCon 79 true fun args K => match args with | [.str s] => Need (chkQ s = 0) (K (S (numS (-valQ s)))) | _ => False
theorem k79 : ConOK Tryz.prog c79 := by
 refine conOK_of rfl (enters_of Tryz.func79 (by kernel_rfl) rfl) ?_
 intro args K h
 simp only [c79] at h
 split at h
 ·rename_i s
  obtain ⟨e, hq⟩ := chk_num h.ok
  refine ⟨_, h.go, ?_⟩
  have ht := tri_of_body (Γ := []) (by simp) Tryz.func79 (by simp [Tryz.ntmps79]) rfl (b79 (valQ s) hq)
  rw [← e] at ht
  exact ht
 ·exact h.elim
theorem sub_add (p q : Rat) : addf p (-q) = subf p q := by
 unfold addf subf
 rw [(num_neg q).1, (num_neg q).2, Int.neg_mul, lim_neg, ← Int.sub_eq_add_neg, Rat.sub_eq_add_neg]
theorem b40 (a b : List UInt8) : body Tryz.prog [c78, c79, c67] {} true Tryz.f40 [S a, S b] (.tup [S (subQ a b).1, I (subQ a b).2]) := by
 skip
 (refine Br.mk (fun _ => ?_) (fun _ => ?_))
 ·rename_i h
  have e : subQ a b = ([], chkB a b) := bad2 h _
  rw [e]
  skip
  (conv => whnf)
  (repeat'(first|exact trivial|rfl|refine And.intro ?_ ?_|fail))
 ·rename_i h
  obtain ⟨ha, hb⟩ := good2 h
  have e : subQ a b = addf (valQ a) (valQ (numS (-valQ b))) := by
   rw [valQ_numS, sub_add]
   exact good_both (good2 h) _
  have hs : Sz 300 (-valQ b) := by
   have := (chk_num hb).2
   exact ⟨by rw [(num_neg _).1, Int.natAbs_neg]; exact this.1, this.2⟩
  have hc : chkQ a = 0 ∧ chkQ (numS (-valQ b)) = 0 := ⟨ha, chk_sz hs ⟨by decide, by decide⟩⟩
  rw [e]
  (repeat'((conv=>whnf);first|refine Zn ?_|fail))
  (conv => whnf)
  (repeat'(first|exact trivial|rfl|refine And.intro ?_ ?_|fail))
def c40 : Con := mkCon 40 true fun args K => match args with | [.str a, .str b] => K (.tup [S (subQ a b).1, I (subQ a b).2]) | _ => False
theorem k40 : ConOK Tryz.prog c40 := by
 refine conOK_of rfl (enters_of Tryz.func40 (by kernel_rfl) rfl) ?_
 intro args K h
 simp only [c40] at h
 split at h
 ·rename_i a b; exact ⟨_, h, tri_of_body (Γ := [c78, c79, c67]) (by simp [k78, k79, k67]) Tryz.func40 (by simp [Tryz.ntmps40]) rfl (b40 a b)⟩
 ·exact h.elim
theorem three_cases {p q : Prop} (hs : ¬ (p ∧ q)) : (¬ p ∧ q) ∨ (¬ p ∧ ¬ q) ∨ (p ∧ ¬ q) := by
 by_cases h1 : p
 ·exact .inr (.inr ⟨h1, fun h2 => hs ⟨h1, h2⟩⟩)
 ·by_cases h2 : q
  ·exact .inl ⟨h1, h2⟩
  ·exact .inr (.inl ⟨h1, h2⟩)
theorem mulf_ok {p q : Rat} (l1 : lim (p.num * q.num) = false) (l2 : lim (p.den * q.den) = false) : mulf p q = (numS (p * q), 0) := by
 unfold mulf
 rw [if_neg (by simp [l1, l2])]
theorem mul_div (p q : Rat) : Rat.divInt (p.num * q.num) (p.den * q.den) = p * q := by
 rw [mul_parts, ← Int.natCast_mul, Rat.divInt_ofNat]
set_option maxHeartbeats 8000000 in
theorem b41g (a b : List UInt8) (ha : chkQ a = 0) (hb : chkQ b = 0) : body Tryz.prog [c78, c70, c62, c65, c80] {} true Tryz.f41 [S a, S b] (.tup [S (mulf (valQ a) (valQ b)).1, I (mulf (valQ a) (valQ b)).2]) := by
 have hp := (chk_num ha).2
 have hq := (chk_num hb).2
 obtain ⟨cn1, vn1, ln1⟩ := chk_pn hp
 obtain ⟨cn2, vn2, ln2⟩ := chk_pn hq
 obtain ⟨cd1, vd1⟩ := chk_pd hp
 obtain ⟨cd2, vd2⟩ := chk_pd hq
 have d1 := (valQ a).den_pos
 have d2 := (valQ b).den_pos
 have hc : ¬ chkB a b ≠ 0 := by unfold chkB; rw [if_neg (by rw [ha]; simp), hb]; simp
 by_cases hs : smR (valQ a) ∧ smR (valQ b)
 ·have s1 := smR_lt hs.1
  have s2 := smR_lt hs.2
  have m1 := mul9 (x := (valQ a).num) (y := (valQ b).num) s1.1 s2.1
  have m3 := mul9 (x := ((valQ a).den : Int)) (y := ((valQ b).den : Int)) (by omega) (by omega)
  have m4 : 0 < ((valQ a).den : Int) * ((valQ b).den : Int) := Int.mul_pos (by omega) (by omega)
  have ea := mulf_ok (p := valQ a) (q := valQ b) (lim_small (by omega)) (lim_small (by omega))
  skip
  refine Br.mkN (show ¬ ¬ chkB a b = 0 from hc) ?_
  (repeat'((conv=>whnf);first|refine Zn ?_|fail))
  refine Br.mkY hs.1 ?_
  (repeat'((conv=>whnf);first|refine Zn ?_|fail))
  refine Br.mkY hs.2 ?_
  (repeat'((conv=>whnf);first|refine Zn ?_|fail))
  (conv => whnf)
  (repeat'(first|exact trivial|rfl|refine And.intro ?_ ?_|fail))
  ·(conv => whnf)
   rw [ea, ← mul_div]
  ·(conv => whnf)
   rw [ea]
 ·have n4 : ok4 (pn (valQ a)) (pd (valQ a)) (pn (valQ b)) (pd (valQ b)) ∧ valI (pd (valQ a)) * valI (pd (valQ b)) ≠ 0 := ⟨⟨⟨cn1, cd1⟩, cn2, cd2⟩, by rw [vd1, vd2]; exact Int.mul_ne_zero (by omega) (by omega)⟩
  rcases three_cases hs with ⟨h1, h2⟩ | ⟨h1, h2⟩ | ⟨h1, h2⟩
  all_goals skip
  all_goals refine Br.mkN (show ¬ ¬ chkB a b = 0 from hc) ?_
  all_goals (repeat'((conv=>whnf);first|refine Zn ?_|fail))
  all_goals first | refine Br.mkN h1 ?_ | refine Br.mkY h1 ?_
  all_goals (repeat'((conv=>whnf);first|refine Zn ?_|fail))
  all_goals first | refine Br.mkN h2 ?_ | refine Br.mkY h2 ?_
  all_goals (repeat'((conv=>whnf);first|refine Zn ?_|fail))
  all_goals
   by_cases hl : lim (valI (pn (valQ a)) * valI (pn (valQ b))) = true ∨ lim (valI (pd (valQ a)) * valI (pd (valQ b))) = true
   ·have ea : mulf (valQ a) (valQ b) = ([], 4) := by
     rw [vn1, vn2, vd1, vd2] at hl
     unfold mulf
     rw [if_pos (by simpa using hl)]
    refine Br.mkY hl ?_
    skip
    (conv => whnf)
    (repeat'(first|exact trivial|rfl|refine And.intro ?_ ?_|fail))
    ·(conv => whnf)
     rw [ea]
    ·(conv => whnf)
     rw [ea]
   ·refine Br.mkN hl ?_
    rw [vn1, vn2, vd1, vd2] at hl
    have ea := mulf_ok (p := valQ a) (q := valQ b) (by simpa using fun h => hl (.inl h)) (by simpa using fun h => hl (.inr h))
    skip
    (conv => whnf)
    (repeat'(first|exact trivial|rfl|refine And.intro ?_ ?_|fail))
    ·(conv => whnf)
     rw [ea, vn1, vn2, vd1, vd2, mul_div]
    ·(conv => whnf)
     rw [ea]
theorem b41 (a b : List UInt8) : body Tryz.prog [c78, c70, c62, c65, c80] {} true Tryz.f41 [S a, S b] (.tup [S (mulQ a b).1, I (mulQ a b).2]) := by
 by_cases h : chkB a b ≠ 0
 ·have e : mulQ a b = ([], chkB a b) := bad2 h _
  rw [e]
  skip
  refine Br.mkY h ?_
  skip
  (conv => whnf)
  (repeat'(first|exact trivial|rfl|refine And.intro ?_ ?_|fail))
 ·have e : mulQ a b = mulf (valQ a) (valQ b) := good_both (good2 h) _
  rw [e]
  exact b41g a b (good2 h).1 (good2 h).2
def c41 : Con := mkCon 41 true fun args K => match args with | [.str a, .str b] => K (.tup [S (mulQ a b).1, I (mulQ a b).2]) | _ => False
theorem k41 : ConOK Tryz.prog c41 := by
 refine conOK_of rfl (enters_of Tryz.func41 (by kernel_rfl) rfl) ?_
 intro args K h
 simp only [c41] at h
 split at h
 ·rename_i a b; exact ⟨_, h, tri_of_body (Γ := [c78, c70, c62, c65, c80]) (by simp [k78, k70, k62, k65, k80]) Tryz.func41 (by simp [Tryz.ntmps41]) rfl (b41 a b)⟩
 ·exact h.elim
theorem divf_ok {p q : Rat} (h0 : q ≠ 0) (l1 : lim (p.num * q.den) = false) (l2 : lim (q.num * p.den) = false) : divf p q = (numS (p / q), 0) := by
 unfold divf
 rw [if_neg h0, if_neg (by simp [l1, l2])]
set_option maxHeartbeats 8000000 in
theorem b42g (a b : List UInt8) (ha : chkQ a = 0) (hb : chkQ b = 0) : body Tryz.prog [c78, c70, c62, c65, c80] {} true Tryz.f42 [S a, S b] (.tup [S (divf (valQ a) (valQ b)).1, I (divf (valQ a) (valQ b)).2]) := by
 have hp := (chk_num ha).2
 have hq := (chk_num hb).2
 obtain ⟨cn1, vn1, ln1⟩ := chk_pn hp
 obtain ⟨cn2, vn2, ln2⟩ := chk_pn hq
 obtain ⟨cd1, vd1⟩ := chk_pd hp
 obtain ⟨cd2, vd2⟩ := chk_pd hq
 have d1 := (valQ a).den_pos
 have d2 := (valQ b).den_pos
 have hc : ¬ chkB a b ≠ 0 := by unfold chkB; rw [if_neg (by rw [ha]; simp), hb]; simp
 have eb := (chk_num hb).1
 have hz : b = [48] ↔ valQ b = 0 := by
  conv => lhs; lhs; rw [eb]
  exact numS_48 _
 by_cases h0 : valQ b = 0
 ·have ea : divf (valQ a) (valQ b) = ([], 12) := by unfold divf; rw [if_pos h0]
  skip
  refine Br.mkN (show ¬ ¬ chkB a b = 0 from hc) ?_
  skip
  refine Br.mkY (hz.2 h0) ?_
  skip
  (conv => whnf)
  (repeat'(first|exact trivial|rfl|refine And.intro ?_ ?_|fail))
  ·(conv => whnf)
   rw [ea]
  ·(conv => whnf)
   rw [ea]
 ·have hb48 : ¬ b = [48] := fun h => h0 (hz.1 h)
  have hn0 : (valQ b).num ≠ 0 := fun h => h0 (Rat.num_eq_zero.1 h)
  have ed := div_parts (valQ a) (valQ b) h0
  by_cases hs : smR (valQ a) ∧ smR (valQ b)
  ·have s1 := smR_lt hs.1
   have s2 := smR_lt hs.2
   have m1 := mul9 (x := (valQ a).num) (y := ((valQ b).den : Int)) s1.1 (by omega)
   have m2 := mul9 (x := ((valQ a).den : Int)) (y := (valQ b).num) (by omega) s2.1
   have m3 : (valQ b).num * ((valQ a).den : Int) = ((valQ a).den : Int) * (valQ b).num := Int.mul_comm _ _
   have ea := divf_ok (p := valQ a) (q := valQ b) h0 (lim_small (by omega)) (lim_small (by omega))
   skip
   refine Br.mkN (show ¬ ¬ chkB a b = 0 from hc) ?_
   skip
   refine Br.mkN hb48 ?_
   (repeat'((conv=>whnf);first|refine Zn ?_|fail))
   refine Br.mkY hs.1 ?_
   (repeat'((conv=>whnf);first|refine Zn ?_|fail))
   refine Br.mkY hs.2 ?_
   skip
   by_cases hneg : (valQ b).num < 0
   ·refine Br.mkY hneg ?_
    have e1 : (valQ a).num * -((valQ b).den : Int) = -((valQ a).num * ((valQ b).den : Int)) := Int.mul_neg _ _
    have e2 : ((valQ a).den : Int) * -(valQ b).num = -(((valQ a).den : Int) * (valQ b).num) := Int.mul_neg _ _
    have m4 : ((valQ a).den : Int) * (valQ b).num < 0 := Int.mul_neg_of_pos_of_neg (by omega) hneg
    (repeat'((conv=>whnf);first|refine Zn ?_|fail))
    (conv => whnf)
    (repeat'(first|exact trivial|rfl|refine And.intro ?_ ?_|fail))
    ·(conv => whnf)
     rw [ea, ed, e1, e2, Rat.neg_divInt_neg]
    ·(conv => whnf)
     rw [ea]
   ·refine Br.mkN hneg ?_
    have m4 : 0 < ((valQ a).den : Int) * (valQ b).num := Int.mul_pos (by omega) (by omega)
    (repeat'((conv=>whnf);first|refine Zn ?_|fail))
    (conv => whnf)
    (repeat'(first|exact trivial|rfl|refine And.intro ?_ ?_|fail))
    ·(conv => whnf)
     rw [ea, ed]
    ·(conv => whnf)
     rw [ea]
  ·have n4 : ok4 (pn (valQ a)) (pd (valQ a)) (pd (valQ b)) (pn (valQ b)) ∧ valI (pd (valQ a)) * valI (pn (valQ b)) ≠ 0 := ⟨⟨⟨cn1, cd1⟩, cd2, cn2⟩, by rw [vd1, vn2]; exact Int.mul_ne_zero (by omega) hn0⟩
   rcases three_cases hs with ⟨h1, h2⟩ | ⟨h1, h2⟩ | ⟨h1, h2⟩
   all_goals skip
   all_goals refine Br.mkN (show ¬ ¬ chkB a b = 0 from hc) ?_
   all_goals skip
   all_goals refine Br.mkN hb48 ?_
   all_goals (repeat'((conv=>whnf);first|refine Zn ?_|fail))
   all_goals first | refine Br.mkN h1 ?_ | refine Br.mkY h1 ?_
   all_goals (repeat'((conv=>whnf);first|refine Zn ?_|fail))
   all_goals first | refine Br.mkN h2 ?_ | refine Br.mkY h2 ?_
   all_goals (repeat'((conv=>whnf);first|refine Zn ?_|fail))
   all_goals
    by_cases hl : lim (valI (pn (valQ a)) * valI (pd (valQ b))) = true ∨ lim (valI (pd (valQ a)) * valI (pn (valQ b))) = true
    ·have ea : divf (valQ a) (valQ b) = ([], 4) := by
      rw [vn1, vn2, vd1, vd2, Int.mul_comm ((valQ a).den : Int)] at hl
      unfold divf
      rw [if_neg h0, if_pos (by simpa using hl)]
     refine Br.mkY hl ?_
     skip
     (conv => whnf)
     (repeat'(first|exact trivial|rfl|refine And.intro ?_ ?_|fail))
     ·(conv => whnf)
      rw [ea]
     ·(conv => whnf)
      rw [ea]
    ·refine Br.mkN hl ?_
     rw [vn1, vn2, vd1, vd2, Int.mul_comm ((valQ a).den : Int)] at hl
     have ea := divf_ok (p := valQ a) (q := valQ b) h0 (by simpa using fun h => hl (.inl h)) (by simpa using fun h => hl (.inr h))
     skip
     (conv => whnf)
     (repeat'(first|exact trivial|rfl|refine And.intro ?_ ?_|fail))
     ·(conv => whnf)
      rw [ea, ed, vn1, vn2, vd1, vd2]
     ·(conv => whnf)
      rw [ea]
theorem b42 (a b : List UInt8) : body Tryz.prog [c78, c70, c62, c65, c80] {} true Tryz.f42 [S a, S b] (.tup [S (divQ a b).1, I (divQ a b).2]) := by
 by_cases h : chkB a b ≠ 0
 ·have e : divQ a b = ([], chkB a b) := bad2 h _
  rw [e]
  skip
  refine Br.mkY h ?_
  skip
  (conv => whnf)
  (repeat'(first|exact trivial|rfl|refine And.intro ?_ ?_|fail))
 ·have e : divQ a b = divf (valQ a) (valQ b) := good_both (good2 h) _
  rw [e]
  exact b42g a b (good2 h).1 (good2 h).2
def c42 : Con := mkCon 42 true fun args K => match args with | [.str a, .str b] => K (.tup [S (divQ a b).1, I (divQ a b).2]) | _ => False
theorem k42 : ConOK Tryz.prog c42 := by
 refine conOK_of rfl (enters_of Tryz.func42 (by kernel_rfl) rfl) ?_
 intro args K h
 simp only [c42] at h
 split at h
 ·rename_i a b; exact ⟨_, h, tri_of_body (Γ := [c78, c70, c62, c65, c80]) (by simp [k78, k70, k62, k65, k80]) Tryz.func42 (by simp [Tryz.ntmps42]) rfl (b42 a b)⟩
 ·exact h.elim
theorem cmpQ_bad {a b : List UInt8} (h : chkB a b ≠ 0) : cmpQ a b = (0, chkB a b) := by
 unfold cmpQ chkB at *
 by_cases h1 : chkQ a ≠ 0
 ·rw [if_pos h1, if_pos h1]
 ·rw [if_neg h1] at h ⊢
  rw [if_pos h, if_neg h1]
theorem cmpQ_good {a b : List UInt8} (h : chkQ a = 0 ∧ chkQ b = 0) : cmpQ a b = cmpf (valQ a) (valQ b) := by
 unfold cmpQ
 rw [if_neg (by rw [h.1]; simp), if_neg (by rw [h.2]; simp)]
theorem cmpf_ok {p q : Rat} (l1 : lim (p.num * q.den) = false) (l2 : lim (q.num * p.den) = false) : cmpf p q = (cmpI (p.num * q.den) (q.num * p.den), 0) := by
 unfold cmpf
 rw [if_neg (by simp [l1, l2])]
set_option maxHeartbeats 8000000 in
theorem b43g (a b : List UInt8) (ha : chkQ a = 0) (hb : chkQ b = 0) : body Tryz.prog [c78, c70, c65, c81, c82] {} true Tryz.f43 [S a, S b] (.tup [I (cmpf (valQ a) (valQ b)).1, I (cmpf (valQ a) (valQ b)).2]) := by
 have hp := (chk_num ha).2
 have hq := (chk_num hb).2
 obtain ⟨cn1, vn1, ln1⟩ := chk_pn hp
 obtain ⟨cn2, vn2, ln2⟩ := chk_pn hq
 obtain ⟨cd1, vd1⟩ := chk_pd hp
 obtain ⟨cd2, vd2⟩ := chk_pd hq
 have d1 := (valQ a).den_pos
 have d2 := (valQ b).den_pos
 have hc : ¬ chkB a b ≠ 0 := by unfold chkB; rw [if_neg (by rw [ha]; simp), hb]; simp
 by_cases hs : smR (valQ a) ∧ smR (valQ b)
 ·have s1 := smR_lt hs.1
  have s2 := smR_lt hs.2
  have m1 := mul9 (x := (valQ a).num) (y := ((valQ b).den : Int)) s1.1 (by omega)
  have m2 := mul9 (x := (valQ b).num) (y := ((valQ a).den : Int)) s2.1 (by omega)
  have ea := cmpf_ok (p := valQ a) (q := valQ b) (lim_small (by omega)) (lim_small (by omega))
  skip
  refine Br.mkN (show ¬ ¬ chkB a b = 0 from hc) ?_
  (repeat'((conv=>whnf);first|refine Zn ?_|fail))
  refine Br.mkY hs.1 ?_
  (repeat'((conv=>whnf);first|refine Zn ?_|fail))
  refine Br.mkY hs.2 ?_
  (repeat'((conv=>whnf);first|refine Zn ?_|fail))
  (refine Br.mk (fun _ => ?_) (fun _ => ?_))
  ·rename_i hx
   skip
   (conv => whnf)
   (repeat'(first|exact trivial|rfl|refine And.intro ?_ ?_|fail))
   ·(conv => whnf)
    rw [ea]; unfold cmpI; rw [if_pos hx]
   ·(conv => whnf)
    rw [ea]
  ·rename_i hx
   (repeat'((conv=>whnf);first|refine Zn ?_|fail))
   (refine Br.mk (fun _ => ?_) (fun _ => ?_))
   ·rename_i hy
    skip
    (conv => whnf)
    (repeat'(first|exact trivial|rfl|refine And.intro ?_ ?_|fail))
    ·(conv => whnf)
     rw [ea]; unfold cmpI; rw [if_neg hx, if_neg (by omega)]
    ·(conv => whnf)
     rw [ea]
   ·rename_i hy
    skip
    (conv => whnf)
    (repeat'(first|exact trivial|rfl|refine And.intro ?_ ?_|fail))
    ·(conv => whnf)
     rw [ea]; unfold cmpI; rw [if_neg hx, if_pos (by omega)]
    ·(conv => whnf)
     rw [ea]
 ·have n4 : ok4 (pn (valQ a)) (pd (valQ b)) (pn (valQ b)) (pd (valQ a)) := ⟨⟨cn1, cd2⟩, cn2, cd1⟩
  rcases three_cases hs with ⟨h1, h2⟩ | ⟨h1, h2⟩ | ⟨h1, h2⟩
  all_goals skip
  all_goals refine Br.mkN (show ¬ ¬ chkB a b = 0 from hc) ?_
  all_goals (repeat'((conv=>whnf);first|refine Zn ?_|fail))
  all_goals first | refine Br.mkN h1 ?_ | refine Br.mkY h1 ?_
  all_goals (repeat'((conv=>whnf);first|refine Zn ?_|fail))
  all_goals first | refine Br.mkN h2 ?_ | refine Br.mkY h2 ?_
  all_goals (repeat'((conv=>whnf);first|refine Zn ?_|fail))
  all_goals
   rcases lim_cases ((valQ a).num * ((valQ b).den : Int)) with l1 | l1
   ·have ea : cmpf (valQ a) (valQ b) = (0, 4) := by unfold cmpf; rw [if_pos (by simp [l1])]
    refine Br.mkY (show lim (valI (pn (valQ a)) * valI (pd (valQ b))) = true by rw [vn1, vd2]; exact l1) ?_
    (repeat'((conv=>whnf);first|refine Zy ?_|fail))
    (conv => whnf)
    (repeat'(first|exact trivial|rfl|refine And.intro ?_ ?_|fail))
    ·(conv => whnf)
     rw [ea]
    ·(conv => whnf)
     rw [ea]
   ·refine Br.mkN (show ¬ lim (valI (pn (valQ a)) * valI (pd (valQ b))) = true by rw [vn1, vd2, l1]; decide) ?_
    skip
    rcases lim_cases ((valQ b).num * ((valQ a).den : Int)) with l2 | l2
    ·have ea : cmpf (valQ a) (valQ b) = (0, 4) := by unfold cmpf; rw [if_pos (by simp [l2])]
     have e4 : resI (valI (pn (valQ b)) * valI (pd (valQ a))) = ([], 4) := by rw [vn2, vd1]; exact resI_no l2
     refine Br.mkY (show ¬ (resI (valI (pn (valQ b)) * valI (pd (valQ a)))).2 = 0 by rw [e4]; decide) ?_
     skip
     (conv => whnf)
     (repeat'(first|exact trivial|rfl|refine And.intro ?_ ?_|fail))
     ·(conv => whnf)
      rw [ea]
     ·(conv => whnf)
      rw [ea, e4]
    ·have e4 : resI (valI (pn (valQ b)) * valI (pd (valQ a))) = (itoa ((valQ b).num * ((valQ a).den : Int)), 0) := by rw [vn2, vd1]; exact resI_ok l2
     refine Br.mkN (show ¬ ¬ (resI (valI (pn (valQ b)) * valI (pd (valQ a)))).2 = 0 by rw [e4]; simp) ?_
     have ea := cmpf_ok l1 l2
     have n5 : chkI (itoa (valI (pn (valQ a)) * valI (pd (valQ b)))) = 0 ∧ chkI (resI (valI (pn (valQ b)) * valI (pd (valQ a)))).1 = 0 := by
      rw [e4, vn1, vd2]
      exact ⟨chk_itoa l1, chk_itoa l2⟩
     (repeat'((conv=>whnf);first|refine Zn ?_|fail))
     (conv => whnf)
     (repeat'(first|exact trivial|rfl|refine And.intro ?_ ?_|fail))
     ·(conv => whnf)
      rw [ea, e4, vn1, vd2, valI_itoa, valI_itoa]
     ·(conv => whnf)
      rw [ea]
theorem b43 (a b : List UInt8) : body Tryz.prog [c78, c70, c65, c81, c82] {} true Tryz.f43 [S a, S b] (.tup [I (cmpQ a b).1, I (cmpQ a b).2]) := by
 by_cases h : chkB a b ≠ 0
 ·rw [cmpQ_bad h]
  skip
  refine Br.mkY h ?_
  skip
  (conv => whnf)
  (repeat'(first|exact trivial|rfl|refine And.intro ?_ ?_|fail))
 ·rw [cmpQ_good (good2 h)]
  exact b43g a b (good2 h).1 (good2 h).2
def c43 : Con := mkCon 43 true fun args K => match args with | [.str a, .str b] => K (.tup [I (cmpQ a b).1, I (cmpQ a b).2]) | _ => False
theorem k43 : ConOK Tryz.prog c43 := by
 refine conOK_of rfl (enters_of Tryz.func43 (by kernel_rfl) rfl) ?_
 intro args K h
 simp only [c43] at h
 split at h
 ·rename_i a b; exact ⟨_, h, tri_of_body (Γ := [c78, c70, c65, c81, c82]) (by simp [k78, k70, k65, k81, k82]) Tryz.func43 (by simp [Tryz.ntmps43]) rfl (b43 a b)⟩
 ·exact h.elim
end RB
end
section
set_option linter.unusedVariables false
open Go Go.Proofs Go.Eng Go.Shelf IB Go.Lib Go.RowKit
namespace RB
set_option maxRecDepth 10000
set_option linter.unusedVariables false
set_option linter.unusedSimpArgs false
set_option maxHeartbeats 8000000 in
theorem b9 (a b : List UInt8) : body Tryz.prog [c23, c12, c17, c20, c19, c14, c39, c40, c41, c42, c38, c43, c21, c44] {} true Tryz.f9 [S a, S b] (.val (.bool true)) := by
 by_cases hl : longS a ∨ longS b
 ·skip
  by_cases h1 : longS a
  ·refine Br.mkY h1 ?_
   skip
   (conv => whnf)
   skip
  ·refine Br.mkN h1 ?_
   skip
   refine Br.mkY (hl.elim (fun h => absurd h h1) id) ?_
   skip
   (conv => whnf)
   skip
 ·skip
  refine Br.mkN (fun h => hl (.inl h)) ?_
  skip
  refine Br.mkN (fun h => hl (.inr h)) ?_
  (repeat'((conv=>whnf);first|refine Zn ?_|refine Zy ?_|fail))
  repeat (first | (refine Br.mkN (fun h => h rfl) ?_; (repeat'((conv=>whnf);first|refine Zn ?_|refine Zy ?_|refine Zm ?_|fail))) | (refine Br.mkY rfl ?_; skip))
  (conv => whnf)
  skip
theorem t9 (a b : List UInt8) (_ : a.length ≤ maxL) (_ : b.length ≤ maxL) : Tri Tryz.prog true 9 [S a, S b] (.val (.bool true)) :=
 tri_of_body (Γ := [c23, c12, c17, c20, c19, c14, c39, c40, c41, c42, c38, c43, c21, c44]) (by simp [k23, k12, k17, k20, k19, k14, k39, k40, k41, k42, k38, k43, k21, k44]) Tryz.func9 (by simp [Tryz.ntmps9]) rfl (b9 a b)
end RB
end
