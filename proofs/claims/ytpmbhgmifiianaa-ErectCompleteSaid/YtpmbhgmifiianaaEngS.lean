/-
  **The executor is sound**: what it leaves to be shown of some code is enough for the code's weakest precondition.
-/
import Derived.Test.YtpmbhgmifiianaaEngQ
import Derived.Test.YtpmbhgmifiianaaEngZ
set_option linter.unusedSimpArgs false
set_option linter.unusedVariables false
namespace Go.Eng
open Go.RowKit

section
variable {P : Program} {G : Ctx} {N : Nat}

theorem exec_sound (hY : YOK P G.itr) {Γ : List Con} (hΓ : ∀ c ∈ Γ, ConOK P c) {A : Anns} (c : Code) : ∀ key, Sound P G N Γ A key c := by
  induction c with
  | skip =>
    intro key F n hF H loc ver w l a K hI hT hRo h
    exact wpIn_skip ⟨l, H, loc, ver, h, hI, hT, .refl _ _, .refl _ _, .refl _ _ _⟩
  | label n =>
    intro key F n hF H loc ver w l a K hI hT hRo h
    exact wpIn_label ⟨l, H, loc, ver, h, hI, hT, .refl _ _, .refl _ _, .refl _ _ _⟩
  | ret =>
    intro key F n hF H loc ver w l a K hI hT hRo h
    exact wpIn_ret ⟨l, H, loc, ver, h, hI, hT, .refl _ _, .refl _ _, .refl _ _ _⟩
  | exit id =>
    intro key F n hF H loc ver w l a K hI hT hRo h
    exact wpIn_exit ⟨l, H, loc, ver, h, hI, hT, .refl _ _, .refl _ _, .refl _ _ _⟩
  | region id ops draw =>
    intro key F n hF H loc ver w l a K hI hT hRo h
    cases draw with
    | true =>
      simp only [exec_region, exec_draw, exec_seq, exec_cond, exec_block, exec_loop, exec_rangeFunc] at h
      obtain ⟨hc, h⟩ := bif_true h
      obtain ⟨hm, hq⟩ := and2 hc
      refine wpIn_region_any hm ?_
      have hg := hI.grow (w' := { w with drawn := w.drawn + 1 }) ⟨rfl, rfl, rfl, Nat.le_refl _, fun _ _ => rfl⟩
      refine any_monoQ (Q := fun e a' w' => e = .normal ∧ After G N (writes (.region id ops true)) (touch A key (.region id ops true)) K (envOf G H loc ver w) a .normal a' w') (fun e a' w' h => by obtain ⟨rfl, h⟩ := h; exact h) _ _ _ _ ?_
      refine execD_sound hY hΓ hF hq (fun e a' w' h => h.1) hg.1 (hT.ext hg.2) h ?_
      intro l' H' loc' ver' a' w' h1 h2 h3 h4 h5 h6
      exact ⟨rfl, l', H', loc', ver', h1, h2, h3, (hg.2.trans h4).toO _, h5, .of_eq h6⟩
    | false =>
      simp only [exec_region, exec_draw, exec_seq, exec_cond, exec_block, exec_loop, exec_rangeFunc] at h
      refine wpIn_region ?_
      have := execOps_sound (N := N) (n := n) hY hΓ hF ops.toList 0 (by simp) (Q := After G N (writes (.region id ops false)) (touch A key (.region id ops false)) K (envOf G H loc ver w) a) hI hT h
        (fun l' H' loc' ver' a' w' h1 h2 h3 h4 h5 h6 => ⟨l', H', loc', ver', h1, h2, h3, h4.toO _, h5, .of_eq h6⟩)
      rw [List.range_eq_range']
      simpa using this
  | seq x y ihx ihy =>
    intro key F n hF H loc ver w l a K hI hT hRo h
    refine wpIn_seq ?_
    have behind : ∀ {H' : List HO} {loc' : Nat → Loc} {ver' : Nat → Nat} {w' : World} {l' : List (Nat × SV)} {a' : Act}, Inv G H' loc' ver' w' → TRel (envOf G H' loc' ver' w') N l' a' → exec P Γ N A key y l' H' K →
        ExtO (touch A key (.seq x y)) (envOf G H loc ver w) (envOf G H' loc' ver' w') → Same (writes (.seq x y)) a a' → Marked (envOf G H loc ver w) (envOf G H' loc' ver' w') a.defers a'.defers →
        y.wpIn F n P (After G N (writes (.seq x y)) (touch A key (.seq x y)) K (envOf G H loc ver w) a) a' w' := by
      intro H' loc' ver' w' l' a' hI' hT' h' hx hs hd
      refine wpIn_mono (ihy key hF hI' hT' (hRo.ext hx) h') ?_
      intro e a'' w'' h''
      refine After.trans hx hs hd (h''.mono (mem_r _ _) (fun m hm => ?_) fun _ _ h => h)
      simp only [touch]
      rw [mem_append, mem_append, hm]; simp
    simp only [exec_region, exec_draw, exec_seq, exec_cond, exec_block, exec_loop, exec_rangeFunc] at h
    cases hc : cutOf A y with
    | none =>
      rw [hc] at h
      refine wpIn_mono (ihx key hF hI hT hRo h) ?_
      rintro e a' w' ⟨l', H', loc', ver', h1, h2, h3, h4, h5, h6⟩
      have hD : ∀ m, mem m (touch A key x) = true → mem m (touch A key (.seq x y)) = true := by
        intro m hm; simp only [touch]; rw [mem_append, mem_append, hm]; simp
      cases e with
      | normal => exact behind h2 h3 h1 (h4.mono hD) (h5.mono (mem_l _ _)) h6
      | _ => exact ⟨l', H', loc', ver', h1, h2, h3, h4.mono hD, h5.mono (mem_l _ _), h6⟩
    | some an =>
      rw [hc] at h
      obtain ⟨hok, hvc⟩ := h
      obtain ⟨_, hx⟩ := hvc.init
      have hD : ∀ m, mem m (touch A key x) = true → mem m (touch A key (.seq x y)) = true := by
        intro m hm; simp only [touch]; rw [mem_append, mem_append, hm]; simp
      have hO : ∀ m, mem m an.objs = true → mem m (touch A key (.seq x y)) = true := by
        intro m hm; simp only [touch, hc]; rw [mem_append, hm]; simp
      refine wpIn_mono (ihx key hF hI hT hRo hx) ?_
      rintro e a' w' ⟨l', H', loc', ver', h1, h2, h3, h4, h5, h6⟩
      cases e with
      | normal =>
        obtain ⟨z, hz⟩ := h1
        have hz1 := and2 (hok z)
        have hz2 := and2 hz1.1
        have hz3 := and2 hz2.1
        obtain ⟨hI2, hT2, hx2⟩ := arrive_sound hI hT h2 h3 h4 h5 (beq_iff.1 hz3.2) hz1.2 hz2.2 hz
        have hr := hvc.round () z hz.pre
        rw [forceT_eq, forceH_eq] at hr
        refine behind hI2 hT2 hr (hx2.mono hO) (h5.mono (mem_l _ _)) ?_
        obtain ⟨Ds, m1, m2, m3⟩ := h6
        refine ⟨Ds, m1, m2, fun D hD => ?_⟩
        obtain ⟨q1, q2, q3⟩ := m3 D hD
        refine ⟨q1, ?_, q3⟩
        intro hq
        rcases hx2.ali D hq with q4 | q4
        · obtain ⟨nm, st, k, it, e1, e2⟩ := hq
          obtain ⟨o', e3, e4⟩ := (entH_spec hz.ent.2).2 nm _ e1
          cases o' with
          | yst => exact q2 ⟨nm, _, _, _, e3, e2⟩
          | _ => exact e4.elim
        · obtain ⟨nm, st, k, it, e1, e2⟩ := hq
          obtain ⟨o', e3, e4⟩ := (entH_spec hz.ent.2).2 nm _ e1
          cases o' with
          | yst => exact q2 ⟨nm, _, _, _, e3, e2⟩
          | _ => exact e4.elim
      | _ => exact ⟨l', H', loc', ver', h1, h2, h3, h4.mono hD, h5.mono (mem_l _ _), h6⟩
  | cond c x y ihx ihy =>
    intro key F n hF H loc ver w l a K hI hT hRo h
    have hr := ev_rel hT c
    have hX : exec P Γ N A key x l H K → x.wpIn F n P (After G N (writes (.cond c x y)) (touch A key (.cond c x y)) K (envOf G H loc ver w) a) a w := fun h =>
      wpIn_mono (ihx key hF hI hT hRo h) fun e a' w' h' => h'.mono (mem_l _ _) (mem_l _ _) fun _ _ h => h
    have hY' : exec P Γ N A key y l H K → y.wpIn F n P (After G N (writes (.cond c x y)) (touch A key (.cond c x y)) K (envOf G H loc ver w) a) a w := fun h =>
      wpIn_mono (ihy key hF hI hT hRo h) fun e a' w' h' => h'.mono (mem_r _ _) (mem_r _ _) fun _ _ h => h
    simp only [exec_region, exec_draw, exec_seq, exec_cond, exec_block, exec_loop, exec_rangeFunc] at h
    split at h
    · rename_i hl; rw [hl] at hr
      exact wpIn_cond_true hr.bool_inv (hX h)
    · rename_i hl; rw [hl] at hr
      exact wpIn_cond_false hr.bool_inv (hY' h)
    · rename_i p d hl
      rw [hl] at hr
      generalize hv : a.eval c = v at hr
      cases hr
      by_cases hp : p
      · exact wpIn_cond_true (by rw [hv]; simp [hp]) (hX (h.yes hp))
      · exact wpIn_cond_false (by rw [hv]; simp [hp]) (hY' (h.no hp))
    · exact h.elim
  | block id c ih =>
    intro key F n hF H loc ver w l a K hI hT hRo h
    simp only [exec_region, exec_draw, exec_seq, exec_cond, exec_block, exec_loop, exec_rangeFunc] at h
    refine wpIn_block (wpIn_mono (ih id hF hI hT hRo h) ?_)
    rintro e a' w' ⟨l', H', loc', ver', h1, h2, h3, h4, h5, h6⟩
    cases e with
    | exit m =>
      simp only at h1
      simp only [Exit.inBlock]
      by_cases hm : m = id
      · subst hm
        rw [beq_same] at h1
        simp only [cond_true] at h1
        rw [if_pos rfl]
        exact ⟨l', H', loc', ver', h1, h2, h3, h4, h5, h6⟩
      · rw [beq_ne hm] at h1
        simp only [cond_false] at h1
        rw [if_neg hm]
        exact ⟨l', H', loc', ver', h1, h2, h3, h4, h5, h6⟩
    | _ => exact ⟨l', H', loc', ver', h1, h2, h3, h4, h5, h6⟩
  | loop c ih =>
    intro key F n hF H loc ver w l a K hI hT hRo h
    simp only [exec_region, exec_draw, exec_seq, exec_cond, exec_block, exec_loop, exec_rangeFunc] at h
    rcases withAnn_inv h with ⟨an, hA, h⟩ | h
    case inr =>
      have hD : ∀ m, mem m (touch A key c) = true → mem m (touch A key (.loop c)) = true := by
        intro m hm; simp only [touch]; exact mem_l _ _ m hm
      refine wpIn_loopG (fun k a' w' => ∃ l' H' loc' ver', unroll (exec P Γ N A key c) k l' H' K ∧ Inv G H' loc' ver' w' ∧ TRel (envOf G H' loc' ver' w') N l' a' ∧ ExtO (touch A key (.loop c)) (envOf G H loc ver w) (envOf G H' loc' ver' w') ∧ Same (writes (.loop c)) a a' ∧
          Marked (envOf G H loc ver w) (envOf G H' loc' ver' w') a.defers a'.defers)
        ⟨_, l, H, loc, ver, h, hI, hT, .refl _ _, .refl _ _, .refl _ _ _⟩ ?_
      rintro k a1 w1 ⟨l1, H1, loc1, ver1, hu, hI1, hT1, hx1, hs1, hd1⟩
      cases k with
      | zero => exact hu.elim
      | succ k =>
        simp only [unroll_succ] at hu
        refine wpIn_mono (ih key hF hI1 hT1 (hRo.ext hx1) hu) ?_
        rintro e a' w' ⟨l', H', loc', ver', h1, h2, h3, h4, h5, h6⟩
        cases e with
        | normal => exact ⟨k, Nat.lt_succ_self k, l', H', loc', ver', h1, h2, h3, hx1.trans (h4.mono hD), hs1.trans h5, hd1.trans hx1.size h4 h6⟩
        | _ => exact ⟨l', H', loc', ver', h1, h2, h3, hx1.trans (h4.mono hD), hs1.trans h5, hd1.trans hx1.size h4 h6⟩
    case inl =>
      obtain ⟨hok, hvc⟩ := h
      obtain ⟨x0, hx0⟩ := hvc.init
      have hD : ∀ m, mem m (touch A key c) = true → mem m (touch A key (.loop c)) = true := by
        intro m hm; simp only [touch]; exact mem_l _ _ m hm
      have hO : ∀ m, mem m an.objs = true → mem m (touch A key (.loop c)) = true := by
        intro m hm; simp only [touch, hA]; exact mem_r _ _ m hm
      have arr : ∀ {x : an.X} {l' : List (Nat × SV)} {H' : List HO} {loc' : Nat → Loc} {ver' : Nat → Nat} {a' : Act} {w' : World}, Inv G H' loc' ver' w' → TRel (envOf G H' loc' ver' w') N l' a' → ExtO (touch A key c ++ an.objs) (envOf G H loc ver w) (envOf G H' loc' ver' w') → Same (writes c) a a' →
          Marked (envOf G H loc ver w) (envOf G H' loc' ver' w') a.defers a'.defers →
          arrive an x H l' H' → Inv G (an.heap x H) loc' (reVer an.objs (an.heap x H) ver') w' ∧ TRel (envOf G (an.heap x H) loc' (reVer an.objs (an.heap x H) ver') w') N (annL an x (writes c) l H) a' ∧
            ExtO an.objs (envOf G H loc ver w) (envOf G (an.heap x H) loc' (reVer an.objs (an.heap x H) ver') w') ∧ Marked (envOf G H loc ver w) (envOf G (an.heap x H) loc' (reVer an.objs (an.heap x H) ver') w') a.defers a'.defers := by
        intro x l' H' loc' ver' a' w' h1 h2 h3 h4 hmk h5
        have hz1 := and2 (hok x)
        have hz2 := and2 hz1.1
        have hz3 := and2 hz2.1
        obtain ⟨r1, r2, r3⟩ := arrive_sound hI hT h1 h2 h3 h4 (beq_iff.1 hz3.2) hz1.2 (within_append hz2.2) h5
        refine ⟨r1, r2, r3, ?_⟩
        obtain ⟨Ds, m1, m2, m3⟩ := hmk
        refine ⟨Ds, m1, m2, fun D hD => ?_⟩
        obtain ⟨q1, q2, q3⟩ := m3 D hD
        refine ⟨q1, ?_, q3⟩
        rintro ⟨nm, st, k, it, e1, e2⟩
        obtain ⟨o', e3, e4⟩ := (entH_spec h5.ent.2).2 nm _ e1
        cases o' with
        | yst => exact q2 ⟨nm, _, _, _, e3, e2⟩
        | _ => exact e4.elim
      obtain ⟨hI0, hT0, hx00, hm00⟩ := arr hI hT (.refl _ _) (.refl _ _) (.refl _ _ _) hx0
      refine wpIn_loopG (fun k a' w' => ∃ x loc' ver', an.mu x = k ∧ an.pre x ∧ Inv G (an.heap x H) loc' ver' w' ∧ TRel (envOf G (an.heap x H) loc' ver' w') N (annL an x (writes c) l H) a' ∧
          ExtO an.objs (envOf G H loc ver w) (envOf G (an.heap x H) loc' ver' w') ∧ Same (writes c) a a' ∧ Marked (envOf G H loc ver w) (envOf G (an.heap x H) loc' ver' w') a.defers a'.defers)
        ⟨_, x0, _, _, rfl, hx0.pre, hI0, hT0, hx00, .refl _ _, hm00⟩ ?_
      rintro k a1 w1 ⟨x, loc1, ver1, rfl, hp, hI1, hT1, hx1, hs1, hd1⟩
      have hr := hvc.round x hp
      rw [forceT_eq, forceH_eq] at hr
      refine wpIn_mono (ih key hF hI1 hT1 (hRo.ext hx1) hr) ?_
      rintro e a' w' ⟨l', H', loc', ver', h1, h2, h3, h4, h5, h6⟩
      cases e with
      | normal =>
        obtain ⟨x', hlt, hx'⟩ := h1
        obtain ⟨hI2, hT2, hx2, hm2⟩ := arr h2 h3 ((hx1.mono (mem_r _ _)).trans (h4.mono (mem_l _ _))) (hs1.trans h5) (hd1.trans hx1.size h4 h6) hx'
        exact ⟨an.mu x', hlt, x', loc', _, rfl, hx'.pre, hI2, hT2, hx2, hs1.trans h5, hm2⟩
      | _ => exact ⟨l', H', loc', ver', h1, h2, h3, (hx1.mono hO).trans (h4.mono hD), hs1.trans h5, hd1.trans hx1.size h4 h6⟩
  | rangeFunc f ps x y ihx ihy => exact fun key => range_sound hΓ ihx ihy key
  | scope c ih => intro key F n hF H loc ver w l a K hI hT hRo h; exact h.elim
  | goto m => intro key F n hF H loc ver w l a K hI hT hRo h; exact h.elim
  | refuse s => intro key F n hF H loc ver w l a K hI hT hRo h; exact h.elim
end
end Go.Eng
