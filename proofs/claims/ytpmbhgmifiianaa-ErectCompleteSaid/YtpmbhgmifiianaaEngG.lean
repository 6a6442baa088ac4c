/-
  List literals, appends, makes, lengths.
-/
import Derived.Test.YtpmbhgmifiianaaEngF
set_option linter.unusedSimpArgs false
set_option linter.unusedVariables false
namespace Go.Eng
open Go.RowKit

section
variable {P : Program} {G : Ctx} {H : List HO} {loc : Nat → Loc} {ver : Nat → Nat} {w : World}

theorem new_ok (hI : Inv G H loc ver w) {w' : World} (h : w.heap.size < w'.heap.size) : okN G H loc w' w.heap.size := by
  refine ⟨.inr (.inr hI.size), h, ?_⟩
  rintro ⟨nm, o, ho, hb⟩
  have := (hI.objs nm o ho).block hb
  simp [envOf] at this
theorem vec_head {e : TypeId} {size n : Nat} {v : Value} {vs : List Value} {base : Nat} (h : w.ownsRow base e size v n vs) : ∃ L : Loc, L.head = v ∧ L.len = n := by
  obtain ⟨_, ⟨h1, h2⟩ | ⟨g, cap, cur, h1, _⟩⟩ := h
  · exact ⟨mkL none 0 0, by rw [h1]; rfl, h2.symm⟩
  · exact ⟨mkL (some (g, 0)) n cap, by rw [h1]; rfl, rfl⟩

/-- The data of a list literal, laid one behind the other. -/
theorem listOf_reads {E : Env} {t : Ty} : ∀ {parts : List (Nat × SV)} {vs : List (Nat × Value)}, RelP E parts vs → ∀ {n : Nat} {l : List t.T}, listOf t parts n = some l →
    l.length = vs.length ∧ (∀ j p, vs[j]? = some p → p.1 = n + j ∧ p.2.cells.toList.length = t.size) ∧ (vs.flatMap fun p => p.2.cells.toList).length = l.length * t.size ∧
    ∀ i, i < l.length → Reads E.w E.ok t (l.getD i t.dflt) (((vs.flatMap fun p => p.2.cells.toList).drop (i * t.size)).take t.size)
  | _, _, .nil, n, l, h => by
    simp only [listOf] at h; cases h
    exact ⟨rfl, by simp, by simp, by simp⟩
  | _, _, .cons i s v r vs hc _ hl, n, l, h => by
    simp only [listOf] at h
    cases hb : (Nat.beq i n && Nat.beq (cellsOfSV s).length t.size && kindsOk t (cellsOfSV s)) with
    | false => rw [hb] at h; cases h
    | true =>
      rw [hb] at h
      simp only [cond_true] at h
      split at h
      · rename_i x l' hd hl'
        cases h
        simp only [Bool.and_eq_true, beq_iff] at hb
        obtain ⟨⟨rfl, hlen⟩, hk⟩ := hb
        obtain ⟨h1, h2, h3, h4⟩ := listOf_reads hl hl'
        have hcl := hc.length
        have hvl : v.cells.toList.length = t.size := by omega
        refine ⟨by simp [h1], ?_, ?_, ?_⟩
        · intro j p hj
          cases j with
          | zero => simp at hj; subst hj; exact ⟨rfl, hvl⟩
          | succ j => simp at hj; have := h2 j p hj; exact ⟨by omega, this.2⟩
        · simp only [List.flatMap_cons, List.length_append, h3, hvl, List.length_cons, Nat.add_mul]; omega
        · intro j hj
          simp only [List.flatMap_cons]
          cases j with
          | zero =>
            rw [Nat.zero_mul, List.drop_zero, List.take_left' hvl]
            exact dec_reads hc hd hk
          | succ j =>
            have : (j + 1) * t.size = t.size + j * t.size := by rw [Nat.add_mul]; omega
            rw [this, drop_app _ _ _ _ hvl]
            simpa using h4 j (by simpa using hj)
      · cases h
theorem onesOf_rel {E : Env} : ∀ {parts : List (Nat × SV)} {vs : List (Nat × Value)}, RelP E parts vs → ∀ {n : Nat} {l : List SV}, onesOf parts n = some l →
    l.length = vs.length ∧ (∀ j p, vs[j]? = some p → p.1 = n + j ∧ p.2.cells.toList.length = 1) ∧ ((∀ s ∈ l, ∀ c, s ≠ .agg c) → RelL E l (vs.flatMap fun p => p.2.cells.toList))
  | _, _, .nil, n, l, h => by
    simp only [onesOf] at h; cases h
    exact ⟨rfl, by simp, fun _ => .nil⟩
  | _, _, .cons i s v r vs hc hr hl, n, l, h => by
    simp only [onesOf] at h
    cases hb : (Nat.beq i n && Nat.beq (cellsOfSV s).length 1) with
    | false => rw [hb] at h; cases h
    | true =>
      rw [hb] at h
      simp only [cond_true] at h
      split at h
      · rename_i l' hl'
        cases h
        simp only [Bool.and_eq_true, beq_iff] at hb
        obtain ⟨rfl, hlen⟩ := hb
        obtain ⟨h1, h2, h3⟩ := onesOf_rel hl hl'
        have hcl := hc.length
        refine ⟨by simp [h1], ?_, ?_⟩
        · intro j p hj
          cases j with
          | zero =>
            simp at hj; subst hj
            have hvl : v.cells.toList.length = 1 := by omega
            exact ⟨rfl, hvl⟩
          | succ j => simp at hj; have := h2 j p hj; exact ⟨by omega, this.2⟩
        · intro hna
          simp only [List.flatMap_cons]
          have e : cellsOfSV s = [s] := by
            cases s <;> first | rfl | exact absurd rfl (hna _ (List.mem_cons_self ..) _)
          rw [e] at hc
          exact RelL.append hc (h3 fun s' hs' => hna s' (List.mem_cons_of_mem _ hs'))
      · cases h
theorem run_buildSlice0 {t e : TypeId} {sz : Nat} (hu : P.underlying t = some (.slice e)) (hs : sizeB P e = some sz) :
    (Instr.buildSlice t 0 #[]).run P w = .ok (.slice (some ⟨w.heap.size, 0, none⟩) 0 0) (w.alloc (.cells #[] e)) := by
  simp [Instr.buildSlice, run_underlying hu, run_sizeOf hs, Instr.fill, newRow, Array.range_zero']
theorem noAggs_spec : ∀ {l : List SV}, noAggs l = true → ∀ s ∈ l, ∀ c, s ≠ .agg c
  | [], _, s, hs, _, _ => by simp at hs
  | x :: r, h, s, hs, c, e => by
    subst e
    rcases List.mem_cons.1 hs with h1 | h1
    · subst h1; cases h
    · refine noAggs_spec (l := r) ?_ _ h1 c rfl
      cases x <;> first | exact h | cases h
theorem seq_new {E : Env} {t : Ty} {l : List t.T} {b : Nat} {cs : List Value} {n : Nat} (hok : E.ok b) (hr : E.w.rangeAt b 0 cs) (hn : n = l.length) (hm : n ≤ maxL) (h : ∀ i, i < l.length → Reads E.w E.ok t (l.getD i t.dflt) ((cs.drop (i * t.size)).take t.size)) :
    Rel E (.seq t l) (.slice (some ⟨b, 0, none⟩) n n) := by
  refine .seq _ _ _ ⟨_, n, n, rfl, hn, Nat.le_refl _, hm, fun _ => ⟨b, 0, rfl, hok, fun i hi => ⟨_, (h i (by omega)).length, ?_, h i (by omega)⟩⟩⟩
  intro j v hj
  rw [List.getElem?_take] at hj
  split at hj
  · rw [List.getElem?_drop] at hj
    have := hr (i * t.size + j) v hj
    simpa [Nat.add_assoc] using this
  · cases hj
theorem buildSlice_sound (hI : Inv G H loc ver w) {t : TypeId} {len : Nat} {parts : List (Nat × SV)} {vs : List (Nat × Value)} {K : SV → List HO → Prop} (h : buildSliceOp P t len parts H K) (hp : RelP (envOf G H loc ver w) parts vs) :
    ∃ v w', (Instr.buildSlice t len vs.toArray).run P w = .ok v w' ∧ Res G (envOf G H loc ver w) K v w' := by
  unfold buildSliceOp at h
  have h' := bif_true h
  clear h
  obtain ⟨hb0, h⟩ := h'
  simp only [Bool.and_eq_true, beq_iff, Nat.ble_eq] at hb0
  split at h
  case h_2 => exact h.elim
  rename_i e he
  have hu := sliceElem_run he
  split at h
  case h_2 => exact h.elim
  rename_i sz hs
  have h' := bif_true h
  clear h
  obtain ⟨hb1, h⟩ := h'
  simp only [Bool.and_eq_true, Nat.ble_eq] at hb1
  obtain ⟨ie, hie, hies⟩ := sizeB_info hs
  have hzero : ∃ z, ie.zero = some z := by
    have := hb1.2
    simp only [zeroOk, hie] at this
    exact Option.isSome_iff_exists.1 this
  have hplen : ∀ {ps : List (Nat × SV)} {vs : List (Nat × Value)}, RelP (envOf G H loc ver w) ps vs → ps.length = vs.length := by
    intro ps vs h
    induction h with
    | nil => rfl
    | cons i s v l vs _ _ _ ih => simp [ih]
  have hpl := hplen hp
  -- what the model lays, where there is an element
  have main : ∀ (hvs : ∀ j p, vs[j]? = some p → p.1 = 0 + j ∧ p.2.cells.toList.length = sz), 0 < len → ∀ (hz : ∃ z, ie.zero = some z),
      (Instr.buildSlice t len vs.toArray).run P w = .ok (.slice (some ⟨w.heap.size, 0, none⟩) len len) (w.alloc (.cells ⟨vs.flatMap fun p => p.2.cells.toList⟩ e)) := by
    rintro hvs h0 ⟨z, hz⟩
    have hsz0 : 0 < sz := by simpa using hb1.1.1
    have hpos : 0 < len * ie.size := Nat.mul_pos h0 (by omega)
    have hle : len * ie.size ≤ 1000 * 1000 := Nat.mul_le_mul hb0.2 (by have := hb1.1.2; omega)
    have hvl : vs.length = len := by omega
    refine run_buildSlice w t e len vs.toArray _ ie z hu hie hz (by omega) (by omega) ?_
    have hfl : (vs.flatMap fun p => p.2.cells.toList).length = len * ie.size := by
      have : ∀ (l : List (Nat × Value)), (∀ p ∈ l, p.2.cells.toList.length = sz) → (l.flatMap fun p => p.2.cells.toList).length = l.length * sz := by
        intro l hl
        induction l with
        | nil => simp
        | cons p r ih =>
          simp only [List.flatMap_cons, List.length_append, hl p (List.mem_cons_self ..), ih fun q hq => hl q (List.mem_cons_of_mem _ hq), List.length_cons, Nat.add_mul]; omega
      rw [this vs ?_, hvl, hies]
      intro p hp
      obtain ⟨j, hj, rfl⟩ := List.getElem_of_mem hp
      exact (hvs j _ (List.getElem?_eq_getElem hj)).2
    have := fill_seq (size := sz) vs 0 ((Array.range (len * ie.size)).map (z.cells[· % z.cells.size]!)) hvs (by simp [hvl, hies])
    rw [← hies] at this
    rw [show vs.toArray.toList = vs from by simp, this]
    simp [hvl]
  split at h
  · rename_i ty hty
    obtain ⟨hb2', h'⟩ := bif_true h
    have hb2 := beq_iff.1 hb2'
    clear h hb2'
    revert h'
    intro h
    split at h
    · cases hp
      rw [force_eq] at h
      have h0 : len = 0 := by simpa using hb0.1.symm
      subst h0
      refine ⟨_, _, run_buildSlice0 hu hs, ?_⟩
      have hf := hI.fresh (w' := w.alloc (.cells #[] e)) (.vec 1 ty [] e) (mkL (some (w.heap.size, 0)) (0) (0)) 1 (by simp) rfl rfl rfl (fun b hb => Below.heap_alloc w _ b hb) (by intro b hb; simp [Owns] at hb; omega)
        (fun hx => ⟨rfl, Nat.one_pos, rfl, Nat.zero_le _, [], ⟨by simp, .inr ⟨w.heap.size, 0, #[], rfl, Nat.zero_le _, alloc_new w _, Nat.le_refl _, Nat.zero_le _, by simp, by simp⟩⟩, fun i hi => absurd hi (Nat.not_lt_zero _)⟩)
      refine ⟨_, _, _, _, h, hf.1, ?_, hf.2⟩
      refine .ref _ _ _ (by exact hasB_new rfl) Nat.one_pos (by simp [envOf, upd_same]) fun _ => ?_
      simp [envOf, upd_same, Core.head]
    · rename_i hne
      split at h
      case h_2 => exact h.elim
      rename_i l hl
      rw [force_eq] at h
      obtain ⟨h1, h2, h3, h4⟩ := listOf_reads hp hl
      have h0 : 0 < len := by
        cases parts with
        | nil => exact (hne rfl).elim
        | cons p r => rw [← hb0.1]; simp
      refine ⟨_, _, main (by rw [hb2]; exact h2) h0 hzero, ?_⟩
      have hg := hI.grow (w' := w.alloc (.cells ⟨vs.flatMap fun p => p.2.cells.toList⟩ e)) ((Below.refl _ _).alloc (Nat.le_refl _) _)
      refine ⟨_, _, _, _, h, hg.1, ?_, hg.2⟩
      refine seq_new (cs := vs.flatMap fun p => p.2.cells.toList) (new_ok hI (by simp)) ?_ (by omega) (Nat.le_trans hb0.2 (by simp [maxL])) fun i hi => (h4 i hi).mono hg.2.cell hg.2.ok
      intro j v hj
      simp [envOf, hj]
  · rename_i hty
    obtain ⟨hb2, h⟩ := bif_true h
    simp only [Bool.and_eq_true, beq_iff] at hb2
    split at h
    case h_2 => exact h.elim
    rename_i l hl
    obtain ⟨hna, h⟩ := bif_true h
    rw [hnfL_eq] at h
    obtain ⟨h1, h2, h3⟩ := onesOf_rel hp hl
    have hrel := h3 (noAggs_spec hna)
    refine ⟨_, _, main (by rw [hb2.1]; exact h2) (by simpa using hb2.2) hzero, ?_⟩
    have hg := hI.grow (w' := w.alloc (.cells ⟨vs.flatMap fun p => p.2.cells.toList⟩ e)) ((Below.refl _ _).alloc (Nat.le_refl _) _)
    refine ⟨_, _, _, _, h, hg.1, ?_, hg.2⟩
    refine .lit 1 len _ 0 l _ (hrel.ext hg.2) ?_ (new_ok hI (by simp)) ?_
    · rw [← hrel.length]; omega
    · intro j v hj
      simp [envOf, hj]
end
end Go.Eng
