/-
  How the invariant of a state is carried over one turn of the memory.
-/
import Derived.Test.YtpmbhgmifiianaaEngB
import Derived.Laws.CopyRow
import Derived.Laws.AppendOwn
import Derived.RangeFuncBound
set_option linter.unusedSimpArgs false
set_option linter.unusedVariables false
namespace Go.Eng
open Go.RowKit

theorem cell_of_block {w w' : World} {a : Addr} (h : w'.heap[a.block]? = w.heap[a.block]?) : w'.cell? a = w.cell? a := World.cell?_of_block h

theorem OSat.block {E : Env} {L : Loc} {v : Nat} {o : HO} {b : Nat} (h : OSat E L v o) (hb : Owns L o b) : b < E.w.heap.size := by
  cases o with
  | dead => cases hb
  | fro => cases hb
  | res => cases hb
  | frc => cases hb
  | gone => exact h.2 b hb
  | yst st n it => exact h.2.1 b hb
  | cells l e =>
    obtain ⟨_, b', vs, h1, h2, _⟩ := h
    simp [Owns, h1] at hb; subst hb
    exact (Array.getElem?_eq_some_iff.1 h2).1
  | map k t m =>
    obtain ⟨_, _, _, b', es, h1, h2, _⟩ := h
    simp [Owns, h1] at hb; subst hb
    exact (Array.getElem?_eq_some_iff.1 h2).1
  | mit m s l c =>
    obtain ⟨_, _, b', bm, h1, h2, _⟩ := h
    simp [Owns, h1] at hb; subst hb
    exact (Array.getElem?_eq_some_iff.1 h2).1
  | vv k s t xss pend eo ei =>
    obtain ⟨_, _, _, _, _, ⟨vs, h2, _⟩, h3, _⟩ := h
    rcases hb with hb | hb
    · rcases own_cases h2 with ⟨h3, _⟩ | ⟨g, cur, h3, _, h4, _⟩
      · simp [h3] at hb
      · simp [h3] at hb; subst hb
        exact (Array.getElem?_eq_some_iff.1 h4).1
    · exact (h3 b hb).1
  | vec k t xs e =>
    obtain ⟨_, _, _, _, vs, h2, _⟩ := h
    rcases own_cases h2 with ⟨h3, _⟩ | ⟨g, cur, h3, _, h4, _⟩
    · simp [Owns, h3] at hb
    · simp [Owns, h3] at hb; subst hb
      exact (Array.getElem?_eq_some_iff.1 h4).1

theorem OSat.isBook {E : Env} {L : Loc} {v : Nat} {o : HO} {b : Nat} (h : OSat E L v o) (hb : Owns L o b) (h1 : o ≠ .gone) (h2 : ∀ st n it, o ≠ .yst st n it) {x : Obj} (hx : E.w.heap[b]? = some x) : isBook x = false := by
  cases o with
  | dead => cases hb
  | fro => cases hb
  | res => cases hb
  | frc => cases hb
  | gone => exact (h1 rfl).elim
  | yst st n it => exact (h2 _ _ _ rfl).elim
  | cells l e =>
    obtain ⟨_, b', vs, h1, h2, _⟩ := h
    simp [Owns, h1] at hb; subst hb
    rw [h2] at hx; cases hx; rfl
  | map k t m =>
    obtain ⟨_, _, _, b', es, h1, h2, _⟩ := h
    simp [Owns, h1] at hb; subst hb
    rw [h2] at hx; cases hx; rfl
  | mit m s l c =>
    obtain ⟨_, _, b', bm, h1, h2, _⟩ := h
    simp [Owns, h1] at hb; subst hb
    rw [h2] at hx; cases hx; rfl
  | vv k s t xss pend eo ei =>
    obtain ⟨_, _, _, _, _, ⟨vs, h2, _⟩, h3, _⟩ := h
    rcases hb with hb | hb
    · rcases own_cases h2 with ⟨h3, _⟩ | ⟨g, cur, h3, _, h4, _⟩
      · simp [h3] at hb
      · simp [h3] at hb; subst hb
        rw [h4] at hx; cases hx; rfl
    · obtain ⟨_, _, c, e, h4⟩ := h3 b hb
      rw [h4] at hx; cases hx; rfl
  | vec k t xs e =>
    obtain ⟨_, _, _, _, vs, h2, _⟩ := h
    rcases own_cases h2 with ⟨h3, _⟩ | ⟨g, cur, h3, _, h4, _⟩
    · simp [Owns, h3] at hb
    · simp [Owns, h3] at hb; subst hb
      rw [h4] at hx; cases hx; rfl
theorem EntsR.mono {w w' : World} {ok ok' : Nat → Prop} (hc : ∀ a v, ok a.block → w.cell? a = some v → w'.cell? a = some v) (hk : ∀ b, ok b → ok' b) {k : IntKind} {t : Ty} : ∀ {xs : List (Nat × Int × t.T)} {es : List MapEntry}, EntsR w ok k t xs es → EntsR w' ok' k t xs es
  | [], [], _ => trivial
  | _ :: _, _ :: _, h => ⟨⟨h.1.1, h.1.2.1, h.1.2.2.1, h.1.2.2.2.mono hc hk⟩, EntsR.mono hc hk h.2⟩
theorem ownsRow_keep {w w' : World} {base : Nat} {e : TypeId} {size n : Nat} {v : Value} {vs : List Value} (h : w.ownsRow base e size v n vs) (hs : ∀ b, v.ownBlock = some b → w'.heap[b]? = w.heap[b]?) : w'.ownsRow base e size v n vs := by
  refine ⟨h.1, ?_⟩
  rcases h.2 with h5 | ⟨g, cap, cur, h5, h6, h7, h8⟩
  · exact .inl h5
  · refine .inr ⟨g, cap, cur, h5, h6, ?_, h8⟩
    rw [hs g (by rw [h5]; rfl)]; exact h7
theorem RowAt.ext {E E' : Env} (x : Ext0 E E') {al : Nat → Prop} {t : Ty} {ei : TypeId} {h : Value} {xs : List t.T} (hr : RowAt E al t ei h xs) (hs : ∀ b, al b → E'.w.heap[b]? = E.w.heap[b]?) : RowAt E' al t ei h xs := by
  obtain ⟨vs, h1, h2, h3⟩ := hr
  exact ⟨vs, ownsRow_keep h1 fun b hb => hs b (h2 b hb), h2, fun i hi => (h3 i hi).mono x.cell x.ok⟩
theorem Rows.ext {E E' : Env} (x : Ext0 E E') {L : Loc} {t : Ty} {ei : TypeId} {xss : List (List t.T)} {pend : Option (Nat × List t.T)} (h : Rows E L t ei xss pend) (hs : ∀ b, L.al b → E'.w.heap[b]? = E.w.heap[b]?) : Rows E' L t ei xss pend :=
  ⟨h.flat, fun i hi hp => (h.row i hi hp).ext x hs, h.apart, fun j ys hp => by obtain ⟨h1, h2, h3⟩ := h.grown j ys hp; exact ⟨h1, h2.ext x hs, h3⟩, h.short⟩
theorem OSat.ext {E E' : Env} (x : Ext0 E E') {L : Loc} {v : Nat} {o : HO} (h : OSat E L v o) (hs : ∀ b, Owns L o b → E'.w.heap[b]? = E.w.heap[b]?) : OSat E' L v o := by
  cases o with
  | dead => trivial
  | res => trivial
  | fro k t xs => obtain ⟨h1, h2, h3⟩ := h; exact ⟨h1, h2, h3.mono x.cell x.ok⟩
  | frc l => obtain ⟨h1, b, vs, h2, h3, h4, h5⟩ := h; exact ⟨h1, b, vs, h2, x.ok b h3, rangeAt_ext x h3 h4, h5.ext0 x⟩
  | gone => exact ⟨h.1, fun b hb => Nat.lt_of_lt_of_le (h.2 b hb) x.size⟩
  | map k t m =>
    obtain ⟨h0, hw, hm, b, es, h1, h2, h3⟩ := h
    exact ⟨h0, hw, hm, b, es, h1, by rw [hs b (by simp [Owns, h1])]; exact h2, h3.mono x.cell x.ok⟩
  | mit m s l c =>
    obtain ⟨h0, hm, b, bm, h1, h2, h3⟩ := h
    refine ⟨h0, x.num m hm, b, bm, h1, by rw [hs b (by simp [Owns, h1])]; exact h2, fun e => ?_⟩
    rcases x.ver m hm with ⟨e1, e2⟩ | ⟨e1, e2⟩
    · rw [e2]; exact h3 (by rw [← e1]; exact e)
    · omega
  | vv k s t xss pend eo ei =>
    obtain ⟨h1, h2, h3, h4, h5, ⟨vs, h6, h7⟩, h8, h9⟩ := h
    refine ⟨h1, h2, h3, h4, h5, ⟨vs, ownsRow_keep h6 fun b hb => hs b (.inl ?_), h7⟩, fun b hb => ?_, h9.ext x fun b hb => hs b (.inr hb)⟩
    · simp only [Core.head] at hb
      cases hL : L.blk with
      | none => rw [hL] at hb; cases hb
      | some p => rw [hL] at hb; simpa [Value.ownBlock] using hb
    · obtain ⟨q1, q2, c, e, q3⟩ := h8 b hb
      exact ⟨Nat.lt_of_lt_of_le q1 x.size, q2, c, e, by rw [hs b (.inr hb)]; exact q3⟩
  | yst st n it =>
    obtain ⟨h1, h2, h3, h4, h5, h6, h7⟩ := h
    refine ⟨h1, fun b hb => Nat.lt_of_lt_of_le (h2 b hb) x.size, by rw [x.itr]; exact Nat.le_trans h3 x.size, by rw [x.itr]; exact h4, by rw [x.itr]; exact h5, fun b hb hl => ?_, ?_⟩
    · rw [x.itr] at hb ⊢
      obtain ⟨h8, h9⟩ := h6 b hb hl
      exact ⟨h8, x.ok b h9⟩
    · rw [x.itr]
      have := E.itr.abides st _ E.w E'.w h7 x.os x.tape x.output x.size fun b hb hm => by
        by_cases hl : L.al b
        · exact hs b hl
        · by_cases hn : b < E.itr.n0
          · exact x.blk b (h6 b hn hl).2
          · exact (hm ⟨by omega, hb, hl⟩).elim
      refine cast (congrArg (fun M => E.itr.J st M E'.w) (funext fun b => propext ⟨?_, ?_⟩)) this
      · rintro (⟨h8, h9, h10⟩ | ⟨h8, h9⟩)
        · exact ⟨h8, Nat.lt_of_lt_of_le h9 x.size, h10⟩
        · exact ⟨Nat.le_trans h3 h8, h9, fun hl => by have := h2 b hl; omega⟩
      · rintro ⟨h8, h9, h10⟩
        by_cases h11 : b < E.w.heap.size
        · exact .inl ⟨h8, h11, h10⟩
        · exact .inr ⟨by omega, h9⟩
  | cells l e =>
    obtain ⟨h0, b, vs, h1, h2, h3⟩ := h
    exact ⟨h0, b, vs, h1, by rw [hs b (by simp [Owns, h1])]; exact h2, h3.ext0 x⟩
  | vec k t xs e =>
    obtain ⟨h0, h00, h1, h2, vs, h3, h4⟩ := h
    refine ⟨h0, h00, h1, h2, vs, ?_, fun i hi => (h4 i hi).mono x.cell x.ok⟩
    refine ⟨h3.1, ?_⟩
    rcases h3.2 with h5 | ⟨g, cap, cur, h5, h6, h7, h8⟩
    · exact .inl h5
    · refine .inr ⟨g, cap, cur, h5, h6, ?_, h8⟩
      rw [hs g ?_]; exact h7
      simp only [Core.head, Value.slice.injEq] at h5
      cases hL : L.blk with
      | none => rw [hL] at h5; simp at h5
      | some p => rw [hL] at h5; simp at h5; simp [Owns, hL, h5.1.1]

theorem hasB_lt {H : List HO} {nm : Nat} (h : hasB H nm = true) : nm < H.length := by
  simp only [hasB, Bool.and_eq_true] at h
  simpa using h.1
theorem hasB_not (H : List HO) : hasB H H.length = false := by simp [hasB]
theorem hasB_of {H : List HO} {nm : Nat} {o : HO} (h : H[nm]? = some o) (ho : isRes o = false) : hasB H nm = true := by
  have hlt := (List.getElem?_eq_some_iff.1 h).1
  unfold hasB hget
  rw [List.getD_eq_getElem?_getD, h]
  simp [hlt, ho]
theorem hasB_new {H : List HO} {o : HO} (ho : isRes o = false) : hasB (H ++ [o]) H.length = true := hasB_of (by simp) ho
theorem hasB_congr {H H' : List HO} {nm : Nat} (h : H'[nm]? = H[nm]?) (hb : hasB H nm = true) : hasB H' nm = true := by
  have hlt := hasB_lt hb
  have h2 : nm < H'.length := by
    apply Classical.byContradiction
    intro hn
    rw [List.getElem?_eq_none (by omega)] at h
    have := List.getElem?_eq_none_iff.1 h.symm
    omega
  simp only [hasB, hget, List.getD_eq_getElem?_getD, h, Bool.and_eq_true] at hb ⊢
  exact ⟨by simpa using h2, hb.2⟩
/-- One object is turned, or laid anew; all blocks but its own, and those that are new, are as they were. -/
theorem Inv.turn0 {G : Ctx} {H H' : List HO} {loc loc' : Nat → Loc} {ver ver' : Nat → Nat} {w w' : World} (hI : Inv G H loc ver w) (nm : Nat)
    (hlen : H.length ≤ H'.length)
    (hoth : ∀ k, k ≠ nm → H'[k]? = H[k]? ∧ loc' k = loc k ∧ ver' k = ver k)
    (hhas : hasB H nm = true → hasB H' nm = true)
    (hver : hasB H nm = true → (ver' nm = ver nm ∧ (loc' nm).toCore = (loc nm).toCore ∧ ((loc' nm).sub = (loc nm).sub ∨ (loc nm).sub.v < (loc' nm).sub.v)) ∨ (0 < ver nm ∧ ver nm < ver' nm))
    (hsz : w.heap.size ≤ w'.heap.size) (hos : w'.os = w.os) (htp : w'.tape = w.tape) (hout : w'.output = w.output)
    (hblk : ∀ b, b < w.heap.size → (∀ o, H[nm]? = some o → ¬ Owns (loc nm) o b) → w'.heap[b]? = w.heap[b]?)
    (hfr : ∀ o' b, H'[nm]? = some o' → Owns (loc' nm) o' b → (∃ o, H[nm]? = some o ∧ Owns (loc nm) o b) ∨ w.heap.size ≤ b)
    (hali : ∀ st n it b, H'[nm]? = some (.yst st n it) → (loc' nm).al b → (∃ st n it, H[nm]? = some (.yst st n it) ∧ (loc nm).al b) ∨ w.heap.size ≤ b)
    (hnew : Ext0 (envOf G H loc ver w) (envOf G H' loc' ver' w') → ∀ o', H'[nm]? = some o' → OSat (envOf G H' loc' ver' w') (loc' nm) (ver' nm) o') :
    Inv G H' loc' ver' w' ∧ Ext0 (envOf G H loc ver w) (envOf G H' loc' ver' w') := by
  have hown : ∀ b, Owned H' loc' b → Owned H loc b ∨ w.heap.size ≤ b := by
    rintro b ⟨k, o, hk, hb⟩
    by_cases e : k = nm
    · subst e
      rcases hfr o b hk hb with ⟨o', h1, h2⟩ | h
      · exact .inl ⟨_, o', h1, h2⟩
      · exact .inr h
    · obtain ⟨h1, h2, _⟩ := hoth k e
      exact .inl ⟨k, o, by rw [← h1]; exact hk, by rw [← h2]; exact hb⟩
  have hokb : ∀ b, okN G H loc w b → w'.heap[b]? = w.heap[b]? := fun b hb => hblk b hb.2.1 fun o ho hbk => hb.2.2 ⟨nm, o, ho, hbk⟩
  have hx : Ext0 (envOf G H loc ver w) (envOf G H' loc' ver' w') := by
    refine ⟨hokb, fun b hb => ⟨hb.1, Nat.lt_of_lt_of_le hb.2.1 hsz, fun ho => ?_⟩, fun k hk => ?_, fun k hk => ?_, hos, htp, hout, hsz, fun b => ?_, rfl, fun k hk he => ?_⟩
    · rcases hown b ho with h | h
      · exact hb.2.2 h
      · have := hb.2.1; omega
    · by_cases e : k = nm
      · subst e; exact hhas hk
      · exact hasB_congr (hoth k e).1 hk
    · by_cases e : k = nm
      · subst e; exact (hver hk).imp (fun h => ⟨h.1, h.2.1⟩) id
      · obtain ⟨_, h2, h3⟩ := hoth k e; exact .inl ⟨h3, congrArg _ h2⟩
    · rintro ⟨k, st, n, it, hk, hb⟩
      by_cases e : k = nm
      · subst e
        rcases hali st n it b hk hb with ⟨st', n', it', h1, h2⟩ | h
        · exact .inl ⟨k, st', n', it', h1, h2⟩
        · exact .inr h
      · obtain ⟨h1, h2, _⟩ := hoth k e
        exact .inl ⟨k, st, n, it, by rw [← h1]; exact hk, by rw [← h2]; exact hb⟩
    · have he : ver' k = ver k := he
      by_cases e : k = nm
      · subst e
        rcases hver hk with h | h
        · exact h.2.2
        · omega
      · obtain ⟨_, h2, _⟩ := hoth k e
        exact .inl (congrArg _ h2)
  have hnew' := hnew hx
  refine ⟨⟨Nat.le_trans hI.size hsz, hos.trans hI.os, htp.trans hI.tape, hout.trans hI.output, fun b hb hm => ?_, fun k o hk => ?_, fun b hb => ?_, fun k k' o o' b hk hk' hb hb' => ?_⟩, hx⟩
  · refine (hblk b (Nat.lt_of_lt_of_le hb hI.size) fun o ho hbk => ?_).trans (hI.frame b hb hm)
    rcases hI.own b ⟨nm, o, ho, hbk⟩ with h | h
    · exact hm h
    · omega
  · by_cases e : k = nm
    · subst e; exact hnew' o hk
    · obtain ⟨h1, h2, h3⟩ := hoth k e
      rw [h1] at hk
      rw [h2, h3]
      have hO := hI.objs k o hk
      refine hO.ext hx fun b hb => hblk b (hO.block hb) fun o₁ ho₁ hb₁ => e (hI.sep _ _ _ _ b hk ho₁ hb hb₁)
  · rcases hown b hb with h | h
    · exact hI.own b h
    · exact .inr (Nat.le_trans hI.size h)
  · have key : ∀ k o, k ≠ nm → H'[k]? = some o → Owns (loc' k) o b → ∀ o', H'[nm]? = some o' → Owns (loc' nm) o' b → False := by
      intro k o e hk hb o' hk' hb'
      obtain ⟨h1, h2, _⟩ := hoth k e
      rw [h1] at hk; rw [h2] at hb
      rcases hfr o' b hk' hb' with ⟨o₁, h3, h4⟩ | h
      · exact e (hI.sep _ _ _ _ b hk h3 hb h4)
      · have := (hI.objs k o hk).block hb; simp [envOf] at this; omega
    by_cases e : k = nm
    · by_cases e' : k' = nm
      · rw [e, e']
      · subst e; exact (key k' o' e' hk' hb' o hk hb).elim
    · by_cases e' : k' = nm
      · subst e'; exact (key k o e hk hb o' hk' hb').elim
      · obtain ⟨h1, h2, _⟩ := hoth k e
        obtain ⟨h3, h4, _⟩ := hoth k' e'
        rw [h1] at hk; rw [h2] at hb; rw [h3] at hk'; rw [h4] at hb'
        exact hI.sep _ _ _ _ b hk hk' hb hb'
/-- The same, of an object that is neither an iterator's blocks nor an iterator's caller. -/
theorem Inv.turn {G : Ctx} {H H' : List HO} {loc loc' : Nat → Loc} {ver ver' : Nat → Nat} {w w' : World} (hI : Inv G H loc ver w) (nm : Nat)
    (hlen : H.length ≤ H'.length)
    (hoth : ∀ k, k ≠ nm → H'[k]? = H[k]? ∧ loc' k = loc k ∧ ver' k = ver k)
    (hhas : hasB H nm = true → hasB H' nm = true)
    (hver : hasB H nm = true → (ver' nm = ver nm ∧ (loc' nm).toCore = (loc nm).toCore ∧ ((loc' nm).sub = (loc nm).sub ∨ (loc nm).sub.v < (loc' nm).sub.v)) ∨ (0 < ver nm ∧ ver nm < ver' nm))
    (hsz : w.heap.size ≤ w'.heap.size) (hos : w'.os = w.os) (htp : w'.tape = w.tape) (hout : w'.output = w.output)
    (hng : H[nm]? ≠ some .gone) (hng' : hasB H nm = true → H'[nm]? ≠ some .gone)
    (hny : ∀ st n it b, H'[nm]? = some (.yst st n it) → (loc' nm).al b → (∃ st n it, H[nm]? = some (.yst st n it) ∧ (loc nm).al b) ∨ w.heap.size ≤ b)
    (hblk : ∀ b, b < w.heap.size → (∀ o, H[nm]? = some o → ¬ Owns (loc nm) o b) → w'.heap[b]? = w.heap[b]?)
    (hfr : ∀ o' b, H'[nm]? = some o' → Owns (loc' nm) o' b → (∃ o, H[nm]? = some o ∧ Owns (loc nm) o b) ∨ w.heap.size ≤ b)
    (hnew : Ext (envOf G H loc ver w) (envOf G H' loc' ver' w') → ∀ o', H'[nm]? = some o' → OSat (envOf G H' loc' ver' w') (loc' nm) (ver' nm) o') :
    Inv G H' loc' ver' w' ∧ Ext (envOf G H loc ver w) (envOf G H' loc' ver' w') := by
  have hgho : ∀ k b, ghoN H loc k b → ghoN H' loc' k b ∧ w'.heap[b]? = w.heap[b]? := by
    rintro k b ⟨hk, hb⟩
    have e : k ≠ nm := fun e => hng (by rw [← e]; exact hk)
    obtain ⟨h1, h2, _⟩ := hoth k e
    refine ⟨⟨by rw [h1]; exact hk, by rw [h2]; exact hb⟩, hblk b ((hI.objs k _ hk).2 b hb) fun o ho hbo => ?_⟩
    exact e (hI.sep _ _ _ _ b hk ho hb hbo)
  have hgho' : ∀ k b, hasB H k = true → ghoN H' loc' k b → ghoN H loc k b := by
    rintro k b hlt ⟨hk, hb⟩
    by_cases e : k = nm
    · subst e; exact (hng' hlt hk).elim
    · obtain ⟨h1, h2, _⟩ := hoth k e
      exact ⟨by rw [← h1]; exact hk, by rw [← h2]; exact hb⟩
  have hkeep : ∀ (k : Nat) (o : Obj), ¬ aliN H loc k → w.heap[k]? = some o → isBook o = true → w'.heap[k]? = some o := by
    intro k o hna hk ho
    refine (hblk k (Array.getElem?_eq_some_iff.1 hk).1 fun o' ho' hb' => ?_).trans hk
    have hy : ∀ st n it, o' ≠ .yst st n it := by rintro st n it rfl; exact hna ⟨nm, st, n, it, ho', hb'⟩
    have := (hI.objs nm o' ho').isBook hb' (fun e => hng (by rw [ho', e])) hy (x := o) hk
    rw [ho] at this; cases this
  obtain ⟨h1, h2⟩ := hI.turn0 nm hlen hoth hhas hver hsz hos htp hout hblk hfr hny (fun x => hnew ⟨x, hkeep, hgho, hgho'⟩)
  exact ⟨h1, ⟨h2, hkeep, hgho, hgho'⟩⟩

def upd {α : Type} (f : Nat → α) (n : Nat) (x : α) : Nat → α := fun k => if k = n then x else f k
theorem upd_same {α : Type} (f : Nat → α) (n : Nat) (x : α) : upd f n x n = x := if_pos rfl
theorem upd_other {α : Type} (f : Nat → α) (n : Nat) (x : α) {k : Nat} (h : k ≠ n) : upd f n x k = f k := if_neg h
theorem get_append_new {H : List HO} {o : HO} : (H ++ [o])[H.length]? = some o := by simp
theorem get_append_old {H : List HO} {o : HO} {k : Nat} (h : k ≠ H.length) : (H ++ [o])[k]? = H[k]? := by
  rcases Nat.lt_or_ge k H.length with h1 | h1
  · rw [List.getElem?_append_left h1]
  · rw [List.getElem?_append_right h1, List.getElem?_eq_none (l := H) (by omega)]
    have : k - H.length ≠ 0 := by omega
    cases hk : k - H.length with
    | zero => omega
    | succ m => rfl
theorem get_set_same {H : List HO} {nm : Nat} {o : HO} (h : nm < H.length) : (H.set nm o)[nm]? = some o := by simp [h]
theorem get_set_other {H : List HO} {nm k : Nat} {o : HO} (h : k ≠ nm) : (H.set nm o)[k]? = H[k]? := by
  rw [List.getElem?_set]; simp [Ne.symm h]

/-- A new object. -/
theorem Inv.fresh {G : Ctx} {H : List HO} {loc : Nat → Loc} {ver : Nat → Nat} {w w' : World} (hI : Inv G H loc ver w) (o : HO) (L : Loc) (v : Nat)
    (hsz : w.heap.size ≤ w'.heap.size) (hos : w'.os = w.os) (htp : w'.tape = w.tape) (hout : w'.output = w.output)
    (hblk : ∀ b, b < w.heap.size → w'.heap[b]? = w.heap[b]?)
    (hfr : ∀ b, Owns L o b → w.heap.size ≤ b)
    (hnew : Ext (envOf G H loc ver w) (envOf G (H ++ [o]) (upd loc H.length L) (upd ver H.length v) w') → OSat (envOf G (H ++ [o]) (upd loc H.length L) (upd ver H.length v) w') L v o)
    (hny : ∀ st n it, o ≠ .yst st n it := by intro _ _ _ h; cases h) :
    Inv G (H ++ [o]) (upd loc H.length L) (upd ver H.length v) w' ∧ Ext (envOf G H loc ver w) (envOf G (H ++ [o]) (upd loc H.length L) (upd ver H.length v) w') := by
  refine hI.turn H.length (by simp) (fun k hk => ⟨get_append_old hk, upd_other _ _ _ hk, upd_other _ _ _ hk⟩) (fun h => by rw [hasB_not] at h; cases h) (fun h => by rw [hasB_not] at h; cases h) hsz hos htp hout (by simp) (fun h => by rw [hasB_not] at h; cases h) (fun st n it b h => by rw [get_append_new] at h; cases h; exact (hny _ _ _ rfl).elim) (fun b hb _ => hblk b hb) ?_ ?_
  · intro o' b ho' hb
    rw [get_append_new] at ho'; cases ho'
    rw [upd_same] at hb
    exact .inr (hfr b hb)
  · intro hx o' ho'
    rw [get_append_new] at ho'; cases ho'
    rw [upd_same, upd_same]
    exact hnew hx

/-- An object is turned where it lies. -/
theorem Inv.inPlace {G : Ctx} {H : List HO} {loc : Nat → Loc} {ver : Nat → Nat} {w w' : World} (hI : Inv G H loc ver w) {nm : Nat} {o o' : HO} {b : Nat} (hn : H[nm]? = some o) (hb : Owns (loc nm) o b) (hob : ∀ b', Owns (loc nm) o' b' → Owns (loc nm) o b')
    (hsz : w'.heap.size = w.heap.size) (hos : w'.os = w.os) (htp : w'.tape = w.tape) (hout : w'.output = w.output)
    (hblk : ∀ b', b' ≠ b → w'.heap[b']? = w.heap[b']?)
    (hnew : Ext (envOf G H loc ver w) (envOf G (H.set nm o') loc ver w') → OSat (envOf G (H.set nm o') loc ver w') (loc nm) (ver nm) o')
    (hng : o ≠ .gone := by intro h; cases h) (hng' : o' ≠ .gone := by intro h; cases h) (hnr : isRes o' = false := by rfl) (hny : ∀ st n it, o' ≠ .yst st n it := by intro _ _ _ h; cases h) :
    Inv G (H.set nm o') loc ver w' ∧ Ext (envOf G H loc ver w) (envOf G (H.set nm o') loc ver w') := by
  have hlt : nm < H.length := (List.getElem?_eq_some_iff.1 hn).1
  refine hI.turn nm (by simp) (fun k hk => ⟨get_set_other hk, rfl, rfl⟩) (fun _ => hasB_of (get_set_same hlt) hnr) (fun _ => .inl ⟨rfl, rfl, .inl rfl⟩) (by omega) hos htp hout (by rw [hn]; intro h; cases h; exact hng rfl) (fun _ => by rw [get_set_same hlt]; intro h; cases h; exact hng' rfl) (fun st n it b h => by rw [get_set_same hlt] at h; cases h; exact (hny _ _ _ rfl).elim) (fun b' _ h => hblk b' fun e => h o hn (by rw [e]; exact hb)) ?_ ?_
  · intro o₁ b₁ ho₁ hb₁
    rw [get_set_same hlt] at ho₁; cases ho₁
    exact .inl ⟨o, hn, hob _ hb₁⟩
  · intro hx o₁ ho₁
    rw [get_set_same hlt] at ho₁; cases ho₁
    exact hnew hx

/-- The memory has grown, and nothing that was there has turned. -/
theorem Inv.grow {G : Ctx} {H : List HO} {loc : Nat → Loc} {ver : Nat → Nat} {w w' : World} (hI : Inv G H loc ver w) (hb : Below w.heap.size w w') :
    Inv G H loc ver w' ∧ Ext (envOf G H loc ver w) (envOf G H loc ver w') := by
  refine hI.turn H.length (Nat.le_refl _) (fun _ _ => ⟨rfl, rfl, rfl⟩) (fun h => h) (fun h => by rw [hasB_not] at h; cases h) hb.size hb.os hb.tape hb.output (by simp) (fun h => by rw [hasB_not] at h; cases h) (fun st n it b h => by simp at h) (fun b h _ => hb.block b h) ?_ ?_
  · intro o' b ho'
    simp at ho'
  · intro _ o' ho'
    simp at ho'

/-! ### The results of one operation -/
def Res (G : Ctx) (E : Env) (K : SV → List HO → Prop) (v : Value) (w' : World) : Prop :=
  ∃ s H' loc' ver', K s H' ∧ Inv G H' loc' ver' w' ∧ Rel (envOf G H' loc' ver' w') s v ∧ Ext E (envOf G H' loc' ver' w')
theorem Res.pure {G : Ctx} {H : List HO} {loc : Nat → Loc} {ver : Nat → Nat} {w : World} (hI : Inv G H loc ver w) {K : SV → List HO → Prop} {s : SV} {v : Value} (hk : K s H) (hr : Rel (envOf G H loc ver w) s v) : Res G (envOf G H loc ver w) K v w :=
  ⟨s, H, loc, ver, hk, hI, hr, Ext.refl _⟩
def Opn (F : Fence) : Prop := ∃ ro, F = { Fence.wide with round := ro }
theorem Opn.fn {F : Fence} (h : Opn F) (f : FuncId) : F.fn f := by obtain ⟨ro, rfl⟩ := h; trivial
theorem Opn.depth {F : Fence} (h : Opn F) : F.depth = none := by obtain ⟨ro, rfl⟩ := h; rfl
theorem Opn.calls {F : Fence} (h : Opn F) {n : Nat} {P : Program} {f : FuncId} {args : Array Value} {w : World} {R : Ending → World → Prop} (hc : Calls P f args w R) : CallsIn F n P f args w R := by
  obtain ⟨ro, rfl⟩ := h
  exact callsIn_wide.2 hc
inductive OpOK (P : Program) (F : Fence) (o : Oper) (a : Act) (w : World) (R : Value → World → Prop) : Prop where
  | value (v : Value) (w' : World) (hr : (execOp a.eval o).run P w = .ok (.value v) w') (h : R v w') : OpOK P F o a w R
  | skip (w' : World) (hr : (execOp a.eval o).run P w = .ok .skip w') (h : R undef w') : OpOK P F o a w R
  | yield (l : Nat) (args : Array Value) (hr : (execOp a.eval o).run P w = (Instr.yield l args).run P w) (h : YieldAt Fence.wide 0 P l args w fun e w' => ∃ v, e = .returned v ∧ R v w') : OpOK P F o a w R
  | call (f : FuncId) (args : Array Value) (hr : (execOp a.eval o).run P w = .ok (.enter f args) w) (h : ∀ n, CallsIn F n P f args w fun e w' => ∃ v, e = .returned v ∧ R v w') : OpOK P F o a w R
theorem OpOK.mono {P : Program} {F : Fence} {o : Oper} {a : Act} {w : World} {R R' : Value → World → Prop} (h : OpOK P F o a w R) (hr : ∀ v w', R v w' → R' v w') : OpOK P F o a w R' := by
  cases h with
  | value v w' h1 h2 => exact .value v w' h1 (hr _ _ h2)
  | skip w' h1 h2 => exact .skip w' h1 (hr _ _ h2)
  | yield l args h1 h2 => exact .yield l args h1 (h2.mono fun e w' ⟨v, he, h⟩ => ⟨v, he, hr _ _ h⟩)
  | call f args h1 h2 => exact .call f args h1 fun n => (h2 n).mono fun e w' ⟨v, he, h⟩ => ⟨v, he, hr _ _ h⟩
theorem OpOK.wpIn {P : Program} {F : Fence} {n : Nat} {o : Oper} {a : Act} {w : World} {R : Value → World → Prop} {next : Act → World → Prop} {Q : Exit → Act → World → Prop} (hF : Opn F) (hd : ∀ c, o.op ≠ .defer c)
    (h : OpOK P F o a w R) (hn : ∀ v w', R v w' → next (a.put o.dst v) w') : o.wpIn F n P a w next Q := by
  refine ⟨fun f _ => hF.fn f, ?_⟩
  rw [Oper.semAt_eq _ _ _ hd]
  cases h with
  | value v w' h1 h2 => rw [h1]; exact hn _ _ h2
  | skip w' h1 h2 => rw [h1]; exact hn _ _ h2
  | yield l args h1 h2 =>
    obtain ⟨fn, tmps, assign, body, hy, hR⟩ := h2
    rw [h1, hy]
    refine ⟨fun hs => (by rw [hF.depth] at hs; cases hs), ?_⟩
    obtain ⟨ro, rfl⟩ := hF
    refine RoundIn.mono (R := fun e w' => ∃ v, e = .returned v ∧ R v w') ⟨hR.1, fun c cs _ => hR.2 c cs (fun d h => by cases h)⟩ ?_
    rintro e w' ⟨v, rfl, h⟩
    exact hn _ _ h
  | call f args h1 h2 =>
    rw [h1]
    refine ⟨fun hs => (by rw [hF.depth] at hs; cases hs), (h2 _).mono ?_⟩
    rintro e w' ⟨v, rfl, h⟩
    exact hn _ _ h
end Go.Eng
