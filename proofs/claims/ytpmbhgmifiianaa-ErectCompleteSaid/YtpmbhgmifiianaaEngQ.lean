/-
  **A range over a function is sound.**
-/
import Derived.Test.YtpmbhgmifiianaaEngP
set_option linter.unusedSimpArgs false
set_option linter.unusedVariables false
namespace Go.Eng
open Go.RowKit

section
variable {P : Program} {G : Ctx} {N : Nat}

def jumpCode : Exit → Option Code
  | .ret => some .ret
  | .exit n => some (.exit n)
  | _ => none
theorem base_rel {O ws : List Nat} {E E' : Env} {l : List (Nat × SV)} {a : Act} (hT : TRel E N l a) (hx : ExtO O E E') : TRel E' N (base ws O l) a := by
  refine ⟨hT.size, fun t => ?_⟩
  rcases look_base ws O l t with e | ⟨e1, e2, e3⟩
  · rw [e]; exact .any _
  · rw [e1]
    refine (hT.rel t).move (p := fun m => !mem m O) (fun nm hp hlt => ?_) (fun nm hp hn he => hx.sub nm hn (by simpa using hp) he) (fun _ => hx.itr) hx.cell hx.ok (names_not e3)
    have h2 : mem nm O = false := by simpa using hp
    exact ⟨hx.num nm hlt, hx.ver nm hlt h2⟩
theorem not_ali {H : List HO} {loc : Nat → Loc} {ver : Nat → Nat} {w : World} (hI : Inv G H loc ver w) {h b : Nat} (hg : H[h]? = some .gone) (hb : (loc h).al b) : ¬ aliN H loc b := by
  rintro ⟨nm, st, n, it, h1, h2⟩
  have := hI.sep nm h _ _ b h1 hg h2 hb
  subst this
  rw [hg] at h1; cases h1

/-- What holds between two rounds, as the caller of an iterator has it. -/
def RJ (G : Ctx) (K : Exit → List (Nat × SV) → List HO → Prop) (an : Ann) (OD : List Nat) (H1 : List HO) (loc1 : Nat → Loc) (ver1 : Nat → Nat) (w w1 : World) (l : List (Nat × SV)) (lr : Nat) (Ds : List Nat) (rec : LoopState → Option Code → Loop)
    (st : Option Nat) (M : Nat → Prop) (W : World) : Prop :=
  (∀ b, M b → w1.heap.size ≤ b) ∧ (∀ D ∈ Ds, W.heap[D]? = some (.deferred (some []))) ∧ w1.heap.size ≤ W.heap.size ∧
  ∃ H' loc' ver', Inv G H' loc' ver' W ∧ H'[H1.length]? = some .gone ∧ (∀ b, (w.heap.size ≤ b ∧ b < w1.heap.size) ∨ M b → (loc' H1.length).al b) ∧ (∀ b, (loc' H1.length).al b → w.heap.size ≤ b) ∧
    ExtO OD (envOf G H1 loc1 ver1 w) (envOf G H' loc' ver' W) ∧
    (match st with
      | some k => ∃ z, an.mu z = k ∧ an.pre z ∧ H' = an.heap z H1 ++ [.gone] ∧ ExtO an.objs (envOf G H1 loc1 ver1 w) (envOf G H' loc' ver' W) ∧ W.heap[lr]? = some (.loop (rec .ready none))
      | none => ∃ e cj, jumpCode e = some cj ∧ K e (base [] OD l) H' ∧ W.heap[lr]? = some (.loop (rec .done (some cj))))

theorem RJ.abides {K : Exit → List (Nat × SV) → List HO → Prop} {an : Ann} {OD : List Nat} {H1 : List HO} {loc1 : Nat → Loc} {ver1 : Nat → Nat} {w w1 : World} {l : List (Nat × SV)} {lr : Nat} {Ds : List Nat} {rec : LoopState → Option Code → Loop}
    (hI1 : Inv G H1 loc1 ver1 w) (hb1 : Below w.heap.size w w1) (hlr : lr < w1.heap.size) (hDs1 : ∀ D ∈ Ds, D < w1.heap.size) {st : Option Nat} {M : Nat → Prop} {W W' : World} (h : RJ G K an OD H1 loc1 ver1 w w1 l lr Ds rec st M W)
    (hos : W'.os = W.os) (htp : W'.tape = W.tape) (hout : W'.output = W.output) (hsz : W.heap.size ≤ W'.heap.size) (hblk : ∀ b, b < W.heap.size → ¬ M b → W'.heap[b]? = W.heap[b]?) :
    RJ G K an OD H1 loc1 ver1 w w1 l lr Ds rec st (fun b => M b ∨ (W.heap.size ≤ b ∧ b < W'.heap.size)) W' := by
  obtain ⟨hM, hDs, hws, H', loc', ver', hI, hg, hal, hal2, hx, hst⟩ := h
  have hlow : ∀ b, b < w1.heap.size → W'.heap[b]? = W.heap[b]? := fun b hb => hblk b (by omega) fun hm => by have := hM b hm; omega
  obtain ⟨hI', hx0⟩ := alien hI hg hos htp hout hsz (fun b => (loc' H1.length).al b ∨ (W.heap.size ≤ b ∧ b < W'.heap.size)) (fun b hb => hb) (fun b hb hna => hblk b hb fun hm => hna (hal b (.inr hm)))
  have hg0 : ∀ nm b, (envOf G H1 loc1 ver1 w).gho nm b → (envOf G H1 loc1 ver1 w).has nm = true ∧ b < (envOf G H1 loc1 ver1 w).w.heap.size := fun nm b hb =>
    ⟨hasB_of hb.1 rfl, (hI1.objs nm _ hb.1).2 b hb.2⟩
  have hxx : ∀ O, ExtO O (envOf G H1 loc1 ver1 w) (envOf G H' loc' ver' W) → ExtO O (envOf G H1 loc1 ver1 w) (envOf G H' _ _ W') := fun O hx =>
    ExtO.alien hx hx0 (fun nm hn => hasB_lt hn) (fun b hb => hlow b (by have := hb1.size; have hb' : b < w.heap.size := hb; omega)) hg0 (fun nm hne => upd_other _ _ _ hne)
  refine ⟨fun b hb => ?_, fun D hD => (hlow D (hDs1 D hD)).trans (hDs D hD), Nat.le_trans hws hsz, H', _, _, hI', hg, fun b hb => ?_, fun b hb => ?_, hxx OD hx, ?_⟩
  · rcases hb with hb | hb
    · exact hM b hb
    · omega
  · rw [upd_same]
    rcases hb with hb | hb | hb
    · exact .inl (hal b (.inl hb))
    · exact .inl (hal b (.inr hb))
    · exact .inr hb
  · rw [upd_same] at hb
    rcases hb with hb | hb
    · exact hal2 b hb
    · have := hb1.size; omega
  · cases st with
    | some k =>
      obtain ⟨z, h1, h2, h3, h4, h5⟩ := hst
      exact ⟨z, h1, h2, h3, hxx _ h4, (hlow lr hlr).trans h5⟩
    | none =>
      obtain ⟨e, cj, h1, h2, h3⟩ := hst
      exact ⟨e, cj, h1, h2, (hlow lr hlr).trans h3⟩

theorem range_sound {Γ : List Con} (hΓ : ∀ c ∈ Γ, ConOK P c) {A : Anns} {g : Operand} {ps : Array Tmp} {x y : Code} (ihx : ∀ key, Sound P G N Γ A key x) (ihy : ∀ key, Sound P G N Γ A key y) (key : Nat) : Sound P G N Γ A key (.rangeFunc g ps x y) := by
  intro F n hF H loc ver w l a K hI hT hRo h
  simp only [exec_region, exec_draw, exec_seq, exec_cond, exec_block, exec_loop, exec_rangeFunc] at h
  split at h
  case h_2 => exact h.elim
  rename_i f caps hgv
  rcases withAnn_inv h with ⟨an, hA, h⟩ | h
  case inr => exact h.elim
  split at h
  · exact h.elim
  rename_i c hc
  obtain ⟨hmem, rfl⟩ := conOf_mem hc
  obtain ⟨hent, hcl, _, _⟩ := hΓ c hmem
  rw [force_eq, hnfL_eq] at h
  obtain ⟨hb, h⟩ := bif_true h
  obtain ⟨r, hk, htri⟩ := hcl _ _ h
  rw [hnf_eq] at hk
  split at hk
  case h_2 => exact hk.elim
  rename_i nn items
  obtain ⟨hmo, hk⟩ := bif_true hk
  obtain ⟨hok, hvc⟩ := hk
  have htri : TriI P c.f _ nn items := htri
  -- the state behind the freezing of what the iterator has captured
  obtain ⟨H1, hH1⟩ : ∃ H1, freezeL H [.clo c.f [] caps] = H1 := ⟨_, rfl⟩
  rw [hH1] at hb hok hvc htri hmo
  have hmo : mem H1.length an.objs = false := by simpa using hmo
  obtain ⟨hI1, hx1⟩ := freezeL_sound [.clo c.f [] caps] hI
  rw [hH1] at hI1 hx1
  have hT1 := hT.ext hx1
  have hgr := ev_rel hT1 g
  rw [hgv] at hgr
  generalize hgval : a.eval g = gv at hgr
  cases hgr with
  | clo _ _ _ va vb ha hcaps =>
  cases ha
  have hviews := views_rel (H := H1) (lend := false) (Ext.refl (envOf G H1 loc ver w)) (fun _ _ _ h => view_ptr hI1 h) (fun nm k v h => view_ref_fro hI1 h) hcaps
  obtain ⟨OD, hOD⟩ : ∃ OD, (touch A key x ++ touch A key y) ++ an.objs = OD := ⟨_, rfl⟩
  have hODt : touch A key (.rangeFunc g ps x y) = OD := by simp only [touch, hA]; exact hOD
  have hODx : ∀ m, mem m (touch A key x) = true → mem m OD = true := fun m hm => by rw [← hOD]; exact mem_l _ _ m (mem_l _ _ m hm)
  have hODy : ∀ m, mem m (touch A key y) = true → mem m OD = true := fun m hm => by rw [← hOD]; exact mem_l _ _ m (mem_r _ _ m hm)
  have hODo : ∀ m, mem m an.objs = true → mem m OD = true := fun m hm => by rw [← hOD]; exact mem_r _ _ m hm
  have hwi : within an.objs H1.length OD = true := by
    rw [← hOD]
    obtain ⟨z, _, _⟩ := hvc.init
    exact within_append (and2 (and2 (hok z)).1).2
  have hann : ∀ z, (an.heap z H1).length = H1.length ∧ gones H1 (an.heap z H1) = true := fun z =>
    ⟨beq_iff.1 (and2 (and2 (and2 (hok z)).1).1).2, (and2 (hok z)).2⟩
  refine wpIn_rangeFunc ?_
  intro fn hfn
  obtain ⟨lr, Ds, w1, d, hent1, hrec, hbel, hlr, hnd, hDs⟩ := enter_loop (P := P) (w := w) hRo rfl fn a.tmps ps x y
  obtain ⟨rec, hrecd⟩ : ∃ rec, mkRec fn a.tmps ps x y d = rec := ⟨_, rfl⟩
  rw [hrecd] at hrec
  have hlr1 : lr < w1.heap.size := (Array.getElem?_eq_some_iff.1 hrec).1
  have hDs1 : ∀ D ∈ Ds, D < w1.heap.size := fun D hD => (Array.getElem?_eq_some_iff.1 (hDs D hD).2.2).1
  -- the iterator's blocks: the loop's own to begin with
  have hf := hI1.fresh (w' := w1) .gone ⟨⟨none, 0, 0⟩, fun b => w.heap.size ≤ b ∧ b < w1.heap.size, sub0⟩ 1 hbel.size hbel.os hbel.tape hbel.output (fun b hb => hbel.block b hb) (fun b hb => hb.1) (fun _ => by rw [show (1 : Nat) = 1 from rfl]; exact ⟨Nat.one_pos, fun b hb => hb.2⟩)
  obtain ⟨hI2, hx2⟩ := hf
  have hg0 : ∀ nm b, (envOf G H1 loc ver w).gho nm b → (envOf G H1 loc ver w).has nm = true ∧ b < (envOf G H1 loc ver w).w.heap.size := fun nm b hb =>
    ⟨hasB_of hb.1 rfl, (hI1.objs nm _ hb.1).2 b hb.2⟩
  have heq : (#[Value.func (.yield lr) #[] #[]] ++ (⟨vb⟩ : Array Value)) = ⟨Value.func (.yield lr) #[] #[] :: vb⟩ := by apply Array.ext'; simp
  refine ⟨lr, Ds.map markOf, w1, { target := .fn (.func c.f) ⟨vb⟩, args := #[.func (.yield lr) #[] #[]] }, w1, c.f, #[Value.func (.yield lr) #[] #[]] ++ (⟨vb⟩ : Array Value), w1, hent1, ?_, fun f' _ => hF.fn f', ?_, fun hs => (by rw [hF.depth] at hs; cases hs), ?_⟩
  · simp only [resolve, hgval]
    simp [go_sem]
  · have e := hent (#[Value.func (.yield lr) #[] #[]] ++ (⟨vb⟩ : Array Value)) w1
    simpa [invoke, go_sem] using e
  rw [heq]
  have hdone : ∀ (e : Ending) (w' : World), ((∃ v, e = .returned v) ∧ ∃ M, RJ G K an OD H1 loc ver w w1 l lr Ds rec (some nn) M w' ∨ RJ G K an OD H1 loc ver w w1 l lr Ds rec none M w') →
      rangePost F n P lr (After G N (writes (.rangeFunc g ps x y)) (touch A key (.rangeFunc g ps x y)) K (envOf G H loc ver w) a) { a with defers := Ds.map markOf ++ a.defers } e w' := by
    rintro e W ⟨⟨v, rfl⟩, M, hJ⟩
    rw [hODt]
    have fin : ∀ {H' : List HO} {loc' : Nat → Loc} {ver' : Nat → Nat} {W' : World} {e : Exit} {O : List Nat}, Inv G H' loc' ver' W → H'[H1.length]? = some .gone → (∀ b, (w.heap.size ≤ b ∧ b < w1.heap.size) ∨ M b → (loc' H1.length).al b) → (∀ b, (loc' H1.length).al b → w.heap.size ≤ b) →
        ExtO O (envOf G H1 loc ver w) (envOf G H' loc' ver' W) → (∀ m, mem m O = true → mem m OD = true) → (∀ D ∈ Ds, W.heap[D]? = some (.deferred (some []))) → K e (base [] O l) H' → ∀ o, lr < W.heap.size → W' = W.putObj lr o →
        After G N (writes (.rangeFunc g ps x y)) OD K (envOf G H loc ver w) a e { a with defers := Ds.map markOf ++ a.defers } W' := by
      intro H' loc' ver' W' e O hI' hg hal hal2 hx hO hD hK o hlt hW
      subst hW
      obtain ⟨hI3, hx3⟩ := alien hI' hg (w' := W.putObj lr o) rfl rfl rfl (by simp) (loc' H1.length).al (fun b hb => .inl hb) (fun b hb hna => World.putObj_heap_other (fun e => hna (by subst e; exact hal b (.inl ⟨hlr, hlr1⟩))))
      have hx4 : ExtO O (envOf G H1 loc ver w) (envOf G H' _ _ (W.putObj lr o)) := ExtO.alien hx hx3 (fun nm hn => hasB_lt hn) (fun b hb => World.putObj_heap_other (fun e => by have hb' : b < w.heap.size := hb; omega)) hg0 (fun nm hne => upd_other _ _ _ hne)
      refine ⟨_, H', _, _, hK, hI3, ?_, (hx1.toO OD).trans (hx4.mono hO), .refl _ _, Ds, rfl, hnd, fun D hD' => ?_⟩
      · have := base_rel (ws := []) hT1 hx4
        exact ⟨this.size, this.rel⟩
      · obtain ⟨h1, h2, h3⟩ := hDs D hD'
        refine ⟨h1, not_ali hI3 hg (by rw [upd_same]; exact hal D (.inl ⟨h1, hDs1 D hD'⟩)), ?_⟩
        exact (World.putObj_heap_other h2).trans (hD D hD')
    rcases hJ with ⟨hM, hD, hws, H', loc', ver', hI', hg, hal, hal2, hx, z, hz, hpre, hH', hxo, hr⟩ | ⟨hM, hD, hws, H', loc', ver', hI', hg, hal, hal2, hx, e, cj, hj, hK, hr⟩
    · have hst := hvc.stop z hpre hz
      rw [forceT_eq, forceH_eq] at hst
      refine ⟨none, _, by have := run_endLoop (P := P) hr (by rw [← hrecd]; simp [mkRec]); rw [← hrecd] at this; exact this, ?_⟩
      subst hH'
      exact fin hI' hg hal hal2 hxo hODo hD hst _ (by omega) rfl
    · refine ⟨some cj, _, by have := run_endLoop (P := P) hr (by rw [← hrecd]; simp [mkRec]); rw [← hrecd] at this; exact this, ?_⟩
      have hfin := fun o => fin (W' := W.putObj lr o) hI' hg hal hal2 hx (fun _ h => h) hD hK o (by omega) rfl
      cases e with
      | ret => cases hj; exact wpIn_ret (hfin _)
      | exit id => cases hj; exact wpIn_exit (hfin _)
      | _ => cases hj
  refine CallsIn.mono (hF.calls (htri (okN G H1 loc w) w1 vb lr (RJ G K an OD H1 loc ver w w1 l lr Ds rec) (fun b hb => Nat.lt_of_lt_of_le hb.2.1 hbel.size)
    (RelL.bare (E := envOf G H1 loc ver w) (E' := env0 w1 (okN G H1 loc w)) (fun b v hb hv => (World.cell?_of_block (hbel.block _ hb.2.1)).trans hv) (fun _ h => h) hviews hb)
    (fun st M W W' hJ h1 h2 h3 h4 h5 => hJ.abides hI1 hbel hlr1 hDs1 h1 h2 h3 h4 h5) ?_ ?_)) hdone
  · -- a round
    rintro k M W us hk ⟨hM, hD, hws, H', loc', ver', hI', hg, hal, hal2, hxD, z, hz, hpre, hH', hxo, hr⟩ hu
    subst hz
    have hrd := hvc.round z hpre hk
    rw [hnfL_eq] at hrd
    obtain ⟨hcond, hrd⟩ := bif_true hrd
    obtain ⟨hcl1, hcl2⟩ := and2 hcond
    have hcl1 := beq_iff.1 hcl1
    have hrd := givSV_use (flat_up (E := envOf G H' loc' ver' W) hu) hrd
    rw [forceT_eq, forceH_eq] at hrd
    rw [← hH'] at hrd
    have hul : us.length = ps.size := by rw [← hu.length]; exact hcl1
    have hy := run_yield (P := P) (args := ⟨us⟩) hr (by rw [← hrecd]; simpa [mkRec] using hul)
    rw [← hrecd] at hy
    refine ⟨_, _, _, _, hy, roundIn_of_wpIn (F := Fence.wide) trivial ?_⟩
    rw [hrecd] at hy
    -- the assignment to the loop's left sides
    have hall : (loc' H1.length).al lr := hal lr (.inl ⟨hlr, hlr1⟩)
    have hTb := base_rel (ws := []) hT1 hxo
    have hT2 : TRel (envOf G H' loc' ver' W) N (putPs ps.toList (items (an.mu z)) (base [] an.objs l)) { tmps := (ps.zip ⟨us⟩).foldl (fun tmps (t, a) => tmps.setIfInBounds t a) a.tmps, defers := [] } := by
      obtain ⟨h1, h2⟩ := putPs_rel (N := N) (ps := ps.toList) hTb.size hTb.rel (flat_up (E := envOf G H' loc' ver' W) hu) (fun p hp => by
        have := List.all_eq_true.1 hcl2 p hp
        simpa using this) (by rw [hcl1]; simp)
      have e : (ps.zip ⟨us⟩).foldl (fun tmps (t, a) => tmps.setIfInBounds t a) a.tmps = (ps.toList.zip us).foldl (fun tm (p : Nat × Value) => tm.setIfInBounds p.1 p.2) a.tmps := by
        rw [← Array.foldl_toList]
        simp only [Array.toList_zip]
      exact ⟨by rw [e]; exact h1, fun t => by rw [e]; exact h2 t⟩
    have hRo1 : RoundOK (Fence.wide.inRound lr) (envOf G H' loc' ver' W) := fun l' hl' => by
      have : lr = l' := by simpa [Fence.inRound] using hl'
      subst this
      exact ⟨not_ali hI' hg hall, _, hr⟩
    refine wpIn_mono (ihx key (F := Fence.wide.inRound lr) (n := 0) ⟨some lr, rfl⟩ hI' hT2 hRo1 hrd) ?_
    rintro e a1 W1 ⟨l', Hx, locx, verx, hK, hIx, hTx, hxx, hsx, hmx⟩
    cases e with
    | normal =>
      have hr1 : W1.heap[lr]? = some (.loop (rec .ready none)) := hxx.keep lr _ (not_ali hI' hg hall) hr rfl
      have hgx := fun b hb => hxx.gho H1.length b ⟨hg, hb⟩
      have hg1 : Hx[H1.length]? = some .gone := (hgx lr hall).1.1
      have hlt1 : H1.length < H'.length := (List.getElem?_eq_some_iff.1 hg).1
      have hgx' : ∀ b, (locx H1.length).al b → (loc' H1.length).al b := fun b hb => (hxx.gho' H1.length b (hasB_of hg rfl) ⟨hg1, hb⟩).2
      refine ⟨_, run_beginRound hr1 (by rw [← hrecd]; rfl), ?_⟩
      obtain ⟨W2, hW2⟩ : ∃ W2, W1.putObj lr (.loop { rec .ready none with state := .busy }) = W2 := ⟨_, rfl⟩
      rw [hW2]
      have hlt2 : lr < W1.heap.size := (Array.getElem?_eq_some_iff.1 hr1).1
      have hr2 : W2.heap[lr]? = some (.loop { rec .ready none with state := .busy }) := by rw [← hW2]; exact World.putObj_heap_same hlt2
      have hoth2 : ∀ b, b ≠ lr → W2.heap[b]? = W1.heap[b]? := fun b hb => by rw [← hW2]; exact World.putObj_heap_other hb
      obtain ⟨hI2', hx2'⟩ := alien hIx hg1 (w' := W2) (by rw [← hW2]; rfl) (by rw [← hW2]; rfl) (by rw [← hW2]; rfl) (by rw [← hW2]; simp) (locx H1.length).al (fun b hb => .inl hb) (fun b hb hna => hoth2 b (fun e => hna (by subst e; exact (hgx b hall).1.2)))
      have hxE1 := hxD.trans (hxx.mono hODx)
      have hxE2 := ExtO.alien hxE1 hx2' (fun nm hn => hasB_lt hn) (fun b hb => hoth2 b (fun e => by have hb' : b < w.heap.size := hb; omega)) hg0 (fun nm hne => upd_other _ _ _ hne)
      have hRo2 : RoundOK (Fence.wide.inRound lr) (envOf G Hx (upd locx H1.length { locx H1.length with al := (locx H1.length).al }) (upd verx H1.length (verx H1.length + 1)) W2) := fun l' hl' => by
        have : lr = l' := by simpa [Fence.inRound] using hl'
        subst this
        exact ⟨not_ali hI2' hg1 (by rw [upd_same]; exact (hgx _ hall).1.2), _, hr2⟩
      refine wpIn_mono (ihy key (F := Fence.wide.inRound lr) (n := 0) ⟨some lr, rfl⟩ hI2' (hTx.ext0 hx2') hRo2 hK) ?_
      rintro e a3 W3 ⟨l3, H3, loc3, ver3, hK3, hI3, hT3, hx3, hs3, hm3⟩
      obtain ⟨_, hK3⟩ := bif_true hK3
      have hal2x : (upd locx H1.length { locx H1.length with al := (locx H1.length).al } H1.length).al = (locx H1.length).al := by rw [upd_same]
      have hgy := fun b (hb : (locx H1.length).al b) => hx3.gho H1.length b ⟨hg1, by rw [hal2x]; exact hb⟩
      have hallx : (locx H1.length).al lr := (hgx lr hall).1.2
      have hg3 : H3[H1.length]? = some .gone := (hgy lr hallx).1.1
      have hgy' : ∀ b, (loc3 H1.length).al b → (locx H1.length).al b := fun b hb => by
        have := (hx3.gho' H1.length b (hasB_of hg1 rfl) ⟨hg3, hb⟩).2
        rwa [hal2x] at this
      have hr3 : W3.heap[lr]? = some (.loop { rec .ready none with state := .busy }) := hx3.keep lr _ (not_ali hI2' hg1 (by rw [upd_same]; exact hallx)) hr2 rfl
      have hlt3 : lr < W3.heap.size := (Array.getElem?_eq_some_iff.1 hr3).1
      have hxE3 := hxE2.trans (hx3.mono hODy)
      -- the end of a round, by whatever way
      have fin : ∀ (jump : Option Code) (b : Bool), jump.isNone = b →
          (∀ loc4 ver4 W4, Inv G H3 loc4 ver4 W4 → ExtO OD (envOf G H1 loc ver w) (envOf G H3 loc4 ver4 W4) → W4.heap[lr]? = some (.loop (rec (if jump.isNone then .ready else .done) jump)) → (loc4 H1.length).al = (loc3 H1.length).al →
            (∀ D ∈ Ds, W4.heap[D]? = some (.deferred (some []))) → w1.heap.size ≤ W4.heap.size → RJ G K an OD H1 loc ver w w1 l lr Ds rec (if b = true then some (an.mu z + 1) else none) M W4) →
          ∃ v w', (Instr.endRound lr jump).run P W3 = .ok v w' ∧ ∃ b, Ending.returned v = .returned (.bool b) ∧ RJ G K an OD H1 loc ver w w1 l lr Ds rec (if b = true then some (an.mu z + 1) else none) M w' ∧ Kept (fun c => okN G H1 loc w c ∨ M c) W w' := by
        intro jump b hjb hJ
        have hre := run_endRound (P := P) jump hr3
        refine ⟨_, _, hre, b, by rw [hjb], ?_⟩
        obtain ⟨W4, hW4⟩ : ∃ W4, W3.putObj lr (.loop { { rec .ready none with state := .busy } with state := if jump.isNone then .ready else .done, pending := jump }) = W4 := ⟨_, rfl⟩
        rw [hW4]
        have hr4 : W4.heap[lr]? = some (.loop (rec (if jump.isNone then .ready else .done) jump)) := by
          rw [← hW4, World.putObj_heap_same hlt3, ← hrecd]; rfl
        have hoth4 : ∀ b, b ≠ lr → W4.heap[b]? = W3.heap[b]? := fun b hb => by rw [← hW4]; exact World.putObj_heap_other hb
        have hs4 : W4.heap.size = W3.heap.size := by rw [← hW4]; simp
        obtain ⟨hI4, hx4⟩ := alien hI3 hg3 (w' := W4) (by rw [← hW4]; rfl) (by rw [← hW4]; rfl) (by rw [← hW4]; rfl) (by omega) (loc3 H1.length).al (fun b hb => .inl hb) (fun b hb hna => hoth4 b (fun e => hna (by subst e; exact (hgy b hallx).1.2)))
        have hxE4 := ExtO.alien hxE3 hx4 (fun nm hn => hasB_lt hn) (fun b hb => hoth4 b (fun e => by have hb' : b < w.heap.size := hb; omega)) hg0 (fun nm hne => upd_other _ _ _ hne)
        have hsz1 : W.heap.size ≤ W3.heap.size := by
          have h1 : W.heap.size ≤ W1.heap.size := hxx.size
          have h2 : W1.heap.size ≤ W2.heap.size := hx2'.size
          have h3 : W2.heap.size ≤ W3.heap.size := hx3.size
          omega
        have hDk : ∀ D ∈ Ds, W4.heap[D]? = some (.deferred (some [])) := fun D hD' => by
          have hnl := (hDs D hD').2.1
          have halD : (loc' H1.length).al D := hal D (.inl ⟨(hDs D hD').1, hDs1 D hD'⟩)
          have h1 := hxx.keep D _ (not_ali hI' hg halD) (hD D hD') rfl
          have h2 := (hoth2 D hnl).trans h1
          have h3 := hx3.keep D _ (not_ali hI2' hg1 (by rw [upd_same]; exact (hgx D halD).1.2)) h2 rfl
          exact (hoth4 D hnl).trans h3
        refine ⟨hJ _ _ W4 hI4 hxE4 hr4 (by rw [upd_same]) hDk (by omega), hI4.os.trans hI'.os.symm, hI4.tape.trans hI'.tape.symm, hI4.output.trans hI'.output.symm, by omega, fun b hb hbl => ?_⟩
        rcases hb with hb | hb
        · have e0 : (envOf G H' loc' ver' W).ok b := hxD.ok b hb
          have e1 := hxx.blk b e0
          have e2 := hx2'.blk b (hxx.ok b e0)
          have e3 := hx3.blk b (hx2'.ok b (hxx.ok b e0))
          have e4 := hx4.blk b (hx3.ok b (hx2'.ok b (hxx.ok b e0)))
          exact ((e4.trans e3).trans e2).trans e1
        · have hnl : b ≠ lr := fun e => by have := hM b hb; omega
          have hab := hal b (.inr hb)
          have e1 := (hgx b hab).2
          have e3 := (hgy b (hgx b hab).1.2).2
          exact (((hoth4 b hnl).trans e3).trans (hoth2 b hnl)).trans e1
      have hal3 : ∀ b, (w.heap.size ≤ b ∧ b < w1.heap.size) ∨ M b → (loc3 H1.length).al b := fun b hb => (hgy b (hgx b (hal b hb)).1.2).1.2
      have hal4 : ∀ b, (loc3 H1.length).al b → w.heap.size ≤ b := fun b hb => hal2 b (hgx' b (hgy' b hb))
      have leave : ∀ (e : Exit) (cj : Code), jumpCode e = some cj → K e (base [] OD l) H3 → ∃ v w', (Instr.endRound lr (some cj)).run P W3 = .ok v w' ∧ ∃ b, Ending.returned v = .returned (.bool b) ∧ RJ G K an OD H1 loc ver w w1 l lr Ds rec (if b = true then some (an.mu z + 1) else none) M w' ∧ Kept (fun c => okN G H1 loc w c ∨ M c) W w' := by
        intro e cj hj hKe
        refine fin (some cj) false rfl fun loc4 ver4 W4 hI4 hx4 hr4 hal5 hD4 hs4 => ?_
        exact ⟨hM, hD4, hs4, H3, loc4, ver4, hI4, hg3, fun b hb => by rw [hal5]; exact hal3 b hb, fun b hb => hal4 b (by rw [← hal5]; exact hb), hx4, e, cj, hj, hKe, hr4⟩
      cases e with
      | normal =>
        obtain ⟨z', hz', har⟩ := hK3
        refine fin none true rfl fun loc4 ver4 W4 hI4 hx4 hr4 hal5 hD4 hs4 => ?_
        have hlen' := (hann z').1
        have hS := entS_gone har.ent.2 (by rw [hlen']; exact hg3) (by rw [hlen']; exact hmo)
        obtain ⟨hI5, hok5⟩ := arrive_inv hI4 (by simp; omega) hS
        have hx5 := arrive_ext hx4 (by simp; omega) (fun nm hnm => by
          have h1 := gones_spec (hann z').2 hnm
          rw [List.getElem?_append_left (List.getElem?_eq_some_iff.1 h1).1]; exact h1) hwi hS hok5
        exact ⟨hM, hD4, hs4, _, loc4, _, hI5, by rw [← hlen']; simp, fun b hb => by rw [hal5]; exact hal3 b hb, fun b hb => hal4 b (by rw [← hal5]; exact hb), hx5.mono hODo, z', hz', har.pre, rfl, hx5, hr4⟩
      | ret =>
        have hK3 : forceT (base [] ((touch A key x ++ touch A key y) ++ an.objs) l) fun l' => K .ret l' H3 := hK3
        rw [hOD, forceT_eq] at hK3
        exact leave .ret _ rfl hK3
      | exit id =>
        have hK3 : forceT (base [] ((touch A key x ++ touch A key y) ++ an.objs) l) fun l' => K (.exit id) l' H3 := hK3
        rw [hOD, forceT_eq] at hK3
        exact leave (.exit id) _ rfl hK3
      | _ => exact hK3.elim
    | _ => exact hK.elim
  · -- ahead of the first round
    obtain ⟨z, hz, har⟩ := hvc.init
    have hlen' := (hann z).1
    have hS := entS_init har.ent.2 hlen' (by rw [hlen']; exact hmo)
    obtain ⟨hI5, hok5⟩ := arrive_inv hI2 (by simp; omega) hS
    have hx12 := hx2.toO OD
    have hx5 := arrive_ext hx12 (by simp; omega) (fun nm hnm => by
      have h1 := gones_spec (hann z).2 hnm
      rw [List.getElem?_append_left (List.getElem?_eq_some_iff.1 h1).1]; exact h1) hwi hS hok5
    exact ⟨fun b hb => hb.elim, fun D hD => (hDs D hD).2.2, Nat.le_refl _, _, _, _, hI5, by rw [← hlen']; simp, fun b hb => by
        rw [upd_same]
        rcases hb with hb | hb
        · exact hb
        · exact hb.elim, fun b hb => by rw [upd_same] at hb; exact hb.1, hx5.mono hODo, z, hz, har.pre, rfl, hx5, hrec⟩
end
end Go.Eng
