/-
  **A range over a function**, by the contract of its iterator.
-/
import Derived.Test.YtpmbhgmifiianaaEngN
import Derived.RangeFuncNested
set_option linter.unusedSimpArgs false
set_option linter.unusedVariables false
namespace Go.Eng
open Go.RowKit

section
variable {P : Program} {G : Ctx} {N : Nat} {H : List HO} {loc : Nat → Loc} {ver : Nat → Nat} {w : World}

/-- The blocks of an iterator at work have turned, and it has laid new ones. -/
theorem alien (hI : Inv G H loc ver w) {h : Nat} (hg : H[h]? = some .gone) {w' : World} (hos : w'.os = w.os) (htp : w'.tape = w.tape) (hout : w'.output = w.output) (hsz : w.heap.size ≤ w'.heap.size) (al' : Nat → Prop)
    (hal : ∀ b, al' b → (loc h).al b ∨ (w.heap.size ≤ b ∧ b < w'.heap.size)) (hblk : ∀ b, b < w.heap.size → ¬ (loc h).al b → w'.heap[b]? = w.heap[b]?) :
    Inv G H (upd loc h { loc h with al := al' }) (upd ver h (ver h + 1)) w' ∧ Ext0 (envOf G H loc ver w) (envOf G H (upd loc h { loc h with al := al' }) (upd ver h (ver h + 1)) w') := by
  have hO := hI.objs h _ hg
  refine hI.turn0 h (Nat.le_refl _) (fun k hk => ⟨rfl, upd_other _ _ _ hk, upd_other _ _ _ hk⟩) (fun h => h) (fun _ => .inr ⟨hO.1, by rw [upd_same]; omega⟩) hsz hos htp hout (fun b hb hno => hblk b hb (hno _ hg)) ?_ ?_ ?_
  · intro o' b ho' hb
    rw [hg] at ho'; cases ho'
    rw [upd_same] at hb
    rcases hal b hb with h1 | h1
    · exact .inl ⟨_, hg, h1⟩
    · exact .inr h1.1
  · intro st n it b hy
    rw [hg] at hy; cases hy
  · intro hx o' ho'
    rw [hg] at ho'; cases ho'
    rw [upd_same, upd_same]
    refine ⟨Nat.succ_pos _, fun b hb => ?_⟩
    rcases hal b hb with h1 | h1
    · exact Nat.lt_of_lt_of_le (hO.2 b h1) hsz
    · exact h1.2
theorem ExtO.alien {O : List Nat} {E0 : Env} {loc' : Nat → Loc} {ver' : Nat → Nat} {w' : World} {h : Nat} (hx : ExtO O E0 (envOf G H loc ver w)) (hx0 : Ext0 (envOf G H loc ver w) (envOf G H loc' ver' w')) (hn : ∀ nm, E0.has nm = true → nm < h)
    (hlow : ∀ b, b < E0.w.heap.size → w'.heap[b]? = w.heap[b]?) (hg0 : ∀ nm b, E0.gho nm b → E0.has nm = true ∧ b < E0.w.heap.size) (hloc : ∀ nm, nm ≠ h → loc' nm = loc nm) : ExtO O E0 (envOf G H loc' ver' w') := by
  refine ⟨fun b ho => (hx0.blk b (hx.ok b ho)).trans (hx.blk b ho), fun b hb => hx0.ok b (hx.ok b hb), fun nm hn => hx0.num nm (hx.num nm hn), fun nm hn hm => ?_, Nat.le_trans hx.size hx0.size, fun k o hna hk ho => ?_, fun nm b hb => ?_, fun nm b hn' hb => ?_, fun b hb => ?_, hx0.itr.trans hx.itr, fun nm hn hm he => ?_⟩
  · rcases hx.ver nm hn hm with ⟨e1, e2⟩ | ⟨e1, e2⟩
    · rcases hx0.ver nm (hx.num nm hn) with ⟨e3, e4⟩ | ⟨e3, e4⟩
      · exact .inl ⟨e3.trans e1, e4.trans e2⟩
      · exact .inr ⟨by omega, by omega⟩
    · rcases hx0.ver nm (hx.num nm hn) with ⟨e3, e4⟩ | ⟨e3, e4⟩
      · exact .inr ⟨e1, by omega⟩
      · exact .inr ⟨e1, by omega⟩
  · exact (hlow k (Array.getElem?_eq_some_iff.1 hk).1).trans (hx.keep k o hna hk ho)
  · obtain ⟨h1, h2⟩ := hx.gho nm b hb
    obtain ⟨h3, h4⟩ := hg0 nm b hb
    exact ⟨⟨h1.1, by rw [hloc nm (by have := hn nm h3; omega)]; exact h1.2⟩, (hlow b h4).trans h2⟩
  · exact hx.gho' nm b hn' ⟨hb.1, by rw [← hloc nm (by have := hn nm hn'; omega)]; exact hb.2⟩
  · rcases hx0.ali b hb with h1 | h1
    · exact hx.ali b h1
    · exact .inr (Nat.le_trans hx.size h1)
  · have h1 := hx.ver nm hn hm
    have h2 := hx0.ver nm (hx.num nm hn)
    have e1 : (envOf G H loc ver w).ver nm = E0.ver nm := by
      rcases h1 with ⟨q1, _⟩ | ⟨q1, q2⟩
      · exact q1
      · rcases h2 with ⟨q3, _⟩ | ⟨q3, q4⟩ <;> omega
    rcases hx.sub nm hn hm e1 with q1 | q1
    · rcases hx0.sub nm (hx.num nm hn) (by omega) with q2 | q2
      · exact .inl (q2.trans q1)
      · rw [q1] at q2; exact .inr q2
    · rcases hx0.sub nm (hx.num nm hn) (by omega) with q2 | q2
      · rw [q2]; exact .inr q1
      · exact .inr (Nat.lt_trans q1 q2)

/-! ### Heads with an iterator's blocks behind them -/
theorem verOf_gone (T : List HO) (nm : Nat) : verOf (T ++ [.gone]) nm = verOf T nm := by
  have : hget (T ++ [.gone]) nm = hget T nm ∨ (hget (T ++ [.gone]) nm = .gone ∧ hget T nm = .dead) := by
    simp only [hget, List.getD_eq_getElem?_getD]
    rcases Nat.lt_trichotomy nm T.length with h | h | h
    · left; rw [List.getElem?_append_left h]
    · right; subst h; simp
    · left; rw [List.getElem?_eq_none (by simp; omega), List.getElem?_eq_none (by omega)]
  rcases this with h | ⟨h1, h2⟩
  · simp only [verOf, h]
  · simp only [verOf, h1, h2]
theorem reV_congr {objs : List Nat} {A A' B B' : List HO} (hA : ∀ nm, verOf A' nm = verOf A nm) (hB : ∀ nm, verOf B' nm = verOf B nm) (s : SV) : reV objs A' B' s = reV objs A B s := by
  cases s <;> simp [reV, hA, hB]
theorem entC_congr {objs : List Nat} {A A' B B' : List HO} {n : Nat} (hA : ∀ nm, verOf A' nm = verOf A nm) (hB : ∀ nm, verOf B' nm = verOf B nm) : ∀ {l l' : List SV}, entC objs A B n l l' → entC objs A' B' n l l'
  | [], [], _ => trivial
  | x :: r, y :: r', h => ⟨by rw [reV_congr hA hB]; exact h.1, entC_congr hA hB h.2⟩
theorem entO_congr {objs : List Nat} {A A' B B' : List HO} {n nm : Nat} (hA : ∀ nm, verOf A' nm = verOf A nm) (hB : ∀ nm, verOf B' nm = verOf B nm) {o o' : HO} (h : entO objs A B n nm o o') : entO objs A' B' n nm o o' := by
  cases o' with
  | dead => cases o <;> trivial
  | cells l e => cases o with
    | cells l' e' => exact ⟨h.1, entC_congr hA hB h.2⟩
    | _ => exact h.elim
  | frc l => cases o with
    | frc l' => exact entC_congr hA hB h
    | _ => exact h.elim
  | vec v t xs e => cases o with
    | vec v' t' xs' e' => exact h
    | _ => exact h.elim
  | fro v t xs => cases o with
    | fro v' t' xs' => exact h
    | _ => exact h.elim
  | gone => cases o with
    | gone => exact h
    | _ => exact h.elim
  | yst a b c => cases o with
    | yst a' b' c' => exact h
    | _ => exact h.elim
  | map a b c => cases o with
    | map a' b' c' => exact h
    | _ => exact h.elim
  | mit a b c d => cases o with
    | mit a' b' c' d' => exact h
    | _ => exact h.elim
  | res => cases o <;> exact h.elim
  | vv a b c d p e f => cases o with
    | vv a' b' c' d' p' e' f' => exact h
    | _ => exact h.elim
theorem entS_gone {objs : List Nat} {A B : List HO} {n : Nat} (h : entH objs A B n 0 A B) (hA : A[B.length]? = some .gone) (hm : mem B.length objs = false) : EntS objs A (B ++ [.gone]) n := by
  obtain ⟨h1, h2⟩ := entH_spec h
  refine ⟨by have := (List.getElem?_eq_some_iff.1 hA).1; simp; omega, fun i o ho => ?_⟩
  rcases Nat.lt_trichotomy i B.length with hi | hi | hi
  · rw [List.getElem?_append_left hi] at ho
    obtain ⟨o', h3, h4⟩ := h2 i o ho
    exact ⟨o', h3, entO_congr (fun _ => rfl) (verOf_gone B) h4⟩
  · subst hi
    simp at ho; subst ho
    exact ⟨.gone, hA, by rw [Nat.zero_add]; exact hm⟩
  · rw [List.getElem?_eq_none (by simp; omega)] at ho; cases ho
theorem entS_init {objs : List Nat} {A B : List HO} {n : Nat} (h : entH objs A B n 0 A B) (hl : B.length = A.length) (hm : mem B.length objs = false) : EntS objs (A ++ [.gone]) (B ++ [.gone]) n := by
  obtain ⟨h1, h2⟩ := entH_spec h
  refine ⟨by simp; omega, fun i o ho => ?_⟩
  rcases Nat.lt_trichotomy i B.length with hi | hi | hi
  · rw [List.getElem?_append_left hi] at ho
    obtain ⟨o', h3, h4⟩ := h2 i o ho
    exact ⟨o', by rw [List.getElem?_append_left (by omega)]; exact h3, entO_congr (verOf_gone A) (verOf_gone B) h4⟩
  · subst hi
    simp at ho; subst ho
    exact ⟨.gone, by rw [hl]; simp, by rw [Nat.zero_add]; exact hm⟩
  · rw [List.getElem?_eq_none (by simp; omega)] at ho; cases ho

/-! ### The arguments of a round -/
theorem putPs_rel {E : Env} : ∀ {ps : List Nat} {vs : List SV} {us : List Value} {l : List (Nat × SV)} {t : Array Value}, t.size = N → (∀ k, Rel E (look l k) (t.getD k undef)) → RelL E vs us → (∀ p ∈ ps, p < N) → ps.length = vs.length →
    ((ps.zip us).foldl (fun tm (p : Nat × Value) => tm.setIfInBounds p.1 p.2) t).size = N ∧ ∀ k, Rel E (look (putPs ps vs l) k) (((ps.zip us).foldl (fun tm (p : Nat × Value) => tm.setIfInBounds p.1 p.2) t).getD k undef)
  | [], [], _, l, t, hs, hr, .nil, _, _ => ⟨hs, hr⟩
  | p :: ps, v :: vs, _, l, t, hs, hr, .cons _ u _ us h hl, hp, hlen => by
    simp only [List.zip_cons_cons, List.foldl_cons, putPs]
    refine putPs_rel (by simp [hs]) (fun k => ?_) hl (fun q hq => hp q (List.mem_cons_of_mem _ hq)) (by simpa using hlen)
    rw [look_put]
    have hlt : p < t.size := by rw [hs]; exact hp p (List.mem_cons_self ..)
    rw [Array.getD_eq_getD_getElem?, Array.getElem?_setIfInBounds]
    by_cases e : k = p
    · subst e; simp [hlt]; exact h
    · rw [if_neg e, if_neg (fun h => e h.symm), ← Array.getD_eq_getD_getElem?]; exact hr k
theorem givSV_use {E : Env} : ∀ {vs : List SV} {us : List Value} {C : Prop}, RelL E vs us → givSV vs C → C
  | [], _, _, _, h => h
  | v :: vs, _, C, .cons _ u _ us hv hl, h => by
    unfold givSV at h
    split at h
    · rename_i heq; cases heq
    · rename_i k n r heq
      cases heq
      obtain ⟨_, hk⟩ := hv.int_inv
      exact givSV_use hl (giv_use h hk)
    · rename_i heq
      cases heq
      exact givSV_use hl h
theorem flat_up {E : Env} {vs : List SV} {us : List Value} {w : World} (h : RelL (env0 w fun _ => False) vs us) : RelL E vs us :=
  RelL.move (E := env0 w fun _ => False) (E' := E) (p := fun m => Nat.blt m 0) (fun nm hp _ => by simp at hp) (fun nm hp => by simp at hp) (fun h => by cases h) (fun a v h => h.elim) (fun b h => h.elim) h h.under

/-! ### The record of a loop -/
def mkRec (fn : FuncId) (tmps : Array Value) (ps : Array Tmp) (x y : Code) (d : Nat) (st : LoopState) (pe : Option Code) : Loop := { state := st, pending := pe, fn, tmps, params := ps, assign := x, body := y, defers := d }
theorem enter_loop {F : Fence} {E : Env} (hr : RoundOK F E) (hE : E.w = w) (fn : FuncId) (tmps : Array Value) (ps : Array Tmp) (x y : Code) :
    ∃ (l : Nat) (Ds : List Nat) (w1 : World) (d : Nat), (Instr.enterLoop fn tmps ps x y F.round).run P w = .ok (l, Ds.map markOf) w1 ∧ w1.heap[l]? = some (.loop (mkRec fn tmps ps x y d .ready none)) ∧ Below w.heap.size w w1 ∧ w.heap.size ≤ l ∧ Ds.Nodup ∧
      ∀ D ∈ Ds, w.heap.size ≤ D ∧ D ≠ l ∧ w1.heap[D]? = some (.deferred (some [])) := by
  subst hE
  cases hF : F.round with
  | none =>
    refine ⟨E.w.heap.size + 1, [E.w.heap.size], _, E.w.heap.size, run_enterLoop_outer _ _ _ _ _, ?_, ?_, by omega, by simp, ?_⟩
    · have := World.alloc_heap_new (E.w.alloc (.deferred (some []))) (.loop (mkRec fn tmps ps x y E.w.heap.size .ready none)); rwa [World.size_alloc] at this
    · exact ((Below.refl _ E.w).alloc (Nat.le_refl _) _).alloc (by simp) _
    · intro D hD
      simp at hD; subst hD
      exact ⟨Nat.le_refl _, by omega, (Below.heap_alloc _ _ _ (by simp)).trans (World.alloc_heap_new E.w _)⟩
  | some l0 =>
    obtain ⟨_, r0, h0⟩ := hr l0 hF
    refine ⟨E.w.heap.size, [], _, r0.defers, run_enterLoop_inner h0 _ _ _ _ _, ?_, ?_, Nat.le_refl _, List.nodup_nil, fun _ h => by cases h⟩
    · exact World.alloc_heap_new E.w _
    · exact (Below.refl _ E.w).alloc (Nat.le_refl _) _
end
end Go.Eng
