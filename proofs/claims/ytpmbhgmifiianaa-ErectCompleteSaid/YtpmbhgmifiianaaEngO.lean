/-
  **A function's contract out of what the executor leaves to be shown of its body.**
-/
import Derived.Test.YtpmbhgmifiianaaEngS
import Derived.RangeFuncLeaves
set_option linter.unusedSimpArgs false
set_option linter.unusedVariables false
namespace Go.Eng
open Go.RowKit

section
variable {P : Program} {G : Ctx} {H : List HO} {loc : Nat → Loc} {ver : Nat → Nat} {w : World} {N : Nat}

theorem look_argsL : ∀ (args : List SV) (n t : Nat), look (argsL args n) t = if n ≤ t then args.getD (t - n) .any else .any
  | [], n, t => by simp [argsL, look]
  | x :: r, n, t => by
    simp only [argsL, look]
    by_cases e : n = t
    · subst e; simp [beq_same]
    · rw [beq_ne e]
      simp only [cond_false]
      rw [look_argsL r (n + 1) t]
      by_cases h : n ≤ t
      · rw [if_pos h, if_pos (by omega)]
        obtain ⟨k, rfl⟩ : ∃ k, t = n + 1 + k := ⟨t - (n + 1), by omega⟩
        rw [show n + 1 + k - (n + 1) = k by omega, show n + 1 + k - n = k + 1 by omega]
        rfl
      · rw [if_neg h, if_neg (by omega)]
theorem start_rel {E : Env} {args : List SV} {vs : List Value} (h : RelL E args vs) (hn : args.length ≤ N) : TRel E N (argsL args 0) { tmps := ⟨vs⟩ ++ Array.replicate (N - (⟨vs⟩ : Array Value).size) undef, defers := [] } := by
  have hl := h.length
  refine ⟨by simp; omega, fun t => ?_⟩
  rw [look_argsL, if_pos (Nat.zero_le _), Nat.sub_zero]
  by_cases ht : t < args.length
  · have := h.get t ht
    have e : (⟨vs⟩ ++ Array.replicate (N - (⟨vs⟩ : Array Value).size) undef : Array Value).getD t undef = vs.getD t undef := by
      rw [Array.getD_eq_getD_getElem?, Array.getElem?_append_left (by simp; omega), List.getD_eq_getElem?_getD]
      simp
    rw [e]; exact this
  · have : args.getD t .any = .any := by simp [List.getD_eq_getElem?_getD, List.getElem?_eq_none (Nat.le_of_not_lt ht)]
    rw [this]; exact .any _
def ctx0 (w : World) (ok : Nat → Prop) (hok : ∀ b, ok b → b < w.heap.size) : Ctx := ⟨w, ok, fun _ => False, fun _ _ h => h, hok, itr0⟩
theorem start_inv (ok : Nat → Prop) (hok : ∀ b, ok b → b < w.heap.size) : Inv (ctx0 w ok hok) [] (fun _ => mkL none 0 0) (fun _ => 0) w := by
  refine ⟨Nat.le_refl _, rfl, rfl, rfl, fun _ _ _ => rfl, fun nm o h => by simp at h, fun b hb => ?_, fun nm nm' o o' b h => by simp at h⟩
  obtain ⟨nm, o, h, _⟩ := hb
  simp at h
/-- A block of book-keeping that is the activation's own is turned. -/
theorem Inv.book (hI : Inv G H loc ver w) {D : Nat} {o : Obj} {ds : Option (List Deferred)} (hD : w.heap[D]? = some (.deferred ds)) (h0 : G.w0.heap.size ≤ D) (hn0 : G.itr.n0 ≤ D) (hal : ¬ aliN H loc D) : Inv G H loc ver (w.putObj D o) ∧ ∀ s v, Rel (envOf G H loc ver w) s v → Rel (envOf G H loc ver (w.putObj D o)) s v := by
  have hoth : ∀ b, b ≠ D → (w.putObj D o).heap[b]? = w.heap[b]? := fun b hb => World.putObj_heap_other hb
  have hcell : ∀ (a : Addr) (v : Value), w.cell? a = some v → (w.putObj D o).cell? a = some v := by
    intro a v hv
    by_cases e : a.block = D
    · rw [World.cell?, e, hD] at hv; cases hv
    · exact (World.cell?_of_block (hoth _ e)).trans hv
  have hok : ∀ b, okN G H loc w b → okN G H loc (w.putObj D o) b := fun b hb => ⟨hb.1, by simpa using hb.2.1, hb.2.2⟩
  have hmv : ∀ {l : List SV} {vs : List Value}, RelL (envOf G H loc ver w) l vs → RelL (envOf G H loc ver (w.putObj D o)) l vs := fun h =>
    RelL.move (E := envOf G H loc ver w) (E' := envOf G H loc ver (w.putObj D o)) (p := hasB H) (fun nm _ hn => ⟨hn, .inl ⟨rfl, rfl⟩⟩) (fun _ _ _ _ => .inl rfl) (fun _ => rfl) (fun a v _ hv => hcell a v hv) hok h h.under
  refine ⟨?_, fun s v h => Rel.move (E := envOf G H loc ver w) (E' := envOf G H loc ver (w.putObj D o)) (p := hasB H) (fun nm _ hn => ⟨hn, .inl ⟨rfl, rfl⟩⟩) (fun _ _ _ _ => .inl rfl) (fun _ => rfl) (fun a v _ hv => hcell a v hv) hok h h.under⟩
  have hcs : ∀ {b : Nat} {c : Array Value} {e : TypeId} {f : Nat × Nat}, w.heap[b]? = some (.cells c e f) → (w.putObj D o).heap[b]? = some (.cells c e f) := fun {b c e f} h =>
    (hoth b (fun e' => by subst e'; rw [hD] at h; cases h)).trans h
  refine ⟨by simpa using hI.size, hI.os, hI.tape, hI.output, fun b hb hm => (hoth b (by omega)).trans (hI.frame b hb hm), fun nm x hx => ?_, hI.own, hI.sep⟩
  have hO := hI.objs nm x hx
  cases x with
  | dead => trivial
  | res => trivial
  | fro k t xs => obtain ⟨h1, h2, h3⟩ := hO; exact ⟨h1, h2, h3.mono (fun a v _ hv => hcell a v hv) hok⟩
  | frc l => obtain ⟨h1, b, vs, h2, h3, h4, h5⟩ := hO; exact ⟨h1, b, vs, h2, hok b h3, fun j v hj => hcell _ v (h4 j v hj), hmv h5⟩
  | cells l e => obtain ⟨h1, b, vs, h2, h3, h4⟩ := hO; exact ⟨h1, b, vs, h2, hcs h3, hmv h4⟩
  | vec k t xs e =>
    obtain ⟨h1, h2, h3, h4, vs, h5, h6⟩ := hO
    refine ⟨h1, h2, h3, h4, vs, ⟨h5.1, ?_⟩, fun i hi => (h6 i hi).mono (fun a v _ hv => hcell a v hv) hok⟩
    rcases h5.2 with h7 | ⟨g, cap, cur, h7, h8, h9, h10⟩
    · exact .inl h7
    · exact .inr ⟨g, cap, cur, h7, h8, hcs h9, h10⟩
  | gone => exact ⟨hO.1, fun b hb => by simpa [envOf] using hO.2 b hb⟩
  | map k t m =>
    obtain ⟨h1, h2, h3, b, es, h4, h5, h6⟩ := hO
    exact ⟨h1, h2, h3, b, es, h4, (hoth b (fun e' => by subst e'; have h5 : w.heap[b]? = _ := h5; rw [hD] at h5; cases h5)).trans h5, h6.mono (fun a v _ hv => hcell a v hv) hok⟩
  | vv k s t xss pend eo ei =>
    obtain ⟨h1, h2, h3, h4, h5, ⟨vs, h6, h7⟩, h8, h9⟩ := hO
    have hnD : ∀ b, (b = D) → ∀ {c : Array Value} {e : TypeId}, w.heap[b]? ≠ some (.cells c e (0, 0)) := fun b e' c e h => by subst e'; rw [hD] at h; cases h
    have hkeep : ∀ {base : Nat} {e : TypeId} {size n : Nat} {v : Value} {vs : List Value}, w.ownsRow base e size v n vs → (w.putObj D o).ownsRow base e size v n vs := fun {base e size n v vs} h => by
      refine ⟨h.1, ?_⟩
      rcases h.2 with h5 | ⟨g, cap, cur, h5, h6, h7, h8⟩
      · exact .inl h5
      · exact .inr ⟨g, cap, cur, h5, h6, hcs h7, h8⟩
    have hrow : ∀ {al : Nat → Prop} {h : Value} {xs : List t.T}, RowAt (envOf G H loc ver w) al t ei h xs → RowAt (envOf G H loc ver (w.putObj D o)) al t ei h xs := fun ⟨vs, q1, q2, q3⟩ => ⟨vs, hkeep q1, q2, fun i hi => (q3 i hi).mono (fun a v _ hv => hcell a v hv) hok⟩
    refine ⟨h1, h2, h3, h4, h5, ⟨vs, hkeep h6, h7⟩, fun b hb => ?_, ⟨h9.flat, fun i hi hp => hrow (h9.row i hi hp), h9.apart, fun j ys hp => by obtain ⟨q1, q2, q3⟩ := h9.grown j ys hp; exact ⟨q1, hrow q2, q3⟩, h9.short⟩⟩
    obtain ⟨q1, q2, c, e, q3⟩ := h8 b hb
    exact ⟨by simpa [envOf] using q1, q2, c, e, hcs q3⟩
  | mit m s l c =>
    obtain ⟨h1, h2, r, bm, h3, h4, h5⟩ := hO
    exact ⟨h1, h2, r, bm, h3, (hoth r (fun e' => by subst e'; have h4 : w.heap[r]? = _ := h4; rw [hD] at h4; cases h4)).trans h4, h5⟩
  | yst st n it =>
    obtain ⟨h1, h2, h3, h4, h5, h6, h7⟩ := hO
    have hnal : ¬ (loc nm).al D := fun h => hal ⟨nm, _, _, _, hx, h⟩
    have hDs := (Array.getElem?_eq_some_iff.1 hD).1
    refine ⟨h1, fun b hb => by simpa [envOf] using h2 b hb, by simpa [envOf] using h3, h4, h5, fun b hb hl => ⟨(h6 b hb hl).1, hok b (h6 b hb hl).2⟩, ?_⟩
    have := G.itr.abides st _ w (w.putObj D o) h7 rfl rfl rfl (by simp) fun b hb hm => hoth b fun e => hm (by subst e; exact ⟨hn0, hDs, hnal⟩)
    refine cast (congrArg (fun M => G.itr.J st M (w.putObj D o)) (funext fun b => propext ⟨?_, ?_⟩)) this
    · rintro (⟨h8, h9, h10⟩ | ⟨h8, h9⟩)
      · exact ⟨h8, by simpa [envOf] using h9, h10⟩
      · exfalso; simp at h9; omega
    · rintro ⟨h8, h9, h10⟩
      exact .inl ⟨h8, by simpa [envOf] using h9, h10⟩

def getRes (a : Act) : ResultVar → Sem Value
  | .tmp t => pure (a.tmps.getD t undef)
  | .cell c t => do loadVar t (← asAddr (a.tmps.getD c undef))
theorem retOf_sound (hI : Inv G H loc ver w) {l : List (Nat × SV)} {a : Act} (hT : TRel (envOf G H loc ver w) N l a) : ∀ {rs : List ResultVar} {vs : List SV}, retOf P l H rs = some vs →
    ∃ us : List Value, (rs.mapM (getRes a)).run P w = .ok us w ∧ RelL (envOf G H loc ver w) vs us
  | [], vs, h => by simp [retOf] at h; subst h; exact ⟨[], by simp [List.mapM_nil], .nil⟩
  | .tmp t :: r, vs, h => by
    simp only [retOf] at h
    split at h
    · rename_i vs' h'
      cases h
      obtain ⟨us, h1, h2⟩ := retOf_sound hI hT h'
      refine ⟨a.tmps.getD t undef :: us, ?_, .cons _ _ _ _ (hT.rel t) h2⟩
      rw [List.mapM_cons]
      simp only [getRes, Sem.run_bind, Sem.run_pure, Result.andThen_ok, h1]
    · cases h
  | .cell c t :: r, vs, h => by
    simp only [retOf] at h
    split at h
    · rename_i nm off ag sz vs' hl ha hz h'
      obtain ⟨us, h1, h2⟩ := retOf_sound hI hT h'
      have hr := hT.rel c
      rw [hl] at hr
      cases ho : hget H nm with
      | cells cs e =>
        rw [ho] at h
        simp only at h
        obtain ⟨b, hb, hv⟩ := live_ptr hI hr (by simp [live, ho])
        obtain ⟨h0, b', ws, h3, h4, h5⟩ := hI.objs nm _ (hget_some ho (by simp))
        rw [hb] at h3; cases h3
        have h4' : w.heap[b]? = some (.cells ⟨ws⟩ e (0, 0)) := h4
        have key : ∀ s, takeSV ag off sz cs (fun x => x = s) → ∃ u, (loadVar t ⟨b, off, none⟩).run P w = .ok u w ∧ Rel (envOf G H loc ver w) s u := by
          intro s hs
          obtain ⟨u, s', h6, h7, h8⟩ := takeSV_sound (P := P) (E := envOf G H loc ver w) (base := 0) (b := b) hs ha hz h5 (fun j v hj => by simp [envOf, World.cell?, h4', hj])
          subst h7
          refine ⟨u, ?_, h8⟩
          have h6' : (Instr.loadAt t (.pointer (some ⟨b, 0 + off, none⟩))).run P w = .ok u w := h6
          simpa [Instr.loadAt, Instr.sureAddr] using h6'
        have fin : ∀ s, takeSV ag off sz cs (fun x => x = s) → vs = s :: vs' → ∃ us : List Value, ((ResultVar.cell c t :: r).mapM (getRes a)).run P w = .ok us w ∧ RelL (envOf G H loc ver w) vs us := by
          intro s hs e
          subst e
          obtain ⟨u, h6, h7⟩ := key s hs
          refine ⟨u :: us, ?_, .cons _ _ _ _ h7 h2⟩
          rw [List.mapM_cons]
          simp only [getRes, Sem.run_bind, hv, asAddr, Sem.run_pure, Result.andThen_ok, h6, h1]
        cases ag with
        | true =>
          simp only at h
          cases hb2 : Nat.ble (off + sz) cs.length with
          | true =>
            rw [hb2] at h
            simp only [cond_true] at h
            cases h
            exact fin _ (by simp [takeSV, hb2, force_eq]) rfl
          | false => rw [hb2] at h; cases h
        | false =>
          simp only at h
          cases hb2 : Nat.blt off cs.length with
          | true =>
            rw [hb2] at h
            simp only [cond_true] at h
            cases h
            exact fin _ (by simp [takeSV, hb2, hnf_eq]) rfl
          | false => rw [hb2] at h; cases h
      | _ => rw [ho] at h; cases h
    · cases h
theorem retSV_rel {E : Env} {vs : List SV} {us : List Value} (h : RelL E vs us) : Rel E (retSV vs) (if h : (us.toArray).size = 1 then us.toArray[0] else .tuple us.toArray) := by
  cases h with
  | nil => exact .tup _ _ .nil
  | cons s v l us h hl =>
    cases hl with
    | nil => exact h
    | cons s' v' l' us' h' hl' =>
      have : ¬ ((v :: v' :: us').toArray.size = 1) := by simp
      rw [dif_neg this]
      exact .tup _ _ (.cons _ _ _ _ h (.cons _ _ _ _ h' hl'))
theorem results_sound (hI : Inv G H loc ver w) {l : List (Nat × SV)} {a : Act} (hT : TRel (envOf G H loc ver w) N l a) {fn : Func} {vs : List SV} (h : retOf P l H fn.results.toList = some vs) :
    ∃ v, (results fn a.tmps).run P w = .ok v w ∧ Rel (envOf G H loc ver w) (retSV vs) v := by
  obtain ⟨us, h1, h2⟩ := retOf_sound (P := P) hI hT h
  refine ⟨_, ?_, retSV_rel h2⟩
  have hm : (fn.results.mapM (getRes a)).run P w = .ok us.toArray w := by
    rw [Array.mapM_eq_mapM_toList]
    simp only [Sem.run_map, h1, Result.andThen_ok]
  have e : results fn a.tmps = (do
      let vs ← fn.results.mapM (getRes a)
      pure (if h : vs.size = 1 then vs[0] else .tuple vs)) := by
    unfold results
    congr 1
  rw [e, Sem.run_bind, hm]
  rfl

theorem Reads.flat {w : World} {ok ok' : Nat → Prop} {t : Ty} (ht : t.flat = true) {x : t.T} {cs : List Value} (h : Reads w ok t x cs) : Reads w ok' t x cs := by
  induction t generalizing cs with
  | int k => exact h
  | bool => exact h
  | str => exact h
  | slice t _ => cases ht
  | pair a b iha ihb =>
    simp only [Ty.flat, Bool.and_eq_true] at ht
    obtain ⟨c1, c2, e, h1, h2⟩ := h
    exact ⟨c1, c2, e, iha ht.1 h1, ihb ht.2 h2⟩
theorem viewN_rel (hG : ∀ b, ¬ G.mine b) (hI : Inv G H loc ver w) {s : SV} {v : Value} (h : Rel (envOf G H loc ver w) s v) : Rel (env0 w fun b => G.w0.heap.size ≤ b ∧ b < w.heap.size) (viewN H s) v := by
  cases h with
  | ref nm k v hn h0 hk hv =>
    simp only [viewN]
    cases ho : hget H nm with
    | vec j t xs e =>
      simp only
      cases hb : (Nat.beq j k && t.flat) with
      | false => exact .any v
      | true =>
        obtain ⟨h1, h2⟩ := and2 hb
        obtain rfl := beq_iff.1 h1
        have hn' := hget_some ho (by simp)
        have hO := hI.objs nm _ hn'
        have := hv hO.1.symm
        subst this
        obtain ⟨_, _, hlen, hmax, vs, hown, hel⟩ := hO
        refine .seq t xs _ ?_
        rcases own_cases hown with ⟨e1, e2, e3, e4⟩ | ⟨g, cur, e1, e2, e3, e4, e5, e6, e7⟩
        · exact ⟨none, 0, 0, by simp [Core.head, envOf, e1, e2, e3], by omega, Nat.le_refl _, Nat.zero_le _, fun h => absurd h (Nat.lt_irrefl _)⟩
        · have hgg : Owned H loc g := ⟨nm, _, hn', by simp [Owns, e1]⟩
          have hg1 : G.w0.heap.size ≤ g := by
            rcases hI.own g hgg with h | h
            · exact (hG g h).elim
            · exact h
          have hg2 : g < w.heap.size := (Array.getElem?_eq_some_iff.1 e3).1
          refine ⟨some ⟨g, 0, none⟩, (loc nm).len, (loc nm).cap, by simp [Core.head, envOf, e1], hlen, e4, hmax, fun h0 => ⟨g, 0, rfl, ⟨hg1, hg2⟩, fun i hi => ⟨_, (hel i hi).length, ?_, (hel i hi).flat h2⟩⟩⟩
          intro j v hj
          rw [List.getElem?_take] at hj
          split at hj
          · rw [List.getElem?_drop, ← e7, List.getElem?_take] at hj
            split at hj
            · have e3' : w.heap[g]? = some (.cells cur _ (0, 0)) := e3
              simp only [env0, World.cell?, e3']
              simpa using hj
            · cases hj
          · cases hj
    | vv j s t xss pd eo ei =>
      cases pd with
      | some p => exact .any v
      | none =>
      cases hb : Nat.beq j k with
      | false => simp only [hb, cond_false]; exact .any v
      | true =>
        simp only [hb, cond_true]
        obtain rfl := beq_iff.1 hb
        have hn' := hget_some ho (by simp)
        have hO := hI.objs nm _ hn'
        have := hv hO.1.symm
        subst this
        obtain ⟨_, _, _, hlen, hmax, ⟨vs, hown, hel⟩, hal, hrows⟩ := hO
        have hge : ∀ b, Owns (loc nm) (.vv j s t xss none eo ei) b → G.w0.heap.size ≤ b := fun b hb => by
          rcases hI.own b ⟨nm, _, hn', hb⟩ with h | h
          · exact (hG b h).elim
          · exact h
        refine .seq (.slice t) xss _ ?_
        rcases own_cases hown with ⟨e1, e2, e3, e4⟩ | ⟨g, cur, e1, e2, e3, e4, e5, e6, e7⟩
        · exact ⟨none, 0, 0, by simp [Core.head, envOf, e1, e2, e3], by omega, Nat.le_refl _, Nat.zero_le _, fun h => absurd h (Nat.lt_irrefl _)⟩
        · have hg1 : G.w0.heap.size ≤ g := hge g (.inl (by simp [e1]))
          have hg2 : g < w.heap.size := (Array.getElem?_eq_some_iff.1 e3).1
          refine ⟨some ⟨g, 0, none⟩, (loc nm).len, (loc nm).cap, by simp [Core.head, envOf, e1], hlen, e4, hmax, fun h0 => ⟨g, 0, rfl, ⟨hg1, hg2⟩, fun i hi => ⟨[(loc nm).sub.rows i], rfl, ?_, ?_⟩⟩⟩
          · intro q v hq
            have hq0 : q = 0 := by
              have := (List.getElem?_eq_some_iff.1 hq).1
              simpa using this
            subst hq0
            have h1 := hel i hi
            rw [← e7, List.getElem?_take] at h1
            split at h1
            · have e3' : w.heap[g]? = some (.cells cur _ (0, 0)) := e3
              simp only [env0, World.cell?, e3']
              simp only [List.getElem?_cons_zero, Option.some.injEq] at hq
              subst hq
              simpa [Ty.size] using h1
            · cases h1
          · have hi' : i < xss.length := by rw [← hlen]; exact hi
            obtain ⟨rs, r1, r2, r3⟩ := hrows.row i hi' (fun _ _ hp => by cases hp)
            have hsh := hrows.short i hi'
            show Reads w _ (.slice t) (xss.getD i []) _
            rcases r1.2 with ⟨f1, f2⟩ | ⟨g', cap, cur', f1, _, f3, f4, f5, f6, f7⟩
            · have hl0 : (xss.getD i []).length = 0 := f2
              exact ⟨none, 0, 0, by rw [f1], hl0.symm, Nat.le_refl _, Nat.zero_le _, fun h => absurd h (Nat.lt_irrefl _)⟩
            · have hgo : (loc nm).al g' := r2 g' (by rw [f1]; rfl)
              have hg1' : G.w0.heap.size ≤ g' := hge g' (.inr hgo)
              have f3 : w.heap[g']? = some (.cells cur' ei (0, 0)) := f3
              have hg2' : g' < w.heap.size := (Array.getElem?_eq_some_iff.1 f3).1
              refine ⟨some ⟨g', 0, none⟩, (xss.getD i []).length, cap, by rw [f1], rfl, f4, hsh, fun h0 => ⟨g', 0, rfl, ⟨hg1', hg2'⟩, fun m hm => ⟨_, (r3 m hm).length, ?_, (r3 m hm).flat hrows.flat⟩⟩⟩
              intro q v hq
              rw [List.getElem?_take] at hq
              split at hq
              · rw [List.getElem?_drop, ← f7, List.getElem?_take] at hq
                split at hq
                · simp only [env0, World.cell?, f3]
                  simpa using hq
                · cases hq
              · cases hq
    | _ => exact .any v
  | val _ h => exact .val v h
  | bl p d => exact .bl p d
  | str s h => exact .str s h
  | _ => exact .any _
theorem viewNs_rel (hG : ∀ b, ¬ G.mine b) (hI : Inv G H loc ver w) : ∀ {l : List SV} {vs : List Value}, RelL (envOf G H loc ver w) l vs → RelL (env0 w fun b => G.w0.heap.size ≤ b ∧ b < w.heap.size) (l.map (viewN H)) vs
  | _, _, .nil => .nil
  | _, _, .cons _ _ _ _ h hl => .cons _ _ _ _ (viewN_rel hG hI h) (viewNs_rel hG hI hl)
theorem viewNT_rel (hG : ∀ b, ¬ G.mine b) (hI : Inv G H loc ver w) : ∀ {l : List SV} {vs : List Value}, RelL (envOf G H loc ver w) l vs → RelL (env0 w fun b => G.w0.heap.size ≤ b ∧ b < w.heap.size) (l.map fun s => match s with
      | .agg l => .agg (l.map (viewN H))
      | s => viewN H s) vs
  | _, _, .nil => .nil
  | _, _, .cons s _ _ _ h hl => by
    refine .cons _ _ _ _ ?_ (viewNT_rel hG hI hl)
    cases s with
    | agg l => cases h with
      | agg _ vs hl => exact .agg _ _ (viewNs_rel hG hI hl)
    | _ => exact viewN_rel hG hI h
theorem viewND_rel (hG : ∀ b, ¬ G.mine b) (hI : Inv G H loc ver w) {s : SV} {v : Value} (h : Rel (envOf G H loc ver w) s v) : Rel (env0 w fun b => G.w0.heap.size ≤ b ∧ b < w.heap.size) (viewND H s) v := by
  cases s with
  | agg l => cases h with
    | agg _ vs hl => exact .agg _ _ (viewNs_rel hG hI hl)
  | tup l => cases h with
    | tup _ vs hl => exact .tup _ _ (viewNT_rel hG hI hl)
  | _ => exact viewN_rel hG hI h
end

section
variable {P : Program}
/-- The marks are come to, one behind the other. -/
theorem leave_marks {G : Ctx} {fn : Func} {tmps : Array Value} {R : Ending → World → Prop} {H : List HO} {loc : Nat → Loc} {ver : Nat → Nat} : ∀ (Ds : List Nat) {w : World}, Inv G H loc ver w → Ds.Nodup →
    (∀ D ∈ Ds, G.w0.heap.size ≤ D ∧ G.itr.n0 ≤ D ∧ ¬ aliN H loc D ∧ w.heap[D]? = some (.deferred (some []))) →
    (∀ w', Inv G H loc ver w' → (∀ s v, Rel (envOf G H loc ver w) s v → Rel (envOf G H loc ver w') s v) → ∃ v, (results fn tmps).run P w' = .ok v w' ∧ R (.returned v) w') → LeavesInM Fence.wide 0 P fn tmps R (Ds.map markOf) .returning w
  | [], w, hI, _, _, hR => by
    obtain ⟨v, h1, h2⟩ := hR w hI fun _ _ h => h
    exact ⟨v, h1, h2⟩
  | D :: Ds, w, hI, hnd, hD, hR => by
    obtain ⟨h1, h2, h3, h4⟩ := hD D (List.mem_cons_self ..)
    refine ⟨by simp, .inl ⟨D, _, rfl, run_takeDeferred h4, ?_⟩⟩
    have hnd' := List.nodup_cons.1 hnd
    have hbk := hI.book (o := .deferred none) h4 h1 h2 h3
    refine leave_marks Ds hbk.1 hnd'.2 (fun D' hD' => ?_) fun w' h5 h6 => hR w' h5 fun s v h => h6 s v (hbk.2 s v h)
    obtain ⟨k1, k2, k3, k4⟩ := hD D' (List.mem_cons_of_mem _ hD')
    exact ⟨k1, k2, k3, (World.putObj_heap_other (fun e => hnd'.1 (by rw [← e]; exact hD'))).trans k4⟩
/-- What a state at a function's end hands back. -/
theorem finV_sound {ok : Nat → Prop} {w0 : World} {hok : ∀ b, ok b → b < w0.heap.size} {H : List HO} {loc : Nat → Loc} {ver : Nat → Nat} {w : World} {N : Nat} {l : List (Nat × SV)} {a : Act} {fn : Func} {fresh : Bool} {r : SV}
    (hI : Inv (ctx0 w0 ok hok) H loc ver w) (hT : TRel (envOf (ctx0 w0 ok hok) H loc ver w) N l a) (hb : bare r = true) (h : finV P fresh fn.results.toList r l H) :
    ∃ v, (results fn a.tmps).run P w = .ok v w ∧ Below w0.heap.size w0 w ∧ Rel (env0 w fun b => (fresh = false ∧ ok b) ∨ (w0.heap.size ≤ b ∧ b < w.heap.size)) r v := by
  have hbel : Below w0.heap.size w0 w := ⟨hI.os, hI.tape, hI.output, hI.size, fun b hb => hI.frame b hb fun h => h⟩
  unfold finV at h
  split at h
  case h_2 => exact h.elim
  rename_i vs hv
  obtain ⟨v, hr, hrel⟩ := results_sound (P := P) hI hT hv
  refine ⟨v, hr, hbel, ?_⟩
  cases fresh with
  | true =>
    simp only [cond_true] at h
    have h1 := ent_sound h (viewND_rel (fun _ h => h) hI hrel)
    exact Rel.bare (E := env0 w fun b => w0.heap.size ≤ b ∧ b < w.heap.size) (E' := env0 w fun b => (true = false ∧ ok b) ∨ (w0.heap.size ≤ b ∧ b < w.heap.size)) (fun _ _ _ h => h) (fun b hb => Or.inr hb) h1 hb
  | false =>
    simp only [cond_false, force_eq] at h
    obtain ⟨hI1, hx1⟩ := freezeL_sound vs hI
    have h1 := viewD_rel (H := freezeL H vs) (lend := false) (Ext.refl _) (fun _ _ _ h => view_ptr hI1 h) (fun nm k v h => view_ref_fro hI1 h) (hrel.ext hx1)
    have h2 := ent_sound h h1
    refine Rel.bare (E := envOf _ (freezeL H vs) loc ver w) (E' := env0 w _) (fun _ _ _ h => h) (fun b hb => ?_) h2 hb
    rcases hb.1 with h3 | h3 | h3
    · exact .inl ⟨rfl, h3⟩
    · exact h3.elim
    · exact .inr ⟨h3, hb.2.1⟩
/-- **FROM THE BODY TO THE CONTRACT.** -/
theorem tri_of_body {Γ : List Con} (hΓ : ∀ c ∈ Γ, ConOK P c) {A : Anns} {fresh : Bool} {f : FuncId} {fn : Func} (hf : P.funcs[f]? = some fn) {args : List SV} {r : SV} (hn : args.length ≤ fn.ntmps) (hb : bare r = true) (h : body P Γ A fresh fn args r) : Tri P fresh f args r := by
  intro ok w vs hok hr
  unfold body at h
  cases hc : fn.body with
  | none => rw [hc] at h; exact h.elim
  | some c =>
    rw [hc] at h
    refine (callsIn_wide (n := 0)).1 (callsIn_of_wp_marks hf hc trivial ?_)
    have hI := start_inv ok hok
    have hr' : RelL (envOf (ctx0 w ok hok) [] (fun _ => mkL none 0 0) (fun _ => 0) w) args vs := by
      refine RelL.move (E := env0 w ok) (E' := envOf (ctx0 w ok hok) [] (fun _ => mkL none 0 0) (fun _ => 0) w) (p := fun m => Nat.blt m 0) (fun nm hp _ => by simp at hp) (fun nm hp => by simp at hp) (fun h => by cases h) (fun _ _ _ h => h) (fun b hb => ⟨.inl hb, hok b hb, fun ⟨nm, o, h, _⟩ => by simp at h⟩) hr hr.under
    have hT := start_rel (N := fn.ntmps) hr' hn
    have hY : YOK P (ctx0 w ok hok).itr := fun k M W us hk => by cases hk
    refine wpIn_mono (exec_sound hY hΓ c 0 (F := Fence.wide) (n := 0) ⟨none, rfl⟩ hI hT (fun l hl => by cases hl) h) ?_
    rintro e a' w' ⟨l', H', loc', ver', h1, h2, h3, h4, h5, Ds, h6, h7, h8⟩
    have hend : ∀ {R : Ending → World → Prop}, (∀ w2, Inv (ctx0 w ok hok) H' loc' ver' w2 → TRel (envOf (ctx0 w ok hok) H' loc' ver' w2) fn.ntmps l' a' → ∃ v, (results fn a'.tmps).run P w2 = .ok v w2 ∧ R (.returned v) w2) → LeavesInM Fence.wide 0 P fn a'.tmps R a'.defers .returning w' := by
      intro R hR
      rw [h6, List.append_nil]
      exact leave_marks Ds h2 h7 (fun D hD => ⟨(h8 D hD).1, Nat.zero_le _, (h8 D hD).2.1, (h8 D hD).2.2⟩) fun w2 h9 h10 => hR w2 h9 ⟨h3.size, fun t => h10 _ _ (h3.rel t)⟩
    cases e with
    | normal =>
      refine hend fun w2 h9 h10 => ?_
      obtain ⟨v, k7, k8, k9⟩ := finV_sound h9 h10 hb h1
      exact ⟨v, k7, v, rfl, k8, k9⟩
    | ret =>
      refine hend fun w2 h9 h10 => ?_
      obtain ⟨v, k7, k8, k9⟩ := finV_sound h9 h10 hb h1
      exact ⟨v, k7, v, rfl, k8, k9⟩
    | _ => exact h1.elim
/-- **FROM THE BODY TO THE CONTRACT, OF A FUNCTION THAT TURNS A VECTOR OF ITS CALLER'S.** -/
theorem ltri_of_body {Γ : List Con} (hΓ : ∀ c ∈ Γ, ConOK P c) {A : Anns} {f : FuncId} {fn : Func} (hf : P.funcs[f]? = some fn) {pos : Nat} {same : Bool} {args : List SV} {t : Ty} {xs : List t.T} {e : TypeId} {r : SV} {ys : List t.T} (hn : args.length ≤ fn.ntmps) (hfl : t.flat = true)
    (h : bodyL P Γ A fn pos same args t xs e r ys) : LTri P f pos same args t xs e r ys := by
  intro ok w vs L hok hblk hrow hr hpos
  unfold bodyL at h
  cases hc : fn.body with
  | none => rw [hc] at h; exact h.elim
  | some c =>
    rw [hc] at h
    refine (callsIn_wide (n := 0)).1 (callsIn_of_wp_marks hf hc trivial ?_)
    obtain ⟨G, hG⟩ : ∃ G : Ctx, G = ⟨w, ok, fun b => L.blk.map (·.1) = some b, fun b h1 h2 => (hok b h1).2 h2, fun b hb => (hok b hb).1, itr0⟩ := ⟨_, rfl⟩
    obtain ⟨r1, r2, rs, r3, r4⟩ := hrow
    have hown : ∀ b, Owned [HO.vec 1 t xs e] (fun _ => L) b → L.blk.map (·.1) = some b := by
      rintro b ⟨nm, o, h1, h2⟩
      cases nm with
      | zero => simp at h1; subst h1; exact h2
      | succ k => simp at h1
    have hokn : ∀ b, ok b → okN G [HO.vec 1 t xs e] (fun _ => L) w b := fun b hb => ⟨.inl (by rw [hG]; exact hb), (hok b hb).1, fun ho => (hok b hb).2 (hown b ho)⟩
    have hI : Inv G [HO.vec 1 t xs e] (fun _ => L) (fun _ => 1) w := by
      refine ⟨by rw [hG]; exact Nat.le_refl _, by rw [hG], by rw [hG], by rw [hG], fun b _ _ => by rw [hG], fun nm o ho => ?_, fun b hb => .inl (by rw [hG]; exact hown b hb), fun nm nm' o o' b h1 h2 _ _ => ?_⟩
      · cases nm with
        | zero =>
          simp at ho; subst ho
          exact ⟨rfl, Nat.one_pos, r1, r2, rs, r3, fun i hi => Reads.flatJ hfl (r4 i hi)⟩
        | succ k => simp at ho
      · cases nm with
        | zero => cases nm' with
          | zero => rfl
          | succ k => simp at h2
        | succ k => simp at h1
    have hr' : RelL (envOf G [HO.vec 1 t xs e] (fun _ => L) (fun _ => 1) w) args vs :=
      RelL.move (E := env0 w ok) (E' := envOf G [HO.vec 1 t xs e] (fun _ => L) (fun _ => 1) w) (p := fun m => Nat.blt m 0) (fun nm hp _ => by simp at hp) (fun nm hp => by simp at hp) (fun h => by cases h) (fun _ _ _ h => h) hokn hr hr.under
    have hrs : RelL (envOf G [HO.vec 1 t xs e] (fun _ => L) (fun _ => 1) w) (args.set pos (.ref 0 1)) vs := by
      have hh : Rel (envOf G [HO.vec 1 t xs e] (fun _ => L) (fun _ => 1) w) (.ref 0 1) L.head := .ref 0 1 _ (by rfl) Nat.one_pos (Nat.le_refl _) fun _ => rfl
      have := hr'.set pos hh
      obtain ⟨hlt, he⟩ := List.getElem?_eq_some_iff.1 hpos
      rwa [show vs.set pos L.head = vs from by rw [← he]; exact List.set_getElem_self hlt] at this
    have hT := start_rel (N := fn.ntmps) hrs (by simpa using hn)
    have hY : YOK P G.itr := by rw [hG]; exact fun k M W us hk => by cases hk
    have hRo : RoundOK Fence.wide (envOf G [HO.vec 1 t xs e] (fun _ => L) (fun _ => 1) w) := fun l hl => by cases hl
    refine wpIn_mono (exec_sound hY hΓ c 0 (F := Fence.wide) (n := 0) ⟨none, rfl⟩ hI hT hRo h) ?_
    rintro en a' w' ⟨l', H', loc', ver', h1, h2, h3, h4, h5, Ds, h6, h7, h8⟩
    have h0s : G.w0.heap.size = w.heap.size := by rw [hG]
    have h0n : G.itr.n0 = 0 := by rw [hG]; rfl
    have hend : finL.endL P A c same fn.results.toList r t ys e l' H' → LeavesInM Fence.wide 0 P fn a'.tmps (fun en w' => ∃ v L', en = .returned v ∧ (w'.os = w.os ∧ w'.tape = w.tape ∧ w'.output = w.output ∧ w.heap.size ≤ w'.heap.size ∧ ∀ b, b < w.heap.size → L.blk.map (·.1) ≠ some b → w'.heap[b]? = w.heap[b]?) ∧
      (same = true → L' = L) ∧ (∀ b, L'.blk.map (·.1) = some b → L.blk.map (·.1) = some b ∨ w.heap.size ≤ b) ∧ RowS w' L' t ys e ∧ ((r = .ref 0 1 ∧ v = L'.head) ∨ (plain r = true ∧ Rel (env0 w' fun _ => False) r v))) a'.defers .returning w' := by
      intro he
      rw [h6, List.append_nil]
      refine leave_marks Ds h2 h7 (fun D hD => ⟨by rw [h0s]; exact (h8 D hD).1, by rw [h0n]; exact Nat.zero_le _, (h8 D hD).2.1, (h8 D hD).2.2⟩) fun w2 h9 h10 => ?_
      unfold finL.endL at he
      split at he
      case h_2 => exact he.elim
      rename_i us k t' zs e' hu ho
      obtain ⟨q1, rfl, q2, q3⟩ := he
      have hT2 : TRel (envOf G H' loc' ver' w2) fn.ntmps l' a' := ⟨h3.size, fun t => h10 _ _ (h3.rel t)⟩
      obtain ⟨v, k7, k8⟩ := results_sound (P := P) h9 hT2 hu
      have hq := seqEq_spec q2
      cases hq
      have hn0 := hget_some ho (by simp)
      obtain ⟨o1, o2, o3, o4, rs', o5, o6⟩ := h9.objs 0 _ hn0
      have o1 : ver' 0 = k := o1
      refine ⟨v, k7, v, ⟨(loc' 0).toCore, L.al, L.sub⟩, rfl, ⟨?_, ?_, ?_, ?_, ?_⟩, ?_, ?_, ⟨o3, o4, rs', o5, fun i hi => Reads.flatJ hfl (o6 i hi)⟩, ?_⟩
      · have := h9.os; rw [hG] at this; exact this
      · have := h9.tape; rw [hG] at this; exact this
      · have := h9.output; rw [hG] at this; exact this
      · have := h9.size; rw [hG] at this; exact this
      · intro b hb hne
        have := h9.frame b (by rw [h0s]; exact hb) (by rw [hG]; exact hne)
        rw [hG] at this; exact this
      · intro hs
        rw [hs] at q1
        simp only [cond_true, Bool.and_eq_true, beq_iff, Bool.not_eq_true'] at q1
        rcases h4.ver 0 (by rfl) q1.2 with ⟨_, e2⟩ | ⟨_, e2⟩
        · have e2 : (loc' 0).toCore = L.toCore := e2
          rw [e2]
        · have e2 : 1 < ver' 0 := e2
          omega
      · intro b hb
        rcases h9.own b ⟨0, _, hn0, hb⟩ with h | h
        · rw [hG] at h; exact .inl h
        · rw [hG] at h; exact .inr h
      · split at q3
        · split at q3
          · rename_i k' hk
            subst q3
            rw [hk] at k8
            refine .inl ⟨rfl, ?_⟩
            generalize v = u at k8
            cases k8 with
            | ref _ _ _ _ _ _ hh => exact hh o1.symm
          · exact q3.elim
        · obtain ⟨q4, q5⟩ := q3
          exact .inr ⟨q4, (ent_sound q5 k8).plain q4⟩
    cases en with
    | normal => exact hend h1
    | ret => exact hend h1
    | _ => exact h1.elim
theorem RelL.mapTo {E E' : Env} {g : SV → SV} (hg : ∀ s x, Rel E s x → Rel E' (g s) x) : ∀ {l : List SV} {vs : List Value}, RelL E l vs → RelL E' (l.map g) vs
  | _, _, .nil => .nil
  | _, _, .cons _ _ _ _ h hl => .cons _ _ _ _ (hg _ _ h) (RelL.mapTo hg hl)
theorem retSV_map {E E' : Env} {g : SV → SV} (hg : ∀ s x, Rel E s x → Rel E' (g s) x) {l : List SV} {v : Value} (h : Rel E (retSV l) v) : Rel E' (retSV (l.map g)) v := by
  match l with
  | [] => cases h with
    | tup _ vs hl => exact .tup _ _ (by simpa using RelL.mapTo hg hl)
  | [a] => exact hg _ _ h
  | a :: b :: l => cases h with
    | tup _ vs hl => exact .tup _ _ (by simpa using RelL.mapTo hg hl)
theorem renb_rel {E : Env} {nm k : Nat} {w : World} (hv : E.ver nm = k) {s : SV} {x : Value} (h : Rel E s x) : Rel (envO w (E.loc nm)) (renb nm k s) x := by
  cases s with
  | ref n j =>
    simp only [renb]
    cases hb : (Nat.beq n nm && Nat.beq j k) with
    | false => exact .any x
    | true =>
      simp only [Bool.and_eq_true, beq_iff] at hb
      obtain ⟨rfl, rfl⟩ := hb
      cases h with
      | ref _ _ _ _ _ _ hh =>
        have := hh hv.symm
        exact .ref 0 1 x (by simp [envO]) Nat.one_pos (Nat.le_refl _) fun _ => this
  | _ =>
    simp only [renb]
    first
    | (split <;> first | exact .any x | exact h.plain (by assumption))
    | (cases hp : plain _ with
      | true => exact h.plain hp
      | false => exact .any x)
/-- **FROM THE BODY TO THE CONTRACT, OF A FUNCTION THAT HANDS BACK A NEW VECTOR.** -/
theorem otri_of_body {Γ : List Con} (hΓ : ∀ c ∈ Γ, ConOK P c) {A : Anns} {f : FuncId} {fn : Func} (hf : P.funcs[f]? = some fn) {args : List SV} {r : SV} {t : Ty} {ys : List t.T} {e : TypeId} (hn : args.length ≤ fn.ntmps) (hfl : t.flat = true)
    (h : bodyO P Γ A fn args r t ys e) : OTri P f args r t ys e := by
  intro ok w vs hok hr
  unfold bodyO at h
  cases hc : fn.body with
  | none => rw [hc] at h; exact h.elim
  | some c =>
    rw [hc] at h
    refine (callsIn_wide (n := 0)).1 (callsIn_of_wp_marks hf hc trivial ?_)
    have hI := start_inv ok hok
    have hr' : RelL (envOf (ctx0 w ok hok) [] (fun _ => mkL none 0 0) (fun _ => 0) w) args vs := by
      refine RelL.move (E := env0 w ok) (E' := envOf (ctx0 w ok hok) [] (fun _ => mkL none 0 0) (fun _ => 0) w) (p := fun m => Nat.blt m 0) (fun nm hp _ => by simp at hp) (fun nm hp => by simp at hp) (fun h => by cases h) (fun _ _ _ h => h) (fun b hb => ⟨.inl hb, hok b hb, fun ⟨nm, o, h, _⟩ => by simp at h⟩) hr hr.under
    have hT := start_rel (N := fn.ntmps) hr' hn
    have hY : YOK P (ctx0 w ok hok).itr := fun k M W us hk => by cases hk
    refine wpIn_mono (exec_sound hY hΓ c 0 (F := Fence.wide) (n := 0) ⟨none, rfl⟩ hI hT (fun l hl => by cases hl) h) ?_
    rintro en a' w' ⟨l', H', loc', ver', h1, h2, h3, h4, h5, Ds, h6, h7, h8⟩
    have hend : finO.endO P fn.results.toList r t ys e l' H' → LeavesInM Fence.wide 0 P fn a'.tmps (fun en w' => ∃ v L', en = .returned v ∧ Below w.heap.size w w' ∧ (∀ b, L'.blk.map (·.1) = some b → w.heap.size ≤ b) ∧ RowS w' L' t ys e ∧ Rel (envO w' L') r v) a'.defers .returning w' := by
      intro he
      rw [h6, List.append_nil]
      refine leave_marks Ds h2 h7 (fun D hD => ⟨(h8 D hD).1, Nat.zero_le _, (h8 D hD).2.1, (h8 D hD).2.2⟩) fun w2 h9 h10 => ?_
      unfold finO.endO at he
      split at he
      case h_2 => exact he.elim
      rename_i us hu
      split at he
      case h_2 =>
        split at he
        case h_2 => exact he.elim
        obtain ⟨hr0, hy0⟩ := he
        have hT2 : TRel (envOf (ctx0 w ok hok) H' loc' ver' w2) fn.ntmps l' a' := ⟨h3.size, fun t => h10 _ _ (h3.rel t)⟩
        obtain ⟨v, k7, k8⟩ := results_sound (P := P) h9 hT2 hu
        have hv : v = .slice none 0 0 := by
          have k8 : Rel _ (.val (.slice none 0 0)) v := k8
          cases k8; rfl
        subst hr0
        refine ⟨v, k7, v, mkL none 0 0, rfl, ⟨h9.os, h9.tape, h9.output, h9.size, fun b hb => h9.frame b hb fun h => h⟩, fun b hb => (by simp at hb), ⟨hy0.symm, Nat.zero_le _, [], ⟨by simp, .inl ⟨rfl, rfl⟩⟩, fun i hi => absurd hi (Nat.not_lt_zero _)⟩, ?_⟩
        exact .ref 0 1 v (by simp [envO]) Nat.one_pos (Nat.le_refl _) fun _ => by rw [hv]; rfl
      rename_i nm k hfr
      split at he
      case h_2 => exact he.elim
      rename_i k' t' zs e' ho
      obtain ⟨rfl, rfl, q2, q3⟩ := he
      have hT2 : TRel (envOf (ctx0 w ok hok) H' loc' ver' w2) fn.ntmps l' a' := ⟨h3.size, fun t => h10 _ _ (h3.rel t)⟩
      obtain ⟨v, k7, k8⟩ := results_sound (P := P) h9 hT2 hu
      have hq := seqEq_spec q2
      cases hq
      have hn0 := hget_some ho (by simp)
      obtain ⟨o1, o2, o3, o4, rs', o5, o6⟩ := h9.objs nm _ hn0
      refine ⟨v, k7, v, loc' nm, rfl, ⟨h9.os, h9.tape, h9.output, h9.size, fun b hb => h9.frame b hb fun h => h⟩, ?_, ⟨o3, o4, rs', o5, fun i hi => Reads.flatJ hfl (o6 i hi)⟩, ?_⟩
      · intro b hb
        rcases h9.own b ⟨nm, _, hn0, hb⟩ with h | h
        · exact h.elim
        · exact h
      · exact ent_sound q3 (retSV_map (fun s x hs => renb_rel (E := envOf (ctx0 w ok hok) H' loc' ver' w2) o1 hs) k8)
    cases en with
    | normal => exact hend h1
    | ret => exact hend h1
    | _ => exact h1.elim
/-- **FROM THE BODY TO THE CONTRACT, OF AN ITERATOR.** -/
theorem triI_of_body {Γ : List Con} (hΓ : ∀ c ∈ Γ, ConOK P c) {A : Anns} {f : FuncId} {fn : Func} (hf : P.funcs[f]? = some fn) {args : List SV} {n : Nat} {items : Nat → List SV} (hn : args.length + 1 ≤ fn.ntmps) (h : bodyI P Γ A fn args n items) : TriI P f args n items := by
  intro ok w vs l J hok hr hab hy hJ0
  unfold bodyI at h
  cases hc : fn.body with
  | none => rw [hc] at h; exact h.elim
  | some c =>
    rw [hc] at h
    refine (callsIn_wide (n := 0)).1 (callsIn_of_wp_marks hf hc trivial ?_)
    obtain ⟨G, hG⟩ : ∃ G : Ctx, G = ⟨w, ok, fun b => b < w.heap.size ∧ ¬ ok b, fun b h1 h2 => h2.2 h1, hok, ⟨true, l, w.heap.size, ok, n, items, J, hab⟩⟩ := ⟨_, rfl⟩
    have hown : ∀ b, Owned [HO.yst (some 0) n items] (fun _ => (⟨⟨none, 0, 0⟩, fun b => b < w.heap.size ∧ ¬ ok b, sub0⟩ : Loc)) b → b < w.heap.size ∧ ¬ ok b := by
      rintro b ⟨nm, o, h1, h2⟩
      cases nm with
      | zero => simp at h1; subst h1; exact h2
      | succ k => simp at h1
    have hokn : ∀ b, ok b → okN G [HO.yst (some 0) n items] (fun _ => (⟨⟨none, 0, 0⟩, fun b => b < w.heap.size ∧ ¬ ok b, sub0⟩ : Loc)) w b := fun b hb => ⟨.inl (by rw [hG]; exact hb), hok b hb, fun ho => (hown b ho).2 hb⟩
    have hI : Inv G [HO.yst (some 0) n items] (fun _ => (⟨⟨none, 0, 0⟩, fun b => b < w.heap.size ∧ ¬ ok b, sub0⟩ : Loc)) (fun _ => 1) w := by
      refine ⟨by rw [hG]; exact Nat.le_refl _, by rw [hG], by rw [hG], by rw [hG], fun b _ _ => by rw [hG], fun nm o ho => ?_, fun b hb => .inl (by rw [hG]; exact hown b hb), fun nm nm' o o' b h1 h2 _ _ => ?_⟩
      · cases nm with
        | zero =>
          simp at ho; subst ho
          refine ⟨Nat.one_pos, fun b hb => hb.1, by rw [hG]; exact Nat.le_refl _, by rw [hG]; rfl, by rw [hG]; rfl, fun b hb hl => ?_, ?_⟩
          · have hb' : b < w.heap.size := by rw [hG] at hb; exact hb
            have hob : ok b := Classical.byContradiction fun hno => hl ⟨hb', hno⟩
            exact ⟨by rw [hG]; exact hob, hokn b hob⟩
          · rw [hG]
            refine cast (congrArg (fun M => J (some 0) M w) (funext fun b => propext ⟨fun h => h.elim, ?_⟩)) hJ0
            rintro ⟨h8, h9, _⟩
            have h8' : w.heap.size ≤ b := h8
            have h9' : b < w.heap.size := h9
            omega
        | succ k => simp at ho
      · cases nm with
        | zero => cases nm' with
          | zero => rfl
          | succ k => simp at h2
        | succ k => simp at h1
    have hr' : RelL (envOf G [HO.yst (some 0) n items] (fun _ => (⟨⟨none, 0, 0⟩, fun b => b < w.heap.size ∧ ¬ ok b, sub0⟩ : Loc)) (fun _ => 1) w) args vs :=
      RelL.move (E := env0 w ok) (E' := envOf G [HO.yst (some 0) n items] (fun _ => (⟨⟨none, 0, 0⟩, fun b => b < w.heap.size ∧ ¬ ok b, sub0⟩ : Loc)) (fun _ => 1) w) (p := fun m => Nat.blt m 0) (fun nm hp _ => by simp at hp) (fun nm hp => by simp at hp) (fun h => by cases h) (fun _ _ _ h => h) hokn hr hr.under
    have hyl : Rel (envOf G [HO.yst (some 0) n items] (fun _ => (⟨⟨none, 0, 0⟩, fun b => b < w.heap.size ∧ ¬ ok b, sub0⟩ : Loc)) (fun _ => 1) w) (.yld 0) (.func (.yield l) #[] #[]) := by
      have := Rel.yld (E := envOf G [HO.yst (some 0) n items] (fun _ => (⟨⟨none, 0, 0⟩, fun b => b < w.heap.size ∧ ¬ ok b, sub0⟩ : Loc)) (fun _ => 1) w) 0 (by rw [hG]; rfl)
      rw [hG] at this ⊢
      exact this
    have hT := start_rel (N := fn.ntmps) (RelL.cons _ _ _ _ hyl hr') (by simpa using hn)
    have hY : YOK P G.itr := by rw [hG]; exact hy
    have hRo : RoundOK Fence.wide (envOf G [HO.yst (some 0) n items] (fun _ => (⟨⟨none, 0, 0⟩, fun b => b < w.heap.size ∧ ¬ ok b, sub0⟩ : Loc)) (fun _ => 1) w) := fun l hl => by cases hl
    refine wpIn_mono (exec_sound hY hΓ c 0 (F := Fence.wide) (n := 0) ⟨none, rfl⟩ hI hT hRo h) ?_
    rintro e a' w' ⟨l', H', loc', ver', h1, h2, h3, h4, h5, Ds, h6, h7, h8⟩
    have h0s : G.w0.heap.size = w.heap.size := by rw [hG]
    have h0n : G.itr.n0 = w.heap.size := by rw [hG]
    have hend : finI.endI fn.results.toList l' H' → LeavesInM Fence.wide 0 P fn a'.tmps (fun e w' => (∃ v, e = .returned v) ∧ ∃ M, J (some n) M w' ∨ J none M w') a'.defers .returning w' := by
      intro he
      rw [h6, List.append_nil]
      refine leave_marks Ds h2 h7 (fun D hD => ⟨by rw [h0s]; exact (h8 D hD).1, by rw [h0n]; exact (h8 D hD).1, (h8 D hD).2.1, (h8 D hD).2.2⟩) fun w2 h9 h10 => ?_
      unfold finI.endI at he
      have hres : ∀ k, fn.results.toList = [] → k → ∃ v, (results fn a'.tmps).run P w2 = .ok v w2 ∧ k := by
        intro k hrs hk
        obtain ⟨v, h11, _⟩ := results_sound (P := P) (fn := fn) (vs := []) h9 (⟨h3.size, fun t => h10 _ _ (h3.rel t)⟩ : TRel (envOf G H' loc' ver' w2) fn.ntmps l' a') (by rw [hrs]; rfl)
        exact ⟨v, h11, hk⟩
      split at he
      · rename_i k n' it hrs ho
        obtain ⟨v, h11, _⟩ := hres True hrs trivial
        obtain ⟨_, _, _, hn', _, _, hJ⟩ := h9.objs 0 _ (hget_some ho (by simp))
        refine ⟨v, h11, ⟨v, rfl⟩, fun b => w.heap.size ≤ b ∧ b < w2.heap.size ∧ ¬ (loc' 0).al b, .inl ?_⟩
        have e1 : n' = n := by rw [hG] at hn'; exact hn'
        rw [hG] at hJ
        have e2 : k = n := he.trans e1
        rw [e2] at hJ
        exact hJ
      · rename_i n' it hrs ho
        obtain ⟨v, h11, _⟩ := hres True hrs trivial
        obtain ⟨_, _, _, hn', _, _, hJ⟩ := h9.objs 0 _ (hget_some ho (by simp))
        refine ⟨v, h11, ⟨v, rfl⟩, fun b => w.heap.size ≤ b ∧ b < w2.heap.size ∧ ¬ (loc' 0).al b, .inr ?_⟩
        rw [hG] at hJ
        exact hJ
      · exact he.elim
    cases e with
    | normal => exact hend h1
    | ret => exact hend h1
    | _ => exact h1.elim
end
end Go.Eng
