/-
  Part 4: a symbolic executor over the model, contracts of functions and plain laws.
-/
import Derived.Test.YtpmbhgmifiianaaP3
import Derived.RangeFuncLeaves
import Derived.SizedLaws
import Derived.OpenShut
import Derived.DataReads
import Derived.Below
import Derived.Test.YtpmbhgmifiianaaProg
import Derived.Shelf.Abstract
section
set_option linter.unusedVariables false
/-
  **A function's contract out of what the executor leaves to be shown of its body.**
-/
set_option linter.unusedSimpArgs false
set_option linter.unusedVariables false
namespace Go.Eng
open Go.RowKit

section
variable {P : Program} {G : Ctx} {H : List HO} {loc : Nat → Loc} {ver : Nat → Nat} {w : World} {N : Nat}

theorem look_argsL : ∀ (args : List SV) (n t : Nat), look (argsL args n) t = if n ≤ t then args.getD (t - n) .any else .any
  | [], n, t => by simp [argsL, look]
  | x :: r, n, t => by
    simp only [argsL, look]
    by_cases e : n = t
    · subst e; simp [beq_same]
    · rw [beq_ne e]
      simp only [cond_false]
      rw [look_argsL r (n + 1) t]
      by_cases h : n ≤ t
      · rw [if_pos h, if_pos (by omega)]
        obtain ⟨k, rfl⟩ : ∃ k, t = n + 1 + k := ⟨t - (n + 1), by omega⟩
        rw [show n + 1 + k - (n + 1) = k by omega, show n + 1 + k - n = k + 1 by omega]
        rfl
      · rw [if_neg h, if_neg (by omega)]
theorem start_rel {E : Env} {args : List SV} {vs : List Value} (h : RelL E args vs) (hn : args.length ≤ N) : TRel E N (argsL args 0) { tmps := ⟨vs⟩ ++ Array.replicate (N - (⟨vs⟩ : Array Value).size) undef, defers := [] } := by
  have hl := h.length
  refine ⟨by simp; omega, fun t => ?_⟩
  rw [look_argsL, if_pos (Nat.zero_le _), Nat.sub_zero]
  by_cases ht : t < args.length
  · have := h.get t ht
    have e : (⟨vs⟩ ++ Array.replicate (N - (⟨vs⟩ : Array Value).size) undef : Array Value).getD t undef = vs.getD t undef := by
      rw [Array.getD_eq_getD_getElem?, Array.getElem?_append_left (by simp; omega), List.getD_eq_getElem?_getD]
      simp
    rw [e]; exact this
  · have : args.getD t .any = .any := by simp [List.getD_eq_getElem?_getD, List.getElem?_eq_none (Nat.le_of_not_lt ht)]
    rw [this]; exact .any _
def ctx0 (w : World) (ok : Nat → Prop) (hok : ∀ b, ok b → b < w.heap.size) : Ctx := ⟨w, ok, fun _ => False, fun _ _ h => h, hok, itr0⟩
theorem start_inv (ok : Nat → Prop) (hok : ∀ b, ok b → b < w.heap.size) : Inv (ctx0 w ok hok) [] (fun _ => mkL none 0 0) (fun _ => 0) w := by
  refine ⟨Nat.le_refl _, rfl, rfl, rfl, fun _ _ _ => rfl, fun nm o h => by simp at h, fun b hb => ?_, fun nm nm' o o' b h => by simp at h⟩
  obtain ⟨nm, o, h, _⟩ := hb
  simp at h
/-- A block of book-keeping that is the activation's own is turned. -/
theorem Inv.book (hI : Inv G H loc ver w) {D : Nat} {o : Obj} {ds : Option (List Deferred)} (hD : w.heap[D]? = some (.deferred ds)) (h0 : G.w0.heap.size ≤ D) (hn0 : G.itr.n0 ≤ D) (hal : ¬ aliN H loc D) : Inv G H loc ver (w.putObj D o) ∧ ∀ s v, Rel (envOf G H loc ver w) s v → Rel (envOf G H loc ver (w.putObj D o)) s v := by
  have hoth : ∀ b, b ≠ D → (w.putObj D o).heap[b]? = w.heap[b]? := fun b hb => World.putObj_heap_other hb
  have hcell : ∀ (a : Addr) (v : Value), w.cell? a = some v → (w.putObj D o).cell? a = some v := by
    intro a v hv
    by_cases e : a.block = D
    · rw [World.cell?, e, hD] at hv; cases hv
    · exact (World.cell?_of_block (hoth _ e)).trans hv
  have hok : ∀ b, okN G H loc w b → okN G H loc (w.putObj D o) b := fun b hb => ⟨hb.1, by simpa using hb.2.1, hb.2.2⟩
  have hmv : ∀ {l : List SV} {vs : List Value}, RelL (envOf G H loc ver w) l vs → RelL (envOf G H loc ver (w.putObj D o)) l vs := fun h =>
    RelL.move (E := envOf G H loc ver w) (E' := envOf G H loc ver (w.putObj D o)) (p := hasB H) (fun nm _ hn => ⟨hn, .inl ⟨rfl, rfl⟩⟩) (fun _ _ _ _ => .inl rfl) (fun _ => rfl) (fun a v _ hv => hcell a v hv) hok h h.under
  refine ⟨?_, fun s v h => Rel.move (E := envOf G H loc ver w) (E' := envOf G H loc ver (w.putObj D o)) (p := hasB H) (fun nm _ hn => ⟨hn, .inl ⟨rfl, rfl⟩⟩) (fun _ _ _ _ => .inl rfl) (fun _ => rfl) (fun a v _ hv => hcell a v hv) hok h h.under⟩
  have hcs : ∀ {b : Nat} {c : Array Value} {e : TypeId} {f : Nat × Nat}, w.heap[b]? = some (.cells c e f) → (w.putObj D o).heap[b]? = some (.cells c e f) := fun {b c e f} h =>
    (hoth b (fun e' => by subst e'; rw [hD] at h; cases h)).trans h
  refine ⟨by simpa using hI.size, hI.os, hI.tape, hI.output, fun b hb hm => (hoth b (by omega)).trans (hI.frame b hb hm), fun nm x hx => ?_, hI.own, hI.sep⟩
  have hO := hI.objs nm x hx
  cases x with
  | dead => trivial
  | res => trivial
  | fro k t xs => obtain ⟨h1, h2, h3⟩ := hO; exact ⟨h1, h2, h3.mono (fun a v _ hv => hcell a v hv) hok⟩
  | frc l => obtain ⟨h1, b, vs, h2, h3, h4, h5⟩ := hO; exact ⟨h1, b, vs, h2, hok b h3, fun j v hj => hcell _ v (h4 j v hj), hmv h5⟩
  | cells l e => obtain ⟨h1, b, vs, h2, h3, h4⟩ := hO; exact ⟨h1, b, vs, h2, hcs h3, hmv h4⟩
  | vec k t xs e =>
    obtain ⟨h1, h2, h3, h4, vs, h5, h6⟩ := hO
    refine ⟨h1, h2, h3, h4, vs, ⟨h5.1, ?_⟩, fun i hi => (h6 i hi).mono (fun a v _ hv => hcell a v hv) hok⟩
    rcases h5.2 with h7 | ⟨g, cap, cur, h7, h8, h9, h10⟩
    · exact .inl h7
    · exact .inr ⟨g, cap, cur, h7, h8, hcs h9, h10⟩
  | gone => exact ⟨hO.1, fun b hb => by simpa [envOf] using hO.2 b hb⟩
  | map k t m =>
    obtain ⟨h1, h2, h3, b, es, h4, h5, h6⟩ := hO
    exact ⟨h1, h2, h3, b, es, h4, (hoth b (fun e' => by subst e'; have h5 : w.heap[b]? = _ := h5; rw [hD] at h5; cases h5)).trans h5, h6.mono (fun a v _ hv => hcell a v hv) hok⟩
  | vv k s t xss pend eo ei =>
    obtain ⟨h1, h2, h3, h4, h5, ⟨vs, h6, h7⟩, h8, h9⟩ := hO
    have hnD : ∀ b, (b = D) → ∀ {c : Array Value} {e : TypeId}, w.heap[b]? ≠ some (.cells c e (0, 0)) := fun b e' c e h => by subst e'; rw [hD] at h; cases h
    have hkeep : ∀ {base : Nat} {e : TypeId} {size n : Nat} {v : Value} {vs : List Value}, w.ownsR base e size v n vs → (w.putObj D o).ownsR base e size v n vs := fun {base e size n v vs} h => by
      refine ⟨h.1, ?_⟩
      rcases h.2 with h5 | ⟨g, cap, cur, h5, h6, h7, h8⟩
      · exact .inl h5
      · exact .inr ⟨g, cap, cur, h5, h6, hcs h7, h8⟩
    have hrow : ∀ {al : Nat → Prop} {h : Value} {xs : List t.T}, RowAt (envOf G H loc ver w) al t ei h xs → RowAt (envOf G H loc ver (w.putObj D o)) al t ei h xs := fun ⟨vs, q1, q2, q3⟩ => ⟨vs, hkeep q1, q2, fun i hi => (q3 i hi).mono (fun a v _ hv => hcell a v hv) hok⟩
    refine ⟨h1, h2, h3, h4, h5, ⟨vs, hkeep h6, h7⟩, fun b hb => ?_, ⟨h9.flat, fun i hi hp => hrow (h9.row i hi hp), h9.apart, fun j ys hp => by obtain ⟨q1, q2, q3⟩ := h9.grown j ys hp; exact ⟨q1, hrow q2, q3⟩, h9.short⟩⟩
    obtain ⟨q1, q2, c, e, q3⟩ := h8 b hb
    exact ⟨by simpa [envOf] using q1, q2, c, e, hcs q3⟩
  | mit m s l c =>
    obtain ⟨h1, h2, r, bm, h3, h4, h5⟩ := hO
    exact ⟨h1, h2, r, bm, h3, (hoth r (fun e' => by subst e'; have h4 : w.heap[r]? = _ := h4; rw [hD] at h4; cases h4)).trans h4, h5⟩
  | yst st n it =>
    obtain ⟨h1, h2, h3, h4, h5, h6, h7⟩ := hO
    have hnal : ¬ (loc nm).al D := fun h => hal ⟨nm, _, _, _, hx, h⟩
    have hDs := (Array.getElem?_eq_some_iff.1 hD).1
    refine ⟨h1, fun b hb => by simpa [envOf] using h2 b hb, by simpa [envOf] using h3, h4, h5, fun b hb hl => ⟨(h6 b hb hl).1, hok b (h6 b hb hl).2⟩, ?_⟩
    have := G.itr.abides st _ w (w.putObj D o) h7 rfl rfl rfl (by simp) fun b hb hm => hoth b fun e => hm (by subst e; exact ⟨hn0, hDs, hnal⟩)
    refine cast (congrArg (fun M => G.itr.J st M (w.putObj D o)) (funext fun b => propext ⟨?_, ?_⟩)) this
    · rintro (⟨h8, h9, h10⟩ | ⟨h8, h9⟩)
      · exact ⟨h8, by simpa [envOf] using h9, h10⟩
      · exfalso; simp at h9; omega
    · rintro ⟨h8, h9, h10⟩
      exact .inl ⟨h8, by simpa [envOf] using h9, h10⟩

def getRes (a : Act) : ResultVar → Sem Value
  | .tmp t => pure (a.tmps.getD t undef)
  | .cell c t => do loadVar t (← asAddr (a.tmps.getD c undef))
theorem retOf_sound (hI : Inv G H loc ver w) {l : List (Nat × SV)} {a : Act} (hT : TRel (envOf G H loc ver w) N l a) : ∀ {rs : List ResultVar} {vs : List SV}, retOf P l H rs = some vs →
    ∃ us : List Value, (rs.mapM (getRes a)).run P w = .ok us w ∧ RelL (envOf G H loc ver w) vs us
  | [], vs, h => by simp [retOf] at h; subst h; exact ⟨[], by simp [List.mapM_nil], .nil⟩
  | .tmp t :: r, vs, h => by
    simp only [retOf] at h
    split at h
    · rename_i vs' h'
      cases h
      obtain ⟨us, h1, h2⟩ := retOf_sound hI hT h'
      refine ⟨a.tmps.getD t undef :: us, ?_, .cons _ _ _ _ (hT.rel t) h2⟩
      rw [List.mapM_cons]
      simp only [getRes, Sem.run_bind, Sem.run_pure, Result.andThen_ok, h1]
    · cases h
  | .cell c t :: r, vs, h => by
    simp only [retOf] at h
    split at h
    · rename_i nm off ag sz vs' hl ha hz h'
      obtain ⟨us, h1, h2⟩ := retOf_sound hI hT h'
      have hr := hT.rel c
      rw [hl] at hr
      cases ho : hget H nm with
      | cells cs e =>
        rw [ho] at h
        simp only at h
        obtain ⟨b, hb, hv⟩ := live_ptr hI hr (by simp [live, ho])
        obtain ⟨h0, b', ws, h3, h4, h5⟩ := hI.objs nm _ (hget_some ho (by simp))
        rw [hb] at h3; cases h3
        have h4' : w.heap[b]? = some (.cells ⟨ws⟩ e (0, 0)) := h4
        have key : ∀ s, takeSV ag off sz cs (fun x => x = s) → ∃ u, (loadVar t ⟨b, off, none⟩).run P w = .ok u w ∧ Rel (envOf G H loc ver w) s u := by
          intro s hs
          obtain ⟨u, s', h6, h7, h8⟩ := takeSV_sound (P := P) (E := envOf G H loc ver w) (base := 0) (b := b) hs ha hz h5 (fun j v hj => by simp [envOf, World.cell?, h4', hj])
          subst h7
          refine ⟨u, ?_, h8⟩
          have h6' : (Instr.loadAt t (.pointer (some ⟨b, 0 + off, none⟩))).run P w = .ok u w := h6
          simpa [Instr.loadAt, Instr.sureAddr] using h6'
        have fin : ∀ s, takeSV ag off sz cs (fun x => x = s) → vs = s :: vs' → ∃ us : List Value, ((ResultVar.cell c t :: r).mapM (getRes a)).run P w = .ok us w ∧ RelL (envOf G H loc ver w) vs us := by
          intro s hs e
          subst e
          obtain ⟨u, h6, h7⟩ := key s hs
          refine ⟨u :: us, ?_, .cons _ _ _ _ h7 h2⟩
          rw [List.mapM_cons]
          simp only [getRes, Sem.run_bind, hv, asAddr, Sem.run_pure, Result.andThen_ok, h6, h1]
        cases ag with
        | true =>
          simp only at h
          cases hb2 : Nat.ble (off + sz) cs.length with
          | true =>
            rw [hb2] at h
            simp only [cond_true] at h
            cases h
            exact fin _ (by simp [takeSV, hb2, force_eq]) rfl
          | false => rw [hb2] at h; cases h
        | false =>
          simp only at h
          cases hb2 : Nat.blt off cs.length with
          | true =>
            rw [hb2] at h
            simp only [cond_true] at h
            cases h
            exact fin _ (by simp [takeSV, hb2, hnf_eq]) rfl
          | false => rw [hb2] at h; cases h
      | _ => rw [ho] at h; cases h
    · cases h
theorem retSV_rel {E : Env} {vs : List SV} {us : List Value} (h : RelL E vs us) : Rel E (retSV vs) (if h : (us.toArray).size = 1 then us.toArray[0] else .tuple us.toArray) := by
  cases h with
  | nil => exact .tup _ _ .nil
  | cons s v l us h hl =>
    cases hl with
    | nil => exact h
    | cons s' v' l' us' h' hl' =>
      have : ¬ ((v :: v' :: us').toArray.size = 1) := by simp
      rw [dif_neg this]
      exact .tup _ _ (.cons _ _ _ _ h (.cons _ _ _ _ h' hl'))
theorem results_sound (hI : Inv G H loc ver w) {l : List (Nat × SV)} {a : Act} (hT : TRel (envOf G H loc ver w) N l a) {fn : Func} {vs : List SV} (h : retOf P l H fn.results.toList = some vs) :
    ∃ v, (results fn a.tmps).run P w = .ok v w ∧ Rel (envOf G H loc ver w) (retSV vs) v := by
  obtain ⟨us, h1, h2⟩ := retOf_sound (P := P) hI hT h
  refine ⟨_, ?_, retSV_rel h2⟩
  have hm : (fn.results.mapM (getRes a)).run P w = .ok us.toArray w := by
    rw [Array.mapM_eq_mapM_toList]
    simp only [Sem.run_map, h1, Result.andThen_ok]
  have e : results fn a.tmps = (do
      let vs ← fn.results.mapM (getRes a)
      pure (if h : vs.size = 1 then vs[0] else .tuple vs)) := by
    unfold results
    congr 1
  rw [e, Sem.run_bind, hm]
  rfl

theorem Reads.flat {w : World} {ok ok' : Nat → Prop} {t : Ty} (ht : t.flat = true) {x : t.T} {cs : List Value} (h : Reads w ok t x cs) : Reads w ok' t x cs := by
  induction t generalizing cs with
  | int k => exact h
  | bool => exact h
  | str => exact h
  | slice t _ => cases ht
  | pair a b iha ihb =>
    simp only [Ty.flat, Bool.and_eq_true] at ht
    obtain ⟨c1, c2, e, h1, h2⟩ := h
    exact ⟨c1, c2, e, iha ht.1 h1, ihb ht.2 h2⟩
theorem viewN_rel (hG : ∀ b, ¬ G.mine b) (hI : Inv G H loc ver w) {s : SV} {v : Value} (h : Rel (envOf G H loc ver w) s v) : Rel (env0 w fun b => G.w0.heap.size ≤ b ∧ b < w.heap.size) (viewN H s) v := by
  cases h with
  | ref nm k v hn h0 hk hv =>
    simp only [viewN]
    cases ho : hget H nm with
    | vec j t xs e =>
      simp only
      cases hb : (Nat.beq j k && t.flat) with
      | false => exact .any v
      | true =>
        obtain ⟨h1, h2⟩ := and2 hb
        obtain rfl := beq_iff.1 h1
        have hn' := hget_some ho (by simp)
        have hO := hI.objs nm _ hn'
        have := hv hO.1.symm
        subst this
        obtain ⟨_, _, hlen, hmax, vs, hown, hel⟩ := hO
        refine .seq t xs _ ?_
        rcases own_cases hown with ⟨e1, e2, e3, e4⟩ | ⟨g, cur, e1, e2, e3, e4, e5, e6, e7⟩
        · exact ⟨none, 0, 0, by simp [Core.head, envOf, e1, e2, e3], by omega, Nat.le_refl _, Nat.zero_le _, fun h => absurd h (Nat.lt_irrefl _)⟩
        · have hgg : Owned H loc g := ⟨nm, _, hn', by simp [Owns, e1]⟩
          have hg1 : G.w0.heap.size ≤ g := by
            rcases hI.own g hgg with h | h
            · exact (hG g h).elim
            · exact h
          have hg2 : g < w.heap.size := (Array.getElem?_eq_some_iff.1 e3).1
          refine ⟨some ⟨g, 0, none⟩, (loc nm).len, (loc nm).cap, by simp [Core.head, envOf, e1], hlen, e4, hmax, fun h0 => ⟨g, 0, rfl, ⟨hg1, hg2⟩, fun i hi => ⟨_, (hel i hi).length, ?_, (hel i hi).flat h2⟩⟩⟩
          intro j v hj
          rw [List.getElem?_take] at hj
          split at hj
          · rw [List.getElem?_drop, ← e7, List.getElem?_take] at hj
            split at hj
            · have e3' : w.heap[g]? = some (.cells cur _ (0, 0)) := e3
              simp only [env0, World.cell?, e3']
              simpa using hj
            · cases hj
          · cases hj
    | vv j s t xss pd eo ei =>
      cases pd with
      | some p => exact .any v
      | none =>
      cases hb : Nat.beq j k with
      | false => simp only [hb, cond_false]; exact .any v
      | true =>
        simp only [hb, cond_true]
        obtain rfl := beq_iff.1 hb
        have hn' := hget_some ho (by simp)
        have hO := hI.objs nm _ hn'
        have := hv hO.1.symm
        subst this
        obtain ⟨_, _, _, hlen, hmax, ⟨vs, hown, hel⟩, hal, hrows⟩ := hO
        have hge : ∀ b, Owns (loc nm) (.vv j s t xss none eo ei) b → G.w0.heap.size ≤ b := fun b hb => by
          rcases hI.own b ⟨nm, _, hn', hb⟩ with h | h
          · exact (hG b h).elim
          · exact h
        refine .seq (.slice t) xss _ ?_
        rcases own_cases hown with ⟨e1, e2, e3, e4⟩ | ⟨g, cur, e1, e2, e3, e4, e5, e6, e7⟩
        · exact ⟨none, 0, 0, by simp [Core.head, envOf, e1, e2, e3], by omega, Nat.le_refl _, Nat.zero_le _, fun h => absurd h (Nat.lt_irrefl _)⟩
        · have hg1 : G.w0.heap.size ≤ g := hge g (.inl (by simp [e1]))
          have hg2 : g < w.heap.size := (Array.getElem?_eq_some_iff.1 e3).1
          refine ⟨some ⟨g, 0, none⟩, (loc nm).len, (loc nm).cap, by simp [Core.head, envOf, e1], hlen, e4, hmax, fun h0 => ⟨g, 0, rfl, ⟨hg1, hg2⟩, fun i hi => ⟨[(loc nm).sub.rows i], rfl, ?_, ?_⟩⟩⟩
          · intro q v hq
            have hq0 : q = 0 := by
              have := (List.getElem?_eq_some_iff.1 hq).1
              simpa using this
            subst hq0
            have h1 := hel i hi
            rw [← e7, List.getElem?_take] at h1
            split at h1
            · have e3' : w.heap[g]? = some (.cells cur _ (0, 0)) := e3
              simp only [env0, World.cell?, e3']
              simp only [List.getElem?_cons_zero, Option.some.injEq] at hq
              subst hq
              simpa [Ty.size] using h1
            · cases h1
          · have hi' : i < xss.length := by rw [← hlen]; exact hi
            obtain ⟨rs, r1, r2, r3⟩ := hrows.row i hi' (fun _ _ hp => by cases hp)
            have hsh := hrows.short i hi'
            show Reads w _ (.slice t) (xss.getD i []) _
            rcases r1.2 with ⟨f1, f2⟩ | ⟨g', cap, cur', f1, _, f3, f4, f5, f6, f7⟩
            · have hl0 : (xss.getD i []).length = 0 := f2
              exact ⟨none, 0, 0, by rw [f1], hl0.symm, Nat.le_refl _, Nat.zero_le _, fun h => absurd h (Nat.lt_irrefl _)⟩
            · have hgo : (loc nm).al g' := r2 g' (by rw [f1]; rfl)
              have hg1' : G.w0.heap.size ≤ g' := hge g' (.inr hgo)
              have f3 : w.heap[g']? = some (.cells cur' ei (0, 0)) := f3
              have hg2' : g' < w.heap.size := (Array.getElem?_eq_some_iff.1 f3).1
              refine ⟨some ⟨g', 0, none⟩, (xss.getD i []).length, cap, by rw [f1], rfl, f4, hsh, fun h0 => ⟨g', 0, rfl, ⟨hg1', hg2'⟩, fun m hm => ⟨_, (r3 m hm).length, ?_, (r3 m hm).flat hrows.flat⟩⟩⟩
              intro q v hq
              rw [List.getElem?_take] at hq
              split at hq
              · rw [List.getElem?_drop, ← f7, List.getElem?_take] at hq
                split at hq
                · simp only [env0, World.cell?, f3]
                  simpa using hq
                · cases hq
              · cases hq
    | _ => exact .any v
  | val _ h => exact .val v h
  | bl p d => exact .bl p d
  | str s h => exact .str s h
  | _ => exact .any _
theorem viewNs_rel (hG : ∀ b, ¬ G.mine b) (hI : Inv G H loc ver w) : ∀ {l : List SV} {vs : List Value}, RelL (envOf G H loc ver w) l vs → RelL (env0 w fun b => G.w0.heap.size ≤ b ∧ b < w.heap.size) (l.map (viewN H)) vs
  | _, _, .nil => .nil
  | _, _, .cons _ _ _ _ h hl => .cons _ _ _ _ (viewN_rel hG hI h) (viewNs_rel hG hI hl)
theorem viewNT_rel (hG : ∀ b, ¬ G.mine b) (hI : Inv G H loc ver w) : ∀ {l : List SV} {vs : List Value}, RelL (envOf G H loc ver w) l vs → RelL (env0 w fun b => G.w0.heap.size ≤ b ∧ b < w.heap.size) (l.map fun s => match s with
      | .agg l => .agg (l.map (viewN H))
      | s => viewN H s) vs
  | _, _, .nil => .nil
  | _, _, .cons s _ _ _ h hl => by
    refine .cons _ _ _ _ ?_ (viewNT_rel hG hI hl)
    cases s with
    | agg l => cases h with
      | agg _ vs hl => exact .agg _ _ (viewNs_rel hG hI hl)
    | _ => exact viewN_rel hG hI h
theorem viewND_rel (hG : ∀ b, ¬ G.mine b) (hI : Inv G H loc ver w) {s : SV} {v : Value} (h : Rel (envOf G H loc ver w) s v) : Rel (env0 w fun b => G.w0.heap.size ≤ b ∧ b < w.heap.size) (viewND H s) v := by
  cases s with
  | agg l => cases h with
    | agg _ vs hl => exact .agg _ _ (viewNs_rel hG hI hl)
  | tup l => cases h with
    | tup _ vs hl => exact .tup _ _ (viewNT_rel hG hI hl)
  | _ => exact viewN_rel hG hI h
end

section
variable {P : Program}
/-- The marks are come to, one behind the other. -/
theorem leave_marks {G : Ctx} {fn : Func} {tmps : Array Value} {R : Ending → World → Prop} {H : List HO} {loc : Nat → Loc} {ver : Nat → Nat} : ∀ (Ds : List Nat) {w : World}, Inv G H loc ver w → Ds.Nodup →
    (∀ D ∈ Ds, G.w0.heap.size ≤ D ∧ G.itr.n0 ≤ D ∧ ¬ aliN H loc D ∧ w.heap[D]? = some (.deferred (some []))) →
    (∀ w', Inv G H loc ver w' → (∀ s v, Rel (envOf G H loc ver w) s v → Rel (envOf G H loc ver w') s v) → ∃ v, (results fn tmps).run P w' = .ok v w' ∧ R (.returned v) w') → LeavesInM Fence.wide 0 P fn tmps R (Ds.map markOf) .returning w
  | [], w, hI, _, _, hR => by
    obtain ⟨v, h1, h2⟩ := hR w hI fun _ _ h => h
    exact ⟨v, h1, h2⟩
  | D :: Ds, w, hI, hnd, hD, hR => by
    obtain ⟨h1, h2, h3, h4⟩ := hD D (List.mem_cons_self ..)
    refine ⟨by simp, .inl ⟨D, _, rfl, run_takeDeferred h4, ?_⟩⟩
    have hnd' := List.nodup_cons.1 hnd
    have hbk := hI.book (o := .deferred none) h4 h1 h2 h3
    refine leave_marks Ds hbk.1 hnd'.2 (fun D' hD' => ?_) fun w' h5 h6 => hR w' h5 fun s v h => h6 s v (hbk.2 s v h)
    obtain ⟨k1, k2, k3, k4⟩ := hD D' (List.mem_cons_of_mem _ hD')
    exact ⟨k1, k2, k3, (World.putObj_heap_other (fun e => hnd'.1 (by rw [← e]; exact hD'))).trans k4⟩
/-- What a state at a function's end hands back. -/
theorem finV_sound {ok : Nat → Prop} {w0 : World} {hok : ∀ b, ok b → b < w0.heap.size} {H : List HO} {loc : Nat → Loc} {ver : Nat → Nat} {w : World} {N : Nat} {l : List (Nat × SV)} {a : Act} {fn : Func} {fresh : Bool} {r : SV}
    (hI : Inv (ctx0 w0 ok hok) H loc ver w) (hT : TRel (envOf (ctx0 w0 ok hok) H loc ver w) N l a) (hb : bare r = true) (h : finV P fresh fn.results.toList r l H) :
    ∃ v, (results fn a.tmps).run P w = .ok v w ∧ Below w0.heap.size w0 w ∧ Rel (env0 w fun b => (fresh = false ∧ ok b) ∨ (w0.heap.size ≤ b ∧ b < w.heap.size)) r v := by
  have hbel : Below w0.heap.size w0 w := ⟨hI.os, hI.tape, hI.output, hI.size, fun b hb => hI.frame b hb fun h => h⟩
  unfold finV at h
  split at h
  case h_2 => exact h.elim
  rename_i vs hv
  obtain ⟨v, hr, hrel⟩ := results_sound (P := P) hI hT hv
  refine ⟨v, hr, hbel, ?_⟩
  cases fresh with
  | true =>
    simp only [cond_true] at h
    have h1 := ent_sound h (viewND_rel (fun _ h => h) hI hrel)
    exact Rel.bare (E := env0 w fun b => w0.heap.size ≤ b ∧ b < w.heap.size) (E' := env0 w fun b => (true = false ∧ ok b) ∨ (w0.heap.size ≤ b ∧ b < w.heap.size)) (fun _ _ _ h => h) (fun b hb => Or.inr hb) h1 hb
  | false =>
    simp only [cond_false, force_eq] at h
    obtain ⟨hI1, hx1⟩ := freezeL_sound vs hI
    have h1 := viewD_rel (H := freezeL H vs) (lend := false) (Ext.refl _) (fun _ _ _ h => view_ptr hI1 h) (fun nm k v h => view_ref_fro hI1 h) (hrel.ext hx1)
    have h2 := ent_sound h h1
    refine Rel.bare (E := envOf _ (freezeL H vs) loc ver w) (E' := env0 w _) (fun _ _ _ h => h) (fun b hb => ?_) h2 hb
    rcases hb.1 with h3 | h3 | h3
    · exact .inl ⟨rfl, h3⟩
    · exact h3.elim
    · exact .inr ⟨h3, hb.2.1⟩
/-- **FROM THE BODY TO THE CONTRACT.** -/
theorem tri_of_body {Γ : List Con} (hΓ : ∀ c ∈ Γ, ConOK P c) {A : Anns} {fresh : Bool} {f : FuncId} {fn : Func} (hf : P.funcs[f]? = some fn) {args : List SV} {r : SV} (hn : args.length ≤ fn.ntmps) (hb : bare r = true) (h : body P Γ A fresh fn args r) : Tri P fresh f args r := by
  intro ok w vs hok hr
  unfold body at h
  cases hc : fn.body with
  | none => rw [hc] at h; exact h.elim
  | some c =>
    rw [hc] at h
    refine (callsIn_wide (n := 0)).1 (callsIn_of_wp_marks hf hc trivial ?_)
    have hI := start_inv ok hok
    have hr' : RelL (envOf (ctx0 w ok hok) [] (fun _ => mkL none 0 0) (fun _ => 0) w) args vs := by
      refine RelL.move (E := env0 w ok) (E' := envOf (ctx0 w ok hok) [] (fun _ => mkL none 0 0) (fun _ => 0) w) (p := fun m => Nat.blt m 0) (fun nm hp _ => by simp at hp) (fun nm hp => by simp at hp) (fun h => by cases h) (fun _ _ _ h => h) (fun b hb => ⟨.inl hb, hok b hb, fun ⟨nm, o, h, _⟩ => by simp at h⟩) hr hr.under
    have hT := start_rel (N := fn.ntmps) hr' hn
    have hY : YOK P (ctx0 w ok hok).itr := fun k M W us hk => by cases hk
    refine wpIn_mono (exec_sound hY hΓ c 0 (F := Fence.wide) (n := 0) ⟨none, rfl⟩ hI hT (fun l hl => by cases hl) h) ?_
    rintro e a' w' ⟨l', H', loc', ver', h1, h2, h3, h4, h5, Ds, h6, h7, h8⟩
    have hend : ∀ {R : Ending → World → Prop}, (∀ w2, Inv (ctx0 w ok hok) H' loc' ver' w2 → TRel (envOf (ctx0 w ok hok) H' loc' ver' w2) fn.ntmps l' a' → ∃ v, (results fn a'.tmps).run P w2 = .ok v w2 ∧ R (.returned v) w2) → LeavesInM Fence.wide 0 P fn a'.tmps R a'.defers .returning w' := by
      intro R hR
      rw [h6, List.append_nil]
      exact leave_marks Ds h2 h7 (fun D hD => ⟨(h8 D hD).1, Nat.zero_le _, (h8 D hD).2.1, (h8 D hD).2.2⟩) fun w2 h9 h10 => hR w2 h9 ⟨h3.size, fun t => h10 _ _ (h3.rel t)⟩
    cases e with
    | normal =>
      refine hend fun w2 h9 h10 => ?_
      obtain ⟨v, k7, k8, k9⟩ := finV_sound h9 h10 hb h1
      exact ⟨v, k7, v, rfl, k8, k9⟩
    | ret =>
      refine hend fun w2 h9 h10 => ?_
      obtain ⟨v, k7, k8, k9⟩ := finV_sound h9 h10 hb h1
      exact ⟨v, k7, v, rfl, k8, k9⟩
    | _ => exact h1.elim
/-- **FROM THE BODY TO THE CONTRACT, OF A FUNCTION THAT TURNS A VECTOR OF ITS CALLER'S.** -/
theorem ltri_of_body {Γ : List Con} (hΓ : ∀ c ∈ Γ, ConOK P c) {A : Anns} {f : FuncId} {fn : Func} (hf : P.funcs[f]? = some fn) {pos : Nat} {same : Bool} {args : List SV} {t : Ty} {xs : List t.T} {e : TypeId} {r : SV} {ys : List t.T} (hn : args.length ≤ fn.ntmps) (hfl : t.flat = true)
    (h : bodyL P Γ A fn pos same args t xs e r ys) : LTri P f pos same args t xs e r ys := by
  intro ok w vs L hok hblk hrow hr hpos
  unfold bodyL at h
  cases hc : fn.body with
  | none => rw [hc] at h; exact h.elim
  | some c =>
    rw [hc] at h
    refine (callsIn_wide (n := 0)).1 (callsIn_of_wp_marks hf hc trivial ?_)
    obtain ⟨G, hG⟩ : ∃ G : Ctx, G = ⟨w, ok, fun b => L.blk.map (·.1) = some b, fun b h1 h2 => (hok b h1).2 h2, fun b hb => (hok b hb).1, itr0⟩ := ⟨_, rfl⟩
    obtain ⟨r1, r2, rs, r3, r4⟩ := hrow
    have hown : ∀ b, Owned [HO.vec 1 t xs e] (fun _ => L) b → L.blk.map (·.1) = some b := by
      rintro b ⟨nm, o, h1, h2⟩
      cases nm with
      | zero => simp at h1; subst h1; exact h2
      | succ k => simp at h1
    have hokn : ∀ b, ok b → okN G [HO.vec 1 t xs e] (fun _ => L) w b := fun b hb => ⟨.inl (by rw [hG]; exact hb), (hok b hb).1, fun ho => (hok b hb).2 (hown b ho)⟩
    have hI : Inv G [HO.vec 1 t xs e] (fun _ => L) (fun _ => 1) w := by
      refine ⟨by rw [hG]; exact Nat.le_refl _, by rw [hG], by rw [hG], by rw [hG], fun b _ _ => by rw [hG], fun nm o ho => ?_, fun b hb => .inl (by rw [hG]; exact hown b hb), fun nm nm' o o' b h1 h2 _ _ => ?_⟩
      · cases nm with
        | zero =>
          simp at ho; subst ho
          exact ⟨rfl, Nat.one_pos, r1, r2, rs, r3, fun i hi => Reads.flatJ hfl (r4 i hi)⟩
        | succ k => simp at ho
      · cases nm with
        | zero => cases nm' with
          | zero => rfl
          | succ k => simp at h2
        | succ k => simp at h1
    have hr' : RelL (envOf G [HO.vec 1 t xs e] (fun _ => L) (fun _ => 1) w) args vs :=
      RelL.move (E := env0 w ok) (E' := envOf G [HO.vec 1 t xs e] (fun _ => L) (fun _ => 1) w) (p := fun m => Nat.blt m 0) (fun nm hp _ => by simp at hp) (fun nm hp => by simp at hp) (fun h => by cases h) (fun _ _ _ h => h) hokn hr hr.under
    have hrs : RelL (envOf G [HO.vec 1 t xs e] (fun _ => L) (fun _ => 1) w) (args.set pos (.ref 0 1)) vs := by
      have hh : Rel (envOf G [HO.vec 1 t xs e] (fun _ => L) (fun _ => 1) w) (.ref 0 1) L.head := .ref 0 1 _ (by rfl) Nat.one_pos (Nat.le_refl _) fun _ => rfl
      have := hr'.set pos hh
      obtain ⟨hlt, he⟩ := List.getElem?_eq_some_iff.1 hpos
      rwa [show vs.set pos L.head = vs from by rw [← he]; exact List.set_getElem_self hlt] at this
    have hT := start_rel (N := fn.ntmps) hrs (by simpa using hn)
    have hY : YOK P G.itr := by rw [hG]; exact fun k M W us hk => by cases hk
    have hRo : RoundOK Fence.wide (envOf G [HO.vec 1 t xs e] (fun _ => L) (fun _ => 1) w) := fun l hl => by cases hl
    refine wpIn_mono (exec_sound hY hΓ c 0 (F := Fence.wide) (n := 0) ⟨none, rfl⟩ hI hT hRo h) ?_
    rintro en a' w' ⟨l', H', loc', ver', h1, h2, h3, h4, h5, Ds, h6, h7, h8⟩
    have h0s : G.w0.heap.size = w.heap.size := by rw [hG]
    have h0n : G.itr.n0 = 0 := by rw [hG]; rfl
    have hend : finL.endL P A c same fn.results.toList r t ys e l' H' → LeavesInM Fence.wide 0 P fn a'.tmps (fun en w' => ∃ v L', en = .returned v ∧ (w'.os = w.os ∧ w'.tape = w.tape ∧ w'.output = w.output ∧ w.heap.size ≤ w'.heap.size ∧ ∀ b, b < w.heap.size → L.blk.map (·.1) ≠ some b → w'.heap[b]? = w.heap[b]?) ∧
      (same = true → L' = L) ∧ (∀ b, L'.blk.map (·.1) = some b → L.blk.map (·.1) = some b ∨ w.heap.size ≤ b) ∧ RowS w' L' t ys e ∧ ((r = .ref 0 1 ∧ v = L'.head) ∨ (plain r = true ∧ Rel (env0 w' fun _ => False) r v))) a'.defers .returning w' := by
      intro he
      rw [h6, List.append_nil]
      refine leave_marks Ds h2 h7 (fun D hD => ⟨by rw [h0s]; exact (h8 D hD).1, by rw [h0n]; exact Nat.zero_le _, (h8 D hD).2.1, (h8 D hD).2.2⟩) fun w2 h9 h10 => ?_
      unfold finL.endL at he
      split at he
      case h_2 => exact he.elim
      rename_i us k t' zs e' hu ho
      obtain ⟨q1, rfl, q2, q3⟩ := he
      have hT2 : TRel (envOf G H' loc' ver' w2) fn.ntmps l' a' := ⟨h3.size, fun t => h10 _ _ (h3.rel t)⟩
      obtain ⟨v, k7, k8⟩ := results_sound (P := P) h9 hT2 hu
      have hq := seqEq_spec q2
      cases hq
      have hn0 := hget_some ho (by simp)
      obtain ⟨o1, o2, o3, o4, rs', o5, o6⟩ := h9.objs 0 _ hn0
      have o1 : ver' 0 = k := o1
      refine ⟨v, k7, v, ⟨(loc' 0).toCore, L.al, L.sub⟩, rfl, ⟨?_, ?_, ?_, ?_, ?_⟩, ?_, ?_, ⟨o3, o4, rs', o5, fun i hi => Reads.flatJ hfl (o6 i hi)⟩, ?_⟩
      · have := h9.os; rw [hG] at this; exact this
      · have := h9.tape; rw [hG] at this; exact this
      · have := h9.output; rw [hG] at this; exact this
      · have := h9.size; rw [hG] at this; exact this
      · intro b hb hne
        have := h9.frame b (by rw [h0s]; exact hb) (by rw [hG]; exact hne)
        rw [hG] at this; exact this
      · intro hs
        rw [hs] at q1
        simp only [cond_true, Bool.and_eq_true, beq_iff, Bool.not_eq_true'] at q1
        rcases h4.ver 0 (by rfl) q1.2 with ⟨_, e2⟩ | ⟨_, e2⟩
        · have e2 : (loc' 0).toCore = L.toCore := e2
          rw [e2]
        · have e2 : 1 < ver' 0 := e2
          omega
      · intro b hb
        rcases h9.own b ⟨0, _, hn0, hb⟩ with h | h
        · rw [hG] at h; exact .inl h
        · rw [hG] at h; exact .inr h
      · split at q3
        · split at q3
          · rename_i k' hk
            subst q3
            rw [hk] at k8
            refine .inl ⟨rfl, ?_⟩
            generalize v = u at k8
            cases k8 with
            | ref _ _ _ _ _ _ hh => exact hh o1.symm
          · exact q3.elim
        · obtain ⟨q4, q5⟩ := q3
          exact .inr ⟨q4, (ent_sound q5 k8).plain q4⟩
    cases en with
    | normal => exact hend h1
    | ret => exact hend h1
    | _ => exact h1.elim
theorem RelL.mapTo {E E' : Env} {g : SV → SV} (hg : ∀ s x, Rel E s x → Rel E' (g s) x) : ∀ {l : List SV} {vs : List Value}, RelL E l vs → RelL E' (l.map g) vs
  | _, _, .nil => .nil
  | _, _, .cons _ _ _ _ h hl => .cons _ _ _ _ (hg _ _ h) (RelL.mapTo hg hl)
theorem retSV_map {E E' : Env} {g : SV → SV} (hg : ∀ s x, Rel E s x → Rel E' (g s) x) {l : List SV} {v : Value} (h : Rel E (retSV l) v) : Rel E' (retSV (l.map g)) v := by
  match l with
  | [] => cases h with
    | tup _ vs hl => exact .tup _ _ (by simpa using RelL.mapTo hg hl)
  | [a] => exact hg _ _ h
  | a :: b :: l => cases h with
    | tup _ vs hl => exact .tup _ _ (by simpa using RelL.mapTo hg hl)
theorem renb_rel {E : Env} {nm k : Nat} {w : World} (hv : E.ver nm = k) {s : SV} {x : Value} (h : Rel E s x) : Rel (envO w (E.loc nm)) (renb nm k s) x := by
  cases s with
  | ref n j =>
    simp only [renb]
    cases hb : (Nat.beq n nm && Nat.beq j k) with
    | false => exact .any x
    | true =>
      simp only [Bool.and_eq_true, beq_iff] at hb
      obtain ⟨rfl, rfl⟩ := hb
      cases h with
      | ref _ _ _ _ _ _ hh =>
        have := hh hv.symm
        exact .ref 0 1 x (by simp [envO]) Nat.one_pos (Nat.le_refl _) fun _ => this
  | _ =>
    simp only [renb]
    first
    | (split <;> first | exact .any x | exact h.plain (by assumption))
    | (cases hp : plain _ with
      | true => exact h.plain hp
      | false => exact .any x)
/-- **FROM THE BODY TO THE CONTRACT, OF A FUNCTION THAT HANDS BACK A NEW VECTOR.** -/
theorem otri_of_body {Γ : List Con} (hΓ : ∀ c ∈ Γ, ConOK P c) {A : Anns} {f : FuncId} {fn : Func} (hf : P.funcs[f]? = some fn) {args : List SV} {r : SV} {t : Ty} {ys : List t.T} {e : TypeId} (hn : args.length ≤ fn.ntmps) (hfl : t.flat = true)
    (h : bodyO P Γ A fn args r t ys e) : OTri P f args r t ys e := by
  intro ok w vs hok hr
  unfold bodyO at h
  cases hc : fn.body with
  | none => rw [hc] at h; exact h.elim
  | some c =>
    rw [hc] at h
    refine (callsIn_wide (n := 0)).1 (callsIn_of_wp_marks hf hc trivial ?_)
    have hI := start_inv ok hok
    have hr' : RelL (envOf (ctx0 w ok hok) [] (fun _ => mkL none 0 0) (fun _ => 0) w) args vs := by
      refine RelL.move (E := env0 w ok) (E' := envOf (ctx0 w ok hok) [] (fun _ => mkL none 0 0) (fun _ => 0) w) (p := fun m => Nat.blt m 0) (fun nm hp _ => by simp at hp) (fun nm hp => by simp at hp) (fun h => by cases h) (fun _ _ _ h => h) (fun b hb => ⟨.inl hb, hok b hb, fun ⟨nm, o, h, _⟩ => by simp at h⟩) hr hr.under
    have hT := start_rel (N := fn.ntmps) hr' hn
    have hY : YOK P (ctx0 w ok hok).itr := fun k M W us hk => by cases hk
    refine wpIn_mono (exec_sound hY hΓ c 0 (F := Fence.wide) (n := 0) ⟨none, rfl⟩ hI hT (fun l hl => by cases hl) h) ?_
    rintro en a' w' ⟨l', H', loc', ver', h1, h2, h3, h4, h5, Ds, h6, h7, h8⟩
    have hend : finO.endO P fn.results.toList r t ys e l' H' → LeavesInM Fence.wide 0 P fn a'.tmps (fun en w' => ∃ v L', en = .returned v ∧ Below w.heap.size w w' ∧ (∀ b, L'.blk.map (·.1) = some b → w.heap.size ≤ b) ∧ RowS w' L' t ys e ∧ Rel (envO w' L') r v) a'.defers .returning w' := by
      intro he
      rw [h6, List.append_nil]
      refine leave_marks Ds h2 h7 (fun D hD => ⟨(h8 D hD).1, Nat.zero_le _, (h8 D hD).2.1, (h8 D hD).2.2⟩) fun w2 h9 h10 => ?_
      unfold finO.endO at he
      split at he
      case h_2 => exact he.elim
      rename_i us hu
      split at he
      case h_2 =>
        split at he
        case h_2 => exact he.elim
        obtain ⟨hr0, hy0⟩ := he
        have hT2 : TRel (envOf (ctx0 w ok hok) H' loc' ver' w2) fn.ntmps l' a' := ⟨h3.size, fun t => h10 _ _ (h3.rel t)⟩
        obtain ⟨v, k7, k8⟩ := results_sound (P := P) h9 hT2 hu
        have hv : v = .slice none 0 0 := by
          have k8 : Rel _ (.val (.slice none 0 0)) v := k8
          cases k8; rfl
        subst hr0
        refine ⟨v, k7, v, mkL none 0 0, rfl, ⟨h9.os, h9.tape, h9.output, h9.size, fun b hb => h9.frame b hb fun h => h⟩, fun b hb => (by simp at hb), ⟨hy0.symm, Nat.zero_le _, [], ⟨by simp, .inl ⟨rfl, rfl⟩⟩, fun i hi => absurd hi (Nat.not_lt_zero _)⟩, ?_⟩
        exact .ref 0 1 v (by simp [envO]) Nat.one_pos (Nat.le_refl _) fun _ => by rw [hv]; rfl
      rename_i nm k hfr
      split at he
      case h_2 => exact he.elim
      rename_i k' t' zs e' ho
      obtain ⟨rfl, rfl, q2, q3⟩ := he
      have hT2 : TRel (envOf (ctx0 w ok hok) H' loc' ver' w2) fn.ntmps l' a' := ⟨h3.size, fun t => h10 _ _ (h3.rel t)⟩
      obtain ⟨v, k7, k8⟩ := results_sound (P := P) h9 hT2 hu
      have hq := seqEq_spec q2
      cases hq
      have hn0 := hget_some ho (by simp)
      obtain ⟨o1, o2, o3, o4, rs', o5, o6⟩ := h9.objs nm _ hn0
      refine ⟨v, k7, v, loc' nm, rfl, ⟨h9.os, h9.tape, h9.output, h9.size, fun b hb => h9.frame b hb fun h => h⟩, ?_, ⟨o3, o4, rs', o5, fun i hi => Reads.flatJ hfl (o6 i hi)⟩, ?_⟩
      · intro b hb
        rcases h9.own b ⟨nm, _, hn0, hb⟩ with h | h
        · exact h.elim
        · exact h
      · exact ent_sound q3 (retSV_map (fun s x hs => renb_rel (E := envOf (ctx0 w ok hok) H' loc' ver' w2) o1 hs) k8)
    cases en with
    | normal => exact hend h1
    | ret => exact hend h1
    | _ => exact h1.elim
/-- **FROM THE BODY TO THE CONTRACT, OF AN ITERATOR.** -/
theorem triI_of_body {Γ : List Con} (hΓ : ∀ c ∈ Γ, ConOK P c) {A : Anns} {f : FuncId} {fn : Func} (hf : P.funcs[f]? = some fn) {args : List SV} {n : Nat} {items : Nat → List SV} (hn : args.length + 1 ≤ fn.ntmps) (h : bodyI P Γ A fn args n items) : TriI P f args n items := by
  intro ok w vs l J hok hr hab hy hJ0
  unfold bodyI at h
  cases hc : fn.body with
  | none => rw [hc] at h; exact h.elim
  | some c =>
    rw [hc] at h
    refine (callsIn_wide (n := 0)).1 (callsIn_of_wp_marks hf hc trivial ?_)
    obtain ⟨G, hG⟩ : ∃ G : Ctx, G = ⟨w, ok, fun b => b < w.heap.size ∧ ¬ ok b, fun b h1 h2 => h2.2 h1, hok, ⟨true, l, w.heap.size, ok, n, items, J, hab⟩⟩ := ⟨_, rfl⟩
    have hown : ∀ b, Owned [HO.yst (some 0) n items] (fun _ => (⟨⟨none, 0, 0⟩, fun b => b < w.heap.size ∧ ¬ ok b, sub0⟩ : Loc)) b → b < w.heap.size ∧ ¬ ok b := by
      rintro b ⟨nm, o, h1, h2⟩
      cases nm with
      | zero => simp at h1; subst h1; exact h2
      | succ k => simp at h1
    have hokn : ∀ b, ok b → okN G [HO.yst (some 0) n items] (fun _ => (⟨⟨none, 0, 0⟩, fun b => b < w.heap.size ∧ ¬ ok b, sub0⟩ : Loc)) w b := fun b hb => ⟨.inl (by rw [hG]; exact hb), hok b hb, fun ho => (hown b ho).2 hb⟩
    have hI : Inv G [HO.yst (some 0) n items] (fun _ => (⟨⟨none, 0, 0⟩, fun b => b < w.heap.size ∧ ¬ ok b, sub0⟩ : Loc)) (fun _ => 1) w := by
      refine ⟨by rw [hG]; exact Nat.le_refl _, by rw [hG], by rw [hG], by rw [hG], fun b _ _ => by rw [hG], fun nm o ho => ?_, fun b hb => .inl (by rw [hG]; exact hown b hb), fun nm nm' o o' b h1 h2 _ _ => ?_⟩
      · cases nm with
        | zero =>
          simp at ho; subst ho
          refine ⟨Nat.one_pos, fun b hb => hb.1, by rw [hG]; exact Nat.le_refl _, by rw [hG]; rfl, by rw [hG]; rfl, fun b hb hl => ?_, ?_⟩
          · have hb' : b < w.heap.size := by rw [hG] at hb; exact hb
            have hob : ok b := Classical.byContradiction fun hno => hl ⟨hb', hno⟩
            exact ⟨by rw [hG]; exact hob, hokn b hob⟩
          · rw [hG]
            refine cast (congrArg (fun M => J (some 0) M w) (funext fun b => propext ⟨fun h => h.elim, ?_⟩)) hJ0
            rintro ⟨h8, h9, _⟩
            have h8' : w.heap.size ≤ b := h8
            have h9' : b < w.heap.size := h9
            omega
        | succ k => simp at ho
      · cases nm with
        | zero => cases nm' with
          | zero => rfl
          | succ k => simp at h2
        | succ k => simp at h1
    have hr' : RelL (envOf G [HO.yst (some 0) n items] (fun _ => (⟨⟨none, 0, 0⟩, fun b => b < w.heap.size ∧ ¬ ok b, sub0⟩ : Loc)) (fun _ => 1) w) args vs :=
      RelL.move (E := env0 w ok) (E' := envOf G [HO.yst (some 0) n items] (fun _ => (⟨⟨none, 0, 0⟩, fun b => b < w.heap.size ∧ ¬ ok b, sub0⟩ : Loc)) (fun _ => 1) w) (p := fun m => Nat.blt m 0) (fun nm hp _ => by simp at hp) (fun nm hp => by simp at hp) (fun h => by cases h) (fun _ _ _ h => h) hokn hr hr.under
    have hyl : Rel (envOf G [HO.yst (some 0) n items] (fun _ => (⟨⟨none, 0, 0⟩, fun b => b < w.heap.size ∧ ¬ ok b, sub0⟩ : Loc)) (fun _ => 1) w) (.yld 0) (.func (.yield l) #[] #[]) := by
      have := Rel.yld (E := envOf G [HO.yst (some 0) n items] (fun _ => (⟨⟨none, 0, 0⟩, fun b => b < w.heap.size ∧ ¬ ok b, sub0⟩ : Loc)) (fun _ => 1) w) 0 (by rw [hG]; rfl)
      rw [hG] at this ⊢
      exact this
    have hT := start_rel (N := fn.ntmps) (RelL.cons _ _ _ _ hyl hr') (by simpa using hn)
    have hY : YOK P G.itr := by rw [hG]; exact hy
    have hRo : RoundOK Fence.wide (envOf G [HO.yst (some 0) n items] (fun _ => (⟨⟨none, 0, 0⟩, fun b => b < w.heap.size ∧ ¬ ok b, sub0⟩ : Loc)) (fun _ => 1) w) := fun l hl => by cases hl
    refine wpIn_mono (exec_sound hY hΓ c 0 (F := Fence.wide) (n := 0) ⟨none, rfl⟩ hI hT hRo h) ?_
    rintro e a' w' ⟨l', H', loc', ver', h1, h2, h3, h4, h5, Ds, h6, h7, h8⟩
    have h0s : G.w0.heap.size = w.heap.size := by rw [hG]
    have h0n : G.itr.n0 = w.heap.size := by rw [hG]
    have hend : finI.endI fn.results.toList l' H' → LeavesInM Fence.wide 0 P fn a'.tmps (fun e w' => (∃ v, e = .returned v) ∧ ∃ M, J (some n) M w' ∨ J none M w') a'.defers .returning w' := by
      intro he
      rw [h6, List.append_nil]
      refine leave_marks Ds h2 h7 (fun D hD => ⟨by rw [h0s]; exact (h8 D hD).1, by rw [h0n]; exact (h8 D hD).1, (h8 D hD).2.1, (h8 D hD).2.2⟩) fun w2 h9 h10 => ?_
      unfold finI.endI at he
      have hres : ∀ k, fn.results.toList = [] → k → ∃ v, (results fn a'.tmps).run P w2 = .ok v w2 ∧ k := by
        intro k hrs hk
        obtain ⟨v, h11, _⟩ := results_sound (P := P) (fn := fn) (vs := []) h9 (⟨h3.size, fun t => h10 _ _ (h3.rel t)⟩ : TRel (envOf G H' loc' ver' w2) fn.ntmps l' a') (by rw [hrs]; rfl)
        exact ⟨v, h11, hk⟩
      split at he
      · rename_i k n' it hrs ho
        obtain ⟨v, h11, _⟩ := hres True hrs trivial
        obtain ⟨_, _, _, hn', _, _, hJ⟩ := h9.objs 0 _ (hget_some ho (by simp))
        refine ⟨v, h11, ⟨v, rfl⟩, fun b => w.heap.size ≤ b ∧ b < w2.heap.size ∧ ¬ (loc' 0).al b, .inl ?_⟩
        have e1 : n' = n := by rw [hG] at hn'; exact hn'
        rw [hG] at hJ
        have e2 : k = n := he.trans e1
        rw [e2] at hJ
        exact hJ
      · rename_i n' it hrs ho
        obtain ⟨v, h11, _⟩ := hres True hrs trivial
        obtain ⟨_, _, _, hn', _, _, hJ⟩ := h9.objs 0 _ (hget_some ho (by simp))
        refine ⟨v, h11, ⟨v, rfl⟩, fun b => w.heap.size ≤ b ∧ b < w2.heap.size ∧ ¬ (loc' 0).al b, .inr ?_⟩
        rw [hG] at hJ
        exact hJ
      · exact he.elim
    cases e with
    | normal => exact hend h1
    | ret => exact hend h1
    | _ => exact h1.elim
end
end Go.Eng
end
section
set_option linter.unusedVariables false
/-
  From a function's contract to the call that a statement speaks of: arguments that read as data are symbolic values.
-/
set_option linter.unusedVariables false
namespace Go.Eng
theorem wf_in {k : IntKind} {n : Int} (h : (Lit.int k n).wf = true) : inK k n := by
  cases k <;> simp [Lit.wf, IntKind.min, IntKind.max, IntKind.bits, IntKind.signed] at h <;> simp only [inK, lo, hi] <;> omega
theorem rel_int {E : Env} {k : IntKind} {n : Int} (h : (Lit.int k n).wf = true) : Rel E (.val (.int k n)) (.int k n) := .val _ (wf_in h)
theorem rel_bool {E : Env} (b : Bool) : Rel E (.val (.bool b)) (.bool b) := .val _ trivial
theorem cell_lt {w : World} {a : Addr} {v : Value} (h : w.cell? a = some v) : a.block < w.heap.size := by
  refine Classical.byContradiction fun hn => ?_
  unfold World.cell? at h
  rw [Array.getElem?_eq_none (by omega)] at h
  simp at h
theorem weightsAll_mem {H : Type} {P : Program} {e : TypeId} : ∀ {l : List (DataW H)} {d : DataW H}, d ∈ l → ∀ n ∈ d.weights P e, n ∈ DataW.weightsAll P e l
  | [], _, h, _, _ => by cases h
  | x :: l, d, h, n, hn => by
    simp only [DataW.weightsAll, List.mem_append]
    rcases List.mem_cons.1 h with rfl | h
    · exact .inl hn
    · exact .inr (weightsAll_mem h n hn)
/-- Whether the data of a type lie as their code says. -/
def okTy (P : Program) : Nat → TypeId → Bool
  | 0, _ => false
  | n + 1, t => match P.underlying t with
    | some (.int _) => true
    | some .bool => true
    | some .string => true
    | some (.slice e) => (match tyOf P n e with
      | some ty => Nat.beq (P.cellsOf e) ty.size && (Nat.blt 0 ty.size && (Nat.blt 0 (P.bytesOf e) && okTy P n e))
      | none => false)
    | some (.struct fs) => okF P n fs.toList 0 && (match tyOf.flds P n fs.toList with
      | some ty => Nat.beq (P.cellsOf t) ty.size
      | none => false)
    | _ => false
where okF (P : Program) : Nat → List Field → Nat → Bool
  | 0, _, _ => false
  | _ + 1, [], _ => false
  | n + 1, f :: r, o => Nat.beq f.offset o && ((match tyOf P n f.type with
      | some ty => Nat.beq (P.cellsOf f.type) ty.size
      | none => false) && (okTy P n f.type && (match r with
        | [] => true
        | g :: r => okF P n (g :: r) (o + P.cellsOf f.type))))
theorem addr_add (b o k : Nat) : (⟨b, o, none⟩ : Addr).add k = ⟨b, o + k, none⟩ := by unfold Addr.add; split <;> simp_all
section
variable {H : Type} {enc : TypeId × Value → H} {P : Program} {w : World} {base : Nat} {spare : Nat → Bool} {held : Bool}
def RD (H : Type) (enc : TypeId × Value → H) (P : Program) (w : World) (base : Nat) (spare : Nat → Bool) (held : Bool) (n : Nat) : Prop := ∀ (t : TypeId) (ty : Ty), tyOf P n t = some ty → okTy P n t = true → ∀ (fuel : Nat) (cs : List Value) (x : DataW H × List MemPlace),
  DataW.trod enc P w base spare held fuel t cs = some x → (∀ m ∈ x.1.weights P t, m ≤ reachBytes) → ∃ v : ty.T, Reads w (fun b => b < w.heap.size) ty v cs
theorem fields_read (n : Nat) (ih : ∀ k, k < n → RD H enc P w base spare held k) : ∀ (k : Nat), k ≤ n → ∀ (l : List Field) (o : Nat) (ty : Ty), tyOf.flds P k l = some ty → okTy.okF P k l o = true → ∀ (fuel : Nat) (cs : List Value) (ys : List (DataW H × List MemPlace)),
    (∀ (i : Nat) (f : Field), l[i]? = some f → ∃ y, ys[i]? = some y ∧ DataW.trod enc P w base spare held fuel f.type ((cs.drop f.offset).take (P.cellsOf f.type)) = some y ∧ ∀ m ∈ y.1.weights P f.type, m ≤ reachBytes) →
    ∃ v : ty.T, Reads w (fun b => b < w.heap.size) ty v ((cs.drop o).take ty.size)
  | 0, _, l, o, ty, h1, _, _, _, _, _ => by cases l <;> simp [tyOf.flds] at h1
  | k + 1, hk, [], o, ty, h1, _, _, _, _, _ => by simp [tyOf.flds] at h1
  | k + 1, hk, [f], o, ty, h1, h2, fuel, cs, ys, h3 => by
    simp only [tyOf.flds] at h1
    simp only [okTy.okF, h1, Bool.and_eq_true, beq_iff] at h2
    obtain ⟨rfl, e2, e3, _⟩ := h2
    obtain ⟨y, _, h4, h5⟩ := h3 0 f rfl
    rw [← e2]
    exact ih k (by omega) _ _ h1 e3 fuel _ y h4 h5
  | k + 1, hk, f :: g :: r, o, ty, h1, h2, fuel, cs, ys, h3 => by
    simp only [tyOf.flds] at h1
    split at h1
    · rename_i a b ha hb
      cases h1
      simp only [okTy.okF, ha, Bool.and_eq_true, beq_iff] at h2
      obtain ⟨rfl, e2, e3, e4⟩ := h2
      obtain ⟨y, _, h4, h5⟩ := h3 0 f rfl
      obtain ⟨v1, hv1⟩ := ih k (by omega) _ _ ha e3 fuel _ y h4 h5
      obtain ⟨v2, hv2⟩ := fields_read n ih k (by omega) (g :: r) (f.offset + P.cellsOf f.type) b hb e4 fuel cs ys.tail (fun i f' hf => by
        obtain ⟨y, q1, q2⟩ := h3 (i + 1) f' (by simpa using hf)
        exact ⟨y, by rw [List.getElem?_tail]; exact q1, q2⟩)
      rw [e2] at hv1 hv2
      refine ⟨(v1, v2), (cs.drop f.offset).take a.size, (cs.drop (f.offset + a.size)).take b.size, ?_, hv1, hv2⟩
      simp only [Ty.size]
      rw [List.take_add, List.drop_drop]
    · cases h1
theorem all_read : ∀ n, RD H enc P w base spare held n
  | 0 => fun t ty h => by simp [tyOf] at h
  | n + 1 => by
    have ih : ∀ k, k < n + 1 → RD H enc P w base spare held k := fun k hk => all_read k
    intro t ty h1 h2 fuel cs x h3 h4
    simp only [tyOf] at h1
    simp only [okTy] at h2
    split at h1
    · rename_i k hu
      cases h1
      obtain ⟨m, rfl, _, hw⟩ := DataW.trod_int hu h3
      exact ⟨m, rfl, wf_in hw⟩
    · rename_i hu
      cases h1
      obtain ⟨b, rfl, _⟩ := DataW.trod_bool hu h3
      exact ⟨b, rfl⟩
    · rename_i hu
      cases h1
      obtain ⟨s, rfl, rfl, _⟩ := DataW.trod_string hu h3
      refine ⟨s.data.toList, by simp, ?_⟩
      have := h4 s.data.toList.length (by simp [DataW.weights])
      exact Nat.le_trans this (by decide)
    · rename_i e hu
      rw [hu] at h2
      simp only at h2
      cases hE : tyOf P n e with
      | none => rw [hE] at h1; simp at h1
      | some te =>
      rw [hE] at h1 h2
      simp only [Option.map_some, Option.some.injEq] at h1
      subst h1
      simp only [Bool.and_eq_true, beq_iff] at h2
      obtain ⟨e1, e2, e3, e4⟩ := h2
      have e2 : 0 < te.size := by simpa using e2
      have e3 : 0 < P.bytesOf e := by simpa using e3
      rcases DataW.trod_slice hu h3 with ⟨rfl, _⟩ | ⟨a, len, cap, elems, rest, m, rfl, rfl, rfl, hb, hl, hm, hlen, hel, hsp, hns⟩
      · exact ⟨([] : List te.T), reads_nil _ _ _⟩
      · have hbig := h4 ((elems.length + rest.length) * P.bytesOf e) (by simp [DataW.weights, hu])
        have hlen' : len ≤ maxL := by
          have h5 : elems.length + rest.length ≤ (elems.length + rest.length) * P.bytesOf e := Nat.le_mul_of_pos_right _ e3
          have h6 : reachBytes ≤ maxL := by decide
          omega
        have each : ∀ i : Nat, ∃ v : te.T, i < len → ∃ es, w.cells? base (a.add (i * P.cellsOf e)) (P.cellsOf e) = some es ∧ Reads w (fun b => b < w.heap.size) te v es := by
          intro i
          by_cases hi : i < len
          · have h5 := hel i hi
            obtain ⟨y, hy⟩ : ∃ y, elems[i]? = some y := ⟨elems[i]'(by omega), by simp [hlen, hi]⟩
            rw [hy] at h5
            cases hc : w.cells? base (a.add (i * P.cellsOf e)) (P.cellsOf e) with
            | none => rw [hc] at h5; simp at h5
            | some es =>
              rw [hc] at h5
              simp only [Option.bind_some] at h5
              obtain ⟨v, hv⟩ := ih n (Nat.lt_succ_self n) e te hE e4 m es y h5 (fun q hq => h4 q (by
                simp only [DataW.weights, hu, List.mem_cons, List.mem_append]
                exact .inr (.inl (weightsAll_mem (List.mem_map.2 ⟨y, List.mem_of_getElem? hy, rfl⟩) q hq))))
              exact ⟨v, fun _ => ⟨es, rfl, hv⟩⟩
          · exact ⟨te.dflt, fun h => absurd h hi⟩
        refine ⟨(List.range len).map fun i => (each i).choose, some a, len, cap, rfl, by simp, hl, hlen', fun h0 => ?_⟩
        obtain ⟨es0, hc0, hr0⟩ := (each 0).choose_spec h0
        have hlt : a.block < w.heap.size := by
          have := World.cells?_block hc0 (by omega)
          simpa [Addr.add] using this
        have hspot : a.spot = none := by
          obtain ⟨_, _, hg⟩ := World.cells?_some hc0
          have h6 := hg 0 (by omega)
          obtain ⟨v0, hv0⟩ : ∃ v0, es0[0]? = some v0 := by
            cases es0 with
            | nil => have := hr0.length; simp at this; omega
            | cons v _ => exact ⟨v, rfl⟩
          rw [hv0] at h6
          have := World.cell?_spot h6
          simpa [Addr.add] using this
        obtain ⟨b, off, spot⟩ := a
        simp only at hspot hlt
        subst hspot
        refine ⟨b, off, rfl, hlt, fun i hi => ?_⟩
        obtain ⟨es, hc, hr⟩ := (each i).choose_spec hi
        obtain ⟨_, hlen2, hg⟩ := World.cells?_some hc
        refine ⟨es, by rw [hr.length], fun j v hj => ?_, ?_⟩
        · have hj' : j < es.length := (List.getElem?_eq_some_iff.1 hj).1
          have h6 := hg j (by omega)
          rw [hj] at h6
          rw [addr_add, addr_add] at h6
          rw [← e1]
          exact h6
        · have : List.getD (α := te.T) ((List.range len).map fun i => (each i).choose) i te.dflt = (each i).choose := by
            simp [List.getD_eq_getElem?_getD, hi]
          rw [this]; exact hr
    · rename_i fs hu
      rw [hu] at h2
      simp only [Bool.and_eq_true] at h2
      obtain ⟨e1, e2⟩ := h2
      rw [h1] at e2
      have e2 := beq_iff.1 e2
      obtain ⟨xs, m, rfl, rfl, hlen, hxl, hall⟩ := DataW.trod_struct hu h3
      obtain ⟨v, hv⟩ := fields_read n (fun k hk => ih k (by omega)) n (Nat.le_refl _) fs.toList 0 ty h1 e1 m cs xs (fun i f hf => by
        have hf' : fs[i]? = some f := by simpa using hf
        have h5 := hall i f hf'
        have hi : i < xs.length := by rw [hxl]; exact (Array.getElem?_eq_some_iff.1 hf').1
        refine ⟨xs[i], by simp [hi], by rw [h5]; simp [hi], fun q hq => h4 q ?_⟩
        simp only [DataW.weights, hu]
        exact DataW.weights_mem_each (j := i) (t := f.type) (d := xs[i].1) (by simp [hf']) (by simp [hi]) q hq)
      refine ⟨v, ?_⟩
      rw [List.drop_zero, List.take_of_length_le (by omega)] at hv
      exact hv
    · cases h1
end
/-- What is known of a datum that came in. -/
def Okd : (t : Ty) → t.T → Prop
  | .int k, n => inK k n
  | .bool, _ => True
  | .str, s => List.length (α := UInt8) s ≤ maxL
  | .pair a b, x => Okd a x.1 ∧ Okd b x.2
  | .slice t, xs => List.length (α := t.T) xs ≤ maxL ∧ ∀ i, i < List.length (α := t.T) xs → Okd t (List.getD (α := t.T) xs i t.dflt)
theorem Reads.okd {w : World} {ok : Nat → Prop} {t : Ty} {x : t.T} {cs : List Value} (h : Reads w ok t x cs) : Okd t x := by
  induction t generalizing cs with
  | int k => exact h.2
  | bool => trivial
  | str => exact h.2
  | pair a b iha ihb => obtain ⟨c1, c2, rfl, h1, h2⟩ := h; exact ⟨iha h1, ihb h2⟩
  | slice t ih =>
    obtain ⟨a, n, c, rfl, hn, _, hm, hall⟩ := h
    have hn' : n = List.length (α := t.T) x := hn
    refine ⟨by omega, fun i hi => ?_⟩
    obtain ⟨b, off, _, _, hel⟩ := hall (by omega)
    obtain ⟨es, _, _, hr⟩ := hel i (by omega)
    exact ih hr
section
variable {H : Type} {enc : TypeId × Value → H} {P : Program} {w : World} {base b0 : Nat} {spare : Nat → Bool} {held : Bool} {r : Reach} {t : TypeId} {v : Value} {d : DataW H} {ps : List MemPlace}
theorem arg_int {k : IntKind} (ht : P.underlying t = some (.int k)) (hval : Value.okWide P w r b0 t v) (hd : DataW.Trod enc P w base spare held t v d ps) : ∃ n : Int, inK k n ∧ Rel (env0 w fun b => b < w.heap.size) (.val (.int k n)) v := by
  obtain ⟨n, rfl, _, _, hw⟩ := ChangeShapes.open_int ht hval hd
  exact ⟨n, wf_in hw, rel_int hw⟩
theorem arg_bool (ht : P.underlying t = some .bool) (hval : Value.okWide P w r b0 t v) (hd : DataW.Trod enc P w base spare held t v d ps) : ∃ b : Bool, Rel (env0 w fun b => b < w.heap.size) (.val (.bool b)) v := by
  obtain ⟨b, rfl, _⟩ := RowKit.open_bool ht hval hd
  exact ⟨b, rel_bool b⟩
theorem arg_str (ht : P.underlying t = some .string) (hval : Value.okWide P w r b0 t v) (hd : DataW.Trod enc P w base spare held t v d ps) (hw : ∀ m ∈ d.weights P t, m ≤ reachBytes) : ∃ s : List UInt8, s.length ≤ maxL ∧ Rel (env0 w fun b => b < w.heap.size) (.str s) v := by
  obtain ⟨s, rfl, rfl, _, hs⟩ := ChangeMaps.open_string ht hval hd
  have h1 : s.data.toList.length ≤ maxL := Nat.le_trans (hw s.data.toList.length (by simp [DataW.weights])) (by decide)
  refine ⟨s.data.toList, h1, ?_⟩
  have := Rel.str (E := env0 w fun b => b < w.heap.size) s.data.toList h1
  simpa using this
theorem arg_slice {e : TypeId} {n : Nat} {ty : Ty} (ht : P.underlying t = some (.slice e)) (hval : Value.okWide P w r b0 t v) (hd : DataW.Trod enc P w base spare held t v d ps) (h1 : tyOf P n t = some (.slice ty)) (h2 : okTy P n t = true)
    (hw : ∀ m ∈ d.weights P t, m ≤ reachBytes) : ∃ xs : List ty.T, Okd (.slice ty) xs ∧ Rel (env0 w fun b => b < w.heap.size) (.seq ty xs) v := by
  obtain ⟨a, len, cap, rfl⟩ := WideShapes.okWide_slice ht hval
  obtain ⟨fuel, hf⟩ := hd
  obtain ⟨xs, hx⟩ := all_read n t _ h1 h2 fuel _ _ hf hw
  refine ⟨xs, hx.okd, .seq _ _ _ ?_⟩
  have e : (Value.slice a len cap).cells.toList = [.slice a len cap] := by simp [Value.cells]
  rw [e] at hx
  exact hx
theorem weight_of {ts : List TypeId} {ds : List (DataW H)} (h : (DataW.weightsEach P ts ds).all (· ≤ reachBytes) = true) (j : Nat) (ht : ts[j]? = some t) (hd : ds[j]? = some d) : ∀ m ∈ d.weights P t, m ≤ reachBytes :=
  fun m hm => by simpa using List.all_eq_true.1 h m (DataW.weights_mem_each ht hd m hm)
end
open Go.RowKit in
theorem law_calls {P : Program} {fresh : Bool} {f : FuncId} {args : List SV} (h : Tri P fresh f args (.val (.bool true))) (w : World) (vs : List Value) (hr : RelL (env0 w fun b => b < w.heap.size) args vs) :
    Calls P f ⟨vs⟩ w fun e w' => e = .returned (.bool true) ∧ Below w.heap.size w w' := by
  refine (h (fun b => b < w.heap.size) w vs (fun _ h => h) hr).mono ?_
  rintro e w' ⟨v, rfl, hb, hv⟩
  cases hv
  exact ⟨rfl, hb⟩
end Go.Eng
end
section
set_option linter.unusedVariables false
open Go Go.Proofs Go.Eng Go.Shelf
namespace EB
abbrev I (n : Int) : SV := .val (.int .i64 n)
abbrev Ls (xs : List Int) : SV := .seq (.int .i64) xs
abbrev Ws (xs : List Int) : SV := .seq (.int .u64) xs
/-- A rest or a step: two numbers. -/
abbrev Two : Ty := .pair (.int .i64) (.int .i64)
abbrev Ps (xs : List (Int × Int)) : SV := .seq Two xs
set_option maxRecDepth 10000
theorem ix_at {n : Int} {C : Nat → Prop} (j : Nat) (e : n = (j : Int)) (h : C j) : Ix n C := by
  refine ⟨fun i e' => ?_⟩
  have : j = i := by omega
  subst this; exact h
/-! ### Sets of members -/
theorem b46 (n : Int) (h : 0 ≤ n ∧ n ≤ 1000) : bodyO Try.prog [] {} Try.f46 [I n] (.ref 0 1) (.int .u64) (List.replicate ((n + 63) / 64).toNat 0) 103 := by
  obtain ⟨h1, h2⟩ := h
  (repeat' ((conv => whnf); first | (refine Giv.mk fun _ => ?_) | (refine Alt.l (Need.mk ?h ?_); case h => omega) | (refine Alt.r (Need.mk ?h ?_); case h => omega) | (refine Need.mk ?h ?_; case h => first | omega | (intro _; rfl) | assumption | (simp <;> omega)) | refine Ix.zero ?_ | refine Ix.one ?_ | refine Ix.two ?_ | refine Ix.nat ?_ | refine Ix.add ?_ | (apply Go.Eng.Pin.mk; apply Exists.intro) | apply Go.Eng.Pinned.mk rfl rfl | (apply Go.Eng.PinH.mk; apply Exists.intro; apply Exists.intro) | exact Go.Eng.Fin0.mk | refine Go.Eng.Chk.mk ?_ ?_ | refine Own.l ?_ | fail))
  refine Need.mk (show 0 ≤ (n + 63) / 64 ∧ (n + 63) / 64 ≤ (n + 63) / 64 ∧ (n + 63) / 64 ≤ 140737488355328 ∧ (n + 63) / 64 * ((8 : Nat) : Int) ≤ 140737488355328 by omega) ?_
  (repeat' ((conv => whnf); first | (refine Giv.mk fun _ => ?_) | (refine Alt.l (Need.mk ?h ?_); case h => omega) | (refine Alt.r (Need.mk ?h ?_); case h => omega) | (refine Need.mk ?h ?_; case h => first | omega | (intro _; rfl) | assumption | (simp <;> omega)) | refine Ix.zero ?_ | refine Ix.one ?_ | refine Ix.two ?_ | refine Ix.nat ?_ | refine Ix.add ?_ | (apply Go.Eng.Pin.mk; apply Exists.intro) | apply Go.Eng.Pinned.mk rfl rfl | (apply Go.Eng.PinH.mk; apply Exists.intro; apply Exists.intro) | exact Go.Eng.Fin0.mk | refine Go.Eng.Chk.mk ?_ ?_ | refine Own.l ?_ | fail))
  (conv => whnf)
  (repeat' (first | exact trivial | rfl | exact Nat.one_pos | (refine And.intro ?_ ?_) | ((conv => whnf); (refine And.intro ?_ ?_)) | ((conv => whnf); exact trivial)))
def c46 : Con := ownCon 46 fun args K => match args with | [.val (.int .i64 n)] => Need (0 ≤ n ∧ n ≤ 1000) (K (.ref 0 1) (.vec 1 (.int .u64) (List.replicate ((n + 63) / 64).toNat 0) 103)) | _ => False
theorem k46 : ConOK Try.prog c46 := by
  refine ownOK_of (enters_of Try.func46 (by kernel_rfl) rfl) ?_
  intro args K h
  split at h
  · rename_i n; exact ⟨_, _, _, _, _, h.go, fun hfl => otri_of_body (Γ := []) (by simp) Try.func46 (by simp [Try.ntmps46]) hfl (b46 n h.ok)⟩
  · exact h.elim
def hasW (ws : List Int) (i : Int) : Prop := i / 64 < (ws.length : Int) ∧ bitsI .and .u64 (shrI .u64 (ws.getD (i / 64).toNat 0) (i % 64)) 1 = 1
instance (ws : List Int) (i : Int) : Decidable (hasW ws i) := by unfold hasW; exact inferInstance
def putW (ws : List Int) (i : Int) : List Int := ws.set (i / 64).toNat (bitsI .or .u64 (ws.getD (i / 64).toNat 0) (shlI .u64 1 (i % 64)))
def takeW (ws : List Int) (i : Int) : List Int := ws.set (i / 64).toNat (bitsI .andNot .u64 (ws.getD (i / 64).toNat 0) (shlI .u64 1 (i % 64)))
theorem b52 (ws : List Int) (i : Int) (h : 0 ≤ i) : body Try.prog [] {} true Try.f52 [Ws ws, I i] (.bl (hasW ws i) inferInstance) := by
  (repeat' ((conv => whnf); first | (refine Giv.mk fun _ => ?_) | (refine Alt.l (Need.mk ?h ?_); case h => omega) | (refine Alt.r (Need.mk ?h ?_); case h => omega) | (refine Need.mk ?h ?_; case h => first | omega | (intro _; rfl) | assumption | (simp <;> omega)) | refine Ix.zero ?_ | refine Ix.one ?_ | refine Ix.two ?_ | refine Ix.nat ?_ | refine Ix.add ?_ | (apply Go.Eng.Pin.mk; apply Exists.intro) | apply Go.Eng.Pinned.mk rfl rfl | (apply Go.Eng.PinH.mk; apply Exists.intro; apply Exists.intro) | exact Go.Eng.Fin0.mk | refine Go.Eng.Chk.mk ?_ ?_ | refine Own.l ?_ | fail))
  (refine Br.mk (fun _ => ?_) (fun _ => ?_))
  · rename_i hlt
    (repeat' ((conv => whnf); first | (refine Giv.mk fun _ => ?_) | (refine Alt.l (Need.mk ?h ?_); case h => omega) | (refine Alt.r (Need.mk ?h ?_); case h => omega) | (refine Need.mk ?h ?_; case h => first | omega | (intro _; rfl) | assumption | (simp <;> omega)) | refine Ix.zero ?_ | refine Ix.one ?_ | refine Ix.two ?_ | refine Ix.nat ?_ | refine Ix.add ?_ | (apply Go.Eng.Pin.mk; apply Exists.intro) | apply Go.Eng.Pinned.mk rfl rfl | (apply Go.Eng.PinH.mk; apply Exists.intro; apply Exists.intro) | exact Go.Eng.Fin0.mk | refine Go.Eng.Chk.mk ?_ ?_ | refine Own.l ?_ | fail))
    refine ix_at (i / 64).toNat (by omega) ?_
    (repeat' ((conv => whnf); first | (refine Giv.mk fun _ => ?_) | (refine Alt.l (Need.mk ?h ?_); case h => omega) | (refine Alt.r (Need.mk ?h ?_); case h => omega) | (refine Need.mk ?h ?_; case h => first | omega | (intro _; rfl) | assumption | (simp <;> omega)) | refine Ix.zero ?_ | refine Ix.one ?_ | refine Ix.two ?_ | refine Ix.nat ?_ | refine Ix.add ?_ | (apply Go.Eng.Pin.mk; apply Exists.intro) | apply Go.Eng.Pinned.mk rfl rfl | (apply Go.Eng.PinH.mk; apply Exists.intro; apply Exists.intro) | exact Go.Eng.Fin0.mk | refine Go.Eng.Chk.mk ?_ ?_ | refine Own.l ?_ | fail))
    (conv => whnf)
    exact ⟨fun h => ⟨hlt, h⟩, fun h => h.2⟩
  · rename_i hlt
    (conv => whnf)
    exact fun h => hlt h.1
def c52 : Con := mkCon 52 true fun args K => match args with | [.seq (.int .u64) ws, .val (.int .i64 i)] => Need (0 ≤ i) (K (.bl (hasW ws i) inferInstance)) | _ => False
theorem k52 : ConOK Try.prog c52 := by
  refine conOK_of rfl (enters_of Try.func52 (by kernel_rfl) rfl) ?_
  intro args K h
  simp only [c52] at h
  split at h
  · rename_i ws i; exact ⟨_, h.go, tri_of_body (Γ := []) (by simp) Try.func52 (by simp [Try.ntmps52]) rfl (b52 ws i h.ok)⟩
  · exact h.elim
theorem b47 (i : Int) (ws : List Int) (h : 0 ≤ i ∧ i / 64 < (ws.length : Int)) : bodyL Try.prog [] {} Try.f47 0 true [.any, I i] (.int .u64) ws 103 (.tup []) (putW ws i) := by
  obtain ⟨h1, h2⟩ := h
  (repeat' ((conv => whnf); first | (refine Giv.mk fun _ => ?_) | (refine Alt.l (Need.mk ?h ?_); case h => omega) | (refine Alt.r (Need.mk ?h ?_); case h => omega) | (refine Need.mk ?h ?_; case h => first | omega | (intro _; rfl) | assumption | (simp <;> omega)) | refine Ix.zero ?_ | refine Ix.one ?_ | refine Ix.two ?_ | refine Ix.nat ?_ | refine Ix.add ?_ | (apply Go.Eng.Pin.mk; apply Exists.intro) | apply Go.Eng.Pinned.mk rfl rfl | (apply Go.Eng.PinH.mk; apply Exists.intro; apply Exists.intro) | exact Go.Eng.Fin0.mk | refine Go.Eng.Chk.mk ?_ ?_ | refine Own.l ?_ | fail))
  refine ix_at (i / 64).toNat (by omega) ?_
  (repeat' ((conv => whnf); first | (refine Giv.mk fun _ => ?_) | (refine Alt.l (Need.mk ?h ?_); case h => omega) | (refine Alt.r (Need.mk ?h ?_); case h => omega) | (refine Need.mk ?h ?_; case h => first | omega | (intro _; rfl) | assumption | (simp <;> omega)) | refine Ix.zero ?_ | refine Ix.one ?_ | refine Ix.two ?_ | refine Ix.nat ?_ | refine Ix.add ?_ | (apply Go.Eng.Pin.mk; apply Exists.intro) | apply Go.Eng.Pinned.mk rfl rfl | (apply Go.Eng.PinH.mk; apply Exists.intro; apply Exists.intro) | exact Go.Eng.Fin0.mk | refine Go.Eng.Chk.mk ?_ ?_ | refine Own.l ?_ | fail))
  refine ix_at (i / 64).toNat (by omega) ?_
  (repeat' ((conv => whnf); first | (refine Giv.mk fun _ => ?_) | (refine Alt.l (Need.mk ?h ?_); case h => omega) | (refine Alt.r (Need.mk ?h ?_); case h => omega) | (refine Need.mk ?h ?_; case h => first | omega | (intro _; rfl) | assumption | (simp <;> omega)) | refine Ix.zero ?_ | refine Ix.one ?_ | refine Ix.two ?_ | refine Ix.nat ?_ | refine Ix.add ?_ | (apply Go.Eng.Pin.mk; apply Exists.intro) | apply Go.Eng.Pinned.mk rfl rfl | (apply Go.Eng.PinH.mk; apply Exists.intro; apply Exists.intro) | exact Go.Eng.Fin0.mk | refine Go.Eng.Chk.mk ?_ ?_ | refine Own.l ?_ | fail))
  (conv => whnf)
  (repeat' (first | exact trivial | rfl | exact Nat.one_pos | (refine And.intro ?_ ?_) | ((conv => whnf); (refine And.intro ?_ ?_)) | ((conv => whnf); exact trivial)))
def c47 : Con := linCon 47 0 true fun args o K => match args, o with | [.any, .val (.int .i64 i)], .vec 1 (.int .u64) ws 103 => Need (0 ≤ i ∧ i / 64 < (ws.length : Int)) (K (.tup []) (.vec 1 (.int .u64) (putW ws i) 103)) | _, _ => False
theorem k47 : ConOK Try.prog c47 := by
  refine linOK_of (enters_of Try.func47 (by kernel_rfl) rfl) ?_
  intro args t xs e K hfl h
  split at h
  · rename_i i zs heq
    cases heq
    first | exact ⟨_, _, h.go, ltri_of_body (Γ := []) (by simp) Try.func47 (by simp [Try.ntmps47]) rfl (b47 i zs h.ok)⟩ | exact ⟨_, _, h.go, ltri_of_body (Γ := []) (by simp) Try.func47 (by simp [Try.ntmps47]) rfl (b47 i xs h.ok)⟩
  · exact h.elim
theorem b53 (i : Int) (ws : List Int) (h : 0 ≤ i ∧ i / 64 < (ws.length : Int)) : bodyL Try.prog [] {} Try.f53 0 true [.any, I i] (.int .u64) ws 103 (.tup []) (takeW ws i) := by
  obtain ⟨h1, h2⟩ := h
  (repeat' ((conv => whnf); first | (refine Giv.mk fun _ => ?_) | (refine Alt.l (Need.mk ?h ?_); case h => omega) | (refine Alt.r (Need.mk ?h ?_); case h => omega) | (refine Need.mk ?h ?_; case h => first | omega | (intro _; rfl) | assumption | (simp <;> omega)) | refine Ix.zero ?_ | refine Ix.one ?_ | refine Ix.two ?_ | refine Ix.nat ?_ | refine Ix.add ?_ | (apply Go.Eng.Pin.mk; apply Exists.intro) | apply Go.Eng.Pinned.mk rfl rfl | (apply Go.Eng.PinH.mk; apply Exists.intro; apply Exists.intro) | exact Go.Eng.Fin0.mk | refine Go.Eng.Chk.mk ?_ ?_ | refine Own.l ?_ | fail))
  refine ix_at (i / 64).toNat (by omega) ?_
  (repeat' ((conv => whnf); first | (refine Giv.mk fun _ => ?_) | (refine Alt.l (Need.mk ?h ?_); case h => omega) | (refine Alt.r (Need.mk ?h ?_); case h => omega) | (refine Need.mk ?h ?_; case h => first | omega | (intro _; rfl) | assumption | (simp <;> omega)) | refine Ix.zero ?_ | refine Ix.one ?_ | refine Ix.two ?_ | refine Ix.nat ?_ | refine Ix.add ?_ | (apply Go.Eng.Pin.mk; apply Exists.intro) | apply Go.Eng.Pinned.mk rfl rfl | (apply Go.Eng.PinH.mk; apply Exists.intro; apply Exists.intro) | exact Go.Eng.Fin0.mk | refine Go.Eng.Chk.mk ?_ ?_ | refine Own.l ?_ | fail))
  refine ix_at (i / 64).toNat (by omega) ?_
  (repeat' ((conv => whnf); first | (refine Giv.mk fun _ => ?_) | (refine Alt.l (Need.mk ?h ?_); case h => omega) | (refine Alt.r (Need.mk ?h ?_); case h => omega) | (refine Need.mk ?h ?_; case h => first | omega | (intro _; rfl) | assumption | (simp <;> omega)) | refine Ix.zero ?_ | refine Ix.one ?_ | refine Ix.two ?_ | refine Ix.nat ?_ | refine Ix.add ?_ | (apply Go.Eng.Pin.mk; apply Exists.intro) | apply Go.Eng.Pinned.mk rfl rfl | (apply Go.Eng.PinH.mk; apply Exists.intro; apply Exists.intro) | exact Go.Eng.Fin0.mk | refine Go.Eng.Chk.mk ?_ ?_ | refine Own.l ?_ | fail))
  (conv => whnf)
  (repeat' (first | exact trivial | rfl | exact Nat.one_pos | (refine And.intro ?_ ?_) | ((conv => whnf); (refine And.intro ?_ ?_)) | ((conv => whnf); exact trivial)))
def c53 : Con := linCon 53 0 true fun args o K => match args, o with | [.any, .val (.int .i64 i)], .vec 1 (.int .u64) ws 103 => Need (0 ≤ i ∧ i / 64 < (ws.length : Int)) (K (.tup []) (.vec 1 (.int .u64) (takeW ws i) 103)) | _, _ => False
theorem k53 : ConOK Try.prog c53 := by
  refine linOK_of (enters_of Try.func53 (by kernel_rfl) rfl) ?_
  intro args t xs e K hfl h
  split at h
  · rename_i i zs heq
    cases heq
    first | exact ⟨_, _, h.go, ltri_of_body (Γ := []) (by simp) Try.func53 (by simp [Try.ntmps53]) rfl (b53 i zs h.ok)⟩ | exact ⟨_, _, h.go, ltri_of_body (Γ := []) (by simp) Try.func53 (by simp [Try.ntmps53]) rfl (b53 i xs h.ok)⟩
  · exact h.elim
/-- The members of a set below a number. -/
def memsTo (ws : List Int) (k : Nat) : List Int := ((List.range k).filter fun (i : Nat) => decide (hasW ws i)).map fun (i : Nat) => (i : Int)
theorem memsTo_succ (ws : List Int) (k : Nat) : memsTo ws (k + 1) = if hasW ws k then memsTo ws k ++ [(k : Int)] else memsTo ws k := by
  unfold memsTo
  rw [List.range_succ, List.filter_append, List.map_append]
  by_cases h : hasW ws k <;> simp [h]
theorem memsTo_len (ws : List Int) (k : Nat) : (memsTo ws k).length ≤ k := by
  unfold memsTo
  rw [List.length_map]
  exact Nat.le_trans (List.length_filter_le _ _) (by simp)
theorem b54 (ws : List Int) (h : ws.length ≤ 1000) : body Try.prog [c52] { asks := [(0, [1])] } true Try.f54 [Ws ws] (Ls (memsTo ws (64 * ws.length))) := by
  (repeat' ((conv => whnf); first | (refine Giv.mk fun _ => ?_) | (refine Alt.l (Need.mk ?h ?_); case h => omega) | (refine Alt.r (Need.mk ?h ?_); case h => omega) | (refine Need.mk ?h ?_; case h => first | omega | (intro _; rfl) | assumption | (simp <;> omega)) | refine Ix.zero ?_ | refine Ix.one ?_ | refine Ix.two ?_ | refine Ix.nat ?_ | refine Ix.add ?_ | (apply Go.Eng.Pin.mk; apply Exists.intro) | apply Go.Eng.Pinned.mk rfl rfl | (apply Go.Eng.PinH.mk; apply Exists.intro; apply Exists.intro) | exact Go.Eng.Fin0.mk | refine Go.Eng.Chk.mk ?_ ?_ | refine Own.l ?_ | fail))
  refine Ask.mk ⟨{ X := Nat, pre := fun i => i ≤ 64 * ws.length, mod := fun i _ => [(3, .ref 1 1), (8, I i)], objs := [1], heap := fun i _ => [.vec 1 (.int .i64) [] 3, .vec 1 (.int .i64) (memsTo ws i) 3], mu := fun i => 64 * ws.length - i }, rfl, ?_⟩
  (repeat' ((conv => whnf); first | (refine Giv.mk fun _ => ?_) | (refine Alt.l (Need.mk ?h ?_); case h => omega) | (refine Alt.r (Need.mk ?h ?_); case h => omega) | (refine Need.mk ?h ?_; case h => first | omega | (intro _; rfl) | assumption | (simp <;> omega)) | refine Ix.zero ?_ | refine Ix.one ?_ | refine Ix.two ?_ | refine Ix.nat ?_ | refine Ix.add ?_ | (apply Go.Eng.Pin.mk; apply Exists.intro) | apply Go.Eng.Pinned.mk rfl rfl | (apply Go.Eng.PinH.mk; apply Exists.intro; apply Exists.intro) | exact Go.Eng.Fin0.mk | refine Go.Eng.Chk.mk ?_ ?_ | refine Own.l ?_ | fail))
  refine ⟨⟨(0 : Nat), Nat.zero_le _, ?_⟩, fun (i : Nat) (hi : i ≤ 64 * ws.length) => ?_⟩
  · (repeat' (first | exact trivial | rfl | exact Nat.one_pos | (refine And.intro ?_ ?_) | omega | ((conv => whnf); (refine And.intro ?_ ?_)) | ((conv => whnf); exact trivial)))
  · have hl := memsTo_len ws i
    have hsu := memsTo_succ ws i
    (repeat' ((conv => whnf); first | (refine Giv.mk fun _ => ?_) | (refine Alt.l (Need.mk ?h ?_); case h => omega) | (refine Alt.r (Need.mk ?h ?_); case h => omega) | (refine Need.mk ?h ?_; case h => first | omega | (intro _; rfl) | assumption | (simp <;> omega)) | refine Ix.zero ?_ | refine Ix.one ?_ | refine Ix.two ?_ | refine Ix.nat ?_ | refine Ix.add ?_ | (apply Go.Eng.Pin.mk; apply Exists.intro) | apply Go.Eng.Pinned.mk rfl rfl | (apply Go.Eng.PinH.mk; apply Exists.intro; apply Exists.intro) | exact Go.Eng.Fin0.mk | refine Go.Eng.Chk.mk ?_ ?_ | refine Own.l ?_ | fail))
    (refine Br.mk (fun _ => ?_) (fun _ => ?_))
    · (repeat' ((conv => whnf); first | (refine Giv.mk fun _ => ?_) | (refine Alt.l (Need.mk ?h ?_); case h => omega) | (refine Alt.r (Need.mk ?h ?_); case h => omega) | (refine Need.mk ?h ?_; case h => first | omega | (intro _; rfl) | assumption | (simp <;> omega)) | refine Ix.zero ?_ | refine Ix.one ?_ | refine Ix.two ?_ | refine Ix.nat ?_ | refine Ix.add ?_ | (apply Go.Eng.Pin.mk; apply Exists.intro) | apply Go.Eng.Pinned.mk rfl rfl | (apply Go.Eng.PinH.mk; apply Exists.intro; apply Exists.intro) | exact Go.Eng.Fin0.mk | refine Go.Eng.Chk.mk ?_ ?_ | refine Own.l ?_ | fail))
      (refine Br.mk (fun _ => ?_) (fun _ => ?_))
      · rename_i hh
        rw [if_pos hh] at hsu
        (repeat' ((conv => whnf); first | (refine Giv.mk fun _ => ?_) | (refine Alt.l (Need.mk ?h ?_); case h => omega) | (refine Alt.r (Need.mk ?h ?_); case h => omega) | (refine Need.mk ?h ?_; case h => first | omega | (intro _; rfl) | assumption | (simp <;> omega)) | refine Ix.zero ?_ | refine Ix.one ?_ | refine Ix.two ?_ | refine Ix.nat ?_ | refine Ix.add ?_ | (apply Go.Eng.Pin.mk; apply Exists.intro) | apply Go.Eng.Pinned.mk rfl rfl | (apply Go.Eng.PinH.mk; apply Exists.intro; apply Exists.intro) | exact Go.Eng.Fin0.mk | refine Go.Eng.Chk.mk ?_ ?_ | refine Own.l ?_ | fail))
        refine ⟨(i + 1 : Nat), ?_, ?_, ?_⟩
        · show 64 * ws.length - (i + 1) < 64 * ws.length - i
          omega
        · show i + 1 ≤ 64 * ws.length
          omega
        · (repeat' (first | exact trivial | rfl | exact Nat.one_pos | (refine And.intro ?_ ?_) | omega | ((conv => whnf); (refine And.intro ?_ ?_)) | ((conv => whnf); exact trivial)))
          exact hsu.symm
      · rename_i hh
        rw [if_neg hh] at hsu
        (repeat' ((conv => whnf); first | (refine Giv.mk fun _ => ?_) | (refine Alt.l (Need.mk ?h ?_); case h => omega) | (refine Alt.r (Need.mk ?h ?_); case h => omega) | (refine Need.mk ?h ?_; case h => first | omega | (intro _; rfl) | assumption | (simp <;> omega)) | refine Ix.zero ?_ | refine Ix.one ?_ | refine Ix.two ?_ | refine Ix.nat ?_ | refine Ix.add ?_ | (apply Go.Eng.Pin.mk; apply Exists.intro) | apply Go.Eng.Pinned.mk rfl rfl | (apply Go.Eng.PinH.mk; apply Exists.intro; apply Exists.intro) | exact Go.Eng.Fin0.mk | refine Go.Eng.Chk.mk ?_ ?_ | refine Own.l ?_ | fail))
        refine ⟨(i + 1 : Nat), ?_, ?_, ?_⟩
        · show 64 * ws.length - (i + 1) < 64 * ws.length - i
          omega
        · show i + 1 ≤ 64 * ws.length
          omega
        · (repeat' (first | exact trivial | rfl | exact Nat.one_pos | (refine And.intro ?_ ?_) | omega | ((conv => whnf); (refine And.intro ?_ ?_)) | ((conv => whnf); exact trivial)))
          exact hsu.symm
    · have hii : i = 64 * ws.length := by omega
      subst hii
      (repeat' ((conv => whnf); first | (refine Giv.mk fun _ => ?_) | (refine Alt.l (Need.mk ?h ?_); case h => omega) | (refine Alt.r (Need.mk ?h ?_); case h => omega) | (refine Need.mk ?h ?_; case h => first | omega | (intro _; rfl) | assumption | (simp <;> omega)) | refine Ix.zero ?_ | refine Ix.one ?_ | refine Ix.two ?_ | refine Ix.nat ?_ | refine Ix.add ?_ | (apply Go.Eng.Pin.mk; apply Exists.intro) | apply Go.Eng.Pinned.mk rfl rfl | (apply Go.Eng.PinH.mk; apply Exists.intro; apply Exists.intro) | exact Go.Eng.Fin0.mk | refine Go.Eng.Chk.mk ?_ ?_ | refine Own.l ?_ | fail))
      (conv => whnf)
      (repeat' (first | exact trivial | rfl | exact Nat.one_pos | (refine And.intro ?_ ?_) | ((conv => whnf); (refine And.intro ?_ ?_)) | ((conv => whnf); exact trivial)))
def c54 : Con := mkCon 54 true fun args K => match args with | [.seq (.int .u64) ws] => Need (ws.length ≤ 1000) (K (Ls (memsTo ws (64 * ws.length)))) | _ => False
theorem k54 : ConOK Try.prog c54 := by
  refine conOK_of rfl (enters_of Try.func54 (by kernel_rfl) rfl) ?_
  intro args K h
  simp only [c54] at h
  split at h
  · rename_i ws; exact ⟨_, h.go, tri_of_body (Γ := [c52]) (by simp [k52]) Try.func54 (by simp [Try.ntmps54]) rfl (b54 ws h.ok)⟩
  · exact h.elim
end EB
end
section
set_option linter.unusedVariables false
open Go Go.Proofs Go.Eng Go.Shelf
namespace EB
set_option maxRecDepth 10000
/-! ### What rests on what -/
def rowOf (l : List (Int × Int)) (k m : Nat) : List Int := ((l.take k).filter fun r => decide (r.1 = (m : Int) ∧ 0 ≤ r.2)).map (·.2)
def onN (n : Nat) (l : List (Int × Int)) (k : Nat) : List (List Int) := (List.range n).map (rowOf l k)
def restB (l : List (Int × Int)) (k m : Nat) : Bool := (l.take k).any fun r => decide (r.1 = (m : Int))
def restN (n : Nat) (l : List (Int × Int)) (k : Nat) : List Bool := (List.range n).map (restB l k)
theorem onN_len (n : Nat) (l : List (Int × Int)) (k : Nat) : (onN n l k).length = n := by simp [onN]
theorem restN_len (n : Nat) (l : List (Int × Int)) (k : Nat) : (restN n l k).length = n := by simp [restN]
theorem onN_get (n : Nat) (l : List (Int × Int)) (k m : Nat) (h : m < n) : (onN n l k).getD m [] = rowOf l k m := by
  simp [onN, List.getD_eq_getElem?_getD, h]
theorem restN_get (n : Nat) (l : List (Int × Int)) (k m : Nat) (h : m < n) : (restN n l k).getD m false = restB l k m := by
  simp [restN, List.getD_eq_getElem?_getD, h]
theorem onN_zero (n : Nat) (l : List (Int × Int)) : onN n l 0 = List.replicate n [] := by
  apply List.ext_getElem <;> simp [onN, rowOf]
theorem restN_zero (n : Nat) (l : List (Int × Int)) : restN n l 0 = List.replicate n false := by
  apply List.ext_getElem <;> simp [restN, restB]
theorem take_pair (l : List (Int × Int)) (k : Nat) (h : k < l.length) : l.take (k + 1) = l.take k ++ [l.getD k (0, 0)] := by
  rw [List.take_succ_eq_append_getElem h]; simp [List.getD_eq_getElem?_getD, h]
theorem rowOf_len (l : List (Int × Int)) (k m : Nat) : (rowOf l k m).length ≤ l.length := by
  unfold rowOf
  rw [List.length_map]
  refine Nat.le_trans (List.length_filter_le _ _) ?_
  rw [List.length_take]; omega
theorem rowOf_succ (l : List (Int × Int)) (k m : Nat) (h : k < l.length) : rowOf l (k + 1) m = if (l.getD k (0, 0)).1 = (m : Int) ∧ 0 ≤ (l.getD k (0, 0)).2 then rowOf l k m ++ [(l.getD k (0, 0)).2] else rowOf l k m := by
  unfold rowOf
  rw [take_pair l k h, List.filter_append, List.map_append]
  by_cases e : (l.getD k (0, 0)).1 = (m : Int) ∧ 0 ≤ (l.getD k (0, 0)).2
  · rw [if_pos e]; simp only [List.filter_cons, decide_eq_true e]; rfl
  · rw [if_neg e]; simp only [List.filter_cons, decide_eq_false e]; simp
theorem restB_succ (l : List (Int × Int)) (k m : Nat) (h : k < l.length) : restB l (k + 1) m = (restB l k m || decide ((l.getD k (0, 0)).1 = (m : Int))) := by
  unfold restB
  rw [take_pair l k h, List.any_append]; simp
theorem onN_same (n : Nat) (l : List (Int × Int)) (k : Nat) (h : k < l.length) (h2 : ¬ 0 ≤ (l.getD k (0, 0)).2) : onN n l (k + 1) = onN n l k := by
  unfold onN
  refine List.map_congr_left fun m _ => ?_
  rw [rowOf_succ l k m h, if_neg fun e => h2 e.2]
theorem onN_step (n : Nat) (l : List (Int × Int)) (k u : Nat) (h : k < l.length) (hu : (l.getD k (0, 0)).1 = (u : Int)) (h2 : 0 ≤ (l.getD k (0, 0)).2) (hun : u < n) : (onN n l k).set u ((onN n l k).getD u [] ++ [(l.getD k (0, 0)).2]) = onN n l (k + 1) := by
  apply List.ext_getElem?
  intro m
  rw [List.getElem?_set, onN_len, onN_get _ _ _ _ hun]
  by_cases e : u = m
  · subst e
    simp only [if_true, if_pos hun, onN, List.getElem?_map, List.getElem?_range hun, Option.map_some]
    rw [rowOf_succ l k u h, if_pos ⟨hu, h2⟩]
  · rw [if_neg e]
    simp only [onN, List.getElem?_map]
    cases hm : (List.range n)[m]? with
    | none => rfl
    | some j =>
      have hj : j = m := by
        have := List.getElem?_eq_some_iff.1 hm
        obtain ⟨h1, h2⟩ := this
        simpa using h2.symm
      subst hj
      simp only [Option.map_some]
      rw [rowOf_succ l k j h, if_neg (by rintro ⟨h1, _⟩; omega)]
theorem restN_step (n : Nat) (l : List (Int × Int)) (k u : Nat) (h : k < l.length) (hu : (l.getD k (0, 0)).1 = (u : Int)) (hun : u < n) : (restN n l k).set u true = restN n l (k + 1) := by
  apply List.ext_getElem?
  intro m
  rw [List.getElem?_set, restN_len]
  by_cases e : u = m
  · subst e
    simp only [if_true, if_pos hun, restN, List.getElem?_map, List.getElem?_range hun, Option.map_some]
    rw [restB_succ l k u h, decide_eq_true hu, Bool.or_true]
  · rw [if_neg e]
    simp only [restN, List.getElem?_map]
    cases hm : (List.range n)[m]? with
    | none => rfl
    | some j =>
      have hj : j = m := by
        have := List.getElem?_eq_some_iff.1 hm
        obtain ⟨h1, h2⟩ := this
        simpa using h2.symm
      subst hj
      simp only [Option.map_some]
      rw [restB_succ l k j h, decide_eq_false (by omega), Bool.or_false]
/-- Rests that can be. -/
def RestsOk (n : Int) (l : List (Int × Int)) : Prop := l.length ≤ 4096 ∧ 0 ≤ n ∧ n ≤ 512 ∧ ∀ i, i < l.length → 0 ≤ (l.getD i (0, 0)).1 ∧ (l.getD i (0, 0)).1 < n ∧ -1 ≤ (l.getD i (0, 0)).2 ∧ (l.getD i (0, 0)).2 < n
theorem b48 (n : Int) (l : List (Int × Int)) (h : RestsOk n l) : body Try.prog [] { asks := [(0, [])] } true Try.f48 [I n, Ps l] (.agg [.seq (.slice (.int .i64)) (onN n.toNat l l.length), .seq .bool (restN n.toNat l l.length)]) := by
  obtain ⟨h1, h2, h3, h4⟩ := h
  (repeat' ((conv => whnf); first | (refine Giv.mk fun _ => ?_) | (refine Alt.l (Need.mk ?h ?_); case h => omega) | (refine Alt.r (Need.mk ?h ?_); case h => omega) | (refine Need.mk ?h ?_; case h => first | omega | (intro _; rfl) | assumption | (simp <;> omega)) | refine Ix.zero ?_ | refine Ix.one ?_ | refine Ix.two ?_ | refine Ix.nat ?_ | refine Ix.add ?_ | (apply Go.Eng.Pin.mk; apply Exists.intro) | apply Go.Eng.Pinned.mk rfl rfl | (apply Go.Eng.PinH.mk; apply Exists.intro; apply Exists.intro) | exact Go.Eng.Fin0.mk | refine Go.Eng.Chk.mk ?_ ?_ | refine Own.l ?_ | fail))
  refine Need.mk (show 0 ≤ n ∧ n ≤ n ∧ n ≤ 140737488355328 ∧ n * ((24 : Nat) : Int) ≤ 140737488355328 by omega) ?_
  (repeat' ((conv => whnf); first | (refine Giv.mk fun _ => ?_) | (refine Alt.l (Need.mk ?h ?_); case h => omega) | (refine Alt.r (Need.mk ?h ?_); case h => omega) | (refine Need.mk ?h ?_; case h => first | omega | (intro _; rfl) | assumption | (simp <;> omega)) | refine Ix.zero ?_ | refine Ix.one ?_ | refine Ix.two ?_ | refine Ix.nat ?_ | refine Ix.add ?_ | (apply Go.Eng.Pin.mk; apply Exists.intro) | apply Go.Eng.Pinned.mk rfl rfl | (apply Go.Eng.PinH.mk; apply Exists.intro; apply Exists.intro) | exact Go.Eng.Fin0.mk | refine Go.Eng.Chk.mk ?_ ?_ | refine Own.l ?_ | fail))
  refine Need.mk (show 0 ≤ n ∧ n ≤ n ∧ n ≤ 140737488355328 ∧ n * ((1 : Nat) : Int) ≤ 140737488355328 by omega) ?_
  (repeat' ((conv => whnf); first | (refine Giv.mk fun _ => ?_) | (refine Alt.l (Need.mk ?h ?_); case h => omega) | (refine Alt.r (Need.mk ?h ?_); case h => omega) | (refine Need.mk ?h ?_; case h => first | omega | (intro _; rfl) | assumption | (simp <;> omega)) | refine Ix.zero ?_ | refine Ix.one ?_ | refine Ix.two ?_ | refine Ix.nat ?_ | refine Ix.add ?_ | (apply Go.Eng.Pin.mk; apply Exists.intro) | apply Go.Eng.Pinned.mk rfl rfl | (apply Go.Eng.PinH.mk; apply Exists.intro; apply Exists.intro) | exact Go.Eng.Fin0.mk | refine Go.Eng.Chk.mk ?_ ?_ | refine Own.l ?_ | fail))
  refine Ask.mk ⟨{ X := Nat × Nat, pre := fun x => x.1 ≤ l.length, mod := fun x _ => [(15, I x.1)], heap := fun x _ => [.cells [.val (.slice none 0 0), .val (.slice none 0 0)] 75, .vv 1 x.2 (.int .i64) (onN n.toNat l x.1) none 27 3, .vec 1 .bool (restN n.toNat l x.1) 4, .cells [.ref 1 1, .ref 2 1] 75], mu := fun x => l.length - x.1 }, rfl, ?_⟩
  (repeat' ((conv => whnf); first | (refine Giv.mk fun _ => ?_) | (refine Alt.l (Need.mk ?h ?_); case h => omega) | (refine Alt.r (Need.mk ?h ?_); case h => omega) | (refine Need.mk ?h ?_; case h => first | omega | (intro _; rfl) | assumption | (simp <;> omega)) | refine Ix.zero ?_ | refine Ix.one ?_ | refine Ix.two ?_ | refine Ix.nat ?_ | refine Ix.add ?_ | (apply Go.Eng.Pin.mk; apply Exists.intro) | apply Go.Eng.Pinned.mk rfl rfl | (apply Go.Eng.PinH.mk; apply Exists.intro; apply Exists.intro) | exact Go.Eng.Fin0.mk | refine Go.Eng.Chk.mk ?_ ?_ | refine Own.l ?_ | fail))
  refine ⟨⟨((0 : Nat), (0 : Nat)), Nat.zero_le _, ?_⟩, fun (x : Nat × Nat) hi => ?_⟩
  · (repeat' (first | exact trivial | rfl | exact Nat.one_pos | (refine And.intro ?_ ?_) | omega | ((conv => whnf); (refine And.intro ?_ ?_)) | ((conv => whnf); exact trivial)))
    · exact (onN_zero _ _).symm
    · exact (restN_zero _ _).symm
  · have hi : x.1 ≤ l.length := hi
    have hol := onN_len n.toNat l x.1
    have hrl := restN_len n.toNat l x.1
    (repeat' ((conv => whnf); first | (refine Giv.mk fun _ => ?_) | (refine Alt.l (Need.mk ?h ?_); case h => omega) | (refine Alt.r (Need.mk ?h ?_); case h => omega) | (refine Need.mk ?h ?_; case h => first | omega | (intro _; rfl) | assumption | (simp <;> omega)) | refine Ix.zero ?_ | refine Ix.one ?_ | refine Ix.two ?_ | refine Ix.nat ?_ | refine Ix.add ?_ | (apply Go.Eng.Pin.mk; apply Exists.intro) | apply Go.Eng.Pinned.mk rfl rfl | (apply Go.Eng.PinH.mk; apply Exists.intro; apply Exists.intro) | exact Go.Eng.Fin0.mk | refine Go.Eng.Chk.mk ?_ ?_ | refine Own.l ?_ | fail))
    (refine Br.mk (fun _ => ?_) (fun _ => ?_))
    · have hlt : x.1 < l.length := by omega
      obtain ⟨g1, g2, g3, g4⟩ := h4 x.1 hlt
      have hun : (l.getD x.1 (0, 0)).1.toNat < n.toNat := by omega
      have hu : (l.getD x.1 (0, 0)).1 = ((l.getD x.1 (0, 0)).1.toNat : Int) := by omega
      have hrs := restN_step n.toNat l x.1 _ hlt hu hun
      have hrow := rowOf_len l x.1 (l.getD x.1 (0, 0)).1.toNat
      have hget := onN_get n.toNat l x.1 _ hun
      (repeat' ((conv => whnf); first | (refine Giv.mk fun _ => ?_) | (refine Alt.l (Need.mk ?h ?_); case h => omega) | (refine Alt.r (Need.mk ?h ?_); case h => omega) | (refine Need.mk ?h ?_; case h => first | omega | (intro _; rfl) | assumption | (simp <;> omega)) | refine Ix.zero ?_ | refine Ix.one ?_ | refine Ix.two ?_ | refine Ix.nat ?_ | refine Ix.add ?_ | (apply Go.Eng.Pin.mk; apply Exists.intro) | apply Go.Eng.Pinned.mk rfl rfl | (apply Go.Eng.PinH.mk; apply Exists.intro; apply Exists.intro) | exact Go.Eng.Fin0.mk | refine Go.Eng.Chk.mk ?_ ?_ | refine Own.l ?_ | fail))
      refine ix_at (l.getD x.1 (0, 0)).1.toNat hu ?_
      (repeat' ((conv => whnf); first | (refine Giv.mk fun _ => ?_) | (refine Alt.l (Need.mk ?h ?_); case h => omega) | (refine Alt.r (Need.mk ?h ?_); case h => omega) | (refine Need.mk ?h ?_; case h => first | omega | (intro _; rfl) | assumption | (simp <;> omega)) | refine Ix.zero ?_ | refine Ix.one ?_ | refine Ix.two ?_ | refine Ix.nat ?_ | refine Ix.add ?_ | (apply Go.Eng.Pin.mk; apply Exists.intro) | apply Go.Eng.Pinned.mk rfl rfl | (apply Go.Eng.PinH.mk; apply Exists.intro; apply Exists.intro) | exact Go.Eng.Fin0.mk | refine Go.Eng.Chk.mk ?_ ?_ | refine Own.l ?_ | fail))
      (refine Br.mk (fun _ => ?_) (fun _ => ?_))
      · (repeat' ((conv => whnf); first | (refine Giv.mk fun _ => ?_) | (refine Alt.l (Need.mk ?h ?_); case h => omega) | (refine Alt.r (Need.mk ?h ?_); case h => omega) | (refine Need.mk ?h ?_; case h => first | omega | (intro _; rfl) | assumption | (simp <;> omega)) | refine Ix.zero ?_ | refine Ix.one ?_ | refine Ix.two ?_ | refine Ix.nat ?_ | refine Ix.add ?_ | (apply Go.Eng.Pin.mk; apply Exists.intro) | apply Go.Eng.Pinned.mk rfl rfl | (apply Go.Eng.PinH.mk; apply Exists.intro; apply Exists.intro) | exact Go.Eng.Fin0.mk | refine Go.Eng.Chk.mk ?_ ?_ | refine Own.l ?_ | fail))
        refine ix_at (l.getD x.1 (0, 0)).1.toNat hu ?_
        (repeat' ((conv => whnf); first | (refine Giv.mk fun _ => ?_) | (refine Alt.l (Need.mk ?h ?_); case h => omega) | (refine Alt.r (Need.mk ?h ?_); case h => omega) | (refine Need.mk ?h ?_; case h => first | omega | (intro _; rfl) | assumption | (simp <;> omega)) | refine Ix.zero ?_ | refine Ix.one ?_ | refine Ix.two ?_ | refine Ix.nat ?_ | refine Ix.add ?_ | (apply Go.Eng.Pin.mk; apply Exists.intro) | apply Go.Eng.Pinned.mk rfl rfl | (apply Go.Eng.PinH.mk; apply Exists.intro; apply Exists.intro) | exact Go.Eng.Fin0.mk | refine Go.Eng.Chk.mk ?_ ?_ | refine Own.l ?_ | fail))
        refine Need.mk (show ((onN n.toNat l x.1).getD (l.getD x.1 (0, 0)).1.toNat []).length + 1 ≤ 17592186044416 by rw [hget]; omega) ?_
        (repeat' ((conv => whnf); first | (refine Giv.mk fun _ => ?_) | (refine Alt.l (Need.mk ?h ?_); case h => omega) | (refine Alt.r (Need.mk ?h ?_); case h => omega) | (refine Need.mk ?h ?_; case h => first | omega | (intro _; rfl) | assumption | (simp <;> omega)) | refine Ix.zero ?_ | refine Ix.one ?_ | refine Ix.two ?_ | refine Ix.nat ?_ | refine Ix.add ?_ | (apply Go.Eng.Pin.mk; apply Exists.intro) | apply Go.Eng.Pinned.mk rfl rfl | (apply Go.Eng.PinH.mk; apply Exists.intro; apply Exists.intro) | exact Go.Eng.Fin0.mk | refine Go.Eng.Chk.mk ?_ ?_ | refine Own.l ?_ | fail))
        · refine Need.mk (show ((onN n.toNat l x.1).getD (l.getD x.1 (0, 0)).1.toNat []).length + 1 ≤ 17592186044416 by rw [hget]; omega) ?_
          (repeat' ((conv => whnf); first | (refine Giv.mk fun _ => ?_) | (refine Alt.l (Need.mk ?h ?_); case h => omega) | (refine Alt.r (Need.mk ?h ?_); case h => omega) | (refine Need.mk ?h ?_; case h => first | omega | (intro _; rfl) | assumption | (simp <;> omega)) | refine Ix.zero ?_ | refine Ix.one ?_ | refine Ix.two ?_ | refine Ix.nat ?_ | refine Ix.add ?_ | (apply Go.Eng.Pin.mk; apply Exists.intro) | apply Go.Eng.Pinned.mk rfl rfl | (apply Go.Eng.PinH.mk; apply Exists.intro; apply Exists.intro) | exact Go.Eng.Fin0.mk | refine Go.Eng.Chk.mk ?_ ?_ | refine Own.l ?_ | fail))
        · refine ix_at (l.getD x.1 (0, 0)).1.toNat hu ?_
          (repeat' ((conv => whnf); first | (refine Giv.mk fun _ => ?_) | (refine Alt.l (Need.mk ?h ?_); case h => omega) | (refine Alt.r (Need.mk ?h ?_); case h => omega) | (refine Need.mk ?h ?_; case h => first | omega | (intro _; rfl) | assumption | (simp <;> omega)) | refine Ix.zero ?_ | refine Ix.one ?_ | refine Ix.two ?_ | refine Ix.nat ?_ | refine Ix.add ?_ | (apply Go.Eng.Pin.mk; apply Exists.intro) | apply Go.Eng.Pinned.mk rfl rfl | (apply Go.Eng.PinH.mk; apply Exists.intro; apply Exists.intro) | exact Go.Eng.Fin0.mk | refine Go.Eng.Chk.mk ?_ ?_ | refine Own.l ?_ | fail))
        · refine ix_at (l.getD x.1 (0, 0)).1.toNat hu ?_
          (repeat' ((conv => whnf); first | (refine Giv.mk fun _ => ?_) | (refine Alt.l (Need.mk ?h ?_); case h => omega) | (refine Alt.r (Need.mk ?h ?_); case h => omega) | (refine Need.mk ?h ?_; case h => first | omega | (intro _; rfl) | assumption | (simp <;> omega)) | refine Ix.zero ?_ | refine Ix.one ?_ | refine Ix.two ?_ | refine Ix.nat ?_ | refine Ix.add ?_ | (apply Go.Eng.Pin.mk; apply Exists.intro) | apply Go.Eng.Pinned.mk rfl rfl | (apply Go.Eng.PinH.mk; apply Exists.intro; apply Exists.intro) | exact Go.Eng.Fin0.mk | refine Go.Eng.Chk.mk ?_ ?_ | refine Own.l ?_ | fail))
          refine Need.mk (show ((onN n.toNat l x.1).getD (l.getD x.1 (0, 0)).1.toNat [] ++ [(l.getD x.1 (0, 0)).2]).length ≤ 140737488355328 by rw [hget, List.length_append, List.length_singleton]; omega) ?_
          (repeat' ((conv => whnf); first | (refine Giv.mk fun _ => ?_) | (refine Alt.l (Need.mk ?h ?_); case h => omega) | (refine Alt.r (Need.mk ?h ?_); case h => omega) | (refine Need.mk ?h ?_; case h => first | omega | (intro _; rfl) | assumption | (simp <;> omega)) | refine Ix.zero ?_ | refine Ix.one ?_ | refine Ix.two ?_ | refine Ix.nat ?_ | refine Ix.add ?_ | (apply Go.Eng.Pin.mk; apply Exists.intro) | apply Go.Eng.Pinned.mk rfl rfl | (apply Go.Eng.PinH.mk; apply Exists.intro; apply Exists.intro) | exact Go.Eng.Fin0.mk | refine Go.Eng.Chk.mk ?_ ?_ | refine Own.l ?_ | fail))
          refine ⟨((x.1 + 1 : Nat), (x.2 + 1 + 1 : Nat)), ?_, ?_, ?_⟩
          · show l.length - (x.1 + 1) < l.length - x.1
            omega
          · show x.1 + 1 ≤ l.length
            omega
          · (repeat' (first | exact trivial | rfl | exact Nat.one_pos | (refine And.intro ?_ ?_) | omega | ((conv => whnf); (refine And.intro ?_ ?_)) | ((conv => whnf); exact trivial)))
            · exact onN_step n.toNat l x.1 _ hlt hu ‹_› hun
            · exact hrs
      · have hos := onN_same n.toNat l x.1 hlt ‹_›
        (repeat' ((conv => whnf); first | (refine Giv.mk fun _ => ?_) | (refine Alt.l (Need.mk ?h ?_); case h => omega) | (refine Alt.r (Need.mk ?h ?_); case h => omega) | (refine Need.mk ?h ?_; case h => first | omega | (intro _; rfl) | assumption | (simp <;> omega)) | refine Ix.zero ?_ | refine Ix.one ?_ | refine Ix.two ?_ | refine Ix.nat ?_ | refine Ix.add ?_ | (apply Go.Eng.Pin.mk; apply Exists.intro) | apply Go.Eng.Pinned.mk rfl rfl | (apply Go.Eng.PinH.mk; apply Exists.intro; apply Exists.intro) | exact Go.Eng.Fin0.mk | refine Go.Eng.Chk.mk ?_ ?_ | refine Own.l ?_ | fail))
        (conv => whnf)
        refine ⟨((x.1 + 1 : Nat), x.2), ?_, ?_, ?_⟩
        · show l.length - (x.1 + 1) < l.length - x.1
          omega
        · show x.1 + 1 ≤ l.length
          omega
        · (repeat' (first | exact trivial | rfl | exact Nat.one_pos | (refine And.intro ?_ ?_) | omega | ((conv => whnf); (refine And.intro ?_ ?_)) | ((conv => whnf); exact trivial)))
          · exact hos.symm
          · exact hrs
    · have hii : x.1 = l.length := by omega
      (repeat' ((conv => whnf); first | (refine Giv.mk fun _ => ?_) | (refine Alt.l (Need.mk ?h ?_); case h => omega) | (refine Alt.r (Need.mk ?h ?_); case h => omega) | (refine Need.mk ?h ?_; case h => first | omega | (intro _; rfl) | assumption | (simp <;> omega)) | refine Ix.zero ?_ | refine Ix.one ?_ | refine Ix.two ?_ | refine Ix.nat ?_ | refine Ix.add ?_ | (apply Go.Eng.Pin.mk; apply Exists.intro) | apply Go.Eng.Pinned.mk rfl rfl | (apply Go.Eng.PinH.mk; apply Exists.intro; apply Exists.intro) | exact Go.Eng.Fin0.mk | refine Go.Eng.Chk.mk ?_ ?_ | refine Own.l ?_ | fail))
      (conv => whnf)
      refine ⟨?_, ?_, trivial⟩
      · (conv => whnf)
        rw [hii]
      · (conv => whnf)
        rw [hii]
def c48 : Con := mkCon 48 true fun args K => match args with | [.val (.int .i64 n), .seq (.pair (.int .i64) (.int .i64)) l] => Need (RestsOk n l) (K (.agg [.seq (.slice (.int .i64)) (onN n.toNat l l.length), .seq .bool (restN n.toNat l l.length)])) | _ => False
theorem k48 : ConOK Try.prog c48 := by
  refine conOK_of rfl (enters_of Try.func48 (by kernel_rfl) rfl) ?_
  intro args K h
  simp only [c48] at h
  split at h
  · rename_i n l; exact ⟨_, h.go, tri_of_body (Γ := []) (by simp) Try.func48 (by simp [Try.ntmps48]) rfl (b48 n l h.ok)⟩
  · exact h.elim
end EB
end
section
set_option linter.unusedVariables false
open Go Go.Proofs Go.Eng Go.Shelf
namespace EB
set_option maxRecDepth 10000
/-! ### The first element with a property -/
def idxOf {α : Type} (p : α → Bool) (xs : List α) : Int := match xs.findIdx? p with
  | some i => i
  | none => -1
theorem idxOf_none {α : Type} {p : α → Bool} {xs : List α} (d : α) (h : ∀ j, j < xs.length → p (xs.getD j d) = false) : idxOf p xs = -1 := by
  have : xs.findIdx? p = none := by
    rw [List.findIdx?_eq_none_iff]
    intro x hx
    obtain ⟨j, hj, rfl⟩ := List.getElem_of_mem hx
    have := h j hj
    simpa [List.getD_eq_getElem?_getD, hj] using this
  simp [idxOf, this]
theorem idxOf_some {α : Type} {p : α → Bool} {xs : List α} (d : α) {i : Nat} (hi : i < xs.length) (hp : p (xs.getD i d) = true) (h : ∀ j, j < i → p (xs.getD j d) = false) : idxOf p xs = i := by
  have : xs.findIdx? p = some i := by
    rw [List.findIdx?_eq_some_iff_getElem]
    refine ⟨hi, by simpa [List.getD_eq_getElem?_getD, hi] using hp, fun j hj => ?_⟩
    have := h j hj
    have hj' : j < xs.length := by omega
    simpa [List.getD_eq_getElem?_getD, hj'] using this
  simp [idxOf, this]
theorem idxOf_pos {α : Type} (p : α → Bool) (xs : List α) : 0 ≤ idxOf p xs ↔ xs.any p = true := by
  unfold idxOf
  cases h : xs.findIdx? p with
  | none =>
    rw [List.findIdx?_eq_none_iff] at h
    simp only
    constructor
    · intro h; omega
    · intro h2
      rw [List.any_eq_true] at h2
      obtain ⟨x, hx, hp⟩ := h2
      rw [h x hx] at hp; cases hp
  | some i =>
    rw [List.findIdx?_eq_some_iff_getElem] at h
    obtain ⟨hi, hp, _⟩ := h
    simp only
    constructor
    · intro _
      rw [List.any_eq_true]
      exact ⟨_, List.getElem_mem hi, hp⟩
    · intro _; omega
/-! ### Whether a member is ready -/
theorem b73 (k : Int) (ws : List Int) (h : 0 ≤ k) : body Try.prog [c52] {} true Try.f73 [I k, .lelem [Ws ws] 0] (.bl (¬ hasW ws k) inferInstance) := by
  (repeat' ((conv => whnf); first | (refine Giv.mk fun _ => ?_) | (refine Alt.l (Need.mk ?h ?_); case h => omega) | (refine Alt.r (Need.mk ?h ?_); case h => omega) | (refine Need.mk ?h ?_; case h => first | omega | (intro _; rfl) | assumption | (simp <;> omega)) | refine Ix.zero ?_ | refine Ix.one ?_ | refine Ix.two ?_ | refine Ix.nat ?_ | refine Ix.add ?_ | (apply Go.Eng.Pin.mk; apply Exists.intro) | apply Go.Eng.Pinned.mk rfl rfl | (apply Go.Eng.PinH.mk; apply Exists.intro; apply Exists.intro) | exact Go.Eng.Fin0.mk | refine Go.Eng.Chk.mk ?_ ?_ | refine Own.l ?_ | fail))
  (conv => whnf)
  (repeat' (first | exact trivial | rfl | exact Nat.one_pos | (refine And.intro ?_ ?_) | ((conv => whnf); (refine And.intro ?_ ?_)) | ((conv => whnf); exact trivial)))
def c73 : Con := mkCon 73 true fun args K => match args with | [.val (.int .i64 k), .lelem [.seq (.int .u64) ws] 0] => Need (0 ≤ k) (K (.bl (¬ hasW ws k) inferInstance)) | _ => False
theorem k73 : ConOK Try.prog c73 := by
  refine conOK_of rfl (enters_of Try.func73 (by kernel_rfl) rfl) ?_
  intro args K h
  simp only [c73] at h
  split at h
  · rename_i k ws; exact ⟨_, h.go, tri_of_body (Γ := [c52]) (by simp [k52]) Try.func73 (by simp [Try.ntmps73]) rfl (b73 k ws h.ok)⟩
  · exact h.elim
def anIx {α : Type} (t : Nat) (p : α → Bool) (xs : List α) (d : α) : Ann := { X := Nat, pre := fun i => i ≤ xs.length ∧ ∀ j, j < i → p (xs.getD j d) = false, mod := fun i _ => [(t, I i)], mu := fun i => xs.length - i }
def lackP (ws : List Int) (k : Int) : Bool := decide (¬ hasW ws k)
theorem b56 (xs ws : List Int) (h : ∀ j, j < xs.length → 0 ≤ xs.getD j 0) : body Try.prog [c73] { loops := [(0, anIx 8 (lackP ws) xs 0)] } false Try.f56 [Ls xs, .clo 73 [] [.lelem [Ws ws] 0]] (I (idxOf (lackP ws) xs)) := by
  (repeat' ((conv => whnf); first | (refine Giv.mk fun _ => ?_) | (refine Alt.l (Need.mk ?h ?_); case h => omega) | (refine Alt.r (Need.mk ?h ?_); case h => omega) | (refine Need.mk ?h ?_; case h => first | omega | (intro _; rfl) | assumption | (simp <;> omega)) | refine Ix.zero ?_ | refine Ix.one ?_ | refine Ix.two ?_ | refine Ix.nat ?_ | refine Ix.add ?_ | (apply Go.Eng.Pin.mk; apply Exists.intro) | apply Go.Eng.Pinned.mk rfl rfl | (apply Go.Eng.PinH.mk; apply Exists.intro; apply Exists.intro) | exact Go.Eng.Fin0.mk | refine Go.Eng.Chk.mk ?_ ?_ | refine Own.l ?_ | fail))
  refine ⟨⟨(0 : Nat), ⟨Nat.zero_le _, by omega⟩, by (repeat' (first | exact trivial | rfl | exact Nat.one_pos | (refine And.intro ?_ ?_) | omega | ((conv => whnf); (refine And.intro ?_ ?_)) | ((conv => whnf); exact trivial)))⟩, fun (i : Nat) hi => ?_⟩
  obtain ⟨hi, hb⟩ := hi
  (repeat' ((conv => whnf); first | (refine Giv.mk fun _ => ?_) | (refine Alt.l (Need.mk ?h ?_); case h => omega) | (refine Alt.r (Need.mk ?h ?_); case h => omega) | (refine Need.mk ?h ?_; case h => first | omega | (intro _; rfl) | assumption | (simp <;> omega)) | refine Ix.zero ?_ | refine Ix.one ?_ | refine Ix.two ?_ | refine Ix.nat ?_ | refine Ix.add ?_ | (apply Go.Eng.Pin.mk; apply Exists.intro) | apply Go.Eng.Pinned.mk rfl rfl | (apply Go.Eng.PinH.mk; apply Exists.intro; apply Exists.intro) | exact Go.Eng.Fin0.mk | refine Go.Eng.Chk.mk ?_ ?_ | refine Own.l ?_ | fail))
  (refine Br.mk (fun _ => ?_) (fun _ => ?_))
  · have hlt : i < xs.length := by omega
    have h0 := h i hlt
    (repeat' ((conv => whnf); first | (refine Giv.mk fun _ => ?_) | (refine Alt.l (Need.mk ?h ?_); case h => omega) | (refine Alt.r (Need.mk ?h ?_); case h => omega) | (refine Need.mk ?h ?_; case h => first | omega | (intro _; rfl) | assumption | (simp <;> omega)) | refine Ix.zero ?_ | refine Ix.one ?_ | refine Ix.two ?_ | refine Ix.nat ?_ | refine Ix.add ?_ | (apply Go.Eng.Pin.mk; apply Exists.intro) | apply Go.Eng.Pinned.mk rfl rfl | (apply Go.Eng.PinH.mk; apply Exists.intro; apply Exists.intro) | exact Go.Eng.Fin0.mk | refine Go.Eng.Chk.mk ?_ ?_ | refine Own.l ?_ | fail))
    (refine Br.mk (fun _ => ?_) (fun _ => ?_))
    · rename_i hh
      (repeat' ((conv => whnf); first | (refine Giv.mk fun _ => ?_) | (refine Alt.l (Need.mk ?h ?_); case h => omega) | (refine Alt.r (Need.mk ?h ?_); case h => omega) | (refine Need.mk ?h ?_; case h => first | omega | (intro _; rfl) | assumption | (simp <;> omega)) | refine Ix.zero ?_ | refine Ix.one ?_ | refine Ix.two ?_ | refine Ix.nat ?_ | refine Ix.add ?_ | (apply Go.Eng.Pin.mk; apply Exists.intro) | apply Go.Eng.Pinned.mk rfl rfl | (apply Go.Eng.PinH.mk; apply Exists.intro; apply Exists.intro) | exact Go.Eng.Fin0.mk | refine Go.Eng.Chk.mk ?_ ?_ | refine Own.l ?_ | fail))
      (conv => whnf)
      exact ⟨rfl, (idxOf_some 0 hlt (decide_eq_true hh) hb).symm⟩
    · rename_i hh
      (repeat' ((conv => whnf); first | (refine Giv.mk fun _ => ?_) | (refine Alt.l (Need.mk ?h ?_); case h => omega) | (refine Alt.r (Need.mk ?h ?_); case h => omega) | (refine Need.mk ?h ?_; case h => first | omega | (intro _; rfl) | assumption | (simp <;> omega)) | refine Ix.zero ?_ | refine Ix.one ?_ | refine Ix.two ?_ | refine Ix.nat ?_ | refine Ix.add ?_ | (apply Go.Eng.Pin.mk; apply Exists.intro) | apply Go.Eng.Pinned.mk rfl rfl | (apply Go.Eng.PinH.mk; apply Exists.intro; apply Exists.intro) | exact Go.Eng.Fin0.mk | refine Go.Eng.Chk.mk ?_ ?_ | refine Own.l ?_ | fail))
      refine ⟨(i + 1 : Nat), by show xs.length - (i + 1) < xs.length - i; omega, ⟨hlt, fun j hj => ?_⟩, by (repeat' (first | exact trivial | rfl | exact Nat.one_pos | (refine And.intro ?_ ?_) | omega | ((conv => whnf); (refine And.intro ?_ ?_)) | ((conv => whnf); exact trivial)))⟩
      by_cases e : j = i
      · subst e; exact decide_eq_false hh
      · exact hb j (by omega)
  · have hii : i = xs.length := by omega
    subst hii
    (repeat' ((conv => whnf); first | (refine Giv.mk fun _ => ?_) | (refine Alt.l (Need.mk ?h ?_); case h => omega) | (refine Alt.r (Need.mk ?h ?_); case h => omega) | (refine Need.mk ?h ?_; case h => first | omega | (intro _; rfl) | assumption | (simp <;> omega)) | refine Ix.zero ?_ | refine Ix.one ?_ | refine Ix.two ?_ | refine Ix.nat ?_ | refine Ix.add ?_ | (apply Go.Eng.Pin.mk; apply Exists.intro) | apply Go.Eng.Pinned.mk rfl rfl | (apply Go.Eng.PinH.mk; apply Exists.intro; apply Exists.intro) | exact Go.Eng.Fin0.mk | refine Go.Eng.Chk.mk ?_ ?_ | refine Own.l ?_ | fail))
    (conv => whnf)
    exact ⟨rfl, (idxOf_none 0 hb).symm⟩
def c56 : Con := mkCon 56 false fun args K => match args with | [.seq (.int .i64) xs, .clo 73 [] [.lelem [.seq (.int .u64) ws] 0]] => Need (∀ j, j < xs.length → 0 ≤ xs.getD j 0) (K (I (idxOf (lackP ws) xs))) | _ => False
theorem k56 : ConOK Try.prog c56 := by
  refine conOK_of rfl (enters_of Try.func56 (by kernel_rfl) rfl) ?_
  intro args K h
  simp only [c56] at h
  split at h
  · rename_i xs ws; exact ⟨_, h.go, tri_of_body (Γ := [c73]) (by simp [k73]) Try.func56 (by simp [Try.ntmps56]) rfl (b56 xs ws h.ok)⟩
  · exact h.elim
theorem b18 (xs ws : List Int) (h : ∀ j, j < xs.length → 0 ≤ xs.getD j 0) : body Try.prog [c56] {} false Try.f18 [Ls xs, .clo 73 [] [.lelem [Ws ws] 0]] (.bl (xs.any (lackP ws) = true) inferInstance) := by
  (repeat' ((conv => whnf); first | (refine Giv.mk fun _ => ?_) | (refine Alt.l (Need.mk ?h ?_); case h => omega) | (refine Alt.r (Need.mk ?h ?_); case h => omega) | (refine Need.mk ?h ?_; case h => first | omega | (intro _; rfl) | assumption | (simp <;> omega)) | refine Ix.zero ?_ | refine Ix.one ?_ | refine Ix.two ?_ | refine Ix.nat ?_ | refine Ix.add ?_ | (apply Go.Eng.Pin.mk; apply Exists.intro) | apply Go.Eng.Pinned.mk rfl rfl | (apply Go.Eng.PinH.mk; apply Exists.intro; apply Exists.intro) | exact Go.Eng.Fin0.mk | refine Go.Eng.Chk.mk ?_ ?_ | refine Own.l ?_ | fail))
  (conv => whnf)
  exact idxOf_pos _ _
def c18 : Con := mkCon 18 false fun args K => match args with | [.seq (.int .i64) xs, .clo 73 [] [.lelem [.seq (.int .u64) ws] 0]] => Need (∀ j, j < xs.length → 0 ≤ xs.getD j 0) (K (.bl (xs.any (lackP ws) = true) inferInstance)) | _ => False
theorem k18 : ConOK Try.prog c18 := by
  refine conOK_of rfl (enters_of Try.func18 (by kernel_rfl) rfl) ?_
  intro args K h
  simp only [c18] at h
  split at h
  · rename_i xs ws; exact ⟨_, h.go, tri_of_body (Γ := [c56]) (by simp [k56]) Try.func18 (by simp [Try.ntmps18]) rfl (b18 xs ws h.ok)⟩
  · exact h.elim
/-- Whether a member can be put up, but for a prop. -/
def readyP (on : List (List Int)) (ws : List Int) (i : Int) : Prop := ¬ hasW ws i ∧ ¬ (on.getD i.toNat []).any (lackP ws) = true
instance (on : List (List Int)) (ws : List Int) (i : Int) : Decidable (readyP on ws i) := by unfold readyP; exact inferInstance
/-- Rows that name members. -/
def RowsOk (on : List (List Int)) : Prop := ∀ i, i < on.length → ∀ j, j < (on.getD i []).length → 0 ≤ (on.getD i []).getD j 0
theorem b49 (on : List (List Int)) (rs : List Bool) (i : Int) (ws : List Int) (h : RowsOk on ∧ 0 ≤ i ∧ i < on.length) : body Try.prog [c18, c52] {} true Try.f49 [.agg [.seq (.slice (.int .i64)) on, .seq .bool rs], I i, Ws ws] (.bl (readyP on ws i) inferInstance) := by
  obtain ⟨h1, h2, h3⟩ := h
  have hr := h1 i.toNat (by omega)
  (repeat' ((conv => whnf); first | (refine Giv.mk fun _ => ?_) | (refine Alt.l (Need.mk ?h ?_); case h => omega) | (refine Alt.r (Need.mk ?h ?_); case h => omega) | (refine Need.mk ?h ?_; case h => first | omega | (intro _; rfl) | assumption | (simp <;> omega)) | refine Ix.zero ?_ | refine Ix.one ?_ | refine Ix.two ?_ | refine Ix.nat ?_ | refine Ix.add ?_ | (apply Go.Eng.Pin.mk; apply Exists.intro) | apply Go.Eng.Pinned.mk rfl rfl | (apply Go.Eng.PinH.mk; apply Exists.intro; apply Exists.intro) | exact Go.Eng.Fin0.mk | refine Go.Eng.Chk.mk ?_ ?_ | refine Own.l ?_ | fail))
  (refine Br.mk (fun _ => ?_) (fun _ => ?_))
  · rename_i hh
    (repeat' ((conv => whnf); first | (refine Giv.mk fun _ => ?_) | (refine Alt.l (Need.mk ?h ?_); case h => omega) | (refine Alt.r (Need.mk ?h ?_); case h => omega) | (refine Need.mk ?h ?_; case h => first | omega | (intro _; rfl) | assumption | (simp <;> omega)) | refine Ix.zero ?_ | refine Ix.one ?_ | refine Ix.two ?_ | refine Ix.nat ?_ | refine Ix.add ?_ | (apply Go.Eng.Pin.mk; apply Exists.intro) | apply Go.Eng.Pinned.mk rfl rfl | (apply Go.Eng.PinH.mk; apply Exists.intro; apply Exists.intro) | exact Go.Eng.Fin0.mk | refine Go.Eng.Chk.mk ?_ ?_ | refine Own.l ?_ | fail))
    refine ix_at i.toNat (by omega) ?_
    (repeat' ((conv => whnf); first | (refine Giv.mk fun _ => ?_) | (refine Alt.l (Need.mk ?h ?_); case h => omega) | (refine Alt.r (Need.mk ?h ?_); case h => omega) | (refine Need.mk ?h ?_; case h => first | omega | (intro _; rfl) | assumption | (simp <;> omega)) | refine Ix.zero ?_ | refine Ix.one ?_ | refine Ix.two ?_ | refine Ix.nat ?_ | refine Ix.add ?_ | (apply Go.Eng.Pin.mk; apply Exists.intro) | apply Go.Eng.Pinned.mk rfl rfl | (apply Go.Eng.PinH.mk; apply Exists.intro; apply Exists.intro) | exact Go.Eng.Fin0.mk | refine Go.Eng.Chk.mk ?_ ?_ | refine Own.l ?_ | fail))
    (conv => whnf)
    exact ⟨fun h => ⟨hh, h⟩, fun h => h.2⟩
  · rename_i hh
    (repeat' ((conv => whnf); first | (refine Giv.mk fun _ => ?_) | (refine Alt.l (Need.mk ?h ?_); case h => omega) | (refine Alt.r (Need.mk ?h ?_); case h => omega) | (refine Need.mk ?h ?_; case h => first | omega | (intro _; rfl) | assumption | (simp <;> omega)) | refine Ix.zero ?_ | refine Ix.one ?_ | refine Ix.two ?_ | refine Ix.nat ?_ | refine Ix.add ?_ | (apply Go.Eng.Pin.mk; apply Exists.intro) | apply Go.Eng.Pinned.mk rfl rfl | (apply Go.Eng.PinH.mk; apply Exists.intro; apply Exists.intro) | exact Go.Eng.Fin0.mk | refine Go.Eng.Chk.mk ?_ ?_ | refine Own.l ?_ | fail))
    (conv => whnf)
    exact fun h => hh h.1
def c49 : Con := mkCon 49 true fun args K => match args with | [.agg [.seq (.slice (.int .i64)) on, .seq .bool rs], .val (.int .i64 i), .seq (.int .u64) ws] => Need (RowsOk on ∧ 0 ≤ i ∧ i < on.length) (K (.bl (readyP on ws i) inferInstance)) | _ => False
theorem k49 : ConOK Try.prog c49 := by
  refine conOK_of rfl (enters_of Try.func49 (by kernel_rfl) rfl) ?_
  intro args K h
  simp only [c49] at h
  split at h
  · rename_i on rs i ws; exact ⟨_, h.go, tri_of_body (Γ := [c18, c52]) (by simp [k18, k52]) Try.func49 (by simp [Try.ntmps49]) rfl (b49 on rs i ws h.ok)⟩
  · exact h.elim
end EB
end
section
set_option linter.unusedVariables false
open Go Go.Proofs Go.Eng Go.Shelf
namespace EB
set_option maxRecDepth 10000
/-! ### Whether rests are allowed -/
def cmpI (a b : Int) : Int := if a < b then -1 else if b < a then 1 else 0
def orI : List Int → Int
  | [] => 0
  | x :: r => if x = 0 then orI r else x
theorem orI_at (xs : List Int) (i : Nat) (hi : i < xs.length) (hx : xs.getD i 0 ≠ 0) (h : ∀ j, j < i → xs.getD j 0 = 0) : orI xs = xs.getD i 0 := by
  induction xs generalizing i with
  | nil => simp at hi
  | cons x r ih =>
    cases i with
    | zero => simp at hx; simp [orI, hx]
    | succ i =>
      have h0 : x = 0 := by simpa using h 0 (by omega)
      have := ih i (by simpa using hi) (by simpa using hx) (fun j hj => by simpa using h (j + 1) (by omega))
      simp [orI, h0, this]
theorem orI_zero (xs : List Int) (h : ∀ j, j < xs.length → xs.getD j 0 = 0) : orI xs = 0 := by
  induction xs with
  | nil => rfl
  | cons x r ih =>
    have h0 : x = 0 := by simpa using h 0 (by simp)
    simp only [orI, h0, if_true]
    exact ih fun j hj => by simpa using h (j + 1) (by simpa using hj)
theorem b74 (a : Int) : body Try.prog [] {} true Try.f74 [I a] (.val (.bool false)) := by
  (repeat' ((conv => whnf); first | (refine Giv.mk fun _ => ?_) | (refine Alt.l (Need.mk ?h ?_); case h => omega) | (refine Alt.r (Need.mk ?h ?_); case h => omega) | (refine Need.mk ?h ?_; case h => first | omega | (intro _; rfl) | assumption | (simp <;> omega)) | refine Ix.zero ?_ | refine Ix.one ?_ | refine Ix.two ?_ | refine Ix.nat ?_ | refine Ix.add ?_ | (apply Go.Eng.Pin.mk; apply Exists.intro) | apply Go.Eng.Pinned.mk rfl rfl | (apply Go.Eng.PinH.mk; apply Exists.intro; apply Exists.intro) | exact Go.Eng.Fin0.mk | refine Go.Eng.Chk.mk ?_ ?_ | refine Own.l ?_ | fail))
  (conv => whnf)
  simp
def c74 : Con := mkCon 74 true fun args K => match args with | [.val (.int .i64 a)] => K (.val (.bool false)) | _ => False
theorem k74 : ConOK Try.prog c74 := by
  refine conOK_of rfl (enters_of Try.func74 (by kernel_rfl) rfl) ?_
  intro args K h
  simp only [c74] at h
  split at h
  · rename_i a; exact ⟨_, h, tri_of_body (Γ := []) (by simp) Try.func74 (by simp [Try.ntmps74]) rfl (b74 a)⟩
  · exact h.elim
theorem b68 (a b : Int) : body Try.prog [c74] {} true Try.f68 [I a, I b] (I (cmpI a b)) := by
  (repeat' ((conv => whnf); first | (refine Giv.mk fun _ => ?_) | (refine Alt.l (Need.mk ?h ?_); case h => omega) | (refine Alt.r (Need.mk ?h ?_); case h => omega) | (refine Need.mk ?h ?_; case h => first | omega | (intro _; rfl) | assumption | (simp <;> omega)) | refine Ix.zero ?_ | refine Ix.one ?_ | refine Ix.two ?_ | refine Ix.nat ?_ | refine Ix.add ?_ | (apply Go.Eng.Pin.mk; apply Exists.intro) | apply Go.Eng.Pinned.mk rfl rfl | (apply Go.Eng.PinH.mk; apply Exists.intro; apply Exists.intro) | exact Go.Eng.Fin0.mk | refine Go.Eng.Chk.mk ?_ ?_ | refine Own.l ?_ | (refine Br.mkY ?h ?_; case h => first | omega | assumption) | (refine Br.mkN ?h ?_; case h => first | omega | assumption | exact not_not_intro (by assumption)) | fail))
  (refine Br.mk (fun _ => ?_) (fun _ => ?_))
  · rename_i h
    (conv => whnf)
    exact ⟨rfl, (if_pos h).symm⟩
  · rename_i h
    (repeat' ((conv => whnf); first | (refine Giv.mk fun _ => ?_) | (refine Alt.l (Need.mk ?h ?_); case h => omega) | (refine Alt.r (Need.mk ?h ?_); case h => omega) | (refine Need.mk ?h ?_; case h => first | omega | (intro _; rfl) | assumption | (simp <;> omega)) | refine Ix.zero ?_ | refine Ix.one ?_ | refine Ix.two ?_ | refine Ix.nat ?_ | refine Ix.add ?_ | (apply Go.Eng.Pin.mk; apply Exists.intro) | apply Go.Eng.Pinned.mk rfl rfl | (apply Go.Eng.PinH.mk; apply Exists.intro; apply Exists.intro) | exact Go.Eng.Fin0.mk | refine Go.Eng.Chk.mk ?_ ?_ | refine Own.l ?_ | fail))
    (refine Br.mk (fun _ => ?_) (fun _ => ?_))
    · rename_i h2
      (conv => whnf)
      exact ⟨rfl, by unfold cmpI; rw [if_neg h, if_pos h2]⟩
    · rename_i h2
      (conv => whnf)
      exact ⟨rfl, by unfold cmpI; rw [if_neg h, if_neg h2]⟩
def c68 : Con := mkCon 68 true fun args K => match args with | [.val (.int .i64 a), .val (.int .i64 b)] => K (I (cmpI a b)) | _ => False
theorem k68 : ConOK Try.prog c68 := by
  refine conOK_of rfl (enters_of Try.func68 (by kernel_rfl) rfl) ?_
  intro args K h
  simp only [c68] at h
  split at h
  · rename_i a b; exact ⟨_, h, tri_of_body (Γ := [c74]) (by simp [k74]) Try.func68 (by simp [Try.ntmps68]) rfl (b68 a b)⟩
  · exact h.elim
theorem b67 (xs : List Int) : body Try.prog [] { loops := [(0, { X := Nat, pre := fun i => i ≤ xs.length ∧ ∀ j, j < i → xs.getD j 0 = 0, mod := fun i _ => [(8, I i)], mu := fun i => xs.length - i })] } true Try.f67 [Ls xs] (I (orI xs)) := by
  (repeat' ((conv => whnf); first | (refine Giv.mk fun _ => ?_) | (refine Alt.l (Need.mk ?h ?_); case h => omega) | (refine Alt.r (Need.mk ?h ?_); case h => omega) | (refine Need.mk ?h ?_; case h => first | omega | (intro _; rfl) | assumption | (simp <;> omega)) | refine Ix.zero ?_ | refine Ix.one ?_ | refine Ix.two ?_ | refine Ix.nat ?_ | refine Ix.add ?_ | (apply Go.Eng.Pin.mk; apply Exists.intro) | apply Go.Eng.Pinned.mk rfl rfl | (apply Go.Eng.PinH.mk; apply Exists.intro; apply Exists.intro) | exact Go.Eng.Fin0.mk | refine Go.Eng.Chk.mk ?_ ?_ | refine Own.l ?_ | fail))
  refine ⟨⟨(0 : Nat), ⟨Nat.zero_le _, by omega⟩, by (repeat' (first | exact trivial | rfl | exact Nat.one_pos | (refine And.intro ?_ ?_) | omega | ((conv => whnf); (refine And.intro ?_ ?_)) | ((conv => whnf); exact trivial)))⟩, fun (i : Nat) hi => ?_⟩
  obtain ⟨hi, hb⟩ := hi
  (repeat' ((conv => whnf); first | (refine Giv.mk fun _ => ?_) | (refine Alt.l (Need.mk ?h ?_); case h => omega) | (refine Alt.r (Need.mk ?h ?_); case h => omega) | (refine Need.mk ?h ?_; case h => first | omega | (intro _; rfl) | assumption | (simp <;> omega)) | refine Ix.zero ?_ | refine Ix.one ?_ | refine Ix.two ?_ | refine Ix.nat ?_ | refine Ix.add ?_ | (apply Go.Eng.Pin.mk; apply Exists.intro) | apply Go.Eng.Pinned.mk rfl rfl | (apply Go.Eng.PinH.mk; apply Exists.intro; apply Exists.intro) | exact Go.Eng.Fin0.mk | refine Go.Eng.Chk.mk ?_ ?_ | refine Own.l ?_ | fail))
  (refine Br.mk (fun _ => ?_) (fun _ => ?_))
  · have hlt : i < xs.length := by omega
    (repeat' ((conv => whnf); first | (refine Giv.mk fun _ => ?_) | (refine Alt.l (Need.mk ?h ?_); case h => omega) | (refine Alt.r (Need.mk ?h ?_); case h => omega) | (refine Need.mk ?h ?_; case h => first | omega | (intro _; rfl) | assumption | (simp <;> omega)) | refine Ix.zero ?_ | refine Ix.one ?_ | refine Ix.two ?_ | refine Ix.nat ?_ | refine Ix.add ?_ | (apply Go.Eng.Pin.mk; apply Exists.intro) | apply Go.Eng.Pinned.mk rfl rfl | (apply Go.Eng.PinH.mk; apply Exists.intro; apply Exists.intro) | exact Go.Eng.Fin0.mk | refine Go.Eng.Chk.mk ?_ ?_ | refine Own.l ?_ | fail))
    (refine Br.mk (fun _ => ?_) (fun _ => ?_))
    · rename_i hh
      (repeat' ((conv => whnf); first | (refine Giv.mk fun _ => ?_) | (refine Alt.l (Need.mk ?h ?_); case h => omega) | (refine Alt.r (Need.mk ?h ?_); case h => omega) | (refine Need.mk ?h ?_; case h => first | omega | (intro _; rfl) | assumption | (simp <;> omega)) | refine Ix.zero ?_ | refine Ix.one ?_ | refine Ix.two ?_ | refine Ix.nat ?_ | refine Ix.add ?_ | (apply Go.Eng.Pin.mk; apply Exists.intro) | apply Go.Eng.Pinned.mk rfl rfl | (apply Go.Eng.PinH.mk; apply Exists.intro; apply Exists.intro) | exact Go.Eng.Fin0.mk | refine Go.Eng.Chk.mk ?_ ?_ | refine Own.l ?_ | fail))
      (conv => whnf)
      exact ⟨rfl, (orI_at xs i hlt hh hb).symm⟩
    · rename_i hh
      (repeat' ((conv => whnf); first | (refine Giv.mk fun _ => ?_) | (refine Alt.l (Need.mk ?h ?_); case h => omega) | (refine Alt.r (Need.mk ?h ?_); case h => omega) | (refine Need.mk ?h ?_; case h => first | omega | (intro _; rfl) | assumption | (simp <;> omega)) | refine Ix.zero ?_ | refine Ix.one ?_ | refine Ix.two ?_ | refine Ix.nat ?_ | refine Ix.add ?_ | (apply Go.Eng.Pin.mk; apply Exists.intro) | apply Go.Eng.Pinned.mk rfl rfl | (apply Go.Eng.PinH.mk; apply Exists.intro; apply Exists.intro) | exact Go.Eng.Fin0.mk | refine Go.Eng.Chk.mk ?_ ?_ | refine Own.l ?_ | fail))
      refine ⟨(i + 1 : Nat), by show xs.length - (i + 1) < xs.length - i; omega, ⟨hlt, fun j hj => ?_⟩, by (repeat' (first | exact trivial | rfl | exact Nat.one_pos | (refine And.intro ?_ ?_) | omega | ((conv => whnf); (refine And.intro ?_ ?_)) | ((conv => whnf); exact trivial)))⟩
      by_cases e : j = i
      · subst e; omega
      · exact hb j (by omega)
  · have hii : i = xs.length := by omega
    subst hii
    (repeat' ((conv => whnf); first | (refine Giv.mk fun _ => ?_) | (refine Alt.l (Need.mk ?h ?_); case h => omega) | (refine Alt.r (Need.mk ?h ?_); case h => omega) | (refine Need.mk ?h ?_; case h => first | omega | (intro _; rfl) | assumption | (simp <;> omega)) | refine Ix.zero ?_ | refine Ix.one ?_ | refine Ix.two ?_ | refine Ix.nat ?_ | refine Ix.add ?_ | (apply Go.Eng.Pin.mk; apply Exists.intro) | apply Go.Eng.Pinned.mk rfl rfl | (apply Go.Eng.PinH.mk; apply Exists.intro; apply Exists.intro) | exact Go.Eng.Fin0.mk | refine Go.Eng.Chk.mk ?_ ?_ | refine Own.l ?_ | fail))
    (conv => whnf)
    exact ⟨rfl, (orI_zero xs hb).symm⟩
def c67 : Con := mkCon 67 true fun args K => match args with | [.seq (.int .i64) xs] => K (I (orI xs)) | _ => False
theorem k67 : ConOK Try.prog c67 := by
  refine conOK_of rfl (enters_of Try.func67 (by kernel_rfl) rfl) ?_
  intro args K h
  simp only [c67] at h
  split at h
  · rename_i xs; exact ⟨_, h, tri_of_body (Γ := []) (by simp) Try.func67 (by simp [Try.ntmps67]) rfl (b67 xs)⟩
  · exact h.elim
/-- The first fault. -/
def firstE (f : Nat → Int) (m : Nat) : Int := orI ((List.range m).map f)
theorem firstE_some {f : Nat → Int} {m i : Nat} (hi : i < m) (hf : f i ≠ 0) (h : ∀ j, j < i → f j = 0) : firstE f m = f i := by
  have e : ∀ j, j < m → ((List.range m).map f).getD j 0 = f j := fun j hj => by simp [List.getD_eq_getElem?_getD, hj]
  unfold firstE
  rw [orI_at _ i (by simpa using hi) (by rw [e i hi]; exact hf) (fun j hj => by rw [e j (by omega)]; exact h j hj), e i hi]
theorem firstE_none {f : Nat → Int} {m : Nat} (h : ∀ j, j < m → f j = 0) : firstE f m = 0 := by
  unfold firstE
  refine orI_zero _ fun j hj => ?_
  have hj : j < m := by simpa using hj
  simpa [List.getD_eq_getElem?_getD, hj] using h j hj
def supAt (n : Int) (l : List (Int × Int)) (k : Nat) : Int :=
  if (l.getD k (0, 0)).1 < 0 ∨ n ≤ (l.getD k (0, 0)).1 ∨ (l.getD k (0, 0)).2 < -1 ∨ n ≤ (l.getD k (0, 0)).2 then 2
  else if (l.getD k (0, 0)).1 = (l.getD k (0, 0)).2 then 27
  else if 0 < k ∧ 0 ≤ orI [cmpI (l.getD (k - 1) (0, 0)).1 (l.getD k (0, 0)).1, cmpI (l.getD (k - 1) (0, 0)).2 (l.getD k (0, 0)).2] then 10 else 0
def supE (n : Int) (l : List (Int × Int)) : Int := if n < 0 ∨ 512 < n then 2 else if 4096 < l.length then 4 else firstE (supAt n l) l.length
theorem supE_out {n : Int} {l : List (Int × Int)} (h : n < 0 ∨ 512 < n) : 2 = supE n l := by unfold supE; rw [if_pos h]
theorem supE_long {n : Int} {l : List (Int × Int)} (h : ¬ n < 0) (h2 : ¬ 512 < n) (h3 : 4096 < (l.length : Int)) : 4 = supE n l := by unfold supE; rw [if_neg (by omega), if_pos (by omega)]
theorem supE_at {n : Int} {l : List (Int × Int)} (h : ¬ n < 0) (h2 : ¬ 512 < n) (h3 : ¬ 4096 < (l.length : Int)) {i : Nat} (hi : i < l.length) (hb : ∀ j, j < i → supAt n l j = 0) {v : Int} (hv : supAt n l i = v) (h0 : v ≠ 0) : v = supE n l := by
  unfold supE; rw [if_neg (by omega), if_neg (by omega), firstE_some hi (by rw [hv]; exact h0) hb, hv]
theorem supE_ok {n : Int} {l : List (Int × Int)} (h : ¬ n < 0) (h2 : ¬ 512 < n) (h3 : ¬ 4096 < (l.length : Int)) (hb : ∀ j, j < l.length → supAt n l j = 0) : 0 = supE n l := by
  unfold supE; rw [if_neg (by omega), if_neg (by omega), firstE_none hb]
theorem b43 (n : Int) (l : List (Int × Int)) : body Try.prog [c67, c68] { asks := [(1, [])] } true Try.f43 [I n, Ps l] (I (supE n l)) := by
  (repeat' ((conv => whnf); first | (refine Giv.mk fun _ => ?_) | (refine Alt.l (Need.mk ?h ?_); case h => omega) | (refine Alt.r (Need.mk ?h ?_); case h => omega) | (refine Need.mk ?h ?_; case h => first | omega | (intro _; rfl) | assumption | (simp <;> omega)) | refine Ix.zero ?_ | refine Ix.one ?_ | refine Ix.two ?_ | refine Ix.nat ?_ | refine Ix.add ?_ | (apply Go.Eng.Pin.mk; apply Exists.intro) | apply Go.Eng.Pinned.mk rfl rfl | (apply Go.Eng.PinH.mk; apply Exists.intro; apply Exists.intro) | exact Go.Eng.Fin0.mk | refine Go.Eng.Chk.mk ?_ ?_ | refine Own.l ?_ | fail))
  (refine Br.mk (fun _ => ?_) (fun _ => ?_))
  · rename_i h
    (repeat' ((conv => whnf); first | (refine Giv.mk fun _ => ?_) | (refine Alt.l (Need.mk ?h ?_); case h => omega) | (refine Alt.r (Need.mk ?h ?_); case h => omega) | (refine Need.mk ?h ?_; case h => first | omega | (intro _; rfl) | assumption | (simp <;> omega)) | refine Ix.zero ?_ | refine Ix.one ?_ | refine Ix.two ?_ | refine Ix.nat ?_ | refine Ix.add ?_ | (apply Go.Eng.Pin.mk; apply Exists.intro) | apply Go.Eng.Pinned.mk rfl rfl | (apply Go.Eng.PinH.mk; apply Exists.intro; apply Exists.intro) | exact Go.Eng.Fin0.mk | refine Go.Eng.Chk.mk ?_ ?_ | refine Own.l ?_ | fail))
    (conv => whnf)
    exact ⟨rfl, supE_out (.inl h)⟩
  rename_i g1
  (repeat' ((conv => whnf); first | (refine Giv.mk fun _ => ?_) | (refine Alt.l (Need.mk ?h ?_); case h => omega) | (refine Alt.r (Need.mk ?h ?_); case h => omega) | (refine Need.mk ?h ?_; case h => first | omega | (intro _; rfl) | assumption | (simp <;> omega)) | refine Ix.zero ?_ | refine Ix.one ?_ | refine Ix.two ?_ | refine Ix.nat ?_ | refine Ix.add ?_ | (apply Go.Eng.Pin.mk; apply Exists.intro) | apply Go.Eng.Pinned.mk rfl rfl | (apply Go.Eng.PinH.mk; apply Exists.intro; apply Exists.intro) | exact Go.Eng.Fin0.mk | refine Go.Eng.Chk.mk ?_ ?_ | refine Own.l ?_ | fail))
  (refine Br.mk (fun _ => ?_) (fun _ => ?_))
  · rename_i h
    (repeat' ((conv => whnf); first | (refine Giv.mk fun _ => ?_) | (refine Alt.l (Need.mk ?h ?_); case h => omega) | (refine Alt.r (Need.mk ?h ?_); case h => omega) | (refine Need.mk ?h ?_; case h => first | omega | (intro _; rfl) | assumption | (simp <;> omega)) | refine Ix.zero ?_ | refine Ix.one ?_ | refine Ix.two ?_ | refine Ix.nat ?_ | refine Ix.add ?_ | (apply Go.Eng.Pin.mk; apply Exists.intro) | apply Go.Eng.Pinned.mk rfl rfl | (apply Go.Eng.PinH.mk; apply Exists.intro; apply Exists.intro) | exact Go.Eng.Fin0.mk | refine Go.Eng.Chk.mk ?_ ?_ | refine Own.l ?_ | fail))
    (conv => whnf)
    exact ⟨rfl, supE_out (.inr h)⟩
  rename_i g2
  (repeat' ((conv => whnf); first | (refine Giv.mk fun _ => ?_) | (refine Alt.l (Need.mk ?h ?_); case h => omega) | (refine Alt.r (Need.mk ?h ?_); case h => omega) | (refine Need.mk ?h ?_; case h => first | omega | (intro _; rfl) | assumption | (simp <;> omega)) | refine Ix.zero ?_ | refine Ix.one ?_ | refine Ix.two ?_ | refine Ix.nat ?_ | refine Ix.add ?_ | (apply Go.Eng.Pin.mk; apply Exists.intro) | apply Go.Eng.Pinned.mk rfl rfl | (apply Go.Eng.PinH.mk; apply Exists.intro; apply Exists.intro) | exact Go.Eng.Fin0.mk | refine Go.Eng.Chk.mk ?_ ?_ | refine Own.l ?_ | fail))
  (refine Br.mk (fun _ => ?_) (fun _ => ?_))
  · rename_i h
    (repeat' ((conv => whnf); first | (refine Giv.mk fun _ => ?_) | (refine Alt.l (Need.mk ?h ?_); case h => omega) | (refine Alt.r (Need.mk ?h ?_); case h => omega) | (refine Need.mk ?h ?_; case h => first | omega | (intro _; rfl) | assumption | (simp <;> omega)) | refine Ix.zero ?_ | refine Ix.one ?_ | refine Ix.two ?_ | refine Ix.nat ?_ | refine Ix.add ?_ | (apply Go.Eng.Pin.mk; apply Exists.intro) | apply Go.Eng.Pinned.mk rfl rfl | (apply Go.Eng.PinH.mk; apply Exists.intro; apply Exists.intro) | exact Go.Eng.Fin0.mk | refine Go.Eng.Chk.mk ?_ ?_ | refine Own.l ?_ | fail))
    (conv => whnf)
    exact ⟨rfl, supE_long g1 g2 h⟩
  rename_i g3
  (repeat' ((conv => whnf); first | (refine Giv.mk fun _ => ?_) | (refine Alt.l (Need.mk ?h ?_); case h => omega) | (refine Alt.r (Need.mk ?h ?_); case h => omega) | (refine Need.mk ?h ?_; case h => first | omega | (intro _; rfl) | assumption | (simp <;> omega)) | refine Ix.zero ?_ | refine Ix.one ?_ | refine Ix.two ?_ | refine Ix.nat ?_ | refine Ix.add ?_ | (apply Go.Eng.Pin.mk; apply Exists.intro) | apply Go.Eng.Pinned.mk rfl rfl | (apply Go.Eng.PinH.mk; apply Exists.intro; apply Exists.intro) | exact Go.Eng.Fin0.mk | refine Go.Eng.Chk.mk ?_ ?_ | refine Own.l ?_ | fail))
  refine Ask.mk ⟨{ X := Nat, pre := fun i => i ≤ l.length ∧ ∀ j, j < i → supAt n l j = 0, mod := fun i _ => [(20, I i)], mu := fun i => l.length - i }, rfl, ?_⟩
  (repeat' ((conv => whnf); first | (refine Giv.mk fun _ => ?_) | (refine Alt.l (Need.mk ?h ?_); case h => omega) | (refine Alt.r (Need.mk ?h ?_); case h => omega) | (refine Need.mk ?h ?_; case h => first | omega | (intro _; rfl) | assumption | (simp <;> omega)) | refine Ix.zero ?_ | refine Ix.one ?_ | refine Ix.two ?_ | refine Ix.nat ?_ | refine Ix.add ?_ | (apply Go.Eng.Pin.mk; apply Exists.intro) | apply Go.Eng.Pinned.mk rfl rfl | (apply Go.Eng.PinH.mk; apply Exists.intro; apply Exists.intro) | exact Go.Eng.Fin0.mk | refine Go.Eng.Chk.mk ?_ ?_ | refine Own.l ?_ | fail))
  refine ⟨⟨(0 : Nat), ⟨Nat.zero_le _, by omega⟩, by (repeat' (first | exact trivial | rfl | exact Nat.one_pos | (refine And.intro ?_ ?_) | omega | ((conv => whnf); (refine And.intro ?_ ?_)) | ((conv => whnf); exact trivial)))⟩, fun (i : Nat) hi => ?_⟩
  obtain ⟨hi, hb⟩ := hi
  (repeat' ((conv => whnf); first | (refine Giv.mk fun _ => ?_) | (refine Alt.l (Need.mk ?h ?_); case h => omega) | (refine Alt.r (Need.mk ?h ?_); case h => omega) | (refine Need.mk ?h ?_; case h => first | omega | (intro _; rfl) | assumption | (simp <;> omega)) | refine Ix.zero ?_ | refine Ix.one ?_ | refine Ix.two ?_ | refine Ix.nat ?_ | refine Ix.add ?_ | (apply Go.Eng.Pin.mk; apply Exists.intro) | apply Go.Eng.Pinned.mk rfl rfl | (apply Go.Eng.PinH.mk; apply Exists.intro; apply Exists.intro) | exact Go.Eng.Fin0.mk | refine Go.Eng.Chk.mk ?_ ?_ | refine Own.l ?_ | fail))
  (refine Br.mk (fun _ => ?_) (fun _ => ?_))
  · have hlt : i < l.length := by omega
    have bad : ((l.getD i (0, 0)).1 < 0 ∨ n ≤ (l.getD i (0, 0)).1 ∨ (l.getD i (0, 0)).2 < -1 ∨ n ≤ (l.getD i (0, 0)).2) → 2 = supE n l := fun h =>
      supE_at g1 g2 g3 hlt hb (by unfold supAt; rw [if_pos h]) (by decide)
    (repeat' ((conv => whnf); first | (refine Giv.mk fun _ => ?_) | (refine Alt.l (Need.mk ?h ?_); case h => omega) | (refine Alt.r (Need.mk ?h ?_); case h => omega) | (refine Need.mk ?h ?_; case h => first | omega | (intro _; rfl) | assumption | (simp <;> omega)) | refine Ix.zero ?_ | refine Ix.one ?_ | refine Ix.two ?_ | refine Ix.nat ?_ | refine Ix.add ?_ | (apply Go.Eng.Pin.mk; apply Exists.intro) | apply Go.Eng.Pinned.mk rfl rfl | (apply Go.Eng.PinH.mk; apply Exists.intro; apply Exists.intro) | exact Go.Eng.Fin0.mk | refine Go.Eng.Chk.mk ?_ ?_ | refine Own.l ?_ | (refine Br.mkY ?h ?_; case h => first | omega | assumption) | (refine Br.mkN ?h ?_; case h => first | omega | assumption | exact not_not_intro (by assumption)) | (refine Br.mk (fun _ => ?_) (fun _ => ?_)) | fail))
    · (conv => whnf)
      exact ⟨rfl, bad (.inl ‹_›)⟩
    · (conv => whnf)
      exact ⟨rfl, bad (.inr (.inl ‹_›))⟩
    · (conv => whnf)
      exact ⟨rfl, bad (.inr (.inr (.inl ‹_›)))⟩
    · (conv => whnf)
      exact ⟨rfl, bad (.inr (.inr (.inr ‹_›)))⟩
    · rename_i k1 k2 k3 k4 k5
      (conv => whnf)
      exact ⟨rfl, supE_at g1 g2 g3 hlt hb (by unfold supAt; rw [if_neg (by omega), if_pos k5]) (by decide)⟩
    · refine ix_at (i - 1) (by omega) ?_
      (repeat' ((conv => whnf); first | (refine Giv.mk fun _ => ?_) | (refine Alt.l (Need.mk ?h ?_); case h => omega) | (refine Alt.r (Need.mk ?h ?_); case h => omega) | (refine Need.mk ?h ?_; case h => first | omega | (intro _; rfl) | assumption | (simp <;> omega)) | refine Ix.zero ?_ | refine Ix.one ?_ | refine Ix.two ?_ | refine Ix.nat ?_ | refine Ix.add ?_ | (apply Go.Eng.Pin.mk; apply Exists.intro) | apply Go.Eng.Pinned.mk rfl rfl | (apply Go.Eng.PinH.mk; apply Exists.intro; apply Exists.intro) | exact Go.Eng.Fin0.mk | refine Go.Eng.Chk.mk ?_ ?_ | refine Own.l ?_ | (refine Br.mkY ?h ?_; case h => first | omega | assumption) | (refine Br.mkN ?h ?_; case h => first | omega | assumption | exact not_not_intro (by assumption)) | (refine Br.mk (fun _ => ?_) (fun _ => ?_)) | fail))
      refine ix_at (i - 1) (by omega) ?_
      (repeat' ((conv => whnf); first | (refine Giv.mk fun _ => ?_) | (refine Alt.l (Need.mk ?h ?_); case h => omega) | (refine Alt.r (Need.mk ?h ?_); case h => omega) | (refine Need.mk ?h ?_; case h => first | omega | (intro _; rfl) | assumption | (simp <;> omega)) | refine Ix.zero ?_ | refine Ix.one ?_ | refine Ix.two ?_ | refine Ix.nat ?_ | refine Ix.add ?_ | (apply Go.Eng.Pin.mk; apply Exists.intro) | apply Go.Eng.Pinned.mk rfl rfl | (apply Go.Eng.PinH.mk; apply Exists.intro; apply Exists.intro) | exact Go.Eng.Fin0.mk | refine Go.Eng.Chk.mk ?_ ?_ | refine Own.l ?_ | (refine Br.mkY ?h ?_; case h => first | omega | assumption) | (refine Br.mkN ?h ?_; case h => first | omega | assumption | exact not_not_intro (by assumption)) | (refine Br.mk (fun _ => ?_) (fun _ => ?_)) | fail))
      · rename_i k1 k2 k3 k4 k5 k6 a1 a2 a3 a4 q
        (conv => whnf)
        exact ⟨rfl, supE_at g1 g2 g3 hlt hb (by unfold supAt; rw [if_neg (by omega), if_neg k5, if_pos ⟨by omega, q⟩]) (by decide)⟩
      · rename_i k1 k2 k3 k4 k5 k6 a1 a2 a3 a4 q
        refine ⟨(i + 1 : Nat), by show l.length - (i + 1) < l.length - i; omega, ⟨hlt, fun j hj => ?_⟩, by (repeat' (first | exact trivial | rfl | exact Nat.one_pos | (refine And.intro ?_ ?_) | omega | ((conv => whnf); (refine And.intro ?_ ?_)) | ((conv => whnf); exact trivial)))⟩
        by_cases e : j = i
        · subst e
          unfold supAt
          rw [if_neg (by omega), if_neg k5, if_neg fun h => q h.2]
        · exact hb j (by omega)
    · rename_i k1 k2 k3 k4 k5 k6
      refine ⟨(i + 1 : Nat), by show l.length - (i + 1) < l.length - i; omega, ⟨hlt, fun j hj => ?_⟩, by (repeat' (first | exact trivial | rfl | exact Nat.one_pos | (refine And.intro ?_ ?_) | omega | ((conv => whnf); (refine And.intro ?_ ?_)) | ((conv => whnf); exact trivial)))⟩
      by_cases e : j = i
      · subst e
        unfold supAt
        rw [if_neg (by omega), if_neg k5, if_neg (by omega)]
      · exact hb j (by omega)
  · have hii : i = l.length := by omega
    subst hii
    (repeat' ((conv => whnf); first | (refine Giv.mk fun _ => ?_) | (refine Alt.l (Need.mk ?h ?_); case h => omega) | (refine Alt.r (Need.mk ?h ?_); case h => omega) | (refine Need.mk ?h ?_; case h => first | omega | (intro _; rfl) | assumption | (simp <;> omega)) | refine Ix.zero ?_ | refine Ix.one ?_ | refine Ix.two ?_ | refine Ix.nat ?_ | refine Ix.add ?_ | (apply Go.Eng.Pin.mk; apply Exists.intro) | apply Go.Eng.Pinned.mk rfl rfl | (apply Go.Eng.PinH.mk; apply Exists.intro; apply Exists.intro) | exact Go.Eng.Fin0.mk | refine Go.Eng.Chk.mk ?_ ?_ | refine Own.l ?_ | fail))
    (conv => whnf)
    exact ⟨rfl, supE_ok g1 g2 g3 hb⟩
def c43 : Con := mkCon 43 true fun args K => match args with | [.val (.int .i64 n), .seq (.pair (.int .i64) (.int .i64)) l] => K (I (supE n l)) | _ => False
theorem k43 : ConOK Try.prog c43 := by
  refine conOK_of rfl (enters_of Try.func43 (by kernel_rfl) rfl) ?_
  intro args K h
  simp only [c43] at h
  split at h
  · rename_i n l; exact ⟨_, h, tri_of_body (Γ := [c67, c68]) (by simp [k67, k68]) Try.func43 (by simp [Try.ntmps43]) rfl (b43 n l)⟩
  · exact h.elim
/-- What stands behind the check. -/
theorem supE_rests {n : Int} {l : List (Int × Int)} (h : supE n l = 0) : RestsOk n l := by
  unfold supE at h
  split at h
  · cases h
  split at h
  · cases h
  refine ⟨by omega, by omega, by omega, fun i hi => ?_⟩
  by_cases hz : ∀ j, j < l.length → supAt n l j = 0
  · have := hz i hi
    unfold supAt at this
    split at this
    · cases this
    · omega
  · exfalso
    have : ∃ j, j < l.length ∧ supAt n l j ≠ 0 ∧ ∀ m, m < j → supAt n l m = 0 := by
      rw [Classical.not_forall] at hz
      obtain ⟨j, hj⟩ := hz
      rw [Classical.not_imp] at hj
      obtain ⟨hj1, hj2⟩ := hj
      induction j using Nat.strongRecOn with
      | _ j ih =>
        by_cases hm : ∀ m, m < j → supAt n l m = 0
        · exact ⟨j, hj1, hj2, hm⟩
        · rw [Classical.not_forall] at hm
          obtain ⟨m, hm⟩ := hm
          rw [Classical.not_imp] at hm
          exact ih m hm.1 (by omega) hm.2
    obtain ⟨j, h1, h2, h3⟩ := this
    rw [firstE_some h1 h2 h3] at h
    exact h2 h
end EB
end
section
set_option linter.unusedVariables false
open Go Go.Proofs Go.Eng Go.Shelf
namespace EB
set_option maxRecDepth 10000
/-! ### erect.Ready -/
theorem any_take_succ {α : Type} (p : α → Bool) (xs : List α) (d : α) (k : Nat) (h : k < xs.length) : (xs.take (k + 1)).any p = ((xs.take k).any p || p (xs.getD k d)) := by
  rw [List.take_succ_eq_append_getElem h, List.any_append]
  simp [List.getD_eq_getElem?_getD, h]
theorem any_getD {α : Type} (p : α → Bool) (xs : List α) (d : α) (k : Nat) (h : k < xs.length) (hp : p (xs.getD k d) = true) : xs.any p = true := by
  rw [List.any_eq_true]
  exact ⟨xs[k], List.getElem_mem h, by simpa [List.getD_eq_getElem?_getD, h] using hp⟩
def words (n : Int) : List Int := List.replicate ((n + 63) / 64).toNat 0
def putL (ws : List Int) (ms : List Int) : List Int := ms.foldl putW ws
theorem putW_len (ws : List Int) (i : Int) : (putW ws i).length = ws.length := by simp [putW]
theorem putL_len (ms ws : List Int) : (putL ws ms).length = ws.length := by
  induction ms generalizing ws with
  | nil => rfl
  | cons m r ih => show (putL (putW ws m) r).length = _; rw [ih, putW_len]
theorem putL_succ (ws ms : List Int) (k : Nat) (h : k < ms.length) : putL ws (ms.take (k + 1)) = putW (putL ws (ms.take k)) (ms.getD k 0) := by
  unfold putL
  rw [List.take_succ_eq_append_getElem h, List.foldl_append]
  simp [List.getD_eq_getElem?_getD, h]
theorem words_len (n : Int) (h : 0 ≤ n) : ((words n).length : Int) = (n + 63) / 64 := by
  simp [words]; omega
def outB (n m : Int) : Bool := decide (m < 0 ∨ n ≤ m)
def readyTo (on : List (List Int)) (ws : List Int) (k : Nat) : List Int := ((List.range k).filter fun (i : Nat) => decide (readyP on ws i)).map fun (i : Nat) => (i : Int)
theorem readyTo_succ (on : List (List Int)) (ws : List Int) (k : Nat) : readyTo on ws (k + 1) = if readyP on ws k then readyTo on ws k ++ [(k : Int)] else readyTo on ws k := by
  unfold readyTo
  rw [List.range_succ, List.filter_append, List.map_append]
  by_cases h : readyP on ws k <;> simp [h]
theorem readyTo_len (on : List (List Int)) (ws : List Int) (k : Nat) : (readyTo on ws k).length ≤ k := by
  unfold readyTo
  rw [List.length_map]
  exact Nat.le_trans (List.length_filter_le _ _) (by simp)
def onL (n : Int) (l : List (Int × Int)) : List (List Int) := onN n.toNat l l.length
def restL (n : Int) (l : List (Int × Int)) : List Bool := restN n.toNat l l.length
theorem onL_len (n : Int) (l : List (Int × Int)) : (onL n l).length = n.toNat := onN_len _ _ _
theorem onL_ok (n : Int) (l : List (Int × Int)) : RowsOk (onL n l) := by
  intro i hi j hj
  rw [onL_len] at hi
  have e : (onL n l).getD i [] = rowOf l l.length i := onN_get _ _ _ _ hi
  rw [e] at hj ⊢
  have : (rowOf l l.length i).getD j 0 ∈ rowOf l l.length i := by
    rw [List.getD_eq_getElem?_getD, List.getElem?_eq_getElem hj]; exact List.getElem_mem hj
  unfold rowOf at this
  rw [List.mem_map] at this
  obtain ⟨r, hr, he⟩ := this
  rw [List.mem_filter] at hr
  have := of_decide_eq_true hr.2
  show 0 ≤ (rowOf l l.length i).getD j 0
  unfold rowOf
  rw [← he]; exact this.2
def readyRes (n : Int) (l : List (Int × Int)) (st : List Int) : List Int := if supE n l = 0 ∧ st.any (outB n) = false then readyTo (onL n l) (putL (words n) st) n.toNat else []
def readyErr (n : Int) (l : List (Int × Int)) (st : List Int) : Int := if ¬ supE n l = 0 then 1 else if st.any (outB n) = true then 2 else 0
theorem b14 (n : Int) (l : List (Int × Int)) (st : List Int) : body Try.prog [c43, c46, c47, c48, c49] { asks := [(0, []), (2, [3])] } true Try.f14 [I n, Ps l, Ls st] (.tup [Ls (readyRes n l st), I (readyErr n l st)]) := by
  (repeat' ((conv => whnf); first | (refine Giv.mk fun _ => ?_) | (refine Alt.l (Need.mk ?h ?_); case h => omega) | (refine Alt.r (Need.mk ?h ?_); case h => omega) | (refine Need.mk ?h ?_; case h => first | omega | (intro _; rfl) | assumption | (simp <;> omega)) | refine Ix.zero ?_ | refine Ix.one ?_ | refine Ix.two ?_ | refine Ix.nat ?_ | refine Ix.add ?_ | (apply Go.Eng.Pin.mk; apply Exists.intro) | apply Go.Eng.Pinned.mk rfl rfl | (apply Go.Eng.PinH.mk; apply Exists.intro; apply Exists.intro) | exact Go.Eng.Fin0.mk | refine Go.Eng.Chk.mk ?_ ?_ | refine Own.l ?_ | fail))
  (refine Br.mk (fun _ => ?_) (fun _ => ?_))
  · rename_i h
    (repeat' ((conv => whnf); first | (refine Giv.mk fun _ => ?_) | (refine Alt.l (Need.mk ?h ?_); case h => omega) | (refine Alt.r (Need.mk ?h ?_); case h => omega) | (refine Need.mk ?h ?_; case h => first | omega | (intro _; rfl) | assumption | (simp <;> omega)) | refine Ix.zero ?_ | refine Ix.one ?_ | refine Ix.two ?_ | refine Ix.nat ?_ | refine Ix.add ?_ | (apply Go.Eng.Pin.mk; apply Exists.intro) | apply Go.Eng.Pinned.mk rfl rfl | (apply Go.Eng.PinH.mk; apply Exists.intro; apply Exists.intro) | exact Go.Eng.Fin0.mk | refine Go.Eng.Chk.mk ?_ ?_ | refine Own.l ?_ | fail))
    (conv => whnf)
    refine ⟨?_, ?_, trivial⟩
    · (conv => whnf)
      unfold readyRes; rw [if_neg fun e => h e.1]
    · exact ⟨rfl, by unfold readyErr; rw [if_pos h]⟩
  · rename_i h
    have h : supE n l = 0 := Classical.not_not.1 h
    have hro := supE_rests h
    obtain ⟨r1, r2, r3, r4⟩ := id hro
    (repeat' ((conv => whnf); first | (refine Giv.mk fun _ => ?_) | (refine Alt.l (Need.mk ?h ?_); case h => omega) | (refine Alt.r (Need.mk ?h ?_); case h => omega) | (refine Need.mk ?h ?_; case h => first | omega | (intro _; rfl) | assumption | (simp <;> omega)) | refine Ix.zero ?_ | refine Ix.one ?_ | refine Ix.two ?_ | refine Ix.nat ?_ | refine Ix.add ?_ | (apply Go.Eng.Pin.mk; apply Exists.intro) | apply Go.Eng.Pinned.mk rfl rfl | (apply Go.Eng.PinH.mk; apply Exists.intro; apply Exists.intro) | exact Go.Eng.Fin0.mk | refine Go.Eng.Chk.mk ?_ ?_ | refine Own.l ?_ | fail))
    refine Ask.mk ⟨{ X := Nat, pre := fun i => i ≤ st.length ∧ (st.take i).any (outB n) = false, mod := fun i _ => [(22, I i)], heap := fun i _ => [.vec 1 (.int .i64) [] 3, .vec 1 (.int .u64) (putL (words n) (st.take i)) 103], mu := fun i => st.length - i }, rfl, ?_⟩
    (repeat' ((conv => whnf); first | (refine Giv.mk fun _ => ?_) | (refine Alt.l (Need.mk ?h ?_); case h => omega) | (refine Alt.r (Need.mk ?h ?_); case h => omega) | (refine Need.mk ?h ?_; case h => first | omega | (intro _; rfl) | assumption | (simp <;> omega)) | refine Ix.zero ?_ | refine Ix.one ?_ | refine Ix.two ?_ | refine Ix.nat ?_ | refine Ix.add ?_ | (apply Go.Eng.Pin.mk; apply Exists.intro) | apply Go.Eng.Pinned.mk rfl rfl | (apply Go.Eng.PinH.mk; apply Exists.intro; apply Exists.intro) | exact Go.Eng.Fin0.mk | refine Go.Eng.Chk.mk ?_ ?_ | refine Own.l ?_ | fail))
    refine ⟨⟨(0 : Nat), ⟨Nat.zero_le _, by simp⟩, ?_⟩, fun (i : Nat) hi => ?_⟩
    · (repeat' (first | exact trivial | rfl | exact Nat.one_pos | (refine And.intro ?_ ?_) | omega | ((conv => whnf); (refine And.intro ?_ ?_)) | ((conv => whnf); exact trivial)))
    · obtain ⟨hi, hb⟩ := hi
      have hwl : ((putL (words n) (st.take i)).length : Int) = (n + 63) / 64 := by rw [putL_len]; exact words_len n r2
      (repeat' ((conv => whnf); first | (refine Giv.mk fun _ => ?_) | (refine Alt.l (Need.mk ?h ?_); case h => omega) | (refine Alt.r (Need.mk ?h ?_); case h => omega) | (refine Need.mk ?h ?_; case h => first | omega | (intro _; rfl) | assumption | (simp <;> omega)) | refine Ix.zero ?_ | refine Ix.one ?_ | refine Ix.two ?_ | refine Ix.nat ?_ | refine Ix.add ?_ | (apply Go.Eng.Pin.mk; apply Exists.intro) | apply Go.Eng.Pinned.mk rfl rfl | (apply Go.Eng.PinH.mk; apply Exists.intro; apply Exists.intro) | exact Go.Eng.Fin0.mk | refine Go.Eng.Chk.mk ?_ ?_ | refine Own.l ?_ | fail))
      (refine Br.mk (fun _ => ?_) (fun _ => ?_))
      · have hlt : i < st.length := by omega
        have hps := putL_succ (words n) st i hlt
        have hat := any_take_succ (outB n) st 0 i hlt
        have bad : outB n (st.getD i 0) = true → [] = readyRes n l st ∧ 2 = readyErr n l st := fun hx => by
          have ha : st.any (outB n) = true := any_getD (outB n) st 0 i hlt hx
          refine ⟨by unfold readyRes; rw [if_neg (by rw [ha]; simp)], by unfold readyErr; rw [if_neg (by omega), if_pos ha]⟩
        (repeat' ((conv => whnf); first | (refine Giv.mk fun _ => ?_) | (refine Alt.l (Need.mk ?h ?_); case h => omega) | (refine Alt.r (Need.mk ?h ?_); case h => omega) | (refine Need.mk ?h ?_; case h => first | omega | (intro _; rfl) | assumption | (simp <;> omega)) | refine Ix.zero ?_ | refine Ix.one ?_ | refine Ix.two ?_ | refine Ix.nat ?_ | refine Ix.add ?_ | (apply Go.Eng.Pin.mk; apply Exists.intro) | apply Go.Eng.Pinned.mk rfl rfl | (apply Go.Eng.PinH.mk; apply Exists.intro; apply Exists.intro) | exact Go.Eng.Fin0.mk | refine Go.Eng.Chk.mk ?_ ?_ | refine Own.l ?_ | (refine Br.mkY ?h ?_; case h => first | omega | assumption) | (refine Br.mkN ?h ?_; case h => first | omega | assumption | exact not_not_intro (by assumption)) | (refine Br.mk (fun _ => ?_) (fun _ => ?_)) | fail))
        · have hx : outB n (st.getD i 0) = true := decide_eq_true (.inl ‹_›)
          (conv => whnf)
          refine ⟨?_, ⟨rfl, (bad hx).2⟩, trivial⟩
          · (conv => whnf)
            exact (bad hx).1
        · have hx : outB n (st.getD i 0) = true := decide_eq_true (.inr ‹_›)
          (conv => whnf)
          refine ⟨?_, ⟨rfl, (bad hx).2⟩, trivial⟩
          · (conv => whnf)
            exact (bad hx).1
        · have hx : outB n (st.getD i 0) = false := decide_eq_false (by omega)
          refine ⟨(i + 1 : Nat), by show st.length - (i + 1) < st.length - i; omega, ⟨hlt, by rw [hat, hb, hx]; rfl⟩, ?_⟩
          rw [← hps]
          (repeat' (first | exact trivial | rfl | exact Nat.one_pos | (refine And.intro ?_ ?_) | omega | ((conv => whnf); (refine And.intro ?_ ?_)) | ((conv => whnf); exact trivial)))
      · have hii : i = st.length := by omega
        subst hii
        rw [List.take_length] at hb hwl
        have hok := onL_ok n l
        have hol := onL_len n l
        (repeat' ((conv => whnf); first | (refine Giv.mk fun _ => ?_) | (refine Alt.l (Need.mk ?h ?_); case h => omega) | (refine Alt.r (Need.mk ?h ?_); case h => omega) | (refine Need.mk ?h ?_; case h => first | omega | (intro _; rfl) | assumption | (simp <;> omega)) | refine Ix.zero ?_ | refine Ix.one ?_ | refine Ix.two ?_ | refine Ix.nat ?_ | refine Ix.add ?_ | (apply Go.Eng.Pin.mk; apply Exists.intro) | apply Go.Eng.Pinned.mk rfl rfl | (apply Go.Eng.PinH.mk; apply Exists.intro; apply Exists.intro) | exact Go.Eng.Fin0.mk | refine Go.Eng.Chk.mk ?_ ?_ | refine Own.l ?_ | fail))
        refine Ask.mk ⟨{ X := Nat, pre := fun i => i ≤ n.toNat, mod := fun i _ => [(12, .ref 3 1), (41, I i)], objs := [3], heap := fun i _ => [.vec 1 (.int .i64) [] 3, .vec 1 (.int .u64) (putL (words n) st) 103, .cells [.seq (.slice (.int .i64)) (onL n l), .seq .bool (restL n l)] 75, .vec 1 (.int .i64) (readyTo (onL n l) (putL (words n) st) i) 3], mu := fun i => n.toNat - i }, rfl, ?_⟩
        (repeat' ((conv => whnf); first | (refine Giv.mk fun _ => ?_) | (refine Alt.l (Need.mk ?h ?_); case h => omega) | (refine Alt.r (Need.mk ?h ?_); case h => omega) | (refine Need.mk ?h ?_; case h => first | omega | (intro _; rfl) | assumption | (simp <;> omega)) | refine Ix.zero ?_ | refine Ix.one ?_ | refine Ix.two ?_ | refine Ix.nat ?_ | refine Ix.add ?_ | (apply Go.Eng.Pin.mk; apply Exists.intro) | apply Go.Eng.Pinned.mk rfl rfl | (apply Go.Eng.PinH.mk; apply Exists.intro; apply Exists.intro) | exact Go.Eng.Fin0.mk | refine Go.Eng.Chk.mk ?_ ?_ | refine Own.l ?_ | fail))
        refine ⟨⟨(0 : Nat), Nat.zero_le _, ?_⟩, fun (i : Nat) (hi : i ≤ n.toNat) => ?_⟩
        · (repeat' (first | exact trivial | rfl | exact Nat.one_pos | (refine And.intro ?_ ?_) | omega | ((conv => whnf); (refine And.intro ?_ ?_)) | ((conv => whnf); exact trivial)))
          show putL (words n) (List.take st.length st) = putL (words n) st
          rw [List.take_length]
        · have hrs := readyTo_succ (onL n l) (putL (words n) st) i
          have hrl := readyTo_len (onL n l) (putL (words n) st) i
          (repeat' ((conv => whnf); first | (refine Giv.mk fun _ => ?_) | (refine Alt.l (Need.mk ?h ?_); case h => omega) | (refine Alt.r (Need.mk ?h ?_); case h => omega) | (refine Need.mk ?h ?_; case h => first | omega | (intro _; rfl) | assumption | (simp <;> omega)) | refine Ix.zero ?_ | refine Ix.one ?_ | refine Ix.two ?_ | refine Ix.nat ?_ | refine Ix.add ?_ | (apply Go.Eng.Pin.mk; apply Exists.intro) | apply Go.Eng.Pinned.mk rfl rfl | (apply Go.Eng.PinH.mk; apply Exists.intro; apply Exists.intro) | exact Go.Eng.Fin0.mk | refine Go.Eng.Chk.mk ?_ ?_ | refine Own.l ?_ | fail))
          (refine Br.mk (fun _ => ?_) (fun _ => ?_))
          · refine Need.mk ⟨hok, by omega, by omega⟩ ?_
            (repeat' ((conv => whnf); first | (refine Giv.mk fun _ => ?_) | (refine Alt.l (Need.mk ?h ?_); case h => omega) | (refine Alt.r (Need.mk ?h ?_); case h => omega) | (refine Need.mk ?h ?_; case h => first | omega | (intro _; rfl) | assumption | (simp <;> omega)) | refine Ix.zero ?_ | refine Ix.one ?_ | refine Ix.two ?_ | refine Ix.nat ?_ | refine Ix.add ?_ | (apply Go.Eng.Pin.mk; apply Exists.intro) | apply Go.Eng.Pinned.mk rfl rfl | (apply Go.Eng.PinH.mk; apply Exists.intro; apply Exists.intro) | exact Go.Eng.Fin0.mk | refine Go.Eng.Chk.mk ?_ ?_ | refine Own.l ?_ | fail))
            (refine Br.mk (fun _ => ?_) (fun _ => ?_))
            · rename_i hh
              rw [if_pos hh] at hrs
              (repeat' ((conv => whnf); first | (refine Giv.mk fun _ => ?_) | (refine Alt.l (Need.mk ?h ?_); case h => omega) | (refine Alt.r (Need.mk ?h ?_); case h => omega) | (refine Need.mk ?h ?_; case h => first | omega | (intro _; rfl) | assumption | (simp <;> omega)) | refine Ix.zero ?_ | refine Ix.one ?_ | refine Ix.two ?_ | refine Ix.nat ?_ | refine Ix.add ?_ | (apply Go.Eng.Pin.mk; apply Exists.intro) | apply Go.Eng.Pinned.mk rfl rfl | (apply Go.Eng.PinH.mk; apply Exists.intro; apply Exists.intro) | exact Go.Eng.Fin0.mk | refine Go.Eng.Chk.mk ?_ ?_ | refine Own.l ?_ | fail))
              refine ⟨(i + 1 : Nat), by show n.toNat - (i + 1) < n.toNat - i; omega, by show i + 1 ≤ n.toNat; omega, ?_⟩
              (repeat' (first | exact trivial | rfl | exact Nat.one_pos | (refine And.intro ?_ ?_) | omega | ((conv => whnf); (refine And.intro ?_ ?_)) | ((conv => whnf); exact trivial)))
              exact hrs.symm
            · rename_i hh
              rw [if_neg hh] at hrs
              (repeat' ((conv => whnf); first | (refine Giv.mk fun _ => ?_) | (refine Alt.l (Need.mk ?h ?_); case h => omega) | (refine Alt.r (Need.mk ?h ?_); case h => omega) | (refine Need.mk ?h ?_; case h => first | omega | (intro _; rfl) | assumption | (simp <;> omega)) | refine Ix.zero ?_ | refine Ix.one ?_ | refine Ix.two ?_ | refine Ix.nat ?_ | refine Ix.add ?_ | (apply Go.Eng.Pin.mk; apply Exists.intro) | apply Go.Eng.Pinned.mk rfl rfl | (apply Go.Eng.PinH.mk; apply Exists.intro; apply Exists.intro) | exact Go.Eng.Fin0.mk | refine Go.Eng.Chk.mk ?_ ?_ | refine Own.l ?_ | fail))
              refine ⟨(i + 1 : Nat), by show n.toNat - (i + 1) < n.toNat - i; omega, by show i + 1 ≤ n.toNat; omega, ?_⟩
              (repeat' (first | exact trivial | rfl | exact Nat.one_pos | (refine And.intro ?_ ?_) | omega | ((conv => whnf); (refine And.intro ?_ ?_)) | ((conv => whnf); exact trivial)))
              exact hrs.symm
          · have hii : i = n.toNat := by omega
            subst hii
            (repeat' ((conv => whnf); first | (refine Giv.mk fun _ => ?_) | (refine Alt.l (Need.mk ?h ?_); case h => omega) | (refine Alt.r (Need.mk ?h ?_); case h => omega) | (refine Need.mk ?h ?_; case h => first | omega | (intro _; rfl) | assumption | (simp <;> omega)) | refine Ix.zero ?_ | refine Ix.one ?_ | refine Ix.two ?_ | refine Ix.nat ?_ | refine Ix.add ?_ | (apply Go.Eng.Pin.mk; apply Exists.intro) | apply Go.Eng.Pinned.mk rfl rfl | (apply Go.Eng.PinH.mk; apply Exists.intro; apply Exists.intro) | exact Go.Eng.Fin0.mk | refine Go.Eng.Chk.mk ?_ ?_ | refine Own.l ?_ | fail))
            (conv => whnf)
            refine ⟨?_, ⟨rfl, ?_⟩, trivial⟩
            · (conv => whnf)
              unfold readyRes; rw [if_pos ⟨h, hb⟩]
            · unfold readyErr; rw [if_neg (fun e => e h), if_neg (by rw [hb]; simp)]
def c14 : Con := mkCon 14 true fun args K => match args with | [.val (.int .i64 n), .seq (.pair (.int .i64) (.int .i64)) l, .seq (.int .i64) st] => K (.tup [Ls (readyRes n l st), I (readyErr n l st)]) | _ => False
theorem k14 : ConOK Try.prog c14 := by
  refine conOK_of rfl (enters_of Try.func14 (by kernel_rfl) rfl) ?_
  intro args K h
  simp only [c14] at h
  split at h
  · rename_i n l st; exact ⟨_, h, tri_of_body (Γ := [c43, c46, c47, c48, c49]) (by simp [k43, k46, k47, k48, k49]) Try.func14 (by simp [Try.ntmps14]) rfl (b14 n l st)⟩
  · exact h.elim
end EB
end
section
set_option linter.unusedVariables false
open Go Go.Proofs Go.Eng Go.Shelf
namespace EB
set_option maxRecDepth 10000
/-! ### Bits -/
theorem wrap_nat {x : Nat} (h : x < 2 ^ 64) : IntKind.u64.wrap (x : Int) = x := by simp only [IntKind.wrap, IntKind.signed, IntKind.bits, Bool.false_and, Bool.false_eq_true, if_false]; omega
theorem bv_nat (a : Nat) (h : a < 2 ^ 64) : (BitVec.ofInt 64 (a : Int)).toNat = a := by
  rw [BitVec.ofInt_natCast, BitVec.toNat_ofNat, Nat.mod_eq_of_lt h]
theorem and_nat (a b : Nat) (ha : a < 2 ^ 64) (hb : b < 2 ^ 64) : bitsI .and .u64 a b = ((a &&& b : Nat) : Int) := by
  show IntKind.u64.wrap ((BitVec.ofInt 64 (a : Int) &&& BitVec.ofInt 64 (b : Int)).toNat : Int) = _
  rw [wrap_nat (BitVec.isLt _), BitVec.toNat_and, bv_nat a ha, bv_nat b hb]
theorem or_nat (a b : Nat) (ha : a < 2 ^ 64) (hb : b < 2 ^ 64) : bitsI .or .u64 a b = ((a ||| b : Nat) : Int) := by
  show IntKind.u64.wrap ((BitVec.ofInt 64 (a : Int) ||| BitVec.ofInt 64 (b : Int)).toNat : Int) = _
  rw [wrap_nat (BitVec.isLt _), BitVec.toNat_or, bv_nat a ha, bv_nat b hb]
theorem andNot_nat (a b : Nat) (ha : a < 2 ^ 64) (hb : b < 2 ^ 64) : bitsI .andNot .u64 a b = ((a &&& (2 ^ 64 - (b + 1)) : Nat) : Int) := by
  show IntKind.u64.wrap ((BitVec.ofInt 64 (a : Int) &&& ~~~(BitVec.ofInt 64 (b : Int))).toNat : Int) = _
  rw [wrap_nat (BitVec.isLt _), BitVec.toNat_and, BitVec.toNat_not, bv_nat a ha, bv_nat b hb, Nat.sub_sub, Nat.add_comm 1 b]
theorem shl_nat (k : Nat) (hk : k < 64) : shlI .u64 1 (k : Int) = ((2 ^ k : Nat) : Int) := by
  have h1 : (2 ^ k : Nat) < 2 ^ 64 := Nat.pow_lt_pow_right (by omega) hk
  show IntKind.u64.wrap (1 * 2 ^ (min (k : Int).toNat 64)) = _
  rw [show min (k : Int).toNat 64 = k by omega, Int.one_mul, show ((2 : Int) ^ k) = ((2 ^ k : Nat) : Int) by simp, wrap_nat h1]
theorem shr_nat (a k : Nat) (hk : k < 64) : shrI .u64 a (k : Int) = ((a >>> k : Nat) : Int) := by
  show (a : Int).fdiv (2 ^ (min (k : Int).toNat 64)) = _
  rw [show min (k : Int).toNat 64 = k by omega, show ((2 : Int) ^ k) = ((2 ^ k : Nat) : Int) by simp, Nat.shiftRight_eq_div_pow, Int.fdiv_eq_ediv_of_nonneg _ (Int.natCast_nonneg _)]
  rfl
theorem bit_has (a k : Nat) (ha : a < 2 ^ 64) (hk : k < 64) : bitsI .and .u64 (shrI .u64 a (k : Int)) 1 = 1 ↔ a.testBit k = true := by
  have h1 : a >>> k < 2 ^ 64 := Nat.lt_of_le_of_lt (by rw [Nat.shiftRight_eq_div_pow]; exact Nat.div_le_self _ _) ha
  rw [shr_nat a k hk, show (1 : Int) = ((1 : Nat) : Int) from rfl, and_nat _ _ h1 (by omega)]
  rw [Nat.testBit, Nat.and_comm]
  have : 1 &&& a >>> k = (a >>> k) % 2 := by rw [Nat.and_comm, Nat.and_one_is_mod]
  rw [this]
  constructor
  · intro h; have : (a >>> k) % 2 = 1 := by omega
    rw [this]; rfl
  · intro h
    have h2 : (a >>> k) % 2 ≠ 0 := by simpa using h
    omega
/-- Words of 64 bits. -/
def WOk (ws : List Int) : Prop := ∀ w, w < ws.length → ∃ m : Nat, m < 2 ^ 64 ∧ ws.getD w 0 = m
theorem hasW_bit {ws : List Int} (hw : WOk ws) (i : Nat) : hasW ws i ↔ i / 64 < ws.length ∧ ((ws.getD (i / 64) 0).toNat).testBit (i % 64) = true := by
  unfold hasW
  have e1 : ((i : Int) / 64).toNat = i / 64 := by omega
  have e2 : (i : Int) % 64 = ((i % 64 : Nat) : Int) := by omega
  rw [e1, e2]
  constructor
  · rintro ⟨h1, h2⟩
    have h1 : i / 64 < ws.length := by omega
    obtain ⟨m, hm, e⟩ := hw _ h1
    rw [e] at h2 ⊢
    rw [bit_has m _ hm (by omega)] at h2
    exact ⟨h1, by simpa using h2⟩
  · rintro ⟨h1, h2⟩
    obtain ⟨m, hm, e⟩ := hw _ h1
    rw [e] at h2 ⊢
    rw [bit_has m _ hm (by omega)]
    exact ⟨by omega, by simpa using h2⟩
theorem getD_set (xs : List Int) (i p : Nat) (v : Int) : (xs.set i v).getD p 0 = if p = i ∧ p < xs.length then v else xs.getD p 0 := by
  simp only [List.getD_eq_getElem?_getD, List.getElem?_set]
  by_cases h : i = p
  · subst h
    by_cases h2 : i < xs.length <;> simp [h2]
  · rw [if_neg h, if_neg (by omega)]
theorem putW_at {ws : List Int} (hw : WOk ws) (i : Nat) (hi : i / 64 < ws.length) : ∃ m : Nat, m < 2 ^ 64 ∧ ws.getD (i / 64) 0 = m ∧ putW ws i = ws.set (i / 64) ((m ||| 2 ^ (i % 64) : Nat) : Int) ∧ m ||| 2 ^ (i % 64) < 2 ^ 64 := by
  obtain ⟨m, hm, e⟩ := hw _ hi
  have e1 : ((i : Int) / 64).toNat = i / 64 := by omega
  have e2 : (i : Int) % 64 = ((i % 64 : Nat) : Int) := by omega
  have h2 : (2 ^ (i % 64) : Nat) < 2 ^ 64 := Nat.pow_lt_pow_right (by omega) (by omega)
  refine ⟨m, hm, e, ?_, Nat.or_lt_two_pow hm h2⟩
  unfold putW
  rw [e1, e2, e, shl_nat _ (by omega), or_nat _ _ hm h2]
theorem takeW_at {ws : List Int} (hw : WOk ws) (i : Nat) (hi : i / 64 < ws.length) : ∃ m : Nat, m < 2 ^ 64 ∧ ws.getD (i / 64) 0 = m ∧ takeW ws i = ws.set (i / 64) ((m &&& (2 ^ 64 - (2 ^ (i % 64) + 1)) : Nat) : Int) := by
  obtain ⟨m, hm, e⟩ := hw _ hi
  have e1 : ((i : Int) / 64).toNat = i / 64 := by omega
  have e2 : (i : Int) % 64 = ((i % 64 : Nat) : Int) := by omega
  have h2 : (2 ^ (i % 64) : Nat) < 2 ^ 64 := Nat.pow_lt_pow_right (by omega) (by omega)
  refine ⟨m, hm, e, ?_⟩
  unfold takeW
  rw [e1, e2, e, shl_nat _ (by omega), andNot_nat _ _ hm h2]
theorem putW_ok {ws : List Int} (hw : WOk ws) (i : Nat) (hi : i / 64 < ws.length) : WOk (putW ws i) := by
  obtain ⟨m, hm, e, hp, hlt⟩ := putW_at hw i hi
  rw [hp]
  intro w hlw
  rw [List.length_set] at hlw
  rw [getD_set]
  split
  · exact ⟨_, hlt, rfl⟩
  · exact hw w hlw
theorem takeW_ok {ws : List Int} (hw : WOk ws) (i : Nat) (hi : i / 64 < ws.length) : WOk (takeW ws i) := by
  obtain ⟨m, hm, e, hp⟩ := takeW_at hw i hi
  rw [hp]
  intro w hlw
  rw [List.length_set] at hlw
  rw [getD_set]
  split
  · exact ⟨_, Nat.lt_of_le_of_lt Nat.and_le_left hm, rfl⟩
  · exact hw w hlw
theorem hasW_put {ws : List Int} (hw : WOk ws) (i j : Nat) (hi : i / 64 < ws.length) : hasW (putW ws i) j ↔ j = i ∨ hasW ws j := by
  rw [hasW_bit (putW_ok hw i hi), hasW_bit hw, putW_len]
  obtain ⟨m, hm, e, hp, hlt⟩ := putW_at hw i hi
  rw [hp, getD_set]
  by_cases hq : j / 64 = i / 64
  · rw [if_pos ⟨hq, by omega⟩, hq, e]
    simp only [Int.toNat_natCast, Nat.testBit_or, Nat.testBit_two_pow, Bool.or_eq_true, decide_eq_true_eq]
    constructor
    · rintro ⟨_, h | h⟩
      · exact .inr ⟨hi, h⟩
      · exact .inl (by omega)
    · rintro (h | ⟨_, h⟩)
      · exact ⟨hi, .inr (by omega)⟩
      · exact ⟨hi, .inl h⟩
  · rw [if_neg (fun h => hq h.1)]
    constructor
    · intro h; exact .inr h
    · rintro (h | h)
      · subst h; exact absurd rfl hq
      · exact h
theorem hasW_take {ws : List Int} (hw : WOk ws) (i j : Nat) (hi : i / 64 < ws.length) : hasW (takeW ws i) j ↔ j ≠ i ∧ hasW ws j := by
  have hl : (takeW ws i).length = ws.length := by simp [takeW]
  rw [hasW_bit (takeW_ok hw i hi), hasW_bit hw, hl]
  obtain ⟨m, hm, e, hp⟩ := takeW_at hw i hi
  have h2 : (2 ^ (i % 64) : Nat) < 2 ^ 64 := Nat.pow_lt_pow_right (by omega) (by omega)
  rw [hp, getD_set]
  by_cases hq : j / 64 = i / 64
  · rw [if_pos ⟨hq, by omega⟩, hq, e]
    simp only [Int.toNat_natCast, Nat.testBit_and, Nat.testBit_two_pow_sub_succ h2, Nat.testBit_two_pow, Bool.and_eq_true, decide_eq_true_eq, Bool.not_eq_true', decide_eq_false_iff_not]
    constructor
    · rintro ⟨h0, h1, h3, h4⟩
      exact ⟨fun h => h4 (by omega), h0, h1⟩
    · rintro ⟨h0, h1, h3⟩
      exact ⟨h1, h3, by omega, fun h => h0 (by omega)⟩
  · rw [if_neg (fun h => hq h.1)]
    constructor
    · intro h; exact ⟨fun e => hq (by rw [e]), h⟩
    · exact fun h => h.2
theorem words_ok (n : Int) : WOk (words n) := by
  intro w hw
  have hw : w < ((n + 63) / 64).toNat := by simpa [words] using hw
  exact ⟨0, by omega, by simp [words, List.getD_eq_getElem?_getD, hw]⟩
theorem words_none (n : Int) (j : Nat) : ¬ hasW (words n) j := by
  rw [hasW_bit (words_ok n)]
  rintro ⟨h1, h2⟩
  have hw : j / 64 < ((n + 63) / 64).toNat := by simpa [words] using h1
  have : (words n).getD (j / 64) 0 = 0 := by simp [words, List.getD_eq_getElem?_getD, hw]
  rw [this] at h2
  simp at h2
/-- Members in their range. -/
def InN (n : Int) (ms : List Int) : Prop := ∀ m ∈ ms, 0 ≤ m ∧ m < n
theorem putL_ok {n : Int} (hn : 0 ≤ n) : ∀ (ms : List Int) (ws : List Int), WOk ws → (ws.length : Int) = (n + 63) / 64 → InN n ms → WOk (putL ws ms) ∧ ∀ j : Nat, hasW (putL ws ms) j ↔ (j : Int) ∈ ms ∨ hasW ws j
  | [], ws, h, _, _ => ⟨h, fun j => by simp [putL]⟩
  | m :: r, ws, h, hl, hm => by
    have h0 := hm m List.mem_cons_self
    have e : m = (m.toNat : Int) := by omega
    have hlt : m.toNat / 64 < ws.length := by omega
    obtain ⟨h1, h2⟩ := putL_ok hn r (putW ws m) (by rw [e]; exact putW_ok h _ hlt) (by rw [putW_len]; exact hl) (fun x hx => hm x (List.mem_cons_of_mem _ hx))
    refine ⟨h1, fun j => ?_⟩
    show hasW (putL (putW ws m) r) j ↔ _
    rw [h2 j, e, hasW_put h _ _ hlt, List.mem_cons]
    constructor
    · rintro (h | h | h)
      · exact .inl (.inr h)
      · exact .inl (.inl (by omega))
      · exact .inr h
    · rintro ((h | h) | h)
      · exact .inr (.inl (by omega))
      · exact .inl h
      · exact .inr (.inr h)
theorem has_mem {n : Int} (hn : 0 ≤ n) {ms : List Int} (hm : InN n ms) {j : Int} (hj : 0 ≤ j) : hasW (putL (words n) ms) j ↔ j ∈ ms := by
  have := (putL_ok hn ms (words n) (words_ok n) (words_len n hn) hm).2 j.toNat
  have e : j = (j.toNat : Int) := by omega
  rw [e, this]
  constructor
  · rintro (h | h)
    · exact h
    · exact absurd h (words_none _ _)
  · exact .inl
end EB
end
section
set_option linter.unusedVariables false
open Go Go.Proofs Go.Eng Go.Shelf
namespace EB
set_option maxRecDepth 10000
/-! ### The order -/
/-- The least member that is ready; -1: none. -/
def nxt (on : List (List Int)) (n : Int) (ms : List Int) : Int := idxOf (fun i : Nat => decide (readyP on (putL (words n) ms) i)) (List.range n.toNat)
def msAt (on : List (List Int)) (n : Int) : Nat → List Int
  | 0 => []
  | k + 1 => if 0 ≤ nxt on n (msAt on n k) then msAt on n k ++ [nxt on n (msAt on n k)] else msAt on n k
theorem msAt_succ (on : List (List Int)) (n : Int) (k : Nat) : msAt on n (k + 1) = if 0 ≤ nxt on n (msAt on n k) then msAt on n k ++ [nxt on n (msAt on n k)] else msAt on n k := rfl
theorem idxOf_cases {α : Type} (p : α → Bool) (xs : List α) (d : α) : (idxOf p xs = -1 ∧ ∀ j, j < xs.length → p (xs.getD j d) = false) ∨ ∃ i, i < xs.length ∧ idxOf p xs = (i : Int) ∧ p (xs.getD i d) = true ∧ ∀ j, j < i → p (xs.getD j d) = false := by
  unfold idxOf
  cases h : xs.findIdx? p with
  | none =>
    rw [List.findIdx?_eq_none_iff] at h
    refine .inl ⟨rfl, fun j hj => ?_⟩
    rw [List.getD_eq_getElem?_getD, List.getElem?_eq_getElem hj]
    exact h _ (List.getElem_mem hj)
  | some i =>
    rw [List.findIdx?_eq_some_iff_getElem] at h
    obtain ⟨hi, hp, hb⟩ := h
    refine .inr ⟨i, hi, rfl, by simpa [List.getD_eq_getElem?_getD, hi] using hp, fun j hj => ?_⟩
    have := hb j hj
    have hj' : j < xs.length := by omega
    simpa [List.getD_eq_getElem?_getD, hj'] using this
theorem range_getD (n j : Nat) (h : j < n) : (List.range n).getD j 0 = j := by simp [List.getD_eq_getElem?_getD, h]
theorem nxt_cases (on : List (List Int)) (n : Int) (ms : List Int) : (nxt on n ms = -1 ∧ ∀ j : Nat, j < n.toNat → ¬ readyP on (putL (words n) ms) j) ∨ ∃ i : Nat, i < n.toNat ∧ nxt on n ms = (i : Int) ∧ readyP on (putL (words n) ms) i ∧ ∀ j : Nat, j < i → ¬ readyP on (putL (words n) ms) j := by
  rcases idxOf_cases (fun i : Nat => decide (readyP on (putL (words n) ms) i)) (List.range n.toNat) 0 with ⟨h1, h2⟩ | ⟨i, h1, h2, h3, h4⟩
  · refine .inl ⟨h1, fun j hj => ?_⟩
    have := h2 j (by simpa using hj)
    rw [range_getD _ _ hj] at this
    exact of_decide_eq_false this
  · have h1 : i < n.toNat := by simpa using h1
    rw [range_getD _ _ h1] at h3
    refine .inr ⟨i, h1, h2, of_decide_eq_true h3, fun j hj => ?_⟩
    have := h4 j hj
    rw [range_getD _ _ (by omega)] at this
    exact of_decide_eq_false this
theorem nxt_none {on : List (List Int)} {n : Int} {ms : List Int} (h : ∀ j : Nat, j < n.toNat → ¬ readyP on (putL (words n) ms) j) : nxt on n ms = -1 := by
  rcases nxt_cases on n ms with h1 | ⟨i, h1, _, h3, _⟩
  · exact h1.1
  · exact absurd h3 (h i h1)
theorem nxt_some {on : List (List Int)} {n : Int} {ms : List Int} {i : Nat} (hi : i < n.toNat) (hr : readyP on (putL (words n) ms) i) (h : ∀ j : Nat, j < i → ¬ readyP on (putL (words n) ms) j) : nxt on n ms = i := by
  rcases nxt_cases on n ms with h1 | ⟨i', h1, h2, h3, h4⟩
  · exact absurd hr (h1.2 i hi)
  · have : i' = i := by
      rcases Nat.lt_trichotomy i' i with hlt | he | hlt
      · exact absurd h3 (h i' hlt)
      · exact he
      · exact absurd hr (h4 i hlt)
    rw [h2, this]
theorem msAt_in (on : List (List Int)) (n : Int) : ∀ k, InN n (msAt on n k)
  | 0 => by intro m hm; cases hm
  | k + 1 => by
    have ih := msAt_in on n k
    unfold msAt
    split
    · intro m hm
      rcases List.mem_append.1 hm with hm | hm
      · exact ih m hm
      · rw [List.mem_singleton.1 hm]
        rcases nxt_cases on n (msAt on n k) with h | ⟨i, h1, h2, _⟩
        · omega
        · omega
    · exact ih
theorem msAt_nodup (on : List (List Int)) {n : Int} (hn : 0 ≤ n) : ∀ k, (msAt on n k).Nodup
  | 0 => List.nodup_nil
  | k + 1 => by
    have ih := msAt_nodup on hn k
    have hin := msAt_in on n k
    unfold msAt
    split
    · rename_i h0
      rw [List.nodup_append]
      refine ⟨ih, by simp, fun a ha b hb => ?_⟩
      rw [List.mem_singleton.1 hb]
      rintro rfl
      rcases nxt_cases on n (msAt on n k) with h | ⟨i, h1, h2, h3, _⟩
      · omega
      · rw [h2] at ha
        exact h3.1 ((has_mem hn hin (by omega)).2 ha)
    · exact ih
theorem nodup_below : ∀ (n : Nat) (xs : List Nat), xs.Nodup → (∀ x ∈ xs, x < n) → xs.length ≤ n
  | 0, xs, _, h => by
    cases xs with
    | nil => exact Nat.le_refl _
    | cons x r => exact absurd (h x List.mem_cons_self) (Nat.not_lt_zero _)
  | n + 1, xs, hx, h => by
    by_cases hm : n ∈ xs
    · have h1 := nodup_below n (xs.erase n) (hx.erase n) fun x hx' => by
        rw [hx.mem_erase_iff] at hx'
        have := h x hx'.2
        omega
      rw [List.length_erase_of_mem hm] at h1
      omega
    · have h1 := nodup_below n xs hx fun x hx' => by
        have := h x hx'
        have : x ≠ n := fun e => hm (e ▸ hx')
        omega
      omega
theorem nodup_len {n : Int} {ms : List Int} (hn : 0 ≤ n) (h1 : ms.Nodup) (h2 : InN n ms) : ms.length ≤ n.toNat := by
  have : (ms.map Int.toNat).Nodup := by
    rw [List.nodup_iff_pairwise_ne, List.pairwise_map]
    refine List.Pairwise.imp_of_mem ?_ h1
    intro a b ha hb hne e
    have := h2 a ha
    have := h2 b hb
    exact hne (by omega)
  have h3 : (ms.map Int.toNat) ⊆ List.range n.toNat := by
    intro x hx
    rw [List.mem_map] at hx
    obtain ⟨m, hm, rfl⟩ := hx
    have := h2 m hm
    rw [List.mem_range]; omega
  have := nodup_below n.toNat _ this fun x hx => List.mem_range.1 (h3 hx)
  simpa using this
theorem msAt_len (on : List (List Int)) {n : Int} (hn : 0 ≤ n) (k : Nat) : (msAt on n k).length ≤ n.toNat := nodup_len hn (msAt_nodup on hn k) (msAt_in on n k)
theorem msAt_stay {on : List (List Int)} {n : Int} {k : Nat} (h : ¬ 0 ≤ nxt on n (msAt on n k)) : ∀ j, msAt on n (k + j) = msAt on n k
  | 0 => rfl
  | j + 1 => by
    rw [← Nat.add_assoc, msAt_succ, msAt_stay h j, if_neg h]
theorem msAt_pre (on : List (List Int)) (n : Int) (k : Nat) : ∀ j, ∃ r, msAt on n (k + j) = msAt on n k ++ r
  | 0 => ⟨[], by simp⟩
  | j + 1 => by
    obtain ⟨r, hr⟩ := msAt_pre on n k j
    rw [← Nat.add_assoc, msAt_succ]
    split
    · exact ⟨r ++ [nxt on n (msAt on n (k + j))], by rw [← List.append_assoc, ← hr]⟩
    · exact ⟨r, hr⟩
def stepOf (rs : List Bool) (m : Int) : List (Int × Int) := if rs.getD m.toNat false = true then [(1, m)] else [(2, m), (1, m)]
def stepsOf (rs : List Bool) (ms : List Int) : List (Int × Int) := ms.flatMap (stepOf rs)
def ordS (on : List (List Int)) (rs : List Bool) (n : Int) : List (Int × Int) := stepsOf rs (msAt on n n.toNat)
theorem stepsOf_append (rs : List Bool) (a b : List Int) : stepsOf rs (a ++ b) = stepsOf rs a ++ stepsOf rs b := List.flatMap_append
theorem stepsOf_len (rs : List Bool) : ∀ ms : List Int, (stepsOf rs ms).length ≤ 2 * ms.length
  | [] => by simp [stepsOf]
  | m :: r => by
    have := stepsOf_len rs r
    have e : stepsOf rs (m :: r) = stepOf rs m ++ stepsOf rs r := rfl
    rw [e, List.length_append, List.length_cons]
    have : (stepOf rs m).length ≤ 2 := by unfold stepOf; split <;> simp
    omega
/-- The end: nothing is ready. -/
theorem ordS_end {on : List (List Int)} {rs : List Bool} {n : Int} {k : Nat} (hk : k ≤ n.toNat) (h : ¬ 0 ≤ nxt on n (msAt on n k)) : ordS on rs n = stepsOf rs (msAt on n k) := by
  obtain ⟨j, hj⟩ := Nat.exists_eq_add_of_le hk
  unfold ordS
  rw [hj, msAt_stay h j]
/-- The steps of the next member. -/
theorem ordS_next {on : List (List Int)} {rs : List Bool} {n : Int} {k : Nat} (hk : k + 1 ≤ n.toNat) (h : 0 ≤ nxt on n (msAt on n k)) : ∃ r, ordS on rs n = stepsOf rs (msAt on n k) ++ (stepOf rs (nxt on n (msAt on n k)) ++ r) := by
  obtain ⟨j, hj⟩ := Nat.exists_eq_add_of_le hk
  obtain ⟨r, hr⟩ := msAt_pre on n (k + 1) j
  refine ⟨stepsOf rs r, ?_⟩
  unfold ordS
  rw [hj, hr, stepsOf_append, show msAt on n (k + 1) = msAt on n k ++ [nxt on n (msAt on n k)] by rw [msAt_succ, if_pos h], stepsOf_append, List.append_assoc]
  simp [stepsOf]
end EB
end
section
set_option linter.unusedVariables false
open Go Go.Proofs Go.Eng Go.Shelf
namespace EB
set_option maxRecDepth 10000
abbrev Site (on : List (List Int)) (rs : List Bool) : SV := .agg [.seq (.slice (.int .i64)) on, .seq .bool rs]
abbrev SiteB (on : List (List Int)) (rs : List Bool) : SV := .lelem [.seq (.slice (.int .i64)) on, .seq .bool rs] 0
abbrev itS (S : List (Int × Int)) : Nat → List SV := fun i => [.agg [I (S.getD i (0, 0)).1, I (S.getD i (0, 0)).2]]
theorem b61 (on : List (List Int)) (rs : List Bool) : body Try.prog [] {} false Try.f61 [Site on rs] (.clo 75 [] [SiteB on rs]) := by
  (repeat' ((conv => whnf); first | (refine Giv.mk fun _ => ?_) | (refine Alt.l (Need.mk ?h ?_); case h => omega) | (refine Alt.r (Need.mk ?h ?_); case h => omega) | (refine Need.mk ?h ?_; case h => first | omega | (intro _; rfl) | assumption | (simp <;> omega)) | refine Ix.zero ?_ | refine Ix.one ?_ | refine Ix.two ?_ | refine Ix.nat ?_ | refine Ix.add ?_ | (apply Go.Eng.Pin.mk; apply Exists.intro) | apply Go.Eng.Pinned.mk rfl rfl | (apply Go.Eng.PinH.mk; apply Exists.intro; apply Exists.intro) | exact Go.Eng.Fin0.mk | refine Go.Eng.Chk.mk ?_ ?_ | refine Own.l ?_ | fail))
  (conv => whnf)
  (repeat' (first | exact trivial | rfl | exact Nat.one_pos | (refine And.intro ?_ ?_) | ((conv => whnf); (refine And.intro ?_ ?_)) | ((conv => whnf); exact trivial)))
def c61 : Con := mkCon 61 false fun args K => match args with | [.agg [.seq (.slice (.int .i64)) on, .seq .bool rs]] => K (.clo 75 [] [.lelem [.seq (.slice (.int .i64)) on, .seq .bool rs] 0]) | _ => False
theorem k61 : ConOK Try.prog c61 := by
  refine conOK_of rfl (enters_of Try.func61 (by kernel_rfl) rfl) ?_
  intro args K h
  simp only [c61] at h
  split at h
  · rename_i on rs; exact ⟨_, h, tri_of_body (Γ := []) (by simp) Try.func61 (by simp [Try.ntmps61]) rfl (b61 on rs)⟩
  · exact h.elim
def SiteOk (on : List (List Int)) (rs : List Bool) : Prop := RowsOk on ∧ on.length ≤ 512 ∧ rs.length = on.length
theorem getD_mid {α : Type} (A : List α) (x : α) (r : List α) (d : α) : (A ++ (x :: r)).getD A.length d = x := by
  simp [List.getD_eq_getElem?_getD]
theorem getD_mid2 {α : Type} (A : List α) (x y : α) (r : List α) (d : α) : (A ++ (x :: y :: r)).getD (A.length + 1) d = y := by
  simp [List.getD_eq_getElem?_getD]
theorem putL_snoc (ws ms : List Int) (m : Int) : putL ws (ms ++ [m]) = putW (putL ws ms) m := by simp [putL]
theorem b75 (on : List (List Int)) (rs : List Bool) (h : SiteOk on rs) : bodyI Try.prog [c46, c47, c49] { asks := [(0, []), (2, [])] } Try.f75 [SiteB on rs] (ordS on rs on.length).length (itS (ordS on rs on.length)) := by
  obtain ⟨h1, h2, h3⟩ := h
  (repeat' ((conv => whnf); first | (refine Giv.mk fun _ => ?_) | (refine Alt.l (Need.mk ?h ?_); case h => omega) | (refine Alt.r (Need.mk ?h ?_); case h => omega) | (refine Need.mk ?h ?_; case h => first | omega | (intro _; rfl) | assumption | (simp <;> omega)) | refine Ix.zero ?_ | refine Ix.one ?_ | refine Ix.two ?_ | refine Ix.nat ?_ | refine Ix.add ?_ | (apply Go.Eng.Pin.mk; apply Exists.intro) | apply Go.Eng.Pinned.mk rfl rfl | (apply Go.Eng.PinH.mk; apply Exists.intro; apply Exists.intro) | exact Go.Eng.Fin0.mk | refine Go.Eng.Chk.mk ?_ ?_ | refine Own.l ?_ | fail))
  refine Ask.mk ⟨{ X := Nat, pre := fun k => k ≤ on.length ∧ (msAt on on.length k).length = k, mod := fun k _ => [], heap := fun k _ => [.yst (some (stepsOf rs (msAt on on.length k)).length) (ordS on rs on.length).length (itS (ordS on rs on.length)), .vec 1 (.int .u64) (putL (words on.length) (msAt on on.length k)) 103], mu := fun k => on.length - k }, rfl, ?_⟩
  (repeat' ((conv => whnf); first | (refine Giv.mk fun _ => ?_) | (refine Alt.l (Need.mk ?h ?_); case h => omega) | (refine Alt.r (Need.mk ?h ?_); case h => omega) | (refine Need.mk ?h ?_; case h => first | omega | (intro _; rfl) | assumption | (simp <;> omega)) | refine Ix.zero ?_ | refine Ix.one ?_ | refine Ix.two ?_ | refine Ix.nat ?_ | refine Ix.add ?_ | (apply Go.Eng.Pin.mk; apply Exists.intro) | apply Go.Eng.Pinned.mk rfl rfl | (apply Go.Eng.PinH.mk; apply Exists.intro; apply Exists.intro) | exact Go.Eng.Fin0.mk | refine Go.Eng.Chk.mk ?_ ?_ | refine Own.l ?_ | fail))
  refine ⟨⟨(0 : Nat), ⟨Nat.zero_le _, rfl⟩, ?_⟩, fun (k : Nat) hk => ?_⟩
  · (repeat' (first | exact trivial | rfl | exact Nat.one_pos | (refine And.intro ?_ ?_) | omega | ((conv => whnf); (refine And.intro ?_ ?_)) | ((conv => whnf); exact trivial)))
  · obtain ⟨hk, hlen⟩ := hk
    (repeat' ((conv => whnf); first | (refine Giv.mk fun _ => ?_) | (refine Alt.l (Need.mk ?h ?_); case h => omega) | (refine Alt.r (Need.mk ?h ?_); case h => omega) | (refine Need.mk ?h ?_; case h => first | omega | (intro _; rfl) | assumption | (simp <;> omega)) | refine Ix.zero ?_ | refine Ix.one ?_ | refine Ix.two ?_ | refine Ix.nat ?_ | refine Ix.add ?_ | (apply Go.Eng.Pin.mk; apply Exists.intro) | apply Go.Eng.Pinned.mk rfl rfl | (apply Go.Eng.PinH.mk; apply Exists.intro; apply Exists.intro) | exact Go.Eng.Fin0.mk | refine Go.Eng.Chk.mk ?_ ?_ | refine Own.l ?_ | fail))
    refine Ask.mk ⟨{ X := Nat, pre := fun i => i ≤ on.length ∧ ∀ j : Nat, j < i → ¬ readyP on (putL (words on.length) (msAt on on.length k)) j, mod := fun i _ => [(4, I (-1)), (13, I i)], heap := fun _ _ => [.yst (some (stepsOf rs (msAt on on.length k)).length) (ordS on rs on.length).length (itS (ordS on rs on.length)), .vec 1 (.int .u64) (putL (words on.length) (msAt on on.length k)) 103], mu := fun i => on.length - i }, rfl, ?_⟩
    (repeat' ((conv => whnf); first | (refine Giv.mk fun _ => ?_) | (refine Alt.l (Need.mk ?h ?_); case h => omega) | (refine Alt.r (Need.mk ?h ?_); case h => omega) | (refine Need.mk ?h ?_; case h => first | omega | (intro _; rfl) | assumption | (simp <;> omega)) | refine Ix.zero ?_ | refine Ix.one ?_ | refine Ix.two ?_ | refine Ix.nat ?_ | refine Ix.add ?_ | (apply Go.Eng.Pin.mk; apply Exists.intro) | apply Go.Eng.Pinned.mk rfl rfl | (apply Go.Eng.PinH.mk; apply Exists.intro; apply Exists.intro) | exact Go.Eng.Fin0.mk | refine Go.Eng.Chk.mk ?_ ?_ | refine Own.l ?_ | fail))
    refine ⟨⟨(0 : Nat), ⟨Nat.zero_le _, fun j hj => absurd hj (Nat.not_lt_zero _)⟩, ?_⟩, fun (i : Nat) hi => ?_⟩
    · (repeat' (first | exact trivial | rfl | exact Nat.one_pos | (refine And.intro ?_ ?_) | omega | ((conv => whnf); (refine And.intro ?_ ?_)) | ((conv => whnf); exact trivial)))
    · obtain ⟨hi, hno⟩ := hi
      (repeat' ((conv => whnf); first | (refine Giv.mk fun _ => ?_) | (refine Alt.l (Need.mk ?h ?_); case h => omega) | (refine Alt.r (Need.mk ?h ?_); case h => omega) | (refine Need.mk ?h ?_; case h => first | omega | (intro _; rfl) | assumption | (simp <;> omega)) | refine Ix.zero ?_ | refine Ix.one ?_ | refine Ix.two ?_ | refine Ix.nat ?_ | refine Ix.add ?_ | (apply Go.Eng.Pin.mk; apply Exists.intro) | apply Go.Eng.Pinned.mk rfl rfl | (apply Go.Eng.PinH.mk; apply Exists.intro; apply Exists.intro) | exact Go.Eng.Fin0.mk | refine Go.Eng.Chk.mk ?_ ?_ | refine Own.l ?_ | fail))
      (refine Br.mk (fun _ => ?_) (fun _ => ?_))
      · have hlt : i < on.length := by omega
        (repeat' ((conv => whnf); first | (refine Giv.mk fun _ => ?_) | (refine Alt.l (Need.mk ?h ?_); case h => omega) | (refine Alt.r (Need.mk ?h ?_); case h => omega) | (refine Need.mk ?h ?_; case h => first | omega | (intro _; rfl) | assumption | (simp <;> omega)) | refine Ix.zero ?_ | refine Ix.one ?_ | refine Ix.two ?_ | refine Ix.nat ?_ | refine Ix.add ?_ | (apply Go.Eng.Pin.mk; apply Exists.intro) | apply Go.Eng.Pinned.mk rfl rfl | (apply Go.Eng.PinH.mk; apply Exists.intro; apply Exists.intro) | exact Go.Eng.Fin0.mk | refine Go.Eng.Chk.mk ?_ ?_ | refine Own.l ?_ | fail))
        refine Need.mk ⟨h1, by omega, by omega⟩ ?_
        (repeat' ((conv => whnf); first | (refine Giv.mk fun _ => ?_) | (refine Alt.l (Need.mk ?h ?_); case h => omega) | (refine Alt.r (Need.mk ?h ?_); case h => omega) | (refine Need.mk ?h ?_; case h => first | omega | (intro _; rfl) | assumption | (simp <;> omega)) | refine Ix.zero ?_ | refine Ix.one ?_ | refine Ix.two ?_ | refine Ix.nat ?_ | refine Ix.add ?_ | (apply Go.Eng.Pin.mk; apply Exists.intro) | apply Go.Eng.Pinned.mk rfl rfl | (apply Go.Eng.PinH.mk; apply Exists.intro; apply Exists.intro) | exact Go.Eng.Fin0.mk | refine Go.Eng.Chk.mk ?_ ?_ | refine Own.l ?_ | fail))
        (refine Br.mk (fun _ => ?_) (fun _ => ?_))
        · rename_i hr
          have hnx : nxt on on.length (msAt on on.length k) = i := nxt_some hlt hr hno
          have hms : msAt on on.length (k + 1) = msAt on on.length k ++ [(i : Int)] := by rw [msAt_succ, hnx, if_pos (by omega)]
          have hk1 : k + 1 ≤ on.length := by
            have := msAt_len on (n := on.length) (by omega) (k + 1)
            rw [hms, List.length_append, hlen] at this
            simpa using this
          obtain ⟨r, hS⟩ := ordS_next (rs := rs) (n := on.length) (on := on) (k := k) (by simpa using hk1) (by rw [hnx]; omega)
          rw [hnx] at hS
          have hwl : ((putL (words on.length) (msAt on on.length k)).length : Int) = ((on.length : Int) + 63) / 64 := by rw [putL_len]; exact words_len _ (by omega)
          have hput := putL_snoc (words on.length) (msAt on on.length k) (i : Int)
          (repeat' ((conv => whnf); first | (refine Giv.mk fun _ => ?_) | (refine Alt.l (Need.mk ?h ?_); case h => omega) | (refine Alt.r (Need.mk ?h ?_); case h => omega) | (refine Need.mk ?h ?_; case h => first | omega | (intro _; rfl) | assumption | (simp <;> omega)) | refine Ix.zero ?_ | refine Ix.one ?_ | refine Ix.two ?_ | refine Ix.nat ?_ | refine Ix.add ?_ | (apply Go.Eng.Pin.mk; apply Exists.intro) | apply Go.Eng.Pinned.mk rfl rfl | (apply Go.Eng.PinH.mk; apply Exists.intro; apply Exists.intro) | exact Go.Eng.Fin0.mk | refine Go.Eng.Chk.mk ?_ ?_ | refine Own.l ?_ | (refine Br.mkY ?h ?_; case h => first | omega | assumption) | (refine Br.mkN ?h ?_; case h => first | omega | assumption | exact not_not_intro (by assumption)) | fail))
          (refine Br.mk (fun _ => ?_) (fun _ => ?_))
          · rename_i hf
            have hst : stepOf rs (i : Int) = [(2, (i : Int)), (1, (i : Int))] := by unfold stepOf; rw [if_neg (by simpa using hf)]
            rw [hst] at hS
            have hl1 : (stepsOf rs (msAt on on.length k)).length + 1 < (ordS on rs on.length).length := by rw [hS]; simp
            have hnl : (stepsOf rs (msAt on on.length (k + 1))).length = (stepsOf rs (msAt on on.length k)).length + 1 + 1 := by
              rw [hms, stepsOf_append, List.length_append]
              show _ + (stepOf rs (i : Int) ++ []).length = _
              rw [hst]; rfl
            have e1 : (ordS on rs on.length).getD (stepsOf rs (msAt on on.length k)).length (0, 0) = (2, (i : Int)) := by rw [hS]; exact getD_mid _ _ _ _
            have e2 : (ordS on rs on.length).getD ((stepsOf rs (msAt on on.length k)).length + 1) (0, 0) = (1, (i : Int)) := by rw [hS]; exact getD_mid2 _ _ _ _ _
            (repeat' ((conv => whnf); first | (refine Giv.mk fun _ => ?_) | (refine Alt.l (Need.mk ?h ?_); case h => omega) | (refine Alt.r (Need.mk ?h ?_); case h => omega) | (refine Need.mk ?h ?_; case h => first | omega | (intro _; rfl) | assumption | (simp <;> omega)) | refine Ix.zero ?_ | refine Ix.one ?_ | refine Ix.two ?_ | refine Ix.nat ?_ | refine Ix.add ?_ | (apply Go.Eng.Pin.mk; apply Exists.intro) | apply Go.Eng.Pinned.mk rfl rfl | (apply Go.Eng.PinH.mk; apply Exists.intro; apply Exists.intro) | exact Go.Eng.Fin0.mk | refine Go.Eng.Chk.mk ?_ ?_ | refine Own.l ?_ | fail))
            refine Need.mk (by
              (repeat' (first | exact trivial | rfl | exact Nat.one_pos | (refine And.intro ?_ ?_) | ((conv => whnf); (refine And.intro ?_ ?_)) | ((conv => whnf); exact trivial)))
              · rw [e1]
              · rw [e1]) ?_
            refine Two.mk ?_ ?_
            · (repeat' ((conv => whnf); first | (refine Giv.mk fun _ => ?_) | (refine Alt.l (Need.mk ?h ?_); case h => omega) | (refine Alt.r (Need.mk ?h ?_); case h => omega) | (refine Need.mk ?h ?_; case h => first | omega | (intro _; rfl) | assumption | (simp <;> omega)) | refine Ix.zero ?_ | refine Ix.one ?_ | refine Ix.two ?_ | refine Ix.nat ?_ | refine Ix.add ?_ | (apply Go.Eng.Pin.mk; apply Exists.intro) | apply Go.Eng.Pinned.mk rfl rfl | (apply Go.Eng.PinH.mk; apply Exists.intro; apply Exists.intro) | exact Go.Eng.Fin0.mk | refine Go.Eng.Chk.mk ?_ ?_ | refine Own.l ?_ | fail))
              refine Need.mk (by
                (repeat' (first | exact trivial | rfl | exact Nat.one_pos | (refine And.intro ?_ ?_) | ((conv => whnf); (refine And.intro ?_ ?_)) | ((conv => whnf); exact trivial)))
                · rw [e2]
                · rw [e2]) ?_
              refine Two.mk ?_ ?_
              · (repeat' ((conv => whnf); first | (refine Giv.mk fun _ => ?_) | (refine Alt.l (Need.mk ?h ?_); case h => omega) | (refine Alt.r (Need.mk ?h ?_); case h => omega) | (refine Need.mk ?h ?_; case h => first | omega | (intro _; rfl) | assumption | (simp <;> omega)) | refine Ix.zero ?_ | refine Ix.one ?_ | refine Ix.two ?_ | refine Ix.nat ?_ | refine Ix.add ?_ | (apply Go.Eng.Pin.mk; apply Exists.intro) | apply Go.Eng.Pinned.mk rfl rfl | (apply Go.Eng.PinH.mk; apply Exists.intro; apply Exists.intro) | exact Go.Eng.Fin0.mk | refine Go.Eng.Chk.mk ?_ ?_ | refine Own.l ?_ | fail))
                refine ⟨(k + 1 : Nat), by show on.length - (k + 1) < on.length - k; omega, ⟨hk1, by rw [hms, List.length_append, hlen]; rfl⟩, ?_⟩
                (repeat' (first | exact trivial | rfl | exact Nat.one_pos | (refine And.intro ?_ ?_) | omega | ((conv => whnf); (refine And.intro ?_ ?_)) | ((conv => whnf); exact trivial)))
                · exact congrArg some hnl.symm
                · show _ = putL (words on.length) (msAt on on.length (k + 1))
                  rw [hms]; exact hput.symm
              · (repeat' ((conv => whnf); first | (refine Giv.mk fun _ => ?_) | (refine Alt.l (Need.mk ?h ?_); case h => omega) | (refine Alt.r (Need.mk ?h ?_); case h => omega) | (refine Need.mk ?h ?_; case h => first | omega | (intro _; rfl) | assumption | (simp <;> omega)) | refine Ix.zero ?_ | refine Ix.one ?_ | refine Ix.two ?_ | refine Ix.nat ?_ | refine Ix.add ?_ | (apply Go.Eng.Pin.mk; apply Exists.intro) | apply Go.Eng.Pinned.mk rfl rfl | (apply Go.Eng.PinH.mk; apply Exists.intro; apply Exists.intro) | exact Go.Eng.Fin0.mk | refine Go.Eng.Chk.mk ?_ ?_ | refine Own.l ?_ | fail))
                (conv => whnf)
                trivial
            · (repeat' ((conv => whnf); first | (refine Giv.mk fun _ => ?_) | (refine Alt.l (Need.mk ?h ?_); case h => omega) | (refine Alt.r (Need.mk ?h ?_); case h => omega) | (refine Need.mk ?h ?_; case h => first | omega | (intro _; rfl) | assumption | (simp <;> omega)) | refine Ix.zero ?_ | refine Ix.one ?_ | refine Ix.two ?_ | refine Ix.nat ?_ | refine Ix.add ?_ | (apply Go.Eng.Pin.mk; apply Exists.intro) | apply Go.Eng.Pinned.mk rfl rfl | (apply Go.Eng.PinH.mk; apply Exists.intro; apply Exists.intro) | exact Go.Eng.Fin0.mk | refine Go.Eng.Chk.mk ?_ ?_ | refine Own.l ?_ | fail))
              (conv => whnf)
              trivial
          · rename_i hf
            have hst : stepOf rs (i : Int) = [(1, (i : Int))] := by unfold stepOf; rw [if_pos (by simpa using hf)]
            rw [hst] at hS
            have hl1 : (stepsOf rs (msAt on on.length k)).length < (ordS on rs on.length).length := by rw [hS]; simp
            have hnl : (stepsOf rs (msAt on on.length (k + 1))).length = (stepsOf rs (msAt on on.length k)).length + 1 := by
              rw [hms, stepsOf_append, List.length_append]
              show _ + (stepOf rs (i : Int) ++ []).length = _
              rw [hst]; rfl
            have e1 : (ordS on rs on.length).getD (stepsOf rs (msAt on on.length k)).length (0, 0) = (1, (i : Int)) := by rw [hS]; exact getD_mid _ _ _ _
            (repeat' ((conv => whnf); first | (refine Giv.mk fun _ => ?_) | (refine Alt.l (Need.mk ?h ?_); case h => omega) | (refine Alt.r (Need.mk ?h ?_); case h => omega) | (refine Need.mk ?h ?_; case h => first | omega | (intro _; rfl) | assumption | (simp <;> omega)) | refine Ix.zero ?_ | refine Ix.one ?_ | refine Ix.two ?_ | refine Ix.nat ?_ | refine Ix.add ?_ | (apply Go.Eng.Pin.mk; apply Exists.intro) | apply Go.Eng.Pinned.mk rfl rfl | (apply Go.Eng.PinH.mk; apply Exists.intro; apply Exists.intro) | exact Go.Eng.Fin0.mk | refine Go.Eng.Chk.mk ?_ ?_ | refine Own.l ?_ | fail))
            refine Need.mk (by
              (repeat' (first | exact trivial | rfl | exact Nat.one_pos | (refine And.intro ?_ ?_) | ((conv => whnf); (refine And.intro ?_ ?_)) | ((conv => whnf); exact trivial)))
              · rw [e1]
              · rw [e1]) ?_
            refine Two.mk ?_ ?_
            · (repeat' ((conv => whnf); first | (refine Giv.mk fun _ => ?_) | (refine Alt.l (Need.mk ?h ?_); case h => omega) | (refine Alt.r (Need.mk ?h ?_); case h => omega) | (refine Need.mk ?h ?_; case h => first | omega | (intro _; rfl) | assumption | (simp <;> omega)) | refine Ix.zero ?_ | refine Ix.one ?_ | refine Ix.two ?_ | refine Ix.nat ?_ | refine Ix.add ?_ | (apply Go.Eng.Pin.mk; apply Exists.intro) | apply Go.Eng.Pinned.mk rfl rfl | (apply Go.Eng.PinH.mk; apply Exists.intro; apply Exists.intro) | exact Go.Eng.Fin0.mk | refine Go.Eng.Chk.mk ?_ ?_ | refine Own.l ?_ | fail))
              refine ⟨(k + 1 : Nat), by show on.length - (k + 1) < on.length - k; omega, ⟨hk1, by rw [hms, List.length_append, hlen]; rfl⟩, ?_⟩
              (repeat' (first | exact trivial | rfl | exact Nat.one_pos | (refine And.intro ?_ ?_) | omega | ((conv => whnf); (refine And.intro ?_ ?_)) | ((conv => whnf); exact trivial)))
              · exact congrArg some hnl.symm
              · show _ = putL (words on.length) (msAt on on.length (k + 1))
                rw [hms]; exact hput.symm
            · (repeat' ((conv => whnf); first | (refine Giv.mk fun _ => ?_) | (refine Alt.l (Need.mk ?h ?_); case h => omega) | (refine Alt.r (Need.mk ?h ?_); case h => omega) | (refine Need.mk ?h ?_; case h => first | omega | (intro _; rfl) | assumption | (simp <;> omega)) | refine Ix.zero ?_ | refine Ix.one ?_ | refine Ix.two ?_ | refine Ix.nat ?_ | refine Ix.add ?_ | (apply Go.Eng.Pin.mk; apply Exists.intro) | apply Go.Eng.Pinned.mk rfl rfl | (apply Go.Eng.PinH.mk; apply Exists.intro; apply Exists.intro) | exact Go.Eng.Fin0.mk | refine Go.Eng.Chk.mk ?_ ?_ | refine Own.l ?_ | fail))
              (conv => whnf)
              trivial
        · rename_i hr
          (repeat' ((conv => whnf); first | (refine Giv.mk fun _ => ?_) | (refine Alt.l (Need.mk ?h ?_); case h => omega) | (refine Alt.r (Need.mk ?h ?_); case h => omega) | (refine Need.mk ?h ?_; case h => first | omega | (intro _; rfl) | assumption | (simp <;> omega)) | refine Ix.zero ?_ | refine Ix.one ?_ | refine Ix.two ?_ | refine Ix.nat ?_ | refine Ix.add ?_ | (apply Go.Eng.Pin.mk; apply Exists.intro) | apply Go.Eng.Pinned.mk rfl rfl | (apply Go.Eng.PinH.mk; apply Exists.intro; apply Exists.intro) | exact Go.Eng.Fin0.mk | refine Go.Eng.Chk.mk ?_ ?_ | refine Own.l ?_ | fail))
          refine ⟨(i + 1 : Nat), by show on.length - (i + 1) < on.length - i; omega, ⟨hlt, fun j hj => ?_⟩, by (repeat' (first | exact trivial | rfl | exact Nat.one_pos | (refine And.intro ?_ ?_) | omega | ((conv => whnf); (refine And.intro ?_ ?_)) | ((conv => whnf); exact trivial)))⟩
          by_cases e : j = i
          · subst e; exact hr
          · exact hno j (by omega)
      · have hii : i = on.length := by omega
        subst hii
        have hnx : nxt on on.length (msAt on on.length k) = -1 := nxt_none hno
        have he := ordS_end (rs := rs) hk (by rw [hnx]; omega)
        (repeat' ((conv => whnf); first | (refine Giv.mk fun _ => ?_) | (refine Alt.l (Need.mk ?h ?_); case h => omega) | (refine Alt.r (Need.mk ?h ?_); case h => omega) | (refine Need.mk ?h ?_; case h => first | omega | (intro _; rfl) | assumption | (simp <;> omega)) | refine Ix.zero ?_ | refine Ix.one ?_ | refine Ix.two ?_ | refine Ix.nat ?_ | refine Ix.add ?_ | (apply Go.Eng.Pin.mk; apply Exists.intro) | apply Go.Eng.Pinned.mk rfl rfl | (apply Go.Eng.PinH.mk; apply Exists.intro; apply Exists.intro) | exact Go.Eng.Fin0.mk | refine Go.Eng.Chk.mk ?_ ?_ | refine Own.l ?_ | (refine Br.mkY ?h ?_; case h => first | omega | assumption) | (refine Br.mkN ?h ?_; case h => first | omega | assumption | exact not_not_intro (by assumption)) | fail))
        (conv => whnf)
        rw [he]
def c75 : Con := mkCon 75 true fun args K => match args with | [.lelem [.seq (.slice (.int .i64)) on, .seq .bool rs] 0] => Need (SiteOk on rs) (K (.itr (ordS on rs on.length).length (itS (ordS on rs on.length)))) | _ => False
theorem k75 : ConOK Try.prog c75 := by
  refine conOK_of rfl (enters_of Try.func75 (by kernel_rfl) rfl) ?_
  intro args K h
  simp only [c75] at h
  split at h
  · rename_i on rs; exact ⟨_, h.go, triI_of_body (Γ := [c46, c47, c49]) (by simp [k46, k47, k49]) Try.func75 (by simp [Try.ntmps75]) (b75 on rs h.ok)⟩
  · exact h.elim
end EB
end
section
set_option linter.unusedVariables false
open Go Go.Proofs Go.Eng Go.Shelf
namespace EB
set_option maxRecDepth 10000
/-! ### erect.Order -/
def ordL (n : Int) (l : List (Int × Int)) : List (Int × Int) := ordS (onL n l) (restL n l) n
def raisedIn (S : List (Int × Int)) (k : Nat) : Int := ((S.take k).filter fun x => decide (x.1 = 1)).length
def orderRes (n : Int) (l : List (Int × Int)) : List (Int × Int) := if supE n l = 0 ∧ ¬ raisedIn (ordL n l) (ordL n l).length < n then ordL n l else []
def orderErr (n : Int) (l : List (Int × Int)) : Int := if ¬ supE n l = 0 then 1 else if raisedIn (ordL n l) (ordL n l).length < n then 27 else 0
theorem raised_le (S : List (Int × Int)) (k : Nat) : 0 ≤ raisedIn S k ∧ raisedIn S k ≤ S.length := by
  unfold raisedIn
  have := List.length_filter_le (fun x : Int × Int => decide (x.1 = 1)) (S.take k)
  rw [List.length_take] at this
  omega
theorem raised_succ (S : List (Int × Int)) (k : Nat) (h : k < S.length) : raisedIn S (k + 1) = raisedIn S k + (if (S.getD k (0, 0)).1 = 1 then 1 else 0) := by
  unfold raisedIn
  rw [take_pair S k h, List.filter_append, List.length_append]
  by_cases e : (S.getD k (0, 0)).1 = 1
  · rw [if_pos e]; simp only [List.filter_cons, decide_eq_true e]; simp
  · rw [if_neg e]; simp only [List.filter_cons, decide_eq_false e]; simp
theorem siteOk (n : Int) (l : List (Int × Int)) (h : RestsOk n l) : SiteOk (onL n l) (restL n l) := by
  obtain ⟨h1, h2, h3, h4⟩ := h
  refine ⟨onL_ok n l, by rw [onL_len]; omega, by rw [onL_len]; exact restN_len _ _ _⟩
theorem b32 (n : Int) (l : List (Int × Int)) : body Try.prog [c43, c48, c61, c75] { asks := [(0, [1])] } true Try.f32 [I n, Ps l] (.tup [Ps (orderRes n l), I (orderErr n l)]) := by
  (repeat' ((conv => whnf); first | (refine Giv.mk fun _ => ?_) | (refine Alt.l (Need.mk ?h ?_); case h => omega) | (refine Alt.r (Need.mk ?h ?_); case h => omega) | (refine Need.mk ?h ?_; case h => first | omega | (intro _; rfl) | assumption | (simp <;> omega)) | refine Ix.zero ?_ | refine Ix.one ?_ | refine Ix.two ?_ | refine Ix.nat ?_ | refine Ix.add ?_ | (apply Go.Eng.Pin.mk; apply Exists.intro) | apply Go.Eng.Pinned.mk rfl rfl | (apply Go.Eng.PinH.mk; apply Exists.intro; apply Exists.intro) | exact Go.Eng.Fin0.mk | refine Go.Eng.Chk.mk ?_ ?_ | refine Own.l ?_ | fail))
  (refine Br.mk (fun _ => ?_) (fun _ => ?_))
  · rename_i h
    (repeat' ((conv => whnf); first | (refine Giv.mk fun _ => ?_) | (refine Alt.l (Need.mk ?h ?_); case h => omega) | (refine Alt.r (Need.mk ?h ?_); case h => omega) | (refine Need.mk ?h ?_; case h => first | omega | (intro _; rfl) | assumption | (simp <;> omega)) | refine Ix.zero ?_ | refine Ix.one ?_ | refine Ix.two ?_ | refine Ix.nat ?_ | refine Ix.add ?_ | (apply Go.Eng.Pin.mk; apply Exists.intro) | apply Go.Eng.Pinned.mk rfl rfl | (apply Go.Eng.PinH.mk; apply Exists.intro; apply Exists.intro) | exact Go.Eng.Fin0.mk | refine Go.Eng.Chk.mk ?_ ?_ | refine Own.l ?_ | fail))
    (conv => whnf)
    refine ⟨?_, ?_, trivial⟩
    · (conv => whnf)
      unfold orderRes; rw [if_neg fun e => h e.1]
    · exact ⟨rfl, by unfold orderErr; rw [if_pos h]⟩
  · rename_i h
    have h : supE n l = 0 := Classical.not_not.1 h
    have hro := supE_rests h
    obtain ⟨r1, r2, r3, r4⟩ := id hro
    have hso := siteOk n l hro
    have hon : ((onL n l).length : Int) = n := by rw [onL_len]; omega
    (repeat' ((conv => whnf); first | (refine Giv.mk fun _ => ?_) | (refine Alt.l (Need.mk ?h ?_); case h => omega) | (refine Alt.r (Need.mk ?h ?_); case h => omega) | (refine Need.mk ?h ?_; case h => first | omega | (intro _; rfl) | assumption | (simp <;> omega)) | refine Ix.zero ?_ | refine Ix.one ?_ | refine Ix.two ?_ | refine Ix.nat ?_ | refine Ix.add ?_ | (apply Go.Eng.Pin.mk; apply Exists.intro) | apply Go.Eng.Pinned.mk rfl rfl | (apply Go.Eng.PinH.mk; apply Exists.intro; apply Exists.intro) | exact Go.Eng.Fin0.mk | refine Go.Eng.Chk.mk ?_ ?_ | refine Own.l ?_ | fail))
    have hS : ordS (onN n.toNat l l.length) (restN n.toNat l l.length) (onN n.toNat l l.length).length = ordL n l := by
      show ordS (onL n l) (restL n l) (onL n l).length = ordL n l
      unfold ordL; rw [hon]
    have hSl : (ordL n l).length ≤ 2048 := by
      have := stepsOf_len (restL n l) (msAt (onL n l) n n.toNat)
      have h2 := msAt_len (onL n l) r2 n.toNat
      show (stepsOf _ _).length ≤ _
      omega
    have hrl := raised_le (ordL n l)
    refine Ask.mk ⟨{ X := Nat, pre := fun i => i ≤ (ordL n l).length, mod := fun _ _ => [], heap := fun i _ => [.vec 1 Two [] 29, .vec 1 Two ((ordL n l).take i) 29, .cells [.ref 1 1] 23, .cells [I (raisedIn (ordL n l) i)] 3], objs := [1], mu := fun i => i }, rfl, ?_⟩
    (repeat' ((conv => whnf); first | (refine Giv.mk fun _ => ?_) | (refine Alt.l (Need.mk ?h ?_); case h => omega) | (refine Alt.r (Need.mk ?h ?_); case h => omega) | (refine Need.mk ?h ?_; case h => first | omega | (intro _; rfl) | assumption | (simp <;> omega)) | refine Ix.zero ?_ | refine Ix.one ?_ | refine Ix.two ?_ | refine Ix.nat ?_ | refine Ix.add ?_ | (apply Go.Eng.Pin.mk; apply Exists.intro) | apply Go.Eng.Pinned.mk rfl rfl | (apply Go.Eng.PinH.mk; apply Exists.intro; apply Exists.intro) | exact Go.Eng.Fin0.mk | refine Go.Eng.Chk.mk ?_ ?_ | refine Own.l ?_ | fail))
    rw [hS]
    refine ⟨⟨(0 : Nat), rfl, Nat.zero_le _, ?_⟩, fun (i : Nat) hi (hlt : i < (ordL n l).length) => ?_, fun (i : Nat) hi (he : i = (ordL n l).length) => ?_⟩
    · (repeat' (first | exact trivial | rfl | exact Nat.one_pos | (refine And.intro ?_ ?_) | omega | ((conv => whnf); (refine And.intro ?_ ?_)) | ((conv => whnf); exact trivial)))
    · have hi : i ≤ (ordL n l).length := hi
      have hrs := raised_succ (ordL n l) i hlt
      have hb1 := hrl i
      have htk := take_pair (ordL n l) i hlt
      (repeat' ((conv => whnf); first | (refine Giv.mk fun _ => ?_) | (refine Alt.l (Need.mk ?h ?_); case h => omega) | (refine Alt.r (Need.mk ?h ?_); case h => omega) | (refine Need.mk ?h ?_; case h => first | omega | (intro _; rfl) | assumption | (simp <;> omega)) | refine Ix.zero ?_ | refine Ix.one ?_ | refine Ix.two ?_ | refine Ix.nat ?_ | refine Ix.add ?_ | (apply Go.Eng.Pin.mk; apply Exists.intro) | apply Go.Eng.Pinned.mk rfl rfl | (apply Go.Eng.PinH.mk; apply Exists.intro; apply Exists.intro) | exact Go.Eng.Fin0.mk | refine Go.Eng.Chk.mk ?_ ?_ | refine Own.l ?_ | fail))
      (refine Br.mk (fun _ => ?_) (fun _ => ?_))
      · rename_i hh
        have hh : ((ordL n l).getD i (0, 0)).1 = 1 := hh
        rw [if_pos hh] at hrs
        (repeat' ((conv => whnf); first | (refine Giv.mk fun _ => ?_) | (refine Alt.l (Need.mk ?h ?_); case h => omega) | (refine Alt.r (Need.mk ?h ?_); case h => omega) | (refine Need.mk ?h ?_; case h => first | omega | (intro _; rfl) | assumption | (simp <;> omega)) | refine Ix.zero ?_ | refine Ix.one ?_ | refine Ix.two ?_ | refine Ix.nat ?_ | refine Ix.add ?_ | (apply Go.Eng.Pin.mk; apply Exists.intro) | apply Go.Eng.Pinned.mk rfl rfl | (apply Go.Eng.PinH.mk; apply Exists.intro; apply Exists.intro) | exact Go.Eng.Fin0.mk | refine Go.Eng.Chk.mk ?_ ?_ | refine Own.l ?_ | fail))
        refine ⟨(i + 1 : Nat), rfl, hlt, ?_⟩
        (repeat' (first | exact trivial | rfl | exact Nat.one_pos | (refine And.intro ?_ ?_) | omega | ((conv => whnf); (refine And.intro ?_ ?_)) | ((conv => whnf); exact trivial)))
        exact htk.symm
      · rename_i hh
        have hh : ¬ ((ordL n l).getD i (0, 0)).1 = 1 := hh
        rw [if_neg hh] at hrs
        (repeat' ((conv => whnf); first | (refine Giv.mk fun _ => ?_) | (refine Alt.l (Need.mk ?h ?_); case h => omega) | (refine Alt.r (Need.mk ?h ?_); case h => omega) | (refine Need.mk ?h ?_; case h => first | omega | (intro _; rfl) | assumption | (simp <;> omega)) | refine Ix.zero ?_ | refine Ix.one ?_ | refine Ix.two ?_ | refine Ix.nat ?_ | refine Ix.add ?_ | (apply Go.Eng.Pin.mk; apply Exists.intro) | apply Go.Eng.Pinned.mk rfl rfl | (apply Go.Eng.PinH.mk; apply Exists.intro; apply Exists.intro) | exact Go.Eng.Fin0.mk | refine Go.Eng.Chk.mk ?_ ?_ | refine Own.l ?_ | fail))
        refine ⟨(i + 1 : Nat), rfl, hlt, ?_⟩
        (repeat' (first | exact trivial | rfl | exact Nat.one_pos | (refine And.intro ?_ ?_) | omega | ((conv => whnf); (refine And.intro ?_ ?_)) | ((conv => whnf); exact trivial)))
        exact htk.symm
    · have he : i = (ordL n l).length := he
      subst he
      (repeat' ((conv => whnf); first | (refine Giv.mk fun _ => ?_) | (refine Alt.l (Need.mk ?h ?_); case h => omega) | (refine Alt.r (Need.mk ?h ?_); case h => omega) | (refine Need.mk ?h ?_; case h => first | omega | (intro _; rfl) | assumption | (simp <;> omega)) | refine Ix.zero ?_ | refine Ix.one ?_ | refine Ix.two ?_ | refine Ix.nat ?_ | refine Ix.add ?_ | (apply Go.Eng.Pin.mk; apply Exists.intro) | apply Go.Eng.Pinned.mk rfl rfl | (apply Go.Eng.PinH.mk; apply Exists.intro; apply Exists.intro) | exact Go.Eng.Fin0.mk | refine Go.Eng.Chk.mk ?_ ?_ | refine Own.l ?_ | fail))
      (refine Br.mk (fun _ => ?_) (fun _ => ?_))
      · rename_i hlt
        (repeat' ((conv => whnf); first | (refine Giv.mk fun _ => ?_) | (refine Alt.l (Need.mk ?h ?_); case h => omega) | (refine Alt.r (Need.mk ?h ?_); case h => omega) | (refine Need.mk ?h ?_; case h => first | omega | (intro _; rfl) | assumption | (simp <;> omega)) | refine Ix.zero ?_ | refine Ix.one ?_ | refine Ix.two ?_ | refine Ix.nat ?_ | refine Ix.add ?_ | (apply Go.Eng.Pin.mk; apply Exists.intro) | apply Go.Eng.Pinned.mk rfl rfl | (apply Go.Eng.PinH.mk; apply Exists.intro; apply Exists.intro) | exact Go.Eng.Fin0.mk | refine Go.Eng.Chk.mk ?_ ?_ | refine Own.l ?_ | fail))
        (conv => whnf)
        refine ⟨?_, ⟨rfl, ?_⟩, trivial⟩
        · (conv => whnf)
          unfold orderRes; rw [if_neg fun e => e.2 hlt]
        · unfold orderErr; rw [if_neg fun e => e h, if_pos hlt]
      · rename_i hlt
        (repeat' ((conv => whnf); first | (refine Giv.mk fun _ => ?_) | (refine Alt.l (Need.mk ?h ?_); case h => omega) | (refine Alt.r (Need.mk ?h ?_); case h => omega) | (refine Need.mk ?h ?_; case h => first | omega | (intro _; rfl) | assumption | (simp <;> omega)) | refine Ix.zero ?_ | refine Ix.one ?_ | refine Ix.two ?_ | refine Ix.nat ?_ | refine Ix.add ?_ | (apply Go.Eng.Pin.mk; apply Exists.intro) | apply Go.Eng.Pinned.mk rfl rfl | (apply Go.Eng.PinH.mk; apply Exists.intro; apply Exists.intro) | exact Go.Eng.Fin0.mk | refine Go.Eng.Chk.mk ?_ ?_ | refine Own.l ?_ | fail))
        (conv => whnf)
        refine ⟨?_, ⟨rfl, ?_⟩, trivial⟩
        · (conv => whnf)
          unfold orderRes; rw [if_pos ⟨h, hlt⟩, List.take_length]
        · unfold orderErr; rw [if_neg fun e => e h, if_neg hlt]
def c32 : Con := mkCon 32 true fun args K => match args with | [.val (.int .i64 n), .seq (.pair (.int .i64) (.int .i64)) l] => K (.tup [Ps (orderRes n l), I (orderErr n l)]) | _ => False
theorem k32 : ConOK Try.prog c32 := by
  refine conOK_of rfl (enters_of Try.func32 (by kernel_rfl) rfl) ?_
  intro args K h
  simp only [c32] at h
  split at h
  · rename_i n l; exact ⟨_, h, tri_of_body (Γ := [c43, c48, c61, c75]) (by simp [k43, k48, k61, k75]) Try.func32 (by simp [Try.ntmps32]) rfl (b32 n l)⟩
  · exact h.elim
/-! ### The laws' own functions -/
theorem b45 : body Try.prog [] {} false Try.f45 [] (Ps [(0, -1), (1, 0)]) := by
  (repeat' ((conv => whnf); first | (refine Giv.mk fun _ => ?_) | (refine Alt.l (Need.mk ?h ?_); case h => omega) | (refine Alt.r (Need.mk ?h ?_); case h => omega) | (refine Need.mk ?h ?_; case h => first | omega | (intro _; rfl) | assumption | (simp <;> omega)) | refine Ix.zero ?_ | refine Ix.one ?_ | refine Ix.two ?_ | refine Ix.nat ?_ | refine Ix.add ?_ | (apply Go.Eng.Pin.mk; apply Exists.intro) | apply Go.Eng.Pinned.mk rfl rfl | (apply Go.Eng.PinH.mk; apply Exists.intro; apply Exists.intro) | exact Go.Eng.Fin0.mk | refine Go.Eng.Chk.mk ?_ ?_ | refine Own.l ?_ | fail))
  (conv => whnf)
def c45 : Con := mkCon 45 false fun args K => match args with | [] => K (Ps [(0, -1), (1, 0)]) | _ => False
theorem k45 : ConOK Try.prog c45 := by
  refine conOK_of rfl (enters_of Try.func45 (by kernel_rfl) rfl) ?_
  intro args K h
  simp only [c45] at h
  split at h
  · exact ⟨_, h, tri_of_body (Γ := []) (by simp) Try.func45 (by simp [Try.ntmps45]) rfl b45⟩
  · exact h.elim
def n12 (s : Int) : Int := s % 13
def okP (s : Int) (l : List (Int × Int)) : Prop := l.length ≤ 30 ∧ orderErr (n12 s) l = 0
instance (s : Int) (l : List (Int × Int)) : Decidable (okP s l) := by unfold okP; exact inferInstance
def res12 (s : Int) (l : List (Int × Int)) : List (Int × Int) := if l.length ≤ 30 then orderRes (n12 s) l else []
theorem orderRes_bad {n : Int} {l : List (Int × Int)} (h : ¬ supE n l = 0) : orderRes n l = [] ∧ ¬ orderErr n l = 0 := by
  unfold orderRes orderErr
  rw [if_neg fun e => h e.1, if_pos h]
  exact ⟨rfl, by decide⟩
theorem b12 (s : Int) (l : List (Int × Int)) (h : 0 ≤ s ∧ s ≤ 255) : body Try.prog [c32, c43] {} false Try.f12 [.val (.int .u8 s), Ps l] (.tup [I (n12 s), Ps (res12 s l), .bl (okP s l) inferInstance]) := by
  obtain ⟨h1, h2⟩ := h
  (repeat' ((conv => whnf); first | (refine Giv.mk fun _ => ?_) | (refine Alt.l (Need.mk ?h ?_); case h => omega) | (refine Alt.r (Need.mk ?h ?_); case h => omega) | (refine Need.mk ?h ?_; case h => first | omega | (intro _; rfl) | assumption | (simp <;> omega)) | refine Ix.zero ?_ | refine Ix.one ?_ | refine Ix.two ?_ | refine Ix.nat ?_ | refine Ix.add ?_ | (apply Go.Eng.Pin.mk; apply Exists.intro) | apply Go.Eng.Pinned.mk rfl rfl | (apply Go.Eng.PinH.mk; apply Exists.intro; apply Exists.intro) | exact Go.Eng.Fin0.mk | refine Go.Eng.Chk.mk ?_ ?_ | refine Own.l ?_ | fail))
  (refine Br.mk (fun _ => ?_) (fun _ => ?_))
  · rename_i hl
    (repeat' ((conv => whnf); first | (refine Giv.mk fun _ => ?_) | (refine Alt.l (Need.mk ?h ?_); case h => omega) | (refine Alt.r (Need.mk ?h ?_); case h => omega) | (refine Need.mk ?h ?_; case h => first | omega | (intro _; rfl) | assumption | (simp <;> omega)) | refine Ix.zero ?_ | refine Ix.one ?_ | refine Ix.two ?_ | refine Ix.nat ?_ | refine Ix.add ?_ | (apply Go.Eng.Pin.mk; apply Exists.intro) | apply Go.Eng.Pinned.mk rfl rfl | (apply Go.Eng.PinH.mk; apply Exists.intro; apply Exists.intro) | exact Go.Eng.Fin0.mk | refine Go.Eng.Chk.mk ?_ ?_ | refine Own.l ?_ | fail))
    (conv => whnf)
    refine ⟨⟨rfl, rfl⟩, ?_, ?_, trivial⟩
    · (conv => whnf)
      show [] = res12 s l
      unfold res12; rw [if_neg (by omega)]
    · exact fun e => by have := e.1; omega
  · rename_i hl
    have hl : l.length ≤ 30 := by omega
    (repeat' ((conv => whnf); first | (refine Giv.mk fun _ => ?_) | (refine Alt.l (Need.mk ?h ?_); case h => omega) | (refine Alt.r (Need.mk ?h ?_); case h => omega) | (refine Need.mk ?h ?_; case h => first | omega | (intro _; rfl) | assumption | (simp <;> omega)) | refine Ix.zero ?_ | refine Ix.one ?_ | refine Ix.two ?_ | refine Ix.nat ?_ | refine Ix.add ?_ | (apply Go.Eng.Pin.mk; apply Exists.intro) | apply Go.Eng.Pinned.mk rfl rfl | (apply Go.Eng.PinH.mk; apply Exists.intro; apply Exists.intro) | exact Go.Eng.Fin0.mk | refine Go.Eng.Chk.mk ?_ ?_ | refine Own.l ?_ | fail))
    (refine Br.mk (fun _ => ?_) (fun _ => ?_))
    · rename_i hs
      (repeat' ((conv => whnf); first | (refine Giv.mk fun _ => ?_) | (refine Alt.l (Need.mk ?h ?_); case h => omega) | (refine Alt.r (Need.mk ?h ?_); case h => omega) | (refine Need.mk ?h ?_; case h => first | omega | (intro _; rfl) | assumption | (simp <;> omega)) | refine Ix.zero ?_ | refine Ix.one ?_ | refine Ix.two ?_ | refine Ix.nat ?_ | refine Ix.add ?_ | (apply Go.Eng.Pin.mk; apply Exists.intro) | apply Go.Eng.Pinned.mk rfl rfl | (apply Go.Eng.PinH.mk; apply Exists.intro; apply Exists.intro) | exact Go.Eng.Fin0.mk | refine Go.Eng.Chk.mk ?_ ?_ | refine Own.l ?_ | fail))
      (conv => whnf)
      refine ⟨⟨rfl, rfl⟩, ?_, ?_, trivial⟩
      · (conv => whnf)
        show [] = res12 s l
        unfold res12; rw [if_pos hl]; exact (orderRes_bad hs).1.symm
      · exact fun e => (orderRes_bad hs).2 e.2
    · rename_i hs
      (repeat' ((conv => whnf); first | (refine Giv.mk fun _ => ?_) | (refine Alt.l (Need.mk ?h ?_); case h => omega) | (refine Alt.r (Need.mk ?h ?_); case h => omega) | (refine Need.mk ?h ?_; case h => first | omega | (intro _; rfl) | assumption | (simp <;> omega)) | refine Ix.zero ?_ | refine Ix.one ?_ | refine Ix.two ?_ | refine Ix.nat ?_ | refine Ix.add ?_ | (apply Go.Eng.Pin.mk; apply Exists.intro) | apply Go.Eng.Pinned.mk rfl rfl | (apply Go.Eng.PinH.mk; apply Exists.intro; apply Exists.intro) | exact Go.Eng.Fin0.mk | refine Go.Eng.Chk.mk ?_ ?_ | refine Own.l ?_ | fail))
      (conv => whnf)
      refine ⟨⟨rfl, rfl⟩, ?_, ?_, trivial⟩
      · (conv => whnf)
        show _ = res12 s l
        unfold res12; rw [if_pos hl]; rfl
      · exact ⟨fun e => ⟨hl, e⟩, fun e => e.2⟩
def c12 : Con := mkCon 12 false fun args K => match args with | [.val (.int .u8 s), .seq (.pair (.int .i64) (.int .i64)) l] => Need (0 ≤ s ∧ s ≤ 255) (K (.tup [I (n12 s), Ps (res12 s l), .bl (okP s l) inferInstance])) | _ => False
theorem k12 : ConOK Try.prog c12 := by
  refine conOK_of rfl (enters_of Try.func12 (by kernel_rfl) rfl) ?_
  intro args K h
  simp only [c12] at h
  split at h
  · rename_i s l; exact ⟨_, h.go, tri_of_body (Γ := [c32, c43]) (by simp [k32, k43]) Try.func12 (by simp [Try.ntmps12]) rfl (b12 s l h.ok)⟩
  · exact h.elim
end EB
end
section
set_option linter.unusedVariables false
namespace Go.Eng
/-! ### Plain laws of maps -/
section
variable {α : Type}
theorem findK_app (xs ys : List (Nat × Int × α)) (n : Int) : findK (xs ++ ys) n = match findK xs n with
    | some x => some x
    | none => findK ys n := by
  induction xs with
  | nil => rfl
  | cons e r ih =>
    simp only [List.cons_append, findK]
    split
    · rfl
    · exact ih
theorem findK_setK (xs : List (Nat × Int × α)) (n n' : Int) (x : α) (h : ∃ y, findK xs n = some y) : findK (setK xs n x) n' = if n' = n then some x else findK xs n' := by
  induction xs with
  | nil => obtain ⟨y, hy⟩ := h; cases hy
  | cons e r ih =>
    simp only [setK]
    by_cases he : e.2.1 = n
    · rw [if_pos he]
      simp only [findK]
      by_cases h1 : n = n'
      · rw [if_pos h1, if_pos h1.symm]
      · rw [if_neg h1, if_neg (fun h => h1 h.symm), if_neg (by rw [he]; exact h1)]
    · rw [if_neg he]
      simp only [findK]
      have : ∃ y, findK r n = some y := by obtain ⟨y, hy⟩ := h; simp only [findK, if_neg he] at hy; exact ⟨y, hy⟩
      by_cases h1 : e.2.1 = n'
      · rw [if_pos h1, if_pos h1, if_neg (by rw [← h1]; exact he)]
      · rw [if_neg h1, if_neg h1]; exact ih this
theorem MapS.get_put (m : MapS α) (n n' : Int) (x : α) : (m.put n x).get n' = if n' = n then some x else m.get n' := by
  unfold MapS.put MapS.get
  split
  · rename_i y hy
    exact findK_setK _ _ _ _ ⟨y, hy⟩
  · rename_i hn
    simp only
    rw [findK_app]
    by_cases h : n' = n
    · subst h; rw [hn]; simp [findK]
    · rw [if_neg h]
      cases hf : findK m.es n' with
      | some y => rfl
      | none => simp [findK]; exact fun e => h e.symm
theorem findK_delK (xs : List (Nat × Int × α)) (n n' : Int) (h : xs.Pairwise fun a b => a.2.1 ≠ b.2.1) : findK (delK xs n) n' = if n' = n then none else findK xs n' := by
  induction xs with
  | nil => simp [delK, findK]
  | cons e r ih =>
    obtain ⟨h1, h2⟩ := List.pairwise_cons.1 h
    simp only [delK]
    by_cases he : e.2.1 = n
    · rw [if_pos he]
      by_cases hn : n' = n
      · rw [if_pos hn]
        subst hn
        cases hf : findK r n' with
        | none => rfl
        | some y =>
          have : ∃ e' ∈ r, e'.2.1 = n' := by
            clear ih h h1 h2
            induction r with
            | nil => cases hf
            | cons a r ih =>
              simp only [findK] at hf
              split at hf
              · rename_i h3; exact ⟨a, List.mem_cons_self, h3⟩
              · obtain ⟨e', h4, h5⟩ := ih hf; exact ⟨e', List.mem_cons_of_mem _ h4, h5⟩
          obtain ⟨e', h3, h4⟩ := this
          exact absurd (he.trans h4.symm) (h1 e' h3)
      · rw [if_neg hn]
        simp only [findK]
        rw [if_neg (by rw [he]; exact fun e => hn e.symm)]
    · rw [if_neg he]
      simp only [findK]
      by_cases h3 : e.2.1 = n'
      · rw [if_pos h3, if_pos h3, if_neg (by rw [← h3]; exact he)]
      · rw [if_neg h3, if_neg h3]; exact ih h2
theorem MapS.get_del {m : MapS α} (h : m.Wf) (n n' : Int) : (m.del n).get n' = if n' = n then none else m.get n' := findK_delK _ _ _ h.keys
theorem findK_of_mem {xs : List (Nat × Int × α)} (h : xs.Pairwise fun a b => a.2.1 ≠ b.2.1) {e} (he : e ∈ xs) : findK xs e.2.1 = some e.2.2 := by
  induction xs with
  | nil => cases he
  | cons x r ih =>
    obtain ⟨h1, h2⟩ := List.pairwise_cons.1 h
    simp only [findK]
    rcases List.mem_cons.1 he with he' | he'
    · rw [if_pos (by rw [he']), he']
    · rw [if_neg (h1 e he'), ih h2 he']
theorem mem_of_findK {n : Int} {x : α} : ∀ {es : List (Nat × Int × α)}, findK es n = some x → ∃ e ∈ es, e.2.1 = n ∧ e.2.2 = x
  | e₀ :: r, h => by
    simp only [findK] at h
    split at h
    · rename_i h1; cases h; exact ⟨e₀, List.mem_cons_self, h1, rfl⟩
    · obtain ⟨e, h1, h2⟩ := mem_of_findK h; exact ⟨e, List.mem_cons_of_mem _ h1, h2⟩
theorem MapS.get_new (n : Int) : (MapS.new : MapS α).get n = none := rfl
theorem MapS.length_put (m : MapS α) (n : Int) (x : α) : (m.put n x).es.length = if (m.get n).isSome then m.es.length else m.es.length + 1 := by
  unfold MapS.put MapS.get
  cases hf : findK m.es n with
  | some y => simp [setK_length]
  | none => simp
theorem delK_length {xs : List (Nat × Int × α)} {n : Int} {y : α} (h : findK xs n = some y) : (delK xs n).length + 1 = xs.length := by
  induction xs with
  | nil => cases h
  | cons e r ih =>
    simp only [delK]
    by_cases he : e.2.1 = n
    · rw [if_pos he]; rfl
    · rw [if_neg he]
      simp only [findK, if_neg he] at h
      simp only [List.length_cons, ih h]
theorem MapS.length_del {m : MapS α} {n : Int} (h : (m.get n).isSome) : (m.del n).es.length + 1 = m.es.length := by
  obtain ⟨y, hy⟩ := Option.isSome_iff_exists.1 h
  exact delK_length hy
end
end Go.Eng
end
section
set_option linter.unusedVariables false
open Go Go.Proofs Go.Eng Go.Shelf
set_option linter.unusedVariables false
namespace EB
set_option maxRecDepth 10000
theorem pair_ext {xs ys : List (Int × Int)} (h : xs.length = ys.length) (hg : ∀ p, p < xs.length → xs.getD p (0, 0) = ys.getD p (0, 0)) : xs = ys := by
  apply List.ext_getElem h
  intro i h1 h2
  have := hg i h1
  simpa [List.getD_eq_getElem?_getD, h1, h2] using this
/-! ### slices.Equal of steps -/
theorem b38 (xs ys : List (Int × Int)) : body Try.prog [] { loops := [(0, { X := Nat, pre := fun i => i ≤ xs.length ∧ ∀ j, j < i → xs.getD j (0, 0) = ys.getD j (0, 0), mod := fun i _ => [(13, I i)], mu := fun i => xs.length - i })] } true Try.f38 [Ps xs, Ps ys] (.bl (xs = ys) inferInstance) := by
  (repeat' ((conv => whnf); first | (refine Giv.mk fun _ => ?_) | (refine Alt.l (Need.mk ?h ?_); case h => omega) | (refine Alt.r (Need.mk ?h ?_); case h => omega) | (refine Need.mk ?h ?_; case h => first | omega | (intro _; rfl) | assumption | (simp <;> omega)) | refine Ix.zero ?_ | refine Ix.one ?_ | refine Ix.two ?_ | refine Ix.nat ?_ | refine Ix.add ?_ | (apply Go.Eng.Pin.mk; apply Exists.intro) | apply Go.Eng.Pinned.mk rfl rfl | (apply Go.Eng.PinH.mk; apply Exists.intro; apply Exists.intro) | exact Go.Eng.Fin0.mk | refine Go.Eng.Chk.mk ?_ ?_ | refine Own.l ?_ | fail))
  (refine Br.mk (fun _ => ?_) (fun _ => ?_))
  · rename_i h
    (conv => whnf)
    exact fun e => h (by rw [e])
  · rename_i hl
    (repeat' ((conv => whnf); first | (refine Giv.mk fun _ => ?_) | (refine Alt.l (Need.mk ?h ?_); case h => omega) | (refine Alt.r (Need.mk ?h ?_); case h => omega) | (refine Need.mk ?h ?_; case h => first | omega | (intro _; rfl) | assumption | (simp <;> omega)) | refine Ix.zero ?_ | refine Ix.one ?_ | refine Ix.two ?_ | refine Ix.nat ?_ | refine Ix.add ?_ | (apply Go.Eng.Pin.mk; apply Exists.intro) | apply Go.Eng.Pinned.mk rfl rfl | (apply Go.Eng.PinH.mk; apply Exists.intro; apply Exists.intro) | exact Go.Eng.Fin0.mk | refine Go.Eng.Chk.mk ?_ ?_ | refine Own.l ?_ | fail))
    refine ⟨⟨(0 : Nat), ⟨Nat.zero_le _, fun j hj => absurd hj (Nat.not_lt_zero _)⟩, by (repeat' (first | exact trivial | rfl | exact Nat.one_pos | (refine And.intro ?_ ?_) | omega | ((conv => whnf); (refine And.intro ?_ ?_)) | ((conv => whnf); exact trivial)))⟩, fun (i : Nat) hi => ?_⟩
    obtain ⟨hi, hb⟩ := hi
    (repeat' ((conv => whnf); first | (refine Giv.mk fun _ => ?_) | (refine Alt.l (Need.mk ?h ?_); case h => omega) | (refine Alt.r (Need.mk ?h ?_); case h => omega) | (refine Need.mk ?h ?_; case h => first | omega | (intro _; rfl) | assumption | (simp <;> omega)) | refine Ix.zero ?_ | refine Ix.one ?_ | refine Ix.two ?_ | refine Ix.nat ?_ | refine Ix.add ?_ | (apply Go.Eng.Pin.mk; apply Exists.intro) | apply Go.Eng.Pinned.mk rfl rfl | (apply Go.Eng.PinH.mk; apply Exists.intro; apply Exists.intro) | exact Go.Eng.Fin0.mk | refine Go.Eng.Chk.mk ?_ ?_ | refine Own.l ?_ | fail))
    (refine Br.mk (fun _ => ?_) (fun _ => ?_))
    · have hlt : i < xs.length := by omega
      have hlt2 : i < ys.length := by omega
      (repeat' ((conv => whnf); first | (refine Giv.mk fun _ => ?_) | (refine Alt.l (Need.mk ?h ?_); case h => omega) | (refine Alt.r (Need.mk ?h ?_); case h => omega) | (refine Need.mk ?h ?_; case h => first | omega | (intro _; rfl) | assumption | (simp <;> omega)) | refine Ix.zero ?_ | refine Ix.one ?_ | refine Ix.two ?_ | refine Ix.nat ?_ | refine Ix.add ?_ | (apply Go.Eng.Pin.mk; apply Exists.intro) | apply Go.Eng.Pinned.mk rfl rfl | (apply Go.Eng.PinH.mk; apply Exists.intro; apply Exists.intro) | exact Go.Eng.Fin0.mk | refine Go.Eng.Chk.mk ?_ ?_ | refine Own.l ?_ | fail))
      (refine Br.mk (fun _ => ?_) (fun _ => ?_))
      · rename_i hne
        (repeat' ((conv => whnf); first | (refine Giv.mk fun _ => ?_) | (refine Alt.l (Need.mk ?h ?_); case h => omega) | (refine Alt.r (Need.mk ?h ?_); case h => omega) | (refine Need.mk ?h ?_; case h => first | omega | (intro _; rfl) | assumption | (simp <;> omega)) | refine Ix.zero ?_ | refine Ix.one ?_ | refine Ix.two ?_ | refine Ix.nat ?_ | refine Ix.add ?_ | (apply Go.Eng.Pin.mk; apply Exists.intro) | apply Go.Eng.Pinned.mk rfl rfl | (apply Go.Eng.PinH.mk; apply Exists.intro; apply Exists.intro) | exact Go.Eng.Fin0.mk | refine Go.Eng.Chk.mk ?_ ?_ | refine Own.l ?_ | fail))
        (conv => whnf)
        exact fun e => hne (by rw [e]; exact ⟨rfl, rfl⟩)
      · rename_i hne
        have hne := Classical.not_not.1 hne
        (repeat' ((conv => whnf); first | (refine Giv.mk fun _ => ?_) | (refine Alt.l (Need.mk ?h ?_); case h => omega) | (refine Alt.r (Need.mk ?h ?_); case h => omega) | (refine Need.mk ?h ?_; case h => first | omega | (intro _; rfl) | assumption | (simp <;> omega)) | refine Ix.zero ?_ | refine Ix.one ?_ | refine Ix.two ?_ | refine Ix.nat ?_ | refine Ix.add ?_ | (apply Go.Eng.Pin.mk; apply Exists.intro) | apply Go.Eng.Pinned.mk rfl rfl | (apply Go.Eng.PinH.mk; apply Exists.intro; apply Exists.intro) | exact Go.Eng.Fin0.mk | refine Go.Eng.Chk.mk ?_ ?_ | refine Own.l ?_ | fail))
        refine ⟨(i + 1 : Nat), by show xs.length - (i + 1) < xs.length - i; omega, ⟨hlt, fun j hj => ?_⟩, by (repeat' (first | exact trivial | rfl | exact Nat.one_pos | (refine And.intro ?_ ?_) | omega | ((conv => whnf); (refine And.intro ?_ ?_)) | ((conv => whnf); exact trivial)))⟩
        by_cases e : j = i
        · subst e; exact Prod.ext hne.1 hne.2
        · exact hb j (by omega)
    · have hii : i = xs.length := by omega
      subst hii
      (conv => whnf)
      exact pair_ext (by omega) hb
/-! ### erect.check -/
def chkAt (n : Int) (S : List (Int × Int)) (k : Nat) : Int :=
  if (S.getD k (0, 0)).1 < 1 ∨ 3 < (S.getD k (0, 0)).1 then 8
  else if (S.getD k (0, 0)).2 < 0 ∨ (0 ≤ n ∧ n ≤ (S.getD k (0, 0)).2) then 2 else 0
def chkE (n : Int) (S : List (Int × Int)) : Int := if 4096 < S.length then 4 else firstE (chkAt n S) S.length
theorem chkE_at {n : Int} {S : List (Int × Int)} (h3 : ¬ 4096 < (S.length : Int)) {i : Nat} (hi : i < S.length) (hb : ∀ j, j < i → chkAt n S j = 0) {v : Int} (hv : chkAt n S i = v) (h0 : v ≠ 0) : v = chkE n S := by
  unfold chkE; rw [if_neg (by omega), firstE_some hi (by rw [hv]; exact h0) hb, hv]
theorem b51 (n : Int) (S : List (Int × Int)) : body Try.prog [] { loops := [(0, { X := Nat, pre := fun i => i ≤ S.length ∧ ∀ j, j < i → chkAt n S j = 0, mod := fun i _ => [(12, I i)], mu := fun i => S.length - i })] } true Try.f51 [I n, Ps S] (I (chkE n S)) := by
  (repeat' ((conv => whnf); first | (refine Giv.mk fun _ => ?_) | (refine Alt.l (Need.mk ?h ?_); case h => omega) | (refine Alt.r (Need.mk ?h ?_); case h => omega) | (refine Need.mk ?h ?_; case h => first | omega | (intro _; rfl) | assumption | (simp <;> omega)) | refine Ix.zero ?_ | refine Ix.one ?_ | refine Ix.two ?_ | refine Ix.nat ?_ | refine Ix.add ?_ | (apply Go.Eng.Pin.mk; apply Exists.intro) | apply Go.Eng.Pinned.mk rfl rfl | (apply Go.Eng.PinH.mk; apply Exists.intro; apply Exists.intro) | exact Go.Eng.Fin0.mk | refine Go.Eng.Chk.mk ?_ ?_ | refine Own.l ?_ | fail))
  (refine Br.mk (fun _ => ?_) (fun _ => ?_))
  · rename_i h
    (repeat' ((conv => whnf); first | (refine Giv.mk fun _ => ?_) | (refine Alt.l (Need.mk ?h ?_); case h => omega) | (refine Alt.r (Need.mk ?h ?_); case h => omega) | (refine Need.mk ?h ?_; case h => first | omega | (intro _; rfl) | assumption | (simp <;> omega)) | refine Ix.zero ?_ | refine Ix.one ?_ | refine Ix.two ?_ | refine Ix.nat ?_ | refine Ix.add ?_ | (apply Go.Eng.Pin.mk; apply Exists.intro) | apply Go.Eng.Pinned.mk rfl rfl | (apply Go.Eng.PinH.mk; apply Exists.intro; apply Exists.intro) | exact Go.Eng.Fin0.mk | refine Go.Eng.Chk.mk ?_ ?_ | refine Own.l ?_ | fail))
    (conv => whnf)
    exact ⟨rfl, by unfold chkE; rw [if_pos (by omega)]⟩
  rename_i g3
  (repeat' ((conv => whnf); first | (refine Giv.mk fun _ => ?_) | (refine Alt.l (Need.mk ?h ?_); case h => omega) | (refine Alt.r (Need.mk ?h ?_); case h => omega) | (refine Need.mk ?h ?_; case h => first | omega | (intro _; rfl) | assumption | (simp <;> omega)) | refine Ix.zero ?_ | refine Ix.one ?_ | refine Ix.two ?_ | refine Ix.nat ?_ | refine Ix.add ?_ | (apply Go.Eng.Pin.mk; apply Exists.intro) | apply Go.Eng.Pinned.mk rfl rfl | (apply Go.Eng.PinH.mk; apply Exists.intro; apply Exists.intro) | exact Go.Eng.Fin0.mk | refine Go.Eng.Chk.mk ?_ ?_ | refine Own.l ?_ | fail))
  refine ⟨⟨(0 : Nat), ⟨Nat.zero_le _, fun j hj => absurd hj (Nat.not_lt_zero _)⟩, by (repeat' (first | exact trivial | rfl | exact Nat.one_pos | (refine And.intro ?_ ?_) | omega | ((conv => whnf); (refine And.intro ?_ ?_)) | ((conv => whnf); exact trivial)))⟩, fun (i : Nat) hi => ?_⟩
  obtain ⟨hi, hb⟩ := hi
  (repeat' ((conv => whnf); first | (refine Giv.mk fun _ => ?_) | (refine Alt.l (Need.mk ?h ?_); case h => omega) | (refine Alt.r (Need.mk ?h ?_); case h => omega) | (refine Need.mk ?h ?_; case h => first | omega | (intro _; rfl) | assumption | (simp <;> omega)) | refine Ix.zero ?_ | refine Ix.one ?_ | refine Ix.two ?_ | refine Ix.nat ?_ | refine Ix.add ?_ | (apply Go.Eng.Pin.mk; apply Exists.intro) | apply Go.Eng.Pinned.mk rfl rfl | (apply Go.Eng.PinH.mk; apply Exists.intro; apply Exists.intro) | exact Go.Eng.Fin0.mk | refine Go.Eng.Chk.mk ?_ ?_ | refine Own.l ?_ | fail))
  (refine Br.mk (fun _ => ?_) (fun _ => ?_))
  · have hlt : i < S.length := by omega
    have e8 : ((S.getD i (0, 0)).1 < 1 ∨ 3 < (S.getD i (0, 0)).1) → 8 = chkE n S := fun h => chkE_at g3 hlt hb (by unfold chkAt; rw [if_pos h]) (by decide)
    have e2 : ¬ ((S.getD i (0, 0)).1 < 1 ∨ 3 < (S.getD i (0, 0)).1) → ((S.getD i (0, 0)).2 < 0 ∨ (0 ≤ n ∧ n ≤ (S.getD i (0, 0)).2)) → 2 = chkE n S := fun h h2 => chkE_at g3 hlt hb (by unfold chkAt; rw [if_neg h, if_pos h2]) (by decide)
    have e0 : ¬ ((S.getD i (0, 0)).1 < 1 ∨ 3 < (S.getD i (0, 0)).1) → ¬ ((S.getD i (0, 0)).2 < 0 ∨ (0 ≤ n ∧ n ≤ (S.getD i (0, 0)).2)) → ∀ j, j < i + 1 → chkAt n S j = 0 := fun h h2 j hj => by
      by_cases e : j = i
      · subst e; unfold chkAt; rw [if_neg h, if_neg h2]
      · exact hb j (by omega)
    (repeat' ((conv => whnf); first | (refine Giv.mk fun _ => ?_) | (refine Alt.l (Need.mk ?h ?_); case h => omega) | (refine Alt.r (Need.mk ?h ?_); case h => omega) | (refine Need.mk ?h ?_; case h => first | omega | (intro _; rfl) | assumption | (simp <;> omega)) | refine Ix.zero ?_ | refine Ix.one ?_ | refine Ix.two ?_ | refine Ix.nat ?_ | refine Ix.add ?_ | (apply Go.Eng.Pin.mk; apply Exists.intro) | apply Go.Eng.Pinned.mk rfl rfl | (apply Go.Eng.PinH.mk; apply Exists.intro; apply Exists.intro) | exact Go.Eng.Fin0.mk | refine Go.Eng.Chk.mk ?_ ?_ | refine Own.l ?_ | (refine Br.mkY ?h ?_; case h => first | omega | assumption) | (refine Br.mkN ?h ?_; case h => first | omega | assumption | exact not_not_intro (by assumption)) | (refine Br.mk (fun _ => ?_) (fun _ => ?_)) | fail))
    · (conv => whnf)
      exact ⟨rfl, e8 (.inl ‹_›)⟩
    · (conv => whnf)
      exact ⟨rfl, e8 (.inr ‹_›)⟩
    · (conv => whnf)
      exact ⟨rfl, e2 (by omega) (.inl ‹_›)⟩
    · (conv => whnf)
      exact ⟨rfl, e2 (by omega) (.inr ⟨‹_›, ‹_›⟩)⟩
    · refine ⟨(i + 1 : Nat), by show S.length - (i + 1) < S.length - i; omega, ⟨hlt, e0 (by omega) (by omega)⟩, by (repeat' (first | exact trivial | rfl | exact Nat.one_pos | (refine And.intro ?_ ?_) | omega | ((conv => whnf); (refine And.intro ?_ ?_)) | ((conv => whnf); exact trivial)))⟩
    · refine ⟨(i + 1 : Nat), by show S.length - (i + 1) < S.length - i; omega, ⟨hlt, e0 (by omega) (by omega)⟩, by (repeat' (first | exact trivial | rfl | exact Nat.one_pos | (refine And.intro ?_ ?_) | omega | ((conv => whnf); (refine And.intro ?_ ?_)) | ((conv => whnf); exact trivial)))⟩
  · have hii : i = S.length := by omega
    subst hii
    (conv => whnf)
    exact ⟨rfl, by unfold chkE; rw [if_neg (by omega), firstE_none hb]⟩
def c38 : Con := mkCon 38 true fun args K => match args with | [.seq (.pair (.int .i64) (.int .i64)) xs, .seq (.pair (.int .i64) (.int .i64)) ys] => K (.bl (xs = ys) inferInstance) | _ => False
theorem k38 : ConOK Try.prog c38 := by
  refine conOK_of rfl (enters_of Try.func38 (by kernel_rfl) rfl) ?_
  intro args K h
  simp only [c38] at h
  split at h
  · rename_i xs ys; exact ⟨_, h, tri_of_body (Γ := []) (by simp) Try.func38 (by simp [Try.ntmps38]) rfl (b38 xs ys)⟩
  · exact h.elim
def c51 : Con := mkCon 51 true fun args K => match args with | [.val (.int .i64 n), .seq (.pair (.int .i64) (.int .i64)) S] => K (I (chkE n S)) | _ => False
theorem k51 : ConOK Try.prog c51 := by
  refine conOK_of rfl (enters_of Try.func51 (by kernel_rfl) rfl) ?_
  intro args K h
  simp only [c51] at h
  split at h
  · rename_i n S; exact ⟨_, h, tri_of_body (Γ := []) (by simp) Try.func51 (by simp [Try.ntmps51]) rfl (b51 n S)⟩
  · exact h.elim
/-! ### erect.Props -/
/-- The walk through steps: the props that stand, the most at one time, the fault. -/
structure PS where
  m : MapS Bool
  most : Int
  err : Int
def propStep (S : List (Int × Int)) (s : PS) (i : Nat) : PS :=
  if s.err ≠ 0 then s
  else if (S.getD i (0, 0)).1 = 2 then
    if (s.m.get (S.getD i (0, 0)).2).getD false = true then ⟨s.m, 0, 7⟩
    else ⟨s.m.put (S.getD i (0, 0)).2 true, max s.most ((s.m.put (S.getD i (0, 0)).2 true).es.length : Nat), 0⟩
  else if (S.getD i (0, 0)).1 = 3 then
    if (s.m.get (S.getD i (0, 0)).2).getD false = true then ⟨s.m.del (S.getD i (0, 0)).2, s.most, 0⟩
    else ⟨s.m, 0, 6⟩
  else s
def propAt (S : List (Int × Int)) (i : Nat) : PS := (List.range i).foldl (propStep S) ⟨.new, 0, 0⟩
theorem propAt_succ (S : List (Int × Int)) (i : Nat) : propAt S (i + 1) = propStep S (propAt S i) i := by
  unfold propAt; rw [List.range_succ, List.foldl_append]; rfl
theorem propAt_stay {S : List (Int × Int)} {i : Nat} (h : (propAt S i).err ≠ 0) : ∀ j, propAt S (i + j) = propAt S i
  | 0 => rfl
  | j + 1 => by rw [← Nat.add_assoc, propAt_succ, propAt_stay h j]; unfold propStep; rw [if_pos h]
theorem put_len (m : MapS Bool) (n : Int) (x : Bool) : (m.put n x).es.length ≤ m.es.length + 1 := by
  rw [MapS.length_put]; split <;> omega
def propsE (S : List (Int × Int)) : Int := if ¬ chkE (-1) S = 0 then chkE (-1) S else (propAt S S.length).err
def propsN (S : List (Int × Int)) : Int := if ¬ propsE S = 0 then 0 else (propAt S S.length).most
theorem props_bad {S : List (Int × Int)} (hc : ¬¬ chkE (-1) S = 0) {i : Nat} (hi : i < S.length) {e : Int} (he : (propAt S (i + 1)).err = e) (h0 : e ≠ 0) : propsN S = 0 ∧ propsE S = e := by
  obtain ⟨j, hj⟩ := Nat.exists_eq_add_of_le (show i + 1 ≤ S.length from hi)
  have h1 : (propAt S S.length).err = e := by rw [hj, propAt_stay (by rw [he]; exact h0), he]
  have h2 : propsE S = e := by unfold propsE; rw [if_neg hc, h1]
  exact ⟨by unfold propsN; rw [if_pos (by rw [h2]; exact h0)], h2⟩
theorem chkE_len {n : Int} {S : List (Int × Int)} (h : chkE n S = 0) : S.length ≤ 4096 := by
  unfold chkE at h
  split at h
  · cases h
  · omega
theorem del_len {m : MapS Bool} {n : Int} (h : (m.get n).getD false = true) : (m.del n).es.length ≤ m.es.length := by
  have := MapS.length_del (m := m) (n := n) (by cases hg : m.get n with
    | none => rw [hg] at h; cases h
    | some _ => rfl)
  omega
theorem prop_max {a b i : Nat} {c : Int} (hm : a ≤ i) (h0 : 0 ≤ c) (h1 : c ≤ i) (hp : b ≤ a + 1) : 0 ≤ max c (b : Int) := by omega
theorem prop_max2 {a b i : Nat} {c : Int} (hm : a ≤ i) (h0 : 0 ≤ c) (h1 : c ≤ i) (hp : b ≤ a + 1) : max c (b : Int) ≤ ((i + 1 : Nat) : Int) := by omega
theorem b22 (S : List (Int × Int)) : body Try.prog [c51] { asks := [(0, [])] } true Try.f22 [Ps S] (.tup [I (propsN S), I (propsE S)]) := by
  (repeat' ((conv => whnf); first | (refine Giv.mk fun _ => ?_) | (refine Alt.l (Need.mk ?h ?_); case h => omega) | (refine Alt.r (Need.mk ?h ?_); case h => omega) | (refine Need.mk ?h ?_; case h => first | omega | (intro _; rfl) | assumption | (simp <;> omega)) | refine Ix.zero ?_ | refine Ix.one ?_ | refine Ix.two ?_ | refine Ix.nat ?_ | refine Ix.add ?_ | (apply Go.Eng.Pin.mk; apply Exists.intro) | apply Go.Eng.Pinned.mk rfl rfl | (apply Go.Eng.PinH.mk; apply Exists.intro; apply Exists.intro) | exact Go.Eng.Fin0.mk | refine Go.Eng.Chk.mk ?_ ?_ | refine Own.l ?_ | fail))
  (refine Br.mk (fun _ => ?_) (fun _ => ?_))
  · rename_i h
    have h1 : propsE S = chkE (-1) S := by unfold propsE; rw [if_pos h]
    have h2 : propsN S = 0 := by unfold propsN; rw [if_pos (by rw [h1]; exact h)]
    (repeat' ((conv => whnf); first | (refine Giv.mk fun _ => ?_) | (refine Alt.l (Need.mk ?h ?_); case h => omega) | (refine Alt.r (Need.mk ?h ?_); case h => omega) | (refine Need.mk ?h ?_; case h => first | omega | (intro _; rfl) | assumption | (simp <;> omega)) | refine Ix.zero ?_ | refine Ix.one ?_ | refine Ix.two ?_ | refine Ix.nat ?_ | refine Ix.add ?_ | (apply Go.Eng.Pin.mk; apply Exists.intro) | apply Go.Eng.Pinned.mk rfl rfl | (apply Go.Eng.PinH.mk; apply Exists.intro; apply Exists.intro) | exact Go.Eng.Fin0.mk | refine Go.Eng.Chk.mk ?_ ?_ | refine Own.l ?_ | fail))
    (conv => whnf)
    exact ⟨⟨rfl, h2.symm⟩, ⟨rfl, h1.symm⟩, trivial⟩
  · rename_i hc
    have hsl := chkE_len (Classical.not_not.1 hc)
    (repeat' ((conv => whnf); first | (refine Giv.mk fun _ => ?_) | (refine Alt.l (Need.mk ?h ?_); case h => omega) | (refine Alt.r (Need.mk ?h ?_); case h => omega) | (refine Need.mk ?h ?_; case h => first | omega | (intro _; rfl) | assumption | (simp <;> omega)) | refine Ix.zero ?_ | refine Ix.one ?_ | refine Ix.two ?_ | refine Ix.nat ?_ | refine Ix.add ?_ | (apply Go.Eng.Pin.mk; apply Exists.intro) | apply Go.Eng.Pinned.mk rfl rfl | (apply Go.Eng.PinH.mk; apply Exists.intro; apply Exists.intro) | exact Go.Eng.Fin0.mk | refine Go.Eng.Chk.mk ?_ ?_ | refine Own.l ?_ | fail))
    refine Ask.mk ⟨{ X := Nat, pre := fun i => i ≤ S.length ∧ (propAt S i).err = 0 ∧ (propAt S i).m.es.length ≤ i ∧ 0 ≤ (propAt S i).most ∧ (propAt S i).most ≤ i, mod := fun i _ => [(6, I (propAt S i).most), (17, I i)], heap := fun i _ => [.map .i64 .bool (propAt S i).m], mu := fun i => S.length - i }, rfl, ?_⟩
    (repeat' ((conv => whnf); first | (refine Giv.mk fun _ => ?_) | (refine Alt.l (Need.mk ?h ?_); case h => omega) | (refine Alt.r (Need.mk ?h ?_); case h => omega) | (refine Need.mk ?h ?_; case h => first | omega | (intro _; rfl) | assumption | (simp <;> omega)) | refine Ix.zero ?_ | refine Ix.one ?_ | refine Ix.two ?_ | refine Ix.nat ?_ | refine Ix.add ?_ | (apply Go.Eng.Pin.mk; apply Exists.intro) | apply Go.Eng.Pinned.mk rfl rfl | (apply Go.Eng.PinH.mk; apply Exists.intro; apply Exists.intro) | exact Go.Eng.Fin0.mk | refine Go.Eng.Chk.mk ?_ ?_ | refine Own.l ?_ | fail))
    refine ⟨⟨(0 : Nat), ⟨Nat.zero_le _, rfl, Nat.le_refl _, Int.le_refl _, Int.le_refl _⟩, ?_⟩, fun (i : Nat) hi => ?_⟩
    · (repeat' (first | exact trivial | rfl | exact Nat.one_pos | (refine And.intro ?_ ?_) | omega | ((conv => whnf); (refine And.intro ?_ ?_)) | ((conv => whnf); exact trivial)))
    · obtain ⟨hi, he, hm, hm0, hm1⟩ := hi
      have hst := propAt_succ S i
      unfold propStep at hst
      rw [if_neg (by rw [he]; simp)] at hst
      have hpl := put_len (propAt S i).m (S.getD i (0, 0)).2 true
      (repeat' ((conv => whnf); first | (refine Giv.mk fun _ => ?_) | (refine Alt.l (Need.mk ?h ?_); case h => omega) | (refine Alt.r (Need.mk ?h ?_); case h => omega) | (refine Need.mk ?h ?_; case h => first | omega | (intro _; rfl) | assumption | (simp <;> omega)) | refine Ix.zero ?_ | refine Ix.one ?_ | refine Ix.two ?_ | refine Ix.nat ?_ | refine Ix.add ?_ | (apply Go.Eng.Pin.mk; apply Exists.intro) | apply Go.Eng.Pinned.mk rfl rfl | (apply Go.Eng.PinH.mk; apply Exists.intro; apply Exists.intro) | exact Go.Eng.Fin0.mk | refine Go.Eng.Chk.mk ?_ ?_ | refine Own.l ?_ | fail))
      (refine Br.mk (fun _ => ?_) (fun _ => ?_))
      · have hlt : i < S.length := by omega
        (repeat' ((conv => whnf); first | (refine Giv.mk fun _ => ?_) | (refine Alt.l (Need.mk ?h ?_); case h => omega) | (refine Alt.r (Need.mk ?h ?_); case h => omega) | (refine Need.mk ?h ?_; case h => first | omega | (intro _; rfl) | assumption | (simp <;> omega)) | refine Ix.zero ?_ | refine Ix.one ?_ | refine Ix.two ?_ | refine Ix.nat ?_ | refine Ix.add ?_ | (apply Go.Eng.Pin.mk; apply Exists.intro) | apply Go.Eng.Pinned.mk rfl rfl | (apply Go.Eng.PinH.mk; apply Exists.intro; apply Exists.intro) | exact Go.Eng.Fin0.mk | refine Go.Eng.Chk.mk ?_ ?_ | refine Own.l ?_ | fail))
        (refine Br.mk (fun _ => ?_) (fun _ => ?_))
        · rename_i h2
          rw [if_pos h2] at hst
          (repeat' ((conv => whnf); first | (refine Giv.mk fun _ => ?_) | (refine Alt.l (Need.mk ?h ?_); case h => omega) | (refine Alt.r (Need.mk ?h ?_); case h => omega) | (refine Need.mk ?h ?_; case h => first | omega | (intro _; rfl) | assumption | (simp <;> omega)) | refine Ix.zero ?_ | refine Ix.one ?_ | refine Ix.two ?_ | refine Ix.nat ?_ | refine Ix.add ?_ | (apply Go.Eng.Pin.mk; apply Exists.intro) | apply Go.Eng.Pinned.mk rfl rfl | (apply Go.Eng.PinH.mk; apply Exists.intro; apply Exists.intro) | exact Go.Eng.Fin0.mk | refine Go.Eng.Chk.mk ?_ ?_ | refine Own.l ?_ | fail))
          (refine Br.mk (fun _ => ?_) (fun _ => ?_))
          · rename_i h3
            rw [if_pos h3] at hst
            have hb := props_bad (e := 7) hc hlt (by rw [hst]) (by decide)
            (repeat' ((conv => whnf); first | (refine Giv.mk fun _ => ?_) | (refine Alt.l (Need.mk ?h ?_); case h => omega) | (refine Alt.r (Need.mk ?h ?_); case h => omega) | (refine Need.mk ?h ?_; case h => first | omega | (intro _; rfl) | assumption | (simp <;> omega)) | refine Ix.zero ?_ | refine Ix.one ?_ | refine Ix.two ?_ | refine Ix.nat ?_ | refine Ix.add ?_ | (apply Go.Eng.Pin.mk; apply Exists.intro) | apply Go.Eng.Pinned.mk rfl rfl | (apply Go.Eng.PinH.mk; apply Exists.intro; apply Exists.intro) | exact Go.Eng.Fin0.mk | refine Go.Eng.Chk.mk ?_ ?_ | refine Own.l ?_ | fail))
            (conv => whnf)
            exact ⟨⟨rfl, hb.1.symm⟩, ⟨rfl, hb.2.symm⟩, trivial⟩
          · rename_i h3
            rw [if_neg h3] at hst
            (repeat' ((conv => whnf); first | (refine Giv.mk fun _ => ?_) | (refine Alt.l (Need.mk ?h ?_); case h => omega) | (refine Alt.r (Need.mk ?h ?_); case h => omega) | (refine Need.mk ?h ?_; case h => first | omega | (intro _; rfl) | assumption | (simp <;> omega)) | refine Ix.zero ?_ | refine Ix.one ?_ | refine Ix.two ?_ | refine Ix.nat ?_ | refine Ix.add ?_ | (apply Go.Eng.Pin.mk; apply Exists.intro) | apply Go.Eng.Pinned.mk rfl rfl | (apply Go.Eng.PinH.mk; apply Exists.intro; apply Exists.intro) | exact Go.Eng.Fin0.mk | refine Go.Eng.Chk.mk ?_ ?_ | refine Own.l ?_ | fail))
            refine ⟨(i + 1 : Nat), by show S.length - (i + 1) < S.length - i; omega, ⟨hlt, by rw [hst], by rw [hst]; show ((propAt S i).m.put (S.getD i (0, 0)).2 true).es.length ≤ i + 1; omega, by rw [hst]; exact prop_max hm hm0 hm1 hpl, by rw [hst]; exact prop_max2 hm hm0 hm1 hpl⟩, ?_⟩
            (repeat' (first | exact trivial | rfl | exact Nat.one_pos | (refine And.intro ?_ ?_) | ((conv => whnf); (refine And.intro ?_ ?_)) | ((conv => whnf); exact trivial)))
            · rw [hst]
            · exact (congrArg PS.m hst).symm
        · rename_i h2
          rw [if_neg h2] at hst
          (repeat' ((conv => whnf); first | (refine Giv.mk fun _ => ?_) | (refine Alt.l (Need.mk ?h ?_); case h => omega) | (refine Alt.r (Need.mk ?h ?_); case h => omega) | (refine Need.mk ?h ?_; case h => first | omega | (intro _; rfl) | assumption | (simp <;> omega)) | refine Ix.zero ?_ | refine Ix.one ?_ | refine Ix.two ?_ | refine Ix.nat ?_ | refine Ix.add ?_ | (apply Go.Eng.Pin.mk; apply Exists.intro) | apply Go.Eng.Pinned.mk rfl rfl | (apply Go.Eng.PinH.mk; apply Exists.intro; apply Exists.intro) | exact Go.Eng.Fin0.mk | refine Go.Eng.Chk.mk ?_ ?_ | refine Own.l ?_ | fail))
          (refine Br.mk (fun _ => ?_) (fun _ => ?_))
          · rename_i h3
            rw [if_pos h3] at hst
            (repeat' ((conv => whnf); first | (refine Giv.mk fun _ => ?_) | (refine Alt.l (Need.mk ?h ?_); case h => omega) | (refine Alt.r (Need.mk ?h ?_); case h => omega) | (refine Need.mk ?h ?_; case h => first | omega | (intro _; rfl) | assumption | (simp <;> omega)) | refine Ix.zero ?_ | refine Ix.one ?_ | refine Ix.two ?_ | refine Ix.nat ?_ | refine Ix.add ?_ | (apply Go.Eng.Pin.mk; apply Exists.intro) | apply Go.Eng.Pinned.mk rfl rfl | (apply Go.Eng.PinH.mk; apply Exists.intro; apply Exists.intro) | exact Go.Eng.Fin0.mk | refine Go.Eng.Chk.mk ?_ ?_ | refine Own.l ?_ | fail))
            (refine Br.mk (fun _ => ?_) (fun _ => ?_))
            · rename_i h4
              rw [if_neg h4] at hst
              have hb := props_bad (e := 6) hc hlt (by rw [hst]) (by decide)
              (repeat' ((conv => whnf); first | (refine Giv.mk fun _ => ?_) | (refine Alt.l (Need.mk ?h ?_); case h => omega) | (refine Alt.r (Need.mk ?h ?_); case h => omega) | (refine Need.mk ?h ?_; case h => first | omega | (intro _; rfl) | assumption | (simp <;> omega)) | refine Ix.zero ?_ | refine Ix.one ?_ | refine Ix.two ?_ | refine Ix.nat ?_ | refine Ix.add ?_ | (apply Go.Eng.Pin.mk; apply Exists.intro) | apply Go.Eng.Pinned.mk rfl rfl | (apply Go.Eng.PinH.mk; apply Exists.intro; apply Exists.intro) | exact Go.Eng.Fin0.mk | refine Go.Eng.Chk.mk ?_ ?_ | refine Own.l ?_ | fail))
              (conv => whnf)
              exact ⟨⟨rfl, hb.1.symm⟩, ⟨rfl, hb.2.symm⟩, trivial⟩
            · rename_i h4
              have h4 := Classical.not_not.1 h4
              rw [if_pos h4] at hst
              have hdl := del_len h4
              (repeat' ((conv => whnf); first | (refine Giv.mk fun _ => ?_) | (refine Alt.l (Need.mk ?h ?_); case h => omega) | (refine Alt.r (Need.mk ?h ?_); case h => omega) | (refine Need.mk ?h ?_; case h => first | omega | (intro _; rfl) | assumption | (simp <;> omega)) | refine Ix.zero ?_ | refine Ix.one ?_ | refine Ix.two ?_ | refine Ix.nat ?_ | refine Ix.add ?_ | (apply Go.Eng.Pin.mk; apply Exists.intro) | apply Go.Eng.Pinned.mk rfl rfl | (apply Go.Eng.PinH.mk; apply Exists.intro; apply Exists.intro) | exact Go.Eng.Fin0.mk | refine Go.Eng.Chk.mk ?_ ?_ | refine Own.l ?_ | fail))
              refine ⟨(i + 1 : Nat), by show S.length - (i + 1) < S.length - i; omega, ⟨hlt, by rw [hst], by rw [hst]; show ((propAt S i).m.del (S.getD i (0, 0)).2).es.length ≤ i + 1; omega, by rw [hst]; exact hm0, by rw [hst]; show (propAt S i).most ≤ ((i + 1 : Nat) : Int); omega⟩, ?_⟩
              (repeat' (first | exact trivial | rfl | exact Nat.one_pos | (refine And.intro ?_ ?_) | ((conv => whnf); (refine And.intro ?_ ?_)) | ((conv => whnf); exact trivial)))
              · rw [hst]
              · exact (congrArg PS.m hst).symm
          · rename_i h3
            rw [if_neg h3] at hst
            (repeat' ((conv => whnf); first | (refine Giv.mk fun _ => ?_) | (refine Alt.l (Need.mk ?h ?_); case h => omega) | (refine Alt.r (Need.mk ?h ?_); case h => omega) | (refine Need.mk ?h ?_; case h => first | omega | (intro _; rfl) | assumption | (simp <;> omega)) | refine Ix.zero ?_ | refine Ix.one ?_ | refine Ix.two ?_ | refine Ix.nat ?_ | refine Ix.add ?_ | (apply Go.Eng.Pin.mk; apply Exists.intro) | apply Go.Eng.Pinned.mk rfl rfl | (apply Go.Eng.PinH.mk; apply Exists.intro; apply Exists.intro) | exact Go.Eng.Fin0.mk | refine Go.Eng.Chk.mk ?_ ?_ | refine Own.l ?_ | fail))
            refine ⟨(i + 1 : Nat), by show S.length - (i + 1) < S.length - i; omega, ⟨hlt, by rw [hst]; exact he, by rw [hst]; omega, by rw [hst]; omega, by rw [hst]; omega⟩, ?_⟩
            (repeat' (first | exact trivial | rfl | exact Nat.one_pos | (refine And.intro ?_ ?_) | ((conv => whnf); (refine And.intro ?_ ?_)) | ((conv => whnf); exact trivial)))
            · rw [hst]
            · exact (congrArg PS.m hst).symm
      · have hii : i = S.length := by omega
        subst hii
        have h1 : propsE S = 0 := by unfold propsE; rw [if_neg hc, he]
        have h2 : propsN S = (propAt S S.length).most := by unfold propsN; rw [if_neg (by rw [h1]; simp)]
        (repeat' ((conv => whnf); first | (refine Giv.mk fun _ => ?_) | (refine Alt.l (Need.mk ?h ?_); case h => omega) | (refine Alt.r (Need.mk ?h ?_); case h => omega) | (refine Need.mk ?h ?_; case h => first | omega | (intro _; rfl) | assumption | (simp <;> omega)) | refine Ix.zero ?_ | refine Ix.one ?_ | refine Ix.two ?_ | refine Ix.nat ?_ | refine Ix.add ?_ | (apply Go.Eng.Pin.mk; apply Exists.intro) | apply Go.Eng.Pinned.mk rfl rfl | (apply Go.Eng.PinH.mk; apply Exists.intro; apply Exists.intro) | exact Go.Eng.Fin0.mk | refine Go.Eng.Chk.mk ?_ ?_ | refine Own.l ?_ | fail))
        (conv => whnf)
        exact ⟨⟨rfl, h2.symm⟩, ⟨rfl, h1.symm⟩, trivial⟩
def c22 : Con := mkCon 22 true fun args K => match args with | [.seq (.pair (.int .i64) (.int .i64)) S] => K (.tup [I (propsN S), I (propsE S)]) | _ => False
theorem k22 : ConOK Try.prog c22 := by
  refine conOK_of rfl (enters_of Try.func22 (by kernel_rfl) rfl) ?_
  intro args K h
  simp only [c22] at h
  split at h
  · rename_i S; exact ⟨_, h, tri_of_body (Γ := [c51]) (by simp [k51]) Try.func22 (by simp [Try.ntmps22]) rfl (b22 S)⟩
  · exact h.elim
end EB
end
