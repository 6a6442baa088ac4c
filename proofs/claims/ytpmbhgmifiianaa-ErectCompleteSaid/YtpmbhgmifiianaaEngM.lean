/-
  Regions, heads of loops and cuts.
-/
import Derived.Test.YtpmbhgmifiianaaEngL
set_option linter.unusedSimpArgs false
set_option linter.unusedVariables false
namespace Go.Eng
open Go.RowKit

/-- What one environment keeps of another one, but for some objects. -/
structure ExtO (D : List Nat) (E E' : Env) : Prop where
  blk : ∀ b, E.ok b → E'.w.heap[b]? = E.w.heap[b]?
  ok : ∀ b, E.ok b → E'.ok b
  num : ∀ nm, E.has nm = true → E'.has nm = true
  ver : ∀ nm, E.has nm = true → mem nm D = false → (E'.ver nm = E.ver nm ∧ (E'.loc nm).toCore = (E.loc nm).toCore) ∨ (0 < E.ver nm ∧ E.ver nm < E'.ver nm)
  size : E.w.heap.size ≤ E'.w.heap.size
  keep : ∀ (k : Nat) (o : Obj), ¬ E.ali k → E.w.heap[k]? = some o → isBook o = true → E'.w.heap[k]? = some o
  gho : ∀ nm b, E.gho nm b → E'.gho nm b ∧ E'.w.heap[b]? = E.w.heap[b]?
  gho' : ∀ nm b, E.has nm = true → E'.gho nm b → E.gho nm b
  ali : ∀ b, E'.ali b → E.ali b ∨ E.w.heap.size ≤ b
  itr : E'.itr = E.itr
  sub : ∀ nm, E.has nm = true → mem nm D = false → E'.ver nm = E.ver nm → (E'.loc nm).sub = (E.loc nm).sub ∨ (E.loc nm).sub.v < (E'.loc nm).sub.v
theorem ExtO.cell {D : List Nat} {E E' : Env} (x : ExtO D E E') : ∀ a v, E.ok a.block → E.w.cell? a = some v → E'.w.cell? a = some v :=
  fun a v ho hc => (World.cell?_of_block (x.blk _ ho)).trans hc
theorem Ext.toO {E E' : Env} (x : Ext E E') (D : List Nat) : ExtO D E E' := ⟨x.blk, x.ok, x.num, fun nm h _ => x.ver nm h, x.size, x.keep, x.gho, x.gho', x.ali, x.itr, fun nm h _ e => x.sub nm h e⟩
theorem mem_append (n : Nat) (a b : List Nat) : mem n (a ++ b) = (mem n a || mem n b) := by
  induction a with
  | nil => rfl
  | cons x r ih => simp only [List.cons_append, mem, ih, Bool.or_assoc]
theorem ExtO.refl (D : List Nat) (E : Env) : ExtO D E E := (Ext.refl E).toO D
theorem ExtO.trans {D : List Nat} {A B C : Env} (h : ExtO D A B) (k : ExtO D B C) : ExtO D A C := by
  refine ⟨fun b ho => (k.blk b (h.ok b ho)).trans (h.blk b ho), fun b hb => k.ok b (h.ok b hb), fun nm hn => k.num nm (h.num nm hn), fun nm hn hm => ?_, Nat.le_trans h.size k.size,
    fun i o hna hi ho => k.keep i o (fun hb => ?_) (h.keep i o hna hi ho) ho, fun nm b hb => ?_, fun nm b hn hb => h.gho' nm b hn (k.gho' nm b (h.num nm hn) hb), fun b hb => ?_, k.itr.trans h.itr, fun nm hn hm he => ?_⟩
  · rcases h.ver nm hn hm with ⟨e1, e2⟩ | ⟨e1, e2⟩
    · rcases k.ver nm (h.num nm hn) hm with ⟨e3, e4⟩ | ⟨e3, e4⟩
      · exact .inl ⟨e3.trans e1, e4.trans e2⟩
      · exact .inr ⟨by omega, by omega⟩
    · rcases k.ver nm (h.num nm hn) hm with ⟨e3, e4⟩ | ⟨e3, e4⟩
      · exact .inr ⟨e1, by omega⟩
      · exact .inr ⟨e1, by omega⟩
  · rcases h.ali i hb with h1 | h1
    · exact hna h1
    · have := (Array.getElem?_eq_some_iff.1 hi).1; omega
  · obtain ⟨h1, h2⟩ := h.gho nm b hb
    obtain ⟨h3, h4⟩ := k.gho nm b h1
    exact ⟨h3, h4.trans h2⟩
  · rcases k.ali b hb with h1 | h1
    · exact h.ali b h1
    · exact .inr (Nat.le_trans h.size h1)
  · have h1 := h.ver nm hn hm
    have h2 := k.ver nm (h.num nm hn) hm
    have e1 : B.ver nm = A.ver nm := by
      rcases h1 with ⟨q1, _⟩ | ⟨q1, q2⟩
      · exact q1
      · rcases h2 with ⟨q3, _⟩ | ⟨q3, q4⟩ <;> omega
    rcases h.sub nm hn hm e1 with q1 | q1
    · rcases k.sub nm (h.num nm hn) hm (by omega) with q2 | q2
      · exact .inl (q2.trans q1)
      · rw [q1] at q2; exact .inr q2
    · rcases k.sub nm (h.num nm hn) hm (by omega) with q2 | q2
      · rw [q2]; exact .inr q1
      · exact .inr (Nat.lt_trans q1 q2)
theorem ExtO.mono {D D' : List Nat} {E E' : Env} (h : ExtO D E E') (hd : ∀ n, mem n D = true → mem n D' = true) : ExtO D' E E' :=
  ⟨h.blk, h.ok, h.num, fun nm hn hm => h.ver nm hn (by
    cases e : mem nm D with
    | false => rfl
    | true => rw [hd nm e] at hm; cases hm), h.size, h.keep, h.gho, h.gho', h.ali, h.itr, fun nm hn hm => h.sub nm hn (by
    cases e : mem nm D with
    | false => rfl
    | true => rw [hd nm e] at hm; cases hm)⟩

/-- The temporaries that some code leaves alone. -/
def Same (ws : List Nat) (a a' : Act) : Prop := ∀ t, mem t ws = false → a'.tmps.getD t undef = a.tmps.getD t undef
theorem Same.refl (ws : List Nat) (a : Act) : Same ws a a := fun _ _ => rfl
theorem Same.trans {ws : List Nat} {a b c : Act} (h : Same ws a b) (k : Same ws b c) : Same ws a c := fun t ht => (k t ht).trans (h t ht)
theorem Same.mono {ws ws' : List Nat} {a b : Act} (h : Same ws a b) (hw : ∀ n, mem n ws = true → mem n ws' = true) : Same ws' a b := fun t ht => h t (by
  cases e : mem t ws with
  | false => rfl
  | true => rw [hw t e] at ht; cases ht)
theorem Same.put {ws : List Nat} (a : Act) (d : Option Nat) (v : Value) (h : ∀ t, d = some t → mem t ws = true) : Same ws a (a.put d v) := by
  intro t ht
  cases d with
  | none => rfl
  | some u =>
    simp only [Act.put, Array.getD_eq_getD_getElem?, Array.getElem?_setIfInBounds]
    have : ¬ u = t := fun e => by rw [← e, h u rfl] at ht; cases ht
    simp [this]

theorem least_of {p : Nat → Prop} : ∀ n, p n → ∃ m, p m ∧ ∀ k, p k → m ≤ k := by
  intro n
  induction n using Nat.strongRecOn with
  | _ n ih =>
    intro hn
    by_cases h : ∃ k, k < n ∧ p k
    · obtain ⟨k, h1, h2⟩ := h; exact ih k h1 h2
    · exact ⟨n, hn, fun k hk => Nat.le_of_not_lt fun hlt => h ⟨k, hlt, hk⟩⟩
noncomputable def leastN (p : Nat → Prop) : Nat := Classical.epsilon fun m => p m ∧ ∀ k, p k → m ≤ k
theorem leastN_spec {p : Nat → Prop} (h : ∃ n, p n) : p (leastN p) ∧ ∀ k, p k → leastN p ≤ k := by
  obtain ⟨n, hn⟩ := h
  exact Classical.epsilon_spec (least_of n hn)
/-- A loop with an invariant that bears a number which every round lowers. -/
theorem wpIn_loopG {F : Fence} {n : Nat} {P : Program} {Q : Exit → Act → World → Prop} {a : Act} {w : World} {c : Code} (I : Nat → Act → World → Prop) (h₀ : ∃ k, I k a w)
    (round : ∀ k a w, I k a w → c.wpIn F n P (Exit.then (fun a' w' => ∃ k', k' < k ∧ I k' a' w') Q) a w) : (Code.loop c).wpIn F n P Q a w := by
  refine wpIn_loop (fun a w => ∃ k, I k a w) (fun a w => leastN fun k => I k a w) h₀ ?_
  intro a w hI
  refine wpIn_mono (round _ a w (leastN_spec hI).1) ?_
  intro e a' w' hq
  cases e with
  | normal =>
    obtain ⟨k', hlt, hI'⟩ := hq
    exact show (∃ k, I k a' w') ∧ (leastN fun k => I k a' w') < leastN (fun k => I k a w) from ⟨⟨k', hI'⟩, Nat.lt_of_le_of_lt ((leastN_spec ⟨k', hI'⟩).2 k' hI') hlt⟩
  | exit id => exact hq
  | goto l => exact hq
  | ret => exact hq
  | panic ch => exact hq
  | outgrown => exact hq
section
variable {P : Program} {G : Ctx} {N : Nat}

/-! ### The head of a loop -/
theorem look_puts {E : Env} {a : Act} : ∀ (m l : List (Nat × SV)), (∀ t, Rel E (look l t) (a.tmps.getD t undef)) → (∀ p ∈ m, Rel E p.2 (a.tmps.getD p.1 undef)) → ∀ t, Rel E (look (puts m l) t) (a.tmps.getD t undef)
  | [], l, h, _, t => h t
  | (u, s) :: r, l, h, hm, t => by
    simp only [puts]
    refine look_puts r (put l u s) (fun t => ?_) (fun p hp => hm p (List.mem_cons_of_mem _ hp)) t
    rw [look_put]
    by_cases e : t = u
    · rw [if_pos e, e]; exact hm (u, s) (List.mem_cons_self ..)
    · rw [if_neg e]; exact h t
theorem look_base (ws objs : List Nat) : ∀ (l : List (Nat × SV)) (t : Nat), look (base ws objs l) t = .any ∨ (look (base ws objs l) t = look l t ∧ mem t ws = false ∧ names objs (look l t) = false)
  | [], t => .inl rfl
  | (u, s) :: r, t => by
    simp only [base, look]
    by_cases e : u = t
    · subst e
      rw [beq_same]
      simp only [cond_true]
      cases h : (mem u ws || names objs s) with
      | true => left; rfl
      | false => right; simp only [Bool.or_eq_false_iff] at h; exact ⟨rfl, h.1, h.2⟩
    · rw [beq_ne e]
      simp only [cond_false]
      exact look_base ws objs r t

/-- Objects of one list that serve for those of a shorter one. -/
theorem entH_spec {objs : List Nat} {A B : List HO} {n : Nat} : ∀ {k : Nat} {as bs : List HO}, entH objs A B n k as bs → bs.length ≤ as.length ∧ ∀ i o, bs[i]? = some o → ∃ o', as[i]? = some o' ∧ entO objs A B n (k + i) o' o
  | k, as, [], _ => ⟨Nat.zero_le _, fun i o h => by simp at h⟩
  | k, o' :: r', o :: r, h => by
    obtain ⟨h1, h2⟩ := h
    obtain ⟨h3, h4⟩ := entH_spec h2
    refine ⟨by simp; omega, fun i x hx => ?_⟩
    cases i with
    | zero => simp at hx; subst hx; exact ⟨o', rfl, h1⟩
    | succ i =>
      obtain ⟨o₁, h5, h6⟩ := h4 i x (by simpa using hx)
      exact ⟨o₁, by simpa using h5, by rw [show k + (i + 1) = k + 1 + i by omega]; exact h6⟩
  | k, [], _ :: _, h => h.elim

variable {H' T : List HO} {loc : Nat → Loc} {ver : Nat → Nat} {w : World}
/-- The versions at a head: those of the head's own spelling for the objects that are lengthened. -/
def reVer (objs : List Nat) (T : List HO) (ver : Nat → Nat) : Nat → Nat := fun nm => if mem nm objs = true then verOf T nm else ver nm
theorem names_not {objs : List Nat} {s : SV} (h : names objs s = false) : allN (fun n => !mem n objs) s = true := by simpa [names] using h
theorem verOf_ver (hI : Inv G H' loc ver w) {nm : Nat} (h : 0 < verOf H' nm) : ver nm = verOf H' nm := by
  unfold verOf at h ⊢
  cases ho : hget H' nm with
  | vec v t xs e => rw [ho] at h; exact (hI.objs nm _ (hget_some ho (by simp))).1
  | fro v t xs => rw [ho] at h; exact (hI.objs nm _ (hget_some ho (by simp))).1
  | _ => rw [ho] at h; exact absurd h (Nat.lt_irrefl _)
theorem reV_rel (hI : Inv G H' loc ver w) {objs : List Nat} {n : Nat} (hT : ∀ m, m < n → hasB T m = true) (hok : ∀ b, okN G H' loc w b → okN G T loc w b) {s : SV} {v : Value} (h : Rel (envOf G H' loc ver w) s v) (hu : under n s = true) :
    Rel (envOf G T loc (reVer objs T ver) w) (reV objs H' T s) v := by
  have drop : names objs s = false → Rel (envOf G T loc (reVer objs T ver) w) s v := by
    intro hn
    refine Rel.move (E := envOf G H' loc ver w) (E' := envOf G T loc (reVer objs T ver) w) (p := fun m => Nat.blt m n && !mem m objs) (fun nm hp hlt => ?_) (fun _ _ _ _ => .inl rfl) (fun _ => rfl) (fun _ _ _ h => h) hok h ?_
    · simp only [Bool.and_eq_true] at hp
      have h1 : nm < n := by simpa using hp.1
      have h2 : mem nm objs = false := by simpa using hp.2
      exact ⟨hT nm h1, .inl ⟨by simp [envOf, reVer, h2], rfl⟩⟩
    · exact allN_imp (fun m h1 h2 => by simp [h1, h2]) s hu (names_not hn)
  cases s with
  | ref nm k =>
    simp only [reV]
    cases hm : mem nm objs with
    | false => exact drop (by simp [names, allN, hm])
    | true =>
      simp only [cond_true]
      cases hb : (Nat.beq k (verOf H' nm) && Nat.blt 0 (verOf T nm)) with
      | false => exact .any v
      | true =>
        simp only [cond_true]
        obtain ⟨h1, h2⟩ := and2 hb
        have h1 := beq_iff.1 h1
        have h2 : 0 < verOf T nm := by simpa using h2
        cases h with
        | ref _ _ _ hn h0 hk hv =>
          have hve := verOf_ver hI (nm := nm) (by omega)
          have hlt : nm < n := by simpa [under, allN] using hu
          refine .ref nm _ v (hT nm hlt) h2 (by simp [envOf, reVer, hm]) fun _ => ?_
          exact hv (by simp only [envOf]; omega)
  | _ =>
    simp only [reV]
    generalize hc : names objs _ = b at drop ⊢
    cases b with
    | true => exact .any v
    | false => exact drop rfl
theorem entC_rel (hI : Inv G H' loc ver w) {objs : List Nat} {n : Nat} (hT : ∀ m, m < n → hasB T m = true) (hok : ∀ b, okN G H' loc w b → okN G T loc w b) : ∀ {l l' : List SV}, entC objs H' T n l l' → ∀ {vs : List Value}, RelL (envOf G H' loc ver w) l vs → RelL (envOf G T loc (reVer objs T ver) w) l' vs
  | [], [], _, _, .nil => .nil
  | x :: r, y :: r', h, _, .cons _ v _ _ h1 h2 => by
    obtain ⟨h3, h4⟩ := h
    refine .cons _ _ _ _ ?_ (entC_rel hI hT hok h4 h2)
    cases hb : (under n y && under n x) with
    | true => rw [hb] at h3; exact ent_sound h3 (reV_rel hI hT hok h1 (and2 hb).2)
    | false => rw [hb] at h3; exact ent_sound h3 (.any v)
def EntS (objs : List Nat) (A T : List HO) (n : Nat) : Prop := T.length ≤ A.length ∧ ∀ i o, T[i]? = some o → ∃ o', A[i]? = some o' ∧ entO objs A T n (0 + i) o' o
theorem vvEq_spec {t t' : Ty} {xss : List (List t.T)} {yss : List (List t'.T)} (h : vvEq t t' xss yss) : ∃ e : t = t', e ▸ xss = yss := by
  unfold vvEq at h
  split at h
  · rename_i e
    subst e
    rw [castK_eq'] at h
    exact ⟨rfl, h⟩
  · exact h.elim
theorem mapEq_spec {t t' : Ty} {m : MapS t.T} {m' : MapS t'.T} (h : mapEq t t' m m') : ∃ e : t = t', e ▸ m = m' := by
  unfold mapEq at h
  split at h
  · rename_i e
    rw [castM_eq] at h
    exact ⟨e, h⟩
  · exact h.elim
theorem EntS.has {objs : List Nat} {A T : List HO} {n : Nat} (h : EntS objs A T n) (m : Nat) (hm : m < T.length) : hasB T m = true := by
  obtain ⟨o', _, h2⟩ := h.2 m T[m] (List.getElem?_eq_getElem hm)
  refine hasB_of (List.getElem?_eq_getElem hm) ?_
  generalize T[m] = o at h2
  cases o with
  | res => cases o' <;> exact h2.elim
  | _ => rfl
theorem arrive_inv (hI : Inv G H' loc ver w) {objs : List Nat} {n : Nat} (hT : n ≤ T.length) (hH : EntS objs H' T n) : Inv G T loc (reVer objs T ver) w ∧ (∀ b, okN G H' loc w b → okN G T loc w b) := by
  have hT' : ∀ m, m < n → hasB T m = true := fun m hm => hH.has m (by omega)
  obtain ⟨hlen, hspec⟩ := hH
  have hblk : ∀ nm o o' b, T[nm]? = some o → H'[nm]? = some o' → entO objs H' T n (0 + nm) o' o → Owns (loc nm) o b → Owns (loc nm) o' b := by
    intro nm o o' b h1 h2 h3 h4
    cases o with
    | dead => cases h4
    | res => cases h4
    | fro => cases h4
    | frc => cases h4
    | gone => cases o' with
      | gone => exact h4
      | _ => exact h3.elim
    | yst st m it => cases o' with
      | yst st' m' it' => exact h4
      | _ => exact h3.elim
    | cells l e => cases o' with
      | cells l' e' => exact h4
      | _ => exact h3.elim
    | map k t m => cases o' with
      | map k' t' m' => exact h4
      | _ => exact h3.elim
    | mit m s l c => cases o' with
      | mit m' s' l' c' => exact h4
      | _ => exact h3.elim
    | vv k s t xss pend eo ei => cases o' with
      | vv k' s' t' xss' pend' eo' ei' => exact h4
      | _ => exact h3.elim
    | vec v t xs e => cases o' with
      | vec v' t' xs' e' => exact h4
      | _ => exact h3.elim
  have hown : ∀ b, Owned T loc b → Owned H' loc b := by
    rintro b ⟨nm, o, h1, h2⟩
    obtain ⟨o', h3, h4⟩ := hspec nm o h1
    exact ⟨nm, o', h3, hblk nm o o' b h1 h3 h4 h2⟩
  have hok : ∀ b, okN G H' loc w b → okN G T loc w b := fun b hb => ⟨hb.1, hb.2.1, fun ho => hb.2.2 (hown b ho)⟩
  refine ⟨⟨hI.size, hI.os, hI.tape, hI.output, hI.frame, fun nm o ho => ?_, fun b hb => hI.own b (hown b hb), fun k k' o o' b hk hk' hb hb' => ?_⟩, hok⟩
  · obtain ⟨o', h3, h4⟩ := hspec nm o ho
    have hO := hI.objs nm o' h3
    rw [Nat.zero_add] at h4
    cases o with
    | dead => trivial
    | res => trivial
    | frc l => cases o' with
      | frc l' =>
        obtain ⟨h0, b, vs, h6, h7, h8, h9⟩ := hO
        refine ⟨?_, b, vs, h6, hok b h7, h8, entC_rel hI hT' hok h4 h9⟩
        simp only [reVer]
        split
        · have : hget T nm = .frc l := by simp [hget, List.getD_eq_getElem?_getD, ho]
          simp [verOf, this]
        · exact h0
      | _ => exact h4.elim
    | gone => cases o' with
      | gone => exact ⟨by simp only [reVer]; rw [if_neg (by rw [show mem nm objs = false from h4]; simp)]; exact hO.1, hO.2⟩
      | _ => exact h4.elim
    | yst st m it => cases o' with
      | yst st' m' it' =>
        obtain ⟨hm, rfl, rfl, rfl⟩ := h4
        obtain ⟨h1, h2, h5, h6, h7, h8, h9⟩ := hO
        exact ⟨by simp only [reVer]; rw [if_neg (by rw [hm]; simp)]; exact h1, h2, h5, h6, h7, fun b hb hl => ⟨(h8 b hb hl).1, hok b (h8 b hb hl).2⟩, h9⟩
      | _ => exact h4.elim
    | map k t m => cases o' with
      | map k' t' m' =>
        obtain ⟨hm, rfl, h5⟩ := h4
        obtain ⟨rfl, rfl⟩ := mapEq_spec h5
        obtain ⟨h1, h2, h3, b, es, h6, h7, h8⟩ := hO
        exact ⟨by simp only [reVer]; rw [if_neg (by rw [hm]; simp)]; exact h1, h2, h3, b, es, h6, h7, h8.mono (fun _ _ _ h => h) hok⟩
      | _ => exact h4.elim
    | vv k s t xss pend eo ei => cases o' with
      | vv k' s' t' xss' pend' eo' ei' =>
        obtain ⟨hm, rfl, rfl, h5, rfl, rfl, hp1, hp2⟩ := h4
        obtain ⟨rfl, rfl⟩ := vvEq_spec h5
        cases pend with
        | some _ => cases hp2
        | none =>
        cases pend' with
        | some _ => cases hp1
        | none =>
        obtain ⟨h1, h2, h3, h6, h7, h8, h9, h10⟩ := hO
        refine ⟨by simp only [reVer]; rw [if_neg (by rw [hm]; simp)]; exact h1, h2, h3, h6, h7, h8, h9, ⟨h10.flat, fun i hi hp => ?_, h10.apart, (fun j ys hp => by cases hp), h10.short⟩⟩
        obtain ⟨vs, q1, q2, q3⟩ := h10.row i hi (fun j ys hp => by cases hp)
        exact ⟨vs, q1, q2, fun i hi => (q3 i hi).mono (fun _ _ _ h => h) hok⟩
      | _ => exact h4.elim
    | mit m s l c => cases o' with
      | mit m' s' l' c' =>
        obtain ⟨hm, ⟨hm', hlt⟩, rfl, rfl, rfl, rfl⟩ := h4
        obtain ⟨h1, h2, r, bm, h3, h5, h6⟩ := hO
        refine ⟨by simp only [reVer]; rw [if_neg (by rw [hm]; simp)]; exact h1, ?_, r, bm, h3, h5, fun e => ?_⟩
        · have hlt' : m' < n := by simpa using hlt
          exact hT' _ hlt'
        · simp only [envOf, reVer] at e
          rw [if_neg (by rw [hm']; simp)] at e
          exact h6 e
      | _ => exact h4.elim
    | cells l e => cases o' with
      | cells l' e' =>
        obtain ⟨rfl, h5⟩ := h4
        obtain ⟨h0, b, vs, h6, h7, h8⟩ := hO
        refine ⟨?_, b, vs, h6, h7, entC_rel hI hT' hok h5 h8⟩
        simp only [reVer]
        split
        · rename_i hm
          have : hget T nm = .cells l e' := by simp [hget, List.getD_eq_getElem?_getD, ho]
          simp [verOf, this]
        · exact h0
      | _ => exact h4.elim
    | vec v t xs e => cases o' with
      | vec v' t' xs' e' =>
        obtain ⟨rfl, h5, h6⟩ := h4
        have h7 := seqEq_spec h6
        cases h7
        obtain ⟨h8, h9, h10, h11, vs, h12, h13⟩ := hO
        have hg : hget T nm = .vec v t xs e' := by simp [hget, List.getD_eq_getElem?_getD, ho]
        refine ⟨?_, ?_, h10, h11, vs, h12, fun i hi => (h13 i hi).mono (fun _ _ _ h => h) hok⟩
        · simp only [reVer]
          cases hm : mem nm objs with
          | true => simp [verOf, hg]
          | false => rw [hm] at h5; simp only [cond_false] at h5; rw [if_neg (by simp)]; rw [← h5]; exact h8
        · cases hm : mem nm objs with
          | true => rw [hm] at h5; exact h5
          | false => rw [hm] at h5; simp only [cond_false] at h5; rw [← h5]; exact h9
      | _ => exact h4.elim
    | fro v t xs => cases o' with
      | fro v' t' xs' =>
        obtain ⟨rfl, h6⟩ := h4
        have h7 := seqEq_spec h6
        cases h7
        obtain ⟨h8, h9, h10⟩ := hO
        have hg : hget T nm = .fro v' t xs := by simp [hget, List.getD_eq_getElem?_getD, ho]
        refine ⟨?_, h9, h10.mono (fun _ _ _ h => h) hok⟩
        simp only [reVer]
        split
        · simp [verOf, hg]
        · exact h8
      | _ => exact h4.elim
  · obtain ⟨o₁, h1, h2⟩ := hspec k o hk
    obtain ⟨o₂, h3, h4⟩ := hspec k' o' hk'
    exact hI.sep k k' o₁ o₂ b h1 h3 (hblk k o o₁ b hk h1 h2 hb) (hblk k' o' o₂ b hk' h3 h4 hb')
theorem entM_rel (hI : Inv G H' loc ver w) {objs : List Nat} {n : Nat} (hT : ∀ m, m < n → hasB T m = true) (hok : ∀ b, okN G H' loc w b → okN G T loc w b) {a : Act} {l' : List (Nat × SV)} (hTR : TRel (envOf G H' loc ver w) N l' a) :
    ∀ {m : List (Nat × SV)}, entM objs H' T n l' m → ∀ p ∈ m, Rel (envOf G T loc (reVer objs T ver) w) p.2 (a.tmps.getD p.1 undef)
  | [], _, p, hp => by simp at hp
  | (t, s) :: r, h, p, hp => by
    obtain ⟨h3, h4⟩ := h
    rcases List.mem_cons.1 hp with rfl | hp
    · cases hb : (under n s && under n (look l' t)) with
      | true => rw [hb] at h3; exact ent_sound h3 (reV_rel hI hT hok (hTR.rel t) (and2 hb).2)
      | false => rw [hb] at h3; exact ent_sound h3 (.any _)
    · exact entM_rel hI hT hok hTR h4 p hp
theorem within_spec {objs : List Nat} {n : Nat} : ∀ {D : List Nat}, within objs n D = true → ∀ m, mem m D = true → mem m objs = true ∨ n ≤ m
  | x :: r, h, m, hm => by
    simp only [within, Bool.and_eq_true, Bool.or_eq_true, Nat.ble_eq] at h
    simp only [mem, Bool.or_eq_true] at hm
    rcases hm with hm | hm
    · have := beq_iff.1 hm; subst this; exact h.1
    · exact within_spec h.2 m hm
theorem gones_spec : ∀ {H T : List HO} {nm : Nat}, gones H T = true → H[nm]? = some .gone → T[nm]? = some .gone
  | [], _, nm, _, h => by simp at h
  | o :: r, o' :: r', nm, hg, h => by
    simp only [gones, Bool.and_eq_true] at hg
    cases nm with
    | zero =>
      simp at h; subst h
      have := hg.1
      cases o' <;> simp [isGone] at this ⊢
    | succ n => simpa using gones_spec hg.2 (by simpa using h)
  | _ :: _, [], nm, hg, h => by simp [gones] at hg
/-- What a state that arrives keeps of the one from which the head is spelt. -/
theorem arrive_ext {H : List HO} {loc0 : Nat → Loc} {ver0 : Nat → Nat} {w0 : World} {objs D : List Nat}
    (hx : ExtO D (envOf G H loc0 ver0 w0) (envOf G H' loc ver w)) (hlen : H.length ≤ T.length) (hgs : ∀ nm : Nat, H[nm]? = some HO.gone → T[nm]? = some HO.gone) (hD : within objs H.length D = true) (hh : EntS objs H' T H.length)
    (hok : ∀ b, okN G H' loc w b → okN G T loc w b) : ExtO objs (envOf G H loc0 ver0 w0) (envOf G T loc (reVer objs T ver) w) := by
  refine ⟨hx.blk, fun b hb => hok b (hx.ok b hb), fun nm hn => EntS.has hh nm (Nat.lt_of_lt_of_le (hasB_lt hn) hlen), fun nm hn hmm => ?_, hx.size, hx.keep, fun nm b hb => ?_, fun nm b hn hb => ?_, fun b hb => ?_, hx.itr, fun nm hn hmm he => ?_⟩
  · have hnD : mem nm D = false := by
      cases e : mem nm D with
      | false => rfl
      | true =>
        have hn' : nm < H.length := hasB_lt hn
        rcases within_spec hD nm e with h1 | h1
        · rw [h1] at hmm; cases hmm
        · omega
    have := hx.ver nm hn hnD
    simpa [envOf, reVer, hmm] using this
  · obtain ⟨h1, h2⟩ := hx.gho nm b hb
    exact ⟨⟨hgs nm hb.1, h1.2⟩, h2⟩
  · obtain ⟨o', h3, h4⟩ := hh.2 nm _ hb.1
    cases o' with
    | gone => exact hx.gho' nm b hn ⟨h3, hb.2⟩
    | _ => exact h4.elim
  · obtain ⟨nm, st, m, it, h1, h2⟩ := hb
    obtain ⟨o', h3, h4⟩ := hh.2 nm _ h1
    cases o' with
    | yst st' m' it' => exact hx.ali b ⟨nm, _, _, _, h3, h2⟩
    | _ => exact h4.elim
  · have hnD : mem nm D = false := by
      cases e : mem nm D with
      | false => rfl
      | true =>
        have hn' : nm < H.length := hasB_lt hn
        rcases within_spec hD nm e with h1 | h1
        · rw [h1] at hmm; cases hmm
        · omega
    refine hx.sub nm hn hnD ?_
    simpa [envOf, reVer, hmm] using he
theorem within_append {objs : List Nat} {n : Nat} : ∀ {D : List Nat}, within objs n D = true → within objs n (D ++ objs) = true := by
  intro D
  induction D with
  | nil =>
    intro _
    have : ∀ (O : List Nat), (∀ m, mem m O = true → mem m objs = true) → within objs n O = true := by
      intro O
      induction O with
      | nil => intro _; rfl
      | cons y r ih2 =>
        intro hy
        simp only [within, Bool.and_eq_true, Bool.or_eq_true]
        exact ⟨.inl (hy y (by simp [mem, beq_same])), ih2 fun m hm => hy m (by simp [mem, hm])⟩
    exact this objs fun _ h => h
  | cons y r ih2 =>
    intro hy
    simp only [List.cons_append, within, Bool.and_eq_true] at hy ⊢
    exact ⟨hy.1, ih2 hy.2⟩
/-- **A state that arrives at a head stands there.** -/
theorem arrive_sound {H : List HO} {loc0 : Nat → Loc} {ver0 : Nat → Nat} {w0 : World} {l l' : List (Nat × SV)} {a0 a : Act} {an : Ann} {x : an.X} {ws D : List Nat}
    (hI0 : Inv G H loc0 ver0 w0) (hT0 : TRel (envOf G H loc0 ver0 w0) N l a0) (hI : Inv G H' loc ver w) (hTR : TRel (envOf G H' loc ver w) N l' a) (hx : ExtO D (envOf G H loc0 ver0 w0) (envOf G H' loc ver w)) (hs : Same ws a0 a)
    (hlen : (an.heap x H).length = H.length) (hgs : gones H (an.heap x H) = true) (hD : within an.objs H.length D = true) (h : arrive an x H l' H') :
    Inv G (an.heap x H) loc (reVer an.objs (an.heap x H) ver) w ∧ TRel (envOf G (an.heap x H) loc (reVer an.objs (an.heap x H) ver) w) N (annL an x ws l H) a ∧
      ExtO an.objs (envOf G H loc0 ver0 w0) (envOf G (an.heap x H) loc (reVer an.objs (an.heap x H) ver) w) := by
  obtain ⟨hm, hh⟩ := h.ent
  have hh := entH_spec hh
  obtain ⟨hI2, hok⟩ := arrive_inv hI (Nat.le_of_eq hlen.symm) hh
  have hxx := arrive_ext hx (Nat.le_of_eq hlen.symm) (fun nm hn => gones_spec hgs hn) hD hh hok
  refine ⟨hI2, ⟨hTR.size, ?_⟩, hxx⟩
  refine look_puts _ _ (fun t => ?_) (entM_rel hI (fun m hm => EntS.has hh m (by omega)) hok hTR hm)
  rcases look_base ws an.objs l t with e | ⟨e1, e2, e3⟩
  · rw [e]; exact .any _
  · rw [e1, hs t e2]
    have h0 := hT0.rel t
    refine h0.move (E' := envOf G (an.heap x H) loc (reVer an.objs (an.heap x H) ver) w) (p := fun m => !mem m an.objs) (fun nm hp hlt => ?_) (fun nm hp hn he => hxx.sub nm hn (by simpa using hp) he) (fun _ => hxx.itr) hxx.cell hxx.ok (names_not e3)
    have h2 : mem nm an.objs = false := by simpa using hp
    exact ⟨hxx.num nm hlt, hxx.ver nm hlt h2⟩
end
end Go.Eng
