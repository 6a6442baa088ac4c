/-
  **A region whose order is drawn**: one walk, in the order of the text, serves every order.
-/
import Derived.Test.YtpmbhgmifiianaaEngN
import Derived.OrdersIn
set_option linter.unusedSimpArgs false
set_option linter.unusedVariables false
namespace Go.Eng
open Go.RowKit

section
variable {P : Program} {G : Ctx} {N : Nat} {H : List HO} {Γ : List Con}

/-- What an operation looks at. -/
def lk (ops : Array Oper) (o : Oper) (t : Nat) : Prop := Operand.tmp t ∈ o.op.operands.toList ∨ ∃ j b, o.guard = some (j, b) ∧ (ops[j]?).bind (·.dst) = some t
theorem look_restr (l : List (Nat × SV)) : ∀ (xs : List Operand) (t : Nat), look (restr l xs) t = .any ∨ (Operand.tmp t ∈ xs ∧ look (restr l xs) t = look l t)
  | [], t => .inl rfl
  | x :: xs, t => by
    cases x with
    | tmp u =>
      simp only [restr, look]
      by_cases e : u = t
      · subst e; rw [beq_same]; right; exact ⟨List.mem_cons_self .., rfl⟩
      · rw [beq_ne e]
        simp only [cond_false]
        rcases look_restr l xs t with h | ⟨h1, h2⟩
        · exact .inl h
        · exact .inr ⟨List.mem_cons_of_mem _ h1, h2⟩
    | _ =>
      simp only [restr]
      rcases look_restr l xs t with h | ⟨h1, h2⟩
      · exact .inl h
      · exact .inr ⟨List.mem_cons_of_mem _ h1, h2⟩
theorem guardQ {ops : Array Oper} {l : List (Nat × SV)} {o : Oper} {yes no : List (Nat × SV) → Prop} (h : guardB ops.toList l o.guard yes no) :
    ∃ l' b, ((b = true ∧ yes l') ∨ (b = false ∧ no l')) ∧ (∀ (E : Env) (t : Nat) (v : Value), Rel E (look l t) v → Rel E (look l' t) v) ∧
      (∀ (E : Env) (a : Act), (∀ t, lk ops o t → Rel E (look l t) (a.tmps.getD t undef)) → Region.wanted o (yielded ops a.tmps) = b) := by
  unfold guardB at h
  cases hg : o.guard with
  | none => rw [hg] at h; exact ⟨l, true, .inl ⟨rfl, h⟩, fun _ _ _ h => h, fun _ _ _ => by simp [Region.wanted, hg]⟩
  | some p =>
    obtain ⟨j, want⟩ := p
    rw [hg] at h
    simp only at h
    split at h
    · exact h.elim
    · rename_i t hd
      have hd' : (ops[j]?).bind (·.dst) = some t := by simpa using hd
      have hlk : lk ops o t := .inr ⟨j, want, hg, hd'⟩
      have hw : ∀ (b : Bool) (a : Act), a.tmps.getD t undef = .bool b → Region.wanted o (yielded ops a.tmps) = (want == b) := by
        intro b a hb
        have hy := yielded_bool hd' hb
        cases want <;> cases b <;> simp [Region.wanted, hg, hy]
      split at h
      · rename_i hl
        refine ⟨l, want, ?_, fun _ _ _ h => h, fun E a hr => ?_⟩
        · cases want with
          | true => exact .inl ⟨rfl, h⟩
          | false => exact .inr ⟨rfl, h⟩
        · have h1 := hr t hlk
          rw [hl] at h1
          rw [hw true a h1.bool_inv]; cases want <;> rfl
      · rename_i hl
        refine ⟨l, !want, ?_, fun _ _ _ h => h, fun E a hr => ?_⟩
        · cases want with
          | true => exact .inr ⟨rfl, h⟩
          | false => exact .inl ⟨rfl, h⟩
        · have h1 := hr t hlk
          rw [hl] at h1
          rw [hw false a h1.bool_inv]; cases want <;> rfl
      · rename_i p d hl
        have hlearn : ∀ (b : Bool), @decide p d = b → ∀ (E : Env) (u : Nat) (v : Value), Rel E (look l u) v → Rel E (look (put l t (.val (.bool b))) u) v := by
          intro b hb E u v hr
          rw [look_put]
          by_cases e : u = t
          · rw [if_pos e]
            rw [e, hl] at hr
            cases hr
            rw [hb]; exact .val _ trivial
          · rw [if_neg e]; exact hr
        have hval : ∀ (E : Env) (a : Act), (∀ t, lk ops o t → Rel E (look l t) (a.tmps.getD t undef)) → a.tmps.getD t undef = .bool (@decide p d) := by
          intro E a hr
          have h1 := hr t hlk
          rw [hl] at h1
          generalize a.tmps.getD t undef = v at h1
          cases h1; rfl
        by_cases hp : p
        · have hdp : @decide p d = true := by simp [hp]
          refine ⟨put l t (.val (.bool true)), want, ?_, hlearn true hdp, fun E a hr => ?_⟩
          · cases want with
            | true => exact .inl ⟨rfl, by have := h.yes hp; rwa [force_eq] at this⟩
            | false => exact .inr ⟨rfl, by have := h.yes hp; rwa [force_eq] at this⟩
          · rw [hw _ a (hval E a hr), hdp]; cases want <;> rfl
        · have hdp : @decide p d = false := by simp [hp]
          refine ⟨put l t (.val (.bool false)), !want, ?_, hlearn false hdp, fun E a hr => ?_⟩
          · cases want with
            | true => exact .inr ⟨rfl, by have := h.no hp; rwa [force_eq] at this⟩
            | false => exact .inl ⟨rfl, by have := h.no hp; rwa [force_eq] at this⟩
          · rw [hw _ a (hval E a hr), hdp]; cases want <;> rfl
      · rename_i hl
        refine ⟨l, false, .inr ⟨rfl, h⟩, fun _ _ _ h => h, fun E a hr => ?_⟩
        have h1 := hr t hlk
        rw [hl] at h1
        generalize hv : a.tmps.getD t undef = v at h1
        cases h1 with
        | tup _ vs hl' => cases hl'; simp [Region.wanted, hg, yielded_undef hd' hv]
      · exact h.elim
theorem OpOK.ex {o : Oper} {a : Act} {w : World} {R : Value → World → Prop} (h : OpOK P Fence.wide o a w R) : ∃ v w', R v w' := by
  cases h with
  | value v w' _ h => exact ⟨v, w', h⟩
  | skip w' _ h => exact ⟨_, w', h⟩
  | call f args _ h =>
    obtain ⟨e, w', _, ⟨v, _, h⟩, _⟩ := (h 0).2 [] (fun d h => by cases h)
    exact ⟨v, w', h⟩
  | yield l args _ h =>
    obtain ⟨_, _, _, _, _, hR⟩ := h
    obtain ⟨e, w', ⟨v, _, h⟩, _⟩ := hR.2 default [] (fun d h => by cases h)
    exact ⟨v, w', h⟩
/-- What is known of one operation, whenever it comes up. -/
structure QP (P : Program) (Γ : List Con) (ops : Array Oper) (H : List HO) (N : Nat) (wr : Nat → SV) (sv : SV) (wn : Bool) (o : Oper) : Prop where
  want : ∀ (E : Env) (a : Act), (∀ t, lk ops o t → Rel E (wr t) (a.tmps.getD t undef)) → Region.wanted o (yielded ops a.tmps) = wn
  run : wn = true → ∃ lr X, op1 P Γ o lr H (fun s' H' => Pinned (s' = sv) (H' = H) X) ∧ ∀ (t : Nat) (E : Env) (v : Value), (lk ops o t → Rel E (wr t) v) → Rel E (look lr t) v
  skip : wn = false → sv = .tup []
  dst : ∀ t, o.dst = some t → t < N

theorem dstIs_iff {o : Oper} {t : Nat} : dstIs o t = true ↔ o.dst = some t := by
  unfold dstIs
  cases o.dst with
  | none => simp
  | some u => simp
theorem readOk_spec {ops : Array Oper} {m i : Nat} {o : Oper} {t : Nat} (h : readOk ops.toList m i o t = true) {j : Nat} {o' : Oper} (hj : j < m) (ho : ops[j]? = some o') (hd : o'.dst = some t) : waits o j = true ∧ j < i := by
  have := List.all_eq_true.1 h j (List.mem_range.2 hj)
  simp only [Array.getElem?_toList, ho] at this
  rw [dstIs_iff.2 hd] at this
  simpa using this
theorem opOk_reads {ops : Array Oper} {m i : Nat} {o : Oper} (h : opOk ops.toList m i o = true) {t : Nat} (hl : lk ops o t) : readOk ops.toList m i o t = true := by
  simp only [opOk, Bool.and_eq_true] at h
  rcases hl with hl | ⟨j, b, h1, h2⟩
  · have := List.all_eq_true.1 h.1 _ hl
    exact this
  · have := h.2.1
    rw [h1] at this
    simp only [dstOf] at this
    have h2' : (ops.toList[j]?).bind (·.dst) = some t := by simpa using h2
    rw [h2'] at this
    exact this
theorem opOk_dst {ops : Array Oper} {m i : Nat} {o : Oper} (h : opOk ops.toList m i o = true) {t : Nat} (hd : o.dst = some t) {j : Nat} {o' : Oper} (hj : j < m) (ho : ops[j]? = some o') (hd' : o'.dst = some t) : j = i := by
  simp only [opOk, Bool.and_eq_true] at h
  have := h.2.2
  rw [hd] at this
  have := List.all_eq_true.1 this j (List.mem_range.2 hj)
  simp only [Array.getElem?_toList, ho] at this
  rw [dstIs_iff.2 hd'] at this
  simpa using this

theorem virt (hY : YOK P G.itr) (hΓ : ∀ c ∈ Γ, ConOK P c) {ops : Array Oper} {m : Nat} (hq : ∀ i o, i < m → ops[i]? = some o → opOk ops.toList m i o = true) {K : List (Nat × SV) → Prop} : ∀ (rest : List Oper) (k : Nat), (ops.toList.take m).drop k = rest →
    ∀ {loc : Nat → Loc} {ver : Nat → Nat} {w : World} {l : List (Nat × SV)} {a : Act} {wr : Nat → SV}, Inv G H loc ver w → TRel (envOf G H loc ver w) N l a → (∀ (E : Env) (t : Nat) (v : Value), Rel E (wr t) v → Rel E (look l t) v) →
    execQ P Γ N ops.toList rest l H K →
    ∃ (wr' : Nat → SV) (sv : Nat → SV) (wn : Nat → Bool) (lf : List (Nat × SV)), K lf ∧ (∀ (E : Env) (t : Nat) (v : Value), Rel E (wr' t) v → Rel E (look lf t) v) ∧
      (∀ t, (∀ j o, k ≤ j → j < m → ops[j]? = some o → o.dst ≠ some t) → wr' t = wr t) ∧
      (∀ j o, k ≤ j → j < m → ops[j]? = some o → (∀ t, o.dst = some t → wr' t = sv j) ∧ QP P Γ ops H N wr' (sv j) (wn j) o) := by
  intro rest
  induction rest with
  | nil =>
    intro k hk loc ver w l a wr hI hT hRef h
    refine ⟨wr, fun _ => .any, fun _ => false, l, h, hRef, fun _ _ => rfl, fun j o h1 h2 h3 => ?_⟩
    have : (ops.toList.take m).length ≤ k := List.drop_eq_nil_iff.1 hk
    have hj := (Array.getElem?_eq_some_iff.1 h3).1
    simp at this
    omega
  | cons o r ih =>
    intro k hk loc ver w l a wr hI hT hRef h
    have hko : (ops.toList.take m)[k]? = some o := by
      have : ((ops.toList.take m).drop k)[0]? = some o := by rw [hk]; rfl
      rw [List.getElem?_drop] at this
      simpa using this
    have hkm : k < m := by
      rw [List.getElem?_take] at hko
      split at hko
      · assumption
      · cases hko
    have hop : ops[k]? = some o := by
      rw [List.getElem?_take, if_pos hkm] at hko
      simpa using hko
    have hkr : (ops.toList.take m).drop (k + 1) = r := by rw [← List.drop_drop, hk]; rfl
    have hok := hq k o hkm hop
    simp only [execQ_cons] at h
    obtain ⟨l', b, hyn, hlearn, hwant⟩ := guardQ h
    have hT' : TRel (envOf G H loc ver w) N l' a := ⟨hT.size, fun t => hlearn _ t _ (hT.rel t)⟩
    have hRef' : ∀ (E : Env) (t : Nat) (v : Value), Rel E (wr t) v → Rel E (look l' t) v := fun E t v h => hlearn E t v (hRef E t v h)
    -- behind this operation, whatever it has left
    have step : ∀ {loc' : Nat → Loc} {ver' : Nat → Nat} {w' : World} {s : SV} {v : Value}, Inv G H loc' ver' w' → Ext (envOf G H loc ver w) (envOf G H loc' ver' w') → Rel (envOf G H loc' ver' w') s v →
        setT N l' o.dst s (fun l'' => execQ P Γ N ops.toList r l'' H K) → (b = false → s = .tup []) →
        (b = true → ∃ X, op1 P Γ o (restr l' o.op.operands.toList) H (fun s' H' => Pinned (s' = s) (H' = H) X)) →
        ∃ (wr' : Nat → SV) (sv : Nat → SV) (wn : Nat → Bool) (lf : List (Nat × SV)), K lf ∧ (∀ (E : Env) (t : Nat) (v : Value), Rel E (wr' t) v → Rel E (look lf t) v) ∧
          (∀ t, (∀ j o, k ≤ j → j < m → ops[j]? = some o → o.dst ≠ some t) → wr' t = wr t) ∧
          (∀ j o, k ≤ j → j < m → ops[j]? = some o → (∀ t, o.dst = some t → wr' t = sv j) ∧ QP P Γ ops H N wr' (sv j) (wn j) o) := by
      intro loc' ver' w' s v hI' hx' hrs hset hskip hrun
      obtain ⟨wr1, hwr1⟩ : ∃ wr1 : Nat → SV, wr1 = fun t => if o.dst = some t then s else wr t := ⟨_, rfl⟩
      have hnext : ∃ l'', execQ P Γ N ops.toList r l'' H K ∧ TRel (envOf G H loc' ver' w') N l'' (a.put o.dst v) ∧ (∀ (E : Env) (t : Nat) (v : Value), Rel E (wr1 t) v → Rel E (look l'' t) v) ∧ ∀ t, o.dst = some t → t < N := by
        cases hd : o.dst with
        | none =>
          rw [hd] at hset
          refine ⟨l', hset, hT'.ext hx', fun E t v h => ?_, fun t h => by cases h⟩
          rw [hwr1] at h
          simp only [hd] at h
          exact hRef' E t v (by simpa using h)
        | some u =>
          rw [hd] at hset
          obtain ⟨hu, hset⟩ := bif_true hset
          rw [force_eq] at hset
          have hu' : u < N := by simpa using hu
          refine ⟨_, hset, ?_, fun E t v h => ?_, fun t h => by cases h; exact hu'⟩
          · refine ⟨by simp [Act.put]; exact hT.size, fun t => ?_⟩
            rw [look_put, getD_put a u t v (by rw [hT.size]; exact hu')]
            by_cases e : t = u
            · rw [if_pos e, if_pos e]; exact hrs
            · rw [if_neg e, if_neg e]; exact (hT'.ext hx').rel t
          · rw [hwr1] at h
            simp only [hd] at h
            rw [look_put]
            by_cases e : t = u
            · rw [if_pos e]; rw [if_pos (by rw [e])] at h; exact h
            · rw [if_neg e]; rw [if_neg (fun e' => e (by cases e'; rfl))] at h; exact hRef' E t v h
      obtain ⟨l'', he, hT'', hRef'', hdN⟩ := hnext
      obtain ⟨wr', sv, wn, lf, h1, h2, h3, h4⟩ := ih (k + 1) hkr hI' hT'' hRef'' he
      have hwr : ∀ t, lk ops o t → wr' t = wr t := by
        intro t ht
        have hro := opOk_reads hok ht
        have h5 := h3 t fun j o' hj1 hj2 hj3 hd => by
          have := (readOk_spec hro hj2 hj3 hd).2
          omega
        rw [h5, hwr1]
        have : o.dst ≠ some t := fun hd => by
          have := (readOk_spec hro hkm hop hd).2
          omega
        simp only [if_neg this]
      refine ⟨wr', fun j => if j = k then s else sv j, fun j => if j = k then b else wn j, lf, h1, h2, fun t ht => ?_, fun j o' hj1 hj2 hj3 => ?_⟩
      · rw [h3 t fun j o' hj1 hj2 hj3 => ht j o' (by omega) hj2 hj3, hwr1]
        simp only [if_neg (ht k o (Nat.le_refl _) hkm hop)]
      · by_cases e : j = k
        · subst e
          rw [hop] at hj3; cases hj3
          simp only [if_true]
          refine ⟨fun t hd => ?_, ⟨fun E a hr => hwant E a fun t ht => hRef E t _ (by rw [← hwr t ht]; exact hr t ht), fun hb => ?_, hskip, hdN⟩⟩
          · rw [h3 t fun j' o' hj1' hj2' hj3' hd' => by have := opOk_dst hok hd hj2' hj3' hd'; omega, hwr1]
            simp only [if_pos hd]
          · obtain ⟨X, hX⟩ := hrun hb
            refine ⟨_, X, hX, fun t E v hr => ?_⟩
            rcases look_restr l' o.op.operands.toList t with h5 | ⟨h5, h6⟩
            · rw [h5]; exact .any v
            · rw [h6]
              have hl : lk ops o t := .inl h5
              exact hRef' E t v (by rw [← hwr t hl]; exact hr hl)
        · simp only [if_neg e]
          exact h4 j o' (by omega) hj2 hj3
    rcases hyn with ⟨rfl, hy⟩ | ⟨rfl, hn⟩
    · obtain ⟨s, hs⟩ := hy.ex
      rw [force_eq] at hs
      have hTr : TRel (envOf G H loc ver w) N (restr l' o.op.operands.toList) a := ⟨hT.size, fun t => by
        rcases look_restr l' o.op.operands.toList t with h5 | ⟨h5, h6⟩
        · rw [h5]; exact .any _
        · rw [h6]; exact hT'.rel t⟩
      obtain ⟨_, hopk⟩ := op1_sound (F := Fence.wide) hY hΓ ⟨none, rfl⟩ hI hTr hs
      obtain ⟨v, w', s', H', loc', ver', hp, hI', hr', hx'⟩ := hopk.ex
      obtain ⟨rfl, rfl, hgo⟩ := hp
      exact step hI' hx' hr' hgo (fun h => by cases h) (fun _ => ⟨_, hs⟩)
    · exact step hI (Ext.refl _) (.tup [] [] .nil) hn (fun _ => rfl) (fun h => by cases h)
end
end Go.Eng
