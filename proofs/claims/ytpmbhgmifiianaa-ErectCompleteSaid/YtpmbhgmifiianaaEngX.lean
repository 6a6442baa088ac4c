/-
  A plain move that waits for nothing, in a region whose order is drawn: it may as well come first.
-/
import Derived.Test.YtpmbhgmifiianaaEngR
set_option linter.unusedSimpArgs false
set_option linter.unusedVariables false
namespace Go.Eng
section
variable {P : Program}
/-- An operation whose next state is spelt otherwise. -/
theorem upon_move {F : Fence} {n : Nat} {o : Oper} {a a' : Act} {K K' : Act → World → Prop} {Q : Exit → Act → World → Prop} (hQn : ∀ e a w, Q e a w → e = .normal)
    (hK : ∀ v w, K' (a'.put o.dst v) w → K (a.put o.dst v) w) (hKd : ∀ d v w, K' ({ a' with defers := d :: a'.defers }.put o.dst v) w → K ({ a with defers := d :: a.defers }.put o.dst v) w)
    {r : Result Next} (hh : o.uponIn F n P a' K' Q r) : o.uponIn F n P a K Q r := by
  cases r with
  | ok x w' =>
    cases x <;> simp only [Oper.uponIn] at hh ⊢
    case value => exact hK _ _ hh
    case skip => exact hK _ _ hh
    case defer => exact hKd _ _ _ hh
    case enter => exact ⟨hh.1, CallsIn.mono hh.2 (fun e w'' he => by
      cases e with
      | returned v => exact hK _ _ he
      | panicked c => exact absurd (hQn _ _ _ he) (by simp)
      | outgrown => exact he)⟩
    case row => exact ⟨hh.1, RowsIn.mono hh.2 (fun _ _ he => hK _ _ he)⟩
    case round => exact ⟨hh.1, RoundIn.mono hh.2 (fun e w'' he => by
      cases e with
      | returned v => exact hK _ _ he
      | panicked c => exact absurd (hQn _ _ _ he) (by simp)
      | outgrown => exact he)⟩
    all_goals exact hh
  | halt x w' =>
    cases x <;> simp only [Oper.uponIn] at hh ⊢
    case panic => exact absurd (hQn _ _ _ hh) (by simp)
    all_goals exact hh
theorem upon_monoQ {F : Fence} {n : Nat} {o : Oper} {a : Act} {K K' : Act → World → Prop} {Q Q' : Exit → Act → World → Prop} (hQ : ∀ e a w, Q e a w → Q' e a w) (hK : ∀ a w, K a w → K' a w)
    {r : Result Next} (hh : o.uponIn F n P a K Q r) : o.uponIn F n P a K' Q' r := by
  have hL : LetsOut Q → LetsOut Q' := fun ⟨a, w, h⟩ => ⟨a, w, hQ _ _ _ h⟩
  cases r with
  | ok x w' =>
    cases x <;> simp only [Oper.uponIn] at hh ⊢
    case value => exact hK _ _ hh
    case skip => exact hK _ _ hh
    case defer => exact hK _ _ hh
    case enter => exact ⟨hh.1, CallsIn.mono hh.2 (fun e w'' he => by
      cases e with
      | returned v => exact hK _ _ he
      | panicked c => exact hQ _ _ _ he
      | outgrown => exact hL he)⟩
    case row => exact ⟨hh.1, RowsIn.mono hh.2 (fun _ _ he => hK _ _ he)⟩
    case round => exact ⟨hh.1, RoundIn.mono hh.2 (fun e w'' he => by
      cases e with
      | returned v => exact hK _ _ he
      | panicked c => exact hQ _ _ _ he
      | outgrown => exact hL he)⟩
    all_goals exact hh
  | halt x w' =>
    cases x <;> simp only [Oper.uponIn] at hh ⊢
    case panic => exact hQ _ _ _ hh
    all_goals exact hh
theorem any_monoQ {F : Fence} {n : Nat} {ops : Array Oper} {Q Q' : Exit → Act → World → Prop} (hQ : ∀ e a w, Q e a w → Q' e a w) : ∀ (fuel : Nat) (listed : Array Bool) (a : Act) (w : World), wpAnyIn F n P .any ops Q fuel listed a w → wpAnyIn F n P .any ops Q' fuel listed a w
  | 0, _, _, _, h => ⟨h.1, hQ _ _ _ h.2⟩
  | f + 1, listed, a, w, h => by
    refine ⟨fun hr => hQ _ _ _ (h.1 hr), fun i hi => ?_⟩
    have := h.2 i hi
    unfold wpOpIn at this ⊢
    cases ho : ops[i]? with
    | none => rw [ho] at this; exact any_monoQ hQ f _ _ _ this
    | some o =>
      rw [ho] at this
      simp only at this ⊢
      split
      · rename_i hw
        rw [if_pos hw] at this
        exact ⟨this.1, upon_monoQ hQ (fun a w h => any_monoQ hQ f _ _ _ h) this.2⟩
      · rename_i hw
        rw [if_neg hw] at this
        exact ⟨this.1, any_monoQ hQ f _ _ _ this.2⟩
theorem put_get {a : Act} {t : Nat} {v : Value} {u : Nat} (h : u ≠ t) : (a.put (some t) v).tmps.getD u undef = a.tmps.getD u undef := by
  simp only [Act.put, Array.getD_eq_getD_getElem?, Array.getElem?_setIfInBounds]
  rw [if_neg (Ne.symm h)]
theorem put_comm {a : Act} {t : Nat} {v : Value} {d : Option Nat} {u : Value} (h : d ≠ some t) : (a.put (some t) v).put d u = (a.put d u).put (some t) v := by
  cases d with
  | none => rfl
  | some d =>
    have hne : d ≠ t := fun e => h (by rw [e])
    simp only [Act.put]
    congr 1
    apply Array.ext_getElem?
    intro i
    simp only [Array.getElem?_setIfInBounds, Array.size_setIfInBounds]
    by_cases h1 : d = i
    · subst h1; simp [Ne.symm hne]
    · by_cases h2 : t = i
      · subst h2; simp [h1]
      · simp [h1, h2]
theorem listed_comm {l : Array Bool} {i j : Nat} : (l.setIfInBounds i true).setIfInBounds j true = (l.setIfInBounds j true).setIfInBounds i true := by
  apply Array.ext_getElem?
  intro k
  simp only [Array.getElem?_setIfInBounds, Array.size_setIfInBounds]
  by_cases h1 : i = k <;> by_cases h2 : j = k <;> simp [h1, h2]
structure Free (ops : Array Oper) (i : Nat) (o : Oper) (x : Operand) (t : Nat) : Prop where
  at_ : ops[i]? = some o
  op : o.op = .move x
  guard : o.guard = none
  dst : o.dst = some t
  after : ∀ e ∈ o.after, Region.binds .any e = false
  only : ∀ (j : Nat) (o' : Oper), j ≠ i → ops[j]? = some o' → o'.dst ≠ some t
  src : ∀ (j : Nat) (o' : Oper), ops[j]? = some o' → ∀ u, x = .tmp u → o'.dst ≠ some u
  readers : ∀ (j : Nat) (o' : Oper), j ≠ i → ops[j]? = some o' → lk ops o' t → waits o' i = true
  nosel : ∀ (j : Nat) (o' : Oper), ops[j]? = some o' → (∀ cs b, o'.op ≠ .select cs b) ∧ ∀ c, o'.op ≠ .defer c
theorem hoist {F : Fence} (hF : ∀ f, F.fn f) {n : Nat} {ops : Array Oper} {Q : Exit → Act → World → Prop} (hQn : ∀ e a w, Q e a w → e = .normal) {i : Nat} {o : Oper} {x : Operand} {t : Nat} (hf : Free ops i o x t) :
    ∀ (fuel : Nat) (listed : Array Bool) (a : Act) (w : World), listed.size = ops.size → listed.getD i true = false → wpAnyIn F n P .any ops Q fuel (listed.setIfInBounds i true) (a.put (some t) (a.eval x)) w → wpAnyIn F n P .any ops Q (fuel + 1) listed a w := by
  intro fuel
  induction fuel with
  | zero =>
    intro listed a w hls hi h
    have hri : i ∈ Region.ready .any ops listed := mem_ready.2 ⟨hi, o, hf.at_, fun e he hb => by rw [hf.after e he] at hb; cases hb⟩
    refine ⟨fun hr => (by rw [hr] at hri; cases hri), fun j hj => ?_⟩
    by_cases hji : j = i
    · subst hji
      unfold wpOpIn
      simp only [hf.at_]
      rw [if_pos (by simp [Region.wanted, hf.guard])]
      refine ⟨fun f _ => hF f, ?_⟩
      have e1 : (o.semAt F.round a.eval).run P w = .ok (.value (a.eval x)) w := by
        rw [Oper.semAt_eq _ _ _ (fun c hc => by rw [hf.op] at hc; cases hc)]
        simp [execOp, hf.op]
      rw [e1, Oper.uponIn_value, hf.dst]
      exact h
    · obtain ⟨h1, oj, hoj, h2⟩ := mem_ready.1 hj
      exfalso
      have : j ∈ Region.ready .any ops (listed.setIfInBounds i true) := mem_ready.2 ⟨by rw [getD_set_ne true (Ne.symm hji)]; exact h1, oj, hoj, fun e he hb => by
        by_cases he2 : e.on = i
        · rw [he2]
          have his := (Array.getElem?_eq_some_iff.1 hf.at_).1
          simp [Array.getD_eq_getD_getElem?, Array.getElem?_setIfInBounds, hls, his]
        · rw [getD_set_ne false (Ne.symm he2)]; exact h2 e he hb⟩
      rw [h.1] at this; cases this
  | succ f ih =>
    intro listed a w hls hi h
    have hri : i ∈ Region.ready .any ops listed := mem_ready.2 ⟨hi, o, hf.at_, fun e he hb => by rw [hf.after e he] at hb; cases hb⟩
    refine ⟨fun hr => (by rw [hr] at hri; cases hri), fun j hj => ?_⟩
    by_cases hji : j = i
    · subst hji
      unfold wpOpIn
      simp only [hf.at_]
      rw [if_pos (by simp [Region.wanted, hf.guard])]
      refine ⟨fun f _ => hF f, ?_⟩
      have e1 : (o.semAt F.round a.eval).run P w = .ok (.value (a.eval x)) w := by
        rw [Oper.semAt_eq _ _ _ (fun c hc => by rw [hf.op] at hc; cases hc)]
        simp [execOp, hf.op]
      rw [e1, Oper.uponIn_value, hf.dst]
      exact h
    · obtain ⟨h1, oj, hoj, h2⟩ := mem_ready.1 hj
      have hjr : j ∈ Region.ready .any ops (listed.setIfInBounds i true) := mem_ready.2 ⟨by rw [getD_set_ne true (Ne.symm hji)]; exact h1, oj, hoj, fun e he hb => by
        by_cases he2 : e.on = i
        · rw [he2]
          have his := (Array.getElem?_eq_some_iff.1 hf.at_).1
          simp [Array.getD_eq_getD_getElem?, Array.getElem?_setIfInBounds, hls, his]
        · rw [getD_set_ne false (Ne.symm he2)]; exact h2 e he hb⟩
      have hstep := h.2 j hjr
      have his := (Array.getElem?_eq_some_iff.1 hf.at_).1
      -- it does not read what the move writes
      have hnr : ¬ lk ops oj t := fun hl => by
        obtain ⟨e, he⟩ := List.any_eq_true.1 (hf.readers j oj hji hoj hl)
        obtain ⟨he1, he2⟩ := he
        simp only [Bool.and_eq_true] at he2
        have := h2 e (by simpa using he1) he2.1
        rw [Nat.eq_of_beq_eq_true he2.2] at this
        rw [Array.getD_eq_getD_getElem?] at this hi
        rw [Array.getElem?_eq_getElem (by omega)] at this hi
        simp at this hi
        rw [this] at hi; cases hi
      have hdt : oj.dst ≠ some t := hf.only j oj hji hoj
      have hv : ∀ d u, (∀ e, x = .tmp e → d ≠ some e) → ∀ a : Act, (a.put d u).eval x = a.eval x := by
        intro d u hd a
        cases x with
        | tmp e =>
          cases d with
          | none => rfl
          | some d => exact put_get (a := a) (t := d) (v := u) (u := e) fun he => hd e rfl (by rw [he])
        | _ => cases d <;> rfl
      have hop : ∀ y ∈ oj.op.operands, (a.put (some t) (a.eval x)).eval y = a.eval y := by
        intro y hy
        cases y with
        | tmp e => exact put_get fun he => hnr (.inl (by subst he; simpa using hy))
        | _ => rfl
      have hwant : Region.wanted oj (yielded ops (a.put (some t) (a.eval x)).tmps) = Region.wanted oj (yielded ops a.tmps) := by
        unfold Region.wanted
        cases hg : oj.guard with
        | none => rfl
        | some p =>
          obtain ⟨q, want⟩ := p
          simp only
          congr 1
          unfold yielded
          cases hq : (ops[q]?).bind (·.dst) with
          | none => rfl
          | some u =>
            have hut : u ≠ t := fun e => hnr (.inr ⟨q, want, hg, by rw [hq, e]⟩)
            simp only [Option.bind_some, Act.put, Array.getElem?_setIfInBounds]
            rw [if_neg (Ne.symm hut)]
      have next : ∀ (b : Act) (u : Value) (w : World), wpAnyIn F n P .any ops Q f ((listed.setIfInBounds i true).setIfInBounds j true) ((b.put (some t) (b.eval x)).put oj.dst u) w → wpAnyIn F n P .any ops Q (f + 1) (listed.setIfInBounds j true) (b.put oj.dst u) w := by
        intro b u w hb
        refine ih (listed.setIfInBounds j true) (b.put oj.dst u) w (by simpa using hls) (by rw [getD_set_ne true hji]; exact hi) ?_
        rw [hv oj.dst u (fun e he => hf.src j oj hoj e he) b, ← put_comm hdt, ← listed_comm]
        exact hb
      unfold wpOpIn at hstep ⊢
      simp only [hoj] at hstep ⊢
      rw [hwant] at hstep
      split
      · rename_i hw
        rw [if_pos hw] at hstep
        refine ⟨fun f _ => hF f, ?_⟩
        have hs2 := hstep.2
        have e1 : ∀ ρ, oj.semAt F.round ρ = execOp ρ oj := fun ρ => Oper.semAt_eq _ _ _ (hf.nosel j oj hoj).2
        rw [e1, execOp_congr oj (hf.nosel j oj hoj).1 hop] at hs2
        rw [e1]
        exact upon_move hQn (fun v w hk => next a v w hk) (fun d v w hk => by
          have := next { a with defers := d :: a.defers } v w
          refine this ?_
          exact hk) hs2
      · rename_i hw
        rw [if_neg hw] at hstep
        exact ⟨fun f _ => hF f, next a undef w hstep.2⟩
end
end Go.Eng
