/-
  **A region whose order is drawn is sound.**
-/
import Derived.Test.YtpmbhgmifiianaaEngX
set_option linter.unusedSimpArgs false
set_option linter.unusedVariables false
namespace Go.Eng
open Go.RowKit

section
variable {P : Program} {G : Ctx} {N : Nat} {Γ : List Con}

theorem allOps_spec {ops : Array Oper} {p : Nat → Oper → Bool} {n : Nat} (h : allOps ops.toList p n = true) {i : Nat} {o : Oper} (hi : i < n) (ho : ops[i]? = some o) : p i o = true := by
  have := List.all_eq_true.1 h i (List.mem_range.2 hi)
  simpa [Array.getElem?_toList, ho] using this
theorem waits_spec {o : Oper} {j : Nat} (h : waits o j = true) : ∃ e ∈ o.after, Region.binds .any e = true ∧ e.on = j := by
  obtain ⟨e, h1, h2⟩ := List.any_eq_true.1 h
  obtain ⟨h3, h4⟩ := and2 h2
  exact ⟨e, by simpa using h1, h3, beq_iff.1 h4⟩
theorem topo_spec {o : Oper} {i : Nat} (h : topo i o = true) : ∀ e ∈ o.after, Region.binds .any e = true → e.on < i := by
  intro e he hb
  have := List.all_eq_true.1 h e (by simpa using he)
  simpa [hb] using this
def unl (listed : Array Bool) : Nat → Nat
  | 0 => 0
  | n + 1 => unl listed n + (if listed.getD n true = false then 1 else 0)
theorem unl_set {listed : Array Bool} {i : Nat} (hi : listed.getD i true = false) : ∀ n, unl (listed.setIfInBounds i true) n + (if i < n then 1 else 0) = unl listed n
  | 0 => rfl
  | n + 1 => by
    have ih := unl_set hi n
    simp only [unl]
    by_cases e : i = n
    · subst e
      have : (listed.setIfInBounds i true).getD i true = true := by
        rw [Array.getD_eq_getD_getElem?, Array.getElem?_setIfInBounds]; simp; split <;> rfl
      rw [this, hi]
      simp at ih ⊢; omega
    · rw [getD_set_ne true e]
      have : (if i < n + 1 then 1 else 0) = (if i < n then 1 else 0) := by
        by_cases h : i < n
        · simp [h]; omega
        · have h2 : ¬ i < n + 1 := by omega
          simp [h, h2]
      omega
theorem getD_set_eq {listed : Array Bool} {i : Nat} (hi : listed.getD i true = false) : (listed.setIfInBounds i true).getD i false = true := by
  rw [Array.getD_eq_getD_getElem?] at hi ⊢
  rw [Array.getElem?_setIfInBounds]
  by_cases h : i < listed.size
  · simp [h]
  · rw [Array.getElem?_eq_none (by omega)] at hi; simp at hi
theorem listed_or {listed : Array Bool} {i : Nat} (h : i < listed.size) : listed.getD i true = listed.getD i false := by
  simp [Array.getD_eq_getD_getElem?, Array.getElem?_eq_getElem h]

theorem foldl_bit {ms : List Nat} {j : Nat} : ∀ (l : List Edge) (acc : Nat), Nat.testBit (l.foldl (fun acc e => bif Region.binds .any e then Nat.lor (Nat.lor acc (Nat.shiftLeft 1 e.on)) (ms.getD e.on 0) else acc) acc) j = true →
    Nat.testBit acc j = true ∨ ∃ e ∈ l, Region.binds .any e = true ∧ (e.on = j ∨ Nat.testBit (ms.getD e.on 0) j = true)
  | [], acc, h => .inl h
  | e :: l, acc, h => by
    rcases foldl_bit l _ h with h1 | ⟨e', h1, h2, h3⟩
    · cases hb : Region.binds .any e with
      | false => simp only [hb, cond_false] at h1; exact .inl h1
      | true =>
        simp only [hb, cond_true] at h1
        have h1' : Nat.testBit ((acc ||| (1 <<< e.on)) ||| (ms.getD e.on 0)) j = true := h1
        simp only [Nat.testBit_or, Bool.or_eq_true] at h1'
        rcases h1' with (h2 | h2) | h2
        · exact .inl h2
        · refine .inr ⟨e, List.mem_cons_self, hb, .inl ?_⟩
          rw [Nat.testBit_shiftLeft] at h2
          simp only [Bool.and_eq_true, decide_eq_true_eq] at h2
          have h3 := h2.2
          by_cases hz : j - e.on = 0
          · omega
          · obtain ⟨q, hq⟩ := Nat.exists_eq_succ_of_ne_zero hz
            rw [hq] at h3
            simp [Nat.testBit_succ] at h3
        · exact .inr ⟨e, List.mem_cons_self, hb, .inr h2⟩
    · exact .inr ⟨e', List.mem_cons_of_mem _ h1, h2, h3⟩
theorem mask_bit {ms : List Nat} {o : Oper} {j : Nat} (h : Nat.testBit (maskOf ms o) j = true) : ∃ e ∈ o.after, Region.binds .any e = true ∧ (e.on = j ∨ Nat.testBit (ms.getD e.on 0) j = true) := by
  rcases foldl_bit _ _ h with h1 | ⟨e, h1, h2⟩
  · simp at h1
  · exact ⟨e, by simpa using h1, h2⟩
/-- What holds of the operations that others wait for. -/
def Closed (ops : Array Oper) (L : Nat → Prop) : Prop := ∀ (i : Nat) (o : Oper), ops[i]? = some o → L i → ∀ e ∈ o.after, Region.binds .any e = true → L e.on
theorem masksF_inv {ops : Array Oper} {L : Nat → Prop} (hc : Closed ops L) : ∀ (rest : List Oper) (ms : List Nat), ops.toList.drop ms.length = rest →
    (∀ i j, Nat.testBit (ms.getD i 0) j = true → (∀ o, ops[i]? = some o → ∀ e ∈ o.after, Region.binds .any e = true → L e.on) → L j) →
    (∀ i j, Nat.testBit ((masksF rest ms).getD i 0) j = true → (∀ o, ops[i]? = some o → ∀ e ∈ o.after, Region.binds .any e = true → L e.on) → L j)
  | [], ms, _, h => h
  | o :: r, ms, hd, h => by
    have ho : ops[ms.length]? = some o := by
      have : (ops.toList.drop ms.length)[0]? = some o := by rw [hd]; rfl
      rw [List.getElem?_drop] at this
      simpa using this
    refine masksF_inv hc r (ms ++ [maskOf ms o]) (by rw [List.length_append, List.length_singleton, ← List.drop_drop, hd]; rfl) ?_
    intro i j hb hp
    by_cases hi : i < ms.length
    · have e1 : (ms ++ [maskOf ms o]).getD i 0 = ms.getD i 0 := by simp [List.getD_eq_getElem?_getD, List.getElem?_append_left hi]
      rw [e1] at hb
      exact h i j hb hp
    · by_cases hi2 : i = ms.length
      · subst hi2
        have e1 : (ms ++ [maskOf ms o]).getD ms.length 0 = maskOf ms o := by simp [List.getD_eq_getElem?_getD]
        rw [e1] at hb
        obtain ⟨e, he, hbd, h3 | h3⟩ := mask_bit hb
        · rw [← h3]; exact hp o ho e he hbd
        · exact h e.on j h3 fun o' ho' e' he' hb' => hc e.on o' ho' (hp o ho e he hbd) e' he' hb'
      · have e1 : (ms ++ [maskOf ms o]).getD i 0 = 0 := by
          rw [List.getD_eq_getElem?_getD, List.getElem?_eq_none (by simp; omega)]; rfl
        rw [e1] at hb; simp at hb
theorem waitsM_spec {ops : Array Oper} {L : Nat → Prop} (hc : Closed ops L) {i j : Nat} {o : Oper} (ho : ops[i]? = some o) (h : waitsM (masksF ops.toList []) i j = true) (hp : ∀ e ∈ o.after, Region.binds .any e = true → L e.on) : L j :=
  masksF_inv hc ops.toList [] rfl (fun i j hb => by simp at hb) i j h fun o' ho' => by rw [ho] at ho'; cases ho'; exact hp
/-- The operations at the end, one behind the other. -/
theorem tail_sound (hY : YOK P G.itr) (hΓ : ∀ c ∈ Γ, ConOK P c) {F : Fence} (hF : Opn F) {n : Nat} {ops : Array Oper} (htopo : ∀ i o, ops[i]? = some o → topo i o = true) {m : Nat} (htail : ∀ i o, m ≤ i → ops[i]? = some o → ∀ j, m ≤ j → j < i → waitsM (masksF ops.toList []) i j = true) :
    ∀ (rest : List Oper) (k : Nat), ops.toList.drop k = rest → m ≤ k → ∀ (fuel : Nat) (listed : Array Bool), listed.size = ops.size → rest.length ≤ fuel → (∀ j, j < k → listed.getD j false = true) → (∀ j, k ≤ j → j < ops.size → listed.getD j true = false) →
    ∀ {H : List HO} {loc : Nat → Loc} {ver : Nat → Nat} {w : World} {l : List (Nat × SV)} {a : Act} {K : List (Nat × SV) → List HO → Prop} {Q : Exit → Act → World → Prop},
    Inv G H loc ver w → TRel (envOf G H loc ver w) N l a → execOps P Γ N ops.toList rest l H K →
    (∀ l' H' loc' ver' a' w', K l' H' → Inv G H' loc' ver' w' → TRel (envOf G H' loc' ver' w') N l' a' → Ext (envOf G H loc ver w) (envOf G H' loc' ver' w') → Same (ops.toList.filterMap (·.dst)) a a' → a'.defers = a.defers → Q .normal a' w') →
    wpAnyIn F n P .any ops Q fuel listed a w := by
  intro rest
  induction rest with
  | nil =>
    intro k hk hmk fuel listed hls hfu hl1 hl2 H loc ver w l a K Q hI hT h hQ
    have hq : Q .normal a w := hQ l H loc ver a w h hI hT (Ext.refl _) (Same.refl _ _) rfl
    have hks : ops.size ≤ k := by simpa using List.drop_eq_nil_iff.1 hk
    have hr : Region.ready .any ops listed = [] := by
      apply List.eq_nil_iff_forall_not_mem.2
      intro j hj
      obtain ⟨h1, o, ho, _⟩ := mem_ready.1 hj
      have hjs := (Array.getElem?_eq_some_iff.1 ho).1
      rw [listed_or (by omega), hl1 j (by omega)] at h1
      cases h1
    cases fuel with
    | zero => exact ⟨hr, hq⟩
    | succ f => exact ⟨fun _ => hq, fun i hi => by rw [hr] at hi; cases hi⟩
  | cons o r ih =>
    intro k hk hmk fuel listed hls hfu hl1 hl2 H loc ver w l a K Q hI hT h hQ
    have hko : ops[k]? = some o := by
      have : (ops.toList.drop k)[0]? = some o := by rw [hk]; rfl
      rw [List.getElem?_drop] at this
      simpa using this
    have hks := (Array.getElem?_eq_some_iff.1 hko).1
    have hkr : ops.toList.drop (k + 1) = r := by rw [← List.drop_drop, hk]; rfl
    have hmem : o ∈ ops.toList := by
      obtain ⟨hlt, rfl⟩ := Array.getElem?_eq_some_iff.1 hko
      simp
    cases fuel with
    | zero => simp at hfu
    | succ f =>
      have hrk : k ∈ Region.ready .any ops listed := mem_ready.2 ⟨hl2 k (Nat.le_refl _) hks, o, hko, fun e he hb => hl1 _ (topo_spec (htopo k o hko) e he hb)⟩
      refine ⟨fun hr => (by rw [hr] at hrk; cases hrk), fun i hi => ?_⟩
      obtain ⟨h1, oi, hoi, h2⟩ := mem_ready.1 hi
      have his := (Array.getElem?_eq_some_iff.1 hoi).1
      have hik : i = k := by
        rcases Nat.lt_trichotomy i k with hlt | he | hgt
        · rw [listed_or (by omega), hl1 i hlt] at h1; cases h1
        · exact he
        · have hcl : Closed ops (fun j => listed.getD j false = true) := fun j oj hoj hj e he hb => by
            have hjs := (Array.getElem?_eq_some_iff.1 hoj).1
            have hjk : j < k := Classical.byContradiction fun hn => by
              have := hl2 j (by omega) hjs
              rw [listed_or (by omega), hj] at this; cases this
            exact hl1 _ (by have := topo_spec (htopo j oj hoj) e he hb; omega)
          have := waitsM_spec hcl hoi (htail i oi (by omega) hoi k hmk hgt) (fun e he hb => h2 e he hb)
          rw [← listed_or (by omega), hl2 k (Nat.le_refl _) hks] at this
          cases this
      subst hik
      simp only [execOps_cons] at h
      unfold wpOpIn
      simp only [hko]
      have hrest : ∀ {H' : List HO} {loc' : Nat → Loc} {ver' : Nat → Nat} {w' : World} {l' : List (Nat × SV)} {v : Value}, Inv G H' loc' ver' w' → TRel (envOf G H' loc' ver' w') N l' (a.put o.dst v) → Ext (envOf G H loc ver w) (envOf G H' loc' ver' w') →
          execOps P Γ N ops.toList r l' H' K → wpAnyIn F n P .any ops Q f (listed.setIfInBounds i true) (a.put o.dst v) w' := by
        intro H' loc' ver' w' l' v hI' hT' hx' h'
        refine ih (i + 1) hkr (by omega) f _ (by simp [hls]) (by simpa using hfu) (fun j hj => ?_) (fun j hj hjs => ?_) hI' hT' h' ?_
        · by_cases e : i = j
          · subst e; exact getD_set_eq h1
          · rw [getD_set_ne false e]; exact hl1 j (by omega)
        · rw [getD_set_ne true (by omega)]; exact hl2 j (by omega) hjs
        · intro l3 H3 loc3 ver3 a3 w3 h3 hI3 hT3 hx3 hs3 hd3
          refine hQ l3 H3 loc3 ver3 a3 w3 h3 hI3 hT3 (hx'.trans hx3) ((Same.put a o.dst v fun t ht => mem_dsts hmem ht).trans hs3) (hd3.trans ?_)
          cases o.dst <;> rfl
      obtain ⟨l', hT', ⟨hw, h⟩ | ⟨hw, h⟩⟩ := guardB_sound hT h
      · rw [if_pos hw]
        obtain ⟨hnd, hok⟩ := op1_sound hY hΓ hF hI hT' h
        refine hok.wpIn hF hnd ?_
        rintro v w' ⟨s, H', loc', ver', hk', hI', hr', hx'⟩
        obtain ⟨l'', hk'', hT''⟩ := (hT'.ext hx').any o.dst hk' hr'
        exact hrest hI' hT'' hx' hk''
      · rw [if_neg (by rw [hw]; simp)]
        refine ⟨fun f _ => hF.fn f, ?_⟩
        obtain ⟨l'', hk'', hT''⟩ := hT'.any o.dst h (.tup [] [] .nil)
        exact hrest hI hT'' (Ext.refl _) hk''

theorem isFree_spec {ops : Array Oper} {i : Nat} {o : Oper} (ho : ops[i]? = some o) (h : isFree ops.toList i = true) : ∃ x t, Free ops i o x t := by
  unfold isFree at h
  simp only [Array.getElem?_toList, ho] at h
  split at h
  · rename_i x t h1 h2 h3
    simp only [Bool.and_eq_true] at h
    obtain ⟨h4, h5⟩ := h
    have hall : ∀ (j : Nat) (o' : Oper), ops[j]? = some o' → (j = i ∨ o'.dst ≠ some t) ∧ isSrc x o' = false ∧ (j = i ∨ readsT ops.toList o' t = false ∨ waits o' i = true) ∧ noSel o' = true := by
      intro j o' ho'
      have hj := (Array.getElem?_eq_some_iff.1 ho').1
      have := List.all_eq_true.1 h5 j (List.mem_range.2 (by simpa using hj))
      simp only [Array.getElem?_toList, ho', Bool.and_eq_true, Bool.or_eq_true, beq_iff, Bool.not_eq_true'] at this
      obtain ⟨q1, q2, q3, q4⟩ := this
      refine ⟨q1.imp id fun h e => ?_, q2, q3, q4⟩
      have := dstIs_iff.2 e
      rw [this] at h; cases h
    refine ⟨x, t, ho, h1, h2, h3, fun e he => ?_, fun j o' hj ho' => ((hall j o' ho').1.resolve_left hj), fun j o' ho' u hu => ?_, fun j o' hj ho' hl => ?_, fun j o' ho' => ?_⟩
    · have := List.all_eq_true.1 h4 e (by simpa using he)
      simpa using this
    · have := (hall j o' ho').2.1
      subst hu
      simp only [isSrc] at this
      intro e
      rw [dstIs_iff.2 e] at this; cases this
    · rcases (hall j o' ho').2.2.1.resolve_left hj with h | h
      · exfalso
        unfold readsT at h
        simp only [Bool.or_eq_false_iff] at h
        obtain ⟨r1, r2⟩ := h
        rcases hl with hl | ⟨q, b, hg, hd⟩
        · have := List.any_eq_false.1 r1 _ hl
          simp at this
        · rw [hg] at r2
          simp only [dstOf] at r2
          have e : (ops.toList[q]?).bind (·.dst) = some t := by simpa using hd
          rw [e] at r2
          simp at r2
      · exact h
    · have := (hall j o' ho').2.2.2
      unfold noSel at this
      constructor
      · intro cs b e; rw [e] at this; cases this
      · intro c e; rw [e] at this; cases this
  · cases h
theorem draw_sound (hY : YOK P G.itr) (hΓ : ∀ c ∈ Γ, ConOK P c) {F : Fence} (hF : Opn F) {n : Nat} {ops : Array Oper} {m : Nat} (hok : quietOk ops.toList m = true)
    {H : List HO} {loc : Nat → Loc} {ver : Nat → Nat} {w : World} {l : List (Nat × SV)} {a : Act} {K : List (Nat × SV) → List HO → Prop} {Q : Exit → Act → World → Prop} (hQn : ∀ e a w, Q e a w → e = .normal) (hI : Inv G H loc ver w) (hT : TRel (envOf G H loc ver w) N l a)
    (h : execQ P Γ N ops.toList (ops.toList.take m) l H fun l' => execOps P Γ N ops.toList (ops.toList.drop m) l' H K)
    (hQ : ∀ l' H' loc' ver' a' w', K l' H' → Inv G H' loc' ver' w' → TRel (envOf G H' loc' ver' w') N l' a' → Ext (envOf G H loc ver w) (envOf G H' loc' ver' w') → Same (ops.toList.filterMap (·.dst)) a a' → a'.defers = a.defers → Q .normal a' w') :
    wpAnyIn F n P .any ops Q ops.size (Array.replicate ops.size false) a w := by
  simp only [quietOk, Bool.and_eq_true] at hok
  obtain ⟨hq0, hq1, hq2, hq3⟩ := hok
  have hms : m ≤ ops.size := by simpa using hq0
  have hq : ∀ i o, i < m → ops[i]? = some o → opOk ops.toList m i o = true := fun i o hi ho => allOps_spec hq1 hi ho
  have htopo : ∀ i o, ops[i]? = some o → topo i o = true := fun i o ho => allOps_spec hq2 (by simpa using (Array.getElem?_eq_some_iff.1 ho).1) ho
  have htail0 : ∀ i o, m ≤ i → ops[i]? = some o → ∀ j, j < i → waitsM (masksF ops.toList []) i j = true ∨ (j < m ∧ isFree ops.toList j = true) := by
    intro i o hi ho j hj
    rw [masksK_eq] at hq3
    have := allOps_spec hq3 (by simpa using (Array.getElem?_eq_some_iff.1 ho).1) ho
    simp only [Bool.or_eq_true] at this
    rcases this with h1 | h1
    · have : i < m := by simpa using h1
      omega
    · have := List.all_eq_true.1 h1 j (List.mem_range.2 hj)
      simpa using this
  have htail : ∀ i o, m ≤ i → ops[i]? = some o → ∀ j, m ≤ j → j < i → waitsM (masksF ops.toList []) i j = true := by
    intro i o hi ho j hm hj
    rcases htail0 i o hi ho j hj with h | h
    · exact h
    · omega
  obtain ⟨wr, sv, wn, lf, hlf, hRef, hwr, hQP⟩ := virt hY hΓ hq (ops.toList.take m) 0 (by simp) (wr := look l) hI hT (fun _ _ _ h => h) h
  -- some of the first operations have come up
  suffices key : ∀ (fuel : Nat) (listed : Array Bool) (b : Act) (w1 : World) (loc1 : Nat → Loc) (ver1 : Nat → Nat), listed.size = ops.size → unl listed m + (ops.size - m) ≤ fuel → (∀ j, m ≤ j → j < ops.size → listed.getD j true = false) → Closed ops (fun j => listed.getD j false = true) →
      Inv G H loc1 ver1 w1 → Ext (envOf G H loc ver w) (envOf G H loc1 ver1 w1) → b.tmps.size = N → b.defers = a.defers → Same (ops.toList.filterMap (·.dst)) a b →
      (∀ t j o, j < m → ops[j]? = some o → o.dst = some t → listed.getD j false = true → Rel (envOf G H loc1 ver1 w1) (wr t) (b.tmps.getD t undef)) →
      (∀ t, (∀ j o, j < m → ops[j]? = some o → o.dst = some t → listed.getD j false = false) → b.tmps.getD t undef = a.tmps.getD t undef) →
      wpAnyIn F n P .any ops Q fuel listed b w1 by
    refine key _ _ a w loc ver (by simp) ?_ (fun j _ hj => by simp [hj]) (fun j o ho hj => by have := (Array.getElem?_eq_some_iff.1 ho).1; simp [this] at hj) hI (Ext.refl _) hT.size rfl (Same.refl _ _) (fun t j o _ ho _ hl => ?_) (fun _ _ => rfl)
    · have : ∀ k, unl (Array.replicate ops.size false) k ≤ k := by
        intro k
        induction k with
        | zero => exact Nat.le_refl _
        | succ k ih => simp only [unl]; split <;> omega
      have h2 : ∀ k, unl (Array.replicate ops.size false) (ops.size + k) ≤ ops.size := by
        intro k
        induction k with
        | zero => exact this _
        | succ k ih =>
          rw [Nat.add_succ]
          simp only [unl]
          have : (Array.replicate ops.size false).getD (ops.size + k) true = true := by simp
          rw [this]; simpa using ih
      rcases Nat.le_total m ops.size with h3 | h3
      · have := this m; omega
      · have := h2 (m - ops.size)
        rw [show ops.size + (m - ops.size) = m by omega] at this
        omega
    · have hj := (Array.getElem?_eq_some_iff.1 ho).1
      simp [hj] at hl
  have done : ∀ (fuel : Nat) (listed : Array Bool) (b : Act) (w1 : World) (loc1 : Nat → Loc) (ver1 : Nat → Nat), listed.size = ops.size → ops.size - m ≤ fuel → (∀ j, m ≤ j → j < ops.size → listed.getD j true = false) → (∀ j, j < m → listed.getD j false = true) →
      Inv G H loc1 ver1 w1 → Ext (envOf G H loc ver w) (envOf G H loc1 ver1 w1) → b.tmps.size = N → b.defers = a.defers → Same (ops.toList.filterMap (·.dst)) a b →
      (∀ t j o, j < m → ops[j]? = some o → o.dst = some t → listed.getD j false = true → Rel (envOf G H loc1 ver1 w1) (wr t) (b.tmps.getD t undef)) →
      (∀ t, (∀ j o, j < m → ops[j]? = some o → o.dst = some t → listed.getD j false = false) → b.tmps.getD t undef = a.tmps.getD t undef) →
      wpAnyIn F n P .any ops Q fuel listed b w1 := by
    intro fuel listed b w1 loc1 ver1 hls hfu hun hall hI1 hx1 hs1 hd1 hsame hex hno
    have hTf : TRel (envOf G H loc1 ver1 w1) N lf b := ⟨hs1, fun t => hRef _ t _ (by
      by_cases hw : ∃ j o, j < m ∧ ops[j]? = some o ∧ o.dst = some t
      · obtain ⟨j, o, h1, h2, h3⟩ := hw
        exact hex t j o h1 h2 h3 (hall j h1)
      · rw [hwr t fun j o _ h1 h2 h3 => hw ⟨j, o, h1, h2, h3⟩, hno t fun j o h1 h2 h3 => (hw ⟨j, o, h1, h2, h3⟩).elim]
        exact (hT.rel t).ext hx1)⟩
    exact tail_sound hY hΓ hF htopo htail _ m rfl (Nat.le_refl _) fuel listed hls (by simpa using hfu) hall hun hI1 hTf hlf
      (fun l' H' loc' ver' a' w' h1 h2 h3 h4 h5 h6 => hQ l' H' loc' ver' a' w' h1 h2 h3 (hx1.trans h4) (hsame.trans h5) (h6.trans hd1))
  intro fuel
  induction fuel with
  | zero =>
    intro listed b w1 loc1 ver1 hls hfu hun hcl hI1 hx1 hs1 hd1 hsame hex hno
    refine done 0 listed b w1 loc1 ver1 hls (by omega) hun (fun j hj => ?_) hI1 hx1 hs1 hd1 hsame hex hno
    have : ∀ k, unl listed k = 0 → ∀ j, j < k → listed.getD j true = true := by
      intro k
      induction k with
      | zero => intro _ j hj; omega
      | succ k ih =>
        intro hk j hj
        simp only [unl] at hk
        by_cases e : j = k
        · subst e
          cases hc : listed.getD j true with
          | true => rfl
          | false => rw [hc] at hk; simp at hk
        · exact ih (by omega) j (by omega)
    rw [← listed_or (by omega)]
    exact this m (by omega) j hj
  | succ f ih =>
    intro listed b w1 loc1 ver1 hls hfu hun hcl hI1 hx1 hs1 hd1 hsame hex hno
    by_cases hall : ∀ j, j < m → listed.getD j false = true
    · exact done (f + 1) listed b w1 loc1 ver1 hls (by omega) hun hall hI1 hx1 hs1 hd1 hsame hex hno
    · -- what is known of an operation among the first
      have one : ∀ (i : Nat) (o : Oper), i < m → ops[i]? = some o → listed.getD i true = false → (∀ e ∈ o.after, Region.binds .any e = true → listed.getD e.on false = true) →
          (∀ t, lk ops o t → Rel (envOf G H loc1 ver1 w1) (wr t) (b.tmps.getD t undef)) ∧
          (∀ {loc' : Nat → Loc} {ver' : Nat → Nat} {w' : World} {v : Value}, Inv G H loc' ver' w' → Ext (envOf G H loc1 ver1 w1) (envOf G H loc' ver' w') → Rel (envOf G H loc' ver' w') (sv i) v →
            wpAnyIn F n P .any ops Q f (listed.setIfInBounds i true) (b.put o.dst v) w') := by
        intro i o him ho h1 h2
        obtain ⟨hwi, hqp⟩ := hQP i o (Nat.zero_le _) him ho
        have hoki := hq i o him ho
        have hread : ∀ t, lk ops o t → Rel (envOf G H loc1 ver1 w1) (wr t) (b.tmps.getD t undef) := by
          intro t ht
          by_cases hw : ∃ j o, j < m ∧ ops[j]? = some o ∧ o.dst = some t
          · obtain ⟨j, o', h3, h4, h5⟩ := hw
            obtain ⟨e, he, hb, hon⟩ := waits_spec (readOk_spec (opOk_reads hoki ht) h3 h4 h5).1
            exact hex t j o' h3 h4 h5 (by rw [← hon]; exact h2 e he hb)
          · rw [hwr t fun j o _ h1 h2 h3 => hw ⟨j, o, h1, h2, h3⟩, hno t fun j o h1 h2 h3 => (hw ⟨j, o, h1, h2, h3⟩).elim]
            exact (hT.rel t).ext hx1
        have hmem : o ∈ ops.toList := by
          obtain ⟨hlt, rfl⟩ := Array.getElem?_eq_some_iff.1 ho
          simp
        have hput : ∀ (v : Value) (t : Nat), (b.put o.dst v).tmps.getD t undef = if o.dst = some t then v else b.tmps.getD t undef := by
          intro v t
          cases hd : o.dst with
          | none => simp [Act.put]
          | some u =>
            rw [getD_put b u t v (by rw [hs1]; exact hqp.dst u hd)]
            by_cases e : t = u
            · subst e; simp
            · rw [if_neg e, if_neg (fun h => e (by cases h; rfl))]
        have next : ∀ {loc' : Nat → Loc} {ver' : Nat → Nat} {w' : World} {v : Value}, Inv G H loc' ver' w' → Ext (envOf G H loc1 ver1 w1) (envOf G H loc' ver' w') → Rel (envOf G H loc' ver' w') (sv i) v →
            wpAnyIn F n P .any ops Q f (listed.setIfInBounds i true) (b.put o.dst v) w' := by
          intro loc' ver' w' v hI' hx' hr'
          have hu := unl_set h1 m
          rw [if_pos him] at hu
          refine ih (listed.setIfInBounds i true) (b.put o.dst v) w' loc' ver' (by simp [hls]) (by omega) (fun j hj hjs => by rw [getD_set_ne true (by omega)]; exact hun j hj hjs) (fun j oj hoj hj e he hb => by
              show (listed.setIfInBounds i true).getD e.on false = true
              have hj : (listed.setIfInBounds i true).getD j false = true := hj
              by_cases hie : e.on = i
              · rw [hie]; exact getD_set_eq h1
              · rw [getD_set_ne false (Ne.symm hie)]
                by_cases hji : j = i
                · subst hji; rw [ho] at hoj; cases hoj; exact h2 e he hb
                · rw [getD_set_ne false (Ne.symm hji)] at hj; exact hcl j oj hoj hj e he hb) hI' (hx1.trans hx') ?_ ?_
            (hsame.trans (Same.put b o.dst v fun t ht => mem_dsts hmem ht)) (fun t j o' hj ho' hd hl => ?_) (fun t hn => ?_)
          · cases o.dst <;> simp [Act.put, hs1]
          · refine Eq.trans ?_ hd1
            cases o.dst <;> rfl
          · rw [hput v t]
            by_cases hdt : o.dst = some t
            · rw [if_pos hdt, hwi t hdt]; exact hr'
            · rw [if_neg hdt]
              have hji : j ≠ i := fun e => by subst e; rw [ho] at ho'; cases ho'; exact hdt hd
              rw [getD_set_ne false (Ne.symm hji)] at hl
              exact (hex t j o' hj ho' hd hl).ext hx'
          · have hdt : o.dst ≠ some t := fun hdt => by
              have := hn i o him ho hdt
              rw [getD_set_eq h1] at this; cases this
            rw [hput v t, if_neg hdt]
            refine hno t fun j o' hj ho' hd => ?_
            have hji : j ≠ i := fun e => by subst e; rw [ho] at ho'; cases ho'; exact hdt hd
            have := hn j o' hj ho' hd
            rwa [getD_set_ne false (Ne.symm hji)] at this
        exact ⟨hread, next⟩
      by_cases hfree : ∃ i, i < m ∧ isFree ops.toList i = true ∧ listed.getD i false = false
      · obtain ⟨i, him, hfi, hli⟩ := hfree
        obtain ⟨o, ho⟩ : ∃ o, ops[i]? = some o := ⟨ops[i]'(by omega), by simp [show i < ops.size by omega]⟩
        obtain ⟨x, t, hfr⟩ := isFree_spec ho hfi
        obtain ⟨hwi, hqp⟩ := hQP i o (Nat.zero_le _) him ho
        have h1 : listed.getD i true = false := by rw [listed_or (by omega)]; exact hli
        obtain ⟨hread, next⟩ := one i o him ho h1 (fun e he hb => by rw [hfr.after e he] at hb; cases hb)
        have hwant := hqp.want (envOf G H loc1 ver1 w1) b hread
        have hwn : wn i = true := by rw [← hwant]; simp [Region.wanted, hfr.guard]
        rw [hwn] at hqp
        obtain ⟨lr, X, hX, hlr⟩ := hqp.run rfl
        refine hoist (fun f => hF.fn f) hQn hfr f listed b w1 hls h1 ?_
        have hnext := next (v := b.eval x) hI1 (Ext.refl _) (by
          unfold op1 at hX
          simp only [hfr.op, hnf_eq] at hX
          rw [← hX.val]
          exact ev_rel (N := N) ⟨hs1, fun t => hlr t _ _ (hread t)⟩ x)
        rwa [hfr.dst] at hnext
      have hnofree : ∀ i, i < m → isFree ops.toList i = true → listed.getD i false = true := fun i h1 h2 => by
        cases hc : listed.getD i false with
        | true => rfl
        | false => exact absurd ⟨i, h1, h2, hc⟩ hfree
      obtain ⟨i0, hi0, hmin⟩ : ∃ i0, (i0 < m ∧ listed.getD i0 false = false) ∧ ∀ k, (k < m ∧ listed.getD k false = false) → i0 ≤ k := by
        have : ∃ j, j < m ∧ listed.getD j false = false := by
          apply Classical.byContradiction
          intro hn
          exact hall fun j hj => by
            cases hc : listed.getD j false with
            | true => rfl
            | false => exact (hn ⟨j, hj, hc⟩).elim
        obtain ⟨j, hj⟩ := this
        exact least_of j hj
      have hi0s : i0 < ops.size := by omega
      have hr0 : i0 ∈ Region.ready .any ops listed := by
        refine mem_ready.2 ⟨by rw [listed_or (by omega)]; exact hi0.2, ops[i0], by simp [hi0s], fun e he hb => ?_⟩
        have hlt := topo_spec (htopo i0 ops[i0] (by simp [hi0s])) e he hb
        cases hc : listed.getD e.on false with
        | true => rfl
        | false => have := hmin e.on ⟨by omega, hc⟩; omega
      refine ⟨fun hr => (by rw [hr] at hr0; cases hr0), fun i hi => ?_⟩
      obtain ⟨h1, o, ho, h2⟩ := mem_ready.1 hi
      have his := (Array.getElem?_eq_some_iff.1 ho).1
      have him : i < m := by
        apply Classical.byContradiction
        intro hge
        have := waitsM_spec hcl ho ((htail0 i o (by omega) ho i0 (by omega)).resolve_right fun hfr => by
          have := hnofree i0 hfr.1 hfr.2
          rw [hi0.2] at this; cases this) h2
        rw [hi0.2] at this
        cases this
      obtain ⟨hwi, hqp⟩ := hQP i o (Nat.zero_le _) him ho
      obtain ⟨hread, next⟩ := one i o him ho h1 h2
      have hwant := hqp.want (envOf G H loc1 ver1 w1) b hread
      unfold wpOpIn
      simp only [ho]
      cases hwn : wn i with
      | true =>
        rw [hwn] at hwant hqp
        rw [if_pos hwant]
        obtain ⟨lr, X, hX, hlr⟩ := hqp.run rfl
        obtain ⟨hnd, hopk⟩ := op1_sound hY hΓ hF hI1 (N := N) ⟨hs1, fun t => hlr t _ _ (hread t)⟩ hX
        refine hopk.wpIn hF hnd ?_
        rintro v w' ⟨s, H', loc', ver', ⟨rfl, rfl, _⟩, hI', hr', hx'⟩
        exact next hI' hx' hr'
      | false =>
        rw [hwn] at hwant hqp
        rw [if_neg (by rw [hwant]; simp)]
        refine ⟨fun f _ => hF.fn f, next hI1 (Ext.refl _) ?_⟩
        rw [hqp.skip rfl]; exact (.tup [] [] .nil)
end
end Go.Eng
