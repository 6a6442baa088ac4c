/-
  A region whose order is drawn, in which operations turn the state: each turns its own part, whenever it comes up.
-/
import Derived.Test.YtpmbhgmifiianaaEngU
set_option linter.unusedSimpArgs false
set_option linter.unusedVariables false
namespace Go.Eng
open Go.RowKit

section
variable {P : Program} {G : Ctx} {N : Nat} {Γ : List Con}

/-- Operations that have come up, and one more. -/
def addS (S : Nat → Bool) (i : Nat) : Nat → Bool := fun j => S j || Nat.beq j i
/-- What may have come up when an operation does: what it waits for, not itself, and of each what that waits for. -/
structure Adm (ops : Array Oper) (m : Nat) (S : Nat → Bool) (i : Nat) (o : Oper) : Prop where
  not : S i = false
  lt : ∀ j, S j = true → j < m
  own : ∀ e ∈ o.after, Region.binds .any e = true → S e.on = true
  closed : Closed ops (fun j => S j = true)
/-- What is known of one operation, whenever it comes up: 'hS' the objects as they are behind those that have come up. -/
structure QG (P : Program) (G : Ctx) (ops : Array Oper) (m : Nat) (hS : (Nat → Bool) → List HO) (N : Nat) (wr : Nat → SV) (sv : SV) (wn : Bool) (i : Nat) (o : Oper) : Prop where
  want : ∀ (E : Env) (a : Act), (∀ t, lk ops o t → Rel E (wr t) (a.tmps.getD t undef)) → Region.wanted o (yielded ops a.tmps) = wn
  run : wn = true → ∀ {F : Fence}, Opn F → ∀ S, Adm ops m S i o → ∀ {loc : Nat → Loc} {ver : Nat → Nat} {w : World} {a : Act}, Inv G (hS S) loc ver w → a.tmps.size = N →
    (∀ t, lk ops o t → Rel (envOf G (hS S) loc ver w) (wr t) (a.tmps.getD t undef)) →
    (∀ c, o.op ≠ .defer c) ∧ OpOK P F o a w fun v w' => ∃ loc' ver', Inv G (hS (addS S i)) loc' ver' w' ∧ Rel (envOf G (hS (addS S i)) loc' ver' w') sv v ∧ Ext (envOf G (hS S) loc ver w) (envOf G (hS (addS S i)) loc' ver' w')
  skip : wn = false → sv = .tup [] ∧ ∀ S, hS (addS S i) = hS S
  dst : ∀ t, o.dst = some t → t < N
  move : ∀ x, o.op = .move x → o.guard = none → (∀ (E : Env) (a : Act), a.tmps.size = N → (∀ t, lk ops o t → Rel E (wr t) (a.tmps.getD t undef)) → Rel E sv (a.eval x)) ∧ ∀ S, hS (addS S i) = hS S

/-- Those of the first m that are listed. -/
def upS (m : Nat) (listed : Array Bool) : Nat → Bool := fun j => decide (j < m) && listed.getD j false
theorem upS_set {m : Nat} {listed : Array Bool} {i : Nat} (hi : i < m) (h : listed.getD i true = false) : upS m (listed.setIfInBounds i true) = addS (upS m listed) i := by
  funext j
  unfold upS addS
  by_cases e : j = i
  · subst e
    rw [getD_set_eq h, beq_same]
    simp [hi]
  · rw [getD_set_ne false (Ne.symm e), beq_ne e]
    simp
theorem drawG_sound (hY : YOK P G.itr) (hΓ : ∀ c ∈ Γ, ConOK P c) {F : Fence} (hF : Opn F) {n : Nat} {ops : Array Oper} {m : Nat} (hms : m ≤ ops.size)
    (hq : ∀ i o, i < m → ops[i]? = some o → opOk ops.toList m i o = true) (htopo : ∀ i o, ops[i]? = some o → topo i o = true)
    (htail0 : ∀ i o, m ≤ i → ops[i]? = some o → ∀ j, j < i → waitsM (masksF ops.toList []) i j = true ∨ (j < m ∧ isFree ops.toList j = true))
    {hS : (Nat → Bool) → List HO} {wr sv : Nat → SV} {wn : Nat → Bool} {lf l : List (Nat × SV)}
    (hRef : ∀ (E : Env) (t : Nat) (v : Value), Rel E (wr t) v → Rel E (look lf t) v) (hwr : ∀ t, (∀ j o, j < m → ops[j]? = some o → o.dst ≠ some t) → wr t = look l t)
    (hQP : ∀ j o, j < m → ops[j]? = some o → (∀ t, o.dst = some t → wr t = sv j) ∧ QG P G ops m hS N wr (sv j) (wn j) j o)
    {loc : Nat → Loc} {ver : Nat → Nat} {w : World} {a : Act} {K : List (Nat × SV) → List HO → Prop} {Q : Exit → Act → World → Prop} (hQn : ∀ e a w, Q e a w → e = .normal)
    (hI : Inv G (hS fun _ => false) loc ver w) (hT : TRel (envOf G (hS fun _ => false) loc ver w) N l a)
    (hlf : execOps P Γ N ops.toList (ops.toList.drop m) lf (hS fun j => decide (j < m)) K)
    (hQ : ∀ l' H' loc' ver' a' w', K l' H' → Inv G H' loc' ver' w' → TRel (envOf G H' loc' ver' w') N l' a' → Ext (envOf G (hS fun _ => false) loc ver w) (envOf G H' loc' ver' w') → Same (ops.toList.filterMap (·.dst)) a a' → a'.defers = a.defers → Q .normal a' w') :
    wpAnyIn F n P .any ops Q ops.size (Array.replicate ops.size false) a w := by
  have htail : ∀ i o, m ≤ i → ops[i]? = some o → ∀ j, m ≤ j → j < i → waitsM (masksF ops.toList []) i j = true := by
    intro i o hi ho j hm hj
    rcases htail0 i o hi ho j hj with h | h
    · exact h
    · omega
  -- some of the first operations have come up
  suffices key : ∀ (fuel : Nat) (listed : Array Bool) (b : Act) (w1 : World) (loc1 : Nat → Loc) (ver1 : Nat → Nat), listed.size = ops.size → unl listed m + (ops.size - m) ≤ fuel → (∀ j, m ≤ j → j < ops.size → listed.getD j true = false) → Closed ops (fun j => listed.getD j false = true) →
      Inv G (hS (upS m listed)) loc1 ver1 w1 → Ext (envOf G (hS fun _ => false) loc ver w) (envOf G (hS (upS m listed)) loc1 ver1 w1) → b.tmps.size = N → b.defers = a.defers → Same (ops.toList.filterMap (·.dst)) a b →
      (∀ t j o, j < m → ops[j]? = some o → o.dst = some t → listed.getD j false = true → Rel (envOf G (hS (upS m listed)) loc1 ver1 w1) (wr t) (b.tmps.getD t undef)) →
      (∀ t, (∀ j o, j < m → ops[j]? = some o → o.dst = some t → listed.getD j false = false) → b.tmps.getD t undef = a.tmps.getD t undef) →
      wpAnyIn F n P .any ops Q fuel listed b w1 by
    have hup0 : upS m (Array.replicate ops.size false) = fun _ => false := by
      funext j
      unfold upS
      have : (Array.replicate ops.size false).getD j false = false := by
        rw [Array.getD_eq_getD_getElem?, Array.getElem?_replicate]; split <;> rfl
      rw [this, Bool.and_false]
    refine key _ _ a w loc ver (by simp) ?_ (fun j _ hj => by simp [hj]) (fun j o ho hj => by have := (Array.getElem?_eq_some_iff.1 ho).1; simp [this] at hj) (by rw [hup0]; exact hI) (by rw [hup0]; exact Ext.refl _) hT.size rfl (Same.refl _ _) (fun t j o _ ho _ hl => ?_) (fun _ _ => rfl)
    · have : ∀ k, unl (Array.replicate ops.size false) k ≤ k := by
        intro k
        induction k with
        | zero => exact Nat.le_refl _
        | succ k ih => simp only [unl]; split <;> omega
      have := this m
      omega
    · have hj := (Array.getElem?_eq_some_iff.1 ho).1
      simp [hj] at hl
  have done : ∀ (fuel : Nat) (listed : Array Bool) (b : Act) (w1 : World) (loc1 : Nat → Loc) (ver1 : Nat → Nat), listed.size = ops.size → ops.size - m ≤ fuel → (∀ j, m ≤ j → j < ops.size → listed.getD j true = false) → (∀ j, j < m → listed.getD j false = true) →
      Inv G (hS (upS m listed)) loc1 ver1 w1 → Ext (envOf G (hS fun _ => false) loc ver w) (envOf G (hS (upS m listed)) loc1 ver1 w1) → b.tmps.size = N → b.defers = a.defers → Same (ops.toList.filterMap (·.dst)) a b →
      (∀ t j o, j < m → ops[j]? = some o → o.dst = some t → listed.getD j false = true → Rel (envOf G (hS (upS m listed)) loc1 ver1 w1) (wr t) (b.tmps.getD t undef)) →
      (∀ t, (∀ j o, j < m → ops[j]? = some o → o.dst = some t → listed.getD j false = false) → b.tmps.getD t undef = a.tmps.getD t undef) →
      wpAnyIn F n P .any ops Q fuel listed b w1 := by
    intro fuel listed b w1 loc1 ver1 hls hfu hun hall hI1 hx1 hs1 hd1 hsame hex hno
    have hupf : upS m listed = fun j => decide (j < m) := by
      funext j
      unfold upS
      by_cases hj : j < m
      · simp [hj, hall j hj]
      · simp [hj]
    rw [hupf] at hI1 hx1 hex
    have hTf : TRel (envOf G (hS fun j => decide (j < m)) loc1 ver1 w1) N lf b := ⟨hs1, fun t => hRef _ t _ (by
      by_cases hw : ∃ j o, j < m ∧ ops[j]? = some o ∧ o.dst = some t
      · obtain ⟨j, o, h1, h2, h3⟩ := hw
        exact hex t j o h1 h2 h3 (hall j h1)
      · rw [hwr t fun j o h1 h2 h3 => hw ⟨j, o, h1, h2, h3⟩, hno t fun j o h1 h2 h3 => (hw ⟨j, o, h1, h2, h3⟩).elim]
        exact (hT.rel t).ext hx1)⟩
    exact tail_sound hY hΓ hF htopo htail _ m rfl (Nat.le_refl _) fuel listed hls (by simpa using hfu) hall hun hI1 hTf hlf
      (fun l' H' loc' ver' a' w' h1 h2 h3 h4 h5 h6 => hQ l' H' loc' ver' a' w' h1 h2 h3 (hx1.trans h4) (hsame.trans h5) (h6.trans hd1))
  intro fuel
  induction fuel with
  | zero =>
    intro listed b w1 loc1 ver1 hls hfu hun hcl hI1 hx1 hs1 hd1 hsame hex hno
    refine done 0 listed b w1 loc1 ver1 hls (by omega) hun (fun j hj => ?_) hI1 hx1 hs1 hd1 hsame hex hno
    have : ∀ k, unl listed k = 0 → ∀ j, j < k → listed.getD j true = true := by
      intro k
      induction k with
      | zero => intro _ j hj; omega
      | succ k ih =>
        intro hk j hj
        simp only [unl] at hk
        by_cases e : j = k
        · subst e
          cases hc : listed.getD j true with
          | true => rfl
          | false => rw [hc] at hk; simp at hk
        · exact ih (by omega) j (by omega)
    rw [← listed_or (by omega)]
    exact this m (by omega) j hj
  | succ f ih =>
    intro listed b w1 loc1 ver1 hls hfu hun hcl hI1 hx1 hs1 hd1 hsame hex hno
    by_cases hall : ∀ j, j < m → listed.getD j false = true
    · exact done (f + 1) listed b w1 loc1 ver1 hls (by omega) hun hall hI1 hx1 hs1 hd1 hsame hex hno
    · have adm : ∀ (i : Nat) (o : Oper), i < m → ops[i]? = some o → listed.getD i true = false → (∀ e ∈ o.after, Region.binds .any e = true → listed.getD e.on false = true) → Adm ops m (upS m listed) i o := by
        intro i o him ho h1 h2
        have hlo : ∀ j, listed.getD j false = true → upS m listed j = true := by
          intro j hj
          have hjs : j < ops.size := by
            rw [← hls]
            apply Classical.byContradiction
            intro hn
            rw [Array.getD_eq_getD_getElem?, Array.getElem?_eq_none (by omega)] at hj
            cases hj
          have : j < m := Classical.byContradiction fun hn => by
            have := hun j (by omega) hjs
            rw [listed_or (by omega), hj] at this; cases this
          simp [upS, this, hj]
        refine ⟨?_, fun j hj => ?_, fun e he hb => hlo _ (h2 e he hb), fun j oj hoj hj e he hb => hlo _ (hcl j oj hoj ?_ e he hb)⟩
        · rw [listed_or (by omega)] at h1
          simp [upS, h1]
        · simp only [upS, Bool.and_eq_true, decide_eq_true_eq] at hj; exact hj.1
        · simp only [upS, Bool.and_eq_true] at hj; exact hj.2
      -- what is known of an operation among the first
      have one : ∀ (i : Nat) (o : Oper), i < m → ops[i]? = some o → listed.getD i true = false → (∀ e ∈ o.after, Region.binds .any e = true → listed.getD e.on false = true) →
          (∀ t, lk ops o t → Rel (envOf G (hS (upS m listed)) loc1 ver1 w1) (wr t) (b.tmps.getD t undef)) ∧
          (∀ {loc' : Nat → Loc} {ver' : Nat → Nat} {w' : World} {v : Value}, Inv G (hS (addS (upS m listed) i)) loc' ver' w' → Ext (envOf G (hS (upS m listed)) loc1 ver1 w1) (envOf G (hS (addS (upS m listed) i)) loc' ver' w') → Rel (envOf G (hS (addS (upS m listed) i)) loc' ver' w') (sv i) v →
            wpAnyIn F n P .any ops Q f (listed.setIfInBounds i true) (b.put o.dst v) w') := by
        intro i o him ho h1 h2
        obtain ⟨hwi, hqp⟩ := hQP i o him ho
        have hoki := hq i o him ho
        have hread : ∀ t, lk ops o t → Rel (envOf G (hS (upS m listed)) loc1 ver1 w1) (wr t) (b.tmps.getD t undef) := by
          intro t ht
          by_cases hw : ∃ j o, j < m ∧ ops[j]? = some o ∧ o.dst = some t
          · obtain ⟨j, o', h3, h4, h5⟩ := hw
            obtain ⟨e, he, hb, hon⟩ := waits_spec (readOk_spec (opOk_reads hoki ht) h3 h4 h5).1
            exact hex t j o' h3 h4 h5 (by rw [← hon]; exact h2 e he hb)
          · rw [hwr t fun j o h1 h2 h3 => hw ⟨j, o, h1, h2, h3⟩, hno t fun j o h1 h2 h3 => (hw ⟨j, o, h1, h2, h3⟩).elim]
            exact (hT.rel t).ext hx1
        have hmem : o ∈ ops.toList := by
          obtain ⟨hlt, rfl⟩ := Array.getElem?_eq_some_iff.1 ho
          simp
        have hput : ∀ (v : Value) (t : Nat), (b.put o.dst v).tmps.getD t undef = if o.dst = some t then v else b.tmps.getD t undef := by
          intro v t
          cases hd : o.dst with
          | none => simp [Act.put]
          | some u =>
            rw [getD_put b u t v (by rw [hs1]; exact hqp.dst u hd)]
            by_cases e : t = u
            · subst e; simp
            · rw [if_neg e, if_neg (fun h => e (by cases h; rfl))]
        have next : ∀ {loc' : Nat → Loc} {ver' : Nat → Nat} {w' : World} {v : Value}, Inv G (hS (addS (upS m listed) i)) loc' ver' w' → Ext (envOf G (hS (upS m listed)) loc1 ver1 w1) (envOf G (hS (addS (upS m listed) i)) loc' ver' w') → Rel (envOf G (hS (addS (upS m listed) i)) loc' ver' w') (sv i) v →
            wpAnyIn F n P .any ops Q f (listed.setIfInBounds i true) (b.put o.dst v) w' := by
          intro loc' ver' w' v hI' hx' hr'
          have hu := unl_set h1 m
          rw [if_pos him] at hu
          have hup := upS_set him h1
          rw [← hup] at hI' hx' hr'
          refine ih (listed.setIfInBounds i true) (b.put o.dst v) w' loc' ver' (by simp [hls]) (by omega) (fun j hj hjs => by rw [getD_set_ne true (by omega)]; exact hun j hj hjs) (fun j oj hoj hj e he hb => by
              show (listed.setIfInBounds i true).getD e.on false = true
              have hj : (listed.setIfInBounds i true).getD j false = true := hj
              by_cases hie : e.on = i
              · rw [hie]; exact getD_set_eq h1
              · rw [getD_set_ne false (Ne.symm hie)]
                by_cases hji : j = i
                · subst hji; rw [ho] at hoj; cases hoj; exact h2 e he hb
                · rw [getD_set_ne false (Ne.symm hji)] at hj; exact hcl j oj hoj hj e he hb) hI' (hx1.trans hx') ?_ ?_
            (hsame.trans (Same.put b o.dst v fun t ht => mem_dsts hmem ht)) (fun t j o' hj ho' hd hl => ?_) (fun t hn => ?_)
          · cases o.dst <;> simp [Act.put, hs1]
          · refine Eq.trans ?_ hd1
            cases o.dst <;> rfl
          · rw [hput v t]
            by_cases hdt : o.dst = some t
            · rw [if_pos hdt, hwi t hdt]; exact hr'
            · rw [if_neg hdt]
              have hji : j ≠ i := fun e => by subst e; rw [ho] at ho'; cases ho'; exact hdt hd
              rw [getD_set_ne false (Ne.symm hji)] at hl
              exact (hex t j o' hj ho' hd hl).ext hx'
          · have hdt : o.dst ≠ some t := fun hdt => by
              have := hn i o him ho hdt
              rw [getD_set_eq h1] at this; cases this
            rw [hput v t, if_neg hdt]
            refine hno t fun j o' hj ho' hd => ?_
            have hji : j ≠ i := fun e => by subst e; rw [ho] at ho'; cases ho'; exact hdt hd
            have := hn j o' hj ho' hd
            rwa [getD_set_ne false (Ne.symm hji)] at this
        exact ⟨hread, next⟩
      by_cases hfree : ∃ i, i < m ∧ isFree ops.toList i = true ∧ listed.getD i false = false
      · obtain ⟨i, him, hfi, hli⟩ := hfree
        obtain ⟨o, ho⟩ : ∃ o, ops[i]? = some o := ⟨ops[i]'(by omega), by simp [show i < ops.size by omega]⟩
        obtain ⟨x, t, hfr⟩ := isFree_spec ho hfi
        obtain ⟨hwi, hqp⟩ := hQP i o him ho
        have h1 : listed.getD i true = false := by rw [listed_or (by omega)]; exact hli
        obtain ⟨hread, next⟩ := one i o him ho h1 (fun e he hb => by rw [hfr.after e he] at hb; cases hb)
        obtain ⟨hmv, hsm⟩ := hqp.move x hfr.op hfr.guard
        refine hoist (fun f => hF.fn f) hQn hfr f listed b w1 hls h1 ?_
        have hnext := next (loc' := loc1) (ver' := ver1) (w' := w1) (v := b.eval x) (by rw [hsm]; exact hI1) (by rw [hsm]; exact Ext.refl _) (by rw [hsm]; exact hmv _ b hs1 hread)
        rwa [hfr.dst] at hnext
      have hnofree : ∀ i, i < m → isFree ops.toList i = true → listed.getD i false = true := fun i h1 h2 => by
        cases hc : listed.getD i false with
        | true => rfl
        | false => exact absurd ⟨i, h1, h2, hc⟩ hfree
      obtain ⟨i0, hi0, hmin⟩ : ∃ i0, (i0 < m ∧ listed.getD i0 false = false) ∧ ∀ k, (k < m ∧ listed.getD k false = false) → i0 ≤ k := by
        have : ∃ j, j < m ∧ listed.getD j false = false := by
          apply Classical.byContradiction
          intro hn
          exact hall fun j hj => by
            cases hc : listed.getD j false with
            | true => rfl
            | false => exact (hn ⟨j, hj, hc⟩).elim
        obtain ⟨j, hj⟩ := this
        exact least_of j hj
      have hi0s : i0 < ops.size := by omega
      have hr0 : i0 ∈ Region.ready .any ops listed := by
        refine mem_ready.2 ⟨by rw [listed_or (by omega)]; exact hi0.2, ops[i0], by simp [hi0s], fun e he hb => ?_⟩
        have hlt := topo_spec (htopo i0 ops[i0] (by simp [hi0s])) e he hb
        cases hc : listed.getD e.on false with
        | true => rfl
        | false => have := hmin e.on ⟨by omega, hc⟩; omega
      refine ⟨fun hr => (by rw [hr] at hr0; cases hr0), fun i hi => ?_⟩
      obtain ⟨h1, o, ho, h2⟩ := mem_ready.1 hi
      have his := (Array.getElem?_eq_some_iff.1 ho).1
      have him : i < m := by
        apply Classical.byContradiction
        intro hge
        have := waitsM_spec hcl ho ((htail0 i o (by omega) ho i0 (by omega)).resolve_right fun hfr => by
          have := hnofree i0 hfr.1 hfr.2
          rw [hi0.2] at this; cases this) h2
        rw [hi0.2] at this
        cases this
      obtain ⟨hwi, hqp⟩ := hQP i o him ho
      obtain ⟨hread, next⟩ := one i o him ho h1 h2
      have hwant := hqp.want _ b hread
      unfold wpOpIn
      simp only [ho]
      cases hwn : wn i with
      | true =>
        rw [hwn] at hwant hqp
        rw [if_pos hwant]
        obtain ⟨hnd, hopk⟩ := hqp.run rfl hF _ (adm i o him ho h1 h2) hI1 hs1 hread
        refine hopk.wpIn hF hnd ?_
        rintro v w' ⟨loc', ver', hI', hr', hx'⟩
        exact next hI' hx' hr'
      | false =>
        rw [hwn] at hwant hqp
        obtain ⟨hs, hsm⟩ := hqp.skip rfl
        rw [if_neg (by rw [hwant]; simp)]
        refine ⟨fun f _ => hF.fn f, next (loc' := loc1) (ver' := ver1) (by rw [hsm]; exact hI1) (by rw [hsm]; exact Ext.refl _) ?_⟩
        rw [hs]; exact (.tup [] [] .nil)
end
end Go.Eng
