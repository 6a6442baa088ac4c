/-
  From one state of the executor to another one that it serves for: entailment, heads of loops, cuts.
-/
import Derived.Test.YtpmbhgmifiianaaEngK
set_option linter.unusedSimpArgs false
set_option linter.unusedVariables false
namespace Go.Eng
open Go.RowKit

theorem and2 {a b : Bool} (h : (a && b) = true) : a = true ∧ b = true := by simpa using h
mutual
theorem Rel.move {E E' : Env} {p : Nat → Bool} (hp : ∀ nm, p nm = true → E.has nm = true → E'.has nm = true ∧ ((E'.ver nm = E.ver nm ∧ (E'.loc nm).toCore = (E.loc nm).toCore) ∨ (0 < E.ver nm ∧ E.ver nm < E'.ver nm)))
    (hsb : ∀ nm, p nm = true → E.has nm = true → E'.ver nm = E.ver nm → (E'.loc nm).sub = (E.loc nm).sub ∨ (E.loc nm).sub.v < (E'.loc nm).sub.v) (hy : E.itr.on = true → E'.itr = E.itr) (hc : ∀ a v, E.ok a.block → E.w.cell? a = some v → E'.w.cell? a = some v) (hk : ∀ b, E.ok b → E'.ok b) {s : SV} {v : Value} (h : Rel E s v) (hb : allN p s = true) : Rel E' s v := by
  cases h with
  | any => exact .any v
  | val _ h => exact .val v h
  | bl p d => exact .bl p d
  | str s h => exact .str s h
  | seq t xs _ h => exact .seq t xs v (h.mono hc hk)
  | lit es n b off l vs hl hn hok hr => exact .lit es n b off l vs (hl.move hp hsb hy hc hk (by simpa [allN] using hb)) hn (hk _ hok) (fun j v hj => hc _ v hok (hr j v hj))
  | elem t xs i o b off es hi hok hr h => exact .elem t xs i o b off es hi (hk _ hok) (fun j v hj => hc _ v hok (hr j v hj)) (h.mono hc hk)
  | lelem l i b off vs hl hok hr => exact .lelem l i b off vs (hl.move hp hsb hy hc hk (by simpa [allN] using hb)) (hk _ hok) (fun j v hj => hc _ v hok (hr j v hj))
  | ptr nm off _ hn h =>
    obtain ⟨h1, h2⟩ := hp nm (by simpa [allN] using hb) hn
    refine .ptr nm off v h1 fun h0 => ?_
    rcases h2 with ⟨e1, e2⟩ | ⟨e1, e2⟩
    · rw [e1] at h0; obtain ⟨b, hb, hv⟩ := h h0; exact ⟨b, by rw [e2]; exact hb, hv⟩
    · omega
  | ref nm k _ hn h0 hk' h =>
    obtain ⟨h1, h2⟩ := hp nm (by simpa [allN] using hb) hn
    rcases h2 with ⟨e1, e2⟩ | ⟨e1, e2⟩
    · exact .ref nm k v h1 h0 (by omega) fun e => by rw [e2]; exact h (by omega)
    · exact .ref nm k v h1 h0 (by omega) fun e => by omega
  | vptr nm k i z o _ hn h0 hk' h =>
    obtain ⟨h1, h2⟩ := hp nm (by simpa [allN] using hb) hn
    rcases h2 with ⟨e1, e2⟩ | ⟨e1, e2⟩
    · exact .vptr nm k i z o v h1 h0 (by omega) fun e => by rw [e2]; exact h (by omega)
    · exact .vptr nm k i z o v h1 h0 (by omega) fun e => by omega
  | wide nm k _ hn h0 hk' h =>
    obtain ⟨h1, h2⟩ := hp nm (by simpa [allN] using hb) hn
    rcases h2 with ⟨e1, e2⟩ | ⟨e1, e2⟩
    · exact .wide nm k v h1 h0 (by omega) fun e => by rw [e2]; exact h (by omega)
    · exact .wide nm k v h1 h0 (by omega) fun e => by omega
  | agg l vs hl => exact .agg l vs (hl.move hp hsb hy hc hk (by simpa [allN] using hb))
  | tup l vs hl => exact .tup l vs (hl.move hp hsb hy hc hk (by simpa [allN] using hb))
  | clo f a b va vb ha hb' =>
    simp only [allN, Bool.and_eq_true] at hb
    exact .clo f a b va vb (ha.move hp hsb hy hc hk hb.1) (hb'.move hp hsb hy hc hk hb.2)
  | yld l h => rw [← hy h]; exact .yld l (by rw [hy h]; exact h)
  | mp nm _ hn h =>
    obtain ⟨h1, h2⟩ := hp nm (by simpa [allN] using hb) hn
    refine .mp nm v h1 fun h0 => ?_
    rcases h2 with ⟨e1, e2⟩ | ⟨e1, e2⟩
    · rw [e1] at h0; obtain ⟨b, hb, hv⟩ := h h0; exact ⟨b, by rw [e2]; exact hb, hv⟩
    · omega
  | sub nm k s i _ hn h0 hk' hs h =>
    have hpn : p nm = true := by simpa [allN] using hb
    obtain ⟨h1, h2⟩ := hp nm hpn hn
    rcases h2 with ⟨e1, e2⟩ | ⟨e1, e2⟩
    · have e3 := hsb nm hpn hn e1
      refine .sub nm k s i v h1 h0 (by omega) (fun e => ?_) (fun e e4 => ?_)
      · have := hs (by omega)
        rcases e3 with e3 | e3
        · rw [e3]; exact this
        · omega
      · have h5 := hs (by omega)
        rcases e3 with e3 | e3
        · rw [e3] at e4 ⊢; exact h (by omega) e4
        · omega
    · exact .sub nm k s i v h1 h0 (by omega) (fun e => by omega) (fun e => by omega)
  | subp nm k s _ hn h0 hk' hs h =>
    have hpn : p nm = true := by simpa [allN] using hb
    obtain ⟨h1, h2⟩ := hp nm hpn hn
    rcases h2 with ⟨e1, e2⟩ | ⟨e1, e2⟩
    · have e3 := hsb nm hpn hn e1
      refine .subp nm k s v h1 h0 (by omega) (fun e => ?_) (fun e e4 => ?_)
      · have := hs (by omega)
        rcases e3 with e3 | e3
        · rw [e3]; exact this
        · omega
      · have h5 := hs (by omega)
        rcases e3 with e3 | e3
        · rw [e3] at e4 ⊢; exact h (by omega) e4
        · omega
    · exact .subp nm k s v h1 h0 (by omega) (fun e => by omega) (fun e => by omega)
theorem RelL.move {E E' : Env} {p : Nat → Bool} (hp : ∀ nm, p nm = true → E.has nm = true → E'.has nm = true ∧ ((E'.ver nm = E.ver nm ∧ (E'.loc nm).toCore = (E.loc nm).toCore) ∨ (0 < E.ver nm ∧ E.ver nm < E'.ver nm)))
    (hsb : ∀ nm, p nm = true → E.has nm = true → E'.ver nm = E.ver nm → (E'.loc nm).sub = (E.loc nm).sub ∨ (E.loc nm).sub.v < (E'.loc nm).sub.v) (hy : E.itr.on = true → E'.itr = E.itr) (hc : ∀ a v, E.ok a.block → E.w.cell? a = some v → E'.w.cell? a = some v) (hk : ∀ b, E.ok b → E'.ok b) {l : List SV} {vs : List Value} (h : RelL E l vs) (hb : allN.allNL p l = true) : RelL E' l vs := by
  cases h with
  | nil => exact .nil
  | cons s v l vs h hl =>
    simp only [allN.allNL, Bool.and_eq_true] at hb
    exact .cons s v l vs (h.move hp hsb hy hc hk hb.1) (hl.move hp hsb hy hc hk hb.2)
end
mutual
theorem Rel.under {E : Env} {s : SV} {v : Value} (h : Rel E s v) : allN E.has s = true := by
  cases h with
  | ptr nm off _ hn h => simpa [allN] using hn
  | mp nm _ hn h => simpa [allN] using hn
  | sub nm k s i _ hn h0 hk hs h => simpa [allN] using hn
  | subp nm k s _ hn h0 hk hs h => simpa [allN] using hn
  | ref nm k _ hn h0 hk' h => simpa [allN] using hn
  | vptr nm k i z o _ hn h0 hk' h => simpa [allN] using hn
  | wide nm k _ hn h0 hk' h => simpa [allN] using hn
  | lit es n b off l vs hl hn hok hr => exact hl.under
  | lelem l i b off vs hl hok hr => exact hl.under
  | agg l vs hl => exact hl.under
  | tup l vs hl => exact hl.under
  | clo f a b va vb ha hb' => simp only [allN, Bool.and_eq_true]; exact ⟨ha.under, hb'.under⟩
  | _ => rfl
theorem RelL.under {E : Env} {l : List SV} {vs : List Value} (h : RelL E l vs) : allN.allNL E.has l = true := by
  cases h with
  | nil => rfl
  | cons s v l vs h hl => simp only [allN.allNL, Bool.and_eq_true]; exact ⟨h.under, hl.under⟩
end
mutual
theorem allN_imp {p q r : Nat → Bool} (h : ∀ n, p n = true → q n = true → r n = true) : ∀ (s : SV), allN p s = true → allN q s = true → allN r s = true
  | .ref nm _, h1, h2 => h nm h1 h2
  | .vptr nm _ _ _ _, h1, h2 => h nm h1 h2
  | .wide nm _, h1, h2 => h nm h1 h2
  | .ptr nm _, h1, h2 => h nm h1 h2
  | .mp nm, h1, h2 => h nm h1 h2
  | .sub nm _ _ _, h1, h2 => h nm h1 h2
  | .subp nm _ _, h1, h2 => h nm h1 h2
  | .lit _ l, h1, h2 => allNL_imp h l h1 h2
  | .lelem l _, h1, h2 => allNL_imp h l h1 h2
  | .agg l, h1, h2 => allNL_imp h l h1 h2
  | .tup l, h1, h2 => allNL_imp h l h1 h2
  | .clo _ a b, h1, h2 => by
    simp only [allN, Bool.and_eq_true] at h1 h2 ⊢
    exact ⟨allNL_imp h a h1.1 h2.1, allNL_imp h b h1.2 h2.2⟩
  | .any, _, _ => rfl
  | .val _, _, _ => rfl
  | .bl _ _, _, _ => rfl
  | .str _, _, _ => rfl
  | .seq _ _, _, _ => rfl
  | .elem _ _ _ _, _, _ => rfl
  | .yld _, _, _ => rfl
  | .itr _ _, _, _ => rfl
theorem allNL_imp {p q r : Nat → Bool} (h : ∀ n, p n = true → q n = true → r n = true) : ∀ (l : List SV), allN.allNL p l = true → allN.allNL q l = true → allN.allNL r l = true
  | [], _, _ => rfl
  | x :: l, h1, h2 => by
    simp only [allN.allNL, Bool.and_eq_true] at h1 h2 ⊢
    exact ⟨allN_imp h x h1.1 h2.1, allNL_imp h l h1.2 h2.2⟩
end

end Go.Eng
