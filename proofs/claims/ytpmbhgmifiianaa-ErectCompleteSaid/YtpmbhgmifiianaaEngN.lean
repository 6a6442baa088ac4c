/-
  **The executor is sound**: what it leaves to be shown of some code is enough for the code's weakest precondition.
-/
import Derived.Test.YtpmbhgmifiianaaEngM
set_option linter.unusedSimpArgs false
set_option linter.unusedVariables false
namespace Go.Eng
open Go.RowKit

section
variable {P : Program} {G : Ctx} {N : Nat}

/-! ### A region -/
theorem yielded_bool {ops : Array Oper} {a : Act} {j t : Nat} (hd : (ops[j]?).bind (·.dst) = some t) {b : Bool} (h : a.tmps.getD t undef = .bool b) : yielded ops a.tmps j = some b := by
  unfold yielded
  rw [hd]
  simp only [Option.bind_some]
  rw [Array.getD_eq_getD_getElem?] at h
  cases ht : a.tmps[t]? with
  | none => rw [ht] at h; cases h
  | some v => rw [ht] at h; simp at h; rw [h]
theorem yielded_undef {ops : Array Oper} {a : Act} {j t : Nat} (hd : (ops[j]?).bind (·.dst) = some t) (h : a.tmps.getD t undef = .tuple ⟨[]⟩) : yielded ops a.tmps j = none := by
  unfold yielded
  rw [hd, Option.bind_some]
  cases he : a.tmps[t]? with
  | none => rfl
  | some v =>
    rw [Array.getD_eq_getD_getElem?, he] at h
    simp only [Option.getD_some] at h
    rw [h]
theorem TRel.learn {E : Env} {l : List (Nat × SV)} {a : Act} (h : TRel E N l a) {t : Nat} {s : SV} (hs : Rel E s (a.tmps.getD t undef)) : TRel E N (Eng.put l t s) a := by
  refine ⟨h.size, fun u => ?_⟩
  rw [look_put]
  by_cases e : u = t
  · rw [if_pos e, e]; exact hs
  · rw [if_neg e]; exact h.rel u
/-- A guard: its operation is wanted, or it is not. -/
theorem guardB_sound {E : Env} {ops : Array Oper} {l : List (Nat × SV)} {a : Act} (hT : TRel E N l a) {o : Oper} {yes no : List (Nat × SV) → Prop} (h : guardB ops.toList l o.guard yes no) :
    ∃ l', TRel E N l' a ∧ ((Region.wanted o (yielded ops a.tmps) = true ∧ yes l') ∨ (Region.wanted o (yielded ops a.tmps) = false ∧ no l')) := by
  unfold guardB at h
  cases hg : o.guard with
  | none => rw [hg] at h; exact ⟨l, hT, .inl ⟨by simp [Region.wanted, hg], h⟩⟩
  | some p =>
    obtain ⟨j, want⟩ := p
    rw [hg] at h
    simp only at h
    split at h
    · exact h.elim
    · rename_i t hd
      have hd' : (ops[j]?).bind (·.dst) = some t := by simpa using hd
      have hr := hT.rel t
      split at h
      · rename_i hl
        rw [hl] at hr
        have hy := yielded_bool hd' hr.bool_inv
        cases want with
        | true => exact ⟨l, hT, .inl ⟨by simp [Region.wanted, hg, hy], h⟩⟩
        | false => exact ⟨l, hT, .inr ⟨by simp [Region.wanted, hg, hy], h⟩⟩
      · rename_i hl
        rw [hl] at hr
        have hy := yielded_bool hd' hr.bool_inv
        cases want with
        | true => exact ⟨l, hT, .inr ⟨by simp [Region.wanted, hg, hy], h⟩⟩
        | false => exact ⟨l, hT, .inl ⟨by simp [Region.wanted, hg, hy], h⟩⟩
      · rename_i p d hl
        rw [hl] at hr
        generalize hv : a.tmps.getD t undef = v at hr
        cases hr
        have hy := yielded_bool hd' hv
        have hT1 : p → TRel E N (put l t (.val (.bool true))) a := fun hp => hT.learn (by rw [hv]; simp [hp]; exact .val _ trivial)
        have hT0 : ¬ p → TRel E N (put l t (.val (.bool false))) a := fun hp => hT.learn (by rw [hv]; simp [hp]; exact .val _ trivial)
        by_cases hp : p
        · cases want with
          | true => exact ⟨_, hT1 hp, .inl ⟨by simp [Region.wanted, hg, hy, hp], by have := h.yes hp; rwa [force_eq] at this⟩⟩
          | false => exact ⟨_, hT1 hp, .inr ⟨by simp [Region.wanted, hg, hy, hp], by have := h.yes hp; rwa [force_eq] at this⟩⟩
        · cases want with
          | true => exact ⟨_, hT0 hp, .inr ⟨by simp [Region.wanted, hg, hy, hp], by have := h.no hp; rwa [force_eq] at this⟩⟩
          | false => exact ⟨_, hT0 hp, .inl ⟨by simp [Region.wanted, hg, hy, hp], by have := h.no hp; rwa [force_eq] at this⟩⟩
      · rename_i hl
        rw [hl] at hr
        generalize hv : a.tmps.getD t undef = v at hr
        cases hr with
        | tup _ vs hl' => cases hl'; exact ⟨l, hT, .inr ⟨by simp [Region.wanted, hg, yielded_undef hd' hv], h⟩⟩
      · exact h.elim
theorem mem_dsts {ops : List Oper} {o : Oper} (ho : o ∈ ops) {t : Nat} (ht : o.dst = some t) : mem t (ops.filterMap (·.dst)) = true := by
  induction ops with
  | nil => simp at ho
  | cons x r ih =>
    rcases List.mem_cons.1 ho with rfl | ho
    · simp [List.filterMap_cons, ht, mem, beq_same]
    · have := ih ho
      simp only [List.filterMap_cons]
      split
      · exact this
      · simp [mem, this]
theorem execOps_sound (hY : YOK P G.itr) {Γ : List Con} (hΓ : ∀ c ∈ Γ, ConOK P c) {F : Fence} (hF : Opn F) {n : Nat} {ops : Array Oper} : ∀ (rest : List Oper) (k : Nat), ops.toList.drop k = rest →
    ∀ {H : List HO} {loc : Nat → Loc} {ver : Nat → Nat} {w : World} {l : List (Nat × SV)} {a : Act} {K : List (Nat × SV) → List HO → Prop} {Q : Exit → Act → World → Prop},
    Inv G H loc ver w → TRel (envOf G H loc ver w) N l a → execOps P Γ N ops.toList rest l H K →
    (∀ l' H' loc' ver' a' w', K l' H' → Inv G H' loc' ver' w' → TRel (envOf G H' loc' ver' w') N l' a' → Ext (envOf G H loc ver w) (envOf G H' loc' ver' w') → Same (ops.toList.filterMap (·.dst)) a a' → a'.defers = a.defers → Q .normal a' w') →
    wpOpsIn F n P ops Q (List.range' k rest.length) a w := by
  intro rest
  induction rest with
  | nil =>
    intro k hk H loc ver w l a K Q hI hT h hQ
    exact hQ l H loc ver a w h hI hT (Ext.refl _) (Same.refl _ _) rfl
  | cons o r ih =>
    intro k hk H loc ver w l a K Q hI hT h hQ
    have hko : ops[k]? = some o := by
      have : (ops.toList.drop k)[0]? = some o := by rw [hk]; rfl
      rw [List.getElem?_drop] at this
      simpa using this
    have hmem : o ∈ ops.toList := by
      have := Array.getElem?_eq_some_iff.1 hko
      obtain ⟨hlt, rfl⟩ := this
      simp
    have hkr : ops.toList.drop (k + 1) = r := by
      rw [← List.drop_drop, hk]; rfl
    simp only [List.length_cons, List.range'_succ, wpOpsIn, hko]
    simp only [execOps_cons] at h
    obtain ⟨l', hT', ⟨hw, h⟩ | ⟨hw, h⟩⟩ := guardB_sound hT h
    · rw [if_pos hw]
      obtain ⟨hnd, hok⟩ := op1_sound hY hΓ hF hI hT' h
      refine hok.wpIn hF hnd ?_
      rintro v w' ⟨s, H', loc', ver', hk', hI', hr', hx'⟩
      obtain ⟨l'', hk'', hT''⟩ := (hT'.ext hx').any o.dst hk' hr'
      refine ih (k + 1) hkr hI' hT'' hk'' ?_
      intro l3 H3 loc3 ver3 a3 w3 h3 hI3 hT3 hx3 hs3 hd3
      refine hQ l3 H3 loc3 ver3 a3 w3 h3 hI3 hT3 (hx'.trans hx3) ((Same.put a o.dst v fun t ht => mem_dsts hmem ht).trans hs3) (hd3.trans ?_)
      cases o.dst <;> rfl
    · rw [if_neg (by rw [hw]; simp)]
      refine ⟨fun f _ => hF.fn f, ?_⟩
      obtain ⟨l'', hk'', hT''⟩ := hT'.any o.dst h (.tup [] [] .nil)
      refine ih (k + 1) hkr hI hT'' hk'' ?_
      intro l3 H3 loc3 ver3 a3 w3 h3 hI3 hT3 hx3 hs3 hd3
      refine hQ l3 H3 loc3 ver3 a3 w3 h3 hI3 hT3 hx3 ((Same.put a o.dst undef fun t ht => mem_dsts hmem ht).trans hs3) (hd3.trans ?_)
      cases o.dst <;> rfl

/-! ### Code -/
def markOf (D : Nat) : Deferred := { target := .collected D, args := #[] }
/-- The marks that ranges over functions leave among the deferred calls. -/
def Marked (E E' : Env) (ds ds' : List Deferred) : Prop :=
  ∃ Ds : List Nat, ds' = Ds.map markOf ++ ds ∧ Ds.Nodup ∧ ∀ D ∈ Ds, E.w.heap.size ≤ D ∧ ¬ E'.ali D ∧ E'.w.heap[D]? = some (.deferred (some []))
theorem Marked.refl (E E' : Env) (ds : List Deferred) : Marked E E' ds ds := ⟨[], rfl, List.nodup_nil, fun _ h => by cases h⟩
theorem Marked.ext {O : List Nat} {E E' E'' : Env} {ds ds' : List Deferred} (h : Marked E E' ds ds') (x : ExtO O E' E'') : Marked E E'' ds ds' := by
  obtain ⟨Ds, h1, h2, h3⟩ := h
  refine ⟨Ds, h1, h2, fun D hD => ?_⟩
  obtain ⟨h4, h5, h6⟩ := h3 D hD
  refine ⟨h4, fun h => ?_, x.keep D _ h5 h6 rfl⟩
  rcases x.ali D h with h7 | h7
  · exact h5 h7
  · have := (Array.getElem?_eq_some_iff.1 h6).1; omega
theorem Marked.trans {O : List Nat} {E E' E'' : Env} {ds ds' ds'' : List Deferred} (h : Marked E E' ds ds') (hs : E.w.heap.size ≤ E'.w.heap.size) (x : ExtO O E' E'') (k : Marked E' E'' ds' ds'') : Marked E E'' ds ds'' := by
  obtain ⟨Es, k1, k2, k3⟩ := k
  obtain ⟨Ds, h1, h2, h3⟩ := h
  have hx := Marked.ext ⟨Ds, rfl, h2, h3⟩ x (ds := ds)
  obtain ⟨Ds', e1, e2, e3⟩ := hx
  refine ⟨Es ++ Ds, by rw [k1, h1]; simp, ?_, fun D hD => ?_⟩
  · rw [List.nodup_append]
    refine ⟨k2, h2, fun a ha b hb e => ?_⟩
    subst e
    have h4 := (k3 a ha).1
    have h5 := (h3 a hb).2.2
    have := (Array.getElem?_eq_some_iff.1 h5).1; omega
  · rcases List.mem_append.1 hD with hD | hD
    · obtain ⟨h4, h5⟩ := k3 D hD
      exact ⟨Nat.le_trans hs h4, h5⟩
    · obtain ⟨h4, h5, h6⟩ := h3 D hD
      refine ⟨h4, fun h => ?_, x.keep D _ h5 h6 rfl⟩
      rcases x.ali D h with h7 | h7
      · exact h5 h7
      · have := (Array.getElem?_eq_some_iff.1 h6).1; omega
theorem Marked.of_eq {E E' : Env} {ds ds' : List Deferred} (h : ds' = ds) : Marked E E' ds ds' := by subst h; exact .refl _ _ _
/-- The record of the loop in whose round some code runs. -/
def RoundOK (F : Fence) (E : Env) : Prop := ∀ l, F.round = some l → ¬ E.ali l ∧ ∃ r, E.w.heap[l]? = some (.loop r)
theorem RoundOK.ext {F : Fence} {O : List Nat} {E E' : Env} (h : RoundOK F E) (x : ExtO O E E') : RoundOK F E' := fun l hl => by
  obtain ⟨h1, r, h2⟩ := h l hl
  refine ⟨fun h => ?_, r, x.keep l _ h1 h2 rfl⟩
  rcases x.ali l h with h7 | h7
  · exact h1 h7
  · have := (Array.getElem?_eq_some_iff.1 h2).1; omega
/-- What is handed on at the end of some code. -/
def After (G : Ctx) (N : Nat) (ws D : List Nat) (K : Exit → List (Nat × SV) → List HO → Prop) (E : Env) (a : Act) (e : Exit) (a' : Act) (w' : World) : Prop :=
  ∃ l' H' loc' ver', K e l' H' ∧ Inv G H' loc' ver' w' ∧ TRel (envOf G H' loc' ver' w') N l' a' ∧ ExtO D E (envOf G H' loc' ver' w') ∧ Same ws a a' ∧ Marked E (envOf G H' loc' ver' w') a.defers a'.defers
theorem After.mono {ws ws' D D' : List Nat} {K K' : Exit → List (Nat × SV) → List HO → Prop} {E : Env} {a : Act} {e : Exit} {a' : Act} {w' : World} (h : After G N ws D K E a e a' w') (hw : ∀ n, mem n ws = true → mem n ws' = true) (hd : ∀ n, mem n D = true → mem n D' = true) (hk : ∀ l H, K e l H → K' e l H) : After G N ws' D' K' E a e a' w' :=
  let ⟨l', H', loc', ver', h1, h2, h3, h4, h5, h6⟩ := h
  ⟨l', H', loc', ver', hk _ _ h1, h2, h3, h4.mono hd, h5.mono hw, h6⟩
/-- Two pieces of code, one behind the other. -/
theorem After.trans {ws D : List Nat} {K : Exit → List (Nat × SV) → List HO → Prop} {E E' : Env} {a a' a'' : Act} {e : Exit} {w'' : World} (hx : ExtO D E E') (hs : Same ws a a') (hd : Marked E E' a.defers a'.defers) (h : After G N ws D K E' a' e a'' w'') : After G N ws D K E a e a'' w'' :=
  let ⟨l', H', loc', ver', h1, h2, h3, h4, h5, h6⟩ := h
  ⟨l', H', loc', ver', h1, h2, h3, hx.trans h4, hs.trans h5, hd.trans hx.size h4 h6⟩
def Sound (P : Program) (G : Ctx) (N : Nat) (Γ : List Con) (A : Anns) (key : Nat) (c : Code) : Prop :=
  ∀ {F : Fence} {n : Nat}, Opn F → ∀ {H : List HO} {loc : Nat → Loc} {ver : Nat → Nat} {w : World} {l : List (Nat × SV)} {a : Act} {K : Exit → List (Nat × SV) → List HO → Prop},
    Inv G H loc ver w → TRel (envOf G H loc ver w) N l a → RoundOK F (envOf G H loc ver w) → exec P Γ N A key c l H K → c.wpIn F n P (After G N (writes c) (touch A key c) K (envOf G H loc ver w) a) a w
theorem mem_l (a b : List Nat) (n : Nat) (h : mem n a = true) : mem n (a ++ b) = true := by rw [mem_append, h]; rfl
theorem mem_r (a b : List Nat) (n : Nat) (h : mem n b = true) : mem n (a ++ b) = true := by rw [mem_append, h]; simp
end
end Go.Eng
