/-
  Each operation that the executor knows is carried out by the model as the executor says.
-/
import Derived.Test.YtpmbhgmifiianaaEngC
import Derived.IntWalk
import Derived.Laws.Small
set_option linter.unusedSimpArgs false
set_option linter.unusedVariables false
namespace Go.Eng
open Go.RowKit

theorem wrap_in {k : IntKind} {n : Int} (h : inK k n) : k.wrap n = n := by
  obtain ⟨h1, h2⟩ := h
  cases k <;> simp only [lo, hi] at h1 h2 <;> simp only [IntKind.wrap, IntKind.bits, IntKind.signed] <;> simp <;> omega
theorem Rel.int_inv {E : Env} {k : IntKind} {n : Int} {v : Value} (h : Rel E (.val (.int k n)) v) : v = .int k n ∧ inK k n := by
  cases h with
  | val _ hw => exact ⟨rfl, hw⟩
theorem Rel.bool_inv {E : Env} {b : Bool} {v : Value} (h : Rel E (.val (.bool b)) v) : v = .bool b := by cases h; rfl
theorem cst_rel (E : Env) (v : Value) : Rel E (cst v) v := by
  cases v with
  | int k n =>
    simp only [cst]
    cases h : (decide (lo k ≤ n) && decide (n ≤ hi k)) with
    | true => simp at h; exact .val _ ⟨h.1, h.2⟩
    | false => exact .any _
  | string s =>
    simp only [cst]
    cases h : Nat.ble s.data.toList.length 140737488355328 with
    | true =>
      have h2 : s = ⟨s.data.toList.toArray⟩ := by cases s; simp
      conv => rhs; rw [h2]
      exact .str _ (Nat.le_of_ble_eq_true h)
    | false => exact .any _
  | _ => exact .val _ trivial

theorem beq_iff {a b : Nat} : Nat.beq a b = true ↔ a = b := by rw [Nat.beq_eq]
theorem beq_ne {a b : Nat} (h : a ≠ b) : Nat.beq a b = false := by
  cases e : Nat.beq a b with
  | false => rfl
  | true => exact absurd (beq_iff.1 e) h
theorem beq_same (a : Nat) : Nat.beq a a = true := beq_iff.2 rfl
theorem look_put (l : List (Nat × SV)) (t u : Nat) (v : SV) : look (put l t v) u = if u = t then v else look l u := by
  induction l with
  | nil =>
    simp only [put, look]
    by_cases e : u = t
    · subst e; simp [beq_same]
    · simp [beq_ne (Ne.symm e), e]
  | cons p r ih =>
    obtain ⟨i, x⟩ := p
    simp only [put]
    by_cases e : i = t
    · subst e
      rw [beq_same]
      simp only [cond_true, look]
      by_cases e2 : u = i
      · subst e2; simp [beq_same]
      · simp [beq_ne (Ne.symm e2), e2]
    · rw [beq_ne e]
      simp only [cond_false, look]
      by_cases e2 : i = u
      · subst e2; simp [beq_same, e]
      · rw [beq_ne e2]; simp only [cond_false]; exact ih

structure TRel (E : Env) (N : Nat) (l : List (Nat × SV)) (a : Act) : Prop where
  size : a.tmps.size = N
  rel : ∀ t, Rel E (look l t) (a.tmps.getD t undef)
theorem TRel.ext0 {E E' : Env} {N : Nat} {l : List (Nat × SV)} {a : Act} (h : TRel E N l a) (x : Ext0 E E') : TRel E' N l a := ⟨h.size, fun t => (h.rel t).ext0 x⟩
theorem TRel.ext {E E' : Env} {N : Nat} {l : List (Nat × SV)} {a : Act} (h : TRel E N l a) (x : Ext E E') : TRel E' N l a := ⟨h.size, fun t => (h.rel t).ext x⟩
theorem getD_put (a : Act) (d t : Nat) (v : Value) (h : d < a.tmps.size) : (a.put (some d) v).tmps.getD t undef = if t = d then v else a.tmps.getD t undef := by
  simp only [Act.put, Array.getD_eq_getD_getElem?]
  rw [Array.getElem?_setIfInBounds]
  by_cases e : t = d
  · subst e; simp [h]
  · have : ¬ d = t := fun h => e h.symm
    simp [this, e]
theorem TRel.put {E : Env} {N : Nat} {l : List (Nat × SV)} {a : Act} (h : TRel E N l a) {d : Nat} (hd : d < N) {s : SV} {v : Value} (hr : Rel E s v) : TRel E N (put l d s) (a.put (some d) v) := by
  refine ⟨by simp [Act.put, h.size], fun t => ?_⟩
  rw [look_put, getD_put a d t v (by rw [h.size]; exact hd)]
  by_cases e : t = d
  · rw [if_pos e, if_pos e]; exact hr
  · rw [if_neg e, if_neg e]; exact h.rel t
theorem TRel.any {E : Env} {N : Nat} {l : List (Nat × SV)} {a : Act} (h : TRel E N l a) (o : Option Nat) {v : Value} {K : List (Nat × SV) → Prop} {s : SV} (hk : setT N l o s K) (hr : Rel E s v) : ∃ l', K l' ∧ TRel E N l' (a.put o v) := by
  cases o with
  | none => exact ⟨l, hk, h⟩
  | some t =>
    simp only [setT] at hk
    cases hb : Nat.blt t N with
    | false => rw [hb] at hk; exact hk.elim
    | true =>
      rw [hb] at hk
      simp only [cond_true, force_eq] at hk
      exact ⟨_, hk, h.put (by simpa using hb) hr⟩
theorem ev_rel {E : Env} {N : Nat} {l : List (Nat × SV)} {a : Act} (h : TRel E N l a) (x : Operand) : Rel E (ev l x) (a.eval x) := by
  cases x with
  | tmp t => exact h.rel t
  | const v => exact cst_rel E v
  | global g => exact .any _
  | func f => exact .clo f [] [] [] [] .nil .nil
theorem evs_rel {E : Env} {N : Nat} {l : List (Nat × SV)} {a : Act} (h : TRel E N l a) (xs : List Operand) : RelL E (xs.map (ev l)) (xs.map a.eval) := by
  induction xs with
  | nil => exact .nil
  | cons x r ih => exact .cons _ _ _ _ (ev_rel h x) ih

/-! ### Numbers -/
theorem run_eqGuard_int (P : Program) (w : World) (op : BinOp) (t : TypeId) (x y : Operand) (k k' : IntKind) (a b : Int) : (eqGuard op t x y (.int k a) (.int k' b)).run P w = .ok () w := by
  cases op <;> simp [eqGuard]
theorem inK_wrap (k : IntKind) (n : Int) : inK k (k.wrap n) := by
  cases k <;> simp only [inK, IntKind.wrap, lo, hi, IntKind.bits, IntKind.signed] <;> simp <;> omega
theorem shiftOp_sound {P : Program} {w : World} {E : Env} {op : BinOp} {k k' : IntKind} {a b : Int} {K : SV → Prop} (h : shiftOp op k a b K) (ha : inK k a) (t : TypeId) :
    ∃ v s, (binOp op t (.int k a) (.int k' b)).run P w = .ok v w ∧ K s ∧ Rel E s v := by
  cases op <;> simp only [shiftOp] at h
  case shl =>
    obtain ⟨h1, h2⟩ := h
    exact ⟨_, _, by simp [binOp, Op.shift, show ¬ b < 0 by omega, shlI], h2, .val _ (inK_wrap _ _)⟩
  case shr =>
    obtain ⟨h1, h2⟩ := h
    refine ⟨.int k (shrI k a b), _, by simp [binOp, Op.shift, show ¬ b < 0 by omega, shrI], h2, .val _ ?_⟩
    obtain ⟨l1, l2⟩ := ha
    have h0 : lo k ≤ 0 := by cases k <;> simp [lo]
    have h9 : 0 ≤ hi k := by cases k <;> simp [hi]
    have hp : (0 : Int) < 2 ^ (min b.toNat k.bits) := Int.pow_pos (by decide)
    have e : shrI k a b = a / 2 ^ (min b.toNat k.bits) := Int.fdiv_eq_ediv_of_nonneg _ (Int.le_of_lt hp)
    rw [e]
    generalize (2 : Int) ^ (min b.toNat k.bits) = q at hp
    by_cases hn : 0 ≤ a
    · have e1 : 0 ≤ a / q := Int.ediv_nonneg hn (by omega)
      have e2 : a / q ≤ a := Int.ediv_le_self q hn
      exact ⟨by omega, by omega⟩
    · have e1 : a ≤ a / q := by
        refine Int.le_ediv_of_mul_le hp ?_
        have : a * q ≤ a * 1 := Int.mul_le_mul_of_nonpos_left (by omega) (by omega)
        omega
      have e2 : a / q < 0 := Int.ediv_neg_of_neg_of_pos (by omega) hp
      exact ⟨by omega, by omega⟩
  all_goals exact h.elim
theorem intOp_sound {P : Program} {w : World} {E : Env} {op : BinOp} {k : IntKind} {a b : Int} {K : SV → Prop} (h : intOp op k a b K) (ha : inK k a) (hb : inK k b) (t : TypeId) :
    ∃ v s, (binOp op t (.int k a) (.int k b)).run P w = .ok v w ∧ K s ∧ Rel E s v := by
  cases op <;> simp only [intOp] at h
  case add => obtain ⟨h1, h2⟩ := chk_inv h; exact ⟨_, _, by simp [binOp, Op.intArith, wrap_in h1], h2, .val _ h1⟩
  case sub => obtain ⟨h1, h2⟩ := chk_inv h; exact ⟨_, _, by simp [binOp, Op.intArith, wrap_in h1], h2, .val _ h1⟩
  case mul => obtain ⟨h1, h2⟩ := chk_inv h; exact ⟨_, _, by simp [binOp, Op.intArith, wrap_in h1], h2, .val _ h1⟩
  case and => exact ⟨_, _, by simp [binOp, Op.intBits, bitsI], h, .val _ (inK_wrap _ _)⟩
  case or => exact ⟨_, _, by simp [binOp, Op.intBits, bitsI], h, .val _ (inK_wrap _ _)⟩
  case xor => exact ⟨_, _, by simp [binOp, Op.intBits, bitsI], h, .val _ (inK_wrap _ _)⟩
  case andNot => exact ⟨_, _, by simp [binOp, Op.intBits, bitsI], h, .val _ (inK_wrap _ _)⟩
  case quo =>
    rcases h.or with h | h
    case inr =>
      obtain ⟨h1, h2⟩ := h
      obtain ⟨h3, h4⟩ := chk_inv h2
      exact ⟨_, _, by simp [binOp, Op.intDiv, h1, wrap_in h3], h4, .val _ h3⟩
    obtain ⟨⟨h1, h2⟩, h3⟩ := h
    have h4 : inK k (a / b) := by
      have e1 : 0 ≤ a / b := Int.ediv_nonneg h1 (by omega)
      have e2 : a / b ≤ a := Int.ediv_le_self b h1
      obtain ⟨l1, l2⟩ := ha
      exact ⟨by have : lo k ≤ 0 := by cases k <;> simp [lo]
                omega, by omega⟩
    exact ⟨_, _, by simp [binOp, Op.intDiv, show b ≠ 0 by omega, Int.tdiv_eq_ediv_of_nonneg h1, wrap_in h4], h3, .val _ h4⟩
  case rem =>
    rcases h.or with h | h
    case inr =>
      obtain ⟨h1, h2⟩ := h
      refine ⟨_, _, by simp [binOp, Op.intDiv, h1], h2, .val _ ?_⟩
      obtain ⟨l1, l2⟩ := ha
      have h0 : lo k ≤ 0 := by cases k <;> simp [lo]
      have h9 : 0 ≤ hi k := by cases k <;> simp [hi]
      by_cases hp : 0 ≤ a
      · have e1 := Int.tmod_nonneg b hp
        have e2 : a.tmod b ≤ a := by
          have := Int.natAbs_tmod a b
          have := Nat.mod_le a.natAbs b.natAbs
          omega
        exact ⟨by omega, by omega⟩
      · have e2 : a.tmod b ≤ 0 ∧ a ≤ a.tmod b := by
          have h5 : (-a).tmod b = -(a.tmod b) := Int.neg_tmod a b
          have h6 := Int.tmod_nonneg b (show 0 ≤ -a by omega)
          have h7 := Int.natAbs_tmod (-a) b
          have h8 := Nat.mod_le (-a).natAbs b.natAbs
          omega
        exact ⟨by omega, by omega⟩
    obtain ⟨⟨h1, h2⟩, h3⟩ := h
    have h4 : inK k (a % b) := by
      have e1 : 0 ≤ a % b := Int.emod_nonneg a (by omega)
      have e2 : a % b < b := Int.emod_lt_of_pos a h2
      obtain ⟨l1, l2⟩ := hb
      exact ⟨by have : lo k ≤ 0 := by cases k <;> simp [lo]
                omega, by omega⟩
    exact ⟨_, _, by simp [binOp, Op.intDiv, show b ≠ 0 by omega, Int.tmod_eq_emod_of_nonneg h1], h3, .val _ h4⟩
  case eql => exact ⟨_, _, by simp [binOp, Op.intCmp]; rfl, h, .bl _ _⟩
  case neq =>
    refine ⟨_, _, by simp [binOp, Op.intCmp]; rfl, h, ?_⟩
    have e : (a != b) = decide (¬ a = b) := by by_cases e : a = b <;> simp [e]
    rw [e]; exact .bl _ _
  case lss => exact ⟨_, _, by simp [binOp, Op.intCmp], h, .bl _ _⟩
  case leq => exact ⟨_, _, by simp [binOp, Op.intCmp], h, .bl _ _⟩
  case gtr => exact ⟨_, _, by simp [binOp, Op.intCmp], h, .bl _ _⟩
  case geq => exact ⟨_, _, by simp [binOp, Op.intCmp], h, .bl _ _⟩
  all_goals exact h.elim

theorem inK_max {k : IntKind} {a b : Int} (ha : inK k a) (hb : inK k b) : inK k (max a b) := by
  obtain ⟨a1, a2⟩ := ha; obtain ⟨b1, b2⟩ := hb; exact ⟨by omega, by omega⟩
theorem inK_min {k : IntKind} {a b : Int} (ha : inK k a) (hb : inK k b) : inK k (min a b) := by
  obtain ⟨a1, a2⟩ := ha; obtain ⟨b1, b2⟩ := hb; exact ⟨by omega, by omega⟩

/-! ### Types -/
theorem aggB_true {P : Program} {t : TypeId} (h : aggB P t = some true) : ∃ d, P.underlying t = some d ∧ d.isRow = true := by
  unfold aggB at h
  split at h <;> first | (rename_i e; exact ⟨_, e, rfl⟩) | (cases h; done) | (simp at h; done)
theorem run_isAgg {P : Program} {t : TypeId} {b : Bool} (h : aggB P t = some b) (w : World) : (isAgg t).run P w = .ok b w := by
  unfold aggB at h
  unfold isAgg
  cases hu : P.underlying t with
  | none => rw [hu] at h; cases h
  | some d =>
    rw [hu] at h
    rw [Sem.run_bind, run_underlying hu w]
    cases d <;> simp_all
theorem sizeB_info {P : Program} {t : TypeId} {n : Nat} (h : sizeB P t = some n) : ∃ i, P.info? t = some i ∧ i.size = n := by
  unfold sizeB at h
  cases hi : P.info? t with
  | none => rw [hi] at h; cases h
  | some i => rw [hi] at h; exact ⟨i, rfl, by simpa using h⟩
theorem run_sizeOf {P : Program} {t : TypeId} {n : Nat} (h : sizeB P t = some n) (w : World) : (sizeOf t).run P w = .ok n w := by
  obtain ⟨i, hi, rfl⟩ := sizeB_info h
  simp [sizeOf, typeInfo, hi]
theorem run_zeroOf {P : Program} {t : TypeId} {z : List SV} (h : zerosB P t = some z) (w : World) : ∃ v : Value, (zeroValue t).run P w = .ok v w ∧ z = v.cells.toList.map cst := by
  unfold zerosB at h
  cases hi : P.info? t with
  | none => rw [hi] at h; cases h
  | some i =>
    rw [hi] at h
    simp only at h
    cases hz : i.zero with
    | none => rw [hz] at h; cases h
    | some v =>
      rw [hz] at h
      exact ⟨v, by simp [zeroValue, typeInfo, hi, hz], by simpa using h.symm⟩
theorem csts_rel (E : Env) (l : List Value) : RelL E (l.map cst) l := by
  induction l with
  | nil => exact .nil
  | cons v r ih => exact .cons _ _ _ _ (cst_rel E v) ih

/-! ### Reading -/
theorem run_load_cell {P : Program} {w : World} {t : TypeId} {b off : Nat} {v : Value} (ha : aggB P t = some false) (hc : w.cell? ⟨b, off, none⟩ = some v) : (Instr.loadAt t (.pointer (some ⟨b, off, none⟩))).run P w = .ok v w := by
  simp [Instr.loadAt, Instr.sureAddr, loadVar, run_isAgg ha, hc]
theorem takeSV_sound {P : Program} {E : Env} {t : TypeId} {ag : Bool} {sz off b base : Nat} {l : List SV} {vs : List Value} {K : SV → Prop} (h : takeSV ag off sz l K) (ha : aggB P t = some ag) (hs : sizeB P t = some sz)
    (hl : RelL E l vs) (hr : E.w.rangeAt b base vs) : ∃ v s, (Instr.loadAt t (.pointer (some ⟨b, base + off, none⟩))).run P E.w = .ok v E.w ∧ K s ∧ Rel E s v := by
  cases ag with
  | true =>
    simp only [takeSV] at h
    cases hb : Nat.ble (off + sz) l.length with
    | false => rw [hb] at h; exact h.elim
    | true =>
      rw [hb] at h
      simp only [cond_true, force_eq] at h
      have hle : off + sz ≤ vs.length := by rw [← hl.length]; exact Nat.le_of_ble_eq_true hb
      have hlen : ((vs.drop off).take sz).length = sz := by simp; omega
      obtain ⟨d, hd, hrow⟩ := aggB_true ha
      obtain ⟨i, hi, hsz⟩ := sizeB_info hs
      have hr' : E.w.rangeAt b (base + off) ((vs.drop off).take sz) := by
        intro j v hj
        rw [Nat.add_assoc]
        apply hr
        rw [List.getElem?_take] at hj
        split at hj
        · rw [List.getElem?_drop] at hj; exact hj
        · cases hj
      exact ⟨_, _, run_loadAt_mid _ _ _ _ _ _ hr' hd hrow (by rw [hi, hlen]; simp [hsz]), h, .agg _ _ ((hl.drop off).take sz)⟩
  | false =>
    simp only [takeSV] at h
    cases hb : Nat.blt off l.length with
    | false => rw [hb] at h; exact h.elim
    | true =>
      rw [hb] at h
      simp only [cond_true, hnf_eq] at h
      have hlt : off < l.length := by simpa using hb
      have hlt' : off < vs.length := by rw [← hl.length]; exact hlt
      have hg := hl.get off hlt
      have e : vs[off]? = some (vs.getD off undef) := by simp [hlt']
      exact ⟨_, _, run_load_cell ha (hr off _ e), h, hg⟩
theorem hget_some {H : List HO} {nm : Nat} {o : HO} (h : hget H nm = o) (hd : o ≠ .dead) : H[nm]? = some o := by
  unfold hget at h
  rw [List.getD_eq_getElem?_getD] at h
  cases hn : H[nm]? with
  | none => rw [hn] at h; exact (hd h.symm).elim
  | some x => rw [hn] at h; simpa using h
theorem drop_take_range {w : World} {b off : Nat} {cs : List Value} {e : TypeId} (h : w.heap[b]? = some (.cells ⟨cs⟩ e (0, 0))) (n m : Nat) : w.rangeAt b (off + n) ((cs.drop (off + n)).take m) := by
  intro j v hj
  rw [List.getElem?_take] at hj
  split at hj
  · rw [List.getElem?_drop] at hj
    simp [World.cell?, h, hj]
  · cases hj
/-- What an owned vector's elements are. -/
theorem vec_elem {E : Env} {L : Loc} {v k : Nat} {t : Ty} {xs : List t.T} {e : TypeId} (h : OSat E L v (.vec k t xs e)) {i : Nat} (hi : i < L.len) :
    ∃ b es, L.blk = some (b, 0) ∧ E.w.rangeAt b (0 + i * t.size) es ∧ Reads E.w E.ok t (xs.getD i t.dflt) es := by
  obtain ⟨_, _, h1, h2, vs, h3, h4⟩ := h
  rcases own_cases h3 with ⟨_, _, h5, _⟩ | ⟨g, cur, h5, _, h6, h7, _, h8, h9⟩
  · omega
  · refine ⟨g, _, h5, ?_, h4 i hi⟩
    intro j v hj
    rw [List.getElem?_take] at hj
    split at hj
    · rename_i hlt
      rw [List.getElem?_drop, ← h9, List.getElem?_take] at hj
      split at hj
      · have : (⟨g, 0 + i * t.size + j, none⟩ : Addr).off = i * t.size + j := by simp
        simp only [World.cell?, h6]
        simpa using hj
      · cases hj
    · cases hj
section
variable {P : Program} {G : Ctx} {H : List HO} {loc : Nat → Loc} {ver : Nat → Nat} {w : World}
theorem loadOp_sound (hI : Inv G H loc ver w) {t : TypeId} {s : SV} {x : Value} {K : SV → Prop} (h : loadOp P t H s K) (hs : Rel (envOf G H loc ver w) s x) :
    ∃ v s', (Instr.loadAt t x).run P w = .ok v w ∧ K s' ∧ Rel (envOf G H loc ver w) s' v := by
  unfold loadOp at h
  cases ha : aggB P t with
  | none => rw [ha] at h; exact h.elim
  | some ag =>
  cases hz : sizeB P t with
  | none => rw [ha, hz] at h; exact h.elim
  | some sz =>
  rw [ha, hz] at h
  simp only at h
  cases hs with
  | ptr nm off _ hn hp =>
    simp only at h
    cases ho : hget H nm with
    | cells l e =>
      rw [ho] at h
      have hO := hI.objs nm _ (hget_some ho (by simp))
      obtain ⟨h0, b, vs, h1, h2, h3⟩ := hO
      obtain ⟨b', hb', rfl⟩ := hp h0
      have e1 : (loc nm).blk = some (b', 0) := hb'
      rw [h1] at e1; cases e1
      have := takeSV_sound (P := P) (base := 0) (b := b) h ha hz h3 (fun j v hj => by simp [World.cell?, h2, hj])
      simpa [envOf] using this
    | _ => rw [ho] at h; exact h.elim
  | elem ty xs i o b off es hi hok hr hrd =>
    simp only [dfK_eq] at h
    have h' := hrd.giv h
    exact takeSV_sound (P := P) h' ha hz hrd.enc hr
  | lelem l i b off vs hl hok hr =>
    exact takeSV_sound (P := P) h ha hz hl hr
  | vptr nm k i z o _ hn h0 hk hp =>
    simp only at h
    cases ho : hget H nm with
    | vec v ty xs e =>
      rw [ho] at h
      simp only at h
      cases hb : (Nat.beq v k && Nat.beq z ty.size) with
      | false => rw [hb] at h; exact h.elim
      | true =>
        rw [hb] at h
        simp only [cond_true] at h
        simp only [Bool.and_eq_true, beq_iff] at hb
        obtain ⟨rfl, rfl⟩ := hb
        have hO := hI.objs nm _ (hget_some ho (by simp))
        have hv : ver nm = v := hO.1
        obtain ⟨hlt, b, off, hbk, rfl⟩ := hp hv.symm
        obtain ⟨b', es, hb', hr, hrd⟩ := vec_elem hO hlt
        have e1 : (loc nm).blk = some (b, off) := hbk
        rw [hb'] at e1; cases e1
        rw [dfK_eq] at h
        have h' := hrd.giv h
        exact takeSV_sound (P := P) h' ha hz hrd.enc hr
    | _ => rw [ho] at h; exact h.elim
  | _ => exact h.elim
end
end Go.Eng
