/-
  One operation, and a region.
-/
import Derived.Test.YtpmbhgmifiianaaEngVV
set_option linter.unusedSimpArgs false
set_option linter.unusedVariables false
namespace Go.Eng
open Go.RowKit

/-! ### Entailment -/
theorem seqEq_spec {t t' : Ty} {xs : List t.T} {ys : List t'.T} (h : seqEq t t' xs ys) : SV.seq t xs = .seq t' ys := by
  unfold seqEq at h
  split at h
  · rename_i e
    subst e
    rw [castK_eq] at h
    simp only at h
    rw [h]
  · exact h.elim
mutual
theorem ent_sound {E : Env} : ∀ {a b : SV}, ent a b → ∀ {v : Value}, Rel E a v → Rel E b v
  | a, b, h, v, hr => by
    unfold ent at h
    split at h
    · exact .any v
    · obtain ⟨rfl, rfl⟩ := h; exact hr
    · subst h; exact hr
    · rename_i q d
      cases hr
      have : (Value.bool true) = .bool (@decide q d) := by simp [h]
      rw [this]; exact .bl _ _
    · rename_i q d
      cases hr
      have : (Value.bool false) = .bool (@decide q d) := by simp [h]
      rw [this]; exact .bl _ _
    · rename_i p d1 q d2
      cases hr
      have : (Value.bool (@decide p d1)) = .bool (@decide q d2) := by
        congr 1
        exact decide_eq_decide.2 h
      rw [this]; exact .bl _ _
    · rename_i p d b
      cases hr
      have : (Value.bool (@decide p d)) = .bool b := by
        congr 1
        cases b
        · simp at h; simp [h]
        · simp at h; simp [h]
      rw [this]; exact .val _ trivial
    · subst h; exact hr
    · subst h; exact hr
    · rw [← seqEq_spec h]; exact hr
    · subst h; cases hr; exact .seq _ _ _ (reads_nil _ _ _)
    · obtain ⟨rfl, rfl⟩ := h; exact hr
    · obtain ⟨rfl, rfl⟩ := h; exact hr
    · subst h; exact hr
    · cases hr with
      | agg _ vs hl => exact .agg _ _ (entL_sound h hl)
    · cases hr with
      | tup _ vs hl => exact .tup _ _ (entL_sound h hl)
    · cases hr with
      | clo _ _ _ va vb ha hb =>
        obtain ⟨rfl, h1, h2⟩ := h
        exact .clo _ _ _ _ _ (entL_sound h1 ha) (entL_sound h2 hb)
    · cases hr with
      | lit _ n b off _ vs hl hn hok hr =>
        obtain ⟨rfl, h1⟩ := h
        exact .lit _ n b off _ vs (entL_sound h1 hl) hn hok hr
    · cases hr with
      | lelem _ i b off vs hl hok hr =>
        obtain ⟨rfl, h1⟩ := h
        exact .lelem _ _ b off vs (entL_sound h1 hl) hok hr
    · exact h.elim
theorem entL_sound {E : Env} : ∀ {l l' : List SV}, ent.entL l l' → ∀ {vs : List Value}, RelL E l vs → RelL E l' vs
  | [], [], _, _, .nil => .nil
  | x :: r, y :: r', h, _, .cons _ _ _ _ h1 h2 => .cons _ _ _ _ (ent_sound h.1 h1) (entL_sound h.2 h2)
end

section
variable {P : Program} {G : Ctx} {H : List HO} {loc : Nat → Loc} {ver : Nat → Nat} {w : World}

theorem pureOK (hI : Inv G H loc ver w) {F : Fence} {o : Oper} {a : Act} {K : SV → List HO → Prop} {v : Value} {s : SV} (hr : (execOp a.eval o).run P w = .ok (.value v) w) (hk : K s H) (hs : Rel (envOf G H loc ver w) s v) :
    OpOK P F o a w (Res G (envOf G H loc ver w) K) := .value _ _ hr (.pure hI hk hs)
theorem conv_sound {E : Env} {s d : TypeId} {x : SV} {v : Value} {K : SV → Prop} (h : convOp P s d x K) (hx : Rel E x v) : ∃ v' s', (convert s d v).run P w = .ok v' w ∧ K s' ∧ Rel E s' v' := by
  unfold convOp at h
  split at h
  · rename_i ks kd k n hs hd
    obtain ⟨rfl, _⟩ := hx.int_inv
    obtain ⟨h1, h2⟩ := chk_inv h
    exact ⟨_, _, by simp [convert, run_underlying hs, run_underlying hd, Conv.intToInt, wrap_in h1], h2, .val _ h1⟩
  · rename_i l hs hd
    cases hx with
    | str _ hl => exact ⟨_, _, by simp [convert, run_underlying hs, run_underlying hd], h, .str _ hl⟩
  · exact h.elim
theorem pick_sound {E : Env} {a b c : SV} {va vb vc : Value} {K : SV → Prop} (h : pickOp a b c K) (ha : Rel E a va) (hb : Rel E b vb) (hc : Rel E c vc) : ∃ bb s, (asBool vc).run P w = .ok bb w ∧ K s ∧ Rel E s (if bb then va else vb) := by
  unfold pickOp at h
  split at h
  · cases hc.bool_inv; rw [hnf_eq] at h; exact ⟨true, _, rfl, h, ha⟩
  · cases hc.bool_inv; rw [hnf_eq] at h; exact ⟨false, _, rfl, h, hb⟩
  · rename_i p d
    cases hc
    simp only [hnf_eq] at h
    by_cases hp : p
    · exact ⟨true, _, by simp [asBool, hp], h.yes hp, ha⟩
    · exact ⟨false, _, by simp [asBool, hp], h.no hp, hb⟩
  · exact h.elim
theorem resolve_val {a : Act} {c : Call} {f : Operand} {t : TypeId} {g : FuncId} {va vb : List Value} (hc : c.callee = .value f) (hf : a.eval f = .func (.func g) ⟨va⟩ ⟨vb⟩) :
    ((do let d ← resolve a.eval c t; invoke d.target d.args) : Sem Next).run P w = (callFunc g ⟨va ++ c.args.toList.map a.eval ++ vb⟩).run P w := by
  have e : (⟨va⟩ ++ c.args.map a.eval ++ ⟨vb⟩ : Array Value) = ⟨va ++ c.args.toList.map a.eval ++ vb⟩ := by
    apply Array.ext'
    simp
  simp only [resolve, hc, hf, Deferred.ofValue, Sem.run_bind, Sem.run_pure, Result.andThen_ok, invoke]
  rw [← e]
theorem run_builtin {a : Act} {c : Call} {b : Builtin} {t : TypeId} (hc : c.callee = .builtin b) :
    ∃ cs : Array Bool, ((do let d ← resolve a.eval c t; invoke d.target d.args) : Sem Next).run P w = (builtin b c.argTypes t cs (c.args.map a.eval)).run P w := by
  refine ⟨c.args.map fun | .const _ => true | _ => false, ?_⟩
  simp only [resolve, hc, Sem.run_bind, Sem.run_pure, Result.andThen_ok, invoke]
  rfl
theorem args_one {c : Call} {a : Act} {x : Operand} (h : c.args.toList = [x]) : c.args.map a.eval = #[a.eval x] := by
  apply Array.ext'; simp [h]
theorem args_two {c : Call} {a : Act} {x y : Operand} (h : c.args.toList = [x, y]) : c.args.map a.eval = #[a.eval x, a.eval y] := by
  apply Array.ext'; simp [h]

/-- What is known of the rounds of an iterator's caller. -/
def YOK (P : Program) (t : Itr) : Prop := ∀ k M W us, k < t.n → t.J (some k) M W → RelL (env0 W fun _ => False) (t.items k) us →
  YieldAt Fence.wide 0 P t.l ⟨us⟩ W fun e W' => ∃ b, e = .returned (.bool b) ∧ t.J (if b = true then some (k + 1) else none) M W' ∧ Kept (fun c => t.ok c ∨ M c) W W'
theorem flat1_rel {E E' : Env} {s : SV} {v : Value} (h : Rel E s v) : Rel E' (flat1 s) v := by
  cases h with
  | val _ h => exact .val v h
  | bl p d => exact .bl p d
  | str s h => exact .str s h
  | _ => exact .any _
theorem flat1s_rel {E E' : Env} : ∀ {l : List SV} {vs : List Value}, RelL E l vs → RelL E' (l.map flat1) vs
  | _, _, .nil => .nil
  | _, _, .cons _ _ _ _ h hl => .cons _ _ _ _ (flat1_rel h) (flat1s_rel hl)
theorem flatV_rel {E E' : Env} {s : SV} {v : Value} (h : Rel E s v) : Rel E' (flatV s) v := by
  cases s with
  | agg l => cases h with
    | agg _ vs hl => exact .agg _ _ (flat1s_rel hl)
  | _ => exact flat1_rel h
theorem flatVs_rel {E E' : Env} {N : Nat} {l : List (Nat × SV)} {a : Act} (hT : TRel E N l a) : ∀ xs : List Operand, RelL E' (xs.map fun x => flatV (Eng.ev l x)) (xs.map a.eval)
  | [] => .nil
  | x :: xs => .cons _ _ _ _ (flatV_rel (ev_rel hT x)) (flatVs_rel hT xs)
/-- A round has been asked for, and has been. -/
theorem yield_sound (hY : YOK P G.itr) (hI : Inv G H loc ver w) {k n : Nat} {items : Nat → List SV} {us : List Value} (ho : hget H 0 = .yst (some k) n items) (hk : k < n) (hu : RelL (env0 w fun _ => False) (items k) us)
    {K : SV → List HO → Prop} (h1 : K (.val (.bool true)) (hset H 0 (.yst (some (k + 1)) n items))) (h2 : K (.val (.bool false)) (hset H 0 (.yst none n items))) :
    YieldAt Fence.wide 0 P G.itr.l ⟨us⟩ w fun e w' => ∃ v, e = .returned v ∧ Res G (envOf G H loc ver w) K v w' := by
  have hn' := hget_some ho (by simp)
  have hlt : 0 < H.length := (List.getElem?_eq_some_iff.1 hn').1
  obtain ⟨hv, hal, hn0, hn, hit, hok, hJ⟩ := hI.objs 0 _ hn'
  have hn0' : G.itr.n0 ≤ w.heap.size := hn0
  have hn2 : n = G.itr.n := hn
  have hit2 : items = G.itr.items := hit
  subst hn2
  subst hit2
  refine (hY k _ w us hk hJ hu).mono ?_
  rintro e w' ⟨b, rfl, hJ', hK⟩
  refine ⟨_, rfl, ?_⟩
  have key : ∀ st, G.itr.J st (fun b => G.itr.n0 ≤ b ∧ b < w.heap.size ∧ ¬ (loc 0).al b) w' →
      ∃ loc' ver', Inv G (hset H 0 (.yst st G.itr.n G.itr.items)) loc' ver' w' ∧ Ext (envOf G H loc ver w) (envOf G (hset H 0 (.yst st G.itr.n G.itr.items)) loc' ver' w') := by
    intro st hst
    refine ⟨upd loc 0 { loc 0 with al := fun b => (loc 0).al b ∨ (w.heap.size ≤ b ∧ b < w'.heap.size) }, upd ver 0 (ver 0 + 1), ?_⟩
    refine hI.turn 0 (by simp [hset]) (fun k hk => ⟨get_set_other hk, upd_other _ _ _ hk, upd_other _ _ _ hk⟩) (fun _ => hasB_of (get_set_same hlt) rfl) (fun _ => .inr ⟨hv, by rw [upd_same]; omega⟩) hK.size hK.os hK.tape hK.output
      (by rw [hn']; intro h; cases h) (fun _ => by first | rw [show hset H nm _ = H.set nm _ from rfl, get_set_same hlt]; intro h; cases h | rw [show hset H 0 _ = H.set 0 _ from rfl, get_set_same hlt]; intro h; cases h) ?_ ?_ ?_ ?_
    · intro st' n' it' b hb hb2
      rw [upd_same] at hb2
      rcases hb2 with h | h
      · exact .inl ⟨_, _, _, hn', h⟩
      · exact .inr h.1
    · intro b hb hno
      have hna : ¬ (loc 0).al b := hno _ hn'
      refine hK.blk b ?_ hb
      by_cases hlt : b < G.itr.n0
      · exact .inl (hok b hlt hna).1
      · exact .inr ⟨Nat.le_of_not_lt hlt, hb, hna⟩
    · intro o' b ho' hb
      rw [show hset H 0 _ = H.set 0 _ from rfl, get_set_same hlt] at ho'; cases ho'
      rw [upd_same] at hb
      rcases hb with h | h
      · exact .inl ⟨_, hn', h⟩
      · exact .inr h.1
    · intro hx o' ho'
      rw [show hset H 0 (.yst st G.itr.n G.itr.items) = H.set 0 _ from rfl, get_set_same hlt] at ho'; cases ho'
      rw [upd_same, upd_same]
      refine ⟨Nat.succ_pos _, ?_, Nat.le_trans hn0 hK.size, rfl, rfl, fun b hb hna => ?_, ?_⟩
      · rintro b (h | h)
        · exact Nat.lt_of_lt_of_le (hal b h) hK.size
        · exact h.2
      · obtain ⟨h1, h2⟩ := hok b hb (fun h => hna (.inl h))
        exact ⟨h1, hx.ok b h2⟩
      · refine cast (congrArg (fun M => G.itr.J st M w') (funext fun b => propext ⟨?_, ?_⟩)) hst
        · rintro ⟨h3, h4, h5⟩
          have h4' : b < w.heap.size := h4
          exact ⟨h3, Nat.lt_of_lt_of_le h4 hK.size, fun h => h.elim h5 fun h => by have := h.1; omega⟩
        · rintro ⟨h3, h4, h5⟩
          have h4' : b < w'.heap.size := h4
          by_cases h6 : b < w.heap.size
          · exact ⟨h3, h6, fun h => h5 (.inl h)⟩
          · exact (h5 (.inr ⟨by omega, h4'⟩)).elim
  cases b with
  | true =>
    obtain ⟨loc', ver', h3, h4⟩ := key _ hJ'
    exact ⟨_, _, loc', ver', h1, h3, .val _ trivial, h4⟩
  | false =>
    obtain ⟨loc', ver', h3, h4⟩ := key _ hJ'
    exact ⟨_, _, loc', ver', h2, h3, .val _ trivial, h4⟩
theorem resolve_yield {a : Act} {c : Call} {f : Operand} {t : TypeId} {l : Nat} (hc : c.callee = .value f) (hf : a.eval f = .func (.yield l) #[] #[]) :
    ((do let d ← resolve a.eval c t; invoke d.target d.args) : Sem Next).run P w = (Instr.yield l ⟨c.args.toList.map a.eval⟩).run P w := by
  have e : (#[] ++ c.args.map a.eval ++ #[] : Array Value) = ⟨c.args.toList.map a.eval⟩ := by
    apply Array.ext'
    simp
  simp only [resolve, hc, hf, Deferred.ofValue, Sem.run_bind, Sem.run_pure, Result.andThen_ok, invoke]
  rw [← e, Array.append_empty]
theorem Rel.seq_inv {E : Env} {t : Ty} {xs : List t.T} {v : Value} (h : Rel E (.seq t xs) v) : ∃ a n c, v = .slice a n c ∧ (a = none → xs = []) := by
  cases h with
  | seq _ _ _ hr =>
    obtain ⟨a, n, c, e, hn, _, _, hall⟩ := hr
    cases e
    refine ⟨a, n, c, rfl, fun ha => ?_⟩
    have hn' : n = List.length xs := hn
    by_cases h0 : 0 < n
    · obtain ⟨b, off, hb, _⟩ := hall h0
      rw [ha] at hb; cases hb
    · exact List.eq_nil_of_length_eq_zero (by omega)
theorem Rel.nil_inv {E : Env} {v : Value} (h : Rel E (.val (.slice none 0 0)) v) : v = .slice none 0 0 := by cases h; rfl
theorem Rel.str_inv {E : Env} {s : List UInt8} {v : Value} (h : Rel E (.str s) v) : v = .string ⟨s.toArray⟩ := by cases h; rfl
def boolSV : SV → Prop → Prop
  | .val (.bool b), p => p ↔ b = true
  | .bl q _, p => p ↔ q
  | _, _ => False
theorem Rel.bool_is {E : Env} {s : SV} {v : Value} (h : Rel E s v) {p : Prop} (hs : boolSV s p) : ∃ b : Bool, v = .bool b ∧ (p ↔ b = true) := by
  cases h with
  | val v hv => cases v <;> first | exact ⟨_, rfl, hs⟩ | exact hs.elim
  | bl q d => exact ⟨_, rfl, by simpa [boolSV] using hs⟩
  | _ => exact hs.elim
theorem run_eqGuard_slice (op : BinOp) (t : TypeId) (x y : Operand) (a b : Option Addr) (n c n' c' : Nat) : (eqGuard op t x y (.slice a n c) (.slice b n' c')).run P w = .ok () w := by
  unfold eqGuard; split <;> rfl
theorem run_eqGuard_str (op : BinOp) (t : TypeId) (x y : Operand) (a b : ByteArray) : (eqGuard op t x y (.string a) (.string b)).run P w = .ok () w := by
  unfold eqGuard; split <;> rfl
theorem run_eqGuard_bool (op : BinOp) (t : TypeId) (x y : Operand) (a b : Bool) : (eqGuard op t x y (.bool a) (.bool b)).run P w = .ok () w := by
  unfold eqGuard; split <;> rfl
theorem nilOp_sound {E : Env} {op : BinOp} {t : TypeId} {a : Option Addr} {n c : Nat} {p : Prop} {K : SV → Prop} (ht : isSlice P t = true) (h : nilOp op p K) (hp : a = none → p) :
    ∃ v s, (binOp op t (.slice a n c) (.slice none 0 0)).run P w = .ok v w ∧ K s ∧ Rel E s v := by
  unfold isSlice at ht
  split at ht
  · rename_i e hu
    have hd : ∀ q : Prop, ∀ b : Bool, (q ↔ b = true) → Rel E (.bl q (Classical.propDecidable q)) (.bool b) := fun q b hq => by
      have : b = @decide q (Classical.propDecidable q) := by cases b <;> simp_all
      rw [this]; exact .bl _ _
    unfold nilOp at h
    split at h
    · refine ⟨.bool a.isNone, _, ?_, h (a = none) hp, hd _ _ (by cases a <;> simp)⟩
      simp only [binOp]; simp [run_equal_slice_nil w t e a n c hu]
    · refine ⟨.bool (!a.isNone), _, ?_, h (¬ a = none) (fun hq => hp (Classical.not_not.1 hq)), hd _ _ (by cases a <;> simp)⟩
      simp only [binOp]; simp [run_equal_slice_nil w t e a n c hu]
    · exact h.elim
  · cases ht
theorem strOp_sound {E : Env} {op : BinOp} (t : TypeId) {s s' : List UInt8} {K : SV → Prop} (h : strOp op s s' K) :
    ∃ v u, (binOp op t (.string ⟨s.toArray⟩) (.string ⟨s'.toArray⟩)).run P w = .ok v w ∧ K u ∧ Rel E u v := by
  unfold strOp at h
  split at h
  · refine ⟨.bool (decide (s = s')), _, ?_, h, .bl _ _⟩
    simp [binOp, Op.stringOp, bytes_list]
    exact Bool.eq_iff_iff.2 (by simp)
  · refine ⟨.bool (decide (¬ s = s')), _, ?_, h, .bl _ _⟩
    simp [binOp, Op.stringOp, bytes_list]
    exact Bool.eq_iff_iff.2 (by simp)
  · obtain ⟨h1, h2⟩ := h
    refine ⟨.string ⟨(s ++ s').toArray⟩, _, ?_, h2, .str _ (by simpa using h1)⟩
    have e1 : (⟨s.toArray⟩ : ByteArray).size = s.length := by simp [ByteArray.size]
    have e2 : (⟨s'.toArray⟩ : ByteArray).size = s'.length := by simp [ByteArray.size]
    have e3 : (⟨s.toArray⟩ : ByteArray) ++ ⟨s'.toArray⟩ = ⟨(s ++ s').toArray⟩ := by
      apply WideShapes.bytes_inj; simp [ByteArray.data_append]
    have e4 : ¬ (IntKind.i64.max < ((s.length + s'.length : Nat) : Int)) := by
      simp [IntKind.max, IntKind.bits, IntKind.signed]; omega
    simp only [binOp, Op.stringOp, e1, e2, e3]
    rw [if_neg e4]
    simp
  · refine ⟨.bool (decide (Op.bytesLess s s' = true)), _, ?_, h, .bl _ _⟩
    simp [binOp, Op.stringOp, bytes_list]
  · exact h.elim
theorem boolOp_sound {E : Env} {op : BinOp} {t : TypeId} {p q : Prop} {a b : Bool} {K : SV → Prop} (ht : isBool P t = true) (h : boolOp op p q K) (hp : p ↔ a = true) (hq : q ↔ b = true) :
    ∃ v s, (binOp op t (.bool a) (.bool b)).run P w = .ok v w ∧ K s ∧ Rel E s v := by
  unfold isBool at ht
  split at ht
  · rename_i hu
    have hd : ∀ q : Prop, ∀ b : Bool, (q ↔ b = true) → Rel E (.bl q (Classical.propDecidable q)) (.bool b) := fun q b hq => by
      have : b = @decide q (Classical.propDecidable q) := by cases b <;> simp_all
      rw [this]; exact .bl _ _
    unfold boolOp at h
    split at h
    · exact ⟨.bool (a == b), _, run_eql_bool w t a b hu, h, hd _ _ (by rw [hp, hq]; cases a <;> cases b <;> simp)⟩
    · exact ⟨.bool (!(a == b)), _, run_neq_bool w t a b hu, h, hd _ _ (by rw [hp, hq]; cases a <;> cases b <;> simp)⟩
    · exact h.elim
  · cases ht
theorem maxAll_run {E : Env} {k : IntKind} : ∀ {r : List SV} {vs : List Value} {p : Int} {K : SV → Prop}, maxAll k p r K → inK k p → RelL E r vs →
    ∃ v s, (vs.foldlM Builtin.max2 (.int k p) : Sem Value).run P w = .ok v w ∧ K s ∧ Rel E s v
  | [], _, p, K, h, hp, .nil => ⟨_, _, by simp, h, .val _ hp⟩
  | s :: r, _, p, K, h, hp, .cons _ v _ vs hv hl => by
    unfold maxAll at h
    split at h
    · rename_i e; cases e
    · rename_i k' q r' e
      cases e
      obtain ⟨hb, hK⟩ := bif_true h
      have hb := of_decide_eq_true hb
      subst hb
      obtain ⟨e1, hq⟩ := hv.int_inv
      obtain ⟨v', s', h1, h2, h3⟩ := maxAll_run hK (inK_max hp hq) hl
      refine ⟨v', s', ?_, h2, h3⟩
      rw [e1, List.foldlM_cons]
      have e2 : (Builtin.max2 (.int k p) (.int k q)).run P w = .ok (.int k (max p q)) w := by
        simp only [Builtin.max2, Sem.run_pure]
        congr 2
        split <;> omega
      simp only [Sem.run_bind, e2, Result.andThen_ok]
      exact h1
    · exact h.elim
theorem maxAll_sound {E : Env} {k : IntKind} {p : Int} {r : List SV} {vs : List Value} {K : SV → Prop} (ts : Array TypeId) (t : TypeId) (h : maxAll k p r K) (hr : RelL E (.val (.int k p) :: r) vs) :
    ∃ v s, (Builtin.max_ ts t ⟨vs⟩).run P w = .ok v w ∧ K s ∧ Rel E s v := by
  cases hr with
  | cons _ v _ vs hv hl =>
    obtain ⟨rfl, hp⟩ := hv.int_inv
    exact maxAll_run h hp hl
theorem minAll_run {E : Env} {k : IntKind} : ∀ {r : List SV} {vs : List Value} {p : Int} {K : SV → Prop}, minAll k p r K → inK k p → RelL E r vs →
    ∃ v s, (vs.foldlM Builtin.min2 (.int k p) : Sem Value).run P w = .ok v w ∧ K s ∧ Rel E s v
  | [], _, p, K, h, hp, .nil => ⟨_, _, by simp, h, .val _ hp⟩
  | s :: r, _, p, K, h, hp, .cons _ v _ vs hv hl => by
    unfold minAll at h
    split at h
    · rename_i e; cases e
    · rename_i k' q r' e
      cases e
      obtain ⟨hb, hK⟩ := bif_true h
      have hb := of_decide_eq_true hb
      subst hb
      obtain ⟨e1, hq⟩ := hv.int_inv
      obtain ⟨v', s', h1, h2, h3⟩ := minAll_run hK (inK_min hp hq) hl
      refine ⟨v', s', ?_, h2, h3⟩
      rw [e1, List.foldlM_cons]
      have e2 : (Builtin.min2 (.int k p) (.int k q)).run P w = .ok (.int k (min p q)) w := by
        simp only [Builtin.min2, Sem.run_pure]
        congr 2
        split <;> omega
      simp only [Sem.run_bind, e2, Result.andThen_ok]
      exact h1
    · exact h.elim
theorem minAll_sound {E : Env} {k : IntKind} {p : Int} {r : List SV} {vs : List Value} {K : SV → Prop} (ts : Array TypeId) (t : TypeId) (h : minAll k p r K) (hr : RelL E (.val (.int k p) :: r) vs) :
    ∃ v s, (Builtin.min_ ts t ⟨vs⟩).run P w = .ok v w ∧ K s ∧ Rel E s v := by
  cases hr with
  | cons _ v _ vs hv hl =>
    obtain ⟨rfl, hp⟩ := hv.int_inv
    exact minAll_run h hp hl
theorem intF_use {f : Field} {off : Nat} {k : IntKind} (h : intF P f off k = true) : f.offset = off ∧ P.underlying f.type = some (.int k) := by
  unfold intF at h
  rw [Bool.and_eq_true] at h
  obtain ⟨h1, h2⟩ := h
  refine ⟨beq_iff.1 h1, ?_⟩
  split at h2
  · rename_i q hq; rw [hq, of_decide_eq_true h2]
  · cases h2
theorem run_part_int {e : TypeId} {q : IntKind} (hu : P.underlying e = some (.int q)) {xs : Array Value} {off : Nat} {v : Value} (hx : xs[off]? = some v) : (part e xs off).run P w = .ok v w := by
  simp [part, isAgg, run_underlying hu, hx]
theorem eqPair_sound {t : TypeId} {op : BinOp} {k k' : IntKind} {a b c d : Int} {K : SV → Prop} (h : eqPairOp P t op k k' a b c d K) (E : Env) (x y : Operand) :
    (eqGuard op t x y (.agg #[.int k a, .int k' b]) (.agg #[.int k c, .int k' d])).run P w = .ok () w ∧ ∃ v s, (binOp op t (.agg #[.int k a, .int k' b]) (.agg #[.int k c, .int k' d])).run P w = .ok v w ∧ K s ∧ Rel E s v := by
  unfold eqPairOp at h
  split at h
  case h_2 => exact h.elim
  rename_i fs hu
  split at h
  case h_2 => exact h.elim
  rename_i f g hfs
  obtain ⟨hb, ⟨⟨n1, n2, n3⟩, hk⟩⟩ := bif_true h
  rw [Bool.and_eq_true] at hb
  obtain ⟨hb1, hb2⟩ := hb
  obtain ⟨o1, u1⟩ := intF_use hb1
  obtain ⟨o2, u2⟩ := intF_use hb2
  have hfo : P.fieldsOf t = fs := by unfold Program.fieldsOf; rw [hu]
  have hfa : fs = #[f, g] := by apply Array.ext'; simpa using hfs
  have hg : P.eqGuardType P.depth t = false := by
    unfold Program.depth
    rw [show 2 * (P.types.size + Made.depth) + 2 = (2 * (P.types.size + Made.depth) + 1) + 1 from rfl]
    simp only [Program.eqGuardType, hu, hfa]
    simp [Program.eqGuardType, u1, u2]
  refine ⟨run_eqGuard_agg w op t x y _ _ hg, ?_⟩
  have heq : (Op.equalIn 10000 t (.agg #[.int k a, .int k' b]) (.agg #[.int k c, .int k' d])).run P w = .ok (decide (a = c) && decide (b = d)) w := by
    rw [show (10000 : Nat) = 9999 + 1 from rfl, run_equalIn_struct w 9999 t _ _ (by rw [hfo]; exact hu) n3, hfo, hfs]
    have p1 : ∀ w : World, (part f.type #[.int k a, .int k' b] f.offset).run P w = .ok (.int k a) w := fun w => run_part_int u1 (by rw [o1]; rfl)
    have p2 : ∀ w : World, (part f.type #[.int k c, .int k' d] f.offset).run P w = .ok (.int k c) w := fun w => run_part_int u1 (by rw [o1]; rfl)
    have p3 : ∀ w : World, (part g.type #[.int k a, .int k' b] g.offset).run P w = .ok (.int k' b) w := fun w => run_part_int u2 (by rw [o2]; rfl)
    have p4 : ∀ w : World, (part g.type #[.int k c, .int k' d] g.offset).run P w = .ok (.int k' d) w := fun w => run_part_int u2 (by rw [o2]; rfl)
    have q1 : ∀ w : World, (Op.equalIn 9999 f.type (.int k a) (.int k c)).run P w = .ok (a == c) w := fun w => run_equalIn_int w 9998 f.type k k a c u1
    have q2 : ∀ w : World, (Op.equalIn 9999 g.type (.int k' b) (.int k' d)).run P w = .ok (b == d) w := fun w => run_equalIn_int w 9998 g.type k' k' b d u2
    simp only [Op.eqFields, n1, n2, ne_eq, not_false_eq_true, if_true, Sem.run_bind, p1, p2, p3, p4, q1, q2, Result.andThen_ok, Sem.run_ite]
    by_cases e1 : a = c
    · by_cases e2 : b = d
      · simp [e1, e2]
      · simp [e1, e2]
    · simp [e1]
  cases op <;> simp only at hk
  case eql => exact ⟨_, _, by rw [run_eql_struct, heq]; rfl, hk, by rw [← Bool.decide_and]; exact .bl _ _⟩
  case neq => exact ⟨_, _, by rw [run_neq_struct, heq]; rfl, hk, by rw [← Bool.decide_and, ← decide_not]; exact .bl _ _⟩
theorem cst_nil {u : Value} (h : SV.val (.slice none 0 0) = cst u) : u = .slice none 0 0 := by
  unfold cst at h
  split at h
  · rename_i k n
    cases hq : (decide (lo k ≤ n) && decide (n ≤ hi k)) with
    | true => rw [hq] at h; cases h
    | false => rw [hq] at h; cases h
  · rename_i s
    cases hq : Nat.ble s.data.toList.length 140737488355328 with
    | true => rw [hq] at h; cases h
    | false => rw [hq] at h; cases h
  · injection h with h; exact h.symm
theorem op1_sound (hY : YOK P G.itr) {Γ : List Con} (hΓ : ∀ c ∈ Γ, ConOK P c) {F : Fence} (hF : Opn F) (hI : Inv G H loc ver w) {N : Nat} {l : List (Nat × SV)} {a : Act} (hT : TRel (envOf G H loc ver w) N l a) {o : Oper} {K : SV → List HO → Prop}
    (h : op1 P Γ o l H K) : (∀ c, o.op ≠ .defer c) ∧ OpOK P F o a w (Res G (envOf G H loc ver w) K) := by
  have ev := fun x => ev_rel hT x
  unfold op1 at h
  cases ho : o.op with
  | move x =>
    simp only [ho, hnf_eq] at h
    exact ⟨by simp, pureOK hI (by simp [execOp, ho]) h (ev x)⟩
  | assign x =>
    simp only [ho] at h
    refine ⟨by simp, ?_⟩
    cases hn : nilOf P o.type x with
    | none =>
      rw [hn] at h
      simp only [hnf_eq] at h
      exact pureOK hI (by simp [execOp, ho]) h (ev x)
    | some p =>
      obtain ⟨ty, e⟩ := p
      rw [hn] at h
      simp only [force_eq] at h
      have hx : x = .const (.slice none 0 0) := by
        unfold nilOf at hn
        split at hn
        · rfl
        · cases hn
      subst hx
      have hf := hI.fresh (w' := w) (.vec 1 ty [] e) (mkL none 0 0) 1 (Nat.le_refl _) rfl rfl rfl (fun _ _ => rfl) (by intro b hb; simp [Owns] at hb)
        (fun hx => ⟨rfl, Nat.one_pos, rfl, Nat.zero_le _, [], ⟨by simp, .inl ⟨rfl, rfl⟩⟩, fun i hi => absurd hi (Nat.not_lt_zero _)⟩)
      refine .value (.slice none 0 0) w (by simp [execOp, ho, Act.eval]) ⟨_, _, _, _, h, hf.1, ?_, hf.2⟩
      refine .ref _ _ _ (by exact hasB_new rfl) Nat.one_pos (by simp [envOf, upd_same]) fun _ => ?_
      simp [envOf, upd_same, Core.head]
  | pick c x y =>
    simp only [ho] at h
    obtain ⟨b, s, h1, h2, h3⟩ := pick_sound (P := P) (w := w) h (ev x) (ev y) (ev c)
    exact ⟨by simp, pureOK hI (by simp [execOp, ho, h1]) h2 h3⟩
  | binOp op t x y yt =>
    simp only [ho] at h
    have e1 := ev x
    have e2 := ev y
    split at h
    · rename_i k p k' q h1 h2
      rw [h1] at e1; rw [h2] at e2
      obtain ⟨e3, hp⟩ := e1.int_inv
      obtain ⟨e4, hq⟩ := e2.int_inv
      cases hsh : isShift op with
      | true =>
        rw [hsh] at h
        simp only [cond_true] at h
        obtain ⟨v, s, h3, h4, h5⟩ := shiftOp_sound (P := P) (w := w) (E := envOf G H loc ver w) (k' := k') h hp t
        exact ⟨by simp, pureOK hI (by simp [execOp, ho, e3, e4, run_eqGuard_int, h3]) h4 h5⟩
      | false =>
      rw [hsh] at h
      simp only [cond_false] at h
      obtain ⟨hb, hK⟩ := bif_true h
      have hb := of_decide_eq_true hb
      subst hb
      obtain ⟨v, s, h3, h4, h5⟩ := intOp_sound (P := P) (w := w) (E := envOf G H loc ver w) hK hp hq t
      exact ⟨by simp, pureOK hI (by simp [execOp, ho, e3, e4, run_eqGuard_int, h3]) h4 h5⟩
    · rename_i ty xs h1 h2
      obtain ⟨hb, hK⟩ := bif_true h
      rw [h1] at e1; rw [h2] at e2
      obtain ⟨a0, n, c, e3, hx⟩ := e1.seq_inv
      have e4 := e2.nil_inv
      obtain ⟨v, s, h3, h4, h5⟩ := nilOp_sound (P := P) (w := w) (E := envOf G H loc ver w) (t := t) (a := a0) (n := n) (c := c) hb hK hx
      exact ⟨by simp, pureOK hI (by simp [execOp, ho, e3, e4, run_eqGuard_slice, h3]) h4 h5⟩
    · rename_i nm k h1 h2
      have hrf : ∀ (ty : Ty) (xs : List ty.T), Rel (envOf G H loc ver w) (.seq ty xs) (a.eval x) → ∃ a0 n c, a.eval x = .slice a0 n c ∧ (a0 = none → xs = []) := fun ty xs hr => hr.seq_inv
      rw [h1] at e1; rw [h2] at e2
      have e4 := e2.nil_inv
      split at h
      · rename_i v ty xs e ho'
        obtain ⟨hb, hK⟩ := bif_true h
        obtain ⟨hb, hv⟩ : _ = true ∧ _ = true := by simpa only [Bool.and_eq_true] using hb
        have e5 := view_ref_lend hI e1
        simp only [view, ho', hv, Bool.true_and, cond_true] at e5
        obtain ⟨a0, n, c, e3, hx⟩ := e5.seq_inv
        obtain ⟨v, s, h3, h4, h5⟩ := nilOp_sound (P := P) (w := w) (E := envOf G H loc ver w) (t := t) (a := a0) (n := n) (c := c) hb hK hx
        exact ⟨by simp, pureOK hI (by simp [execOp, ho, e3, e4, run_eqGuard_slice, h3]) h4 h5⟩
      · rename_i v ty xs ho'
        obtain ⟨hb, hK⟩ := bif_true h
        obtain ⟨hb, hv⟩ : _ = true ∧ _ = true := by simpa only [Bool.and_eq_true] using hb
        have e5 := view_ref_lend hI e1
        simp only [view, ho', hv, cond_true] at e5
        obtain ⟨a0, n, c, e3, hx⟩ := e5.seq_inv
        obtain ⟨v, s, h3, h4, h5⟩ := nilOp_sound (P := P) (w := w) (E := envOf G H loc ver w) (t := t) (a := a0) (n := n) (c := c) hb hK hx
        exact ⟨by simp, pureOK hI (by simp [execOp, ho, e3, e4, run_eqGuard_slice, h3]) h4 h5⟩
      · exact h.elim
    · rename_i h1 h2
      obtain ⟨hb, hK⟩ := bif_true h
      rw [h1] at e1; rw [h2] at e2
      have e3 := e1.nil_inv
      have e4 := e2.nil_inv
      obtain ⟨v, s, h3, h4, h5⟩ := nilOp_sound (P := P) (w := w) (E := envOf G H loc ver w) (t := t) (a := none) (n := 0) (c := 0) hb hK (fun _ => trivial)
      exact ⟨by simp, pureOK hI (by simp [execOp, ho, e3, e4, run_eqGuard_slice, h3]) h4 h5⟩
    · rename_i s1 s2 h1 h2
      rw [h1] at e1; rw [h2] at e2
      have e3 := e1.str_inv
      have e4 := e2.str_inv
      obtain ⟨v, s, h3, h4, h5⟩ := strOp_sound (P := P) (w := w) (E := envOf G H loc ver w) t h
      exact ⟨by simp, pureOK hI (by simp [execOp, ho, e3, e4, run_eqGuard_str, h3]) h4 h5⟩
    all_goals (try exact h.elim)
    rotate_left 4
    · rename_i k a1 k' b1 j c1 j' d1 h1 h2
      obtain ⟨hb, hK⟩ := bif_true h
      rw [Bool.and_eq_true] at hb
      obtain ⟨hb1, hb2⟩ := hb
      have hb1 := of_decide_eq_true hb1
      have hb2 := of_decide_eq_true hb2
      subst hb1 hb2
      rw [h1] at e1; rw [h2] at e2
      have inv : ∀ {k k' : IntKind} {a1 b1 : Int} {v : Value}, Rel (envOf G H loc ver w) (.agg [.val (.int k a1), .val (.int k' b1)]) v → v = .agg #[.int k a1, .int k' b1] := fun hr => by
        cases hr with
        | agg _ vs hl =>
          cases hl with
          | cons _ _ _ _ r1 hl =>
            cases hl with
            | cons _ _ _ _ r2 hl =>
              cases hl
              obtain ⟨rfl, _⟩ := r1.int_inv
              obtain ⟨rfl, _⟩ := r2.int_inv
              rfl
      have e3 := inv e1
      have e4 := inv e2
      obtain ⟨g1, v, s, h3, h4, h5⟩ := eqPair_sound (P := P) (w := w) hK (envOf G H loc ver w) x y
      exact ⟨by simp, pureOK hI (by simp [execOp, ho, e3, e4, g1, h3]) h4 h5⟩
    all_goals
      rename_i h1 h2
      obtain ⟨hb, hK⟩ := bif_true h
      rw [h1] at e1; rw [h2] at e2
      obtain ⟨b1, e3, q1⟩ := e1.bool_is Iff.rfl
      obtain ⟨b2, e4, q2⟩ := e2.bool_is Iff.rfl
      obtain ⟨v, s, h3, h4, h5⟩ := boolOp_sound (P := P) (w := w) (E := envOf G H loc ver w) (t := t) hb hK q1 q2
      exact ⟨by simp, pureOK hI (by simp [execOp, ho, e3, e4, run_eqGuard_bool, h3]) h4 h5⟩
  | unOp op t x =>
    have e1 := ev x
    cases op with
    | not =>
      simp only [ho] at h
      split at h
      · rename_i h1; rw [h1] at e1
        exact ⟨by simp, pureOK hI (by simp [execOp, ho, e1.bool_inv, Op.unary]) h (.val _ trivial)⟩
      · rename_i h1; rw [h1] at e1
        exact ⟨by simp, pureOK hI (by simp [execOp, ho, e1.bool_inv, Op.unary]) h (.val _ trivial)⟩
      · rename_i p d h1; rw [h1] at e1
        generalize hv : a.eval x = v at e1
        cases e1
        refine ⟨by simp, pureOK hI (v := .bool (decide (¬ p))) (by simp [execOp, ho, hv, Op.unary]) h (.bl _ _)⟩
      · exact h.elim
    | neg =>
      simp only [ho] at h
      split at h
      · rename_i k n h1; rw [h1] at e1
        obtain ⟨e2, hn⟩ := e1.int_inv
        obtain ⟨h2, h3⟩ := chk_inv h
        exact ⟨by simp, pureOK hI (by simp [execOp, ho, e2, Op.unary, Op.intArith, wrap_in h2]) h3 (.val _ h2)⟩
      · exact h.elim
    | _ => simp only [ho] at h
  | convert s d x =>
    simp only [ho] at h
    obtain ⟨v, s', h1, h2, h3⟩ := conv_sound (P := P) (w := w) h (ev x)
    exact ⟨by simp, pureOK hI (by simp [execOp, ho, h1]) h2 h3⟩
  | alloc t =>
    simp only [ho] at h
    split at h
    · rename_i ty e hn
      simp only [force_eq] at h
      have hz : zerosB P t = some [.val (.slice none 0 0)] := by
        unfold allocNil at hn
        split at hn
        · assumption
        · cases hn
      obtain ⟨v, hv, hz'⟩ := run_zeroOf hz w
      have hv1 : v.cells.toList = [.slice none 0 0] := by
        cases hl : v.cells.toList with
        | nil => rw [hl] at hz'; cases hz'
        | cons u r =>
          rw [hl] at hz'
          simp only [List.map_cons, List.cons.injEq] at hz'
          obtain ⟨h1, h2⟩ := hz'
          have hr : r = [] := by
            cases r with
            | nil => rfl
            | cons _ _ => cases h2
          subst hr
          rw [cst_nil h1]
      have hf := hI.fresh (w' := w) (.vec 1 ty [] e) (mkL none 0 0) 1 (Nat.le_refl _) rfl rfl rfl (fun _ _ => rfl) (by intro b hb; simp [Owns] at hb)
        (fun hx => ⟨rfl, Nat.one_pos, rfl, Nat.zero_le _, [], ⟨by simp, .inl ⟨rfl, rfl⟩⟩, fun i hi => absurd hi (Nat.not_lt_zero _)⟩)
      obtain ⟨s, H', loc', ver', r1, r2, r3, r4⟩ := newCells (vs := [.slice none 0 0]) hf.1 (.cons _ _ _ _ (.ref _ _ _ (by exact hasB_new rfl) Nat.one_pos (by simp [envOf, upd_same]) fun _ => by simp [envOf, upd_same, Core.head]) .nil) t h
      refine ⟨by simp, .value _ _ (by
        have hc : v.cells = (⟨[.slice none 0 0]⟩ : Array Value) := by apply Array.ext'; simpa using hv1
        have hra := run_alloc (P := P) hv
        rw [hc] at hra
        simp [execOp, ho, hra]) ⟨s, H', loc', ver', r1, r2, r3, hf.2.trans r4⟩⟩
    split at h
    · rename_i z hz
      rw [force_eq] at h
      obtain ⟨v, hv, rfl⟩ := run_zeroOf hz w
      exact ⟨by simp, .value _ _ (by simp [execOp, ho, run_alloc hv]) (newCells hI (csts_rel _ _) t h)⟩
    · exact h.elim
  | box t x =>
    simp only [ho] at h
    obtain ⟨hb, h⟩ := bif_true h
    rw [force_eq] at h
    exact ⟨by simp, .value _ _ (by simp [execOp, ho, run_box]) (newCells hI (cells_rel hI (ev x) hb) t h)⟩
  | build t ps =>
    simp only [ho] at h
    obtain ⟨hb, h⟩ := bif_true h
    have hp := parts_rel hI hT ps.toList hb
    obtain ⟨v, s, h1, h2, h3⟩ := buildOp_sound (P := P) (w := w) rfl h hp
    have e : ps.map (fun p => (p.1, a.eval p.2)) = (ps.toList.map fun p => (p.1, a.eval p.2)).toArray := by apply Array.ext'; simp
    exact ⟨by simp, pureOK hI (v := v) (by
      simp only [execOp, ho]
      rw [show (ps.map fun (x : Nat × Operand) => match x with | (i, x) => (i, a.eval x)) = (ps.toList.map fun p => (p.1, a.eval p.2)).toArray from e]
      simp [h1]) h2 h3⟩
  | buildSlice t n ps =>
    simp only [ho] at h
    obtain ⟨hb, h⟩ := bif_true h
    have hp := parts_rel hI hT ps.toList hb
    obtain ⟨v, w', h1, h2⟩ := buildSlice_sound (P := P) hI h hp
    have e : ps.map (fun p => (p.1, a.eval p.2)) = (ps.toList.map fun p => (p.1, a.eval p.2)).toArray := by apply Array.ext'; simp
    exact ⟨by simp, .value v w' (by
      simp only [execOp, ho]
      rw [show (ps.map fun (x : Nat × Operand) => match x with | (i, x) => (i, a.eval x)) = (ps.toList.map fun p => (p.1, a.eval p.2)).toArray from e]
      simp [h1]) h2⟩
  | load t x =>
    simp only [ho] at h
    cases hv : isVV H (Eng.ev l x) with
    | true =>
      rw [hv, cond_true] at h
      obtain ⟨v, s, h1, h2, h3⟩ := loadV_sound (P := P) hI h (ev x)
      exact ⟨by simp, pureOK hI (by simp [execOp, ho, h1]) h2 h3⟩
    | false =>
      rw [hv, cond_false] at h
      obtain ⟨v, s, h1, h2, h3⟩ := loadOp_sound (P := P) hI h (ev x)
      exact ⟨by simp, pureOK hI (by simp [execOp, ho, h1]) h2 h3⟩
  | store t x y =>
    simp only [ho] at h
    cases hv : isVV H (Eng.ev l x) with
    | true =>
      rw [hv, cond_true] at h
      obtain ⟨H', loc', w', h1, h2, h3, h4⟩ := storeV_sound (P := P) hI h (ev x) (ev y)
      exact ⟨by simp, .skip w' (by simp [execOp, ho, h1]) ⟨_, _, _, _, h2, h3, .any _, h4⟩⟩
    | false =>
      rw [hv, cond_false] at h
      obtain ⟨H', w', h1, h2, h3, h4⟩ := storeOp_sound (P := P) hI h (ev x) (ev y)
      exact ⟨by simp, .skip w' (by simp [execOp, ho, h1]) ⟨_, _, _, _, h2, h3, .any _, h4⟩⟩
  | fieldAddr t x f =>
    simp only [ho] at h
    have e1 := ev x
    split at h
    · rename_i s fo sz ag hf
      obtain ⟨hb, h⟩ := bif_true h
      simp only [Bool.and_eq_true] at hb
      have hsz : 0 < sz := by simpa using hb.2
      split at h
      · rename_i nm off hx
        rw [hx] at e1 hb
        obtain ⟨b, hbk, e2⟩ := live_ptr hI e1 hb.1
        refine ⟨by simp, pureOK hI (v := .pointer (some ⟨b, off + fo, none⟩)) (by simp [execOp, ho, e2, run_fieldAt (P := P) (w := w) hf hsz]) h ?_⟩
        generalize a.eval x = v at e1 e2
        cases e1 with
        | ptr _ _ _ hn _ => exact .ptr _ _ _ hn fun _ => ⟨b, hbk, rfl⟩
      · rename_i ty xs i off hx
        rw [hx] at e1
        generalize hv : a.eval x = v at e1
        cases e1 with
        | elem _ _ _ _ b o es hi hok hr hrd =>
          refine ⟨by simp, pureOK hI (v := .pointer (some ⟨b, o + off + fo, none⟩)) (by simp [execOp, ho, hv, run_fieldAt (P := P) (w := w) hf hsz]) h ?_⟩
          rw [Nat.add_assoc]
          exact .elem ty xs i (off + fo) b o es hi hok hr hrd
      · rename_i nm k i z off hx
        rw [hx] at e1 hb
        generalize hv : a.eval x = v at e1
        cases e1 with
        | vptr _ _ _ _ _ _ hn h0 hk hp =>
          have hl := hb.1
          simp only [live] at hl
          cases hg : hget H nm with
          | vec j t' xs e =>
            rw [hg] at hl
            obtain rfl := beq_iff.1 hl
            have hO := hI.objs nm _ (hget_some hg (by simp))
            obtain ⟨hlt, b, o, hbk, rfl⟩ := hp hO.1.symm
            refine ⟨by simp, pureOK hI (v := .pointer (some ⟨b, o + i * z + off + fo, none⟩)) (by simp [execOp, ho, hv, run_fieldAt (P := P) (w := w) hf hsz]) h ?_⟩
            exact .vptr nm j i z (off + fo) _ hn h0 hk fun _ => ⟨hlt, b, o, hbk, by simp [Nat.add_assoc]⟩
          | _ => rw [hg] at hl; cases hl
      · rename_i l' off hx
        rw [hx] at e1
        generalize hv : a.eval x = v at e1
        cases e1 with
        | lelem _ _ b o vs hl hok hr =>
          refine ⟨by simp, pureOK hI (v := .pointer (some ⟨b, o + off + fo, none⟩)) (by simp [execOp, ho, hv, run_fieldAt (P := P) (w := w) hf hsz]) h ?_⟩
          rw [Nat.add_assoc]
          exact .lelem l' (off + fo) b o vs hl hok hr
      · exact h.elim
    · exact h.elim
  | field t x f =>
    simp only [ho] at h
    have e1 := ev x
    split at h
    · rename_i cs fo sz ag hx hf
      rw [hx] at e1
      generalize hv : a.eval x = v at e1
      cases e1 with
      | agg _ vs hl =>
        obtain ⟨v', s, h1, h2, h3⟩ := run_field (P := P) (w := w) hf hl h
        exact ⟨by simp, pureOK hI (by simp [execOp, ho, hv, h1]) h2 h3⟩
    · exact h.elim
  | indexAddr t x i =>
    simp only [ho] at h
    cases hv : isVV H (Eng.ev l x) with
    | true =>
      rw [hv, cond_true] at h
      obtain ⟨v, s, h1, h2, h3⟩ := indexV_sound (P := P) hI h (ev x) (ev i)
      exact ⟨by simp, pureOK hI (by simp [execOp, ho, h1]) h2 h3⟩
    | false =>
      rw [hv, cond_false] at h
      obtain ⟨v, s, h1, h2, h3⟩ := indexOp_sound (P := P) hI h (ev x) (ev i)
      exact ⟨by simp, pureOK hI (by simp [execOp, ho, h1]) h2 h3⟩
  | slice t x lo hi mx =>
    cases mx with
    | some m => simp only [ho] at h
    | none =>
      simp only [ho] at h
      obtain ⟨v, s, H', h1, h2, h3, h4, h5⟩ := sliceOp_sound (P := P) hI h (ev x) (opt_rel hT lo) (opt_rel hT hi)
      exact ⟨by simp, .value v w (by simp [execOp, ho, h1]) ⟨_, _, _, _, h2, h3, h5, h4⟩⟩
  | index t x i =>
    simp only [ho] at h
    have e1 := ev x
    have e2 := ev i
    split at h
    · rename_i s kn n hu h1 h2
      rw [h1] at e1; rw [h2] at e2
      have e3 := e1.str_inv
      obtain ⟨e4, _⟩ := e2.int_inv
      have hb := h.ok
      have hk := h.go.use hb.1
      have hlt : n.toNat < s.length := by omega
      have hin : 0 ≤ byteAt s n.toNat ∧ byteAt s n.toNat ≤ 255 := by
        unfold byteAt
        have := (s.getD n.toNat 0).toNat_lt
        omega
      refine ⟨by simp, pureOK hI (v := .int .u8 (byteAt s n.toNat)) ?_ (hk.go hin) (.val _ hin)⟩
      simp only [execOp, ho, e3, e4]
      have hg : (⟨s.toArray⟩ : ByteArray)[n.toNat]? = some (s.getD n.toNat 0) := by
        have : n.toNat < (⟨s.toArray⟩ : ByteArray).size := by simpa [ByteArray.size] using hlt
        rw [getElem?_pos (⟨s.toArray⟩ : ByteArray) n.toNat this]
        congr 1
        simp [ByteArray.getElem_eq_getElem_data, List.getD_eq_getElem?_getD, hlt]
      simp [Instr.index, asIntOf, run_underlying hu, hb.1, hg, byteAt, go_sem]
    · exact h.elim
  | extract x i =>
    simp only [ho] at h
    have e1 := ev x
    split at h
    · rename_i vs hx
      obtain ⟨hb, h⟩ := bif_true h
      rw [hnf_eq] at h
      rw [hx] at e1
      generalize hv : a.eval x = v at e1
      cases e1 with
      | tup _ us hl =>
        have hlt : i < vs.length := by simpa using hb
        have hlt' : i < us.length := by rw [← hl.length]; exact hlt
        exact ⟨by simp, pureOK hI (v := us.getD i undef) (by simp [execOp, ho, hv, Instr.extract, hlt']) h (hl.get i hlt)⟩
    · exact h.elim
  | makeFunc fn p q =>
    cases fn with
    | func f =>
      simp only [ho, hnfL_eq] at h
      have e : p.map a.eval = ⟨p.toList.map a.eval⟩ := by apply Array.ext'; simp
      have e' : q.map a.eval = ⟨q.toList.map a.eval⟩ := by apply Array.ext'; simp
      exact ⟨by simp, pureOK hI (by simp only [execOp, ho, Instr.makeFunc, e, e']; rfl) h (.clo _ _ _ _ _ (evs_rel hT _) (evs_rel hT _))⟩
    | _ => simp only [ho] at h
  | makeSlice t n c =>
    simp only [ho] at h
    cases hv : isRows P t with
    | true =>
      rw [hv, cond_true] at h
      obtain ⟨v, w', h1, h2⟩ := makeV_sound (P := P) hI h (ev n) (ev c)
      exact ⟨by simp, .value v w' (by simp [execOp, ho, h1]) h2⟩
    | false =>
      rw [hv, cond_false] at h
      obtain ⟨v, w', h1, h2⟩ := makeOp_sound (P := P) hI h (ev n) (ev c)
      exact ⟨by simp, .value v w' (by simp [execOp, ho, h1]) h2⟩
  | call c =>
    simp only [ho] at h
    refine ⟨by simp, ?_⟩
    split at h
    · -- len
      rename_i hc
      split at h
      · rename_i x hx
        split at h
        · rename_i t ht
          have hr : ∀ (n : Nat), (∀ cs, (builtin .len c.argTypes o.type cs (c.args.map a.eval)).run P w = .ok (.value (.int .i64 n)) w) → (execOp a.eval o).run P w = .ok (.value (.int .i64 n)) w := by
            intro n hn
            simp only [execOp, ho]
            obtain ⟨cs, hcs⟩ := run_builtin (P := P) (w := w) (a := a) (t := o.type) hc
            rw [hcs, hn]
          split at h
          · rename_i e s hu hs'
            split at h
            · exact h.elim
            · rename_i hns
              cases hv : isVV H (Eng.ev l x) with
              | true =>
                rw [hv, cond_true] at h
                obtain ⟨a', n, m, s', h1, h2, h3⟩ := lenV_sound hI h (ev x)
                refine pureOK hI (hr n fun cs => ?_) h2 h3
                rw [args_one hx, h1]
                simp [builtin, Builtin.len_, ht, run_underlying hs', goInt]
              | false =>
              rw [hv, cond_false] at h
              rcases lenOp_slice hI h (ev x) with ⟨p, n, m, s', h1, h2, h3⟩ | ⟨l', s', h0, h1, h2, h3⟩
              · refine pureOK hI (hr n fun cs => ?_) h2 h3
                rw [args_one hx, h1]
                simp [builtin, Builtin.len_, ht, run_underlying hs', goInt]
              · exact (hns _ h0).elim
          · rename_i s hu hs'
            have e1 := ev x
            rw [hs'] at e1
            rcases lenOp_slice hI h e1 with ⟨p, n, m, s', h1, h2, h3⟩ | ⟨l', s', _, h1, h2, h3⟩
            · exfalso
              rw [h1] at e1; cases e1
            · refine pureOK hI (hr l'.length fun cs => ?_) h2 h3
              rw [args_one hx, h1]
              simp [builtin, Builtin.len_, ht, run_underlying hu, goInt, len_str]
          · rename_i kt et s hu
            obtain ⟨v, s', h1, h2, h3⟩ := mapLen_sound (P := P) (ty' := o.type) hI h (ev x) hu ht
            refine pureOK hI (v := v) ?_ h2 h3
            simp only [execOp, ho]
            obtain ⟨cs, hcs⟩ := run_builtin (P := P) (w := w) (a := a) (t := o.type) hc
            rw [hcs, args_one hx]
            simp [builtin, h1]
          · exact h.elim
        · exact h.elim
      · exact h.elim
    · -- cap
      rename_i hc
      split at h
      · rename_i x hx
        split at h
        · rename_i t ht
          split at h
          · rename_i e hu hs'
            have e1 := ev x
            rw [hs'] at e1
            have e2 : a.eval x = .slice none 0 0 := by
              generalize a.eval x = y at e1
              cases e1; rfl
            refine pureOK hI (v := .int .i64 0) ?_ h (.val _ (by first | trivial | simp [WV]))
            simp only [execOp, ho]
            obtain ⟨cs, hcs⟩ := run_builtin (P := P) (w := w) (a := a) (t := o.type) hc
            rw [hcs, args_one hx, e2]
            simp [builtin, Builtin.cap_, ht, run_underlying hu, goInt]
          · exact h.elim
        · exact h.elim
      · exact h.elim
    · -- append
      rename_i hc
      split at h
      · rename_i s x t u hx ht
        cases hb : Nat.beq t u with
        | true =>
          rw [hb] at h
          have hK := h
          have hb := beq_iff.1 hb
          subst hb
          obtain ⟨v, w', h1, h2⟩ : ∃ v w', (Builtin.append_ #[t, t] o.type #[a.eval s, a.eval x]).run P w = .ok v w' ∧ Res G (envOf G H loc ver w) K v w' := by
            cases hv : isVV H (Eng.ev l s) with
            | true => rw [hv, cond_true] at hK; exact appendV_sound (P := P) (ty' := o.type) hI hK (ev s) (ev x)
            | false => rw [hv, cond_false] at hK; exact appendOp_sound (P := P) (ty := o.type) hI (appendK_op hK) (ev s) (ev x)
          refine .value v w' ?_ h2
          simp only [execOp, ho]
          obtain ⟨cs, hcs⟩ := run_builtin (P := P) (w := w) (a := a) (t := o.type) hc
          rw [hcs, args_two hx, show c.argTypes = #[t, t] from by apply Array.ext'; simpa using ht]
          simp [builtin, h1]
        | false =>
          rw [hb] at h
          obtain ⟨v, w', h1, h2⟩ := appendZeros_sound (P := P) (ty := o.type) hI h (ev s) (ev x)
          refine .value v w' ?_ h2
          simp only [execOp, ho]
          obtain ⟨cs, hcs⟩ := run_builtin (P := P) (w := w) (a := a) (t := o.type) hc
          rw [hcs, args_two hx, show c.argTypes = #[t, u] from by apply Array.ext'; simpa using ht]
          simp [builtin, h1]
      · exact h.elim
    · -- delete
      rename_i hc
      split at h
      · rename_i x y t hx ht
        obtain ⟨H', w', h1, h2, h3, h4⟩ := delete_sound (P := P) (ty' := o.type) hI h ht (ev x) (ev y)
        refine .value (.tuple #[]) w' ?_ ⟨_, _, _, _, h2, h3, .tup [] [] .nil, h4⟩
        simp only [execOp, ho]
        obtain ⟨cs, hcs⟩ := run_builtin (P := P) (w := w) (a := a) (t := o.type) hc
        rw [hcs, args_two hx]
        simp [builtin, h1]
      · exact h.elim
    · -- max
      rename_i hc
      have ea := evs_rel hT c.args.toList
      split at h
      · rename_i k p r hx
        rw [hx] at ea
        obtain ⟨v, s, h1, h2, h3⟩ := maxAll_sound (P := P) (w := w) c.argTypes o.type h ea
        refine pureOK hI (v := v) ?_ h2 h3
        simp only [execOp, ho]
        obtain ⟨cs, hcs⟩ := run_builtin (P := P) (w := w) (a := a) (t := o.type) hc
        rw [hcs]
        simp only [builtin, Sem.run_bind]
        rw [show c.args.map a.eval = ⟨c.args.toList.map a.eval⟩ from by apply Array.ext'; simp]
        rw [h1]
        rfl
      · exact h.elim
    · -- min
      rename_i hc
      have ea := evs_rel hT c.args.toList
      split at h
      · rename_i k p r hx
        rw [hx] at ea
        obtain ⟨v, s, h1, h2, h3⟩ := minAll_sound (P := P) (w := w) c.argTypes o.type h ea
        refine pureOK hI (v := v) ?_ h2 h3
        simp only [execOp, ho]
        obtain ⟨cs, hcs⟩ := run_builtin (P := P) (w := w) (a := a) (t := o.type) hc
        rw [hcs]
        simp only [builtin, Sem.run_bind]
        rw [show c.args.map a.eval = ⟨c.args.toList.map a.eval⟩ from by apply Array.ext'; simp]
        rw [h1]
        rfl
      · exact h.elim
    · -- a function
      rename_i f hc
      split at h
      · rename_i l₀ hf
        have e1 := ev f
        rw [hf] at e1
        generalize hv : a.eval f = v at e1
        cases e1
        split at h
        · rename_i k n items hg
          rw [hnfL_eq] at h
          have hu := ent.entL
          refine .yield G.itr.l ⟨c.args.toList.map a.eval⟩ ?_ (yield_sound hY hI hg h.ok (entL_sound h.go.ok (flatVs_rel hT _)) h.go.go.one h.go.go.two)
          simp only [execOp, ho]
          rw [resolve_yield hc hv]
          rfl
        · exact h.elim
      · rename_i g first caps hf
        have e1 := ev f
        rw [hf] at e1
        generalize hv : a.eval f = v at e1
        cases e1 with
        | clo _ _ _ va vb ha hb =>
          have hargs := (ha.append (evs_rel hT c.args.toList)).append hb
          obtain ⟨hent, hcall⟩ := callOp_sound hΓ hF hI h hargs
          refine .call g ⟨va ++ c.args.toList.map a.eval ++ vb⟩ ?_ hcall
          simp only [execOp, ho]
          rw [resolve_val hc hv]
          exact hent _ _
      · exact h.elim
    · exact h.elim
  | makeMap t r =>
    cases r with
    | some _ => simp only [ho] at h
    | none =>
      simp only [ho] at h
      obtain ⟨v, w', h1, h2⟩ := makeMap_sound (P := P) hI h
      exact ⟨by simp, .value v w' (by simp [execOp, ho, h1]) h2⟩
  | lookup t m x ok =>
    simp only [ho] at h
    obtain ⟨v, s, h1, h2, h3⟩ := lookup_sound (P := P) hI h (ev m) (ev x)
    exact ⟨by simp, pureOK hI (by simp [execOp, ho, h1]) h2 h3⟩
  | mapUpdate t m x y =>
    simp only [ho] at h
    obtain ⟨H', w', h1, h2, h3, h4⟩ := mapUpdate_sound (P := P) hI h (ev m) (ev x) (ev y)
    exact ⟨by simp, .skip w' (by simp [execOp, ho, h1]) ⟨_, _, _, _, h2, h3, .any _, h4⟩⟩
  | range t x =>
    simp only [ho] at h
    obtain ⟨v, w', h1, h2⟩ := range_sound' (P := P) hI h (ev x)
    exact ⟨by simp, .value v w' (by simp [execOp, ho, h1]) h2⟩
  | next x b =>
    cases b with
    | true => simp only [ho] at h
    | false =>
      simp only [ho] at h
      obtain ⟨v, w', h1, h2⟩ := next_sound (P := P) (ty' := o.type) hI h (ev x)
      exact ⟨by simp, .value v w' (by simp [execOp, ho, h1]) h2⟩
  | entry x =>
    simp only [ho] at h
    obtain ⟨v, s, h1, h2, h3⟩ := entry_sound (P := P) hI h (ev x)
    exact ⟨by simp, pureOK hI (by simp [execOp, ho, h1]) h2 h3⟩
  | _ => simp only [ho] at h
end
end Go.Eng
