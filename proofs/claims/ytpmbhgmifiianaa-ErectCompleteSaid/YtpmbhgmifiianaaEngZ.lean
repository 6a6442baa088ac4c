/-
  **The walk through a region whose order is drawn, in which operations turn the state, is sound.**
-/
import Derived.Test.YtpmbhgmifiianaaEngY
set_option linter.unusedSimpArgs false
set_option linter.unusedVariables false
namespace Go.Eng
open Go.RowKit

section
variable {P : Program} {G : Ctx} {N : Nat} {Γ : List Con} {H : List HO} {loc : Nat → Loc} {ver : Nat → Nat} {w : World}

/-! ### Objects behind some operations -/
theorem heapS_length (B : List HO) : ∀ (fx : List Fx) (S : Nat → Bool), (heapS B fx S).length = B.length
  | [], _ => rfl
  | f :: r, S => by
    simp only [heapS_cons]
    cases S f.p with
    | true => simp only [cond_true, hset, List.length_set]; exact heapS_length B r S
    | false => exact heapS_length B r S
theorem heapS_congr (B : List HO) {S S' : Nat → Bool} : ∀ (fx : List Fx), (∀ f ∈ fx, S f.p = S' f.p) → heapS B fx S = heapS B fx S'
  | [], _ => rfl
  | f :: r, h => by
    simp only [heapS_cons]
    rw [h f List.mem_cons_self, heapS_congr B r fun g hg => h g (List.mem_cons_of_mem _ hg)]
theorem heapS_none (B : List HO) : ∀ (fx : List Fx), heapS B fx (fun _ => false) = B
  | [] => rfl
  | f :: r => by simp only [heapS, cond_false]; exact heapS_none B r
theorem set_set_comm {xs : List HO} {a b : Nat} {x y : HO} (h : a ≠ b) : (xs.set a x).set b y = (xs.set b y).set a x := List.set_comm _ _ h
/-- One more has come up, whose object no other turns. -/
theorem heapS_add (B : List HO) {i : Nat} : ∀ (fx : List Fx) {f : Fx} {S : Nat → Bool}, f ∈ fx → f.p = i → S i = false → fx.Pairwise (fun a b => a.p ≠ b.p) → (∀ g ∈ fx, g.p ≠ i → g.n ≠ f.n) → heapS B fx (addS S i) = hset (heapS B fx S) f.n f.o
  | g :: r, f, S, hf, hp, hS, hd, hn => by
    obtain ⟨hd1, hd2⟩ := List.pairwise_cons.1 hd
    by_cases hg : g.p = i
    · have hfr : f ∉ r := fun h => hd1 f h (by rw [hg, hp])
      have hfg : f = g := by
        rcases List.mem_cons.1 hf with h | h
        · exact h
        · exact absurd h hfr
      subst hfg
      simp only [heapS_cons]
      rw [hp, hS, show addS S i i = true from by simp [addS], cond_true, cond_false]
      congr 1
      refine heapS_congr B r fun q hq => ?_
      have hne : q.p ≠ i := fun e => hd1 q hq (by rw [hp, e])
      simp [addS, beq_ne hne]
    · have hfr : f ∈ r := by
        rcases List.mem_cons.1 hf with h | h
        · exact absurd (h ▸ hp) hg
        · exact h
      have ih := heapS_add B r hfr hp hS hd2 fun q hq => hn q (List.mem_cons_of_mem _ hq)
      simp only [heapS_cons]
      rw [show addS S i g.p = S g.p from by simp [addS, beq_ne hg], ih]
      cases S g.p with
      | false => rfl
      | true =>
        simp only [cond_true, hset]
        exact List.set_comm _ _ (fun e => hn g List.mem_cons_self hg e.symm)
theorem heapS_other (B : List HO) {n : Nat} : ∀ (fx : List Fx) {S : Nat → Bool}, (∀ g ∈ fx, S g.p = true → g.n ≠ n) → (heapS B fx S)[n]? = B[n]?
  | [], _, _ => rfl
  | g :: r, S, h => by
    have ih := heapS_other B r fun q hq => h q (List.mem_cons_of_mem _ hq)
    simp only [heapS_cons]
    cases hS : S g.p with
    | false => exact ih
    | true =>
      simp only [cond_true, hset]
      rw [get_set_other (fun e => h g List.mem_cons_self hS e.symm)]
      exact ih

/-! ### Names kept for objects to come -/
theorem Inv.keep (hI : Inv G H loc ver w) : Inv G (H ++ [.res]) loc ver w ∧ Ext (envOf G H loc ver w) (envOf G (H ++ [.res]) loc ver w) := by
  refine hI.turn H.length (by simp) (fun k hk => ⟨get_append_old hk, rfl, rfl⟩) (fun h => by rw [hasB_not] at h; cases h) (fun h => by rw [hasB_not] at h; cases h) (Nat.le_refl _) rfl rfl rfl (by simp) (fun h => by rw [hasB_not] at h; cases h)
    (fun st n it b h => by rw [get_append_new] at h; cases h) (fun _ _ _ => rfl) ?_ ?_
  · intro o' b ho' hb
    rw [get_append_new] at ho'; cases ho'
    exact hb.elim
  · intro hx o' ho'
    rw [get_append_new] at ho'; cases ho'
    trivial
theorem Inv.keeps (q : Nat) : ∀ {H : List HO}, Inv G H loc ver w → Inv G (H ++ List.replicate q .res) loc ver w ∧ Ext (envOf G H loc ver w) (envOf G (H ++ List.replicate q .res) loc ver w) := by
  induction q with
  | zero => intro H hI; rw [List.replicate_zero, List.append_nil]; exact ⟨hI, Ext.refl _⟩
  | succ q ih =>
    intro H hI
    obtain ⟨h1, h2⟩ := hI.keep
    obtain ⟨h3, h4⟩ := ih h1
    rw [List.replicate_succ, show H ++ HO.res :: List.replicate q .res = H ++ [.res] ++ List.replicate q .res by simp]
    exact ⟨h3, h2.trans h4⟩
/-- An object is laid under a name that was kept for it. -/
theorem Inv.atRes (hI : Inv G H loc ver w) {n : Nat} (hn : H[n]? = some .res) {w' : World} (o : HO) (L : Loc) (v : Nat)
    (hsz : w.heap.size ≤ w'.heap.size) (hos : w'.os = w.os) (htp : w'.tape = w.tape) (hout : w'.output = w.output)
    (hblk : ∀ b, b < w.heap.size → w'.heap[b]? = w.heap[b]?) (hfr : ∀ b, Owns L o b → w.heap.size ≤ b)
    (hnew : Ext (envOf G H loc ver w) (envOf G (hset H n o) (upd loc n L) (upd ver n v) w') → OSat (envOf G (hset H n o) (upd loc n L) (upd ver n v) w') L v o)
    (hny : ∀ st n it, o ≠ .yst st n it := by intro _ _ _ h; cases h) :
    Inv G (hset H n o) (upd loc n L) (upd ver n v) w' ∧ Ext (envOf G H loc ver w) (envOf G (hset H n o) (upd loc n L) (upd ver n v) w') := by
  have hlt : n < H.length := (List.getElem?_eq_some_iff.1 hn).1
  have hno : hasB H n = false := by
    unfold hasB hget
    rw [List.getD_eq_getElem?_getD, hn]
    simp [isRes]
  refine hI.turn n (by simp [hset]) (fun k hk => ⟨get_set_other hk, upd_other _ _ _ hk, upd_other _ _ _ hk⟩) (fun h => by rw [hno] at h; cases h) (fun h => by rw [hno] at h; cases h) hsz hos htp hout (by rw [hn]; simp) (fun h => by rw [hno] at h; cases h)
    (fun st n' it b h => by rw [show hset H n o = H.set n o from rfl, get_set_same hlt] at h; cases h; exact (hny _ _ _ rfl).elim) (fun b hb _ => hblk b hb) ?_ ?_
  · intro o' b ho' hb
    rw [show hset H n o = H.set n o from rfl, get_set_same hlt] at ho'; cases ho'
    rw [upd_same] at hb
    exact .inr (hfr b hb)
  · intro hx o' ho'
    rw [show hset H n o = H.set n o from rfl, get_set_same hlt] at ho'; cases ho'
    rw [upd_same, upd_same]
    exact hnew hx
/-- What an operation that lays an object does, whenever it comes up. -/
def AllocOK (P : Program) (G : Ctx) (N : Nat) (o : Oper) (lr : List (Nat × SV)) (n : Nat) (s : SV) (ob : HO) : Prop :=
  isRes ob = false ∧ ∀ {F : Fence}, Opn F → ∀ {H : List HO} {loc : Nat → Loc} {ver : Nat → Nat} {w : World} {a : Act}, Inv G H loc ver w → H[n]? = some .res → TRel (envOf G H loc ver w) N lr a →
    (∀ c, o.op ≠ .defer c) ∧ OpOK P F o a w fun v w' => ∃ loc' ver', Inv G (hset H n ob) loc' ver' w' ∧ Rel (envOf G (hset H n ob) loc' ver' w') s v ∧ Ext (envOf G H loc ver w) (envOf G (hset H n ob) loc' ver' w')
theorem hasB_set {H : List HO} {n : Nat} {o : HO} (h : n < H.length) (ho : isRes o = false) : hasB (hset H n o) n = true := hasB_of (get_set_same h) ho
theorem makeV_alloc {o : Oper} {l lr : List (Nat × SV)} {n : Nat} {t : TypeId} {pn pc : Operand} {K : SV → HO → Prop} (h : makeV P t (ev l pn) (ev l pc) fun m ty e ei => K (.ref n 1) (.vv 1 0 ty (List.replicate m.toNat []) none e ei)) (hop : o.op = .makeSlice t pn pc) (hlr : ∀ x ∈ o.op.operands, ev lr x = ev l x) : ∃ s ob, K s ob ∧ AllocOK P G N o lr n s ob := by
  unfold makeV at h
  split at h
  case h_2 => exact h.elim
  rename_i e kn nn kc nc he hen hec
  split at h
  case h_2 => exact h.elim
  rename_i ty ei i hr hi
  obtain ⟨hz, ⟨⟨n1, n2, n3, n4⟩, hk⟩⟩ := bif_true h
  refine ⟨_, _, hk, rfl, ?_⟩
  intro F hF H loc ver w a hI hn hT
  refine ⟨by simp [hop], ?_⟩
  have e1 := ev_rel hT pn
  have e2 := ev_rel hT pc
  rw [hlr pn (by rw [hop]; simp [Op.operands])] at e1
  rw [hlr pc (by rw [hop]; simp [Op.operands])] at e2
  obtain ⟨nn', cc, ty', e', ei', hk', hfl, m1, m2, hrun⟩ := makeV_run (P := P) (K := fun m t1 e1 ei1 => m = nn ∧ (⟨t1, ei1⟩ : Ty × TypeId) = (ty, ei) ∧ e1 = e) (t := t) (by
    unfold makeV
    rw [hen, hec, he]
    simp only [hr, hi, hz, cond_true]
    exact ⟨⟨n1, n2, n3, n4⟩, by trivial⟩) e1 e2
  obtain ⟨rfl, hkk, rfl⟩ := hk'
  cases hkk
  have hlt : n < H.length := (List.getElem?_eq_some_iff.1 hn).1
  have hf := hI.atRes hn (w' := w.alloc (.cells (madeCells (Value.slice none 0 0).cells (cc * 1)) e')) (.vv 1 0 ty (List.replicate nn'.toNat []) none e' ei) (mkL (some (w.heap.size, 0)) nn'.toNat cc) 1 (by simp) rfl rfl rfl (fun b hb => Below.heap_alloc w _ b hb)
    (by intro b hb; rcases hb with hb | hb; · simp at hb; omega
        · exact hb.elim) (fun _ => madeV_sat hfl m1 m2 (alloc_new w _))
  refine .value (.slice (some ⟨w.heap.size, 0, none⟩) nn'.toNat cc) _ (by simp [execOp, hop, hrun w]) ⟨_, _, hf.1, ?_, hf.2⟩
  refine .ref _ _ _ (by exact hasB_set hlt rfl) Nat.one_pos (by simp [envOf, upd_same]) fun _ => ?_
  simp [envOf, upd_same, Core.head]
theorem allocD_sound {o : Oper} {l lr : List (Nat × SV)} {n : Nat} {K : SV → HO → Prop} (h : allocD P o l n K) (hlr : ∀ x ∈ o.op.operands, ev lr x = ev l x) : ∃ s ob, K s ob ∧ AllocOK P G N o lr n s ob := by
  unfold allocD at h
  split at h
  · rename_i t pn pc hop
    cases hvv : isRows P t with
    | true =>
      rw [hvv] at h
      obtain ⟨s, ob, hk, hob⟩ := makeV_alloc (lr := lr) h hop hlr
      exact ⟨s, ob, hk, hob⟩
    | false =>
    rw [hvv] at h
    replace h : makeD P t n (ev l pn) (ev l pc) K := h
    unfold makeD at h
    split at h
    case h_2 => exact h.elim
    rename_i e kn nn kc nc he hen hec
    split at h
    case h_2 => exact h.elim
    rename_i tt i z htt hi hz
    obtain ⟨hb, h1⟩ := bif_true h
    clear h
    split at h1
    case h_2 => exact h1.elim
    rename_i x0 hd
    obtain ⟨⟨n1, n2, n3, n4⟩, hk⟩ := h1
    refine ⟨_, _, hk, rfl, ?_⟩
    intro F hF H loc ver w a hI hn hT
    refine ⟨by simp [hop], ?_⟩
    have hu := sliceElem_run he
    have e1 := ev_rel hT pn
    have e2 := ev_rel hT pc
    rw [hlr pn (by rw [hop]; simp [Op.operands]), hen] at e1
    rw [hlr pc (by rw [hop]; simp [Op.operands]), hec] at e2
    obtain ⟨e3, _⟩ := e1.int_inv
    obtain ⟨e4, _⟩ := e2.int_inv
    simp only [Bool.and_eq_true, beq_iff] at hb
    obtain ⟨⟨hb1, hb2⟩, hb3⟩ := hb
    obtain ⟨zv, hzv, rfl⟩ := zeroB_cells hz hi
    have hzl : zv.cells.size = tt.size := by simpa using hb3
    have hpos := tt.size_pos
    have hr := run_make (P := P) w t e i zv hu hi hzv kn kc nn nc n1 n2 (by rw [Int.mul_comm]; omega) (by omega)
    have hlt : n < H.length := (List.getElem?_eq_some_iff.1 hn).1
    have hf := hI.atRes hn (w' := w.alloc (.cells (madeCells zv.cells (nc.toNat * i.size)) e)) (.vec 1 tt (List.replicate nn.toNat x0) e) (mkL (some (w.heap.size, 0)) (nn.toNat) (nc.toNat)) 1 (by simp) rfl rfl rfl (fun b hb => Below.heap_alloc w _ b hb) (by intro b hb; simp [Owns] at hb; omega)
      (fun hx => by
        have hm : nn.toNat * tt.size ≤ nc.toNat * i.size := by rw [hb1]; exact Nat.mul_le_mul_right _ (by omega)
        refine ⟨rfl, Nat.one_pos, by simp, by show nn.toNat ≤ 140737488355328; omega, (madeCells zv.cells (nc.toNat * i.size)).toList.take (nn.toNat * tt.size), ⟨by show (List.take _ _).length = nn.toNat * tt.size; rw [List.length_take, Array.length_toList, size_madeCells]; exact Nat.min_eq_left hm, .inr ⟨w.heap.size, nc.toNat, madeCells zv.cells (nc.toNat * i.size), rfl, Nat.zero_le _, alloc_new w _, by show nn.toNat ≤ nc.toNat; omega, by simp [maxLen]; omega, by rw [size_madeCells, hb1], rfl⟩⟩, fun j hj => ?_⟩
        have hj' : j < nn.toNat := hj
        have hjm : j * tt.size + tt.size ≤ nn.toNat * tt.size := by
          have : (j + 1) * tt.size ≤ nn.toNat * tt.size := Nat.mul_le_mul_right _ hj'
          rwa [Nat.add_mul, Nat.one_mul] at this
        have e1 : (List.replicate nn.toNat x0).getD j tt.dflt = x0 := by
          rw [List.getD_eq_getElem?_getD]
          have : (List.replicate nn.toNat x0)[j]? = some x0 := by simp [hj']
          rw [this]; rfl
        have e2 : ((((madeCells zv.cells (nc.toNat * i.size)).toList.take (nn.toNat * tt.size)).drop (j * tt.size)).take tt.size) = zv.cells.toList := by
          apply List.ext_getElem?
          intro q
          rw [List.getElem?_take]
          by_cases hq : q < tt.size
          · rw [if_pos hq, List.getElem?_drop, List.getElem?_take, if_pos (by omega), madeCells_get _ _ (by omega) _ (by omega)]
            have : (j * tt.size + q) % zv.cells.size = q := by rw [hzl, Nat.mul_comm, Nat.mul_add_mod]; exact Nat.mod_eq_of_lt hq
            rw [this]
            have hq2 : q < zv.cells.toList.length := by simp; omega
            simp [hzl, hq]
          · rw [if_neg hq, List.getElem?_eq_none (by simp; omega)]
        rw [e1, e2]
        exact dec_reads (csts_rel _ _) hd hb2)
    refine .value (.slice (some ⟨w.heap.size, 0, none⟩) nn.toNat nc.toNat) _ (by simp [execOp, hop, e3, e4, hr]) ⟨_, _, hf.1, ?_, hf.2⟩
    refine .ref _ _ _ (hasB_set hlt rfl) Nat.one_pos (by simp [envOf, upd_same]) fun _ => ?_
    simp [envOf, upd_same, Core.head]
  · rename_i t hop
    split at h
    case h_2 => exact h.elim
    rename_i z hz
    rw [force_eq] at h
    refine ⟨_, _, h, rfl, ?_⟩
    intro F hF H loc ver w a hI hn hT
    refine ⟨by simp [hop], ?_⟩
    obtain ⟨v, hv, rfl⟩ := run_zeroOf hz w
    have hlt : n < H.length := (List.getElem?_eq_some_iff.1 hn).1
    have hf := hI.atRes hn (w' := w.alloc (.cells v.cells t)) (.cells (v.cells.toList.map cst) t) (mkL (some (w.heap.size, 0)) 0 0) 0 (by simp) rfl rfl rfl (fun b hb => Below.heap_alloc w _ b hb) (by intro b hb; simp [Owns] at hb; omega)
      (fun hx => ⟨rfl, w.heap.size, v.cells.toList, rfl, alloc_new w _, csts_rel _ _⟩)
    refine .value (.pointer (some ⟨w.heap.size, 0, none⟩)) _ (by simp [execOp, hop, run_alloc hv]) ⟨_, _, hf.1, ?_, hf.2⟩
    refine .ptr _ _ _ (hasB_set hlt rfl) fun _ => ⟨w.heap.size, by simp [envOf, upd_same], rfl⟩
  · exact h.elim

/-! ### The walk in the order of the text -/
/-- What the walk has come to know of the objects that are turned. -/
structure FxOk (n0 na k : Nat) (fx : List Fx) : Prop where
  lt : ∀ f ∈ fx, f.p < k
  apart : fx.Pairwise fun a b => a.p ≠ b.p
  names : ∀ f ∈ fx, f.n < n0 + na
  own : ∀ f ∈ fx, n0 ≤ f.n → ∀ g ∈ fx, g.p ≠ f.p → g.n ≠ f.n
/-- What the walk has come to know of one operation. -/
structure OneG (P : Program) (G : Ctx) (Γ : List Con) (ops : Array Oper) (n0 na : Nat) (N : Nat) (fx : List Fx) (rs : List Rc) (wr : Nat → SV) (sv : SV) (wn : Bool) (j : Nat) (o : Oper) : Prop where
  want : ∀ (E : Env) (a : Act), (∀ t, lk ops o t → Rel E (wr t) (a.tmps.getD t undef)) → Region.wanted o (yielded ops a.tmps) = wn
  skip : wn = false → sv = .tup [] ∧ ∀ f ∈ fx, f.p ≠ j
  dst : ∀ t, o.dst = some t → t < N
  plain : o.guard = none → wn = true
  run : wn = true → (isA o = true ∧ ∃ f lr, f ∈ fx ∧ f.p = j ∧ n0 ≤ f.n ∧ AllocOK P G N o lr f.n sv f.o ∧ ∀ (t : Nat) (E : Env) (v : Value), (lk ops o t → Rel E (wr t) v) → Rel E (look lr t) v) ∨
    (isA o = false ∧ ∃ lr H0 H1 X, ⟨j, o, lr, sv⟩ ∈ rs ∧ op1 P Γ o lr H0 (fun s' H' => Pinned (s' = sv) (H' = H1) X) ∧ (isL o = false → ∀ f ∈ fx, f.p ≠ j) ∧ ∀ (t : Nat) (E : Env) (v : Value), (lk ops o t → Rel E (wr t) v) → Rel E (look lr t) v)
theorem ev_restr (l : List (Nat × SV)) {xs : List Operand} {x : Operand} (h : x ∈ xs) : ev (restr l xs) x = ev l x := by
  cases x with
  | tmp t =>
    simp only [ev]
    induction xs with
    | nil => cases h
    | cons y ys ih =>
      cases y with
      | tmp u =>
        simp only [restr, look]
        by_cases e : u = t
        · subst e; rw [beq_same]; rfl
        · rw [beq_ne e]
          simp only [cond_false]
          refine ih ?_
          rcases List.mem_cons.1 h with h1 | h1
          · cases h1; exact absurd rfl e
          · exact h1
      | _ =>
        simp only [restr]
        refine ih ?_
        rcases List.mem_cons.1 h with h1 | h1
        · cases h1
        · exact h1
  | _ => rfl
theorem virtG (hY : YOK P G.itr) (hΓ : ∀ c ∈ Γ, ConOK P c) {ops : Array Oper} {m : Nat} (hq : ∀ i o, i < m → ops[i]? = some o → opOk ops.toList m i o = true) {n0 : Nat} {B : List HO} {K : List (Nat × SV) → List HO → List Fx → List Rc → Prop}
    (hB : ∀ n, n0 ≤ n → n < B.length → B[n]? = some .res) :
    ∀ (rest : List Oper) (k : Nat), (ops.toList.take m).drop k = rest →
    ∀ {H : List HO} {fx : List Fx} {rs : List Rc} {na : Nat} {loc : Nat → Loc} {ver : Nat → Nat} {w : World} {l : List (Nat × SV)} {a : Act} {wr : Nat → SV}, Inv G H loc ver w → TRel (envOf G H loc ver w) N l a → (∀ (E : Env) (t : Nat) (v : Value), Rel E (wr t) v → Rel E (look l t) v) →
    H = heapS B fx (fun j => decide (j < k)) → FxOk n0 na k fx → n0 + na + cntA rest ≤ B.length →
    execG P Γ N ops.toList n0 rest k l H fx rs na K →
    ∃ (wr' : Nat → SV) (sv : Nat → SV) (wn : Nat → Bool) (lf : List (Nat × SV)) (Hf : List HO) (fx' : List Fx) (rs' : List Rc) (na' : Nat), K lf Hf fx' rs' ∧ (∀ (E : Env) (t : Nat) (v : Value), Rel E (wr' t) v → Rel E (look lf t) v) ∧
      (∀ t, (∀ j o, k ≤ j → j < m → ops[j]? = some o → o.dst ≠ some t) → wr' t = wr t) ∧ Hf = heapS B fx' (fun j => decide (j < max k m)) ∧ FxOk n0 na' (max k m) fx' ∧ n0 + na' ≤ B.length ∧
      (∃ p, fx' = p ++ fx ∧ ∀ f ∈ p, k ≤ f.p) ∧ (∀ r ∈ rs, r ∈ rs') ∧
      (∀ j o, k ≤ j → j < m → ops[j]? = some o → (∀ t, o.dst = some t → wr' t = sv j) ∧ OneG P G Γ ops n0 na' N fx' rs' wr' (sv j) (wn j) j o) := by
  intro rest
  induction rest with
  | nil =>
    intro k hk H fx rs na loc ver w l a wr hI hT hRef hH hfx hna h
    have hlen : (ops.toList.take m).length ≤ k := List.drop_eq_nil_iff.1 hk
    have hcg : heapS B fx (fun j => decide (j < k)) = heapS B fx (fun j => decide (j < max k m)) := heapS_congr B fx fun f hf => by
      have := hfx.lt f hf
      have h2 : f.p < max k m := by omega
      simp [this, h2]
    refine ⟨wr, fun _ => .any, fun _ => false, l, H, fx, rs, na, h, hRef, fun _ _ => rfl, hH.trans hcg, ⟨fun f hf => by have := hfx.lt f hf; omega, hfx.apart, hfx.names, hfx.own⟩, by simpa [cntA] using hna, ⟨[], rfl, by simp⟩, fun _ h => h, fun j o h1 h2 h3 => ?_⟩
    have hj := (Array.getElem?_eq_some_iff.1 h3).1
    simp at hlen
    omega
  | cons o r ih =>
    intro k hk H fx rs na loc ver w l a wr hI hT hRef hH hfx hna h
    have hko : (ops.toList.take m)[k]? = some o := by
      have : ((ops.toList.take m).drop k)[0]? = some o := by rw [hk]; rfl
      rw [List.getElem?_drop] at this
      simpa using this
    have hkm : k < m := by
      rw [List.getElem?_take] at hko
      split at hko
      · assumption
      · cases hko
    have hop : ops[k]? = some o := by
      rw [List.getElem?_take, if_pos hkm] at hko
      simpa using hko
    have hkr : (ops.toList.take m).drop (k + 1) = r := by rw [← List.drop_drop, hk]; rfl
    have hok := hq k o hkm hop
    have hlenH : H.length = B.length := by rw [hH, heapS_length]
    simp only [execG_cons] at h
    obtain ⟨l', b, hyn, hlearn, hwant⟩ := guardQ h
    have hT' : TRel (envOf G H loc ver w) N l' a := ⟨hT.size, fun t => hlearn _ t _ (hT.rel t)⟩
    have hRef' : ∀ (E : Env) (t : Nat) (v : Value), Rel E (wr t) v → Rel E (look l' t) v := fun E t v h => hlearn E t v (hRef E t v h)
    -- behind this operation, whatever it has left
    have step : ∀ {H' : List HO} {fx1 : List Fx} {rs1 : List Rc} {na1 : Nat} {loc' : Nat → Loc} {ver' : Nat → Nat} {w' : World} {s : SV} {v : Value}, Inv G H' loc' ver' w' → Ext (envOf G H loc ver w) (envOf G H' loc' ver' w') → Rel (envOf G H' loc' ver' w') s v →
        H' = heapS B fx1 (fun j => decide (j < k + 1)) → FxOk n0 na1 (k + 1) fx1 → n0 + na1 + cntA r ≤ B.length → (∃ p, fx1 = p ++ fx ∧ ∀ f ∈ p, f.p = k) → (∀ r ∈ rs, r ∈ rs1) →
        setT N l' o.dst s (fun l'' => execG P Γ N ops.toList n0 r (k + 1) l'' H' fx1 rs1 na1 K) →
        (b = false → s = .tup [] ∧ fx1 = fx) →
        (b = true → (isA o = true ∧ ∃ f lr, f ∈ fx1 ∧ f.p = k ∧ n0 ≤ f.n ∧ AllocOK P G N o lr f.n s f.o ∧ lr = restr l' o.op.operands.toList) ∨
          (isA o = false ∧ ∃ lr H0 H1 X, ⟨k, o, lr, s⟩ ∈ rs1 ∧ op1 P Γ o lr H0 (fun s' H' => Pinned (s' = s) (H' = H1) X) ∧ (isL o = false → fx1 = fx) ∧ lr = restr l' o.op.operands.toList)) →
        ∃ (wr' : Nat → SV) (sv : Nat → SV) (wn : Nat → Bool) (lf : List (Nat × SV)) (Hf : List HO) (fx' : List Fx) (rs' : List Rc) (na' : Nat), K lf Hf fx' rs' ∧ (∀ (E : Env) (t : Nat) (v : Value), Rel E (wr' t) v → Rel E (look lf t) v) ∧
          (∀ t, (∀ j o, k ≤ j → j < m → ops[j]? = some o → o.dst ≠ some t) → wr' t = wr t) ∧ Hf = heapS B fx' (fun j => decide (j < max k m)) ∧ FxOk n0 na' (max k m) fx' ∧ n0 + na' ≤ B.length ∧
          (∃ p, fx' = p ++ fx ∧ ∀ f ∈ p, k ≤ f.p) ∧ (∀ r ∈ rs, r ∈ rs') ∧
          (∀ j o, k ≤ j → j < m → ops[j]? = some o → (∀ t, o.dst = some t → wr' t = sv j) ∧ OneG P G Γ ops n0 na' N fx' rs' wr' (sv j) (wn j) j o) := by
      intro H' fx1 rs1 na1 loc' ver' w' s v hI' hx' hrs hH1 hfx1 hna1 hpre hrsub hset hskip hrun
      obtain ⟨p1, hp1, hp1k⟩ := hpre
      obtain ⟨wr1, hwr1⟩ : ∃ wr1 : Nat → SV, wr1 = fun t => if o.dst = some t then s else wr t := ⟨_, rfl⟩
      have hnext : ∃ l'', execG P Γ N ops.toList n0 r (k + 1) l'' H' fx1 rs1 na1 K ∧ TRel (envOf G H' loc' ver' w') N l'' (a.put o.dst v) ∧ (∀ (E : Env) (t : Nat) (v : Value), Rel E (wr1 t) v → Rel E (look l'' t) v) ∧ ∀ t, o.dst = some t → t < N := by
        cases hd : o.dst with
        | none =>
          rw [hd] at hset
          refine ⟨l', hset, hT'.ext hx', fun E t v h => ?_, fun t h => by cases h⟩
          rw [hwr1] at h
          simp only [hd] at h
          exact hRef' E t v (by simpa using h)
        | some u =>
          rw [hd] at hset
          obtain ⟨hu, hset⟩ := bif_true hset
          rw [force_eq] at hset
          have hu' : u < N := by simpa using hu
          refine ⟨_, hset, ?_, fun E t v h => ?_, fun t h => by cases h; exact hu'⟩
          · refine ⟨by simp [Act.put]; exact hT.size, fun t => ?_⟩
            rw [look_put, getD_put a u t v (by rw [hT.size]; exact hu')]
            by_cases e : t = u
            · rw [if_pos e, if_pos e]; exact hrs
            · rw [if_neg e, if_neg e]; exact (hT'.ext hx').rel t
          · rw [hwr1] at h
            simp only [hd] at h
            rw [look_put]
            by_cases e : t = u
            · rw [if_pos e]; rw [if_pos (by rw [e])] at h; exact h
            · rw [if_neg e]; rw [if_neg (fun e' => e (by cases e'; rfl))] at h; exact hRef' E t v h
      obtain ⟨l'', he, hT'', hRef'', hdN⟩ := hnext
      obtain ⟨wr', sv, wn, lf, Hf, fx', rs', na', h1, h2, h3, h6, h7, h8, ⟨p2, hp2, hp2k⟩, h9, h4⟩ := ih (k + 1) hkr hI' hT'' hRef'' hH1 hfx1 hna1 he
      have hmax : max (k + 1) m = max k m := by omega
      rw [hmax] at h6 h7
      have hwr : ∀ t, lk ops o t → wr' t = wr t := by
        intro t ht
        have hro := opOk_reads hok ht
        have h5 := h3 t fun j o' hj1 hj2 hj3 hd => by
          have := (readOk_spec hro hj2 hj3 hd).2
          omega
        rw [h5, hwr1]
        have : o.dst ≠ some t := fun hd => by
          have := (readOk_spec hro hkm hop hd).2
          omega
        simp only [if_neg this]
      have hlr : ∀ (t : Nat) (E : Env) (v : Value), (lk ops o t → Rel E (wr' t) v) → Rel E (look (restr l' o.op.operands.toList) t) v := by
        intro t E v hr
        rcases look_restr l' o.op.operands.toList t with h5 | ⟨h5, h6⟩
        · rw [h5]; exact .any v
        · rw [h6]
          have hl : lk ops o t := .inl h5
          exact hRef' E t v (by rw [← hwr t hl]; exact hr hl)
      have hnot : fx1 = fx → ∀ f ∈ fx', f.p ≠ k := by
        intro e f hf
        rw [hp2, e] at hf
        rcases List.mem_append.1 hf with h | h
        · have := hp2k f h; omega
        · have := hfx.lt f h; omega
      refine ⟨wr', fun j => if j = k then s else sv j, fun j => if j = k then b else wn j, lf, Hf, fx', rs', na', h1, h2, fun t ht => ?_, h6, h7, h8, ⟨p2 ++ p1, by rw [hp2, hp1, List.append_assoc], fun f hf => ?_⟩, fun q hq => h9 q (hrsub q hq), fun j o' hj1 hj2 hj3 => ?_⟩
      · rw [h3 t fun j o' hj1 hj2 hj3 => ht j o' (by omega) hj2 hj3, hwr1]
        simp only [if_neg (ht k o (Nat.le_refl _) hkm hop)]
      · rcases List.mem_append.1 hf with h | h
        · have := hp2k f h; omega
        · have := hp1k f h; omega
      · by_cases e : j = k
        · subst e
          rw [hop] at hj3; cases hj3
          simp only [if_true]
          refine ⟨fun t hd => ?_, ⟨fun E a hr => hwant E a fun t ht => hRef E t _ (by rw [← hwr t ht]; exact hr t ht), fun hb => ?_, hdN, ?_, fun hb => ?_⟩⟩
          · rw [h3 t fun j' o' hj1' hj2' hj3' hd' => by have := opOk_dst hok hd hj2' hj3' hd'; omega, hwr1]
            simp only [if_pos hd]
          · obtain ⟨q1, q2⟩ := hskip hb
            exact ⟨q1, hnot q2⟩
          · intro hg
            rw [← hwant (envOf G H loc ver w) a fun t _ => hT.rel t]
            simp [Region.wanted, hg]
          · rcases hrun hb with ⟨q1, f, lr, q2, q3, q4, q5, rfl⟩ | ⟨q1, lr, H0, H1, X, q2, q3, q4, rfl⟩
            · exact .inl ⟨q1, f, _, by rw [hp2]; exact List.mem_append_right _ q2, q3, q4, q5, hlr⟩
            · exact .inr ⟨q1, _, H0, H1, X, h9 _ q2, q3, fun hl => hnot (q4 hl), hlr⟩
        · simp only [if_neg e]
          exact h4 j o' (by omega) hj2 hj3
    have hTr : TRel (envOf G H loc ver w) N (restr l' o.op.operands.toList) a := ⟨hT.size, fun t => by
      rcases look_restr l' o.op.operands.toList t with h5 | ⟨h5, h6⟩
      · rw [h5]; exact .any _
      · rw [h6]; exact hT'.rel t⟩
    have hHk : ∀ fx', (∀ f ∈ fx', f.p < k) → heapS B fx' (fun j => decide (j < k)) = heapS B fx' (fun j => decide (j < k + 1)) := fun fx' h => heapS_congr B fx' fun f hf => by
      have := h f hf
      simp [this, Nat.lt_succ_of_lt this]
    have hfx' : FxOk n0 na (k + 1) fx := ⟨fun f hf => Nat.lt_succ_of_lt (hfx.lt f hf), hfx.apart, hfx.names, hfx.own⟩
    have hcnt : cntA r ≤ cntA (o :: r) := by
      simp only [cntA]
      cases isA o <;> simp
    rcases hyn with ⟨rfl, hy⟩ | ⟨rfl, hn⟩
    · cases hA : isA o with
      | true =>
        rw [hA] at hy
        simp only at hy
        have hcA : cntA (o :: r) = cntA r + 1 := by simp [cntA, hA]
        obtain ⟨s, ob, hs, hal⟩ := allocD_sound (G := G) (N := N) (lr := restr l' o.op.operands.toList) hy fun x hx => ev_restr l' (by simpa using hx)
        have hnr : H[n0 + na]? = some .res := by
          rw [hH, heapS_other B fx fun g hg _ => by have := hfx.names g hg; omega]
          exact hB _ (by omega) (by omega)
        obtain ⟨_, hopk⟩ := hal.2 (F := Fence.wide) ⟨none, rfl⟩ hI hnr hTr
        obtain ⟨v, w', loc', ver', hI', hr', hx'⟩ := hopk.ex
        refine step (fx1 := ⟨k, n0 + na, ob⟩ :: fx) (rs1 := rs) (na1 := na + 1) hI' hx' hr' ?_ ⟨fun f hf => ?_, List.pairwise_cons.2 ⟨fun f hf => ?_, hfx.apart⟩, fun f hf => ?_, fun f hf hn g hg hne => ?_⟩ (by omega) ⟨[⟨k, n0 + na, ob⟩], rfl, by simp⟩ (fun _ h => h) ?_ (fun h => by cases h) (fun _ => .inl ⟨hA, _, _, List.mem_cons_self, rfl, Nat.le_add_right _ _, hal, rfl⟩)
        · simp only [heapS_cons]
          rw [show decide (k < k + 1) = true by simp, cond_true, ← hHk fx hfx.lt, ← hH]
        · rcases List.mem_cons.1 hf with rfl | hf
          · exact Nat.lt_succ_self _
          · exact Nat.lt_succ_of_lt (hfx.lt f hf)
        · have := hfx.lt f hf
          show k ≠ f.p
          omega
        · rcases List.mem_cons.1 hf with rfl | hf
          · show n0 + na < n0 + (na + 1); omega
          · have := hfx.names f hf; omega
        · rcases List.mem_cons.1 hf with rfl | hf
          · rcases List.mem_cons.1 hg with rfl | hg
            · exact absurd rfl hne
            · have := hfx.names g hg
              show g.n ≠ n0 + na
              omega
          · rcases List.mem_cons.1 hg with rfl | hg
            · have := hfx.names f hf
              show n0 + na ≠ f.n
              omega
            · exact hfx.own f hf hn g hg hne
        · simp only [force_eq] at hs
          exact hs
      | false =>
        rw [hA] at hy
        simp only at hy
        have hcA : cntA (o :: r) = cntA r := by simp [cntA, hA]
        cases hL : isL o with
        | true =>
          rw [hL] at hy
          simp only at hy
          obtain ⟨s, ob, hs⟩ := hy.ex
          rw [force_eq] at hs
          obtain ⟨_, hopk⟩ := op1_sound (F := Fence.wide) hY hΓ ⟨none, rfl⟩ hI hTr hs
          obtain ⟨v, w', s', H', loc', ver', hp, hI', hr', hx'⟩ := hopk.ex
          obtain ⟨rfl, rfl, hgo⟩ := hp
          obtain ⟨hlt, hgo⟩ := bif_true hgo
          have hlt : tgt (restr l' o.op.operands.toList) o < n0 := by simpa using hlt
          refine step (fx1 := ⟨k, tgt (restr l' o.op.operands.toList) o, ob⟩ :: fx) (rs1 := ⟨k, o, restr l' o.op.operands.toList, s'⟩ :: rs) (na1 := na) hI' hx' hr' ?_ ⟨fun f hf => ?_, List.pairwise_cons.2 ⟨fun f hf => ?_, hfx.apart⟩, fun f hf => ?_, fun f hf hn g hg hne => ?_⟩ (by omega) ⟨[⟨k, _, ob⟩], rfl, by simp⟩ (fun _ h => List.mem_cons_of_mem _ h) ?_ (fun h => by cases h) (fun _ => .inr ⟨hA, _, H, _, _, List.mem_cons_self, hs, (fun h => by rw [hL] at h; cases h), rfl⟩)
          · simp only [heapS_cons]
            rw [show decide (k < k + 1) = true by simp, cond_true, ← hHk fx hfx.lt, ← hH]
          · rcases List.mem_cons.1 hf with rfl | hf
            · exact Nat.lt_succ_self _
            · exact Nat.lt_succ_of_lt (hfx.lt f hf)
          · have := hfx.lt f hf
            show k ≠ f.p
            omega
          · rcases List.mem_cons.1 hf with rfl | hf
            · show tgt _ o < n0 + na; omega
            · exact hfx.names f hf
          · rcases List.mem_cons.1 hf with rfl | hf
            · exact absurd (show n0 ≤ tgt _ o from hn) (by omega)
            · rcases List.mem_cons.1 hg with rfl | hg
              · show tgt _ o ≠ f.n
                omega
              · exact hfx.own f hf hn g hg hne
          · simp only [force_eq] at hgo
            exact hgo
        | false =>
          rw [hL] at hy
          simp only at hy
          obtain ⟨s, hs⟩ := hy.ex
          rw [force_eq] at hs
          obtain ⟨_, hopk⟩ := op1_sound (F := Fence.wide) hY hΓ ⟨none, rfl⟩ hI hTr hs
          obtain ⟨v, w', s', H', loc', ver', hp, hI', hr', hx'⟩ := hopk.ex
          obtain ⟨rfl, rfl, hgo⟩ := hp
          exact step (fx1 := fx) (rs1 := ⟨k, o, restr l' o.op.operands.toList, s'⟩ :: rs) (na1 := na) hI' hx' hr' (by rw [← hHk fx hfx.lt]; exact hH) hfx' (by omega) ⟨[], rfl, by simp⟩ (fun _ h => List.mem_cons_of_mem _ h) hgo (fun h => by cases h) (fun _ => .inr ⟨hA, _, _, _, _, List.mem_cons_self, hs, (fun _ => rfl), rfl⟩)
    · exact step (fx1 := fx) (rs1 := rs) (na1 := na) hI (Ext.refl _) (.tup [] [] .nil) (by rw [← hHk fx hfx.lt]; exact hH) hfx' (by omega) ⟨[], rfl, by simp⟩ (fun _ h => h) hn (fun _ => ⟨rfl, rfl⟩) (fun h => by cases h)

/-! ### What has been checked serves for every order -/
theorem memN_iff {n : Nat} : ∀ {l : List Nat}, memN n l = true ↔ n ∈ l
  | [] => by simp [memN]
  | x :: r => by
    simp only [memN, Bool.or_eq_true, beq_iff, List.mem_cons, memN_iff (l := r)]
    exact ⟨fun h => h.imp Eq.symm id, fun h => h.imp Eq.symm id⟩
theorem filter_subs (S : Nat → Bool) : ∀ ps : List Nat, ps.filter S ∈ subs ps
  | [] => by simp [subs]
  | p :: r => by
    have ih := filter_subs S r
    simp only [subs, List.mem_append, List.mem_map, List.filter_cons]
    cases S p with
    | true => exact .inr ⟨_, ih, rfl⟩
    | false => exact .inl ih
theorem chkR_mem {ms ps : List Nat} {B : List HO} {fx : List Fx} {rs : List Rc} (h : chkR P Γ ms ps B fx rs) (r : Rc) (hr : r ∈ rs) : chkS P Γ ms ps B fx r.i r.o r.l r.s (subs ps) := by
  induction rs with
  | nil => cases hr
  | cons q rs ih =>
    rw [chkR_cons] at h
    rcases List.mem_cons.1 hr with e | hr
    · rw [e]; exact h.chk
    · exact ih h.go hr
theorem chkS_mem {ms ps : List Nat} {B : List HO} {fx : List Fx} {r : Rc} : ∀ {sl : List (List Nat)}, chkS P Γ ms ps B fx r.i r.o r.l r.s sl → ∀ sub ∈ sl, admB ms ps r.i sub = true →
    op1 P Γ r.o r.l (heapS B fx fun j => memN j sub) fun s' H' => Pinned (s' = r.s) (H' = heapS B fx fun j => memN j sub || Nat.beq j r.i) Fin0
  | q :: sl, h, sub, hs, ha => by
    rw [chkS_cons] at h
    rcases List.mem_cons.1 hs with rfl | hs
    · rw [ha] at h
      have := h.chk
      unfold chk1 at this
      rwa [forceH_eq] at this
    · refine chkS_mem ?_ sub hs ha
      cases hc : admB ms ps r.i q with
      | true => rw [hc] at h; exact h.go
      | false => rw [hc] at h; exact h
theorem execD_sound (hY : YOK P G.itr) (hΓ : ∀ c ∈ Γ, ConOK P c) {F : Fence} (hF : Opn F) {n : Nat} {ops : Array Oper} {m : Nat} (hok : quietOk ops.toList m = true)
    {l : List (Nat × SV)} {a : Act} {K : List (Nat × SV) → List HO → Prop} {Q : Exit → Act → World → Prop} (hQn : ∀ e a w, Q e a w → e = .normal) (hI : Inv G H loc ver w) (hT : TRel (envOf G H loc ver w) N l a)
    (h : execD P Γ N ops.toList m l H K)
    (hQ : ∀ l' H' loc' ver' a' w', K l' H' → Inv G H' loc' ver' w' → TRel (envOf G H' loc' ver' w') N l' a' → Ext (envOf G H loc ver w) (envOf G H' loc' ver' w') → Same (ops.toList.filterMap (·.dst)) a a' → a'.defers = a.defers → Q .normal a' w') :
    wpAnyIn F n P .any ops Q ops.size (Array.replicate ops.size false) a w := by
  unfold execD at h
  cases hl : loudB (ops.toList.take m) with
  | false =>
    rw [hl] at h
    exact draw_sound hY hΓ hF hok hQn hI hT h hQ
  | true =>
  rw [hl] at h
  simp only [cond_true, force_eq, lenK_eq, Nat.zero_add] at h
  simp only [quietOk, Bool.and_eq_true] at hok
  obtain ⟨hq0, hq1, hq2, hq3⟩ := hok
  have hms : m ≤ ops.size := by simpa using hq0
  have hq : ∀ i o, i < m → ops[i]? = some o → opOk ops.toList m i o = true := fun i o hi ho => allOps_spec hq1 hi ho
  have htopo : ∀ i o, ops[i]? = some o → topo i o = true := fun i o ho => allOps_spec hq2 (by simpa using (Array.getElem?_eq_some_iff.1 ho).1) ho
  have htail0 : ∀ i o, m ≤ i → ops[i]? = some o → ∀ j, j < i → waitsM (masksF ops.toList []) i j = true ∨ (j < m ∧ isFree ops.toList j = true) := by
    intro i o hi ho j hj
    rw [masksK_eq] at hq3
    have := allOps_spec hq3 (by simpa using (Array.getElem?_eq_some_iff.1 ho).1) ho
    simp only [Bool.or_eq_true] at this
    rcases this with h1 | h1
    · have : i < m := by simpa using h1
      omega
    · have := List.all_eq_true.1 h1 j (List.mem_range.2 hj)
      simpa using this
  obtain ⟨B, hBd⟩ : ∃ B, B = H ++ List.replicate (cntA (ops.toList.take m)) HO.res := ⟨_, rfl⟩
  rw [← hBd] at h
  have hBl : B.length = H.length + cntA (ops.toList.take m) := by rw [hBd]; simp
  have hB : ∀ q, H.length ≤ q → q < B.length → B[q]? = some .res := by
    intro q h1 h2
    rw [hBd, List.getElem?_append_right h1, List.getElem?_replicate, if_pos (by omega)]
  obtain ⟨hI0, hx0⟩ := hI.keeps (cntA (ops.toList.take m))
  rw [← hBd] at hI0 hx0
  have hT0 := hT.ext hx0
  obtain ⟨wr, sv, wn, lf, Hf, fx, rs, na, ⟨hchk, hlf⟩, hRef, hwr, hHf, hfx, hna, _, _, hQP⟩ := virtG (N := N) hY hΓ hq hB (ops.toList.take m) 0 (by simp) (fx := []) (rs := []) (na := 0) (wr := look l) hI0 hT0 (fun _ _ _ h => h) rfl ⟨by simp, .nil, by simp, by simp⟩ (by omega) h
  rw [Nat.zero_max] at hHf hfx
  rw [masksK_eq, psK_eq] at hchk
  have hmem : ∀ f ∈ fx, f.p ∈ fx.map (·.p) := fun f hf => List.mem_map.2 ⟨f, hf, rfl⟩
  refine drawG_sound (N := N) (hS := heapS B fx) (wr := wr) (sv := sv) (wn := wn) (lf := lf) (l := l) hY hΓ hF hms hq htopo htail0 hRef (fun t ht => hwr t fun j o _ h2 h3 => ht j o h2 h3) (fun j o hj ho => ?_) hQn (by rw [heapS_none]; exact hI0) (by rw [heapS_none]; exact hT0) (by rw [← hHf]; exact hlf)
    (fun l' H' loc' ver' a' w' h1 h2 h3 h4 h5 h6 => hQ l' H' loc' ver' a' w' h1 h2 h3 (hx0.trans (by rw [heapS_none] at h4; exact h4)) h5 h6)
  obtain ⟨hd, hone⟩ := hQP j o (Nat.zero_le _) hj ho
  refine ⟨hd, hone.want, fun hb => ?_, fun hb => ?_, hone.dst, fun x hx hg => ?_⟩
  · intro F' hF' S hS loc' ver' w' a' hI' hsz hrd
    have hTr : ∀ {lr : List (Nat × SV)}, (∀ (t : Nat) (E : Env) (v : Value), (lk ops o t → Rel E (wr t) v) → Rel E (look lr t) v) → TRel (envOf G (heapS B fx S) loc' ver' w') N lr a' := fun hlr => ⟨hsz, fun t => hlr t _ _ (hrd t)⟩
    rcases hone.run hb with ⟨_, f, lr, hf, hp, hn, hal, hlr⟩ | ⟨_, lr, H0, H1, X, hr, _, _, hlr⟩
    · have hn2 : ∀ g ∈ fx, g.p ≠ j → g.n ≠ f.n := fun g hg hne => hfx.own f hf hn g hg (by rw [hp]; exact hne)
      rw [heapS_add B fx hf hp hS.not hfx.apart hn2]
      refine hal.2 hF' hI' ?_ (hTr hlr)
      rw [heapS_other B fx fun g hg hSg => hn2 g hg fun e => by rw [e, hS.not] at hSg; cases hSg]
      exact hB _ hn (by have := hfx.names f hf; omega)
    · have hS1 : ∀ f ∈ fx, memN f.p ((fx.map (·.p)).filter S) = S f.p := fun f hf => by
        rw [Bool.eq_iff_iff, memN_iff, List.mem_filter]
        exact ⟨fun h => h.2, fun h => ⟨hmem f hf, h⟩⟩
      have hc := chkS_mem (chkR_mem hchk _ hr) _ (filter_subs S (fx.map (·.p))) ?_
      · have e1 : (heapS B fx fun q => memN q ((fx.map (·.p)).filter S)) = heapS B fx S := heapS_congr B fx hS1
        have e2 : (heapS B fx fun q => memN q ((fx.map (·.p)).filter S) || Nat.beq q j) = heapS B fx (addS S j) := heapS_congr B fx fun f hf => by simp only [addS, hS1 f hf]
        rw [e1, e2] at hc
        obtain ⟨hnd, hopk⟩ := op1_sound hY hΓ hF' hI' (hTr hlr) hc
        refine ⟨hnd, hopk.mono ?_⟩
        rintro v w2 ⟨s', H', loc2, ver2, ⟨rfl, rfl, _⟩, h1, h2, h3⟩
        exact ⟨loc2, ver2, h1, h2, h3⟩
      · have hwm : ∀ i p o', ops[i]? = some o' → waitsM (masksF ops.toList []) i p = true → (∀ e ∈ o'.after, Region.binds .any e = true → S e.on = true) → S p = true := fun i p o' ho' hw hp => waitsM_spec (L := fun j => S j = true) hS.closed ho' hw hp
        have hopS : ∀ p, S p = true → ∃ o', ops[p]? = some o' := fun p hp => by
          have := hS.lt p hp
          exact ⟨ops[p]'(by omega), by simp [show p < ops.size by omega]⟩
        simp only [admB, Bool.and_eq_true, Bool.not_eq_true', List.all_eq_true, Bool.or_eq_true]
        refine ⟨?_, fun p hp => ?_, fun p hp => ⟨?_, fun q hq' => ?_⟩⟩
        · rw [Bool.eq_false_iff, Ne, memN_iff, List.mem_filter]
          rintro ⟨_, h2⟩
          rw [hS.not] at h2; cases h2
        · cases hw : waitsM (masksF ops.toList []) j p with
          | false => exact .inl rfl
          | true => exact .inr (memN_iff.2 (List.mem_filter.2 ⟨hp, hwm j p o ho hw hS.own⟩))
        · have hSp := (List.mem_filter.1 hp).2
          cases hw : waitsM (masksF ops.toList []) p j with
          | false => rfl
          | true =>
            obtain ⟨o', ho'⟩ := hopS p hSp
            have := hwm p j o' ho' hw (hS.closed p o' ho' hSp)
            rw [hS.not] at this; cases this
        · have hSp := (List.mem_filter.1 hp).2
          cases hw : waitsM (masksF ops.toList []) p q with
          | false => exact .inl rfl
          | true =>
            obtain ⟨o', ho'⟩ := hopS p hSp
            exact .inr (memN_iff.2 (List.mem_filter.2 ⟨hq', hwm p q o' ho' hw (hS.closed p o' ho' hSp)⟩))
  · obtain ⟨h1, h2⟩ := hone.skip hb
    refine ⟨h1, fun S => heapS_congr B fx fun f hf => ?_⟩
    simp [addS, beq_ne (h2 f hf)]
  · have hwn := hone.plain hg
    rcases hone.run hwn with ⟨hA, _⟩ | ⟨_, lr, H0, H1, X, hr, hop, hnf, hlr⟩
    · simp [isA, hx] at hA
    · have hnf := hnf (by simp [isL, hx])
      refine ⟨fun E a hsz hrd => ?_, fun S => heapS_congr B fx fun f hf => by simp [addS, beq_ne (hnf f hf)]⟩
      unfold op1 at hop
      simp only [hx, hnf_eq] at hop
      rw [← hop.val]
      exact ev_rel (N := N) ⟨hsz, fun t => hlr t _ _ (hrd t)⟩ x
end
end Go.Eng
