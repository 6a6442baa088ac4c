/-
  Parts of slices and of strings.
-/
import Derived.Test.YtpmbhgmifiianaaEngJ
import Derived.Laws.Cover3
import Derived.Laws.Strings
set_option linter.unusedSimpArgs false
set_option linter.unusedVariables false
namespace Go.Eng
open Go.RowKit

section
variable {P : Program} {G : Ctx} {H : List HO} {loc : Nat → Loc} {ver : Nat → Nat} {w : World}
theorem bytes_list (s : List UInt8) : (⟨s.toArray⟩ : ByteArray).toList = s := by rw [ByteArray.toList_eq]
/-- An operand that may be missing. -/
def RelO (E : Env) : Option SV → Option Value → Prop
  | none, none => True
  | some s, some v => Rel E s v
  | _, _ => False
theorem opt_rel {E : Env} {N : Nat} {l : List (Nat × SV)} {a : Act} (hT : TRel E N l a) (o : Option Operand) : RelO E (o.map (ev l)) (o.map a.eval) := by
  cases o with
  | none => trivial
  | some x => exact ev_rel hT x
/-- A bound of a slice. -/
theorem run_bound {k : IntKind} {i : Int} {y : Nat} (code : BoundsCode) (h : 0 ≤ i ∧ i ≤ y) : (Instr.sliceBound (.int k i) y code).run P w = .ok i.toNat w := by
  simp [Instr.sliceBound, asIntOf, h.1, h.2, go_sem]
/-- What a part of a slice of 'n' elements asks for: where it begins, where it ends. -/
structure Cut (n : Nat) (lo hi : Option Value) (i j : Nat) : Prop where
  lo : (lo = none ∧ i = 0) ∨ ∃ k : IntKind, lo = some (.int k (i : Int))
  hi : (hi = none ∧ j = n) ∨ ∃ k : IntKind, hi = some (.int k (j : Int))
  le : i ≤ j
  len : j ≤ n
theorem run_bounds {b : Bool} {n c : Nat} {lo hi : Option Value} {i j : Nat} (h : Cut n lo hi i j) (hc : n ≤ c) : (Instr.sliceBounds b n c lo hi none).run P w = .ok (i, j, c) w := by
  obtain ⟨h1, h2, h3, h4⟩ := h
  rcases h1 with ⟨rfl, rfl⟩ | ⟨k, rfl⟩ <;> rcases h2 with ⟨rfl, rfl⟩ | ⟨k', rfl⟩
  · simp [Instr.sliceBounds, go_sem]
  · simp [Instr.sliceBounds, go_sem, run_bound (P := P) (w := w) (k := k') (i := (j : Int)) (y := c) _ ⟨by omega, by omega⟩]
  · simp [Instr.sliceBounds, go_sem, run_bound (P := P) (w := w) (k := k) (i := (i : Int)) (y := j) _ ⟨by omega, by omega⟩]
  · simp [Instr.sliceBounds, go_sem, run_bound (P := P) (w := w) (k := k') (i := (j : Int)) (y := c) _ ⟨by omega, by omega⟩, run_bound (P := P) (w := w) (k := k) (i := (i : Int)) (y := j) _ ⟨by omega, by omega⟩]
theorem run_slice {t e : TypeId} {sz : Nat} (hu : P.underlying t = some (.slice e)) (hs : sizeB P e = some sz) {a : Option Addr} {n c : Nat} {lo hi : Option Value} {i j : Nat} (h : Cut n lo hi i j) (hc : n ≤ c) :
    (Instr.sliceAt t (.slice a n c) lo hi none).run P w = .ok (.slice (if c = i then a else a.map (·.add (i * sz))) (j - i) (c - i)) w := by
  have hz : ∀ w', (sizeOf e).run P w' = .ok sz w' := by
    intro w'
    unfold sizeB at hs
    cases hi : P.info? e with
    | none => rw [hi] at hs; cases hs
    | some inf =>
      rw [hi] at hs
      cases hs
      simp [sizeOf, typeInfo, go_sem, hi]
  simp [Instr.sliceAt, Instr.slice, run_underlying hu, run_bounds (P := P) (w := w) h hc, hz, go_sem]
theorem cut_reads {ok : Nat → Prop} {t : Ty} {xs : List t.T} {a : Option Addr} {n c i j : Nat} (h : Reads w ok (.slice t) xs [.slice a n c]) (h1 : i ≤ j) (h2 : j ≤ n) :
    Reads w ok (.slice t) ((xs.take j).drop i) [.slice (if c = i then a else a.map (·.add (i * t.size))) (j - i) (c - i)] := by
  obtain ⟨a', n', c', e, hn, hnc, hm, hall⟩ := h
  cases e
  have hn : n = List.length xs := hn
  refine ⟨_, j - i, c - i, rfl, ?_, by omega, by omega, fun h0 => ?_⟩
  · show j - i = ((xs.take j).drop i).length
    simp; omega
  · have hne : c ≠ i := by omega
    rw [if_neg hne]
    obtain ⟨b, off, rfl, hok, hel⟩ := hall (by omega)
    refine ⟨b, off + i * t.size, ?_, hok, fun q hq => ?_⟩
    · simp only [Option.map_some]
      congr 1
      unfold Addr.add
      split <;> simp_all
    · obtain ⟨es, q1, q2, q3⟩ := hel (i + q) (by omega)
      refine ⟨es, q1, ?_, ?_⟩
      · have e1 : off + i * t.size + q * t.size = off + (i + q) * t.size := by rw [Nat.add_mul]; omega
        rw [e1]; exact q2
      · have e2 : List.getD (α := t.T) ((xs.take j).drop i) q t.dflt = List.getD (α := t.T) xs (i + q) t.dflt := by
          have : i + q < j := by omega
          simp [List.getD_eq_getElem?_getD, List.getElem?_drop, List.getElem?_take, this]
        have : List.getD (α := t.T) (List.drop i (List.take j xs)) q t.dflt = List.getD (α := t.T) xs (i + q) t.dflt := e2
        rw [this]; exact q3
theorem RelO.none {E : Env} {v : Option Value} (h : RelO E none v) : v = Option.none := by cases v with
  | none => rfl
  | some v => exact h.elim
theorem RelO.int {E : Env} {k : IntKind} {n : Int} {v : Option Value} (h : RelO E (some (.val (.int k n))) v) : v = some (.int k n) := by cases v with
  | none => exact h.elim
  | some v => cases (show Rel E _ v from h); rfl
theorem sliceSeq_sound {E : Env} {t : Ty} {xs : List t.T} {lo hi : Option SV} {vlo vhi : Option Value} {K : SV → Prop} (h : sliceSeq t xs lo hi K) (hl : RelO E lo vlo) (hh : RelO E hi vhi) :
    ∃ i j, Cut xs.length vlo vhi i j ∧ K (.seq t ((xs.take j).drop i)) := by
  unfold sliceSeq at h
  split at h
  · exact ⟨0, xs.length, ⟨.inl ⟨hl.none, rfl⟩, .inl ⟨hh.none, rfl⟩, Nat.zero_le _, Nat.le_refl _⟩, by simpa using h⟩
  · rename_i k i
    have e1 := hl.int
    have e2 := hh.none
    have hb := h.ok
    have hk := h.go.use hb.1
    refine ⟨i.toNat, xs.length, ⟨.inr ⟨k, ?_⟩, .inl ⟨e2, rfl⟩, by omega, Nat.le_refl _⟩, by simpa using hk⟩
    rw [e1, Int.toNat_of_nonneg hb.1]
  · rename_i k j
    have e1 := hl.none
    have e2 := hh.int
    have hb := h.ok
    have hk := h.go.use hb.1
    refine ⟨0, j.toNat, ⟨.inl ⟨e1, rfl⟩, .inr ⟨k, ?_⟩, Nat.zero_le _, by omega⟩, by simpa using hk⟩
    rw [e2, Int.toNat_of_nonneg hb.1]
  · rename_i k i k' j
    have e1 := hl.int
    have e2 := hh.int
    have hb := h.ok
    have hk := (h.go.use hb.1).use (by omega)
    refine ⟨i.toNat, j.toNat, ⟨.inr ⟨k, ?_⟩, .inr ⟨k', ?_⟩, by omega, by omega⟩, hk⟩
    · rw [e1, Int.toNat_of_nonneg hb.1]
    · rw [e2, Int.toNat_of_nonneg (by omega)]
  · exact h.elim
theorem sliceStr_sound {E : Env} {s : List UInt8} {lo hi : Option SV} {vlo vhi : Option Value} {K : SV → Prop} (h : sliceStr s lo hi K) (hl : RelO E lo vlo) (hh : RelO E hi vhi) :
    ∃ i j, Cut s.length vlo vhi i j ∧ K (.str ((s.take j).drop i)) := by
  unfold sliceStr at h
  split at h
  · exact ⟨0, s.length, ⟨.inl ⟨hl.none, rfl⟩, .inl ⟨hh.none, rfl⟩, Nat.zero_le _, Nat.le_refl _⟩, by simpa using h⟩
  · rename_i k i
    have e1 := hl.int
    have e2 := hh.none
    have hb := h.ok
    have hk := h.go.use hb.1
    refine ⟨i.toNat, s.length, ⟨.inr ⟨k, ?_⟩, .inl ⟨e2, rfl⟩, by omega, Nat.le_refl _⟩, by simpa using hk⟩
    rw [e1, Int.toNat_of_nonneg hb.1]
  · rename_i k j
    have e1 := hl.none
    have e2 := hh.int
    have hb := h.ok
    have hk := h.go.use hb.1
    refine ⟨0, j.toNat, ⟨.inl ⟨e1, rfl⟩, .inr ⟨k, ?_⟩, Nat.zero_le _, by omega⟩, by simpa using hk⟩
    rw [e2, Int.toNat_of_nonneg hb.1]
  · rename_i k i k' j
    have e1 := hl.int
    have e2 := hh.int
    have hb := h.ok
    have hk := (h.go.use hb.1).use (by omega)
    refine ⟨i.toNat, j.toNat, ⟨.inr ⟨k, ?_⟩, .inr ⟨k', ?_⟩, by omega, by omega⟩, hk⟩
    · rw [e1, Int.toNat_of_nonneg hb.1]
    · rw [e2, Int.toNat_of_nonneg (by omega)]
  · exact h.elim
theorem seq_cut {t e : TypeId} (hu : P.underlying t = some (.slice e)) {sz : Nat} (hs : sizeB P e = some sz) {E : Env} {ty : Ty} {xs : List ty.T} {x : Value} (hx : Rel E (.seq ty xs) x) (hsz : sz = ty.size) {lo hi : Option SV} {vlo vhi : Option Value} {K : SV → Prop}
    (h : sliceSeq ty xs lo hi K) (hl : RelO E lo vlo) (hh : RelO E hi vhi) : ∃ v s, (Instr.sliceAt t x vlo vhi none).run P w = .ok v w ∧ K s ∧ Rel E s v := by
  cases hx with
  | seq _ _ _ hr =>
    obtain ⟨i, j, hc, hk⟩ := sliceSeq_sound h hl hh
    have hr' := hr
    obtain ⟨a, n, c, e, hn, hnc, hm, _⟩ := hr'
    cases e
    have hn : n = List.length xs := hn
    rw [← hn] at hc
    refine ⟨_, _, run_slice hu hs hc hnc, hk, .seq _ _ _ ?_⟩
    rw [hsz]
    exact cut_reads hr hc.le hc.len
theorem sliceOp_sound (hI : Inv G H loc ver w) {t : TypeId} {s : SV} {x : Value} {lo hi : Option SV} {vlo vhi : Option Value} {K : SV → List HO → Prop} (h : sliceOp P t H s lo hi K) (hx : Rel (envOf G H loc ver w) s x)
    (hl : RelO (envOf G H loc ver w) lo vlo) (hh : RelO (envOf G H loc ver w) hi vhi) :
    ∃ v s' H', (Instr.sliceAt t x vlo vhi none).run P w = .ok v w ∧ K s' H' ∧ Inv G H' loc ver w ∧ Ext (envOf G H loc ver w) (envOf G H' loc ver w) ∧ Rel (envOf G H' loc ver w) s' v := by
  unfold sliceOp at h
  split at h
  · rename_i e hu
    split at h
    · rename_i sz hs
      split at h
      · rename_i ty xs
        obtain ⟨hb, h⟩ := bif_true h
        obtain ⟨v, s', h1, h2, h3⟩ := seq_cut (P := P) (w := w) hu hs hx (beq_iff.1 hb) h hl hh
        exact ⟨v, s', H, h1, h2, hI, Ext.refl _, h3⟩
      · have e : x = .slice none 0 0 := by cases hx; rfl
        subst e
        split at h
        · rename_i k j
          have e1 := hl.none
          have e2 := hh.int
          subst e1 e2
          have hj : j = 0 := by have := h.ok; omega
          subst hj
          refine ⟨.slice none 0 0, _, H, ?_, h.go, hI, Ext.refl _, .val _ (by trivial)⟩
          have := run_slice (P := P) (w := w) hu hs (a := none) (n := 0) (c := 0) (lo := none) (hi := some (.int k ((0 : Nat) : Int))) (i := 0) (j := 0) ⟨.inl ⟨rfl, rfl⟩, .inr ⟨k, rfl⟩, Nat.le_refl _, Nat.le_refl _⟩ (Nat.le_refl _)
          simpa using this
        · split at h
          · rename_i ty hty
            obtain ⟨hb, h⟩ := bif_true h
            obtain ⟨v, s', h1, h2, h3⟩ := seq_cut (P := P) (w := w) hu hs (E := envOf G H loc ver w) (xs := ([] : List ty.T)) (.seq _ _ _ (reads_nil _ _ _)) (beq_iff.1 hb) h hl hh
            exact ⟨v, s', H, h1, h2, hI, Ext.refl _, h3⟩
          · exact h.elim
      · rename_i nm k
        split at h
        · rename_i k' j
          have e1 := hl.none
          have e2 := hh.int
          subst e1 e2
          split at h
          · rename_i v ty e' ho
            obtain ⟨hb, h⟩ := bif_true h
            simp only [Bool.and_eq_true, beq_iff] at hb
            obtain ⟨hb1, hb2⟩ := hb
            subst hb1
            have hj : j = 0 := by have := h.ok; omega
            subst hj
            have hO := hI.objs nm _ (hget_some ho (by simp))
            obtain ⟨hv, hv0, hlen, hmax, vs, hown, hel⟩ := hO
            have hlen' : (loc nm).len = 0 := hlen
            cases hx with
            | wide _ _ _ hn h0 hk h =>
              obtain ⟨n, hnc, hx⟩ := h hv.symm
              subst hx
              have hnc : n ≤ (loc nm).cap := hnc
              have hrun := run_slice (P := P) (w := w) hu hs (a := (loc nm).blk.map fun p => (⟨p.1, p.2, none⟩ : Addr)) (n := n) (c := (loc nm).cap) (lo := none) (hi := some (.int k' ((0 : Nat) : Int))) (i := 0) (j := 0) ⟨.inl ⟨rfl, rfl⟩, .inr ⟨k', rfl⟩, Nat.le_refl _, Nat.zero_le _⟩ hnc
              refine ⟨(loc nm).head, _, H, ?_, (show K (.ref nm v) H from ‹Need _ _›.go), hI, Ext.refl _, .ref _ _ _ hn h0 hk fun _ => rfl⟩
              have e1 : (if (loc nm).cap = 0 then ((loc nm).blk.map fun p => (⟨p.1, p.2, none⟩ : Addr)) else ((loc nm).blk.map fun p => (⟨p.1, p.2, none⟩ : Addr)).map (·.add (0 * sz))) = (loc nm).blk.map fun p => (⟨p.1, p.2, none⟩ : Addr) := by
                cases (loc nm).blk <;> simp [Addr.add]
              rw [e1] at hrun
              simpa [Core.head, hlen', envOf] using hrun
          · exact h.elim
        · exact h.elim
      · rename_i nm k
        rw [force_eq] at h
        obtain ⟨hI', hx'⟩ := frz1_sound (.ref nm k) hI
        have hv := view_ref_fro hI' (hx.ext hx')
        split at h
        · rename_i ty xs hvw
          rw [hvw] at hv
          obtain ⟨hb, h⟩ := bif_true h
          have hl' : RelO (envOf G (frz1 H (.ref nm k)) loc ver w) lo vlo := by
            cases lo <;> cases vlo <;> first | trivial | exact hl.elim | exact (show Rel _ _ _ from hl).ext hx'
          have hh' : RelO (envOf G (frz1 H (.ref nm k)) loc ver w) hi vhi := by
            cases hi <;> cases vhi <;> first | trivial | exact hh.elim | exact (show Rel _ _ _ from hh).ext hx'
          obtain ⟨v, s', h1, h2, h3⟩ := seq_cut (P := P) (w := w) hu hs hv (beq_iff.1 hb) h hl' hh'
          exact ⟨v, s', _, h1, h2, hI', hx', h3⟩
        · exact h.elim
      · exact h.elim
    · exact h.elim
  · rename_i hu
    split at h
    · rename_i s
      obtain ⟨i, j, hc, hk⟩ := sliceStr_sound h hl hh
      cases hx with
      | str _ hm =>
        refine ⟨.string ⟨((s.take j).drop i).toArray⟩, _, H, ?_, hk, hI, Ext.refl _, .str _ ?_⟩
        · have e1 : (⟨s.toArray⟩ : ByteArray).size = s.length := by simp [ByteArray.size]
          have e2 : (⟨s.toArray⟩ : ByteArray).extract i j = ⟨((s.take j).drop i).toArray⟩ := by
            apply WideShapes.bytes_inj
            simp [ByteArray.data_extract, List.drop_take]
          simp only [Instr.sliceAt, Instr.slice]
          simp [run_underlying hu, e1, run_bounds (P := P) (w := w) hc (Nat.le_refl _), go_sem, e2]
        · simp; omega
    · exact h.elim
  · exact h.elim
end
end Go.Eng
