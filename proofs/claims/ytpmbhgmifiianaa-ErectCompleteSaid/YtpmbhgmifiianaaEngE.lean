/-
  Each operation that the executor knows is carried out by the model as the executor says: stores, addresses, allocations, list literals, appends.
-/
import Derived.Test.YtpmbhgmifiianaaEngD
import Derived.Laws.MakeOwn
set_option linter.unusedSimpArgs false
set_option linter.unusedVariables false
namespace Go.Eng
open Go.RowKit

theorem and4 {a b c d : Bool} (h : (a && b && c && d) = true) : a = true ∧ b = true ∧ c = true ∧ d = true := by simpa [and_assoc] using h
theorem bif_true {c : Bool} {p : Prop} (h : bif c then p else False) : c = true ∧ p := by
  cases c with
  | false => exact h.elim
  | true => exact ⟨rfl, h⟩
section
variable {P : Program} {G : Ctx} {H : List HO} {loc : Nat → Loc} {ver : Nat → Nat} {w : World}

theorem oneC_sound (hI : Inv G H loc ver w) {s : SV} {v : Value} (h : Rel (envOf G H loc ver w) s v) (hc : oneC H s = true) : v.oneCell' = true := by
  cases h with
  | any => cases hc
  | val v h => cases v <;> first | rfl | cases hc
  | bl => rfl
  | str => rfl
  | seq t xs v h => obtain ⟨a, n, c, e, _⟩ := h; cases e; rfl
  | lit => rfl
  | elem => rfl
  | lelem => rfl
  | ptr nm off v hn h =>
    simp only [oneC] at hc
    cases ho : hget H nm with
    | cells l e =>
      have hO := hI.objs nm _ (hget_some ho (by simp))
      obtain ⟨b, _, rfl⟩ := h hO.1
      rfl
    | _ => rw [ho] at hc; cases hc
  | ref nm k v hn h0 hk h =>
    simp only [oneC] at hc
    cases ho : hget H nm with
    | vec j t xs e =>
      rw [ho] at hc
      obtain rfl := beq_iff.1 hc
      have hO := hI.objs nm _ (hget_some ho (by simp))
      rw [h hO.1.symm]; rfl
    | fro j t xs =>
      rw [ho] at hc
      obtain rfl := beq_iff.1 hc
      have hO := hI.objs nm _ (hget_some ho (by simp))
      rw [h hO.1.symm]; rfl
    | vv j s t xss pd eo ei =>
      rw [ho] at hc
      obtain rfl := beq_iff.1 hc
      have hO := hI.objs nm _ (hget_some ho (by simp))
      rw [h hO.1.symm]; rfl
    | _ => rw [ho] at hc; cases hc
  | mp nm v hn h =>
    simp only [oneC] at hc
    cases ho : hget H nm with
    | map k t m =>
      have hO := hI.objs nm _ (hget_some ho (by simp))
      obtain ⟨b, _, rfl⟩ := h hO.1
      rfl
    | _ => rw [ho] at hc; cases hc
  | vptr => cases hc
  | sub => cases hc
  | subp => cases hc
  | wide => cases hc
  | agg => cases hc
  | tup => cases hc
  | clo => rfl
  | yld => rfl
theorem cells_of_one {v : Value} (h : v.oneCell' = true) : v.cells = #[v] := by cases v <;> first | rfl | cases h
theorem cells_rel (hI : Inv G H loc ver w) {s : SV} {v : Value} (h : Rel (envOf G H loc ver w) s v) (hc : cellsC H s = true) : RelL (envOf G H loc ver w) (cellsOfSV s) v.cells.toList := by
  have key : oneC H s = true → cellsOfSV s = [s] → RelL (envOf G H loc ver w) (cellsOfSV s) v.cells.toList := by
    intro h1 h2
    rw [h2, cells_of_one (oneC_sound hI h h1)]
    exact .cons _ _ _ _ h .nil
  cases s with
  | agg l => cases h with
    | agg _ vs hl => exact hl
  | _ => exact key hc rfl
theorem onesC_sound (hI : Inv G H loc ver w) : ∀ {l : List SV} {vs : List Value}, RelL (envOf G H loc ver w) l vs → onesC H l = true → ∀ v ∈ vs, v.oneCell' = true
  | _, _, .nil, _ => by simp
  | _, _, .cons s v l vs h hl, hc => by
    simp only [onesC, Bool.and_eq_true] at hc
    intro u hu
    rcases List.mem_cons.1 hu with rfl | hu
    · exact oneC_sound hI h hc.1
    · exact onesC_sound hI hl hc.2 u hu

theorem setVs_eq (r l : List Value) (off : Nat) (h : off + r.length ≤ l.length) : setVs l off r = l.take off ++ r ++ l.drop (off + r.length) := by
  apply List.ext_getElem?
  intro i
  rw [setVs_get r l off i h]
  by_cases h1 : i < off
  · rw [if_neg (by omega), List.append_assoc, List.getElem?_append_left (by simp; omega), List.getElem?_take, if_pos h1]
  · by_cases h2 : i < off + r.length
    · rw [if_pos (by omega), List.append_assoc, List.getElem?_append_right (by simp; omega), List.getElem?_append_left (by simp; omega)]
      congr 1; simp; omega
    · rw [if_neg (by omega), List.append_assoc, List.getElem?_append_right (by simp; omega), List.getElem?_append_right (by simp; omega), List.getElem?_drop]
      congr 1; simp; omega

theorem run_storeAt {b off : Nat} {t e : TypeId} {sz : Nat} {cs : List Value} {v : Value} (hs : sizeB P t = some sz) (hb : w.heap[b]? = some (.cells ⟨cs⟩ e (0, 0))) (hl : v.cells.toList.length = sz) (h1 : ∀ u ∈ v.cells.toList, u.oneCell' = true) (hf : off + sz ≤ cs.length) :
    (Instr.storeAt t (.pointer (some ⟨b, off, none⟩)) v).run P w = .ok () (w.setRow b ⟨setVs cs off v.cells.toList⟩) := by
  have hst := run_storeCells_at P b off e v.cells.toList 0 ⟨cs⟩ w hb (by simp at hl ⊢; omega) h1
  simp only [Nat.add_zero] at hst
  have e1 : setVs cs off v.cells.toList = cs.take off ++ v.cells.toList ++ cs.drop (off + v.cells.toList.length) := setVs_eq _ _ _ (by omega)
  rw [e1]
  have hsz : ¬ v.cells.size ≠ sz := by simpa using hl
  simp only [Instr.storeAt, Instr.sureAddr, storeVar, Sem.run_bind, Sem.run_pure, Result.andThen_ok, run_sizeOf hs, if_neg hsz]
  simpa using hst

theorem storeOp_sound (hI : Inv G H loc ver w) {t : TypeId} {s x : SV} {p v : Value} {K : List HO → Prop} (h : storeOp P t H s x K) (hp : Rel (envOf G H loc ver w) s p) (hx : Rel (envOf G H loc ver w) x v) :
    ∃ H' w', (Instr.storeAt t p v).run P w = .ok () w' ∧ K H' ∧ Inv G H' loc ver w' ∧ Ext (envOf G H loc ver w) (envOf G H' loc ver w') := by
  unfold storeOp at h
  cases hz : sizeB P t with
  | none => rw [hz] at h; cases hp <;> exact h.elim
  | some sz =>
  rw [hz] at h
  cases hp with
  | ptr nm off _ hn hp =>
    simp only at h
    cases ho : hget H nm with
    | cells l e =>
      rw [ho] at h
      obtain ⟨hb, h⟩ := bif_true h
      simp only [force_eq] at h
      obtain ⟨b1, b2, b3, b4⟩ := and4 hb
      have hn' := hget_some ho (by simp)
      obtain ⟨h0, b, vs, h1, h2, h3⟩ := hI.objs nm _ hn'
      obtain ⟨b', hb', rfl⟩ := hp h0
      have e1 : (loc nm).blk = some (b', 0) := hb'
      rw [h1] at e1; cases e1
      have hcx := cells_rel hI hx b1
      have hlen := hcx.length
      have hlv := h3.length
      have b3' := beq_iff.1 b3
      have b4' := Nat.le_of_ble_eq_true b4
      have hrun := run_storeAt (P := P) (w := w) (v := v) (off := off) hz h2 (by omega) (onesC_sound hI hcx b2) (by omega)
      have hin := hI.inPlace (w' := w.setRow b ⟨setVs vs off v.cells.toList⟩) (o' := .cells (setCells l off (cellsOfSV x)) e) hn' (b := b) (by simp [Owns, h1]) (fun _ h => h) (by simp) rfl rfl rfl (fun b' hb' => setRow_other w b b' _ hb')
        (fun hx' => ⟨h0, b, _, h1, setRow_heap w b _ _ e _ h2, (h3.ext hx').setCells (hcx.ext hx') off⟩)
      exact ⟨_, _, hrun, h, hin.1, hin.2⟩
    | _ => rw [ho] at h; exact h.elim
  | vptr nm k i z o _ hn h0 hk hp =>
    simp only at h
    cases ho : hget H nm with
    | vec j ty xs e =>
      rw [ho] at h
      simp only at h
      obtain ⟨hb, h'⟩ := bif_true h
      rw [dfK_eq] at h'
      obtain ⟨hk2, hK⟩ := bif_true h'
      cases hd : dec ty (setCells (enc ty (xs.getD i ty.dflt)) o (cellsOfSV x)) with
      | none => rw [hd] at hK; exact hK.elim
      | some y =>
      rw [hd] at hK
      simp only [force_eq] at hK
      simp only [Bool.and_eq_true, beq_iff, Nat.ble_eq] at hb
      obtain ⟨⟨⟨⟨b1, rfl⟩, rfl⟩, b3⟩, b4⟩ := hb
      have hn' := hget_some ho (by simp)
      have hO := hI.objs nm _ hn'
      obtain ⟨hv, hk0, hlen, hmax, vs, hown, hel⟩ := hO
      have hv' : ver nm = j := hv
      obtain ⟨hlt, b, off, hbk, rfl⟩ := hp hv'.symm
      have hbk' : (loc nm).blk = some (b, off) := hbk
      have hlt' : i < (loc nm).len := hlt
      rcases own_cases hown with ⟨e1, _⟩ | ⟨g, cur, e1, e2, e3, e4, e5, e6, e7⟩
      · rw [hbk'] at e1; cases e1
      rw [hbk'] at e1; cases e1
      have hcx := cells_rel hI hx b1
      have hcl := hcx.length
      have hes := hel i hlt'
      have hesl := hes.length
      have hnew : RelL (envOf G H loc ver w) (setCells (enc ty (xs.getD i ty.dflt)) o (cellsOfSV x)) (setVs ((vs.drop (i * ty.size)).take ty.size) o v.cells.toList) := (hes.enc).setCells hcx o
      have hrd := dec_reads hnew hd hk2
      have hvl : vs.length = (loc nm).len * ty.size := hown.1
      have hmul : i * ty.size + ty.size ≤ (loc nm).len * ty.size := by
        have : (i + 1) * ty.size ≤ (loc nm).len * ty.size := Nat.mul_le_mul_right _ hlt'
        rwa [Nat.add_mul, Nat.one_mul] at this
      have hcurl : cur.toList.length = (loc nm).cap * ty.size := by simpa using e6
      have hcap : (loc nm).len * ty.size ≤ (loc nm).cap * ty.size := Nat.mul_le_mul_right _ e4
      have hones : ∀ u ∈ v.cells.toList, u.oneCell' = true := by
        intro u hu
        apply hrd.one
        obtain ⟨q, hq, rfl⟩ := List.getElem_of_mem hu
        have hg := setVs_get v.cells.toList ((vs.drop (i * ty.size)).take ty.size) o (o + q) (by rw [hesl]; omega)
        rw [if_pos (by omega)] at hg
        have e9 : o + q - o = q := by omega
        rw [e9, List.getElem?_eq_getElem hq] at hg
        exact List.mem_of_getElem? hg
      have hcur : w.heap[b]? = some (.cells ⟨cur.toList⟩ e (0, 0)) := e3
      have hrun := run_storeAt (P := P) (w := w) (v := v) (off := 0 + i * ty.size + o) hz hcur (by omega) hones (by omega)
      have hset : ∀ m, (setVs cur.toList (0 + i * ty.size + o) v.cells.toList)[m]? = if i * ty.size + o ≤ m ∧ m < i * ty.size + o + v.cells.toList.length then v.cells.toList[m - (i * ty.size + o)]? else cur.toList[m]? := by
        intro m
        rw [setVs_get _ _ _ _ (by omega)]
        simp only [Nat.zero_add]
      have hin := hI.inPlace (w' := w.setRow b ⟨setVs cur.toList (0 + i * ty.size + o) v.cells.toList⟩) (o' := .vec j ty (xs.set i y) e) hn' (b := b) (by simp [Owns, hbk']) (fun _ h => h) (by simp) rfl rfl rfl (fun b' hb' => setRow_other w b b' _ hb')
        (fun hx' => by
          refine ⟨hv, hk0, by simpa using hlen, hmax, (setVs cur.toList (0 + i * ty.size + o) v.cells.toList).take ((loc nm).len * ty.size), ?_, ?_⟩
          · refine ⟨by rw [List.length_take, setVs_length]; omega, .inr ⟨b, (loc nm).cap, _, ?_, Nat.zero_le _, setRow_heap w b _ _ e _ hcur, e4, e5, ?_, rfl⟩⟩
            · simp [Core.head, hbk']
            · show (setVs cur.toList _ _).length = _
              rw [setVs_length]; exact hcurl
          · intro m hm
            have hm2 : m * ty.size + ty.size ≤ (loc nm).len * ty.size := by
              have : (m + 1) * ty.size ≤ (loc nm).len * ty.size := Nat.mul_le_mul_right _ hm
              rwa [Nat.add_mul, Nat.one_mul] at this
            by_cases e : m = i
            · subst e
              have e10 : (((setVs cur.toList (0 + m * ty.size + o) v.cells.toList).take ((loc nm).len * ty.size)).drop (m * ty.size)).take ty.size = setVs ((vs.drop (m * ty.size)).take ty.size) o v.cells.toList := by
                apply List.ext_getElem?
                intro q
                rw [setVs_get _ _ _ _ (by rw [hesl]; omega), List.getElem?_take, List.getElem?_drop, List.getElem?_take, hset, ← e7]
                by_cases hq : q < ty.size
                · rw [if_pos hq, if_pos (by omega)]
                  by_cases hq2 : o ≤ q ∧ q < o + v.cells.toList.length
                  · rw [if_pos (by omega), if_pos hq2]
                    congr 1; omega
                  · rw [if_neg (by omega), if_neg hq2, List.getElem?_take, if_pos hq, List.getElem?_drop, List.getElem?_take, if_pos (by omega)]
                · rw [if_neg hq, if_neg (by omega), List.getElem?_take, if_neg hq]
              rw [e10]
              have e11 : List.getD (α := ty.T) (xs.set m y) m ty.dflt = y := by
                have : m < xs.length := by rw [← hlen]; exact hlt'
                simp [List.getD_eq_getElem?_getD, this]
              rw [e11]
              exact hrd.mono hx'.cell hx'.ok
            · have e10 : (((setVs cur.toList (0 + i * ty.size + o) v.cells.toList).take ((loc nm).len * ty.size)).drop (m * ty.size)).take ty.size = (vs.drop (m * ty.size)).take ty.size := by
                apply List.ext_getElem?
                intro q
                rw [List.getElem?_take, List.getElem?_drop, List.getElem?_take, hset, ← e7, List.getElem?_take, List.getElem?_drop, List.getElem?_take]
                by_cases hq : q < ty.size
                · have c1 : m * ty.size + q < (loc nm).len * ty.size := by omega
                  have c2 : ¬ (i * ty.size + o ≤ m * ty.size + q ∧ m * ty.size + q < i * ty.size + o + v.cells.toList.length) := by
                    intro hc
                    rcases Nat.lt_or_gt_of_ne e with h1 | h1
                    · have : (m + 1) * ty.size ≤ i * ty.size := Nat.mul_le_mul_right _ h1
                      rw [Nat.add_mul, Nat.one_mul] at this; omega
                    · have : (i + 1) * ty.size ≤ m * ty.size := Nat.mul_le_mul_right _ h1
                      rw [Nat.add_mul, Nat.one_mul] at this; omega
                  rw [if_pos hq, if_pos c1, if_neg c2, if_pos hq, if_pos c1]
                · rw [if_neg hq, if_neg hq]
              rw [e10]
              have e11 : List.getD (α := ty.T) (xs.set i y) m ty.dflt = xs.getD m ty.dflt := by
                simp [List.getD_eq_getElem?_getD, List.getElem?_set, Ne.symm e]
              rw [e11]
              exact (hel m hm).mono hx'.cell hx'.ok)
      exact ⟨_, _, hrun, hK, hin.1, hin.2⟩
    | _ => rw [ho] at h; exact h.elim
  | _ => exact h.elim

/-! ### Addresses -/
theorem live_ptr (hI : Inv G H loc ver w) {nm off : Nat} {p : Value} (hp : Rel (envOf G H loc ver w) (.ptr nm off) p) (hl : live H (.ptr nm off) = true) : ∃ b, (loc nm).blk = some (b, 0) ∧ p = .pointer (some ⟨b, off, none⟩) := by
  cases hp with
  | ptr nm off _ hn hp =>
    simp only [live] at hl
    cases ho : hget H nm with
    | cells l e => exact hp (hI.objs nm _ (hget_some ho (by simp))).1
    | _ => rw [ho] at hl; cases hl
theorem fieldOf_run {t : TypeId} {f fo sz : Nat} {ag : Bool} (h : fieldOf P t f = some (fo, sz, ag)) :
    ∃ fs fd, P.underlying t = some (.struct fs) ∧ fs[f]? = some fd ∧ fd.offset = fo ∧ sizeB P fd.type = some sz ∧ aggB P fd.type = some ag := by
  unfold fieldOf at h
  split at h
  · rename_i fs hu
    split at h
    · rename_i fd hf
      split at h
      · rename_i s a hs ha
        cases h
        exact ⟨fs, fd, hu, hf, rfl, hs, ha⟩
      · cases h
    · cases h
  · cases h
theorem run_fieldAt {t : TypeId} {f fo sz b off : Nat} {ag : Bool} (h : fieldOf P t f = some (fo, sz, ag)) (h0 : 0 < sz) : (Instr.fieldAt t (.pointer (some ⟨b, off, none⟩)) f).run P w = .ok (.pointer (some ⟨b, off + fo, none⟩)) w := by
  obtain ⟨fs, fd, hu, hf, rfl, hs, ha⟩ := fieldOf_run h
  have : ¬ sz = 0 := by omega
  simp [Instr.fieldAt, run_underlying hu, hf, Instr.sureAddr, fieldPlace, run_sizeOf hs, this, Addr.add_mid]
theorem run_field {E : Env} {t : TypeId} {f fo sz : Nat} {ag : Bool} {cs : List SV} {vs : List Value} {K : SV → Prop} (hf : fieldOf P t f = some (fo, sz, ag)) (hl : RelL E cs vs)
    (h : takeSV ag fo sz cs K) : ∃ v s, (Instr.field t (.agg ⟨vs⟩) f).run P w = .ok v w ∧ K s ∧ Rel E s v := by
  obtain ⟨fs, fd, hu, hf', rfl, hs, ha⟩ := fieldOf_run hf
  cases ag with
  | true =>
    obtain ⟨hb, h⟩ := bif_true h
    rw [force_eq] at h
    refine ⟨_, _, ?_, h, .agg _ _ ((hl.drop fd.offset).take sz)⟩
    simp [Instr.field, run_underlying hu, hf', asAgg, part, run_isAgg ha, run_sizeOf hs]
  | false =>
    obtain ⟨hb, h⟩ := bif_true h
    rw [hnf_eq] at h
    have hlt : fd.offset < cs.length := by simpa using hb
    have hlt' : fd.offset < vs.length := by rw [← hl.length]; exact hlt
    refine ⟨_, _, ?_, h, hl.get _ hlt⟩
    simp [Instr.field, run_underlying hu, hf', asAgg, part, run_isAgg ha, hlt']
theorem sliceElem_run {t e : TypeId} (h : sliceElem P t = some e) : P.underlying t = some (.slice e) := by
  unfold sliceElem at h
  split at h
  · rename_i e' hu; cases h; exact hu
  · cases h
theorem run_indexAt {t e : TypeId} {sz b off n c : Nat} {k : IntKind} {i : Int} (he : sliceElem P t = some e) (hs : sizeB P e = some sz) (h : 0 ≤ i ∧ i < n) :
    (Instr.indexAt t (.slice (some ⟨b, off, none⟩) n c) (.int k i)).run P w = .ok (.pointer (some ⟨b, off + i.toNat * sz, none⟩)) w := by
  simp [Instr.indexAt, asIntOf, run_underlying (sliceElem_run he), run_sizeOf hs, h.1, h.2, Addr.add_mid]
theorem indexOp_sound (hI : Inv G H loc ver w) {t : TypeId} {x i : SV} {p q : Value} {K : SV → Prop} (h : indexOp P t H x i K) (hx : Rel (envOf G H loc ver w) x p) (hi : Rel (envOf G H loc ver w) i q) :
    ∃ v s, (Instr.indexAt t p q).run P w = .ok v w ∧ K s ∧ Rel (envOf G H loc ver w) s v := by
  unfold indexOp at h
  split at h
  · rename_i e k n he
    obtain ⟨rfl, _⟩ := hi.int_inv
    split at h
    · rename_i sz hs
      have hseq : ∀ (ty : Ty) (xs : List ty.T) (p : Value), Reads w (okN G H loc w) (.slice ty) xs [p] → sz = ty.size → (0 ≤ n ∧ n < xs.length) → K (.elem ty xs n.toNat 0) → ∃ v s, (Instr.indexAt t p (.int k n)).run P w = .ok v w ∧ K s ∧ Rel (envOf G H loc ver w) s v := by
        intro ty xs p hr hsz hb hk
        obtain ⟨a, m, c, e1, hm, hmc, hmx, hall⟩ := hr
        cases e1
        have hm' : m = xs.length := hm
        obtain ⟨b, off, rfl, hok, hel⟩ := hall (by omega)
        obtain ⟨es, h1, h2, h3⟩ := hel n.toNat (by omega)
        refine ⟨_, _, run_indexAt he hs ⟨hb.1, by omega⟩, hk, ?_⟩
        rw [hsz]
        have := Rel.elem (E := envOf G H loc ver w) ty xs n.toNat 0 b (off + n.toNat * ty.size) es (by omega) hok h2 h3
        simpa using this
      split at h
      · rename_i ty xs
        obtain ⟨hb, h⟩ := bif_true h
        cases hx with
        | seq _ _ _ hr => exact hseq ty xs p hr (beq_iff.1 hb) h.ok (h.go.use h.ok.1)
      · rename_i es l
        obtain ⟨hb, h⟩ := bif_true h
        have hb := beq_iff.1 hb
        subst hb
        cases hx with
        | lit _ m b off _ vs hl hn hok hr =>
          rw [cntK_eq] at h
          obtain ⟨⟨h1, h2⟩, h3⟩ := h
          have h2 : n.toNat * sz < l.length := by
            obtain ⟨j, rfl⟩ := Int.eq_ofNat_of_zero_le h1
            rw [Int.toNat_natCast]
            have h2' : ((j * sz : Nat) : Int) < 0 + (l.length : Int) := by simpa using h2
            omega
          have hlt : n < m := by
            rw [hl.length, hn] at h2
            have : n.toNat < m := Nat.lt_of_mul_lt_mul_right h2
            omega
          exact ⟨_, _, run_indexAt he hs ⟨h1, hlt⟩, h3, .lelem _ _ _ _ _ hl hok hr⟩
      · rename_i nm k'
        split at h
        · rename_i j ty xs e' ho
          obtain ⟨hb, hK⟩ := bif_true h
          simp only [Bool.and_eq_true, beq_iff] at hb
          obtain ⟨rfl, hsz⟩ := hb
          cases hx with
          | ref _ _ _ hn h0 hk hv =>
            have hO := hI.objs nm _ (hget_some ho (by simp))
            have hvj : ver nm = j := hO.1
            have := hv hvj.symm
            subst this
            obtain ⟨_, _, hlen, hmax, vs, hown, hel⟩ := hO
            obtain ⟨⟨h1, h2⟩, h3⟩ := hK
            have h3 := h3.use h1
            have hlen' : (loc nm).len = xs.length := hlen
            rcases own_cases hown with ⟨_, _, e2, _⟩ | ⟨g, cur, e1, e2, _⟩
            · omega
            · have hrun := run_indexAt (P := P) (w := w) (b := g) (off := 0) (n := (loc nm).len) (c := (loc nm).cap) (k := k) (i := n) he hs ⟨h1, by omega⟩
              refine ⟨.pointer (some ⟨g, 0 + n.toNat * sz, none⟩), _, ?_, h3, ?_⟩
              · show (Instr.indexAt t (Core.head (loc nm).toCore) _).run P w = _
                simp only [Core.head, e1, Option.map_some]; exact hrun
              · refine .vptr nm j _ sz 0 _ hn h0 hk fun _ => ⟨?_, g, 0, e1, by simp⟩
                show n.toNat < (loc nm).len
                omega
        · rename_i j ty xs ho
          obtain ⟨hb, hK⟩ := bif_true h
          simp only [Bool.and_eq_true, beq_iff] at hb
          obtain ⟨rfl, hsz⟩ := hb
          cases hx with
          | ref _ _ _ hn h0 hk hv =>
            have hO := hI.objs nm _ (hget_some ho (by simp))
            have hvj : ver nm = j := hO.1
            have := hv hvj.symm
            subst this
            exact hseq ty xs _ hO.2.2 hsz hK.ok (hK.go.use hK.ok.1)
        · exact h.elim
      · exact h.elim
    · exact h.elim
  · exact h.elim
end
end Go.Eng
