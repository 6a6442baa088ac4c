/-
  Allocations, struct and list literals, appends, makes, calls.
-/
import Derived.Test.YtpmbhgmifiianaaEngE
import Derived.Great.BuildSlice
import Derived.Laws.OwnMore
set_option linter.unusedSimpArgs false
set_option linter.unusedVariables false
namespace Go.Eng
open Go.RowKit

theorem Ty.size_pos (t : Ty) : 0 < t.size := by
  induction t with
  | pair a b iha ihb => simp [Ty.size]; omega
  | _ => simp [Ty.size]

theorem alloc_new (w : World) (o : Obj) : (w.alloc o).heap[w.heap.size]? = some o := by
  show (w.heap.push o)[w.heap.size]? = some o
  simp
theorem drop_app {α : Type} (a b : List α) (n k : Nat) (h : a.length = n) : (a ++ b).drop (n + k) = b.drop k := by
  subst h
  apply List.ext_getElem?
  intro i
  rw [List.getElem?_drop, List.getElem?_drop, List.getElem?_append_right (by omega)]
  congr 1
  omega
section
variable {P : Program} {G : Ctx} {H : List HO} {loc : Nat → Loc} {ver : Nat → Nat} {w : World}

/-! ### A new row of cells -/
theorem newCells (hI : Inv G H loc ver w) {z : List SV} {vs : List Value} (hz : RelL (envOf G H loc ver w) z vs) (t : TypeId) {K : SV → List HO → Prop} (h : allocOp H (.cells z t) K) :
    Res G (envOf G H loc ver w) K (.pointer (some ⟨w.heap.size, 0, none⟩)) (w.alloc (.cells ⟨vs⟩ t)) := by
  simp only [allocOp, force_eq] at h
  have hf := hI.fresh (w' := w.alloc (.cells ⟨vs⟩ t)) (.cells z t) (mkL (some (w.heap.size, 0)) (0) (0)) 0 (by simp) rfl rfl rfl (fun b hb => Below.heap_alloc w _ b hb) (by intro b hb; simp [Owns] at hb; omega)
    (fun hx => ⟨rfl, w.heap.size, vs, rfl, alloc_new w _, hz.ext hx⟩)
  refine ⟨_, _, _, _, h, hf.1, ?_, hf.2⟩
  refine .ptr _ _ _ (by exact hasB_new rfl) fun _ => ⟨w.heap.size, ?_, rfl⟩
  simp [envOf, upd_same]
theorem run_alloc {t : TypeId} {v : Value} (h : (zeroValue t).run P w = .ok v w) : (Instr.alloc t true (.tuple #[])).run P w = .ok (.pointer (some ⟨w.heap.size, 0, none⟩)) (w.alloc (.cells v.cells t)) := by
  simp [Instr.alloc, h, newVar, newRow]
theorem run_box {t : TypeId} {v : Value} : (Instr.box t v).run P w = .ok (.pointer (some ⟨w.heap.size, 0, none⟩)) (w.alloc (.cells v.cells t)) := by
  simp [Instr.box, newVar, newRow]

/-! ### Struct literals -/
inductive RelP (E : Env) : List (Nat × SV) → List (Nat × Value) → Prop
  | nil : RelP E [] []
  | cons (i : Nat) (s : SV) (v : Value) (l : List (Nat × SV)) (vs : List (Nat × Value)) (h : RelL E (cellsOfSV s) v.cells.toList) (h' : Rel E s v) (hl : RelP E l vs) : RelP E ((i, s) :: l) ((i, v) :: vs)
theorem parts_rel (hI : Inv G H loc ver w) {N : Nat} {l : List (Nat × SV)} {a : Act} (hT : TRel (envOf G H loc ver w) N l a) (ps : List (Nat × Operand)) (h : cellsCs H (ps.map fun p => (p.1, ev l p.2)) = true) :
    RelP (envOf G H loc ver w) (ps.map fun p => (p.1, ev l p.2)) (ps.map fun p => (p.1, a.eval p.2)) := by
  induction ps with
  | nil => exact .nil
  | cons p r ih =>
    simp only [List.map_cons, cellsCs, Bool.and_eq_true] at h
    exact .cons _ _ _ _ _ (cells_rel hI (ev_rel hT p.2) h.1) (ev_rel hT p.2) (ih h.2)
theorem foldl_setVs (r : List Value) : ∀ (cells : Array Value) (off k : Nat), (r.zipIdx k).foldl (fun cs (x : Value × Nat) => cs.setIfInBounds (off + x.2) x.1) cells = ⟨setVs cells.toList (off + k) r⟩ := by
  induction r with
  | nil => intro cells off k; rfl
  | cons v r ih =>
    intro cells off k
    simp only [List.zipIdx_cons, List.foldl_cons]
    rw [ih]
    simp [setVs, Nat.add_assoc]
theorem fill_step (cells v : Array Value) (off : Nat) : v.zipIdx.foldl (fun cs (x : Value × Nat) => cs.setIfInBounds (off + x.2) x.1) cells = ⟨setVs cells.toList off v.toList⟩ := by
  rw [← Array.foldl_toList, Array.toList_zipIdx, foldl_setVs]; rfl
theorem fill_sound {E : Env} {pl : List (Nat × Nat)} : ∀ {parts : List (Nat × SV)} {vs : List (Nat × Value)}, RelP E parts vs → ∀ {zc l : List SV} {cells : Array Value}, fillSV pl zc parts = some l → RelL E zc cells.toList →
    ∃ cells', Instr.fill (fun i => pl[i]?) cells vs = some cells' ∧ RelL E l cells'.toList
  | _, _, .nil, zc, l, cells, h, hz => by simp [fillSV] at h; subst h; exact ⟨cells, rfl, hz⟩
  | _, _, .cons i s v r vs hc _ hl, zc, l, cells, h, hz => by
    simp only [fillSV] at h
    cases hp : pl[i]? with
    | none => rw [hp] at h; cases h
    | some p =>
      obtain ⟨off, sz⟩ := p
      rw [hp] at h
      simp only at h
      cases hb : (Nat.beq (cellsOfSV s).length sz && Nat.ble (off + sz) zc.length) with
      | false => rw [hb] at h; cases h
      | true =>
        rw [hb] at h
        simp only [cond_true] at h
        simp only [Bool.and_eq_true, beq_iff, Nat.ble_eq] at hb
        have h1 := hc.length
        have h2 := hz.length
        simp at h1 h2
        obtain ⟨cells', h3, h4⟩ := fill_sound (cells := ⟨setVs cells.toList off v.cells.toList⟩) hl h (hz.setCells hc off)
        refine ⟨cells', ?_, h4⟩
        simp only [Instr.fill, hp]
        rw [if_neg (by simp; omega), fill_step]
        exact h3
theorem run_places' (fs : List Field) : ∀ {pl : List (Nat × Nat)}, places P fs = some pl → (fs.mapM fun f => (Prod.mk f.offset <$> sizeOf f.type : Sem (Nat × Nat))).run P w = .ok pl w := by
  induction fs with
  | nil => intro pl h; cases h; simp [List.mapM_nil]
  | cons f r ih =>
    intro pl h
    simp only [places] at h
    split at h
    · rename_i sz l hs hl
      cases h
      rw [List.mapM_cons]
      simp [run_sizeOf hs, ih hl]
    · cases h
theorem buildOp_sound {E : Env} (hw : E.w = w) {t : TypeId} {parts : List (Nat × SV)} {vs : List (Nat × Value)} {K : SV → Prop} (h : buildOp P t parts K) (hp : RelP E parts vs) :
    ∃ v s, (Instr.build t vs.toArray).run P w = .ok v w ∧ K s ∧ Rel E s v := by
  unfold buildOp at h
  split at h
  · rename_i fs z hu hz
    split at h
    · rename_i pl hpl
      split at h
      · rename_i l hl
        rw [hnfL_eq] at h
        obtain ⟨zv, hzv, rfl⟩ := run_zeroOf hz w
        obtain ⟨cells', h1, h2⟩ := fill_sound (cells := zv.cells) hp hl (csts_rel E _)
        refine ⟨_, _, ?_, h, .agg _ _ h2⟩
        have hm : (fs.mapM fun f => (Prod.mk f.offset <$> sizeOf f.type : Sem (Nat × Nat))).run P w = .ok ⟨pl⟩ w := by
          rw [Array.mapM_eq_mapM_toList]
          simp only [Sem.run_map, run_places' (P := P) (w := w) fs.toList hpl, Result.andThen_ok]
        simp [Instr.build, hzv, run_underlying hu]
        rw [hm]
        simp [h1]
      · exact h.elim
    · exact h.elim
  · exact h.elim

/-! ### List literals -/
theorem fill_seq {size : Nat} : ∀ (vs : List (Nat × Value)) (k : Nat) (cells : Array Value), (∀ j p, vs[j]? = some p → p.1 = k + j ∧ p.2.cells.toList.length = size) → (k + vs.length) * size ≤ cells.size →
    Instr.fill (fun i => some (i * size, size)) cells vs = some ⟨cells.toList.take (k * size) ++ vs.flatMap (fun p => p.2.cells.toList) ++ cells.toList.drop ((k + vs.length) * size)⟩
  | [], k, cells, _, _ => by simp [Instr.fill]
  | (i, v) :: r, k, cells, h, hs => by
    obtain ⟨h1, h2⟩ := h 0 (i, v) rfl
    have h1' : i = k := by simpa using h1
    subst h1'
    have h2' : v.cells.size = size := by simpa using h2
    have hmul : (i + (r.length + 1)) * size = i * size + size + r.length * size := by simp [Nat.add_mul]; omega
    have hs' : i * size + size + r.length * size ≤ cells.size := by simp only [List.length_cons] at hs; omega
    have hsv : setVs cells.toList (i * size) v.cells.toList = cells.toList.take (i * size) ++ v.cells.toList ++ cells.toList.drop (i * size + v.cells.toList.length) := setVs_eq _ _ _ (by simp; omega)
    simp only [Instr.fill]
    rw [if_neg (by simp; omega), fill_step, fill_seq r (i + 1) _ (fun j p hj => by have := h (j + 1) p hj; exact ⟨by omega, this.2⟩) (by
      show _ ≤ (setVs cells.toList (i * size) v.cells.toList).length
      rw [setVs_length]
      have : (i + 1 + r.length) * size = i * size + size + r.length * size := by simp [Nat.add_mul]
      simp; omega)]
    congr 2
    have e1 : (i + 1) * size = i * size + size := by rw [Nat.add_mul, Nat.one_mul]
    have e2 : (i + 1 + r.length) * size = i * size + size + r.length * size := by simp [Nat.add_mul]
    simp only [List.flatMap_cons, List.length_cons]
    rw [hsv, hmul, e1, e2]
    simp only [Array.length_toList] at *
    have l1 : (cells.toList.take (i * size)).length = i * size := by simp; omega
    have l2 : v.cells.toList.length = size := by simp [h2']
    have t1 : (cells.toList.take (i * size) ++ v.cells.toList ++ cells.toList.drop (i * size + v.cells.size)).take (i * size + size) = cells.toList.take (i * size) ++ v.cells.toList := List.take_left' (by simp only [List.length_append, l1, l2])
    have t2 : (cells.toList.take (i * size) ++ v.cells.toList ++ cells.toList.drop (i * size + v.cells.size)).drop (i * size + size + r.length * size) = cells.toList.drop (i * size + size + r.length * size) := by
      rw [drop_app _ _ (i * size + size) _ (by simp only [List.length_append, l1, l2]), List.drop_drop, h2']
    rw [t1, t2]
    simp [List.append_assoc]
end
end Go.Eng
