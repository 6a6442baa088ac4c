/-
  Every operation of the executor is sound.
-/
import Derived.Test.YtpmbhgmifiianaaEngH
import Derived.Lib.AppendZeros
set_option linter.unusedSimpArgs false
set_option linter.unusedVariables false
namespace Go.Eng
open Go.RowKit

section
variable {P : Program} {G : Ctx} {H : List HO} {loc : Nat → Loc} {ver : Nat → Nat} {w : World}

theorem ref_head (hI : Inv G H loc ver w) {nm k : Nat} {v : Value} {t : Ty} {xs : List t.T} {e : TypeId} (hr : Rel (envOf G H loc ver w) (.ref nm k) v) (ho : hget H nm = .vec k t xs e) : v = (loc nm).head ∧ nm < H.length := by
  cases hr with
  | ref _ _ _ hn h0 hk hv =>
    have hO := hI.objs nm _ (hget_some ho (by simp))
    exact ⟨hv hO.1.symm, hasB_lt hn⟩
theorem append_reads {w' : World} {ok ok' : Nat → Prop} {t : Ty} {xs ys : List t.T} {vs news : List Value} (hx : vs.length = xs.length * t.size) (h1 : ∀ i, i < xs.length → Reads w' ok t (xs.getD i t.dflt) ((vs.drop (i * t.size)).take t.size))
    (hn : news.length = ys.length * t.size) (h2 : ∀ i, i < ys.length → Reads w' ok t (ys.getD i t.dflt) ((news.drop (i * t.size)).take t.size)) :
    ∀ i, i < xs.length + ys.length → Reads w' ok t ((xs ++ ys).getD i t.dflt) (((vs ++ news).drop (i * t.size)).take t.size) := by
  intro i hi
  by_cases hlt : i < xs.length
  · have hm : i * t.size + t.size ≤ xs.length * t.size := by
      have : (i + 1) * t.size ≤ xs.length * t.size := Nat.mul_le_mul_right _ hlt
      rwa [Nat.add_mul, Nat.one_mul] at this
    have e1 : ((vs ++ news).drop (i * t.size)).take t.size = (vs.drop (i * t.size)).take t.size := by
      rw [List.drop_append_of_le_length (by omega), List.take_append_of_le_length (by simp; omega)]
    have e2 : (xs ++ ys).getD i t.dflt = xs.getD i t.dflt := by
      rw [List.getD_eq_getElem?_getD, List.getElem?_append_left hlt, ← List.getD_eq_getElem?_getD]
    rw [e1, e2]; exact h1 i hlt
  · obtain ⟨k, rfl⟩ : ∃ k, i = xs.length + k := ⟨i - xs.length, by omega⟩
    have e1 : (xs.length + k) * t.size = xs.length * t.size + k * t.size := Nat.add_mul ..
    have e2 : (xs ++ ys).getD (xs.length + k) t.dflt = ys.getD k t.dflt := by
      rw [List.getD_eq_getElem?_getD, List.getElem?_append_right (by omega), List.getD_eq_getElem?_getD]
      congr 2; omega
    rw [e1, drop_app _ _ _ _ hx, e2]; exact h2 k (by omega)
theorem appendOp_sound (hI : Inv G H loc ver w) {t ty : TypeId} {s x : SV} {p q : Value} {K : SV → List HO → Prop} (h : appendOp P t H s x K) (hs : Rel (envOf G H loc ver w) s p) (hx : Rel (envOf G H loc ver w) x q) :
    ∃ v w', (Builtin.append_ #[t, t] ty #[p, q]).run P w = .ok v w' ∧ Res G (envOf G H loc ver w) K v w' := by
  unfold appendOp at h
  split at h
  case h_2 => exact h.elim
  rename_i e he
  have hu := sliceElem_run he
  split at h
  case h_2 => exact h.elim
  rename_i tt i htt hi
  have h' := bif_true h
  clear h
  obtain ⟨hb, h⟩ := h'
  simp only [Bool.and_eq_true, beq_iff] at hb
  obtain ⟨⟨hb1, hb2⟩, hb3⟩ := hb
  have hb2' : 0 < i.bytes := by simpa using hb2
  obtain ⟨z, hz, hzs⟩ : ∃ z, i.zero = some z ∧ z.cells.size = tt.size := by
    cases hz : i.zero with
    | none => rw [hz] at hb3; cases hb3
    | some z => rw [hz] at hb3; exact ⟨z, rfl, beq_iff.1 hb3⟩
  have hfit : ∀ n : Nat, n * i.bytes ≤ 140737488355328 → n ≤ maxL := fun n hn => Nat.le_trans (Nat.le_mul_of_pos_right n hb2') hn
  split at h
  case h_2 => exact h.elim
  rename_i ys hys
  obtain ⟨a, c, news, hsrc⟩ := dataOf_src hI hys hx
  split at h
  · cases hs
    obtain ⟨hn, hk⟩ := h
    rw [force_eq] at hk
    obtain ⟨L', w', hr, hown, hg, hfr⟩ := run_append_vec (P := P) (w := w) (t := t) (ty := ty) (tt := tt) (L := mkL none 0 0) (n := 0) (xs := []) hu hi hz hb1 hzs ⟨by simp, .inl ⟨rfl, rfl⟩⟩ hsrc (by simpa using hn) (by have := hfit _ hn; omega)
    simp only [Nat.zero_add, List.nil_append] at hown
    obtain ⟨h1, h2, h3, h4, h5⟩ := hg
    have hL : L'.len = ys.length := by
      rcases own_cases hown with ⟨_, _, e3, e4⟩ | ⟨g, cur, _, e2, _⟩ <;> omega
    have hf := hI.fresh (w' := w') (.vec 1 tt ys e) L' 1 h4 h1 h2 h3 (fun b hb => h5 b hb (by simp)) (by
        intro b hb
        rcases hfr b hb with h | h
        · simp at h
        · exact h)
      (fun hx' => ⟨rfl, Nat.one_pos, hL, by rw [hL]; exact hfit _ hn, news, by rw [hL]; exact hown, fun i hi => (hsrc.rd i (by omega)).mono hx'.cell hx'.ok⟩)
    refine ⟨_, _, hr, _, _, _, _, hk, hf.1, ?_, hf.2⟩
    refine .ref _ _ _ (by exact hasB_new rfl) Nat.one_pos (by simp [envOf, upd_same]) fun _ => ?_
    simp [envOf, upd_same]
  · rename_i nm k
    split at h
    case h_2 => exact h.elim
    rename_i v ty' xs e' ho
    have h' := bif_true h
    clear h
    obtain ⟨hb, h⟩ := h'
    simp only [Bool.and_eq_true, beq_iff] at hb
    obtain ⟨e1, e2⟩ := hb
    subst e1 e2
    split at h
    case isFalse => exact h.elim
    rename_i ety
    subst ety
    obtain ⟨hn, hk⟩ := h
    rw [force_eq] at hk
    obtain ⟨hp, hlt⟩ := ref_head hI hs ho
    subst hp
    have hn' := hget_some ho (by simp)
    obtain ⟨hv, hv0, hlen, hmax, vs, hown, hel⟩ := hI.objs nm _ hn'
    have hlen' : (loc nm).len = xs.length := hlen
    have hown' : w.ownsRow 0 e ty'.size (loc nm).head xs.length vs := by rw [← hlen']; exact hown
    obtain ⟨L', w', hr, hown2, hg, hfr⟩ := run_append_vec (P := P) (w := w) (t := t) (ty := ty) hu hi hz hb1 hzs hown' hsrc hn (hfit _ hn)
    obtain ⟨h1, h2, h3, h4, h5⟩ := hg
    have hL : L'.len = xs.length + ys.length := by
      rcases own_cases hown2 with ⟨_, _, e3, e4⟩ | ⟨g, cur, _, e2, _⟩ <;> omega
    have hvj : ver nm = v := hv
    have ht := hI.turn (w' := w') (H' := hset H nm (.vec (v + 1) ty' (List.append xs ys) e)) (loc' := upd loc nm L') (ver' := upd ver nm (v + 1)) nm (by simp [hset]) (fun k hk => ⟨get_set_other hk, upd_other _ _ _ hk, upd_other _ _ _ hk⟩)
      (fun _ => hasB_of (get_set_same hlt) rfl) (fun _ => .inr ⟨by omega, by rw [upd_same]; omega⟩) h4 h1 h2 h3 (by rw [hn']; intro h; cases h) (fun _ => by first | rw [show hset H nm _ = H.set nm _ from rfl, get_set_same hlt]; intro h; cases h | rw [show hset H 0 _ = H.set 0 _ from rfl, get_set_same hlt]; intro h; cases h) (fun st n it b h => by rw [show hset H nm (.vec (v + 1) ty' (List.append xs ys) e) = H.set nm _ from rfl, get_set_same hlt] at h; cases h) (fun b hb hne => h5 b hb (by
        intro e
        exact hne _ hn' (by simp only [Owns]; exact e.symm)))
      (by
        intro o' b ho' hb
        rw [show hset H nm (.vec (v + 1) ty' (List.append xs ys) e) = H.set nm _ from rfl, get_set_same hlt] at ho'; cases ho'
        rw [upd_same] at hb
        rcases hfr b hb with h | h
        · exact .inl ⟨_, hn', h⟩
        · exact .inr h)
      (by
        intro hx' o' ho'
        rw [show hset H nm (.vec (v + 1) ty' (List.append xs ys) e) = H.set nm _ from rfl, get_set_same hlt] at ho'; cases ho'
        rw [upd_same, upd_same]
        refine ⟨rfl, Nat.succ_pos _, by rw [hL]; simp, by rw [hL]; exact hfit _ hn, vs ++ news, by rw [hL]; exact hown2, fun i hi => ?_⟩
        rw [hL] at hi
        refine append_reads (ok' := fun _ => True) ?_ (fun i hi => (hel i (by show i < (loc nm).len; omega)).mono hx'.cell hx'.ok) hsrc.len (fun i hi => (hsrc.rd i hi).mono hx'.cell hx'.ok) i hi
        exact hown'.1)
    refine ⟨_, _, hr, _, _, _, _, hk, ht.1, ?_, ht.2⟩
    refine .ref _ _ _ (by exact hasB_of (get_set_same hlt) rfl) (Nat.succ_pos _) (by simp [envOf, upd_same]) fun _ => ?_
    simp [envOf, upd_same]
  · exact h.elim

theorem appendZeros_sound (hI : Inv G H loc ver w) {t u ty : TypeId} {s x : SV} {p q : Value} {K : SV → List HO → Prop} (h : appendZeros P t u H s x K) (hs : Rel (envOf G H loc ver w) s p) (hx : Rel (envOf G H loc ver w) x q) :
    ∃ v w', (Builtin.append_ #[t, u] ty #[p, q]).run P w = .ok v w' ∧ Res G (envOf G H loc ver w) K v w' := by
  unfold appendZeros at h
  split at h
  case h_2 => exact h.elim
  rename_i ku kn n hku
  split at h
  case h_2 => exact h.elim
  rename_i e he
  have hu := sliceElem_run he
  split at h
  case h_2 => exact h.elim
  rename_i tt i htt hi
  have h' := bif_true h
  clear h
  obtain ⟨hb, h⟩ := h'
  simp only [Bool.and_eq_true, beq_iff] at hb
  obtain ⟨⟨⟨hb1, hb2⟩, hb4⟩, hb3⟩ := hb
  have hb2' : 0 < i.bytes := by simpa using hb2
  have hb4' := Nat.le_of_ble_eq_true hb4
  obtain ⟨z, hz, hzs⟩ : ∃ z, i.zero = some z ∧ z.cells.size = tt.size := by
    cases hz : i.zero with
    | none => rw [hz] at hb3; cases hb3
    | some z => rw [hz] at hb3; exact ⟨z, rfl, beq_iff.1 hb3⟩
  obtain ⟨hn, hk⟩ := h
  rw [force_eq] at hk
  cases hs
  cases hx
  obtain ⟨m, rfl⟩ : ∃ m : Nat, n = m := ⟨n.toNat, by omega⟩
  have hm1 : 0 < m := by omega
  have hm2 : m ≤ 137438953472 := by omega
  have hsz := tt.size_pos
  have hm3 : m * i.bytes ≤ 137438953472 * 1024 := Nat.mul_le_mul hm2 hb4'
  have hrun := Lib.run_append_nil_zeros (P := P) w t u ty e i z kn ku hu hku hi hz m hm1 (by omega) (by omega) (by omega)
  have hge := grownCap_ge w m 0 e
  have hcm : grownCap w m 0 e ≤ maxLen := grownCap_le_maxLen w m 0 e (by simp [maxLen]; omega)
  have hf := hI.fresh (w' := w.drew.alloc (.cells (Builtin.zeroCells z.cells m ++ Builtin.zeroCells z.cells (grownCap w m 0 e - m)) e)) (.vec 1 tt [] e) (mkL (some (w.heap.size, 0)) 0 (grownCap w m 0 e)) 1
    (by simp) rfl rfl rfl (fun b hb => Below.heap_alloc w.drew _ b hb) (by
      intro b hb
      simp [Owns] at hb
      omega)
    (fun _ => ⟨rfl, Nat.one_pos, rfl, Nat.zero_le _, [], ⟨by simp, .inr ⟨w.heap.size, _, _, rfl, Nat.zero_le _, alloc_new w.drew _, Nat.zero_le _, hcm, by
      simp only [Array.size_append, size_zeroCells, hzs, ← Nat.add_mul]
      congr 1
      omega, by simp⟩⟩, fun i hi => absurd hi (Nat.not_lt_zero _)⟩)
  refine ⟨_, _, hrun, _, _, _, _, hk, hf.1, ?_, hf.2⟩
  refine .wide _ _ _ (by exact hasB_new rfl) Nat.one_pos (by simp [envOf, upd_same]) fun _ => ⟨m, ?_, ?_⟩
  · simpa [envOf, upd_same] using hge
  · simp [envOf, upd_same]

theorem zeroB_cells {e : TypeId} {z : List SV} {i : TypeInfo} (hz : zerosB P e = some z) (hi : P.info? e = some i) : ∃ zv : Value, i.zero = some zv ∧ z = zv.cells.toList.map cst := by
  unfold zerosB at hz
  rw [hi] at hz
  simp only at hz
  cases h : i.zero with
  | none => rw [h] at hz; cases hz
  | some v => rw [h] at hz; exact ⟨v, rfl, by simpa using hz.symm⟩
theorem madeCells_get (z : Array Value) (n : Nat) (h : 0 < z.size) (j : Nat) (hj : j < n) : (madeCells z n).toList[j]? = some (z.toList.getD (j % z.size) undef) := by
  have h2 : j % z.size < z.size := Nat.mod_lt _ h
  simp [madeCells, hj, h2]
theorem makeOp_sound (hI : Inv G H loc ver w) {t : TypeId} {n c : SV} {p q : Value} {K : SV → List HO → Prop} (h : makeOp P t H n c K) (hn : Rel (envOf G H loc ver w) n p) (hc : Rel (envOf G H loc ver w) c q) :
    ∃ v w', (Instr.makeSlice t p q).run P w = .ok v w' ∧ Res G (envOf G H loc ver w) K v w' := by
  unfold makeOp at h
  split at h
  case h_2 => exact h.elim
  rename_i e kn nn kc nc he
  have hu := sliceElem_run he
  obtain ⟨rfl, _⟩ := hn.int_inv
  obtain ⟨rfl, _⟩ := hc.int_inv
  split at h
  case h_2 => exact h.elim
  rename_i tt i z htt hi hz
  have h' := bif_true h
  clear h
  obtain ⟨hb, h⟩ := h'
  simp only [Bool.and_eq_true, beq_iff] at hb
  obtain ⟨⟨hb1, hb2⟩, hb3⟩ := hb
  split at h
  case h_2 => exact h.elim
  rename_i x0 hd
  obtain ⟨⟨n1, n2, n3, n4⟩, hk⟩ := h
  rw [force_eq] at hk
  obtain ⟨zv, hzv, rfl⟩ := zeroB_cells hz hi
  have hzl : zv.cells.size = tt.size := by simpa using hb3
  have hpos := tt.size_pos
  have hr := run_make (P := P) w t e i zv hu hi hzv kn kc nn nc n1 n2 (by rw [Int.mul_comm]; omega) (by omega)
  have hf := hI.fresh (w' := w.alloc (.cells (madeCells zv.cells (nc.toNat * i.size)) e)) (.vec 1 tt (List.replicate nn.toNat x0) e) (mkL (some (w.heap.size, 0)) (nn.toNat) (nc.toNat)) 1 (by simp) rfl rfl rfl (fun b hb => Below.heap_alloc w _ b hb) (by intro b hb; simp [Owns] at hb; omega)
    (fun hx => by
      have hm : nn.toNat * tt.size ≤ nc.toNat * i.size := by rw [hb1]; exact Nat.mul_le_mul_right _ (by omega)
      refine ⟨rfl, Nat.one_pos, by simp, by show nn.toNat ≤ 140737488355328; omega, (madeCells zv.cells (nc.toNat * i.size)).toList.take (nn.toNat * tt.size), ⟨by show (List.take _ _).length = nn.toNat * tt.size; rw [List.length_take, Array.length_toList, size_madeCells]; exact Nat.min_eq_left hm, .inr ⟨w.heap.size, nc.toNat, madeCells zv.cells (nc.toNat * i.size), rfl, Nat.zero_le _, alloc_new w _, by show nn.toNat ≤ nc.toNat; omega, by simp [maxLen]; omega, by rw [size_madeCells, hb1], rfl⟩⟩, fun j hj => ?_⟩
      have hj' : j < nn.toNat := hj
      have hjm : j * tt.size + tt.size ≤ nn.toNat * tt.size := by
        have : (j + 1) * tt.size ≤ nn.toNat * tt.size := Nat.mul_le_mul_right _ hj'
        rwa [Nat.add_mul, Nat.one_mul] at this
      have e1 : (List.replicate nn.toNat x0).getD j tt.dflt = x0 := by
        rw [List.getD_eq_getElem?_getD]
        have : (List.replicate nn.toNat x0)[j]? = some x0 := by simp [hj']
        rw [this]; rfl
      have e2 : ((((madeCells zv.cells (nc.toNat * i.size)).toList.take (nn.toNat * tt.size)).drop (j * tt.size)).take tt.size) = zv.cells.toList := by
        apply List.ext_getElem?
        intro q
        rw [List.getElem?_take]
        by_cases hq : q < tt.size
        · rw [if_pos hq, List.getElem?_drop, List.getElem?_take, if_pos (by omega), madeCells_get _ _ (by omega) _ (by omega)]
          have : (j * tt.size + q) % zv.cells.size = q := by rw [hzl, Nat.mul_comm, Nat.mul_add_mod]; exact Nat.mod_eq_of_lt hq
          rw [this]
          have hq2 : q < zv.cells.toList.length := by simp; omega
          simp [hzl, hq]
        · rw [if_neg hq, List.getElem?_eq_none (by simp; omega)]
      rw [e1, e2]
      exact dec_reads (csts_rel _ _) hd hb2)
  refine ⟨_, _, hr, _, _, _, _, hk, hf.1, ?_, hf.2⟩
  refine .ref _ _ _ (by exact hasB_new rfl) Nat.one_pos (by simp [envOf, upd_same]) fun _ => ?_
  simp [envOf, upd_same, Core.head]

theorem len_str (s : List UInt8) : (⟨s.toArray⟩ : ByteArray).size = s.length := by simp [ByteArray.size]
theorem lenOp_slice (hI : Inv G H loc ver w) {s : SV} {x : Value} {K : SV → Prop} (h : lenOp H s K) (hs : Rel (envOf G H loc ver w) s x) : (∃ a n c s', x = .slice a n c ∧ K s' ∧ Rel (envOf G H loc ver w) s' (.int .i64 n)) ∨ (∃ l s', s = .str l ∧ x = .string ⟨List.toArray l⟩ ∧ K s' ∧ Rel (envOf G H loc ver w) s' (.int .i64 l.length)) := by
  have hK : ∀ n : Nat, n ≤ maxL → inK .i64 n := fun n hn => by
    have : n ≤ 140737488355328 := hn
    constructor <;> simp only [lo, hi] <;> omega
  have hR : ∀ (t : Ty) (xs : List t.T) (x : Value), Reads w (okN G H loc w) (.slice t) xs [x] → Giv (xs.length ≤ 140737488355328) (K (.val (.int .i64 xs.length))) → ∃ a n c s', x = .slice a n c ∧ K s' ∧ Rel (envOf G H loc ver w) s' (.int .i64 n) := by
    intro t xs x hr h
    obtain ⟨a, n, c, e, hn, _, hm, _⟩ := hr
    cases e
    have hn' : n = xs.length := hn
    subst hn'
    exact ⟨a, _, c, _, rfl, h.go hm, .val _ (hK _ hm)⟩
  unfold lenOp at h
  split at h
  · rename_i t xs
    cases hs with
    | seq _ _ _ hr => exact .inl (hR t xs x hr h)
  · rename_i l
    cases hs with
    | str _ hl => exact .inr ⟨l, _, rfl, rfl, h.go hl, .val _ (hK l.length hl)⟩
  · rename_i es l
    obtain ⟨hb, hk⟩ := bif_true h
    simp only [Bool.and_eq_true, beq_iff, Nat.ble_eq] at hb
    obtain ⟨rfl, hb2⟩ := hb
    rw [cntK_eq, Int.zero_add] at hk
    cases hs with
    | lit _ n b off _ vs hl hn hok hr =>
      have e : l.length = n := by rw [hl.length, hn]; omega
      have hk' : K (.val (.int .i64 (n : Int))) := by rw [← e]; exact hk
      exact .inl ⟨_, _, _, _, rfl, hk', .val _ (hK n (by rw [← e]; exact Nat.le_trans hb2 (by simp [maxL])))⟩
  · cases hs
    exact .inl ⟨none, 0, 0, _, rfl, h, .val _ (hK 0 (Nat.zero_le _))⟩
  · rename_i nm k
    split at h
    · rename_i v t xs e ho
      obtain ⟨hb, hk⟩ := bif_true h
      have hb := beq_iff.1 hb
      subst hb
      obtain ⟨rfl, _⟩ := ref_head hI hs ho
      obtain ⟨hv, hv0, hlen, hmax, vs, hown, hel⟩ := hI.objs nm _ (hget_some ho (by simp))
      have hlen' : (loc nm).len = xs.length := hlen
      exact .inl ⟨_, _, _, _, rfl, hk.go (by rw [← hlen']; exact hmax), by rw [hlen']; exact .val _ (hK _ (by rw [← hlen']; exact hmax))⟩
    · rename_i v t xs ho
      obtain ⟨hb, hk⟩ := bif_true h
      have hb := beq_iff.1 hb
      subst hb
      cases hs with
      | ref _ _ _ hn h0 hkk hv =>
        have hO := hI.objs nm _ (hget_some ho (by simp))
        have hvj : ver nm = v := hO.1
        have := hv hvj.symm
        subst this
        exact .inl (hR t xs _ hO.2.2 hk)
    · exact h.elim
  · exact h.elim
end
end Go.Eng
