/-
  Vectors of vectors whose rows grow one by one.
-/
import Derived.Test.YtpmbhgmifiianaaEngW
set_option linter.unusedSimpArgs false
set_option linter.unusedVariables false
namespace Go.Eng
open Go.RowKit
section
variable {P : Program} {G : Ctx} {H : List HO} {loc : Nat → Loc} {ver : Nat → Nat} {w : World}

theorem ownBlock_head {L : Core} {b : Nat} : L.head.ownBlock = some b ↔ L.blk.map (·.1) = some b := by
  simp only [Core.head]
  cases h : L.blk with
  | none => simp [Value.ownBlock]
  | some p => simp [Value.ownBlock]
theorem rowTy_flat {e ei : TypeId} {t : Ty} (h : rowTy P e = some (t, ei)) : t.flat = true := by
  unfold rowTy at h
  split at h
  · split at h
    · rename_i t' _
      cases hf : t'.flat with
      | true => rw [hf] at h; cases h; exact hf
      | false => rw [hf] at h; cases h
    · cases h
  · cases h
theorem nilZ_zero {e : TypeId} (h : nilZ P e = true) : ∃ i, P.info? e = some i ∧ i.zero = some (.slice none 0 0) ∧ i.size = 1 := by
  unfold nilZ at h
  split at h
  · rename_i i hi
    split at h
    · rename_i hz; exact ⟨i, hi, hz, beq_iff.1 h⟩
    · cases h
  · cases h
/-- A new vector of vectors: what holds of it. -/
theorem madeV_sat {G : Ctx} {H' : List HO} {loc' : Nat → Loc} {ver' : Nat → Nat} {w' : World} {ty : Ty} {e ei : TypeId} {n c b : Nat} (hfl : ty.flat = true) (hnc : n ≤ c) (hc : c ≤ 140737488355328) (hb : w'.heap[b]? = some (.cells (madeCells (Value.slice none 0 0).cells (c * 1)) e (0, 0))) :
    OSat (envOf G H' loc' ver' w') (mkL (some (b, 0)) n c) 1 (.vv 1 0 ty (List.replicate n []) none e ei) := by
  have hz : (Value.slice none 0 0).cells = #[.slice none 0 0] := rfl
  refine ⟨rfl, Nat.one_pos, rfl, by simp, by show n ≤ 140737488355328; omega, ⟨(madeCells (Value.slice none 0 0).cells (c * 1)).toList.take (n * 1), ⟨?_, .inr ⟨b, c, madeCells (Value.slice none 0 0).cells (c * 1), rfl, Nat.zero_le _, hb, hnc, by simp [maxLen]; omega, by rw [size_madeCells], rfl⟩⟩, fun i hi => ?_⟩, fun b hb => hb.elim, ⟨hfl, fun i hi _ => ?_, fun i j hi hj _ _ b hb => by simp [sub0, Value.ownBlock] at hb, (fun j ys hp => by cases hp), fun i hi => ?_⟩⟩
  · rw [List.length_take, Array.length_toList, size_madeCells]; show min (n * 1) (c * 1) = n * 1; omega
  · have hi : i < n := hi
    rw [List.getElem?_take, if_pos (by omega), madeCells_get _ _ (by rw [hz]; simp) _ (by omega)]
    have : (Value.slice none 0 0).cells.size = 1 := by rw [hz]; rfl
    rw [this, Nat.mod_one, hz]
    rfl
  · have hi : i < n := by simpa using hi
    have e1 : (List.replicate n ([] : List ty.T)).getD i [] = [] := by rw [List.getD_eq_getElem?_getD, List.getElem?_replicate, if_pos hi]; rfl
    rw [e1]
    exact ⟨[], ⟨by simp, .inl ⟨rfl, rfl⟩⟩, fun b hb => by simp [sub0, Value.ownBlock] at hb, fun i hi => absurd hi (Nat.not_lt_zero _)⟩
  · have hi : i < n := by simpa using hi
    have e1 : (List.replicate n ([] : List ty.T)).getD i [] = [] := by rw [List.getD_eq_getElem?_getD, List.getElem?_replicate, if_pos hi]; rfl
    rw [e1]; exact Nat.zero_le _
theorem makeV_run {t : TypeId} {n c : SV} {p q : Value} {K : Int → Ty → TypeId → TypeId → Prop} {E : Env} (h : makeV P t n c K) (hn : Rel E n p) (hc : Rel E c q) :
    ∃ (nn : Int) (cc : Nat) (ty : Ty) (e ei : TypeId), K nn ty e ei ∧ ty.flat = true ∧ nn.toNat ≤ cc ∧ cc ≤ 140737488355328 ∧ ∀ w, (Instr.makeSlice t p q).run P w = .ok (.slice (some ⟨w.heap.size, 0, none⟩) nn.toNat cc) (w.alloc (.cells (madeCells (Value.slice none 0 0).cells (cc * 1)) e)) := by
  unfold makeV at h
  split at h
  case h_2 => exact h.elim
  rename_i e kn nn kc nc he
  obtain ⟨rfl, _⟩ := hn.int_inv
  obtain ⟨rfl, _⟩ := hc.int_inv
  split at h
  case h_2 => exact h.elim
  rename_i ty ei i hr hi
  obtain ⟨hz, ⟨⟨n1, n2, n3, n4⟩, hk⟩⟩ := bif_true h
  obtain ⟨i', hi', hz1, hz2⟩ := nilZ_zero hz
  rw [hi] at hi'; cases hi'
  refine ⟨nn, nc.toNat, ty, e, ei, hk, rowTy_flat hr, by omega, by omega, fun w => ?_⟩
  have := run_make (P := P) w t e i _ (sliceElem_run he) hi hz1 kn kc nn nc n1 n2 (by rw [Int.mul_comm]; omega) (by omega)
  rw [hz2] at this
  exact this
theorem makeV_sound (hI : Inv G H loc ver w) {t : TypeId} {n c : SV} {p q : Value} {K : SV → List HO → Prop} (h : makeV P t n c fun n ty e ei => force (H ++ [.vv 1 0 ty (List.replicate n.toNat []) none e ei]) fun H' => K (.ref H.length 1) H') (hn : Rel (envOf G H loc ver w) n p) (hc : Rel (envOf G H loc ver w) c q) :
    ∃ v w', (Instr.makeSlice t p q).run P w = .ok v w' ∧ Res G (envOf G H loc ver w) K v w' := by
  obtain ⟨nn, cc, ty, e, ei, hk, hfl, h1, h2, hr⟩ := makeV_run h hn hc
  rw [force_eq] at hk
  have hf := hI.fresh (w' := w.alloc (.cells (madeCells (Value.slice none 0 0).cells (cc * 1)) e)) (.vv 1 0 ty (List.replicate nn.toNat []) none e ei) (mkL (some (w.heap.size, 0)) nn.toNat cc) 1 (by simp) rfl rfl rfl (fun b hb => Below.heap_alloc w _ b hb)
    (by intro b hb; rcases hb with hb | hb; · simp at hb; omega
        · exact hb.elim) (fun _ => madeV_sat hfl h1 h2 (alloc_new w _))
  refine ⟨_, _, hr w, _, _, _, _, hk, hf.1, ?_, hf.2⟩
  refine .ref _ _ _ (by exact hasB_new rfl) Nat.one_pos (by simp [envOf, upd_same]) fun _ => ?_
  simp [envOf, upd_same, Core.head]
/-- Where a vector of vectors lies. -/
theorem vv_head (hI : Inv G H loc ver w) {nm k v s : Nat} {t : Ty} {xss : List (List t.T)} {pd : Option (Nat × List t.T)} {eo ei : TypeId} (ho : hget H nm = .vv v s t xss pd eo ei) (hb : Nat.beq v k = true) {x : Value} (hx : Rel (envOf G H loc ver w) (.ref nm k) x) : x = (loc nm).head := by
  obtain rfl := beq_iff.1 hb
  obtain ⟨h1, _⟩ := hI.objs nm _ (hget_some ho (by simp))
  cases hx with
  | ref _ _ _ hn h0 hk hv => exact hv h1.symm
theorem indexV_sound (hI : Inv G H loc ver w) {t : TypeId} {x i : SV} {p q : Value} {K : SV → Prop} (h : indexV P t H x i K) (hx : Rel (envOf G H loc ver w) x p) (hi : Rel (envOf G H loc ver w) i q) :
    ∃ v s, (Instr.indexAt t p q).run P w = .ok v w ∧ K s ∧ Rel (envOf G H loc ver w) s v := by
  unfold indexV at h
  split at h
  · rename_i e nm k kn n he
    split at h
    · rename_i sz v s ty xss pd eo ei hs ho
      obtain ⟨hb, hq⟩ := bif_true h
      clear h
      simp only [Bool.and_eq_true, beq_iff] at hb
      obtain ⟨rfl, rfl⟩ := hb
      have hp := vv_head hI ho (beq_same _) hx
      subst hp
      obtain ⟨rfl, _⟩ := hi.int_inv
      obtain ⟨hn, hk⟩ := hq
      obtain ⟨g1, g2, g3, g4, g5, ⟨vs, g6, g7⟩, g8, g9⟩ := hI.objs nm _ (hget_some ho (by simp))
      have hlt : n.toNat < (loc nm).len := by rw [g4]; omega
      have hK := hk.use hn.1
      rcases own_cases g6 with ⟨_, _, e3, _⟩ | ⟨g, cur, e1, _⟩
      · omega
      · cases hx with
        | ref _ _ _ hhas h0 hkk hv =>
          have hr := run_indexAt (P := P) (w := w) (b := g) (off := 0) (n := (loc nm).len) (c := (loc nm).cap) (k := kn) (i := n) he hs ⟨hn.1, by omega⟩
          refine ⟨_, _, ?_, hK, .vptr nm v n.toNat 1 0 _ hhas h0 hkk fun _ => ⟨hlt, g, 0, e1, rfl⟩⟩
          have : (loc nm).head = .slice (some ⟨g, 0, none⟩) (loc nm).len (loc nm).cap := by simp [Core.head, e1]
          rw [this]
          simpa using hr
    · exact h.elim
  · exact h.elim
theorem loadV_sound (hI : Inv G H loc ver w) {t : TypeId} {x : SV} {p : Value} {K : SV → Prop} (h : loadV P t H x K) (hx : Rel (envOf G H loc ver w) x p) :
    ∃ v s, (Instr.loadAt t p).run P w = .ok v w ∧ K s ∧ Rel (envOf G H loc ver w) s v := by
  unfold loadV at h
  split at h
  · rename_i nm k i
    split at h
    · rename_i v s ty xss eo ei sz ho ha hs
      obtain ⟨hb, hK⟩ := bif_true h
      simp only [Bool.and_eq_true, beq_iff] at hb
      obtain ⟨rfl, rfl⟩ := hb
      obtain ⟨g1, g2, g3, g4, g5, ⟨vs, g6, g7⟩, g8, g9⟩ := hI.objs nm _ (hget_some ho (by simp))
      cases hx with
      | vptr _ _ _ _ _ _ hn h0 hk hp =>
        obtain ⟨hlt, b, off, hbk, rfl⟩ := hp g1.symm
        rcases own_cases g6 with ⟨e0, _⟩ | ⟨g, cur, e1, e2, e3, e4, e5, e6, e7⟩
        · rw [show (loc nm).blk = some (b, off) from hbk] at e0; cases e0
        · have hbk : (loc nm).blk = some (b, off) := hbk
          rw [hbk] at e1; cases e1
          have hc : w.cell? ⟨b, 0 + i * 1 + 0, none⟩ = some ((loc nm).sub.rows i) := by
            have h7 := g7 i hlt
            rw [← e7, List.getElem?_take] at h7
            split at h7
            · have e3' : w.heap[b]? = some (.cells cur _ (0, 0)) := e3
              simp only [World.cell?, e3']
              simpa using h7
            · cases h7
          refine ⟨_, _, run_load_cell ha hc, hK, .sub nm v s i _ hn h0 hk (fun _ => Nat.le_of_eq g3.symm) fun _ _ => rfl⟩
    · exact h.elim
  · exact h.elim
theorem lenV_sound (hI : Inv G H loc ver w) {x : SV} {p : Value} {K : SV → Prop} (h : lenV H x K) (hx : Rel (envOf G H loc ver w) x p) : ∃ a n c s, p = .slice a n c ∧ K s ∧ Rel (envOf G H loc ver w) s (.int .i64 n) := by
  unfold lenV at h
  split at h
  · rename_i nm k
    split at h
    · rename_i v s ty xss pd eo ei ho
      obtain ⟨hb, hK⟩ := bif_true h
      have hp := vv_head hI ho hb hx
      obtain ⟨g1, g2, g3, g4, g5, _⟩ := hI.objs nm _ (hget_some ho (by simp))
      have g5 : (loc nm).len ≤ 140737488355328 := g5
      refine ⟨_, (loc nm).len, _, _, hp, hK.go (by omega), ?_⟩
      rw [g4]
      exact .val _ ⟨by simp [lo] <;> omega, by simp [hi] <;> omega⟩
    · exact h.elim
  · exact h.elim
theorem inf_zero {inf : TypeInfo} {n : Nat} (h : (match inf.zero with | some z => Nat.beq z.cells.size n | none => false) = true) : ∃ z, inf.zero = some z ∧ z.cells.size = n := by
  split at h
  · rename_i z hz; exact ⟨z, hz, beq_iff.1 h⟩
  · cases h
/-- A row grows: the block is its own, or a new one. -/
theorem appendV_sound (hI : Inv G H loc ver w) {t ty' : TypeId} {x y : SV} {p q : Value} {K : SV → List HO → Prop} (h : appendV P t H x y K) (hx : Rel (envOf G H loc ver w) x p) (hy : Rel (envOf G H loc ver w) y q) :
    ∃ v w', (Builtin.append_ #[t, t] ty' #[p, q]).run P w = .ok v w' ∧ Res G (envOf G H loc ver w) K v w' := by
  unfold appendV at h
  split at h
  case h_2 => exact h.elim
  rename_i e nm k s i he
  split at h
  case h_2 => exact h.elim
  rename_i v s' ty xss eo ei inf ho hinf
  obtain ⟨hb, hq⟩ := bif_true h
  clear h
  simp only [Bool.and_eq_true, beq_iff] at hb
  obtain ⟨⟨⟨⟨rfl, rfl⟩, hb4⟩, hb5⟩, hb6⟩ := hb
  have hb5 : 0 < inf.bytes := by simpa using hb5
  obtain ⟨z, hz, hzs⟩ := inf_zero hb6
  obtain ⟨⟨hi, rfl⟩, hq⟩ := hq
  obtain ⟨ys, hys, hq⟩ := dataK_use hq
  obtain ⟨hroom, hK⟩ := roomOk_use hq
  rw [force_eq] at hK
  have hn' := hget_some ho (by simp)
  have hlt : nm < H.length := (List.getElem?_eq_some_iff.1 hn').1
  obtain ⟨g1, g2, g3, g4, g5, ⟨vs, g6, g7⟩, g8, g9⟩ := hI.objs nm _ hn'
  have hp : p = (loc nm).sub.rows i := by
    cases hx with
    | sub _ _ _ _ _ hn h0 hk hs hv => exact hv g1.symm g3.symm
  subst hp
  obtain ⟨rs, r1, r2, r3⟩ := g9.row i hi (fun j ys hp => by cases hp)
  obtain ⟨L0, hL0, hL0n⟩ := vec_head r1
  rw [← hL0] at r1
  obtain ⟨a, c, news, hsrc⟩ := dataOf_src hI hys hy
  have hmax : (xss.getD i []).length + ys.length ≤ maxL := by
    have h1 : ((xss.getD i []).length + ys.length) * 1 ≤ ((xss.getD i []).length + ys.length) * inf.bytes := Nat.mul_le_mul_left _ hb5
    show _ ≤ 140737488355328
    omega
  obtain ⟨L', w', hr, hown2, ⟨q1, q2, q3, q4, q5⟩, hfr⟩ := run_append_vec (P := P) (w := w) (t := t) (ty := ty') (tt := ty) (sliceElem_run he) hinf hz hb4 hzs r1 hsrc hroom hmax
  rw [hL0] at hr
  obtain ⟨Lx, hLx⟩ : ∃ Lx : Loc, Lx = ⟨(loc nm).toCore, fun b => ((loc nm).al b ∧ L0.blk.map (·.1) ≠ some b) ∨ L'.head.ownBlock = some b, ⟨s + 1, (loc nm).sub.rows, L'.head⟩⟩ := ⟨_, rfl⟩
  have hver : ver nm = v := g1
  have hrow0 : ∀ b, L0.blk.map (·.1) = some b → (loc nm).al b := fun b hb => r2 b (by rw [← hL0]; exact ownBlock_head.2 hb)
  have hne : ∀ b, (loc nm).blk.map (·.1) = some b → w'.heap[b]? = w.heap[b]? := fun b hb => by
    have hbl := (hI.objs nm _ hn').block (b := b) (.inl hb)
    exact q5 b hbl fun e => (g8 b (hrow0 b e.symm)).2.1 hb
  have htn := hI.turn (w' := w') (H' := hset H nm (.vv v (s + 1) ty xss (some (i, xss.getD i [] ++ ys)) eo e)) (loc' := upd loc nm Lx) (ver' := ver) nm (by simp [hset]) (fun k hk => ⟨get_set_other hk, upd_other _ _ _ hk, rfl⟩)
    (fun _ => hasB_of (get_set_same hlt) rfl) (fun _ => .inl ⟨rfl, by rw [upd_same, hLx], .inr (by rw [upd_same, hLx]; show (loc nm).sub.v < s + 1; rw [g3]; exact Nat.lt_succ_self _)⟩) q4 q1 q2 q3 (by rw [hn']; intro h; cases h) (fun _ => by rw [show hset H nm _ = H.set nm _ from rfl, get_set_same hlt]; intro h; cases h)
    (fun st n it b h => by rw [show hset H nm (.vv v (s + 1) ty xss (some (i, xss.getD i [] ++ ys)) eo e) = H.set nm _ from rfl, get_set_same hlt] at h; cases h)
    (fun b hb hno => q5 b hb fun e => hno _ hn' (.inr (hrow0 b e.symm)))
    (by
      intro o' b ho' hb
      rw [show hset H nm (.vv v (s + 1) ty xss (some (i, xss.getD i [] ++ ys)) eo e) = H.set nm _ from rfl, get_set_same hlt] at ho'; cases ho'
      rw [upd_same, hLx] at hb
      rcases hb with hb | hb | hb
      · exact .inl ⟨_, hn', .inl hb⟩
      · exact .inl ⟨_, hn', .inr hb.1⟩
      · rcases hfr b (ownBlock_head.1 hb) with h | h
        · exact .inl ⟨_, hn', .inr (hrow0 b h)⟩
        · exact .inr h)
    (by
      intro hx' o' ho'
      rw [show hset H nm (.vv v (s + 1) ty xss (some (i, xss.getD i [] ++ ys)) eo e) = H.set nm _ from rfl, get_set_same hlt] at ho'; cases ho'
      rw [upd_same]
      subst hLx
      have hother : ∀ j, j < xss.length → j ≠ i → ∀ b, ((loc nm).sub.rows j).ownBlock = some b → w'.heap[b]? = w.heap[b]? := fun j hj hji b hb => by
        obtain ⟨_, _, hal, _⟩ := g9.row j hj (fun j ys hp => by cases hp)
        refine q5 b (g8 b (hal b hb)).1 fun e => ?_
        have e1 : L0.head.ownBlock = some b := ownBlock_head.2 e.symm
        rw [hL0] at e1
        exact g9.apart j i hj hi (fun k ys hp => by cases hp) hji b hb e1
      refine ⟨g1, g2, rfl, g4, g5, ⟨vs, ownsRow_keep g6 fun b hb => hne b (ownBlock_head.1 hb), g7⟩, fun b hb => ?_, ⟨g9.flat, fun j hj hp => ?_, fun j1 j2 h1 h2 hp h3 => g9.apart j1 j2 h1 h2 (fun k ys hp => by cases hp) h3, fun j zs hp => ?_, g9.short⟩⟩
      · have hw' : (envOf G (hset H nm (.vv v (s + 1) ty xss (some (i, xss.getD i [] ++ ys)) eo e)) (upd loc nm ⟨(loc nm).toCore, fun b => ((loc nm).al b ∧ L0.blk.map (·.1) ≠ some b) ∨ L'.head.ownBlock = some b, ⟨s + 1, (loc nm).sub.rows, L'.head⟩⟩) ver w').w = w' := rfl
        rw [hw']
        rcases hb with ⟨hb, hb1⟩ | hb
        · obtain ⟨m1, m2, c, e', m3⟩ := g8 b hb
          exact ⟨Nat.lt_of_lt_of_le m1 q4, m2, c, e', (q5 b m1 fun e => hb1 e.symm).trans m3⟩
        · have hb0 := ownBlock_head.1 hb
          rcases own_cases hown2 with ⟨f1, _⟩ | ⟨g, cur, f1, f2, f3, _⟩
          · rw [f1] at hb0; cases hb0
          · rw [f1] at hb0
            have hgb : g = b := by simpa using hb0
            subst hgb
            refine ⟨(Array.getElem?_eq_some_iff.1 f3).1, fun e0 => ?_, cur, _, f3⟩
            rcases hfr g (by rw [f1]; rfl) with h | h
            · exact (g8 g (hrow0 g h)).2.1 e0
            · have := (hI.objs nm _ hn').block (b := g) (.inl e0)
              exact absurd (show g < w.heap.size from this) (by omega)
      · have hji : j ≠ i := hp i _ rfl
        obtain ⟨rs', m1, m2, m3⟩ := g9.row j hj (fun j ys hp => by cases hp)
        refine ⟨rs', ownsRow_keep m1 fun b hb => hother j hj hji b hb, fun b hb => .inl ⟨m2 b hb, fun e => ?_⟩, fun i hi => (m3 i hi).mono hx'.cell hx'.ok⟩
        have e1 : L0.head.ownBlock = some b := ownBlock_head.2 e
        rw [hL0] at e1
        exact g9.apart j i hj hi (fun k ys hp => by cases hp) hji b hb e1
      · cases hp
        refine ⟨hi, ⟨rs ++ news, by rw [List.length_append]; exact hown2, fun b hb => .inr hb, fun j hj => ?_⟩, fun j hj hji b hb => ?_⟩
        · rw [List.length_append] at hj
          exact append_reads (ok' := fun _ => True) r1.1 (fun i hi => (r3 i hi).mono hx'.cell hx'.ok) hsrc.len (fun i hi => (hsrc.rd i hi).mono hx'.cell hx'.ok) j hj
        · intro hb2
          rcases hfr b (ownBlock_head.1 hb) with h | h
          · have e1 : L0.head.ownBlock = some b := ownBlock_head.2 h
            rw [hL0] at e1
            exact g9.apart j i hj hi (fun k ys hp => by cases hp) hji b hb2 e1
          · obtain ⟨_, _, hal, _⟩ := g9.row j hj (fun j ys hp => by cases hp)
            have := (g8 b (hal b hb2)).1
            exact absurd (show b < w.heap.size from this) (by omega))
  refine ⟨_, _, hr, _, _, _, _, hK, htn.1, ?_, htn.2⟩
  refine .subp nm v (s + 1) _ (hasB_of (get_set_same hlt) rfl) g2 (Nat.le_of_eq g1.symm) (fun _ => by show s + 1 ≤ (upd loc nm Lx nm).sub.v; rw [upd_same, hLx]; exact Nat.le_refl _) fun _ _ => ?_
  show L'.head = (upd loc nm Lx nm).sub.pnd
  rw [upd_same, hLx]
/-- A row that has grown is laid back. -/
theorem storeV_sound (hI : Inv G H loc ver w) {t : TypeId} {x y : SV} {p q : Value} {K : List HO → Prop} (h : storeV P t H x y K) (hx : Rel (envOf G H loc ver w) x p) (hy : Rel (envOf G H loc ver w) y q) :
    ∃ H' loc' w', (Instr.storeAt t p q).run P w = .ok () w' ∧ K H' ∧ Inv G H' loc' ver w' ∧ Ext (envOf G H loc ver w) (envOf G H' loc' ver w') := by
  unfold storeV at h
  split at h
  case h_2 => exact h.elim
  rename_i nm k i nm' k' s'
  split at h
  case h_2 => exact h.elim
  rename_i v s ty xss j ys eo ei sz ho hs
  obtain ⟨hb, hq⟩ := bif_true h
  clear h
  simp only [Bool.and_eq_true, beq_iff] at hb
  obtain ⟨⟨⟨rfl, rfl⟩, rfl⟩, rfl⟩ := hb
  obtain ⟨⟨rfl, rfl⟩, ⟨hys, hK⟩⟩ := hq
  rw [force_eq] at hK
  have hn' := hget_some ho (by simp)
  have hlt : nm < H.length := (List.getElem?_eq_some_iff.1 hn').1
  obtain ⟨g1, g2, g3, g4, g5, ⟨vs, g6, g7⟩, g8, g9⟩ := hI.objs nm _ hn'
  have hver : ver nm = v := g1
  have hp : q = (loc nm).sub.pnd := by
    cases hy with
    | subp _ _ _ _ hn h0 hk hs hv => exact hv g1.symm g3.symm
  subst hp
  obtain ⟨hj, ⟨rs, r1, r2, r3⟩, r4⟩ := g9.grown j ys rfl
  have hone : (loc nm).sub.pnd.oneCell' = true ∧ (loc nm).sub.pnd.cells.toList = [(loc nm).sub.pnd] := by
    rcases r1.2 with ⟨e, _⟩ | ⟨g, cap, cur, e, _⟩ <;> rw [e] <;> exact ⟨rfl, rfl⟩
  cases hx with
  | vptr _ _ _ _ _ _ hn h0 hk hpp =>
    obtain ⟨hlt2, b, off, hbk, rfl⟩ := hpp g1.symm
    have hbk : (loc nm).blk = some (b, off) := hbk
    have hlt2 : j < (loc nm).len := hlt2
    rcases own_cases g6 with ⟨e1, _⟩ | ⟨g, cur, e1, e2, e3, e4, e5, e6, e7⟩
    · rw [hbk] at e1; cases e1
    rw [hbk] at e1; cases e1
    have hcur : w.heap[b]? = some (.cells ⟨cur.toList⟩ eo (0, 0)) := e3
    have hcurl : cur.toList.length = (loc nm).cap := by simpa using e6
    have hrun := run_storeAt (P := P) (w := w) (v := (loc nm).sub.pnd) (off := 0 + j * 1 + 0) hs hcur (by rw [hone.2]; rfl) (fun u hu => by rw [hone.2] at hu; rw [List.mem_singleton.1 hu]; exact hone.1) (by omega)
    rw [hone.2] at hrun
    obtain ⟨w', hw'⟩ : ∃ w', w' = w.setRow b ⟨setVs cur.toList (0 + j * 1 + 0) [(loc nm).sub.pnd]⟩ := ⟨_, rfl⟩
    rw [← hw'] at hrun
    have hwb : w'.heap[b]? = some (.cells ⟨setVs cur.toList (0 + j * 1 + 0) [(loc nm).sub.pnd]⟩ eo (0, 0)) := by rw [hw']; exact setRow_heap w b _ _ eo _ hcur
    have hwo : ∀ b', b' ≠ b → w'.heap[b']? = w.heap[b']? := fun b' hb' => by rw [hw']; exact setRow_other w b b' _ hb'
    obtain ⟨Lx, hLx⟩ : ∃ Lx : Loc, Lx = ⟨(loc nm).toCore, (loc nm).al, ⟨s + 1, upd (loc nm).sub.rows j (loc nm).sub.pnd, (loc nm).sub.pnd⟩⟩ := ⟨_, rfl⟩
    have hwal : ∀ b', (loc nm).al b' → w'.heap[b']? = w.heap[b']? := fun b' hb' => hwo b' fun e => (g8 b' hb').2.1 (by rw [hbk, e]; rfl)
    have htn := hI.turn (w' := w') (H' := hset H nm (.vv v (s + 1) ty (xss.set j ys) none eo ei)) (loc' := upd loc nm Lx) (ver' := ver) nm (by simp [hset]) (fun k hk => ⟨get_set_other hk, upd_other _ _ _ hk, rfl⟩)
      (fun _ => hasB_of (get_set_same hlt) rfl) (fun _ => .inl ⟨rfl, by rw [upd_same, hLx], .inr (by rw [upd_same, hLx]; show (loc nm).sub.v < s + 1; rw [g3]; exact Nat.lt_succ_self _)⟩) (by rw [hw']; simp) (by rw [hw']; rfl) (by rw [hw']; rfl) (by rw [hw']; rfl) (by rw [hn']; intro h; cases h) (fun _ => by rw [show hset H nm _ = H.set nm _ from rfl, get_set_same hlt]; intro h; cases h)
      (fun st n it b h => by rw [show hset H nm (.vv v (s + 1) ty (xss.set j ys) none eo ei) = H.set nm _ from rfl, get_set_same hlt] at h; cases h)
      (fun b' hb hno => hwo b' fun e => hno _ hn' (.inl (by rw [hbk, e]; rfl)))
      (by
        intro o' b' ho' hb
        rw [show hset H nm (.vv v (s + 1) ty (xss.set j ys) none eo ei) = H.set nm _ from rfl, get_set_same hlt] at ho'; cases ho'
        rw [upd_same, hLx] at hb
        exact .inl ⟨_, hn', hb⟩)
      (by
        intro hx' o' ho'
        rw [show hset H nm (.vv v (s + 1) ty (xss.set j ys) none eo ei) = H.set nm _ from rfl, get_set_same hlt] at ho'; cases ho'
        rw [upd_same]
        subst hLx
        have hkeep : ∀ {h : Value} {xs : List ty.T}, RowAt (envOf G H loc ver w) (loc nm).al ty ei h xs → RowAt (envOf G (hset H nm (.vv v (s + 1) ty (xss.set j ys) none eo ei)) (upd loc nm ⟨(loc nm).toCore, (loc nm).al, ⟨s + 1, upd (loc nm).sub.rows j (loc nm).sub.pnd, (loc nm).sub.pnd⟩⟩) ver w') (loc nm).al ty ei h xs := fun hr => hr.ext hx'.toExt0 hwal
        have hrow : ∀ m, m < xss.length → (xss.set j ys).getD m [] = if m = j then ys else xss.getD m [] := fun m hm => by
          rw [List.getD_eq_getElem?_getD, List.getElem?_set]
          by_cases e : m = j
          · subst e; simp [hm]
          · rw [if_neg (fun h => e h.symm), if_neg e, List.getD_eq_getElem?_getD]
        refine ⟨g1, g2, rfl, by simpa using g4, g5, ⟨(setVs cur.toList (0 + j * 1 + 0) [(loc nm).sub.pnd]).take ((loc nm).len * 1), ⟨by rw [List.length_take, setVs_length, hcurl]; show min ((loc nm).len * 1) (loc nm).cap = (loc nm).len * 1; omega, .inr ⟨b, (loc nm).cap, _, by simp [Core.head, hbk], Nat.zero_le _, hwb, e4, e5, by show (setVs cur.toList _ _).length = _; rw [setVs_length, hcurl]; omega, rfl⟩⟩, fun m hm => ?_⟩, fun b' hb' => ?_, ⟨g9.flat, fun m hm _ => ?_, fun m1 m2 h1 h2 _ h3 b' hb1 hb2 => ?_, (fun j ys hp => by cases hp), fun m hm => ?_⟩⟩
        · have hm : m < (loc nm).len := hm
          rw [List.getElem?_take, if_pos (by omega), setVs_get _ _ _ _ (by simp; omega)]
          show _ = some (upd (loc nm).sub.rows j (loc nm).sub.pnd m)
          by_cases e : m = j
          · subst e
            rw [upd_same, if_pos (by simp)]
            have : m - (0 + m * 1 + 0) = 0 := by omega
            rw [this]; rfl
          · rw [upd_other _ _ _ e, if_neg (by simp; omega)]
            have := g7 m hm
            rw [← e7, List.getElem?_take, if_pos (by omega)] at this
            exact this
        · obtain ⟨m1, m2, c, e', m3⟩ := g8 b' hb'
          exact ⟨by show b' < w'.heap.size; rw [hw']; simpa using (show b' < w.heap.size from m1), m2, c, e', (hwal b' hb').trans m3⟩
        · have hm : m < xss.length := by simpa using hm
          rw [hrow m hm]
          show RowAt _ _ _ _ (upd (loc nm).sub.rows j (loc nm).sub.pnd m) _
          by_cases e : m = j
          · subst e
            rw [upd_same, if_pos rfl]
            exact hkeep ⟨rs, r1, r2, r3⟩
          · rw [upd_other _ _ _ e, if_neg e]
            exact hkeep (g9.row m hm fun k ys hp => by cases hp; exact e)
        · have k1 : m1 < xss.length := by simpa using h1
          have k2 : m2 < xss.length := by simpa using h2
          have kb1 : (upd (loc nm).sub.rows j (loc nm).sub.pnd m1).ownBlock = some b' := hb1
          have kb2 : (upd (loc nm).sub.rows j (loc nm).sub.pnd m2).ownBlock = some b' := hb2
          by_cases q1 : m1 = j
          · subst q1
            have q2 : m2 ≠ m1 := fun e => h3 e.symm
            rw [upd_same] at kb1
            rw [upd_other _ _ _ q2] at kb2
            exact r4 m2 k2 q2 b' kb1 kb2
          · rw [upd_other _ _ _ q1] at kb1
            by_cases q2 : m2 = j
            · subst q2
              rw [upd_same] at kb2
              exact r4 m1 k1 q1 b' kb2 kb1
            · rw [upd_other _ _ _ q2] at kb2
              exact g9.apart m1 m2 k1 k2 (fun k ys hp => by cases hp; exact ⟨q1, q2⟩) h3 b' kb1 kb2
        · have hm : m < xss.length := by simpa using hm
          rw [hrow m hm]
          split
          · exact hys
          · exact g9.short m hm)
    exact ⟨_, _, _, hrun, hK, htn.1, htn.2⟩
end
end Go.Eng
