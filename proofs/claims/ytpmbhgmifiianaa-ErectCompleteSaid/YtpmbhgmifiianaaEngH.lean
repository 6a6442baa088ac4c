/-
  Appends and makes.
-/
import Derived.Test.YtpmbhgmifiianaaEngG
set_option linter.unusedSimpArgs false
set_option linter.unusedVariables false
namespace Go.Eng
open Go.RowKit

theorem range_flat {w : World} {ok : Nat → Prop} {t : Ty} {xs : List t.T} {b off : Nat} : ∀ (n : Nat), (∀ i, i < n → ∃ es, es.length = t.size ∧ w.rangeAt b (off + i * t.size) es ∧ Reads w ok t (xs.getD i t.dflt) es) →
    ∃ news : List Value, news.length = n * t.size ∧ w.rangeAt b off news ∧ ∀ i, i < n → Reads w ok t (xs.getD i t.dflt) ((news.drop (i * t.size)).take t.size)
  | 0, _ => ⟨[], by simp, fun j v hj => by simp at hj, fun i hi => absurd hi (Nat.not_lt_zero _)⟩
  | n + 1, h => by
    obtain ⟨news, h1, h2, h3⟩ := range_flat n fun i hi => h i (by omega)
    obtain ⟨es, h4, h5, h6⟩ := h n (by omega)
    refine ⟨news ++ es, by simp [h1, h4, Nat.add_mul], ?_, ?_⟩
    · intro j v hj
      rcases Nat.lt_or_ge j news.length with hlt | hge
      · rw [List.getElem?_append_left hlt] at hj; exact h2 j v hj
      · rw [List.getElem?_append_right hge] at hj
        have := h5 _ v hj
        have e : off + n * t.size + (j - news.length) = off + j := by omega
        rwa [e] at this
    · intro i hi
      by_cases e : i = n
      · subst e
        have : (news ++ es).drop (i * t.size) = es := by
          rw [← h1, List.drop_left]
        rw [this, List.take_of_length_le (by omega)]
        exact h6
      · have hlt : i < n := by omega
        have hm : i * t.size + t.size ≤ n * t.size := by
          have : (i + 1) * t.size ≤ n * t.size := Nat.mul_le_mul_right _ hlt
          rwa [Nat.add_mul, Nat.one_mul] at this
        have : ((news ++ es).drop (i * t.size)).take t.size = (news.drop (i * t.size)).take t.size := by
          rw [List.drop_append_of_le_length (by omega), List.take_append_of_le_length (by simp; omega)]
        rw [this]
        exact h3 i hlt

section
variable {P : Program} {G : Ctx} {H : List HO} {loc : Nat → Loc} {ver : Nat → Nat} {w : World}

/-- What is appended: its cells. -/
structure Src (w : World) (ok : Nat → Prop) (t : Ty) (ys : List t.T) (x : Value) (a : Option Addr) (c : Nat) (news : List Value) : Prop where
  val : x = .slice a ys.length c
  none : a = none → ys.length = 0
  len : news.length = ys.length * t.size
  cell : ∀ ad, a = some ad → ∀ j u, news[j]? = some u → w.cell? (ad.add j) = some u
  rd : ∀ i, i < ys.length → Reads w ok t (ys.getD i t.dflt) ((news.drop (i * t.size)).take t.size)
theorem src_of_reads {ok : Nat → Prop} {t : Ty} {ys : List t.T} {x : Value} (h : Reads w ok (.slice t) ys [x]) : ∃ a c news, Src w ok t ys x a c news := by
  obtain ⟨a, n, c, e, hn, hc, hm, hall⟩ := h
  cases e
  have hn' : n = ys.length := hn
  subst hn'
  by_cases h0 : 0 < ys.length
  · obtain ⟨b, off, rfl, hok, hel⟩ := hall h0
    obtain ⟨news, h1, h2, h3⟩ := range_flat (xs := ys) ys.length hel
    exact ⟨_, c, news, rfl, (fun e => by cases e), h1, (fun ad e j u hj => by cases e; rw [Addr.add_mid]; exact h2 j u hj), h3⟩
  · have : ys.length = 0 := by omega
    exact ⟨a, c, [], rfl, fun _ => this, by simp [this], (fun ad e j u hj => by simp at hj), fun i hi => by omega⟩
theorem dataOf_src (hI : Inv G H loc ver w) {t : Ty} {s : SV} {x : Value} {ys : List t.T} (h : dataOf H t s = some ys) (hs : Rel (envOf G H loc ver w) s x) : ∃ a c news, Src w (okN G H loc w) t ys x a c news := by
  have hseq : ∀ {s' : SV} {t' : Ty} {ys' : List t'.T}, s' = .seq t' ys' → (∀ t'' (zs : List t''.T), s' = .seq t'' zs → ∃ a c news, Src w (okN G H loc w) t'' zs x a c news) → (match s' with
      | .seq t' ys => if h : t' = t then some (h ▸ ys : List t.T) else none
      | .val (.slice none 0 0) => some []
      | _ => none) = some ys → ∃ a c news, Src w (okN G H loc w) t ys x a c news := by
    intro s' t' ys' e hsrc h
    subst e
    simp only at h
    split at h
    · rename_i e
      subst e
      cases h
      exact hsrc _ _ rfl
    · cases h
  unfold dataOf at h
  cases hs with
  | seq t' xs _ hr => exact hseq (s' := .seq t' xs) rfl (fun t'' zs e => by cases e; exact src_of_reads hr) h
  | val v hw =>
    simp only [view] at h
    split at h
    · rename_i heq; cases heq
    · rename_i heq
      cases heq
      cases h
      exact ⟨none, 0, [], rfl, fun _ => rfl, by simp, (fun ad e => by cases e), fun i hi => by simp at hi⟩
    · cases h
  | ref nm k _ hn h0 hk hv =>
    simp only [view] at h
    cases ho : hget H nm with
    | vec j ty xs e =>
      rw [ho] at h
      simp only [Bool.true_and] at h
      cases hb : Nat.beq j k with
      | false => rw [hb] at h; simp at h
      | true =>
        rw [hb] at h
        obtain rfl := beq_iff.1 hb
        have hO := hI.objs nm _ (hget_some ho (by simp))
        have hvj : ver nm = j := hO.1
        have := hv hvj.symm
        subst this
        refine hseq (s' := .seq ty xs) rfl (fun t'' zs e => ?_) h
        cases e
        obtain ⟨_, _, hlen, hmax, vs, hown, hel⟩ := hO
        have hlen' : (loc nm).len = xs.length := hlen
        rcases own_cases hown with ⟨e1, e2, e3, e4⟩ | ⟨g, cur, e1, e2, e3, e4, e5, e6, e7⟩
        · have h00 : List.length (α := ty.T) xs = 0 := by omega
          refine ⟨none, 0, [], ?_, fun _ => h00, by simp [h00], (fun ad e => by cases e), fun i hi => by omega⟩
          show (loc nm).head = _
          simp only [Core.head, e1, e2, e3, Option.map_none]
          rw [← hlen', e3]
        · refine ⟨some ⟨g, 0, none⟩, (loc nm).cap, vs, ?_, (fun e => by cases e), ?_, ?_, ?_⟩
          · show (loc nm).head = _
            simp only [Core.head, e1, Option.map_some, hlen']
          · rw [← hlen']; exact hown.1
          · intro ad e j u hj
            cases e
            rw [Addr.add_mid]
            rw [← e7, List.getElem?_take] at hj
            split at hj
            · have e3' : w.heap[g]? = some (.cells cur _ (0, 0)) := e3
              simp only [World.cell?, e3']
              simpa using hj
            · cases hj
          · intro i hi
            exact hel i (by show i < (loc nm).len; omega)
    | fro j ty xs =>
      rw [ho] at h
      simp only at h
      cases hb : Nat.beq j k with
      | false => rw [hb] at h; simp at h
      | true =>
        rw [hb] at h
        obtain rfl := beq_iff.1 hb
        have hO := hI.objs nm _ (hget_some ho (by simp))
        have hvj : ver nm = j := hO.1
        have := hv hvj.symm
        subst this
        exact hseq (s' := .seq ty xs) rfl (fun t'' zs e => by cases e; exact src_of_reads hO.2.2) h
    | dead => rw [ho] at h; simp at h
    | cells l e => rw [ho] at h; simp at h
    | frc l => rw [ho] at h; simp at h
    | gone => rw [ho] at h; simp at h
    | yst a b c => rw [ho] at h; simp at h
    | map a b c => rw [ho] at h; simp at h
    | mit a b c d => rw [ho] at h; simp at h
    | res => rw [ho] at h; simp at h
    | vv => rw [ho] at h; simp at h
  | ptr nm off _ hn hh =>
    simp only [view] at h
    cases ho : hget H nm <;> rw [ho] at h <;> simp at h
  | _ => simp [view] at h

/-- The builtin append on a row of the call's own: where the result lies. -/
theorem run_append_vec {t ty e : TypeId} {i : TypeInfo} {z : Value} {tt : Ty} (ht : P.underlying t = some (.slice e)) (hi : P.info? e = some i) (hz : i.zero = some z) (hs : i.size = tt.size) (hzs : z.cells.size = tt.size)
    {L : Loc} {n : Nat} {xs : List Value} (hown : w.ownsRow 0 e tt.size L.head n xs) {ok : Nat → Prop} {ys : List tt.T} {x : Value} {a : Option Addr} {c : Nat} {news : List Value} (hsrc : Src w ok tt ys x a c news)
    (hb : (n + ys.length) * i.bytes ≤ 140737488355328) (hm : n + ys.length ≤ maxL) :
    ∃ (L' : Loc) (w' : World), (Builtin.append_ #[t, t] ty #[L.head, x]).run P w = .ok L'.head w' ∧ w'.ownsRow 0 e tt.size L'.head (n + ys.length) (xs ++ news) ∧ w.grownBy w' (L.blk.map (·.1)) ∧ (∀ b, L'.blk.map (·.1) = some b → L.blk.map (·.1) = some b ∨ w.heap.size ≤ b) := by
  have hsz := tt.size_pos
  have hm' : n + ys.length ≤ 140737488355328 := hm
  have h1 : ∀ u ∈ news, u.oneCell' = true := by
    intro u hu
    obtain ⟨j, hj, rfl⟩ := List.getElem_of_mem hu
    have hj' : j < ys.length * tt.size := by rw [← hsrc.len]; exact hj
    have hdiv : j / tt.size < ys.length := Nat.div_lt_of_lt_mul (by rw [Nat.mul_comm]; exact hj')
    refine (hsrc.rd (j / tt.size) hdiv).one _ ?_
    have hmod := Nat.mod_lt j hsz
    have hdm := Nat.div_add_mod j tt.size
    have : ((news.drop (j / tt.size * tt.size)).take tt.size)[j % tt.size]? = some news[j] := by
      rw [List.getElem?_take, if_pos hmod, List.getElem?_drop, Nat.mul_comm, hdm, List.getElem?_eq_getElem hj]
    exact List.mem_of_getElem? this
  have same : ys.length = 0 → ∃ (L' : Loc) (w' : World), (Builtin.append_ #[t, t] ty #[L.head, x]).run P w = .ok L'.head w' ∧ w'.ownsRow 0 e tt.size L'.head (n + ys.length) (xs ++ news) ∧ w.grownBy w' (L.blk.map (·.1)) ∧ (∀ b, L'.blk.map (·.1) = some b → L.blk.map (·.1) = some b ∨ w.heap.size ≤ b) := by
    intro h0
    have hn : news = [] := List.eq_nil_of_length_eq_zero (by rw [hsrc.len, h0, Nat.zero_mul])
    refine ⟨L, w, ?_, by rw [hn, h0]; simpa using hown, ⟨rfl, rfl, rfl, Nat.le_refl _, fun _ _ _ => rfl⟩, fun b hb => .inl hb⟩
    rw [hsrc.val, h0]
    have hle : L.len ≤ L.cap := by
      rcases own_cases hown with ⟨_, e2, e3, _⟩ | ⟨g, cur, _, e2, _, e4, _⟩ <;> omega
    cases hbk : L.blk with
    | none => cases a <;> simp [Core.head, hbk, Builtin.append_, run_underlying ht, sizeOf, typeInfo, hi, Builtin.lenOf, Builtin.firstCells, loadCells, loadCellsFrom, hle, storeCells]
    | some p => cases a <;> simp [Core.head, hbk, Builtin.append_, run_underlying ht, sizeOf, typeInfo, hi, Builtin.lenOf, Builtin.firstCells, loadCells, loadCellsFrom, hle, storeCells]
  by_cases h0 : ys.length = 0
  · exact same h0
  obtain ⟨ad, rfl⟩ : ∃ ad, a = some ad := by
    cases a with
    | none => exact absurd (hsrc.none rfl) h0
    | some ad => exact ⟨ad, rfl⟩
  have hnl : news.length = ys.length * i.size := by rw [hs]; exact hsrc.len
  have hnews := hsrc.cell ad rfl
  rw [hsrc.val]
  have hlen : (xs ++ news).length = (n + ys.length) * i.size := by rw [List.length_append, hown.1, hnl, hs, Nat.add_mul]
  have grown : ∀ (old : Nat), old < n + ys.length → ∀ (row : Option Nat),
      (w.drew.alloc (.cells (xs.toArray ++ news.toArray ++ Builtin.zeroCells z.cells (grownCap w (n + ys.length) old e - (n + ys.length))) e)).ownsRow 0 e tt.size (Core.head (mkL (some (w.heap.size, 0)) (n + ys.length) (grownCap w (n + ys.length) old e)).toCore) (n + ys.length) (xs ++ news) ∧
      w.grownBy (w.drew.alloc (.cells (xs.toArray ++ news.toArray ++ Builtin.zeroCells z.cells (grownCap w (n + ys.length) old e - (n + ys.length))) e)) row := by
    intro old ho row
    have hge := grownCap_ge w (n + ys.length) old e
    have hcm : grownCap w (n + ys.length) old e ≤ maxLen := grownCap_le_maxLen w (n + ys.length) old e (by simp [maxLen]; omega)
    refine ⟨⟨by rw [← hs]; exact hlen, .inr ⟨w.heap.size, _, _, rfl, Nat.zero_le _, alloc_new w.drew _, hge, hcm, ?_, ?_⟩⟩, ⟨rfl, rfl, rfl, by simp, fun k hk _ => Below.heap_alloc w.drew _ k hk⟩⟩
    · have : xs.length + news.length = (n + ys.length) * tt.size := by rw [← List.length_append, hlen, hs]
      simp only [Array.size_append, List.size_toArray, size_zeroCells, hzs, this, ← Nat.add_mul]
      congr 1
      omega
    · simp only [Array.toList_append]
      rw [← hs, ← hlen]
      exact List.take_left' rfl
  rcases own_cases hown with ⟨e1, e2, e3, e4⟩ | ⟨g, cur, e1, e2, e3, e4, e5, e6, e7⟩
  · have hx : xs = [] := List.eq_nil_of_length_eq_zero (by rw [hown.1, e4, Nat.zero_mul])
    subst hx e4
    simp only [Nat.zero_add] at hb hm' grown ⊢
    have hr := run_append_nil (P := P) w t ty e i z ht hi hz ad ys.length c news hnl hnews (by omega) (by omega) (by omega)
    have hgr := grown 0 (by omega) (L.blk.map (·.1))
    refine ⟨(mkL (some (w.heap.size, 0)) (ys.length) (_)), _, ?_, hgr.1, hgr.2, fun b hb => .inr (by simp at hb; omega)⟩
    simpa [Core.head, e1, e2, e3] using hr
  · have hhead : L.head = .slice (some ⟨g, 0, none⟩) n L.cap := by simp [Core.head, e1, e2]
    by_cases hroom : n + ys.length ≤ L.cap
    · have hfit : n * i.size + news.length ≤ cur.size := by rw [hnl, e6, hs, ← Nat.add_mul]; exact Nat.mul_le_mul_right _ hroom
      have hr := run_append_room (P := P) w t ty e i ht hi g n L.cap cur e3 ad ys.length c news hnl hnews h1 hroom hfit
      refine ⟨mkL (some (g, 0)) (n + ys.length) L.cap, _, by rw [hhead]; exact hr, ⟨by rw [← hs]; exact hlen, .inr ⟨g, L.cap, _, rfl, Nat.zero_le _, setRow_heap w g cur _ e _ e3, hroom, e5, ?_, ?_⟩⟩, ⟨rfl, rfl, rfl, by simp, fun k _ hk => setRow_other w g k _ (fun e => hk (by simp [e1, e]))⟩, fun b hb => .inl (by simpa [e1] using hb)⟩
      · simp only [List.size_toArray, List.length_append, List.length_take, List.length_drop, Array.length_toList]
        rw [← e6]; omega
      · rw [hs] at *
        rw [e7]
        rw [← hlen]
        exact List.take_left' rfl
    · have holds : ∀ j u, xs[j]? = some u → w.cell? ((⟨g, 0, none⟩ : Addr).add j) = some u := by
        intro j u hj
        rw [Addr.add_mid]
        rw [← e7, List.getElem?_take] at hj
        split at hj
        · simp only [World.cell?, e3]
          simpa using hj
        · cases hj
      have hr := run_append_grow (P := P) w t ty e i z ht hi hz ⟨g, 0, none⟩ n L.cap xs (by rw [hs]; exact hown.1) holds ad ys.length c news hnl hnews (by omega) (by omega) (growslice_fits (by omega) hb)
      have hgr := grown L.cap (by omega) (L.blk.map (·.1))
      exact ⟨(mkL (some (w.heap.size, 0)) (n + ys.length) (_)), _, by rw [hhead]; exact hr, hgr.1, hgr.2, fun b hb => .inr (by simp at hb; omega)⟩
end
end Go.Eng
