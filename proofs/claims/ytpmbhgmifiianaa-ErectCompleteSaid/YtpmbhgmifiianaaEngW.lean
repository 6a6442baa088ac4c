/-
  Operations on maps with integers as keys.
-/
import Derived.Test.YtpmbhgmifiianaaEngV
import Derived.Maps.RangeRun
import Derived.MapKept
set_option linter.unusedSimpArgs false
set_option linter.unusedVariables false
namespace Go.Eng
open Go.RowKit Go.MapKept
open Go.ChangeMaps (setBlock)

/-! ### Entries, told and laid -/
theorem EntsR.length {w : World} {ok : Nat → Prop} {k : IntKind} {t : Ty} : ∀ {xs : List (Nat × Int × t.T)} {es : List MapEntry}, EntsR w ok k t xs es → xs.length = es.length
  | [], [], _ => rfl
  | _ :: _, _ :: _, h => by simp [EntsR.length h.2]
theorem EntsR.isKey {w : World} {ok : Nat → Prop} {k : IntKind} {t : Ty} : ∀ {xs : List (Nat × Int × t.T)} {es : List MapEntry}, EntsR w ok k t xs es → ∀ e ∈ es, IsKey (.int k) e.key
  | [], [], _, e, he => by simp at he
  | x :: r, e₀ :: r', h, e, he => by
    rcases List.mem_cons.1 he with rfl | he
    · rw [h.1.2.1]; rfl
    · exact h.2.isKey e he
theorem EntsR.append {w : World} {ok : Nat → Prop} {k : IntKind} {t : Ty} : ∀ {xs : List (Nat × Int × t.T)} {es : List MapEntry}, EntsR w ok k t xs es → ∀ {ys fs}, EntsR w ok k t ys fs → EntsR w ok k t (xs ++ ys) (es ++ fs)
  | [], [], _, _, _, h => h
  | _ :: _, _ :: _, h, _, _, h' => ⟨h.1, h.2.append h'⟩
/-- Each entry laid is one that is told, and the other way. -/
theorem EntsR.mem {w : World} {ok : Nat → Prop} {k : IntKind} {t : Ty} : ∀ {xs : List (Nat × Int × t.T)} {es : List MapEntry}, EntsR w ok k t xs es → ∀ e ∈ es, ∃ x ∈ xs, e.born = x.1 ∧ e.key = .int k x.2.1 ∧ inK k x.2.1 ∧ Reads w ok t x.2.2 [e.val]
  | [], [], _, e, he => by simp at he
  | x :: r, e₀ :: r', h, e, he => by
    rcases List.mem_cons.1 he with rfl | he
    · exact ⟨x, by simp, h.1⟩
    · obtain ⟨y, h1, h2⟩ := h.2.mem e he; exact ⟨y, by simp [h1], h2⟩
theorem EntsR.mem' {w : World} {ok : Nat → Prop} {k : IntKind} {t : Ty} : ∀ {xs : List (Nat × Int × t.T)} {es : List MapEntry}, EntsR w ok k t xs es → ∀ x ∈ xs, ∃ e ∈ es, e.born = x.1 ∧ e.key = .int k x.2.1 ∧ inK k x.2.1 ∧ Reads w ok t x.2.2 [e.val]
  | [], [], _, e, he => by simp at he
  | x :: r, e₀ :: r', h, y, hy => by
    rcases List.mem_cons.1 hy with rfl | hy
    · exact ⟨e₀, by simp, h.1⟩
    · obtain ⟨e, h1, h2⟩ := h.2.mem' y hy; exact ⟨e, by simp [h1], h2⟩
theorem EntsR.borns {w : World} {ok : Nat → Prop} {k : IntKind} {t : Ty} : ∀ {xs : List (Nat × Int × t.T)} {es : List MapEntry}, EntsR w ok k t xs es → es.map (·.born) = xs.map (·.1)
  | [], [], _ => rfl
  | _ :: _, _ :: _, h => by simp [h.1.1, h.2.borns]
/-- The search for a key. -/
theorem EntsR.find {w : World} {ok : Nat → Prop} {k : IntKind} {t : Ty} {n : Int} : ∀ {xs : List (Nat × Int × t.T)} {es : List MapEntry}, EntsR w ok k t xs es → ∀ i,
    (findK xs n = none ∧ Instr.findNow (.int k) (.int k n) es i = some none ∧ delK xs n = xs) ∨
    ∃ j x e, findK xs n = some x.2.2 ∧ Instr.findNow (.int k) (.int k n) es i = some (some (i + j, e.val)) ∧ xs[j]? = some x ∧ es[j]? = some e ∧ x.2.1 = n ∧ (∀ y, setK xs n y = xs.set j (x.1, n, y)) ∧ delK xs n = xs.eraseIdx j
  | [], [], _, i => .inl ⟨rfl, rfl, rfl⟩
  | x :: r, e :: r', h, i => by
    obtain ⟨⟨h1, h2, h3, h4⟩, h5⟩ := h
    by_cases hn : x.2.1 = n
    · refine .inr ⟨0, x, e, by simp [findK, hn], ?_, rfl, rfl, hn, fun y => by simp [setK, hn], by simp [delK, hn]⟩
      simp [Instr.findNow, h2, Instr.sameNow, hn]
    · have hs : Instr.sameNow (.int k) (.int k n) e.key = some false := by simp [h2, Instr.sameNow]; exact fun e => hn e.symm
      rcases h5.find (n := n) (i + 1) with ⟨g1, g2, g3⟩ | ⟨j, y, f, g1, g2, g3, g4, g5, g6, g7⟩
      · exact .inl ⟨by simp [findK, hn, g1], by simp [Instr.findNow, hs, g2], by simp [delK, hn, g3]⟩
      · exact .inr ⟨j + 1, y, f, by simp [findK, hn, g1], by simp [Instr.findNow, hs, g2]; omega, by simpa using g3, by simpa using g4, g5, fun z => by simp [setK, hn, g6], by simp [delK, hn, g7]⟩
theorem EntsR.get {w : World} {ok : Nat → Prop} {k : IntKind} {t : Ty} : ∀ {xs : List (Nat × Int × t.T)} {es : List MapEntry}, EntsR w ok k t xs es → ∀ {j : Nat} {x : Nat × Int × t.T} {e : MapEntry}, xs[j]? = some x → es[j]? = some e → e.born = x.1 ∧ e.key = .int k x.2.1 ∧ inK k x.2.1 ∧ Reads w ok t x.2.2 [e.val]
  | _ :: _, _ :: _, h, 0, _, _, h1, h2 => by simp at h1 h2; subst h1; subst h2; exact h.1
  | _ :: _, _ :: _, h, j + 1, _, _, h1, h2 => h.2.get (by simpa using h1) (by simpa using h2)
theorem EntsR.set {w : World} {ok : Nat → Prop} {k : IntKind} {t : Ty} : ∀ {xs : List (Nat × Int × t.T)} {es : List MapEntry}, EntsR w ok k t xs es → ∀ (j : Nat) {x : Nat × Int × t.T} {e : MapEntry}, (e.born = x.1 ∧ e.key = .int k x.2.1 ∧ inK k x.2.1 ∧ Reads w ok t x.2.2 [e.val]) → EntsR w ok k t (xs.set j x) (es.set j e)
  | [], [], _, _, _, _, _ => trivial
  | _ :: _, _ :: _, h, 0, _, _, h' => ⟨h', h.2⟩
  | _ :: _, _ :: _, h, j + 1, _, _, h' => ⟨h.1, h.2.set j h'⟩
theorem EntsR.erase {w : World} {ok : Nat → Prop} {k : IntKind} {t : Ty} : ∀ {xs : List (Nat × Int × t.T)} {es : List MapEntry}, EntsR w ok k t xs es → ∀ (j : Nat), EntsR w ok k t (xs.eraseIdx j) (es.eraseIdx j)
  | [], [], _, _ => trivial
  | _ :: _, _ :: _, h, 0 => h.2
  | _ :: _, _ :: _, h, j + 1 => ⟨h.1, h.2.erase j⟩

/-! ### A map stays well formed -/
section
variable {α : Type}
theorem findK_none {xs : List (Nat × Int × α)} {n : Int} (h : findK xs n = none) : ∀ e ∈ xs, e.2.1 ≠ n := by
  induction xs with
  | nil => intro e he; simp at he
  | cons x r ih =>
    intro e he
    simp only [findK] at h
    split at h
    · cases h
    · rename_i hne
      rcases List.mem_cons.1 he with rfl | he
      · exact hne
      · exact ih h e he
theorem setK_map (xs : List (Nat × Int × α)) (n : Int) (x : α) : (setK xs n x).map (·.1) = xs.map (·.1) ∧ (setK xs n x).map (·.2.1) = xs.map (·.2.1) := by
  induction xs with
  | nil => exact ⟨rfl, rfl⟩
  | cons e r ih =>
    simp only [setK]
    split
    · rename_i h; simp [h]
    · simp [ih]
theorem setK_length (xs : List (Nat × Int × α)) (n : Int) (x : α) : (setK xs n x).length = xs.length := by
  have := congrArg List.length (setK_map xs n x).1
  simpa using this
theorem delK_sub (xs : List (Nat × Int × α)) (n : Int) : (delK xs n).Sublist xs := by
  induction xs with
  | nil => exact List.Sublist.refl _
  | cons e r ih =>
    simp only [delK]
    split
    · exact List.sublist_cons_self ..
    · exact ih.cons_cons e
theorem MapS.Wf.new : (MapS.new : MapS α).Wf := ⟨by simp [MapS.new], by simp [MapS.new], by simp [MapS.new]⟩
theorem MapS.Wf.put {m : MapS α} (h : m.Wf) (n : Int) (x : α) : (m.put n x).Wf := by
  unfold MapS.put
  cases hf : findK m.es n with
  | some y =>
    obtain ⟨e1, e2⟩ := setK_map m.es n x
    refine ⟨fun e he => ?_, ?_, ?_⟩
    · have : e.1 ∈ (setK m.es n x).map (·.1) := List.mem_map.2 ⟨e, he, rfl⟩
      rw [e1] at this
      obtain ⟨y, hy, hz⟩ := List.mem_map.1 this
      rw [← hz]; exact h.born y hy
    · have := List.pairwise_map.2 h.times
      rw [← e1] at this
      exact List.pairwise_map.1 this
    · have := List.pairwise_map.2 h.keys
      rw [← e2] at this
      exact List.pairwise_map.1 this
  | none =>
    refine ⟨fun e he => ?_, ?_, ?_⟩
    · simp only [List.mem_append, List.mem_singleton] at he
      rcases he with he | rfl
      · exact Nat.lt_succ_of_lt (h.born e he)
      · exact Nat.lt_succ_self _
    · refine List.pairwise_append.2 ⟨h.times, by simp, fun a ha b hb => ?_⟩
      simp only [List.mem_singleton] at hb
      subst hb
      exact Nat.ne_of_lt (h.born a ha)
    · refine List.pairwise_append.2 ⟨h.keys, by simp, fun a ha b hb => ?_⟩
      simp only [List.mem_singleton] at hb
      subst hb
      exact findK_none hf a ha
theorem MapS.Wf.del {m : MapS α} (h : m.Wf) (n : Int) : (m.del n).Wf :=
  ⟨fun e he => h.born e ((delK_sub m.es n).subset he), h.times.sublist (delK_sub m.es n), h.keys.sublist (delK_sub m.es n)⟩
theorem MapS.put_length (m : MapS α) (n : Int) (x : α) : (m.put n x).es.length ≤ m.es.length + 1 := by
  unfold MapS.put
  split
  · simp [setK_length]
  · simp
theorem MapS.del_length (m : MapS α) (n : Int) : (m.del n).es.length ≤ m.es.length := (delK_sub m.es n).length_le
end

section
variable {P : Program} {G : Ctx} {H : List HO} {loc : Nat → Loc} {ver : Nat → Nat} {w : World}
theorem mapTy_run {t et : TypeId} {k : IntKind} (h : mapTy P t = some (k, et)) : ∃ kt, P.underlying t = some (.map kt et) ∧ P.underlying kt = some (.int k) := by
  unfold mapTy at h
  split at h
  · rename_i kt et' hu
    split at h
    · rename_i k' hk
      cases h
      exact ⟨kt, hu, hk⟩
    · cases h
  · cases h
/-- Where a map lies. -/
theorem map_at (hI : Inv G H loc ver w) {nm : Nat} {k : IntKind} {t : Ty} {m : MapS t.T} (ho : hget H nm = .map k t m) {v : Value} (hv : Rel (envOf G H loc ver w) (.mp nm) v) :
    m.Wf ∧ m.es.length ≤ maxL ∧ ∃ b es, (loc nm).blk = some (b, 0) ∧ v = .map (some b) ∧ w.heap[b]? = some (.map ⟨es⟩ m.clock) ∧ EntsR w (okN G H loc w) k t m.es es := by
  obtain ⟨h0, h1, h2, b, es, h3, h4, h5⟩ := hI.objs nm _ (hget_some ho (by simp))
  cases hv with
  | mp _ _ hn hp =>
    obtain ⟨b', h6, h7⟩ := hp h0
    have h6 : (loc nm).blk = some (b', 0) := h6
    rw [h3] at h6; cases h6
    exact ⟨h1, h2, b, es, h3, h7, h4, h5⟩
theorem one_rel {E : Env} {t : Ty} (ht : ∃ v : Value, True) {x : t.T} {v : Value} (h : Reads E.w E.ok t x [v]) : Rel E (one (enc t x)) v := by
  have hl := h.length
  have he := enc_length t x
  have hr := h.enc
  cases hc : enc t x with
  | nil => rw [hc] at hr; cases hr
  | cons s r =>
    rw [hc] at hr he
    cases r with
    | nil => exact (by simpa [one] using (by obtain ⟨u, e, hu⟩ := hr.one; cases e; exact hu))
    | cons s' r' => cases hr with
      | cons _ _ _ _ _ h2 => cases h2
theorem zero_reads {E : Env} {et : TypeId} {z : SV} {t : Ty} {d : t.T} (hz : zero1 P et = some z) (hd : dec t [z] = some d) (hk : kindsOk t [z] = true) : ∃ v : Value, (zeroValue et).run P w = .ok v w ∧ Reads E.w E.ok t d [v] := by
  unfold zero1 at hz
  split at hz
  · rename_i i hi
    split at hz
    · cases hz
    · rename_i v hv hna
      cases hz
      exact ⟨v, by simp [zeroValue, typeInfo, hi, hna], dec_reads (.cons _ _ _ _ (cst_rel E v) .nil) hd hk⟩
    · cases hz
  · cases hz
theorem makeMap_sound (hI : Inv G H loc ver w) {t : TypeId} {K : SV → List HO → Prop} (h : makeMapOp P t H K) : ∃ v w', (Instr.makeMap t none).run P w = .ok v w' ∧ Res G (envOf G H loc ver w) K v w' := by
  unfold makeMapOp at h
  split at h
  · rename_i k et ht
    split at h
    · rename_i ty hty
      obtain ⟨h1, hK⟩ := bif_true h
      rw [force_eq] at hK
      refine ⟨.map (some w.heap.size), w.alloc (.map #[] 0), by simp [Instr.makeMap, Result.andThen], ?_⟩
      have hf := hI.fresh (w' := w.alloc (.map #[] 0)) (.map k ty .new) (mkL (some (w.heap.size, 0)) 0 0) 0 (by simp) rfl rfl rfl (fun b hb => (heap_alloc w _).2 b hb)
        (fun b hb => by simp [Owns] at hb; omega) (fun _ => ⟨rfl, MapS.Wf.new, Nat.zero_le _, w.heap.size, [], rfl, (heap_alloc w _).1, trivial⟩)
      exact ⟨_, _, _, _, hK, hf.1, .mp _ _ (by exact hasB_new rfl) fun _ => ⟨w.heap.size, by simp [envOf, upd_same], rfl⟩, hf.2⟩
    · exact h.elim
  · exact h.elim
theorem hnf_use {s : SV} {K : SV → Prop} (h : hnf s K) : K s := by rwa [hnf_eq] at h
theorem lookup_sound (hI : Inv G H loc ver w) {t : TypeId} {ok : Bool} {x i : SV} {p q : Value} {K : SV → Prop} (h : lookupOp P t ok H x i K) (hx : Rel (envOf G H loc ver w) x p) (hi : Rel (envOf G H loc ver w) i q) :
    ∃ v s, (Instr.lookup t p q ok).run P w = .ok v w ∧ K s ∧ Rel (envOf G H loc ver w) s v := by
  unfold lookupOp at h
  split at h
  · rename_i nm k n k' et hm
    split at h
    · rename_i k'' ty m z ho hz
      obtain ⟨hb, hq⟩ := bif_true h
      clear h
      simp only [Bool.and_eq_true, decide_eq_true_eq] at hb
      obtain ⟨⟨⟨rfl, rfl⟩, h1⟩, hko⟩ := hb
      split at hq
      · rename_i d hd
        obtain ⟨rfl, hk⟩ := hi.int_inv
        obtain ⟨hwf, hlen, b, es, hblk, rfl, hheap, hE⟩ := map_at hI ho hx
        obtain ⟨kt, hu, huk⟩ := mapTy_run hm
        have hck : (Instr.checkKey es.isEmpty 10000 kt (.int k n)).run P w = .ok () w := run_checkKey (w := w) huk (show IsKey (.int k) (.int k n) from rfl) es.isEmpty 9999
        have key : ∃ v, (Instr.lookup t (.map (some b)) (.int k n) ok).run P w = .ok (if ok then .tuple #[v, .bool (m.get n).isSome] else v) w ∧ Reads w (okN G H loc w) ty ((m.get n).getD d) [v] := by
          rcases hE.find (n := n) 0 with ⟨g1, g2, g3⟩ | ⟨j, y, f, g1, g2, g3, g4, g5, g6, g7⟩ <;> (try rw [Nat.zero_add] at g2)
          · obtain ⟨v, hv, hr⟩ := zero_reads (w := w) (E := envOf G H loc ver w) hz hd hko
            refine ⟨v, ?_, by simp only [MapS.get, g1]; exact hr⟩
            have hfk := run_findKey (w := w) (l := es) huk g2
            cases ok <;> simp [Instr.lookup, run_underlying hu, MapKept.run_getObj_map hheap, hck, hfk, hv, MapS.get, g1, Result.andThen]
          · refine ⟨f.val, ?_, by simp only [MapS.get, g1]; exact (hE.get g3 g4).2.2.2⟩
            have hfk := run_findKey (w := w) (l := es) huk g2
            cases ok <;> simp [Instr.lookup, run_underlying hu, MapKept.run_getObj_map hheap, hck, hfk, MapS.get, g1, Result.andThen]
        obtain ⟨v, hrun, hr⟩ := key
        have h := hr.giv hq
        have h9 : Rel (envOf G H loc ver w) (one (enc ty ((m.get n).getD d))) v := one_rel ⟨v, trivial⟩ hr
        cases ok with
        | false => exact ⟨v, _, by simpa using hrun, hnf_use h, h9⟩
        | true =>
          have h8 := hnf_use (K := fun v => K (.tup [v, .bl ((m.get n).isSome = true) inferInstance])) h
          refine ⟨_, _, by simpa using hrun, h8, .tup _ _ (.cons _ _ _ _ h9 (.cons _ _ _ _ ?_ .nil))⟩
          have : (Value.bool (m.get n).isSome) = .bool (decide ((m.get n).isSome = true)) := by simp
          rw [this]; exact .bl _ _
      · exact hq.elim
    · exact h.elim
  · exact h.elim
/-- A map is turned where it lies. -/
theorem map_turn (hI : Inv G H loc ver w) {nm : Nat} {k : IntKind} {t : Ty} {m m' : MapS t.T} (ho : hget H nm = .map k t m) {b : Nat} {es es' : List MapEntry} (hblk : (loc nm).blk = some (b, 0)) (hheap : w.heap[b]? = some (.map ⟨es⟩ m.clock))
    (hwf : m'.Wf) (hlen : m'.es.length ≤ maxL) (hE : EntsR w (okN G H loc w) k t m'.es es') :
    Inv G (hset H nm (.map k t m')) loc ver (setBlock w b (.map ⟨es'⟩ m'.clock)) ∧ Ext (envOf G H loc ver w) (envOf G (hset H nm (.map k t m')) loc ver (setBlock w b (.map ⟨es'⟩ m'.clock))) := by
  have hset := heap_set (o' := .map ⟨es'⟩ m'.clock) hheap
  refine hI.inPlace (hget_some ho (by simp)) (b := b) (by simp [Owns, hblk]) (fun b' hb' => hb') (by simp [setBlock]) rfl rfl rfl (fun b' hb' => hset.2 b' hb') fun hx => ?_
  have hv := (hI.objs nm _ (hget_some ho (by simp))).1
  exact ⟨hv, hwf, hlen, b, es', hblk, hset.1, hE.mono hx.cell hx.ok⟩
theorem mapUpdate_sound (hI : Inv G H loc ver w) {t : TypeId} {x i y : SV} {p q r : Value} {K : List HO → Prop} (h : mapUpdateOp P t H x i y K) (hx : Rel (envOf G H loc ver w) x p) (hi : Rel (envOf G H loc ver w) i q) (hy : Rel (envOf G H loc ver w) y r) :
    ∃ H' w', (Instr.mapUpdate t p q r).run P w = .ok () w' ∧ K H' ∧ Inv G H' loc ver w' ∧ Ext (envOf G H loc ver w) (envOf G H' loc ver w') := by
  unfold mapUpdateOp at h
  split at h
  · rename_i nm k n k' et hm
    split at h
    · rename_i k'' ty m ho
      obtain ⟨hb, hq⟩ := bif_true h
      clear h
      simp only [Bool.and_eq_true, decide_eq_true_eq] at hb
      obtain ⟨⟨⟨rfl, rfl⟩, h1⟩, hko⟩ := hb
      split at hq
      · rename_i d hd
        obtain ⟨hroom, hK⟩ := hq
        rw [force_eq] at hK
        obtain ⟨rfl, hk⟩ := hi.int_inv
        obtain ⟨hwf, hlen, b, es, hblk, rfl, hheap, hE⟩ := map_at hI ho hx
        obtain ⟨kt, hu, huk⟩ := mapTy_run hm
        have hck : (Instr.checkKey false 10000 kt (.int k n)).run P w = .ok () w := run_checkKey (w := w) huk (show IsKey (.int k) (.int k n) from rfl) false 9999
        have hr : Reads w (okN G H loc w) ty d [r] := dec_reads (E := envOf G H loc ver w) (.cons _ _ _ _ hy .nil) hd hko
        have hlen' : (m.put n d).es.length ≤ maxL := Nat.le_trans (m.put_length n d) hroom
        rcases hE.find (n := n) 0 with ⟨g1, g2, g3⟩ | ⟨j, z, f, g1, g2, g3, g4, g5, g6, g7⟩ <;> (try rw [Nat.zero_add] at g2)
        · have e : m.put n d = ⟨m.es ++ [(m.clock, n, d)], m.clock + 1⟩ := by simp [MapS.put, g1]
          have hfk := run_findKey (w := w) (l := es) huk g2
          have ht := map_turn hI ho hblk hheap (es' := es ++ [⟨.int k n, r, m.clock⟩]) (hwf.put n d) hlen' (by rw [e]; exact hE.append ⟨⟨rfl, rfl, hk, hr⟩, trivial⟩)
          refine ⟨_, _, ?_, hK, ht⟩
          simp [Instr.mapUpdate, run_underlying hu, MapKept.run_getObj_map hheap, hck, hfk, MapKept.run_setObj_map _ hheap, Result.andThen, setBlock, e]
        · have e : m.put n d = ⟨m.es.set j (z.1, n, d), m.clock⟩ := by simp [MapS.put, g1, g6]
          have hfk := run_findKey (w := w) (l := es) huk g2
          obtain ⟨q1, q2, q3, q4⟩ := hE.get g3 g4
          have hj : (⟨es⟩ : Array MapEntry)[j]? = some f := by simpa using g4
          have hfn : f.key = .int k n := by rw [q2, g5]
          have ht := map_turn hI ho hblk hheap (es' := es.set j { f with key := .int k n, val := r }) (hwf.put n d) hlen' (by rw [e]; exact hE.set j ⟨q1, rfl, hk, hr⟩)
          refine ⟨_, _, ?_, hK, ht⟩
          have hmod := ChangeMaps.modify_eq_set (fun e : MapEntry => { e with key := Value.int k n, val := r }) es j f g4
          have hst := run_keyThatStays (P := P) (w := w) (d := .int k) (k := .int k n) rfl
          simp [Instr.mapUpdate, run_underlying hu, MapKept.run_getObj_map hheap, hck, hfk, hj, g4, hfn, hst, MapKept.run_setObj_map _ hheap, Result.andThen, setBlock, e, hmod]
      · exact hq.elim
    · exact h.elim
  · exact h.elim
theorem delete_sound (hI : Inv G H loc ver w) {t : TypeId} {ts : Array TypeId} {ty' : TypeId} {x i : SV} {p q : Value} {K : List HO → Prop} (h : deleteOp P t H x i K) (hts : ts[0]? = some t) (hx : Rel (envOf G H loc ver w) x p) (hi : Rel (envOf G H loc ver w) i q) :
    ∃ H' w', (Builtin.delete_ ts ty' #[p, q]).run P w = .ok (.tuple #[]) w' ∧ K H' ∧ Inv G H' loc ver w' ∧ Ext (envOf G H loc ver w) (envOf G H' loc ver w') := by
  unfold deleteOp at h
  split at h
  · rename_i nm k n k' et hm
    split at h
    · rename_i k'' ty m ho
      obtain ⟨hb, hK⟩ := bif_true h
      simp only [Bool.and_eq_true, decide_eq_true_eq] at hb
      obtain ⟨rfl, rfl⟩ := hb
      rw [force_eq] at hK
      obtain ⟨rfl, hk⟩ := hi.int_inv
      obtain ⟨hwf, hlen, b, es, hblk, rfl, hheap, hE⟩ := map_at hI ho hx
      obtain ⟨kt, hu, huk⟩ := mapTy_run hm
      have hck : (Instr.checkKey es.isEmpty 10000 kt (.int k n)).run P w = .ok () w := run_checkKey (w := w) huk (show IsKey (.int k) (.int k n) from rfl) es.isEmpty 9999
      have hlen' : (m.del n).es.length ≤ maxL := Nat.le_trans (m.del_length n) hlen
      rcases hE.find (n := n) 0 with ⟨g1, g2, g3⟩ | ⟨j, z, f, g1, g2, g3, g4, g5, g6, g7⟩ <;> (try rw [Nat.zero_add] at g2)
      · have hfk := run_findKey (w := w) (l := es) huk g2
        have ht := map_turn hI ho hblk hheap (es' := es) (hwf.del n) hlen' (by simp only [MapS.del, g3]; exact hE)
        refine ⟨_, _, ?_, hK, ht⟩
        simp [Builtin.delete_, hts, run_underlying hu, MapKept.run_getObj_map hheap, hck, hfk, MapKept.run_setObj_map _ hheap, Result.andThen, setBlock, MapS.del]
      · have hfk := run_findKey (w := w) (l := es) huk g2
        have hjl : j < es.length := (List.getElem?_eq_some_iff.1 g4).1
        have ht := map_turn hI ho hblk hheap (es' := es.eraseIdx j) (hwf.del n) hlen' (by simp only [MapS.del, g7]; exact hE.erase j)
        refine ⟨_, _, ?_, hK, ht⟩
        have he : (⟨es⟩ : Array MapEntry).eraseIdxIfInBounds j = ⟨es.eraseIdx j⟩ := by
          unfold Array.eraseIdxIfInBounds
          rw [dif_pos (by simpa using hjl)]
          apply Array.ext'; simp
        simp [Builtin.delete_, hts, run_underlying hu, MapKept.run_getObj_map hheap, hck, hfk, MapKept.run_setObj_map _ hheap, Result.andThen, setBlock, MapS.del, he]
    · exact h.elim
  · exact h.elim
theorem range_sound' (hI : Inv G H loc ver w) {t : TypeId} {x : SV} {p : Value} {K : SV → List HO → Prop} (h : rangeOp P t H x K) (hx : Rel (envOf G H loc ver w) x p) :
    ∃ v w', (Instr.range t p).run P w = .ok v w' ∧ Res G (envOf G H loc ver w) K v w' := by
  unfold rangeOp at h
  split at h
  · rename_i nm ke hm
    split at h
    · rename_i k ty m ho
      obtain ⟨hwf, hlen, b, es, hblk, rfl, hheap, hE⟩ := map_at hI ho hx
      obtain ⟨k', et⟩ := ke
      obtain ⟨kt, hu, huk⟩ := mapTy_run hm
      have hK := h.go hwf
      rw [force_eq] at hK
      have hlt : nm < H.length := (List.getElem?_eq_some_iff.1 (hget_some ho (by simp))).1
      refine ⟨.pointer (some ⟨w.heap.size, 0, none⟩), w.alloc (.mapIter (some b) m.clock #[] m.clock), by simp [Instr.range, run_underlying hu, MapKept.run_getObj_map hheap], ?_⟩
      have hf := hI.fresh (w' := w.alloc (.mapIter (some b) m.clock #[] m.clock)) (.mit nm m.clock [] m.clock) (mkL (some (w.heap.size, 0)) 0 0) 0 (by simp) rfl rfl rfl (fun b hb => (heap_alloc w _).2 b hb)
        (fun b hb => by simp [Owns] at hb; omega) (fun hx => ⟨rfl, hx.num nm (hasB_of (hget_some ho (by simp)) rfl), w.heap.size, b, rfl, (heap_alloc w _).1, fun _ => by
          simp only [envOf]; rw [upd_other _ _ _ (by omega)]; exact hblk⟩)
      exact ⟨_, _, _, _, hK, hf.1, .ptr _ _ _ (by exact hasB_new rfl) fun _ => ⟨w.heap.size, by simp [envOf, upd_same], rfl⟩, hf.2⟩
    · exact h.elim
  · exact h.elim
/-- Where a walk over a map lies. -/
theorem mit_at (hI : Inv G H loc ver w) {nm mn since c0 : Nat} {seen : List Nat} {k : IntKind} {t : Ty} {m : MapS t.T} (ho : hget H nm = .mit mn since seen c0) (hm : hget H mn = .map k t m) {v : Value} (hv : Rel (envOf G H loc ver w) (.ptr nm 0) v) :
    m.Wf ∧ ∃ r b es, (loc nm).blk = some (r, 0) ∧ v = .pointer (some ⟨r, 0, none⟩) ∧ w.heap[r]? = some (.mapIter (some b) since ⟨seen⟩ c0) ∧ w.heap[b]? = some (.map ⟨es⟩ m.clock) ∧ EntsR w (okN G H loc w) k t m.es es := by
  obtain ⟨h0, hlt, r, b, h1, h2, h3⟩ := hI.objs nm _ (hget_some ho (by simp))
  obtain ⟨g0, g1, g2, b', es, g3, g4, g5⟩ := hI.objs mn _ (hget_some hm (by simp))
  have h3 := h3 g0
  have h3 : (loc mn).blk = some (b, 0) := h3
  rw [h3] at g3; cases g3
  cases hv with
  | ptr _ _ _ hn hp =>
    obtain ⟨r', h6, h7⟩ := hp h0
    have h6 : (loc nm).blk = some (r', 0) := h6
    rw [h1] at h6; cases h6
    exact ⟨g1, r, b, es, h1, h7, h2, g4, g5⟩
theorem next_sound (hI : Inv G H loc ver w) {ty' : TypeId} {x : SV} {p : Value} {K : SV → List HO → Prop} (h : nextOp H x K) (hx : Rel (envOf G H loc ver w) x p) :
    ∃ v w', (Instr.next p false ty').run P w = .ok v w' ∧ Res G (envOf G H loc ver w) K v w' := by
  unfold nextOp at h
  split at h
  · rename_i nm
    split at h
    · rename_i mn since seen c0 ho
      split at h
      · rename_i k ty m hm
        obtain ⟨hwf, r, b, es, hblk, rfl, hr, hb, hE⟩ := mit_at hI ho hm hx
        obtain ⟨⟨hold, hsc⟩, hfin, hmore⟩ := h
        have hold' : ∀ x ∈ (⟨es⟩ : Array MapEntry).toList, x.born < since := fun x hx => by
          obtain ⟨y, hy, e, _⟩ := hE.mem x hx
          rw [e]; exact hold y hy
        rcases run_next_at (P := P) w ty' r b since c0 ⟨seen⟩ ⟨es⟩ m.clock hr hb hold' hsc with ⟨h0, hrun⟩ | ⟨e, he, w1, hal, hrun⟩
        · refine ⟨_, _, hrun, .pure hI (hfin fun x hx => ?_) (.tup _ _ (.cons _ _ _ _ (.val _ trivial) .nil))⟩
          obtain ⟨f, hf, e1, _⟩ := hE.mem' x hx
          have hnil : leftOf ⟨es⟩ ⟨seen⟩ = #[] := Array.eq_empty_of_size_eq_zero h0
          unfold leftOf at hnil
          rw [Array.filter_eq_empty_iff] at hnil
          have := hnil f (by simpa using hf)
          simpa [e1] using this
        · unfold leftOf at he
          have he' : e ∈ es ∧ ¬ e.born ∈ seen := by simpa using he
          obtain ⟨y, hy, e1, e2, e3, e4⟩ := hE.mem e he'.1
          have h1 := giv_use (hmore y hy (by rw [← e1]; exact he'.2)) e3
          have h2 := hnf_use (e4.giv h1)
          rw [force_eq] at h2
          have hr1 : w1.heap[r]? = some (.mapIter (some b) since ⟨seen⟩ c0) := by rcases hal with rfl | rfl <;> exact hr
          have hset := heap_set (o' := .mapIter (some b) since ((⟨seen⟩ : Array Nat).push e.born) m.clock) hr1
          have hheq : ∀ b' : Nat, w1.heap[b']? = w.heap[b']? := fun b' => by rcases hal with rfl | rfl <;> rfl
          have hw := hI.inPlace (w' := setBlock w1 r (.mapIter (some b) since ((⟨seen⟩ : Array Nat).push e.born) m.clock)) (hget_some ho (by simp)) (o' := .mit mn since (seen ++ [y.1]) m.clock) (b := r) (by simp [Owns, hblk]) (fun b' hb' => hb')
            (by rcases hal with rfl | rfl <;> simp [setBlock]) (by rcases hal with rfl | rfl <;> rfl) (by rcases hal with rfl | rfl <;> rfl) (by rcases hal with rfl | rfl <;> rfl) (fun b' hb' => (hset.2 b' hb').trans (hheq b')) fun hx => by
              obtain ⟨h0, hlt, r', b'', g1, g2, g3⟩ := hI.objs nm _ (hget_some ho (by simp))
              obtain ⟨q0, q1, q2, b3, es3, q3, q4, q5⟩ := hI.objs mn _ (hget_some hm (by simp))
              refine ⟨h0, hx.num mn hlt, r, b, hblk, ?_, fun _ => ?_⟩
              · rw [← e1]
                have : (⟨seen ++ [e.born]⟩ : Array Nat) = (⟨seen⟩ : Array Nat).push e.born := by apply Array.ext'; simp
                rw [this]; exact hset.1
              · have g3 := g3 q0
                have g1 : (loc nm).blk = some (r', 0) := g1
                rw [hblk] at g1; cases g1
                have g2 : w.heap[r]? = _ := g2
                rw [hr] at g2; cases g2
                exact g3
          refine ⟨_, _, hrun, _, _, _, _, h2, hw.1, .tup _ _ (.cons _ _ _ _ (.val _ trivial) (.cons _ _ _ _ ?_ (.cons _ _ _ _ ?_ .nil))), hw.2⟩
          · rw [e2]; exact .val _ e3
          · exact (one_rel (E := envOf G H loc ver w) ⟨e.val, trivial⟩ e4).ext hw.2
      · exact h.elim
    · exact h.elim
  · exact h.elim
theorem entry_sound (hI : Inv G H loc ver w) {x : SV} {p : Value} {K : SV → Prop} (h : entryOp H x K) (hx : Rel (envOf G H loc ver w) x p) :
    ∃ v s, (Instr.entry p).run P w = .ok v w ∧ K s ∧ Rel (envOf G H loc ver w) s v := by
  unfold entryOp at h
  split at h
  · rename_i nm
    split at h
    · rename_i mn since seen c0 ho
      split at h
      · rename_i k ty m hm
        obtain ⟨hwf, r, b, es, hblk, rfl, hr, hb, hE⟩ := mit_at hI ho hm hx
        obtain ⟨hc, ⟨e, ⟨he, hl⟩, hK⟩⟩ := h
        subst hc
        obtain ⟨f, hf, e1, e2, e3, e4⟩ := hE.mem' e he
        have hn : ((⟨es⟩ : Array MapEntry).toList.map (·.born)).Nodup := by
          show (es.map (·.born)).Nodup
          rw [hE.borns]
          exact List.pairwise_map.2 hwf.times
        have hne : seen ≠ [] := by rintro rfl; cases hl
        obtain ⟨s, rfl⟩ : ∃ s, seen = s ++ [e.1] := ⟨seen.dropLast, by
          rw [List.getLast?_eq_some_getLast hne] at hl
          have hl := Option.some.inj hl
          rw [← hl]
          exact (List.dropLast_concat_getLast hne).symm⟩
        have hpush : (⟨s ++ [e.1]⟩ : Array Nat) = (⟨s⟩ : Array Nat).push f.born := by apply Array.ext'; simp [e1]
        rw [hpush] at hr
        have hrun := run_entry_at (P := P) w r b since ⟨s⟩ ⟨es⟩ m.clock f hr hb (by simpa using hf) hn
        have h2 := hnf_use (e4.giv (giv_use hK e3))
        refine ⟨_, _, hrun, h2, .tup _ _ (.cons _ _ _ _ ?_ (.cons _ _ _ _ (one_rel (E := envOf G H loc ver w) ⟨f.val, trivial⟩ e4) .nil))⟩
        rw [e2]; exact .val _ e3
      · exact h.elim
    · exact h.elim
  · exact h.elim
theorem mapLen_sound (hI : Inv G H loc ver w) {x : SV} {p : Value} {K : SV → Prop} (h : mapLenOp H x K) (hx : Rel (envOf G H loc ver w) x p) {t : TypeId} {k e : TypeId} (hu : P.underlying t = some (.map k e)) {ts : Array TypeId} {ty' : TypeId} (hts : ts[0]? = some t) :
    ∃ v s, (Builtin.len_ ts ty' #[p]).run P w = .ok v w ∧ K s ∧ Rel (envOf G H loc ver w) s v := by
  unfold mapLenOp at h
  split at h
  · rename_i nm
    split at h
    · rename_i k' ty m ho
      obtain ⟨hwf, hlen, b, es, hblk, rfl, hheap, hE⟩ := map_at hI ho hx
      have hl : m.es.length ≤ 140737488355328 := hlen
      refine ⟨_, _, ?_, h.go hl, .val (.int .i64 m.es.length) ⟨by simp [lo] <;> omega, by simp [hi] <;> omega⟩⟩
      simp [Builtin.len_, hts, run_underlying hu, MapKept.run_getObj_map hheap, Result.andThen, goInt, hE.length]
    · exact h.elim
  · exact h.elim
end
end Go.Eng
