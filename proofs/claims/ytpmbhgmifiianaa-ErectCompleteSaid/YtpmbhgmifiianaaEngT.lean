/-
  From a function's contract to the call that a statement speaks of: arguments that read as data are symbolic values.
-/
import Derived.Test.YtpmbhgmifiianaaEngO
import Derived.SizedLaws
import Derived.OpenShut
import Derived.DataReads
import Derived.Below
set_option linter.unusedVariables false
namespace Go.Eng
theorem wf_in {k : IntKind} {n : Int} (h : (Lit.int k n).wf = true) : inK k n := by
  cases k <;> simp [Lit.wf, IntKind.min, IntKind.max, IntKind.bits, IntKind.signed] at h <;> simp only [inK, lo, hi] <;> omega
theorem rel_int {E : Env} {k : IntKind} {n : Int} (h : (Lit.int k n).wf = true) : Rel E (.val (.int k n)) (.int k n) := .val _ (wf_in h)
theorem rel_bool {E : Env} (b : Bool) : Rel E (.val (.bool b)) (.bool b) := .val _ trivial
theorem cell_lt {w : World} {a : Addr} {v : Value} (h : w.cell? a = some v) : a.block < w.heap.size := by
  refine Classical.byContradiction fun hn => ?_
  unfold World.cell? at h
  rw [Array.getElem?_eq_none (by omega)] at h
  simp at h
theorem weightsAll_mem {H : Type} {P : Program} {e : TypeId} : ∀ {l : List (DataW H)} {d : DataW H}, d ∈ l → ∀ n ∈ d.weights P e, n ∈ DataW.weightsAll P e l
  | [], _, h, _, _ => by cases h
  | x :: l, d, h, n, hn => by
    simp only [DataW.weightsAll, List.mem_append]
    rcases List.mem_cons.1 h with rfl | h
    · exact .inl hn
    · exact .inr (weightsAll_mem h n hn)
/-- Whether the data of a type lie as their code says. -/
def okTy (P : Program) : Nat → TypeId → Bool
  | 0, _ => false
  | n + 1, t => match P.underlying t with
    | some (.int _) => true
    | some .bool => true
    | some .string => true
    | some (.slice e) => (match tyOf P n e with
      | some ty => Nat.beq (P.cellsOf e) ty.size && (Nat.blt 0 ty.size && (Nat.blt 0 (P.bytesOf e) && okTy P n e))
      | none => false)
    | some (.struct fs) => okF P n fs.toList 0 && (match tyOf.flds P n fs.toList with
      | some ty => Nat.beq (P.cellsOf t) ty.size
      | none => false)
    | _ => false
where okF (P : Program) : Nat → List Field → Nat → Bool
  | 0, _, _ => false
  | _ + 1, [], _ => false
  | n + 1, f :: r, o => Nat.beq f.offset o && ((match tyOf P n f.type with
      | some ty => Nat.beq (P.cellsOf f.type) ty.size
      | none => false) && (okTy P n f.type && (match r with
        | [] => true
        | g :: r => okF P n (g :: r) (o + P.cellsOf f.type))))
theorem addr_add (b o k : Nat) : (⟨b, o, none⟩ : Addr).add k = ⟨b, o + k, none⟩ := by unfold Addr.add; split <;> simp_all
section
variable {H : Type} {enc : TypeId × Value → H} {P : Program} {w : World} {base : Nat} {spare : Nat → Bool} {held : Bool}
def RD (H : Type) (enc : TypeId × Value → H) (P : Program) (w : World) (base : Nat) (spare : Nat → Bool) (held : Bool) (n : Nat) : Prop := ∀ (t : TypeId) (ty : Ty), tyOf P n t = some ty → okTy P n t = true → ∀ (fuel : Nat) (cs : List Value) (x : DataW H × List MemPlace),
  DataW.trod enc P w base spare held fuel t cs = some x → (∀ m ∈ x.1.weights P t, m ≤ reachBytes) → ∃ v : ty.T, Reads w (fun b => b < w.heap.size) ty v cs
theorem fields_read (n : Nat) (ih : ∀ k, k < n → RD H enc P w base spare held k) : ∀ (k : Nat), k ≤ n → ∀ (l : List Field) (o : Nat) (ty : Ty), tyOf.flds P k l = some ty → okTy.okF P k l o = true → ∀ (fuel : Nat) (cs : List Value) (ys : List (DataW H × List MemPlace)),
    (∀ (i : Nat) (f : Field), l[i]? = some f → ∃ y, ys[i]? = some y ∧ DataW.trod enc P w base spare held fuel f.type ((cs.drop f.offset).take (P.cellsOf f.type)) = some y ∧ ∀ m ∈ y.1.weights P f.type, m ≤ reachBytes) →
    ∃ v : ty.T, Reads w (fun b => b < w.heap.size) ty v ((cs.drop o).take ty.size)
  | 0, _, l, o, ty, h1, _, _, _, _, _ => by cases l <;> simp [tyOf.flds] at h1
  | k + 1, hk, [], o, ty, h1, _, _, _, _, _ => by simp [tyOf.flds] at h1
  | k + 1, hk, [f], o, ty, h1, h2, fuel, cs, ys, h3 => by
    simp only [tyOf.flds] at h1
    simp only [okTy.okF, h1, Bool.and_eq_true, beq_iff] at h2
    obtain ⟨rfl, e2, e3, _⟩ := h2
    obtain ⟨y, _, h4, h5⟩ := h3 0 f rfl
    rw [← e2]
    exact ih k (by omega) _ _ h1 e3 fuel _ y h4 h5
  | k + 1, hk, f :: g :: r, o, ty, h1, h2, fuel, cs, ys, h3 => by
    simp only [tyOf.flds] at h1
    split at h1
    · rename_i a b ha hb
      cases h1
      simp only [okTy.okF, ha, Bool.and_eq_true, beq_iff] at h2
      obtain ⟨rfl, e2, e3, e4⟩ := h2
      obtain ⟨y, _, h4, h5⟩ := h3 0 f rfl
      obtain ⟨v1, hv1⟩ := ih k (by omega) _ _ ha e3 fuel _ y h4 h5
      obtain ⟨v2, hv2⟩ := fields_read n ih k (by omega) (g :: r) (f.offset + P.cellsOf f.type) b hb e4 fuel cs ys.tail (fun i f' hf => by
        obtain ⟨y, q1, q2⟩ := h3 (i + 1) f' (by simpa using hf)
        exact ⟨y, by rw [List.getElem?_tail]; exact q1, q2⟩)
      rw [e2] at hv1 hv2
      refine ⟨(v1, v2), (cs.drop f.offset).take a.size, (cs.drop (f.offset + a.size)).take b.size, ?_, hv1, hv2⟩
      simp only [Ty.size]
      rw [List.take_add, List.drop_drop]
    · cases h1
theorem all_read : ∀ n, RD H enc P w base spare held n
  | 0 => fun t ty h => by simp [tyOf] at h
  | n + 1 => by
    have ih : ∀ k, k < n + 1 → RD H enc P w base spare held k := fun k hk => all_read k
    intro t ty h1 h2 fuel cs x h3 h4
    simp only [tyOf] at h1
    simp only [okTy] at h2
    split at h1
    · rename_i k hu
      cases h1
      obtain ⟨m, rfl, _, hw⟩ := DataW.trod_int hu h3
      exact ⟨m, rfl, wf_in hw⟩
    · rename_i hu
      cases h1
      obtain ⟨b, rfl, _⟩ := DataW.trod_bool hu h3
      exact ⟨b, rfl⟩
    · rename_i hu
      cases h1
      obtain ⟨s, rfl, rfl, _⟩ := DataW.trod_string hu h3
      refine ⟨s.data.toList, by simp, ?_⟩
      have := h4 s.data.toList.length (by simp [DataW.weights])
      exact Nat.le_trans this (by decide)
    · rename_i e hu
      rw [hu] at h2
      simp only at h2
      cases hE : tyOf P n e with
      | none => rw [hE] at h1; simp at h1
      | some te =>
      rw [hE] at h1 h2
      simp only [Option.map_some, Option.some.injEq] at h1
      subst h1
      simp only [Bool.and_eq_true, beq_iff] at h2
      obtain ⟨e1, e2, e3, e4⟩ := h2
      have e2 : 0 < te.size := by simpa using e2
      have e3 : 0 < P.bytesOf e := by simpa using e3
      rcases DataW.trod_slice hu h3 with ⟨rfl, _⟩ | ⟨a, len, cap, elems, rest, m, rfl, rfl, rfl, hb, hl, hm, hlen, hel, hsp, hns⟩
      · exact ⟨([] : List te.T), reads_nil _ _ _⟩
      · have hbig := h4 ((elems.length + rest.length) * P.bytesOf e) (by simp [DataW.weights, hu])
        have hlen' : len ≤ maxL := by
          have h5 : elems.length + rest.length ≤ (elems.length + rest.length) * P.bytesOf e := Nat.le_mul_of_pos_right _ e3
          have h6 : reachBytes ≤ maxL := by decide
          omega
        have each : ∀ i : Nat, ∃ v : te.T, i < len → ∃ es, w.cells? base (a.add (i * P.cellsOf e)) (P.cellsOf e) = some es ∧ Reads w (fun b => b < w.heap.size) te v es := by
          intro i
          by_cases hi : i < len
          · have h5 := hel i hi
            obtain ⟨y, hy⟩ : ∃ y, elems[i]? = some y := ⟨elems[i]'(by omega), by simp [hlen, hi]⟩
            rw [hy] at h5
            cases hc : w.cells? base (a.add (i * P.cellsOf e)) (P.cellsOf e) with
            | none => rw [hc] at h5; simp at h5
            | some es =>
              rw [hc] at h5
              simp only [Option.bind_some] at h5
              obtain ⟨v, hv⟩ := ih n (Nat.lt_succ_self n) e te hE e4 m es y h5 (fun q hq => h4 q (by
                simp only [DataW.weights, hu, List.mem_cons, List.mem_append]
                exact .inr (.inl (weightsAll_mem (List.mem_map.2 ⟨y, List.mem_of_getElem? hy, rfl⟩) q hq))))
              exact ⟨v, fun _ => ⟨es, rfl, hv⟩⟩
          · exact ⟨te.dflt, fun h => absurd h hi⟩
        refine ⟨(List.range len).map fun i => (each i).choose, some a, len, cap, rfl, by simp, hl, hlen', fun h0 => ?_⟩
        obtain ⟨es0, hc0, hr0⟩ := (each 0).choose_spec h0
        have hlt : a.block < w.heap.size := by
          have := World.cells?_block hc0 (by omega)
          simpa [Addr.add] using this
        have hspot : a.spot = none := by
          obtain ⟨_, _, hg⟩ := World.cells?_some hc0
          have h6 := hg 0 (by omega)
          obtain ⟨v0, hv0⟩ : ∃ v0, es0[0]? = some v0 := by
            cases es0 with
            | nil => have := hr0.length; simp at this; omega
            | cons v _ => exact ⟨v, rfl⟩
          rw [hv0] at h6
          have := World.cell?_spot h6
          simpa [Addr.add] using this
        obtain ⟨b, off, spot⟩ := a
        simp only at hspot hlt
        subst hspot
        refine ⟨b, off, rfl, hlt, fun i hi => ?_⟩
        obtain ⟨es, hc, hr⟩ := (each i).choose_spec hi
        obtain ⟨_, hlen2, hg⟩ := World.cells?_some hc
        refine ⟨es, by rw [hr.length], fun j v hj => ?_, ?_⟩
        · have hj' : j < es.length := (List.getElem?_eq_some_iff.1 hj).1
          have h6 := hg j (by omega)
          rw [hj] at h6
          rw [addr_add, addr_add] at h6
          rw [← e1]
          exact h6
        · have : List.getD (α := te.T) ((List.range len).map fun i => (each i).choose) i te.dflt = (each i).choose := by
            simp [List.getD_eq_getElem?_getD, hi]
          rw [this]; exact hr
    · rename_i fs hu
      rw [hu] at h2
      simp only [Bool.and_eq_true] at h2
      obtain ⟨e1, e2⟩ := h2
      rw [h1] at e2
      have e2 := beq_iff.1 e2
      obtain ⟨xs, m, rfl, rfl, hlen, hxl, hall⟩ := DataW.trod_struct hu h3
      obtain ⟨v, hv⟩ := fields_read n (fun k hk => ih k (by omega)) n (Nat.le_refl _) fs.toList 0 ty h1 e1 m cs xs (fun i f hf => by
        have hf' : fs[i]? = some f := by simpa using hf
        have h5 := hall i f hf'
        have hi : i < xs.length := by rw [hxl]; exact (Array.getElem?_eq_some_iff.1 hf').1
        refine ⟨xs[i], by simp [hi], by rw [h5]; simp [hi], fun q hq => h4 q ?_⟩
        simp only [DataW.weights, hu]
        exact DataW.weights_mem_each (j := i) (t := f.type) (d := xs[i].1) (by simp [hf']) (by simp [hi]) q hq)
      refine ⟨v, ?_⟩
      rw [List.drop_zero, List.take_of_length_le (by omega)] at hv
      exact hv
    · cases h1
end
/-- What is known of a datum that came in. -/
def Okd : (t : Ty) → t.T → Prop
  | .int k, n => inK k n
  | .bool, _ => True
  | .str, s => List.length (α := UInt8) s ≤ maxL
  | .pair a b, x => Okd a x.1 ∧ Okd b x.2
  | .slice t, xs => List.length (α := t.T) xs ≤ maxL ∧ ∀ i, i < List.length (α := t.T) xs → Okd t (List.getD (α := t.T) xs i t.dflt)
theorem Reads.okd {w : World} {ok : Nat → Prop} {t : Ty} {x : t.T} {cs : List Value} (h : Reads w ok t x cs) : Okd t x := by
  induction t generalizing cs with
  | int k => exact h.2
  | bool => trivial
  | str => exact h.2
  | pair a b iha ihb => obtain ⟨c1, c2, rfl, h1, h2⟩ := h; exact ⟨iha h1, ihb h2⟩
  | slice t ih =>
    obtain ⟨a, n, c, rfl, hn, _, hm, hall⟩ := h
    have hn' : n = List.length (α := t.T) x := hn
    refine ⟨by omega, fun i hi => ?_⟩
    obtain ⟨b, off, _, _, hel⟩ := hall (by omega)
    obtain ⟨es, _, _, hr⟩ := hel i (by omega)
    exact ih hr
section
variable {H : Type} {enc : TypeId × Value → H} {P : Program} {w : World} {base b0 : Nat} {spare : Nat → Bool} {held : Bool} {r : Reach} {t : TypeId} {v : Value} {d : DataW H} {ps : List MemPlace}
theorem arg_int {k : IntKind} (ht : P.underlying t = some (.int k)) (hval : Value.okWide P w r b0 t v) (hd : DataW.Trod enc P w base spare held t v d ps) : ∃ n : Int, inK k n ∧ Rel (env0 w fun b => b < w.heap.size) (.val (.int k n)) v := by
  obtain ⟨n, rfl, _, _, hw⟩ := ChangeShapes.open_int ht hval hd
  exact ⟨n, wf_in hw, rel_int hw⟩
theorem arg_bool (ht : P.underlying t = some .bool) (hval : Value.okWide P w r b0 t v) (hd : DataW.Trod enc P w base spare held t v d ps) : ∃ b : Bool, Rel (env0 w fun b => b < w.heap.size) (.val (.bool b)) v := by
  obtain ⟨b, rfl, _⟩ := RowKit.open_bool ht hval hd
  exact ⟨b, rel_bool b⟩
theorem arg_str (ht : P.underlying t = some .string) (hval : Value.okWide P w r b0 t v) (hd : DataW.Trod enc P w base spare held t v d ps) (hw : ∀ m ∈ d.weights P t, m ≤ reachBytes) : ∃ s : List UInt8, s.length ≤ maxL ∧ Rel (env0 w fun b => b < w.heap.size) (.str s) v := by
  obtain ⟨s, rfl, rfl, _, hs⟩ := ChangeMaps.open_string ht hval hd
  have h1 : s.data.toList.length ≤ maxL := Nat.le_trans (hw s.data.toList.length (by simp [DataW.weights])) (by decide)
  refine ⟨s.data.toList, h1, ?_⟩
  have := Rel.str (E := env0 w fun b => b < w.heap.size) s.data.toList h1
  simpa using this
theorem arg_slice {e : TypeId} {n : Nat} {ty : Ty} (ht : P.underlying t = some (.slice e)) (hval : Value.okWide P w r b0 t v) (hd : DataW.Trod enc P w base spare held t v d ps) (h1 : tyOf P n t = some (.slice ty)) (h2 : okTy P n t = true)
    (hw : ∀ m ∈ d.weights P t, m ≤ reachBytes) : ∃ xs : List ty.T, Okd (.slice ty) xs ∧ Rel (env0 w fun b => b < w.heap.size) (.seq ty xs) v := by
  obtain ⟨a, len, cap, rfl⟩ := WideShapes.okWide_slice ht hval
  obtain ⟨fuel, hf⟩ := hd
  obtain ⟨xs, hx⟩ := all_read n t _ h1 h2 fuel _ _ hf hw
  refine ⟨xs, hx.okd, .seq _ _ _ ?_⟩
  have e : (Value.slice a len cap).cells.toList = [.slice a len cap] := by simp [Value.cells]
  rw [e] at hx
  exact hx
theorem weight_of {ts : List TypeId} {ds : List (DataW H)} (h : (DataW.weightsEach P ts ds).all (· ≤ reachBytes) = true) (j : Nat) (ht : ts[j]? = some t) (hd : ds[j]? = some d) : ∀ m ∈ d.weights P t, m ≤ reachBytes :=
  fun m hm => by simpa using List.all_eq_true.1 h m (DataW.weights_mem_each ht hd m hm)
end
open Go.RowKit in
theorem law_calls {P : Program} {fresh : Bool} {f : FuncId} {args : List SV} (h : Tri P fresh f args (.val (.bool true))) (w : World) (vs : List Value) (hr : RelL (env0 w fun b => b < w.heap.size) args vs) :
    Calls P f ⟨vs⟩ w fun e w' => e = .returned (.bool true) ∧ Below w.heap.size w w' := by
  refine (h (fun b => b < w.heap.size) w vs (fun _ h => h) hr).mono ?_
  rintro e w' ⟨v, rfl, hb, hv⟩
  cases hv
  exact ⟨rfl, hb⟩
end Go.Eng
