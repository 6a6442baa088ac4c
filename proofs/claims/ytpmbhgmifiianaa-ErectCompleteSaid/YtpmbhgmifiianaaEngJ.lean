/-
  Contracts, calls, and the soundness of one operation.
-/
import Derived.Test.YtpmbhgmifiianaaEngI
set_option linter.unusedSimpArgs false
set_option linter.unusedVariables false
namespace Go.Eng
open Go.RowKit

mutual
theorem Rel.bare {E E' : Env} (hc : ∀ a v, E.ok a.block → E.w.cell? a = some v → E'.w.cell? a = some v) (hk : ∀ b, E.ok b → E'.ok b) {s : SV} {v : Value} (h : Rel E s v) (hb : Eng.bare s = true) : Rel E' s v := by
  cases h with
  | any => exact .any v
  | val _ h => exact .val v h
  | bl p d => exact .bl p d
  | str s h => exact .str s h
  | seq t xs _ h => exact .seq t xs v (h.mono hc hk)
  | lit es n b off l vs hl hn hok hr => exact .lit es n b off l vs (hl.bare hc hk (by simpa [Eng.bare] using hb)) hn (hk _ hok) (fun j v hj => hc _ v hok (hr j v hj))
  | elem t xs i o b off es hi hok hr h => exact .elem t xs i o b off es hi (hk _ hok) (fun j v hj => hc _ v hok (hr j v hj)) (h.mono hc hk)
  | lelem l i b off vs hl hok hr => exact .lelem l i b off vs (hl.bare hc hk (by simpa [Eng.bare] using hb)) (hk _ hok) (fun j v hj => hc _ v hok (hr j v hj))
  | ptr => simp [Eng.bare] at hb
  | ref => simp [Eng.bare] at hb
  | vptr => simp [Eng.bare] at hb
  | wide => simp [Eng.bare] at hb
  | agg l vs hl => exact .agg l vs (hl.bare hc hk (by simpa [Eng.bare] using hb))
  | tup l vs hl => exact .tup l vs (hl.bare hc hk (by simpa [Eng.bare] using hb))
  | clo f a b va vb ha hb' =>
    simp only [Eng.bare, Bool.and_eq_true] at hb
    exact .clo f a b va vb (ha.bare hc hk hb.1) (hb'.bare hc hk hb.2)
  | yld => simp [Eng.bare] at hb
  | mp => simp [Eng.bare] at hb
  | sub => simp [Eng.bare] at hb
  | subp => simp [Eng.bare] at hb
theorem RelL.bare {E E' : Env} (hc : ∀ a v, E.ok a.block → E.w.cell? a = some v → E'.w.cell? a = some v) (hk : ∀ b, E.ok b → E'.ok b) {l : List SV} {vs : List Value} (h : RelL E l vs) (hb : Eng.bare.bareL l = true) : RelL E' l vs := by
  cases h with
  | nil => exact .nil
  | cons s v l vs h hl =>
    simp only [Eng.bare.bareL, Bool.and_eq_true] at hb
    exact .cons s v l vs (h.bare hc hk hb.1) (hl.bare hc hk hb.2)
end

/-- The call of a function leads into its body. -/
def Enters (P : Program) (f : FuncId) : Prop := ∀ args w, (callFunc f args).run P w = .ok (.enter f args) w
/-- An environment without names. -/
def env0 (w : World) (ok : Nat → Prop) : Env := ⟨w, ok, fun _ => false, fun _ => mkL none 0 0, fun _ => 0, fun _ _ => False, fun _ => False, itr0⟩
/-- WHAT A FUNCTION DOES: called with values that are 'args' it returns one that is 'r'; nothing that was there has turned. -/
def Tri (P : Program) (fresh : Bool) (f : FuncId) (args : List SV) (r : SV) : Prop :=
  ∀ (ok : Nat → Prop) (w : World) (vs : List Value), (∀ b, ok b → b < w.heap.size) → RelL (env0 w ok) args vs →
    Calls P f ⟨vs⟩ w fun e w' => ∃ v, e = .returned v ∧ Below w.heap.size w w' ∧ Rel (env0 w' fun b => (fresh = false ∧ ok b) ∨ (w.heap.size ≤ b ∧ b < w'.heap.size)) r v
/-- What a round keeps. -/
structure Kept (S : Nat → Prop) (w w' : World) : Prop where
  os : w'.os = w.os
  tape : w'.tape = w.tape
  output : w'.output = w.output
  size : w.heap.size ≤ w'.heap.size
  blk : ∀ b, S b → b < w.heap.size → w'.heap[b]? = w.heap[b]?
/-- WHAT AN ITERATOR DOES: it asks for a round for each of its items, one after the other, until it has come to their end or a round has been left. -/
def TriI (P : Program) (f : FuncId) (args : List SV) (n : Nat) (items : Nat → List SV) : Prop :=
  ∀ (ok : Nat → Prop) (w : World) (vs : List Value) (l : Nat) (J : Option Nat → (Nat → Prop) → World → Prop), (∀ b, ok b → b < w.heap.size) → RelL (env0 w ok) args vs →
    (∀ st M W W', J st M W → W'.os = W.os → W'.tape = W.tape → W'.output = W.output → W.heap.size ≤ W'.heap.size →
      (∀ b, b < W.heap.size → ¬ M b → W'.heap[b]? = W.heap[b]?) → J st (fun b => M b ∨ (W.heap.size ≤ b ∧ b < W'.heap.size)) W') →
    (∀ k M W us, k < n → J (some k) M W → RelL (env0 W fun _ => False) (items k) us →
      YieldAt Fence.wide 0 P l ⟨us⟩ W fun e W' => ∃ b, e = .returned (.bool b) ∧ J (if b = true then some (k + 1) else none) M W' ∧ Kept (fun c => ok c ∨ M c) W W') →
    J (some 0) (fun _ => False) w →
    Calls P f ⟨.func (.yield l) #[] #[] :: vs⟩ w fun e w' => (∃ v, e = .returned v) ∧ ∃ M, J (some n) M w' ∨ J none M w'
def Tris (P : Program) (fresh : Bool) (f : FuncId) (args : List SV) (r : SV) : Prop :=
  match r with
  | .itr n items => TriI P f args n items
  | r => Tri P fresh f args r
/-- An owned row of plain data. -/
def RowS (w : World) (L : Loc) (t : Ty) (xs : List t.T) (e : TypeId) : Prop :=
  L.len = List.length (α := t.T) xs ∧ L.len ≤ maxL ∧ ∃ vs, w.ownsRow 0 e t.size L.head L.len vs ∧ ∀ i, i < L.len → Reads w (fun _ => False) t (List.getD (α := t.T) xs i t.dflt) ((vs.drop (i * t.size)).take t.size)
/-- WHAT A FUNCTION DOES THAT TURNS A VECTOR OF ITS CALLER'S. -/
def LTri (P : Program) (f : FuncId) (pos : Nat) (same : Bool) (args : List SV) (t : Ty) (xs : List t.T) (e : TypeId) (r : SV) (ys : List t.T) : Prop :=
  ∀ (ok : Nat → Prop) (w : World) (vs : List Value) (L : Loc), (∀ b, ok b → b < w.heap.size ∧ L.blk.map (·.1) ≠ some b) → (∀ b, L.blk.map (·.1) = some b → b < w.heap.size) → RowS w L t xs e → RelL (env0 w ok) args vs → vs[pos]? = some L.head →
    Calls P f ⟨vs⟩ w fun en w' => ∃ v L', en = .returned v ∧ (w'.os = w.os ∧ w'.tape = w.tape ∧ w'.output = w.output ∧ w.heap.size ≤ w'.heap.size ∧ ∀ b, b < w.heap.size → L.blk.map (·.1) ≠ some b → w'.heap[b]? = w.heap[b]?) ∧
      (same = true → L' = L) ∧ (∀ b, L'.blk.map (·.1) = some b → L.blk.map (·.1) = some b ∨ w.heap.size ≤ b) ∧ RowS w' L' t ys e ∧ ((r = .ref 0 1 ∧ v = L'.head) ∨ (plain r = true ∧ Rel (env0 w' fun _ => False) r v))
def LinOK (P : Program) (f : FuncId) (pos : Nat) (same : Bool) (cl : List SV → HO → (SV → HO → Prop) → Prop) : Prop :=
  ∀ args t xs e K, t.flat = true → cl args (.vec 1 t xs e) K → ∃ r ys, K r (.vec 1 t ys e) ∧ LTri P f pos same args t xs e r ys
/-- An environment with one owned vector. -/
def envO (w : World) (L : Loc) : Env := ⟨w, fun _ => False, fun n => Nat.beq n 0, fun _ => L, fun _ => 1, fun _ _ => False, fun _ => False, itr0⟩
/-- WHAT A FUNCTION DOES THAT HANDS BACK A NEW VECTOR. -/
def OTri (P : Program) (f : FuncId) (args : List SV) (r : SV) (t : Ty) (ys : List t.T) (e : TypeId) : Prop :=
  ∀ (ok : Nat → Prop) (w : World) (vs : List Value), (∀ b, ok b → b < w.heap.size) → RelL (env0 w ok) args vs →
    Calls P f ⟨vs⟩ w fun en w' => ∃ v L', en = .returned v ∧ Below w.heap.size w w' ∧ (∀ b, L'.blk.map (·.1) = some b → w.heap.size ≤ b) ∧ RowS w' L' t ys e ∧ Rel (envO w' L') r v
def OwnOK (P : Program) (f : FuncId) (cl : List SV → (SV → HO → Prop) → Prop) : Prop :=
  ∀ args K, cl args K → ∃ r k t ys e, K r (.vec k t ys e) ∧ (t.flat = true → OTri P f args r t ys e)
def ConOK (P : Program) (c : Con) : Prop := Enters P c.f ∧ (∀ args K, c.cl args K → ∃ r, K r ∧ Tris P c.fresh c.f args r) ∧ (∀ pos same cl, c.lin = some (pos, same, cl) → LinOK P c.f pos same cl) ∧ ∀ cl, c.own = some cl → OwnOK P c.f cl
theorem conOK_of {P : Program} {c : Con} (hl : (c.lin, c.own) = (none, none)) (he : Enters P c.f) (h : ∀ args K, c.cl args K → ∃ r, K r ∧ Tris P c.fresh c.f args r) : ConOK P c :=
  ⟨he, h, (fun _ _ _ e => by rw [(Prod.mk.inj hl).1] at e; cases e), (fun _ e => by rw [(Prod.mk.inj hl).2] at e; cases e)⟩
theorem linOK_of {P : Program} {f : FuncId} {pos : Nat} {same : Bool} {cl : List SV → HO → (SV → HO → Prop) → Prop} (he : Enters P f) (h : LinOK P f pos same cl) : ConOK P (linCon f pos same cl) :=
  ⟨he, fun _ _ h => h.elim, (fun _ _ _ e => by cases e; exact h), (fun _ e => by cases e)⟩
theorem ownOK_of {P : Program} {f : FuncId} {cl : List SV → (SV → HO → Prop) → Prop} (he : Enters P f) (h : OwnOK P f cl) : ConOK P (ownCon f cl) :=
  ⟨he, fun _ _ h => h.elim, (fun _ _ _ e => by cases e), (fun _ e => by cases e; exact h)⟩
theorem Tris.tri {P : Program} {fresh : Bool} {f : FuncId} {args : List SV} {r : SV} (h : Tris P fresh f args r) (hb : Eng.bare r = true) : Tri P fresh f args r := by
  cases r with
  | itr n i => simp [Eng.bare] at hb
  | _ => exact h

section
variable {P : Program} {G : Ctx} {H : List HO} {loc : Nat → Loc} {ver : Nat → Nat} {w : World}

/-- The environment in which all that lies there may be read. -/
def envL (G : Ctx) (H : List HO) (loc : Nat → Loc) (ver : Nat → Nat) (w : World) : Env := ⟨w, fun b => b < w.heap.size, hasB H, loc, ver, ghoN H loc, aliN H loc, G.itr⟩
theorem ext_L : Ext (envOf G H loc ver w) (envL G H loc ver w) := ⟨⟨fun _ _ => rfl, fun _ h => h.2.1, fun _ h => h, fun _ _ => .inl ⟨rfl, rfl⟩, rfl, rfl, rfl, Nat.le_refl _, fun _ h => .inl h, rfl, fun _ _ _ => .inl rfl⟩, fun _ _ _ h _ => h, fun _ _ h => ⟨h, rfl⟩, fun _ _ _ h => h⟩
theorem vec_reads {E : Env} {ok : Nat → Prop} {L : Loc} {v k : Nat} {t : Ty} {xs : List t.T} {e : TypeId} (h : OSat E L v (.vec k t xs e)) (hk : ∀ b, E.ok b → ok b) (hb : ∀ b, L.blk.map (·.1) = some b → ok b) : Reads E.w ok (.slice t) xs [L.head] := by
  obtain ⟨_, _, hlen, hmax, vs, hown, hel⟩ := h
  rcases own_cases hown with ⟨e1, e2, e3, e4⟩ | ⟨g, cur, e1, e2, e3, e4, e5, e6, e7⟩
  · exact ⟨none, 0, 0, by simp [Core.head, e1, e2, e3], by omega, Nat.le_refl _, Nat.zero_le _, fun h => absurd h (Nat.lt_irrefl _)⟩
  · refine ⟨some ⟨g, 0, none⟩, L.len, L.cap, by simp [Core.head, e1], hlen, e4, hmax, fun h0 => ⟨g, 0, rfl, hb g (by simp [e1]), fun i hi => ⟨_, (hel i hi).length, ?_, (hel i hi).mono (fun _ _ _ h => h) hk⟩⟩⟩
    intro j v hj
    rw [List.getElem?_take] at hj
    split at hj
    · rw [List.getElem?_drop, ← e7, List.getElem?_take] at hj
      split at hj
      · simp only [World.cell?, e3]
        simpa using hj
      · cases hj
    · cases hj
theorem view_ref_lend (hI : Inv G H loc ver w) {nm k : Nat} {v : Value} (h : Rel (envOf G H loc ver w) (.ref nm k) v) : Rel (envL G H loc ver w) (view true H (.ref nm k)) v := by
  have h0 := h
  simp only [view]
  cases h with
  | ref _ _ _ hn hk0 hk hv =>
    cases ho : hget H nm with
    | vec j t xs e =>
      simp only [Bool.true_and]
      cases hb : Nat.beq j k with
      | false => exact .any v
      | true =>
        obtain rfl := beq_iff.1 hb
        have hO := hI.objs nm _ (hget_some ho (by simp))
        have := hv hO.1.symm
        subst this
        have hrd := vec_reads (E := envOf G H loc ver w) (ok := fun b => b < w.heap.size) hO (fun b hb => hb.2.1) fun b hb => hO.block (b := b) hb
        exact .seq t xs _ hrd
    | fro j t xs =>
      simp only
      cases hb : Nat.beq j k with
      | false => exact .any v
      | true =>
        obtain rfl := beq_iff.1 hb
        have hO := hI.objs nm _ (hget_some ho (by simp))
        have := hv hO.1.symm
        subst this
        exact .seq t xs _ (hO.2.2.mono (fun _ _ _ h => h) fun b hb => hb.2.1)
    | _ => exact .any v
theorem view_ref_fro (hI : Inv G H loc ver w) {nm k : Nat} {v : Value} (h : Rel (envOf G H loc ver w) (.ref nm k) v) : Rel (envOf G H loc ver w) (view false H (.ref nm k)) v := by
  simp only [view]
  cases h with
  | ref _ _ _ hn hk0 hk hv =>
    cases ho : hget H nm with
    | vec j t xs e => exact .any v
    | fro j t xs =>
      simp only
      cases hb : Nat.beq j k with
      | false => exact .any v
      | true =>
        obtain rfl := beq_iff.1 hb
        have hO := hI.objs nm _ (hget_some ho (by simp))
        have := hv hO.1.symm
        subst this
        exact .seq t xs _ hO.2.2
    | _ => exact .any v
theorem view_ptr (hI : Inv G H loc ver w) {lend : Bool} {nm off : Nat} {v : Value} (h : Rel (envOf G H loc ver w) (.ptr nm off) v) : Rel (envOf G H loc ver w) (view lend H (.ptr nm off)) v := by
  simp only [view]
  split
  · rename_i l ho
    obtain ⟨h0, b, vs, h1, h2, h3, h4⟩ := hI.objs nm _ (hget_some ho (by simp))
    cases h with
    | ptr _ _ _ hn hv =>
      obtain ⟨b', h5, rfl⟩ := hv h0
      have h5' : (loc nm).blk = some (b', 0) := h5
      rw [h1] at h5'; cases h5'
      have := Rel.lelem (E := envOf G H loc ver w) l off b 0 vs h4 h2 h3
      rwa [Nat.zero_add] at this
  · exact h
theorem view_rel {E E' : Env} {lend : Bool} (x : Ext E E') (hp : ∀ nm k v, Rel E (.ptr nm k) v → Rel E' (view lend H (.ptr nm k)) v) (hv : ∀ nm k v, Rel E (.ref nm k) v → Rel E' (view lend H (.ref nm k)) v) {s : SV} {v : Value} (h : Rel E s v) : Rel E' (view lend H s) v := by
  cases s with
  | ref nm k => exact hv nm k v h
  | ptr nm k => exact hp nm k v h
  | _ => exact h.ext x
theorem views_rel {E E' : Env} {lend : Bool} (x : Ext E E') (hp : ∀ nm k v, Rel E (.ptr nm k) v → Rel E' (view lend H (.ptr nm k)) v) (hv : ∀ nm k v, Rel E (.ref nm k) v → Rel E' (view lend H (.ref nm k)) v) : ∀ {l : List SV} {vs : List Value}, RelL E l vs → RelL E' (l.map (view lend H)) vs
  | _, _, .nil => .nil
  | _, _, .cons _ _ _ _ h hl => .cons _ _ _ _ (view_rel x hp hv h) (views_rel x hp hv hl)
theorem viewT_rel {E E' : Env} {lend : Bool} (x : Ext E E') (hp : ∀ nm k v, Rel E (.ptr nm k) v → Rel E' (view lend H (.ptr nm k)) v) (hv : ∀ nm k v, Rel E (.ref nm k) v → Rel E' (view lend H (.ref nm k)) v) : ∀ {l : List SV} {vs : List Value}, RelL E l vs →
    RelL E' (l.map fun s => match s with
      | .agg l => .agg (l.map (view lend H))
      | s => view lend H s) vs
  | _, _, .nil => .nil
  | _, _, .cons s v l vs h hl => by
    refine .cons _ _ _ _ ?_ (viewT_rel x hp hv hl)
    cases s with
    | agg l => cases h with
      | agg _ vs hl => exact .agg _ _ (views_rel x hp hv hl)
    | _ => exact view_rel x hp hv h
theorem viewD_rel {E E' : Env} {lend : Bool} (x : Ext E E') (hp : ∀ nm k v, Rel E (.ptr nm k) v → Rel E' (view lend H (.ptr nm k)) v) (hv : ∀ nm k v, Rel E (.ref nm k) v → Rel E' (view lend H (.ref nm k)) v) {s : SV} {v : Value} (h : Rel E s v) : Rel E' (viewD lend H s) v := by
  cases h with
  | ref nm k v hn h0 hk h => exact hv nm k v (.ref nm k v hn h0 hk h)
  | ptr nm off v hn h => exact hp nm off v (.ptr nm off v hn h)
  | agg l vs hl => exact .agg _ _ (views_rel x hp hv hl)
  | tup l vs hl => exact .tup _ _ (viewT_rel x hp hv hl)
  | any => exact .any v
  | val _ h => exact .val v h
  | bl p d => exact .bl p d
  | str s h => exact .str s h
  | seq t xs v h => exact (Rel.seq t xs v h).ext x
  | lit es n b off l vs hl hn hok hr => exact (Rel.lit es n b off l vs hl hn hok hr).ext x
  | elem t xs i o b off es hi hok hr h => exact (Rel.elem t xs i o b off es hi hok hr h).ext x
  | lelem l i b off vs hl hok hr => exact (Rel.lelem l i b off vs hl hok hr).ext x
  | vptr nm k i z o v hn h0 hk h => exact (Rel.vptr nm k i z o v hn h0 hk h).ext x
  | wide nm k v hn h0 hk h => exact (Rel.wide nm k v hn h0 hk h).ext x
  | clo f a b va vb ha hb => exact .clo f _ _ _ _ (views_rel x hp hv ha) (views_rel x hp hv hb)
  | yld l h => rw [← x.itr] at h ⊢; exact .yld l h
  | mp nm v hn h => exact (Rel.mp nm v hn h).ext x
  | sub nm k s i v hn h0 hk hs h => exact (Rel.sub nm k s i v hn h0 hk hs h).ext x
  | subp nm k s v hn h0 hk hs h => exact (Rel.subp nm k s v hn h0 hk hs h).ext x
theorem viewDs_rel {E E' : Env} {lend : Bool} (x : Ext E E') (hp : ∀ nm k v, Rel E (.ptr nm k) v → Rel E' (view lend H (.ptr nm k)) v) (hv : ∀ nm k v, Rel E (.ref nm k) v → Rel E' (view lend H (.ref nm k)) v) : ∀ {l : List SV} {vs : List Value}, RelL E l vs → RelL E' (l.map (viewD lend H)) vs
  | _, _, .nil => .nil
  | _, _, .cons _ _ _ _ h hl => .cons _ _ _ _ (viewD_rel x hp hv h) (viewDs_rel x hp hv hl)

/-- An owned vector may be frozen. -/
theorem freeze1 (hI : Inv G H loc ver w) {nm v : Nat} {t : Ty} {xs : List t.T} {e : TypeId} (ho : hget H nm = .vec v t xs e) :
    Inv G (hset H nm (.fro v t xs)) loc ver w ∧ Ext (envOf G H loc ver w) (envOf G (hset H nm (.fro v t xs)) loc ver w) := by
  have hn' := hget_some ho (by simp)
  have hlt : nm < H.length := (List.getElem?_eq_some_iff.1 hn').1
  refine hI.turn nm (by simp [hset]) (fun k hk => ⟨get_set_other hk, rfl, rfl⟩) (fun _ => hasB_of (get_set_same hlt) rfl) (fun _ => .inl ⟨rfl, rfl, .inl rfl⟩) (Nat.le_refl _) rfl rfl rfl (by rw [hn']; intro h; cases h) (fun _ => by first | rw [show hset H nm _ = H.set nm _ from rfl, get_set_same hlt]; intro h; cases h | rw [show hset H 0 _ = H.set 0 _ from rfl, get_set_same hlt]; intro h; cases h)
    (fun st n it b h => by rw [show hset H nm (.fro v t xs) = H.set nm _ from rfl, get_set_same hlt] at h; cases h) (fun _ _ _ => rfl) ?_ ?_
  · intro o' b ho' hb
    rw [show hset H nm (.fro v t xs) = H.set nm _ from rfl, get_set_same hlt] at ho'; cases ho'
    cases hb
  · intro hx o' ho'
    rw [show hset H nm (.fro v t xs) = H.set nm _ from rfl, get_set_same hlt] at ho'; cases ho'
    have hO := hI.objs nm _ hn'
    refine ⟨hO.1, hO.2.1, vec_reads (E := envOf G H loc ver w) (ok := okN G (hset H nm (.fro v t xs)) loc w) hO hx.ok fun b hb => ?_⟩
    have hown : Owned H loc b := ⟨nm, _, hn', hb⟩
    refine ⟨?_, hO.block (b := b) hb, ?_⟩
    · rcases hI.own b hown with h | h
      · exact .inr (.inl h)
      · exact .inr (.inr h)
    · rintro ⟨k, o, hk, hbk⟩
      by_cases ek : k = nm
      · subst ek
        rw [show hset H k (.fro v t xs) = H.set k _ from rfl, get_set_same hlt] at hk; cases hk
        cases hbk
      · rw [show hset H nm (.fro v t xs) = H.set nm _ from rfl, get_set_other ek] at hk
        exact ek (hI.sep _ _ _ _ b hk hn' hbk hb)
theorem Ext.trans {A B C : Env} (h : Ext A B) (k : Ext B C) : Ext A C := by
  refine ⟨⟨fun b ho => (k.blk b (h.ok b ho)).trans (h.blk b ho), fun b hb => k.ok b (h.ok b hb), fun nm hn => k.num nm (h.num nm hn), fun nm hn => ?_, k.os.trans h.os, k.tape.trans h.tape, k.output.trans h.output, Nat.le_trans h.size k.size,
    fun b hb => ?_, k.itr.trans h.itr, fun nm hn he => ?_⟩, fun i o hna hi ho => k.keep i o (fun hb => ?_) (h.keep i o hna hi ho) ho, fun nm b hb => ?_, fun nm b hn hb => h.gho' nm b hn (k.gho' nm b (h.num nm hn) hb)⟩
  · rcases h.ver nm hn with ⟨e1, e2⟩ | ⟨e1, e2⟩
    · rcases k.ver nm (h.num nm hn) with ⟨e3, e4⟩ | ⟨e3, e4⟩
      · exact .inl ⟨e3.trans e1, e4.trans e2⟩
      · exact .inr ⟨by omega, by omega⟩
    · rcases k.ver nm (h.num nm hn) with ⟨e3, e4⟩ | ⟨e3, e4⟩
      · exact .inr ⟨e1, by omega⟩
      · exact .inr ⟨e1, by omega⟩
  · rcases k.ali b hb with h1 | h1
    · exact h.ali b h1
    · exact .inr (Nat.le_trans h.size h1)
  · have h1 := h.ver nm hn
    have h2 := k.ver nm (h.num nm hn)
    have e1 : B.ver nm = A.ver nm := by
      rcases h1 with ⟨q1, _⟩ | ⟨q1, q2⟩
      · exact q1
      · rcases h2 with ⟨q3, _⟩ | ⟨q3, q4⟩ <;> omega
    rcases h.sub nm hn e1 with q1 | q1
    · rcases k.sub nm (h.num nm hn) (by omega) with q2 | q2
      · exact .inl (q2.trans q1)
      · rw [q1] at q2; exact .inr q2
    · rcases k.sub nm (h.num nm hn) (by omega) with q2 | q2
      · rw [q2]; exact .inr q1
      · exact .inr (Nat.lt_trans q1 q2)
  · rcases h.ali i hb with h1 | h1
    · exact hna h1
    · have := (Array.getElem?_eq_some_iff.1 hi).1; omega
  · obtain ⟨h1, h2⟩ := h.gho nm b hb
    obtain ⟨h3, h4⟩ := k.gho nm b h1
    exact ⟨h3, h4.trans h2⟩
theorem frzR_sound : ∀ (l : List SV) {H : List HO}, Inv G H loc ver w → Inv G (frzR H l) loc ver w ∧ Ext (envOf G H loc ver w) (envOf G (frzR H l) loc ver w)
  | [], H, hI => ⟨hI, Ext.refl _⟩
  | s :: r, H, hI => by
    cases s with
    | ref nm k =>
      simp only [frzR]
      cases ho : hget H nm with
      | vec j t xs e =>
        simp only
        cases Nat.beq j k with
        | false => exact frzR_sound r hI
        | true =>
          obtain ⟨h1, h2⟩ := freeze1 hI ho
          obtain ⟨h3, h4⟩ := frzR_sound r h1
          exact ⟨h3, h2.trans h4⟩
      | _ => exact frzR_sound r hI
    | _ => exact frzR_sound r hI
theorem frzR_keeps : ∀ (l : List SV) (H : List HO) {nm : Nat} {c : List SV} {e : TypeId}, hget H nm = .cells c e → hget (frzR H l) nm = .cells c e
  | [], H, nm, c, e, h => h
  | s :: r, H, nm, c, e, h => by
    cases s with
    | ref m k =>
      simp only [frzR]
      cases ho : hget H m with
      | vec j t xs e' =>
        simp only
        cases Nat.beq j k with
        | false => exact frzR_keeps r H h
        | true =>
          refine frzR_keeps r _ ?_
          have hne : nm ≠ m := by rintro rfl; rw [h] at ho; cases ho
          simp only [hget, hset, List.getD_eq_getElem?_getD] at h ⊢
          rw [List.getElem?_set]
          rw [if_neg (Ne.symm hne)]
          exact h
      | _ => exact frzR_keeps r H h
    | _ => exact frzR_keeps r H h
/-- A variable is frozen. -/
theorem freezeC (hI : Inv G H loc ver w) {nm : Nat} {l l' : List SV} {e : TypeId} (ho : hget H nm = .cells l e) (hl : ∀ vs, RelL (envOf G H loc ver w) l vs → RelL (envOf G H loc ver w) l' vs) (hb : bare.bareL l' = true) :
    Inv G (hset H nm (.frc l')) loc ver w ∧ Ext (envOf G H loc ver w) (envOf G (hset H nm (.frc l')) loc ver w) := by
  have hn' := hget_some ho (by simp)
  have hlt : nm < H.length := (List.getElem?_eq_some_iff.1 hn').1
  refine hI.turn nm (by simp [hset]) (fun k hk => ⟨get_set_other hk, rfl, rfl⟩) (fun _ => hasB_of (get_set_same hlt) rfl) (fun _ => .inl ⟨rfl, rfl, .inl rfl⟩) (Nat.le_refl _) rfl rfl rfl (by rw [hn']; intro h; cases h) (fun _ => by first | rw [show hset H nm _ = H.set nm _ from rfl, get_set_same hlt]; intro h; cases h | rw [show hset H 0 _ = H.set 0 _ from rfl, get_set_same hlt]; intro h; cases h)
    (fun st n it b h => by rw [show hset H nm (.frc l') = H.set nm _ from rfl, get_set_same hlt] at h; cases h) (fun _ _ _ => rfl) ?_ ?_
  · intro o' b ho' hb
    rw [show hset H nm (.frc l') = H.set nm _ from rfl, get_set_same hlt] at ho'; cases ho'
    cases hb
  · intro hx o' ho'
    rw [show hset H nm (.frc l') = H.set nm _ from rfl, get_set_same hlt] at ho'; cases ho'
    have hO := hI.objs nm _ hn'
    obtain ⟨h0, b, vs, h1, h2, h3⟩ := hO
    have hbo : Owns (loc nm) (.cells l e) b := by simp [Owns, h1]
    refine ⟨h0, b, vs, h1, ⟨?_, (Array.getElem?_eq_some_iff.1 h2).1, ?_⟩, ?_, (hl vs h3).ext hx⟩
    · rcases hI.own b ⟨nm, _, hn', hbo⟩ with h | h
      · exact .inr (.inl h)
      · exact .inr (.inr h)
    · rintro ⟨k, o, hk, hbk⟩
      by_cases ek : k = nm
      · subst ek
        rw [show hset H k (.frc l') = H.set k _ from rfl, get_set_same hlt] at hk; cases hk
        cases hbk
      · rw [show hset H nm (.frc l') = H.set nm _ from rfl, get_set_other ek] at hk
        exact ek (hI.sep _ _ _ _ b hk hn' hbk hbo)
    · intro j v hj
      have h2' : w.heap[b]? = some (.cells ⟨vs⟩ e (0, 0)) := h2
      simp [envOf, World.cell?, h2', hj]
theorem frz1_sound (s : SV) (hI : Inv G H loc ver w) : Inv G (frz1 H s) loc ver w ∧ Ext (envOf G H loc ver w) (envOf G (frz1 H s) loc ver w) := by
  cases s with
  | ref nm k =>
    simp only [frz1]
    cases ho : hget H nm with
    | vec j t xs e =>
      simp only
      cases Nat.beq j k with
      | false => exact ⟨hI, Ext.refl _⟩
      | true => exact freeze1 hI ho
    | _ => exact ⟨hI, Ext.refl _⟩
  | ptr nm k =>
    simp only [frz1]
    cases ho : hget H nm with
    | cells l e =>
      simp only
      cases hb : bare.bareL (l.map (view false (frzR H l))) with
      | false => exact ⟨hI, Ext.refl _⟩
      | true =>
        obtain ⟨h1, h2⟩ := frzR_sound l hI
        obtain ⟨h3, h4⟩ := freezeC h1 (frzR_keeps l H ho) (fun vs h => views_rel (Ext.refl _) (fun _ _ _ h => view_ptr h1 h) (fun nm k v h => view_ref_fro h1 h) h) hb
        exact ⟨h3, h2.trans h4⟩
    | _ => exact ⟨hI, Ext.refl _⟩
  | _ => exact ⟨hI, Ext.refl _⟩
theorem frz_sound : ∀ (l : List SV) {H : List HO}, Inv G H loc ver w → Inv G (frz H l) loc ver w ∧ Ext (envOf G H loc ver w) (envOf G (frz H l) loc ver w)
  | [], H, hI => ⟨hI, Ext.refl _⟩
  | s :: r, H, hI => by
    obtain ⟨h1, h2⟩ := frz1_sound s hI
    obtain ⟨h3, h4⟩ := frz_sound r h1
    exact ⟨h3, h2.trans h4⟩
theorem freezeL_sound : ∀ (l : List SV) {H : List HO}, Inv G H loc ver w → Inv G (freezeL H l) loc ver w ∧ Ext (envOf G H loc ver w) (envOf G (freezeL H l) loc ver w)
  | [], H, hI => ⟨hI, Ext.refl _⟩
  | s :: r, H, hI => by
    have gen : ∀ {H1 : List HO}, Inv G H1 loc ver w ∧ Ext (envOf G H loc ver w) (envOf G H1 loc ver w) → Inv G (freezeL H1 r) loc ver w ∧ Ext (envOf G H loc ver w) (envOf G (freezeL H1 r) loc ver w) := fun ⟨h1, h2⟩ =>
      let ⟨h3, h4⟩ := freezeL_sound r h1
      ⟨h3, h2.trans h4⟩
    cases s with
    | agg l => exact gen (frz_sound l hI)
    | tup l => exact gen (frz_sound l hI)
    | clo f a b =>
      obtain ⟨h1, h2⟩ := frz_sound a hI
      obtain ⟨h3, h4⟩ := frz_sound b h1
      exact gen ⟨h3, h2.trans h4⟩
    | _ => exact gen (frz1_sound _ hI)

theorem conOf_mem {Γ : List Con} {f : FuncId} {c : Con} (h : conOf Γ f = some c) : c ∈ Γ ∧ c.f = f := by
  induction Γ with
  | nil => cases h
  | cons x r ih =>
    simp only [conOf] at h
    cases hb : Nat.beq x.f f with
    | true => rw [hb] at h; cases h; exact ⟨List.mem_cons_self .., beq_iff.1 hb⟩
    | false => rw [hb] at h; obtain ⟨h1, h2⟩ := ih h; exact ⟨List.mem_cons_of_mem _ h1, h2⟩
def envX (G : Ctx) (H : List HO) (loc : Nat → Loc) (ver : Nat → Nat) (w : World) (L : Loc) : Env := ⟨w, fun b => b < w.heap.size ∧ L.blk.map (·.1) ≠ some b, hasB H, loc, ver, ghoN H loc, aliN H loc, G.itr⟩
mutual
theorem Rel.plain {E E' : Env} {s : SV} {v : Value} (h : Rel E s v) (hp : Eng.plain s = true) : Rel E' s v := by
  cases h with
  | val _ h => exact .val v h
  | bl p d => exact .bl p d
  | str s h => exact .str s h
  | agg l vs hl => exact .agg l vs (hl.plain (by simpa [Eng.plain] using hp))
  | tup l vs hl => exact .tup l vs (hl.plain (by simpa [Eng.plain] using hp))
  | _ => simp [Eng.plain] at hp
theorem RelL.plain {E E' : Env} {l : List SV} {vs : List Value} (h : RelL E l vs) (hp : Eng.plain.plainL l = true) : RelL E' l vs := by
  cases h with
  | nil => exact .nil
  | cons s v l vs h hl =>
    simp only [Eng.plain.plainL, Bool.and_eq_true] at hp
    exact .cons s v l vs (h.plain hp.1) (hl.plain hp.2)
end
theorem Reads.flatJ {w : World} {ok ok' : Nat → Prop} {t : Ty} {x : t.T} {cs : List Value} (ht : t.flat = true) (h : Reads w ok t x cs) : Reads w ok' t x cs := by
  induction t generalizing cs with
  | int k => exact h
  | bool => exact h
  | str => exact h
  | pair a b iha ihb =>
    simp only [Ty.flat, Bool.and_eq_true] at ht
    obtain ⟨c1, c2, e, h1, h2⟩ := h
    exact ⟨c1, c2, e, iha ht.1 h1, ihb ht.2 h2⟩
  | slice t _ => cases ht
theorem linOp_sound (hI : Inv G H loc ver w) {f : FuncId} {pos : Nat} {same : Bool} {cl : List SV → HO → (SV → HO → Prop) → Prop} {args : List SV} {vs : List Value} {K : SV → List HO → Prop} (hc : LinOK P f pos same cl)
    (h : linOp pos same cl args H K) (hr : RelL (envOf G H loc ver w) args vs) : Calls P f ⟨vs⟩ w fun e w' => ∃ v, e = .returned v ∧ Res G (envOf G H loc ver w) K v w' := by
  unfold linOp at h
  split at h
  case h_2 => exact h.elim
  rename_i nm k hpos
  split at h
  case h_2 => exact h.elim
  rename_i j t xs e ho
  have h' := bif_true h
  clear h
  obtain ⟨hb, h⟩ := h'
  simp only [Bool.and_eq_true, beq_iff] at hb
  obtain ⟨rfl, hfl⟩ := hb
  simp only [hnfL_eq] at h
  have h' := bif_true h
  clear h
  obtain ⟨hbare, h⟩ := h'
  obtain ⟨r, ys, hk, htri⟩ := hc _ t xs e _ hfl h
  rw [hnf_eq] at hk
  simp only [beq_same, cond_true, dite_true] at hk
  rw [castK_eq] at hk
  simp only [force_eq] at hk
  have hn := hget_some ho (by simp)
  have hlt : nm < H.length := (List.getElem?_eq_some_iff.1 hn).1
  have hO := hI.objs nm _ hn
  have hO' := hO
  obtain ⟨hv, hj0, hlen, hmax, rs, hown, hel⟩ := hO
  have hv : ver nm = j := hv
  -- the argument that is turned
  have hplt : pos < args.length := Classical.byContradiction fun hc => by
    rw [List.getD_eq_getElem?_getD, List.getElem?_eq_none (by omega)] at hpos
    cases hpos
  have hrp := hr.get pos hplt
  rw [hpos] at hrp
  have hvp : vs.getD pos undef = (loc nm).head := by
    generalize vs.getD pos undef = q at hrp
    cases hrp with
    | ref _ _ _ _ _ _ hh => exact hh hv.symm
  have hvlt : pos < vs.length := by rw [← hr.length]; exact hplt
  have hvs : vs[pos]? = some (loc nm).head := by
    rw [List.getD_eq_getElem?_getD, List.getElem?_eq_getElem hvlt, Option.getD_some] at hvp
    rw [List.getElem?_eq_getElem hvlt, hvp]
  -- the others, as they are lent
  have hsetA : RelL (envOf G H loc ver w) (args.set pos .any) vs := by
    have := hr.set pos (.any (vs.getD pos undef))
    rwa [show vs.set pos (vs.getD pos undef) = vs from by
      rw [List.getD_eq_getElem?_getD, List.getElem?_eq_getElem hvlt, Option.getD_some]; exact List.set_getElem_self hvlt] at this
  have hblk0 : ∀ b, (loc nm).blk.map (·.1) = some b → b < w.heap.size := fun b hb => hO'.block (b := b) hb
  have hokX : ∀ b, okN G H loc w b → b < w.heap.size ∧ (loc nm).blk.map (·.1) ≠ some b := fun b hb => ⟨hb.2.1, fun e1 => hb.2.2 ⟨nm, _, hn, e1⟩⟩
  have xX : Ext (envOf G H loc ver w) (envX G H loc ver w (loc nm)) := ⟨⟨fun _ _ => rfl, hokX, fun _ h => h, fun _ _ => .inl ⟨rfl, rfl⟩, rfl, rfl, rfl, Nat.le_refl _, fun _ h => .inl h, rfl, fun _ _ _ => .inl rfl⟩, fun _ _ _ h _ => h, fun _ _ h => ⟨h, rfl⟩, fun _ _ _ h => h⟩
  have hdead : hget (hset H nm .dead) nm = .dead := by simp [hget, hset, List.getD_eq_getElem?_getD, hlt]
  have hoth : ∀ m, m ≠ nm → hget (hset H nm .dead) m = hget H m := fun m hm => by
    simp only [hget, hset, List.getD_eq_getElem?_getD]
    rw [get_set_other hm]
  have hrefX : ∀ m k v, Rel (envOf G H loc ver w) (.ref m k) v → Rel (envX G H loc ver w (loc nm)) (view true (hset H nm .dead) (.ref m k)) v := by
    intro m k v hm
    by_cases em : m = nm
    · subst em; simp only [view, hdead]; exact .any v
    · simp only [view, hoth m em]
      cases hm with
      | ref _ _ _ hn' hk0 hk' hv' =>
        cases ho' : hget H m with
        | vec j' t' xs' e' =>
          simp only [Bool.true_and]
          cases hb : Nat.beq j' k with
          | false => exact .any v
          | true =>
            obtain rfl := beq_iff.1 hb
            have hm' := hget_some ho' (by simp)
            have hO₁ := hI.objs m _ hm'
            have := hv' hO₁.1.symm
            subst this
            refine .seq t' xs' _ (vec_reads (E := envOf G H loc ver w) (ok := fun b => b < w.heap.size ∧ (loc nm).blk.map (·.1) ≠ some b) hO₁ hokX fun b hb => ⟨hO₁.block (b := b) hb, fun e1 => em (hI.sep _ _ _ _ b hm' hn hb e1)⟩)
        | fro j' t' xs' =>
          simp only
          cases hb : Nat.beq j' k with
          | false => exact .any v
          | true =>
            obtain rfl := beq_iff.1 hb
            have hO₁ := hI.objs m _ (hget_some ho' (by simp))
            have := hv' hO₁.1.symm
            subst this
            exact .seq t' xs' _ (hO₁.2.2.mono (fun _ _ _ h => h) hokX)
        | _ => exact .any v
  have hptrX : ∀ m k v, Rel (envOf G H loc ver w) (.ptr m k) v → Rel (envX G H loc ver w (loc nm)) (view true (hset H nm .dead) (.ptr m k)) v := by
    intro m k v hm
    by_cases em : m = nm
    · subst em; simp only [view, hdead]; exact hm.ext xX
    · have := view_ptr (lend := true) hI hm
      simp only [view, hoth m em] at this ⊢
      exact this.ext xX
  have hargs := viewDs_rel (H := hset H nm .dead) (lend := true) xX hptrX hrefX hsetA
  have hargs0 := RelL.bare (E := envX G H loc ver w (loc nm)) (E' := env0 w fun b => b < w.heap.size ∧ (loc nm).blk.map (·.1) ≠ some b) (fun _ _ _ h => h) (fun _ h => h) hargs hbare
  refine (htri _ w vs (loc nm) (fun _ h => h) hblk0 ⟨hlen, hmax, rs, hown, fun i hi => Reads.flatJ hfl (hel i hi)⟩ hargs0 hvs).mono ?_
  rintro en w' ⟨v, L', rfl, ⟨p1, p2, p3, p4, p5⟩, p6, p7, ⟨q1, q2, rs', q3, q4⟩, q5⟩
  have ht := hI.turn (w' := w') (H' := hset H nm (.vec (bif same then j else j + 1) t ys e)) (loc' := upd loc nm L') (ver' := upd ver nm (bif same then j else j + 1)) nm (by simp [hset]) (fun k hk => ⟨get_set_other hk, upd_other _ _ _ hk, upd_other _ _ _ hk⟩)
    (fun _ => hasB_of (get_set_same hlt) rfl) (fun _ => by
      rw [upd_same, upd_same]
      cases same with
      | true => exact .inl ⟨hv.symm, congrArg _ (p6 rfl), .inl (congrArg _ (p6 rfl))⟩
      | false => exact .inr ⟨by omega, by simp only [cond_false]; omega⟩)
    p4 p1 p2 p3 (by rw [hn]; intro h; cases h) (fun _ => by rw [show hset H nm _ = H.set nm _ from rfl, get_set_same hlt]; intro h; cases h)
    (fun st n it b h => by rw [show hset H nm _ = H.set nm _ from rfl, get_set_same hlt] at h; cases h)
    (fun b hb hne => p5 b hb fun e1 => hne _ hn e1)
    (by
      intro o' b ho' hb
      rw [show hset H nm _ = H.set nm _ from rfl, get_set_same hlt] at ho'; cases ho'
      rw [upd_same] at hb
      rcases p7 b hb with h | h
      · exact .inl ⟨_, hn, h⟩
      · exact .inr h)
    (by
      intro hx' o' ho'
      rw [show hset H nm _ = H.set nm _ from rfl, get_set_same hlt] at ho'; cases ho'
      rw [upd_same, upd_same]
      exact ⟨rfl, by cases same <;> simp only [cond_true, cond_false] <;> omega, q1, q2, rs', q3, fun i hi => Reads.flatJ hfl (q4 i hi)⟩)
  refine ⟨v, rfl, ?_⟩
  rcases q5 with ⟨rfl, rfl⟩ | ⟨hp, hrel⟩
  · refine ⟨_, _, _, _, hk, ht.1, ?_, ht.2⟩
    refine .ref _ _ _ (by exact hasB_of (get_set_same hlt) rfl) (by cases same <;> simp only [cond_true, cond_false] <;> omega) (by simp [envOf, upd_same]) fun _ => ?_
    simp [envOf, upd_same]
  · have hk' : K r (hset H nm (.vec (bif same then j else j + 1) t ys e)) := by
      cases r with
      | ref a b => simp [Eng.plain] at hp
      | _ => first | (simp [Eng.plain] at hp; done) | (simp only [hp, cond_true] at hk; exact hk) | exact hk
    exact ⟨r, _, _, _, hk', ht.1, hrel.plain hp, ht.2⟩
theorem renm1_rel {w : World} {L : Loc} {E : Env} {n : Nat} (hn : E.has n = true) (hv : E.ver n = 1) (hl : E.loc n = L) {s : SV} {v : Value} (h : Rel (envO w L) s v) (ho : okR1 s = true) : Rel E (renm1 n s) v := by
  cases s with
  | ref a b =>
    have hab : a = 0 ∧ b = 1 := by
      unfold okR1 at ho
      split at ho
      · rename_i heq; cases heq; exact ⟨rfl, rfl⟩
      · simp [Eng.plain] at ho
    obtain ⟨rfl, rfl⟩ := hab
    cases h with
    | ref _ _ _ _ _ _ hh => exact .ref n 1 v hn Nat.one_pos (by omega) fun _ => by rw [hl]; exact hh rfl
  | _ => exact h.plain (by simpa [okR1] using ho)
theorem renms_rel {w : World} {L : Loc} {E : Env} {n : Nat} (hn : E.has n = true) (hv : E.ver n = 1) (hl : E.loc n = L) : ∀ {l : List SV} {vs : List Value}, RelL (envO w L) l vs → l.all okR1 = true → RelL E (l.map (renm1 n)) vs
  | _, _, .nil, _ => .nil
  | _, _, .cons _ _ _ _ h hr, ho => by
    simp only [List.all_cons, Bool.and_eq_true] at ho
    exact .cons _ _ _ _ (renm1_rel hn hv hl h ho.1) (renms_rel hn hv hl hr ho.2)
theorem renm_rel {w : World} {L : Loc} {E : Env} {n : Nat} (hn : E.has n = true) (hv : E.ver n = 1) (hl : E.loc n = L) {s : SV} {v : Value} (h : Rel (envO w L) s v) (ho : okR s = true) : Rel E (renm n s) v := by
  cases s with
  | tup l =>
    cases h with
    | tup _ vs hr => exact .tup _ _ (renms_rel hn hv hl hr (by simpa [okR] using ho))
  | _ => exact renm1_rel hn hv hl h (by simpa [okR] using ho)
theorem ownOp_sound (hI : Inv G H loc ver w) {f : FuncId} {cl : List SV → (SV → HO → Prop) → Prop} {args : List SV} {vs : List Value} {K : SV → List HO → Prop} (hc : OwnOK P f cl)
    (h : ownOp cl args H K) (hr : RelL (envOf G H loc ver w) args vs) : Calls P f ⟨vs⟩ w fun e w' => ∃ v, e = .returned v ∧ Res G (envOf G H loc ver w) K v w' := by
  unfold ownOp at h
  simp only [hnfL_eq] at h
  have h' := bif_true h
  clear h
  obtain ⟨hb, h⟩ := h'
  obtain ⟨r, k, t, ys, e, hk, htri⟩ := hc _ _ h
  simp only [hnf_eq, force_eq] at hk
  have hk' := bif_true hk
  clear hk
  obtain ⟨hb2, hk⟩ := hk'
  simp only [Bool.and_eq_true] at hb2
  have htri := htri hb2.1
  have hargs := viewDs_rel (H := H) (lend := true) (ext_L (G := G)) (fun _ _ _ h => (view_ptr hI h).ext ext_L) (fun nm k v h => view_ref_lend hI h) hr
  have hargs0 := RelL.bare (E := envL G H loc ver w) (E' := env0 w fun b => b < w.heap.size) (fun _ _ _ h => h) (fun _ h => h) hargs hb
  refine (htri _ w vs (fun _ h => h) hargs0).mono ?_
  rintro en w' ⟨v, L', rfl, hbel, hblk, ⟨q1, q2, rs, q3, q4⟩, hrel⟩
  have hf := hI.fresh (w' := w') (.vec 1 t ys e) L' 1 hbel.size hbel.os hbel.tape hbel.output (fun b hb => hbel.block b hb) (fun b hb => hblk b hb)
    (fun hx => ⟨rfl, Nat.one_pos, q1, q2, rs, q3, fun i hi => Reads.flatJ hb2.1 (q4 i hi)⟩)
  exact ⟨v, rfl, _, _, _, _, hk, hf.1, renm_rel (by exact hasB_new rfl) (by simp [envOf, upd_same]) (by simp [envOf, upd_same]) hrel hb2.2, hf.2⟩
theorem callOp_sound {Γ : List Con} (hΓ : ∀ c ∈ Γ, ConOK P c) {F : Fence} (hF : Opn F) (hI : Inv G H loc ver w) {f : FuncId} {args : List SV} {vs : List Value} {K : SV → List HO → Prop}
    (h : callOp Γ f args H K) (hr : RelL (envOf G H loc ver w) args vs) :
    Enters P f ∧ ∀ n, CallsIn F n P f ⟨vs⟩ w fun e w' => ∃ v, e = .returned v ∧ Res G (envOf G H loc ver w) K v w' := by
  unfold callOp at h
  split at h
  case h_2 => exact h.elim
  rename_i c hc
  obtain ⟨hmem, rfl⟩ := conOf_mem hc
  obtain ⟨hent, hcl, hlin, hown⟩ := hΓ c hmem
  refine ⟨hent, fun n => ?_⟩
  have wide : ∀ {R : Ending → World → Prop}, Calls P c.f ⟨vs⟩ w R → CallsIn F n P c.f ⟨vs⟩ w R := hF.calls
  split at h
  · rename_i pos same cl hl
    exact wide (linOp_sound hI (hlin pos same cl hl) h hr)
  · rename_i cl hl hl2
    exact wide (ownOp_sound hI (hown cl hl2) h hr)
  cases hfr : c.fresh with
  | true =>
    rw [hfr] at h
    simp only [cond_true, hnfL_eq] at h
    obtain ⟨hb, h⟩ := bif_true h
    obtain ⟨r, hk, htri⟩ := hcl _ _ h
    rw [hnf_eq] at hk
    obtain ⟨hbr, hk⟩ := bif_true hk
    have htri := htri.tri hbr
    have hargs := viewDs_rel (H := H) (lend := true) (ext_L (G := G)) (fun _ _ _ h => (view_ptr hI h).ext ext_L) (fun nm k v h => view_ref_lend hI h) hr
    have hargs0 := RelL.bare (E := envL G H loc ver w) (E' := env0 w fun b => b < w.heap.size) (fun _ _ _ h => h) (fun _ h => h) hargs hb
    refine wide ((htri _ w vs (fun _ h => h) hargs0).mono ?_)
    rintro e w' ⟨v, rfl, hbel, hrel⟩
    obtain ⟨hI', hx⟩ := hI.grow hbel
    refine ⟨v, rfl, _, _, _, _, hk, hI', Rel.bare (E := env0 w' _) (E' := envOf G H loc ver w') (fun _ _ _ h => h) (fun b hb => ?_) hrel hbr, hx⟩
    rcases hb with ⟨h1, _⟩ | ⟨h1, h2⟩
    · rw [hfr] at h1; cases h1
    · refine ⟨.inr (.inr (Nat.le_trans hI.size h1)), h2, ?_⟩
      rintro ⟨nm, o, ho, hbo⟩
      have := (hI.objs nm o ho).block hbo
      have : b < w.heap.size := this
      omega
  | false =>
    rw [hfr] at h
    simp only [cond_false, force_eq, hnfL_eq] at h
    obtain ⟨hb, h⟩ := bif_true h
    obtain ⟨r, hk, htri⟩ := hcl _ _ h
    rw [hnf_eq] at hk
    obtain ⟨hbr, hk⟩ := bif_true hk
    have htri := htri.tri hbr
    obtain ⟨hI1, hx1⟩ := freezeL_sound args hI
    have hargs := viewDs_rel (H := freezeL H args) (lend := false) (Ext.refl _) (fun _ _ _ h => view_ptr hI1 h) (fun nm k v h => view_ref_fro hI1 h) (hr.ext hx1)
    have hargs0 := RelL.bare (E := envOf G (freezeL H args) loc ver w) (E' := env0 w (okN G (freezeL H args) loc w)) (fun _ _ _ h => h) (fun _ h => h) hargs hb
    refine wide ((htri _ w vs (fun _ h => h.2.1) hargs0).mono ?_)
    rintro e w' ⟨v, rfl, hbel, hrel⟩
    obtain ⟨hI', hx⟩ := hI1.grow hbel
    refine ⟨v, rfl, _, _, _, _, hk, hI', Rel.bare (E := env0 w' _) (E' := envOf G (freezeL H args) loc ver w') (fun _ _ _ h => h) (fun b hb => ?_) hrel hbr, hx1.trans hx⟩
    rcases hb with ⟨_, h1⟩ | ⟨h1, h2⟩
    · exact hx.ok b h1
    · refine ⟨.inr (.inr (Nat.le_trans hI.size h1)), h2, ?_⟩
      rintro ⟨nm, o, ho, hbo⟩
      have := (hI1.objs nm o ho).block hbo
      have : b < w.heap.size := this
      omega
end
end Go.Eng
