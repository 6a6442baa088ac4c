/-
  What the symbolic values and states of the executor mean, and the lemmas on memory that its soundness rests on.
-/
import Derived.Test.YtpmbhgmifiianaaEngA
import Derived.Deep.MidRow
import Derived.Laws.Append
import Derived.Below
import Derived.Laws.AppendOwn
import Derived.RangeFuncOwn
set_option linter.unusedSimpArgs false
set_option linter.unusedVariables false
namespace Go.Eng

abbrev maxL : Nat := 140737488355328
def WV : Value → Prop
  | .int k n => inK k n
  | _ => True

/-- Cells that are a datum. -/
def Reads (w : World) (ok : Nat → Prop) : (t : Ty) → t.T → List Value → Prop
  | .int k, n, cs => cs = [.int k n] ∧ inK k n
  | .bool, b, cs => cs = [.bool b]
  | .str, s, cs => cs = [.string ⟨s.toArray⟩] ∧ s.length ≤ maxL
  | .pair a b, x, cs => ∃ c1 c2, cs = c1 ++ c2 ∧ Reads w ok a x.1 c1 ∧ Reads w ok b x.2 c2
  | .slice t, xs, cs => ∃ a n c, cs = [.slice a n c] ∧ n = List.length (α := t.T) xs ∧ n ≤ c ∧ n ≤ maxL ∧
      (0 < n → ∃ b off, a = some ⟨b, off, none⟩ ∧ ok b ∧ ∀ i, i < n → ∃ es, es.length = t.size ∧ w.rangeAt b (off + i * t.size) es ∧ Reads w ok t (List.getD (α := t.T) xs i t.dflt) es)

theorem Reads.length {w : World} {ok : Nat → Prop} {t : Ty} {x : t.T} {cs : List Value} (h : Reads w ok t x cs) : cs.length = t.size := by
  induction t generalizing cs with
  | int k => obtain ⟨rfl, _⟩ := h; rfl
  | bool => cases h; rfl
  | str => obtain ⟨rfl, _⟩ := h; rfl
  | pair a b iha ihb => obtain ⟨c1, c2, rfl, h1, h2⟩ := h; simp [Ty.size, iha h1, ihb h2]
  | slice t _ => obtain ⟨a, n, c, rfl, _⟩ := h; rfl

theorem Reads.mono {w w' : World} {ok ok' : Nat → Prop} (hc : ∀ a v, ok a.block → w.cell? a = some v → w'.cell? a = some v) (hk : ∀ b, ok b → ok' b) {t : Ty} {x : t.T} {cs : List Value} (h : Reads w ok t x cs) : Reads w' ok' t x cs := by
  induction t generalizing cs with
  | int k => exact h
  | bool => exact h
  | str => exact h
  | pair a b iha ihb => obtain ⟨c1, c2, e, h1, h2⟩ := h; exact ⟨c1, c2, e, iha h1, ihb h2⟩
  | slice t ih =>
    obtain ⟨a, n, c, e, hn, hnc, hm, hr⟩ := h
    refine ⟨a, n, c, e, hn, hnc, hm, fun h0 => ?_⟩
    obtain ⟨b, off, ha, hok, hi⟩ := hr h0
    refine ⟨b, off, ha, hk b hok, fun i hlt => ?_⟩
    obtain ⟨es, h1, h2, h3⟩ := hi i hlt
    exact ⟨es, h1, fun j v hj => hc _ v hok (h2 j v hj), ih h3⟩

/-- What a vector of vectors knows of its rows: how often they have turned, where they lie, and where one lies that has grown and is not yet laid back. -/
structure Sub where
  v : Nat
  rows : Nat → Value
  pnd : Value
abbrev sub0 : Sub := ⟨0, fun _ => .slice none 0 0, .slice none 0 0⟩
structure Core where
  blk : Option (Nat × Nat)
  len : Nat
  cap : Nat
structure Loc extends Core where
  al : Nat → Prop
  sub : Sub
abbrev mkL (b : Option (Nat × Nat)) (n c : Nat) : Loc := ⟨⟨b, n, c⟩, fun _ => False, sub0⟩
/-- What an iterator at work is told of its caller: the loop's record; how many rounds there are, and of what; what holds between two rounds ('some k': so many have been; 'none': one has been left) of the iterator's own blocks. -/
structure Itr where
  on : Bool
  l : Nat
  n0 : Nat
  ok : Nat → Prop
  n : Nat
  items : Nat → List SV
  J : Option Nat → (Nat → Prop) → World → Prop
  abides : ∀ st M W W', J st M W → W'.os = W.os → W'.tape = W.tape → W'.output = W.output → W.heap.size ≤ W'.heap.size →
    (∀ b, b < W.heap.size → ¬ M b → W'.heap[b]? = W.heap[b]?) → J st (fun b => M b ∨ (W.heap.size ≤ b ∧ b < W'.heap.size)) W'
def itr0 : Itr := ⟨false, 0, 0, fun _ => False, 0, fun _ => [], fun _ _ _ => True, fun _ _ _ _ h _ _ _ _ _ => h⟩
def Core.head (L : Core) : Value := .slice (L.blk.map fun p => ⟨p.1, p.2, none⟩) L.len L.cap
instance : Inhabited Loc := ⟨mkL none 0 0⟩
structure Env where
  w : World
  ok : Nat → Prop
  has : Nat → Bool
  loc : Nat → Loc
  ver : Nat → Nat
  gho : Nat → Nat → Prop
  ali : Nat → Prop
  itr : Itr

mutual
inductive Rel (E : Env) : SV → Value → Prop
  | any (v : Value) : Rel E .any v
  | val (v : Value) (h : WV v) : Rel E (.val v) v
  | bl (p : Prop) (d : Decidable p) : Rel E (.bl p d) (.bool (@decide p d))
  | str (s : List UInt8) (h : s.length ≤ maxL) : Rel E (.str s) (.string ⟨s.toArray⟩)
  | seq (t : Ty) (xs : List t.T) (v : Value) (h : Reads E.w E.ok (.slice t) xs [v]) : Rel E (.seq t xs) v
  | lit (es n b off : Nat) (l : List SV) (vs : List Value) (hl : RelL E l vs) (hn : vs.length = n * es) (hok : E.ok b) (hr : E.w.rangeAt b off vs) : Rel E (.lit es l) (.slice (some ⟨b, off, none⟩) n n)
  | elem (t : Ty) (xs : List t.T) (i o b off : Nat) (es : List Value) (hi : i < xs.length) (hok : E.ok b) (hr : E.w.rangeAt b off es) (h : Reads E.w E.ok t (xs.getD i t.dflt) es) : Rel E (.elem t xs i o) (.pointer (some ⟨b, off + o, none⟩))
  | lelem (l : List SV) (i b off : Nat) (vs : List Value) (hl : RelL E l vs) (hok : E.ok b) (hr : E.w.rangeAt b off vs) : Rel E (.lelem l i) (.pointer (some ⟨b, off + i, none⟩))
  | ptr (nm off : Nat) (v : Value) (hn : E.has nm = true) (h : E.ver nm = 0 → ∃ b, (E.loc nm).blk = some (b, 0) ∧ v = .pointer (some ⟨b, off, none⟩)) : Rel E (.ptr nm off) v
  | ref (nm k : Nat) (v : Value) (hn : E.has nm = true) (h0 : 0 < k) (hk : k ≤ E.ver nm) (h : k = E.ver nm → v = (E.loc nm).head) : Rel E (.ref nm k) v
  | vptr (nm k i z o : Nat) (v : Value) (hn : E.has nm = true) (h0 : 0 < k) (hk : k ≤ E.ver nm) (h : k = E.ver nm → i < (E.loc nm).len ∧ ∃ b off, (E.loc nm).blk = some (b, off) ∧ v = .pointer (some ⟨b, off + i * z + o, none⟩)) : Rel E (.vptr nm k i z o) v
  | wide (nm k : Nat) (v : Value) (hn : E.has nm = true) (h0 : 0 < k) (hk : k ≤ E.ver nm) (h : k = E.ver nm → ∃ n, n ≤ (E.loc nm).cap ∧ v = .slice ((E.loc nm).blk.map fun p => ⟨p.1, p.2, none⟩) n (E.loc nm).cap) : Rel E (.wide nm k) v
  | agg (l : List SV) (vs : List Value) (hl : RelL E l vs) : Rel E (.agg l) (.agg ⟨vs⟩)
  | tup (l : List SV) (vs : List Value) (hl : RelL E l vs) : Rel E (.tup l) (.tuple ⟨vs⟩)
  | clo (f : FuncId) (a b : List SV) (va vb : List Value) (ha : RelL E a va) (hb : RelL E b vb) : Rel E (.clo f a b) (.func (.func f) ⟨va⟩ ⟨vb⟩)
  | yld (l : Nat) (h : E.itr.on = true) : Rel E (.yld l) (.func (.yield E.itr.l) #[] #[])
  | mp (nm : Nat) (v : Value) (hn : E.has nm = true) (h : E.ver nm = 0 → ∃ b, (E.loc nm).blk = some (b, 0) ∧ v = .map (some b)) : Rel E (.mp nm) v
  | sub (nm k s i : Nat) (v : Value) (hn : E.has nm = true) (h0 : 0 < k) (hk : k ≤ E.ver nm) (hs : k = E.ver nm → s ≤ (E.loc nm).sub.v) (h : k = E.ver nm → s = (E.loc nm).sub.v → v = (E.loc nm).sub.rows i) : Rel E (.sub nm k s i) v
  | subp (nm k s : Nat) (v : Value) (hn : E.has nm = true) (h0 : 0 < k) (hk : k ≤ E.ver nm) (hs : k = E.ver nm → s ≤ (E.loc nm).sub.v) (h : k = E.ver nm → s = (E.loc nm).sub.v → v = (E.loc nm).sub.pnd) : Rel E (.subp nm k s) v
inductive RelL (E : Env) : List SV → List Value → Prop
  | nil : RelL E [] []
  | cons (s : SV) (v : Value) (l : List SV) (vs : List Value) (h : Rel E s v) (hl : RelL E l vs) : RelL E (s :: l) (v :: vs)
end

/-- Objects of book-keeping. -/
def isBook : Obj → Bool
  | .deferred _ => true
  | .loop _ => true
  | _ => false
theorem isBook_cells {o : Obj} (h : isBook o = true) : o.isCells = false := by cases o <;> simp_all [isBook, Obj.isCells]
/-- What of one environment holds in another one. -/
structure Ext0 (E E' : Env) : Prop where
  blk : ∀ b, E.ok b → E'.w.heap[b]? = E.w.heap[b]?
  ok : ∀ b, E.ok b → E'.ok b
  num : ∀ nm, E.has nm = true → E'.has nm = true
  ver : ∀ nm, E.has nm = true → (E'.ver nm = E.ver nm ∧ (E'.loc nm).toCore = (E.loc nm).toCore) ∨ (0 < E.ver nm ∧ E.ver nm < E'.ver nm)
  os : E'.w.os = E.w.os
  tape : E'.w.tape = E.w.tape
  output : E'.w.output = E.w.output
  size : E.w.heap.size ≤ E'.w.heap.size
  ali : ∀ b, E'.ali b → E.ali b ∨ E.w.heap.size ≤ b
  itr : E'.itr = E.itr
  sub : ∀ nm, E.has nm = true → E'.ver nm = E.ver nm → (E'.loc nm).sub = (E.loc nm).sub ∨ (E.loc nm).sub.v < (E'.loc nm).sub.v
structure Ext (E E' : Env) : Prop extends Ext0 E E' where
  keep : ∀ (k : Nat) (o : Obj), ¬ E.ali k → E.w.heap[k]? = some o → isBook o = true → E'.w.heap[k]? = some o
  gho : ∀ nm b, E.gho nm b → E'.gho nm b ∧ E'.w.heap[b]? = E.w.heap[b]?
  gho' : ∀ nm b, E.has nm = true → E'.gho nm b → E.gho nm b
theorem Ext0.cell {E E' : Env} (x : Ext0 E E') : ∀ a v, E.ok a.block → E.w.cell? a = some v → E'.w.cell? a = some v :=
  fun a v ho hc => (World.cell?_of_block (x.blk _ ho)).trans hc
theorem Ext.cell {E E' : Env} (x : Ext E E') : ∀ a v, E.ok a.block → E.w.cell? a = some v → E'.w.cell? a = some v := x.toExt0.cell
theorem Ext.refl (E : Env) : Ext E E := ⟨⟨fun _ _ => rfl, fun _ h => h, fun _ h => h, fun _ _ => .inl ⟨rfl, rfl⟩, rfl, rfl, rfl, Nat.le_refl _, fun _ h => .inl h, rfl, fun _ _ _ => .inl rfl⟩, fun _ _ _ h _ => h, fun _ _ h => ⟨h, rfl⟩, fun _ _ _ h => h⟩
theorem rangeAt_ext {E E' : Env} (x : Ext0 E E') {b off : Nat} {vs : List Value} (hok : E.ok b) (h : E.w.rangeAt b off vs) : E'.w.rangeAt b off vs := fun j v hj => x.cell _ v hok (h j v hj)
mutual
theorem Rel.ext0 {E E' : Env} (x : Ext0 E E') {s : SV} {v : Value} (h : Rel E s v) : Rel E' s v := by
  cases h with
  | any => exact .any v
  | val _ h => exact .val v h
  | bl p d => exact .bl p d
  | str s h => exact .str s h
  | seq t xs _ h => exact .seq t xs v (h.mono x.cell x.ok)
  | lit es n b off l vs hl hn hok hr => exact .lit es n b off l vs (hl.ext0 x) hn (x.ok _ hok) (rangeAt_ext x hok hr)
  | elem t xs i o b off es hi hok hr h => exact .elem t xs i o b off es hi (x.ok _ hok) (rangeAt_ext x hok hr) (h.mono x.cell x.ok)
  | lelem l i b off vs hl hok hr => exact .lelem l i b off vs (hl.ext0 x) (x.ok _ hok) (rangeAt_ext x hok hr)
  | ptr nm off _ hn h =>
    refine .ptr nm off v (x.num nm hn) fun h0 => ?_
    rcases x.ver nm hn with ⟨e1, e2⟩ | ⟨e1, e2⟩
    · rw [e1] at h0; obtain ⟨b, hb, hv⟩ := h h0; exact ⟨b, by rw [e2]; exact hb, hv⟩
    · omega
  | ref nm k _ hn h0 hk h =>
    rcases x.ver nm hn with ⟨e1, e2⟩ | ⟨e1, e2⟩
    · exact .ref nm k v (x.num nm hn) h0 (by omega) fun e => by rw [e2]; exact h (by omega)
    · exact .ref nm k v (x.num nm hn) h0 (by omega) fun e => by omega
  | vptr nm k i z o _ hn h0 hk h =>
    rcases x.ver nm hn with ⟨e1, e2⟩ | ⟨e1, e2⟩
    · exact .vptr nm k i z o v (x.num nm hn) h0 (by omega) fun e => by rw [e2]; exact h (by omega)
    · exact .vptr nm k i z o v (x.num nm hn) h0 (by omega) fun e => by omega
  | wide nm k _ hn h0 hk h =>
    rcases x.ver nm hn with ⟨e1, e2⟩ | ⟨e1, e2⟩
    · exact .wide nm k v (x.num nm hn) h0 (by omega) fun e => by rw [e2]; exact h (by omega)
    · exact .wide nm k v (x.num nm hn) h0 (by omega) fun e => by omega
  | agg l vs hl => exact .agg l vs (hl.ext0 x)
  | tup l vs hl => exact .tup l vs (hl.ext0 x)
  | clo f a b va vb ha hb => exact .clo f a b va vb (ha.ext0 x) (hb.ext0 x)
  | yld l h => rw [← x.itr] at h ⊢; exact .yld l h
  | mp nm _ hn h =>
    refine .mp nm v (x.num nm hn) fun h0 => ?_
    rcases x.ver nm hn with ⟨e1, e2⟩ | ⟨e1, e2⟩
    · rw [e1] at h0; obtain ⟨b, hb, hv⟩ := h h0; exact ⟨b, by rw [e2]; exact hb, hv⟩
    · omega
  | sub nm k s i _ hn h0 hk hs h =>
    rcases x.ver nm hn with ⟨e1, e2⟩ | ⟨e1, e2⟩
    · have e3 := x.sub nm hn e1
      refine .sub nm k s i v (x.num nm hn) h0 (by omega) (fun e => ?_) (fun e e4 => ?_)
      · have := hs (by omega)
        rcases e3 with e3 | e3
        · rw [e3]; exact this
        · omega
      · have h5 := hs (by omega)
        rcases e3 with e3 | e3
        · rw [e3] at e4 ⊢; exact h (by omega) e4
        · omega
    · exact .sub nm k s i v (x.num nm hn) h0 (by omega) (fun e => by omega) (fun e => by omega)
  | subp nm k s _ hn h0 hk hs h =>
    rcases x.ver nm hn with ⟨e1, e2⟩ | ⟨e1, e2⟩
    · have e3 := x.sub nm hn e1
      refine .subp nm k s v (x.num nm hn) h0 (by omega) (fun e => ?_) (fun e e4 => ?_)
      · have := hs (by omega)
        rcases e3 with e3 | e3
        · rw [e3]; exact this
        · omega
      · have h5 := hs (by omega)
        rcases e3 with e3 | e3
        · rw [e3] at e4 ⊢; exact h (by omega) e4
        · omega
    · exact .subp nm k s v (x.num nm hn) h0 (by omega) (fun e => by omega) (fun e => by omega)
theorem RelL.ext0 {E E' : Env} (x : Ext0 E E') {l : List SV} {vs : List Value} (h : RelL E l vs) : RelL E' l vs := by
  cases h with
  | nil => exact .nil
  | cons s v l vs h hl => exact .cons s v l vs (h.ext0 x) (hl.ext0 x)
end

theorem Rel.ext {E E' : Env} (x : Ext E E') {s : SV} {v : Value} (h : Rel E s v) : Rel E' s v := h.ext0 x.toExt0
theorem RelL.ext {E E' : Env} (x : Ext E E') {l : List SV} {vs : List Value} (h : RelL E l vs) : RelL E' l vs := h.ext0 x.toExt0
theorem RelL.length {E : Env} : ∀ {l : List SV} {vs : List Value}, RelL E l vs → l.length = vs.length
  | _, _, .nil => rfl
  | _, _, .cons _ _ _ _ _ hl => by simp [hl.length]
theorem RelL.get {E : Env} : ∀ {l : List SV} {vs : List Value}, RelL E l vs → ∀ i, i < l.length → Rel E (l.getD i .any) (vs.getD i undef)
  | _, _, .cons _ _ _ _ h _, 0, _ => h
  | _, _, .cons _ _ l vs _ hl, i + 1, hi => by
    have := hl.get i (by simpa using hi)
    simpa using this
theorem RelL.take {E : Env} : ∀ {l : List SV} {vs : List Value}, RelL E l vs → ∀ n, RelL E (l.take n) (vs.take n)
  | _, _, .nil, n => by simp; exact .nil
  | _, _, .cons s v l vs h hl, 0 => by simp; exact .nil
  | _, _, .cons s v l vs h hl, n + 1 => by simp; exact .cons _ _ _ _ h (hl.take n)
theorem RelL.drop {E : Env} : ∀ {l : List SV} {vs : List Value}, RelL E l vs → ∀ n, RelL E (l.drop n) (vs.drop n)
  | _, _, .nil, n => by simp; exact .nil
  | _, _, .cons s v l vs h hl, 0 => by simp; exact .cons _ _ _ _ h hl
  | _, _, .cons s v l vs h hl, n + 1 => by simp; exact hl.drop n
theorem RelL.append {E : Env} : ∀ {l : List SV} {vs : List Value}, RelL E l vs → ∀ {l' vs'}, RelL E l' vs' → RelL E (l ++ l') (vs ++ vs')
  | _, _, .nil, _, _, h' => h'
  | _, _, .cons s v l vs h hl, _, _, h' => .cons _ _ _ _ h (hl.append h')
theorem RelL.set {E : Env} : ∀ {l : List SV} {vs : List Value}, RelL E l vs → ∀ (i : Nat) {s v}, Rel E s v → RelL E (l.set i s) (vs.set i v)
  | _, _, .nil, _, _, _, _ => .nil
  | _, _, .cons _ _ _ _ _ hl, 0, _, _, h' => .cons _ _ _ _ h' hl
  | _, _, .cons _ _ _ _ h hl, i + 1, _, _, h' => .cons _ _ _ _ h (hl.set i h')
def setVs (l : List Value) (off : Nat) : List Value → List Value
  | [] => l
  | v :: r => setVs (l.set off v) (off + 1) r
theorem RelL.setCells {E : Env} {l : List SV} {vs : List Value} (h : RelL E l vs) : ∀ {r : List SV} {rv : List Value}, RelL E r rv → ∀ off, RelL E (Eng.setCells l off r) (setVs vs off rv)
  | _, _, .nil, _ => h
  | _, _, .cons _ _ _ _ h' hl, off => (h.set off h').setCells hl (off + 1)
theorem setVs_length (r : List Value) : ∀ (l : List Value) (off : Nat), (setVs l off r).length = l.length := by
  induction r with
  | nil => intro l off; rfl
  | cons v r ih => intro l off; simp only [setVs]; rw [ih]; simp
theorem setVs_get (r : List Value) : ∀ (l : List Value) (off i : Nat), off + r.length ≤ l.length → (setVs l off r)[i]? = if off ≤ i ∧ i < off + r.length then r[i - off]? else l[i]? := by
  induction r with
  | nil => intro l off i h; simp [setVs]; omega
  | cons v r ih =>
    intro l off i h
    simp only [setVs, List.length_cons] at h ⊢
    rw [ih _ _ _ (by simp; omega), List.getElem?_set]
    by_cases h1 : i = off
    · subst h1
      rw [if_neg (by omega), if_pos rfl, if_pos (by omega), if_pos (by omega)]
      simp
    · by_cases h2 : off + 1 ≤ i ∧ i < off + 1 + r.length
      · rw [if_pos h2, if_pos (by omega)]
        obtain ⟨k, rfl⟩ : ∃ k, i = off + 1 + k := ⟨i - (off + 1), by omega⟩
        have e1 : off + 1 + k - (off + 1) = k := by omega
        have e2 : off + 1 + k - off = k + 1 := by omega
        rw [e1, e2]; rfl
      · rw [if_neg h2]
        have : ¬ off = i := fun e => h1 e.symm
        rw [if_neg this, if_neg (by omega)]
theorem setCells_length (r : List SV) : ∀ (l : List SV) (off : Nat), (setCells l off r).length = l.length := by
  induction r with
  | nil => intro l off; rfl
  | cons v r ih => intro l off; simp only [setCells]; rw [ih]; simp

theorem Reads.enc {E : Env} {t : Ty} {x : t.T} {cs : List Value} (h : Reads E.w E.ok t x cs) : RelL E (enc t x) cs := by
  induction t generalizing cs with
  | int k => obtain ⟨rfl, hk⟩ := h; exact .cons _ _ _ _ (.val _ hk) .nil
  | bool => cases h; exact .cons _ _ _ _ (by cases x <;> exact .bl _ _) .nil
  | str => obtain ⟨rfl, hk⟩ := h; exact .cons _ _ _ _ (.str _ hk) .nil
  | pair a b iha ihb => obtain ⟨c1, c2, rfl, h1, h2⟩ := h; exact (iha h1).append (ihb h2)
  | slice t _ =>
    obtain ⟨a, n, c, rfl, hr⟩ := h
    exact .cons _ _ _ _ (.seq t x _ ⟨a, n, c, rfl, hr⟩) .nil
theorem Reads.giv {w : World} {ok : Nat → Prop} {t : Ty} {x : t.T} {cs : List Value} (h : Reads w ok t x cs) {C : Prop} (g : givT t x C) : C := by
  induction t generalizing cs C with
  | int k => exact giv_use g h.2
  | bool => exact g
  | str => exact g
  | pair a b iha ihb => obtain ⟨c1, c2, rfl, h1, h2⟩ := h; exact ihb h2 (iha h1 g)
  | slice t _ => obtain ⟨a, n, c, rfl, hn, hc, hm, _⟩ := h; have hm' : n ≤ 140737488355328 := hm; exact g.go (by omega)
theorem enc_length (t : Ty) (x : t.T) : (enc t x).length = t.size := by
  induction t with
  | pair a b iha ihb => simp [enc, Ty.size, iha, ihb]
  | _ => rfl
theorem RelL.one {E : Env} {s : SV} {vs : List Value} (h : RelL E [s] vs) : ∃ v, vs = [v] ∧ Rel E s v := by
  cases h with
  | cons _ v _ _ h1 h2 => cases h2; exact ⟨v, rfl, h1⟩
theorem decInt_spec {l : List SV} {n : Int} (h : decInt l = some n) : ∃ k, l = [.val (.int k n)] := by
  unfold decInt at h
  split at h
  · cases h; exact ⟨_, rfl⟩
  · cases h
theorem decStr_spec {l : List SV} {n : List UInt8} (h : decStr l = some n) : l = [.str n] := by
  unfold decStr at h
  split at h
  · cases h; rfl
  · cases h
theorem kindOk_spec {k k' : IntKind} {n : Int} (h : kindOk k [.val (.int k' n)] = true) : k = k' := by simpa [kindOk] using h
theorem reads_nil (w : World) (ok : Nat → Prop) (t : Ty) : Reads w ok (.slice t) [] [.slice none 0 0] := ⟨none, 0, 0, rfl, rfl, Nat.le_refl _, Nat.zero_le _, fun h => absurd h (Nat.lt_irrefl _)⟩
/-- Cells that can be told as a datum are that datum. -/
theorem dec_reads {E : Env} {t : Ty} {l : List SV} {cs : List Value} {x : t.T} (h : RelL E l cs) (hd : dec t l = some x) (hk : kindsOk t l = true) : Reads E.w E.ok t x cs := by
  induction t generalizing l cs with
  | int k =>
    obtain ⟨k', rfl⟩ := decInt_spec hd
    obtain rfl := kindOk_spec hk
    obtain ⟨v, rfl, hv⟩ := h.one
    cases hv with
    | val _ hw => exact ⟨rfl, hw⟩
  | bool =>
    simp only [dec] at hd
    unfold decBool at hd
    split at hd
    · cases hd; obtain ⟨v, rfl, hv⟩ := h.one; cases hv; rfl
    · cases hd; obtain ⟨v, rfl, hv⟩ := h.one; cases hv; rfl
    · cases hd
  | str =>
    obtain rfl := decStr_spec hd
    obtain ⟨v, rfl, hv⟩ := h.one
    cases hv with
    | str _ hw => exact ⟨rfl, hw⟩
  | slice t _ =>
    simp only [dec] at hd
    unfold decSlice at hd
    split at hd
    · rename_i t' xs
      split at hd
      · rename_i e
        subst e
        cases hd
        obtain ⟨v, rfl, hv⟩ := h.one
        cases hv with
        | seq _ _ _ hr => exact hr
      · cases hd
    · cases hd
      obtain ⟨v, rfl, hv⟩ := h.one
      cases hv
      exact reads_nil _ _ _
    · cases hd
  | pair a b iha ihb =>
    simp only [dec] at hd
    simp only [kindsOk, Bool.and_eq_true] at hk
    split at hd
    · rename_i x1 x2 e1 e2
      cases hd
      exact ⟨cs.take a.size, cs.drop a.size, by simp, iha (h.take _) e1 hk.1, ihb (h.drop _) e2 hk.2⟩
    · cases hd

theorem Reads.one {w : World} {ok : Nat → Prop} {t : Ty} {x : t.T} {cs : List Value} (h : Reads w ok t x cs) : ∀ u ∈ cs, u.oneCell' = true := by
  induction t generalizing cs with
  | int k => obtain ⟨rfl, _⟩ := h; simp [Value.oneCell']
  | bool => cases h; simp [Value.oneCell']
  | str => obtain ⟨rfl, _⟩ := h; simp [Value.oneCell']
  | slice t _ => obtain ⟨a, n, c, rfl, _⟩ := h; simp [Value.oneCell']
  | pair a b iha ihb =>
    obtain ⟨c1, c2, rfl, h1, h2⟩ := h
    intro u hu
    rcases List.mem_append.1 hu with h | h
    · exact iha h1 u h
    · exact ihb h2 u h
theorem own_cases {w : World} {base : Nat} {e : TypeId} {size n : Nat} {L : Loc} {vs : List Value} (h : w.ownsRow base e size L.head n vs) :
    (L.blk = none ∧ L.cap = 0 ∧ L.len = 0 ∧ n = 0) ∨ ∃ g cur, L.blk = some (g, 0) ∧ L.len = n ∧ w.heap[g]? = some (.cells cur e (0, 0)) ∧ n ≤ L.cap ∧ L.cap ≤ maxLen ∧ cur.size = L.cap * size ∧ cur.toList.take (n * size) = vs := by
  obtain ⟨_, ⟨h1, h2⟩ | ⟨g, cap, cur, h1, _, h3, h4, h5, h6, h7⟩⟩ := h
  · left
    simp only [Core.head, Value.slice.injEq, Option.map_eq_none_iff] at h1
    exact ⟨h1.1, h1.2.2, h1.2.1, h2⟩
  · right
    simp only [Core.head, Value.slice.injEq] at h1
    obtain ⟨e1, e2, e3⟩ := h1
    cases hb : L.blk with
    | none => rw [hb] at e1; cases e1
    | some p =>
      rw [hb] at e1
      simp at e1
      obtain ⟨e4, e5⟩ := e1
      refine ⟨g, cur, ?_, e2, h3, by omega, by omega, by rw [e3]; exact h6, h7⟩
      cases p; simp_all
/-! ### States -/
structure Ctx where
  w0 : World
  ok0 : Nat → Prop
  mine : Nat → Prop
  apart : ∀ b, ok0 b → ¬ mine b
  below : ∀ b, ok0 b → b < w0.heap.size
  itr : Itr
/-- The blocks of an object. -/
def Owns (L : Loc) (o : HO) (b : Nat) : Prop :=
  match o with
  | .cells _ _ => L.blk.map (·.1) = some b
  | .vec _ _ _ _ => L.blk.map (·.1) = some b
  | .map _ _ _ => L.blk.map (·.1) = some b
  | .mit _ _ _ _ => L.blk.map (·.1) = some b
  | .vv _ _ _ _ _ _ _ => L.blk.map (·.1) = some b ∨ L.al b
  | .gone => L.al b
  | .yst _ _ _ => L.al b
  | _ => False
def Owned (H : List HO) (loc : Nat → Loc) (b : Nat) : Prop := ∃ nm o, H[nm]? = some o ∧ Owns (loc nm) o b
def okN (G : Ctx) (H : List HO) (loc : Nat → Loc) (w : World) (b : Nat) : Prop := (G.ok0 b ∨ G.mine b ∨ G.w0.heap.size ≤ b) ∧ b < w.heap.size ∧ ¬ Owned H loc b
def ghoN (H : List HO) (loc : Nat → Loc) (nm b : Nat) : Prop := H[nm]? = some .gone ∧ (loc nm).al b
def aliN (H : List HO) (loc : Nat → Loc) (b : Nat) : Prop := ∃ nm st n it, H[nm]? = some (.yst st n it) ∧ (loc nm).al b
def envOf (G : Ctx) (H : List HO) (loc : Nat → Loc) (ver : Nat → Nat) (w : World) : Env := ⟨w, okN G H loc w, hasB H, loc, ver, ghoN H loc, aliN H loc, G.itr⟩
/-- The entries of a map, one by one. -/
def EntsR (w : World) (ok : Nat → Prop) (k : IntKind) (t : Ty) : List (Nat × Int × t.T) → List MapEntry → Prop
  | [], [] => True
  | x :: r, e :: r' => (e.born = x.1 ∧ e.key = .int k x.2.1 ∧ inK k x.2.1 ∧ Reads w ok t x.2.2 [e.val]) ∧ EntsR w ok k t r r'
  | _, _ => False
/-- A row of a vector of vectors, under a header of its own: nothing, or a block that no other has. -/
def RowAt (E : Env) (al : Nat → Prop) (t : Ty) (ei : TypeId) (h : Value) (xs : List t.T) : Prop :=
  ∃ vs, E.w.ownsRow 0 ei t.size h xs.length vs ∧ (∀ b, h.ownBlock = some b → al b) ∧ ∀ i, i < xs.length → Reads E.w E.ok t (List.getD (α := t.T) xs i t.dflt) ((vs.drop (i * t.size)).take t.size)
/-- The rows of a vector of vectors. 'pend': the row that has grown, and is not yet laid back. -/
structure Rows (E : Env) (L : Loc) (t : Ty) (ei : TypeId) (xss : List (List t.T)) (pend : Option (Nat × List t.T)) : Prop where
  flat : t.flat = true
  row : ∀ i, i < xss.length → (∀ j ys, pend = some (j, ys) → i ≠ j) → RowAt E L.al t ei (L.sub.rows i) (xss.getD i [])
  apart : ∀ i j, i < xss.length → j < xss.length → (∀ k ys, pend = some (k, ys) → i ≠ k ∧ j ≠ k) → i ≠ j → ∀ b, (L.sub.rows i).ownBlock = some b → (L.sub.rows j).ownBlock ≠ some b
  grown : ∀ j ys, pend = some (j, ys) → j < xss.length ∧ RowAt E L.al t ei L.sub.pnd ys ∧ ∀ i, i < xss.length → i ≠ j → ∀ b, L.sub.pnd.ownBlock = some b → (L.sub.rows i).ownBlock ≠ some b
  short : ∀ i, i < xss.length → (xss.getD i []).length ≤ maxL
def OSat (E : Env) (L : Loc) (v : Nat) : HO → Prop
  | .dead => True
  | .res => True
  | .cells l e => v = 0 ∧ ∃ b vs, L.blk = some (b, 0) ∧ E.w.heap[b]? = some (.cells ⟨vs⟩ e (0, 0)) ∧ RelL E l vs
  | .vec k t xs e => v = k ∧ 0 < k ∧ L.len = List.length (α := t.T) xs ∧ L.len ≤ maxL ∧
      ∃ vs, E.w.ownsRow 0 e t.size L.head L.len vs ∧ ∀ i, i < L.len → Reads E.w E.ok t (List.getD (α := t.T) xs i t.dflt) ((vs.drop (i * t.size)).take t.size)
  | .fro k t xs => v = k ∧ 0 < k ∧ Reads E.w E.ok (.slice t) xs [L.head]
  | .map k t m => v = 0 ∧ m.Wf ∧ m.es.length ≤ maxL ∧ ∃ b es, L.blk = some (b, 0) ∧ E.w.heap[b]? = some (.map ⟨es⟩ m.clock) ∧ EntsR E.w E.ok k t m.es es
  | .mit m since seen c0 => v = 0 ∧ E.has m = true ∧ ∃ r bm, L.blk = some (r, 0) ∧ E.w.heap[r]? = some (.mapIter (some bm) since ⟨seen⟩ c0) ∧ (E.ver m = 0 → (E.loc m).blk = some (bm, 0))
  | .vv k s t xss pend eo ei => v = k ∧ 0 < k ∧ L.sub.v = s ∧ L.len = xss.length ∧ L.len ≤ maxL ∧
      (∃ vs, E.w.ownsRow 0 eo 1 L.head L.len vs ∧ ∀ i, i < L.len → vs[i]? = some (L.sub.rows i)) ∧ (∀ b, L.al b → b < E.w.heap.size ∧ L.blk.map (·.1) ≠ some b ∧ ∃ c e, E.w.heap[b]? = some (.cells c e (0, 0))) ∧ Rows E L t ei xss pend
  | .frc l => v = 0 ∧ ∃ b vs, L.blk = some (b, 0) ∧ E.ok b ∧ E.w.rangeAt b 0 vs ∧ RelL E l vs
  | .gone => 0 < v ∧ ∀ b, L.al b → b < E.w.heap.size
  | .yst st n it => 0 < v ∧ (∀ b, L.al b → b < E.w.heap.size) ∧ E.itr.n0 ≤ E.w.heap.size ∧ n = E.itr.n ∧ it = E.itr.items ∧
      (∀ b, b < E.itr.n0 → ¬ L.al b → E.itr.ok b ∧ E.ok b) ∧
      E.itr.J st (fun b => E.itr.n0 ≤ b ∧ b < E.w.heap.size ∧ ¬ L.al b) E.w
structure Inv (G : Ctx) (H : List HO) (loc : Nat → Loc) (ver : Nat → Nat) (w : World) : Prop where
  size : G.w0.heap.size ≤ w.heap.size
  os : w.os = G.w0.os
  tape : w.tape = G.w0.tape
  output : w.output = G.w0.output
  frame : ∀ b, b < G.w0.heap.size → ¬ G.mine b → w.heap[b]? = G.w0.heap[b]?
  objs : ∀ nm o, H[nm]? = some o → OSat (envOf G H loc ver w) (loc nm) (ver nm) o
  own : ∀ b, Owned H loc b → G.mine b ∨ G.w0.heap.size ≤ b
  sep : ∀ nm nm' o o' b, H[nm]? = some o → H[nm']? = some o' → Owns (loc nm) o b → Owns (loc nm') o' b → nm = nm'
end Go.Eng
