/-
  The statement 'Rows.TopUndoneAnywhereCardSaid': the law's call returns true for every input, and its arguments read afterwards as before; the package-level variables that the row lists hold what the program's own text lays (the tied card). It joins the contract of the law's function to the given row and card.
  Conditions: those of the row: the listed variables (laid).
-/
import Derived.Test.YtocimheacfaimaaGreatDoorTie
import Derived.Test.YtocimheacfaimaaGreatDoorCards
import Derived.Test.YtocimheacfaimaaGreatDoorP9
import Derived.WalkKit
import Derived.ProofKit
import Derived.OpenShut
import Derived.ShutString
import Derived.ChangeOld
import Derived.Below
import Derived.SizedLaws
import Derived.LaidMore
import Derived.Lay
import Derived.SevenTiedAt
import Derived.Stop.Joined
import Derived.Stop.LaidErr
import Derived.Lib.LaidTab
import Derived.PinnedBridge
namespace Go.Proofs.YtocimheacfaimaaGreatDoor.topUndoneAnywhereFrame
open Go.ChangeShapes Go.WideShapes Go.ChangeAt Go.RowKit Go.Eng
set_option linter.unusedVariables false
set_option linter.unusedSimpArgs false
theorem own : ownKnob Tryz.prog.godebug = none := by kernel_rfl
theorem laidOut : laidOutB Tryz.prog = true := by kernel_rfl
theorem star : "*" ++ "errors.errorString" = "*errors.errorString" := by decide
theorem row_ptr (u : TypeId) (h : Tryz.prog.typeName? 3 u = some "*errors.errorString") : u = 354 :=
  typeName_ptr_named (nm := "errors.errorString") (by rw [star]; kernel_rfl) (by kernel_rfl) (by decide) u (by rw [star]; exact h)
theorem powData : (Rows.laid_internal_strconv_uint64pow10 : DataW Unit) = Lib.tabData .u64 ((List.range 20).map fun i => ((10 ^ i : Nat) : Int)) := by kernel_rfl
theorem blk_of_var {P : Program} {w : World} {n : String} {g : Nat} {cs : Array Value} (hg : P.globalNamed n = some g) (h : w.var? P n = some cs) : g < w.heap.size ∧ ∃ e f, w.heap[g]? = some (.cells cs e f) := by
  simp only [World.var?, hg, Option.bind_some] at h
  split at h
  · rename_i c e f hb
    cases h
    exact ⟨(Array.getElem?_eq_some_iff.1 hb).1, e, f, hb⟩
  · cases h
theorem gw (W : World) (h : laidMetH Tryz.prog Rows.topUndoneAnywhereRow.laid W) : GW Tryz.prog (fun b => b < W.heap.size) W := by
  rw [MakeChecks.laidMetH_plain _ _ _ (by kernel_rfl)] at h
  have h3 := h.tail.tail
  have h5 := h3.tail.tail
  have h6 := h5.tail
  have hp : Lib.TabIs Tryz.prog W "internal/strconv.uint64pow10" .u64 ((List.range 20).map fun i => ((10 ^ i : Nat) : Int)) :=
    Lib.tabIs_of_head (g := 1) (t := 330) (e := 305) (n := 20) (by kernel_rfl) (by kernel_rfl) Tryz.underlying330 Tryz.underlying305 (by kernel_rfl) (by kernel_rfl) (by rw [← powData]; exact h3)
  obtain ⟨a1, s1, hv1, _⟩ := laid_sentinel (g := 3) (ti := 281) (tp := 354) (te := 356) (ts := 9) h5 (by kernel_rfl) (by kernel_rfl) Tryz.underlying281 row_ptr Tryz.underlying354 Tryz.underlying356 rfl rfl Tryz.underlying9 (by kernel_rfl) (by kernel_rfl)
  obtain ⟨a2, s2, hv2, _⟩ := laid_sentinel (g := 2) (ti := 281) (tp := 354) (te := 356) (ts := 9) h6 (by kernel_rfl) (by kernel_rfl) Tryz.underlying281 row_ptr Tryz.underlying354 Tryz.underlying356 rfl rfl Tryz.underlying9 (by kernel_rfl) (by kernel_rfl)
  intro n hn g hg
  simp only [gnames, List.mem_cons, List.not_mem_nil, or_false] at hn
  rcases hn with rfl | rfl | rfl
  · obtain ⟨h1, e, f, h2⟩ := blk_of_var hg hp
    exact ⟨h1, _, e, f, h2, ⟨fun _ => rfl, fun hc => by rcases hc with hc | hc <;> exact absurd hc (by decide)⟩⟩
  · obtain ⟨h1, e, f, h2⟩ := blk_of_var hg hv1
    exact ⟨h1, _, e, f, h2, ⟨fun hc => absurd hc (by decide), fun _ => ⟨_, _, rfl⟩⟩⟩
  · obtain ⟨h1, e, f, h2⟩ := blk_of_var hg hv2
    exact ⟨h1, _, e, f, h2, ⟨fun hc => absurd hc (by decide), fun _ => ⟨_, _, rfl⟩⟩⟩
set_option maxRecDepth 100000 in
theorem lifted (os : Os) (started : os.Started) (H : Type) (enc : TypeId × Value → H) :
    ReturnsInHanded {} Tryz.checked os 3 .any (fun w args => (Rows.topUndoneAnywhereSpec.pre enc Tryz.prog Tryz.f3 Rows.topUndoneAnywhereRow.domain false w args ∧ laidMetH Tryz.prog Rows.topUndoneAnywhereRow.laid w) ∧ sizedMet enc Tryz.prog Tryz.f3 (OpenSpec.ofChange Rows.topUndoneAnywhereSpec) false w args)
      (Rows.topUndoneAnywhereSpec.post enc Tryz.prog Tryz.f3 false true false false) := by
  refine returnsInHanded_of_change_and (C := Tryz.checked) (X := fun w _ => laidMetH Tryz.prog Rows.topUndoneAnywhereRow.laid w) (fun _ _ _ hh h => h.of_heap hh) own started (by kernel_rfl) Tryz.func3
    (ChangeSpec.witness_shaped (enc := enc) (C := Tryz.checked) (os := os) (X := fun w _ => laidMetH Tryz.prog Rows.topUndoneAnywhereRow.laid w) false (World.laidAll Tryz.prog os Rows.topUndoneAnywhereRow.laid) #[.agg #[.string ByteArray.empty, .slice none 0 0, .int .i64 0, .int .i64 0, .slice none 0 0, .slice none 0 0, .slice none 0 0, .slice none 0 0, .int .i64 0, .int .i64 0, .int .i64 0, .int .i64 0, .int .i64 0, .slice none 0 0, .slice none 0 0, .slice none 0 0, .slice none 0 0], .int .u8 0] 8 (World.laidAll_os _ _ _)
      (World.shaped_of_ZipB (by kernel_rfl) (by kernel_rfl)) (by kernel_rfl) (by kernel_rfl) (by kernel_rfl)
      (by rw [MakeChecks.laidMetH_plain _ _ _ (by kernel_rfl)]; exact laidMet_laidAll _ (by kernel_rfl) (by kernel_rfl))) ?_
  intro W base args ds gs before hval0 hW hcnd hsz0 hL _
  have hval : ∀ (j : Nat) t v, Tryz.f3.params[j]? = some t → args[j]? = some v → Value.okWide Tryz.prog W .any base t v := hval0
  have hsz : (DataW.weightsEach Tryz.prog (Tryz.f3.params.toList ++ Rows.topUndoneAnywhereSpec.plain.varTypes Tryz.prog) (ds ++ gs)).all (· ≤ reachBytes) = true := hsz0
  have hW' := hW
  obtain ⟨p, q, hA0, hV, rfl, hfz, hnd⟩ := hW
  have hA : DataW.TrodAll enc Tryz.prog W 0 (fun _ => true) true Tryz.f3.params.toList args.toList ds p := hA0
  rw [Tryz.params3] at hA hval hsz
  obtain ⟨v0, vs0, d0, ds0, p0, q0, hargs, rfl, rfl, h0, r0⟩ := trodAll_cons hA
  obtain ⟨v1, vs1, d1, ds1, p1, q1, rfl, rfl, rfl, h1, r1⟩ := trodAll_cons r0
  obtain ⟨rfl, rfl, rfl⟩ := trodAll_nil r1
  obtain rfl : args = #[v0, v1] := by cases args; simp_all
  obtain ⟨rfl, rfl⟩ := trodVars_none hV
  have lt0 : ∀ x ∈ p0, x.block < W.heap.size := by obtain ⟨m, hm⟩ := h0; exact DataW.trod_lt m _ _ _ hm
  obtain ⟨x0, f0, cs0, rfl, rd0⟩ := arg_struct (n := 24) (ty := (.pair (.pair .str (.pair (.slice (.slice (.pair (.int .i64) (.pair (.int .i64) (.pair (.int .i64) (.pair (.int .i64) (.pair .bool (.pair (.int .i64) (.int .i64))))))))) (.pair (.int .i64) (.pair (.int .i64) (.pair (.slice (.int .i64)) (.pair (.slice (.pair (.int .i64) (.pair .str (.pair .str (.pair .str .str))))) (.pair (.slice (.pair (.int .i64) (.pair (.int .i64) (.int .i64)))) (.pair (.slice (.pair (.int .i64) (.pair (.int .i64) (.pair (.int .i64) (.pair (.int .i64) (.pair (.int .i64) (.slice (.pair (.int .i64) (.int .i64))))))))) (.pair (.int .i64) (.pair (.pair (.int .i64) (.pair (.int .i64) (.pair (.int .i64) (.int .i64)))) (.pair (.slice (.pair (.int .i64) (.pair (.int .i64) .str))) (.slice (.pair (.int .i64) (.pair (.int .i64) (.pair (.int .i64) (.pair (.int .i64) (.int .i64))))))))))))))))) (.pair (.slice (.pair (.int .i64) (.pair (.int .i64) (.pair (.pair (.int .i64) (.pair (.int .i64) (.pair (.int .i64) (.pair (.int .i64) (.pair .bool (.pair (.int .i64) (.int .i64))))))) (.pair (.pair (.int .i64) (.pair .str (.pair .str (.pair .str .str)))) (.pair (.pair (.int .i64) (.pair (.int .i64) (.int .i64))) (.pair (.pair (.int .i64) (.pair (.int .i64) (.pair (.int .i64) (.pair (.int .i64) (.pair (.int .i64) (.slice (.pair (.int .i64) (.int .i64)))))))) (.pair (.pair (.int .i64) (.pair (.int .i64) .str)) (.pair (.pair (.int .i64) (.pair (.int .i64) (.pair (.int .i64) (.pair (.int .i64) (.int .i64))))) (.pair (.pair (.int .i64) (.pair (.int .i64) (.pair (.int .i64) (.int .i64)))) (.pair (.int .i64) .str))))))))))) (.slice .bool)))) Tryz.underlying38 (hval 0 38 v0 rfl rfl) h0 (by kernel_rfl) (by kernel_rfl) (weight_of hsz 0 rfl rfl)
  have e0 := agg_enc rd0
  have lt1 : ∀ x ∈ p1, x.block < W.heap.size := by obtain ⟨m, hm⟩ := h1; exact DataW.trod_lt m _ _ _ hm
  obtain ⟨x1, f1, e1⟩ := arg_int Tryz.underlying5 (hval 1 5 v1 rfl rfl) h1
  refine (law_calls (RB.t5003 x0.1.1 x0.1.2.1 x0.1.2.2.1 x0.1.2.2.2.1 x0.1.2.2.2.2.1 x0.1.2.2.2.2.2.1 x0.1.2.2.2.2.2.2.1 x0.1.2.2.2.2.2.2.2.1 x0.1.2.2.2.2.2.2.2.2.1 x0.1.2.2.2.2.2.2.2.2.2.1.1 x0.1.2.2.2.2.2.2.2.2.2.1.2.1 x0.1.2.2.2.2.2.2.2.2.2.1.2.2.1 x0.1.2.2.2.2.2.2.2.2.2.1.2.2.2 x0.1.2.2.2.2.2.2.2.2.2.2.1 x0.1.2.2.2.2.2.2.2.2.2.2.2 x0.2.1 x0.2.2 x1 f1) W _ (gw W hL) (.cons _ _ _ _ e0 (.cons _ _ _ _ e1 .nil))).mono fun e W' ⟨he, bel⟩ => ?_
  subst he
  exact ⟨_, rfl, _, _, _, [], _, [], hW', trodAll_mk1 (shut_bool Tryz.underlying4 _), (trodAll_cons_mk (Below.trod laidOut (by kernel_rfl) (of_decide_eq_true (by kernel_rfl)) h0 bel lt0) (trodAll_cons_mk (Below.trod laidOut (by kernel_rfl) (of_decide_eq_true (by kernel_rfl)) h1 bel lt1) trodAll_mk0)), rfl, bel.frame _, fun h => by cases h⟩
theorem and2 {a b : Bool} (h : a = true) (g : b = true) : (a && b) = true := by rw [h, g]; rfl
set_option maxHeartbeats 8000000 in
theorem joined : joinedFacts Tryz.prog 3 Tryz.f3 Rows.topUndoneAnywhereSpec Rows.topUndoneAnywhereRow = true := by
  unfold joinedFacts
  repeat' (with_reducible refine and2 ?_ ?_)
  all_goals (as_aux_lemma => kernel_rfl)
theorem over : Rows.TopUndoneAnywhereSaid :=
  OpenClaim.holds_of_wide 3 Tryz.f3 rfl rfl rfl rfl rfl rfl rfl ⟨rfl, rfl, rfl, rfl, rfl⟩ rfl rfl rfl rfl rfl (by kernel_rfl) Tryz.func3 joined
    (of_decide_eq_true (by kernel_rfl)) (by unfold Func.isWrapper; first | (rw [if_pos (by decide +kernel)]; kernel_rfl) | (rw [if_neg (by decide +kernel)]; exact ⟨rfl, rfl⟩))
    (fun os started H enc _ => lifted os started H enc)
/-- The statement: the card. -/
theorem proved : Rows.TopUndoneAnywhereCardSaid :=
  Claim7.holds_tied_plain_at .later [] [.data, .data, .data, .data, .sentinel, .sentinel, .pinned] true Rows.topUndoneAnywhereCard.stood.harness true
    over (fun _ h => by cases h) (by kernel_rfl) (fun _ h => by cases h) topUndoneAnywhere_row_tie rfl ⟨rfl, rfl⟩ (by kernel_rfl) rfl
    (fun f fn hf hfn => by
      obtain rfl : f = 3 := Option.some.inj ((show Tryz.prog.funcNamed "kingpost/kingposttop.TopUndoneAnywhere" = some 3 by kernel_rfl).symm.trans hf) |>.symm
      obtain rfl : fn = Tryz.f3 := (Option.some.inj (Tryz.func3.symm.trans hfn)).symm
      exact ⟨by as_aux_lemma => kernel_rfl, fun j t ht => by
        rw [Tryz.params3] at ht
        have hm : t ∈ [38, 5] := by simpa using Array.mem_of_getElem? ht
        have hall : ([38, 5].all fun u => !Tryz.prog.wantsStandIn u) = true := by kernel_rfl
        exact (show Tryz.prog.wantsStandIn t = false by simpa using List.all_eq_true.1 hall t hm)⟩)
    (by as_aux_lemma => kernel_rfl)
#print axioms proved
end Go.Proofs.YtocimheacfaimaaGreatDoor.topUndoneAnywhereFrame
