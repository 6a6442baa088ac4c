/-
  Part 6: a symbolic executor over the model, contracts of functions and plain laws.
-/
import Derived.Test.YtpmbhgmifiianaaP5
section
set_option linter.unusedVariables false
open Go Go.Proofs Go.Eng Go.Shelf
set_option linter.unusedVariables false
namespace EB
set_option maxRecDepth 10000
/-! ### The reference's Ready -/
theorem in_take {n : Int} {st : List Int} {i : Nat} (h : (st.take i).any (outB n) = false) : InN n (st.take i) := by
  intro m hm
  rw [List.any_eq_false] at h
  have := h m hm
  unfold outB at this
  rw [decide_eq_true_iff] at this
  omega
theorem putL_all {n : Int} (hn : 0 ≤ n) {ms : List Int} (h : InN n ms) : WOk (putL (words n) ms) ∧ ((putL (words n) ms).length : Int) = (n + 63) / 64 :=
  ⟨(putL_ok hn ms (words n) (words_ok n) (words_len n hn) h).1, by rw [putL_len]; exact words_len n hn⟩
theorem b34 (n : Int) (l : List (Int × Int)) (st : List Int) : body Try.prog [c62, c63] { asks := [(0, []), (2, [2])] } true Try.f34 [I n, Ps l, Ls st] (.tup [Ls (readyRes n l st), I (readyErr n l st)]) := by
  (repeat' ((conv => whnf); first | (refine Giv.mk fun _ => ?_) | (refine Alt.l (Need.mk ?h ?_); case h => omega) | (refine Alt.r (Need.mk ?h ?_); case h => omega) | (refine Need.mk ?h ?_; case h => first | omega | (intro _; rfl) | assumption | (simp <;> omega)) | refine Ix.zero ?_ | refine Ix.one ?_ | refine Ix.two ?_ | refine Ix.nat ?_ | refine Ix.add ?_ | (apply Go.Eng.Pin.mk; apply Exists.intro) | apply Go.Eng.Pinned.mk rfl rfl | (apply Go.Eng.PinH.mk; apply Exists.intro; apply Exists.intro) | exact Go.Eng.Fin0.mk | refine Go.Eng.Chk.mk ?_ ?_ | refine Own.l ?_ | fail))
  (refine Br.mk (fun _ => ?_) (fun _ => ?_))
  · rename_i h
    (repeat' ((conv => whnf); first | (refine Giv.mk fun _ => ?_) | (refine Alt.l (Need.mk ?h ?_); case h => omega) | (refine Alt.r (Need.mk ?h ?_); case h => omega) | (refine Need.mk ?h ?_; case h => first | omega | (intro _; rfl) | assumption | (simp <;> omega)) | refine Ix.zero ?_ | refine Ix.one ?_ | refine Ix.two ?_ | refine Ix.nat ?_ | refine Ix.add ?_ | (apply Go.Eng.Pin.mk; apply Exists.intro) | apply Go.Eng.Pinned.mk rfl rfl | (apply Go.Eng.PinH.mk; apply Exists.intro; apply Exists.intro) | exact Go.Eng.Fin0.mk | refine Go.Eng.Chk.mk ?_ ?_ | refine Own.l ?_ | fail))
    (conv => whnf)
    refine ⟨?_, ?_, trivial⟩
    · (conv => whnf)
      unfold readyRes; rw [if_neg fun e => h e.1]
    · exact ⟨rfl, by unfold readyErr; rw [if_pos h]⟩
  · rename_i h
    have h : supE n l = 0 := Classical.not_not.1 h
    have hro := supE_rests h
    obtain ⟨r1, r2, r3, r4⟩ := id hro
    (repeat' ((conv => whnf); first | (refine Giv.mk fun _ => ?_) | (refine Alt.l (Need.mk ?h ?_); case h => omega) | (refine Alt.r (Need.mk ?h ?_); case h => omega) | (refine Need.mk ?h ?_; case h => first | omega | (intro _; rfl) | assumption | (simp <;> omega)) | refine Ix.zero ?_ | refine Ix.one ?_ | refine Ix.two ?_ | refine Ix.nat ?_ | refine Ix.add ?_ | (apply Go.Eng.Pin.mk; apply Exists.intro) | apply Go.Eng.Pinned.mk rfl rfl | (apply Go.Eng.PinH.mk; apply Exists.intro; apply Exists.intro) | exact Go.Eng.Fin0.mk | refine Go.Eng.Chk.mk ?_ ?_ | refine Own.l ?_ | fail))
    refine Need.mk (show 0 ≤ n ∧ n ≤ n ∧ n ≤ 140737488355328 ∧ n * ((1 : Nat) : Int) ≤ 140737488355328 by omega) ?_
    (repeat' ((conv => whnf); first | (refine Giv.mk fun _ => ?_) | (refine Alt.l (Need.mk ?h ?_); case h => omega) | (refine Alt.r (Need.mk ?h ?_); case h => omega) | (refine Need.mk ?h ?_; case h => first | omega | (intro _; rfl) | assumption | (simp <;> omega)) | refine Ix.zero ?_ | refine Ix.one ?_ | refine Ix.two ?_ | refine Ix.nat ?_ | refine Ix.add ?_ | (apply Go.Eng.Pin.mk; apply Exists.intro) | apply Go.Eng.Pinned.mk rfl rfl | (apply Go.Eng.PinH.mk; apply Exists.intro; apply Exists.intro) | exact Go.Eng.Fin0.mk | refine Go.Eng.Chk.mk ?_ ?_ | refine Own.l ?_ | fail))
    refine Ask.mk ⟨{ X := Nat, pre := fun i => i ≤ st.length ∧ (st.take i).any (outB n) = false, mod := fun i _ => [(9, I i)], heap := fun i _ => [.vec 1 (.int .i64) [] 3, .vec 1 .bool (bitsL n (putL (words n) (st.take i))) 4], mu := fun i => st.length - i }, rfl, ?_⟩
    (repeat' ((conv => whnf); first | (refine Giv.mk fun _ => ?_) | (refine Alt.l (Need.mk ?h ?_); case h => omega) | (refine Alt.r (Need.mk ?h ?_); case h => omega) | (refine Need.mk ?h ?_; case h => first | omega | (intro _; rfl) | assumption | (simp <;> omega)) | refine Ix.zero ?_ | refine Ix.one ?_ | refine Ix.two ?_ | refine Ix.nat ?_ | refine Ix.add ?_ | (apply Go.Eng.Pin.mk; apply Exists.intro) | apply Go.Eng.Pinned.mk rfl rfl | (apply Go.Eng.PinH.mk; apply Exists.intro; apply Exists.intro) | exact Go.Eng.Fin0.mk | refine Go.Eng.Chk.mk ?_ ?_ | refine Own.l ?_ | fail))
    refine ⟨⟨(0 : Nat), ⟨Nat.zero_le _, by simp⟩, ?_⟩, fun (i : Nat) hi => ?_⟩
    · (repeat' (first | exact trivial | rfl | exact Nat.one_pos | (refine And.intro ?_ ?_) | omega | ((conv => whnf); (refine And.intro ?_ ?_)) | ((conv => whnf); exact trivial)))
      exact (bitsL_nil n).symm
    · obtain ⟨hi, hb⟩ := hi
      obtain ⟨w1, w2⟩ := putL_all r2 (in_take hb)
      have hbl := bitsL_len n (putL (words n) (st.take i))
      (repeat' ((conv => whnf); first | (refine Giv.mk fun _ => ?_) | (refine Alt.l (Need.mk ?h ?_); case h => omega) | (refine Alt.r (Need.mk ?h ?_); case h => omega) | (refine Need.mk ?h ?_; case h => first | omega | (intro _; rfl) | assumption | (simp <;> omega)) | refine Ix.zero ?_ | refine Ix.one ?_ | refine Ix.two ?_ | refine Ix.nat ?_ | refine Ix.add ?_ | (apply Go.Eng.Pin.mk; apply Exists.intro) | apply Go.Eng.Pinned.mk rfl rfl | (apply Go.Eng.PinH.mk; apply Exists.intro; apply Exists.intro) | exact Go.Eng.Fin0.mk | refine Go.Eng.Chk.mk ?_ ?_ | refine Own.l ?_ | fail))
      (refine Br.mk (fun _ => ?_) (fun _ => ?_))
      · have hlt : i < st.length := by omega
        have hps := putL_succ (words n) st i hlt
        have hat := any_take_succ (outB n) st 0 i hlt
        have bad : outB n (st.getD i 0) = true → [] = readyRes n l st ∧ 2 = readyErr n l st := fun hx => by
          have ha : st.any (outB n) = true := any_getD (outB n) st 0 i hlt hx
          refine ⟨by unfold readyRes; rw [if_neg (by rw [ha]; simp)], by unfold readyErr; rw [if_neg (by omega), if_pos ha]⟩
        (repeat' ((conv => whnf); first | (refine Giv.mk fun _ => ?_) | (refine Alt.l (Need.mk ?h ?_); case h => omega) | (refine Alt.r (Need.mk ?h ?_); case h => omega) | (refine Need.mk ?h ?_; case h => first | omega | (intro _; rfl) | assumption | (simp <;> omega)) | refine Ix.zero ?_ | refine Ix.one ?_ | refine Ix.two ?_ | refine Ix.nat ?_ | refine Ix.add ?_ | (apply Go.Eng.Pin.mk; apply Exists.intro) | apply Go.Eng.Pinned.mk rfl rfl | (apply Go.Eng.PinH.mk; apply Exists.intro; apply Exists.intro) | exact Go.Eng.Fin0.mk | refine Go.Eng.Chk.mk ?_ ?_ | refine Own.l ?_ | (refine Br.mkY ?h ?_; case h => first | omega | assumption) | (refine Br.mkN ?h ?_; case h => first | omega | assumption | exact not_not_intro (by assumption)) | (refine Br.mk (fun _ => ?_) (fun _ => ?_)) | fail))
        · have hx : outB n (st.getD i 0) = true := decide_eq_true (.inl ‹_›)
          (conv => whnf)
          refine ⟨?_, ⟨rfl, (bad hx).2⟩, trivial⟩
          · (conv => whnf)
            exact (bad hx).1
        · have hx : outB n (st.getD i 0) = true := decide_eq_true (.inr ‹_›)
          (conv => whnf)
          refine ⟨?_, ⟨rfl, (bad hx).2⟩, trivial⟩
          · (conv => whnf)
            exact (bad hx).1
        · have hx : outB n (st.getD i 0) = false := decide_eq_false (by omega)
          have hset := bitsL_put w1 w2 (m := st.getD i 0) (by omega)
          rw [← hps] at hset
          refine ix_at (st.getD i 0).toNat (by omega) ?_
          (repeat' ((conv => whnf); first | (refine Giv.mk fun _ => ?_) | (refine Alt.l (Need.mk ?h ?_); case h => omega) | (refine Alt.r (Need.mk ?h ?_); case h => omega) | (refine Need.mk ?h ?_; case h => first | omega | (intro _; rfl) | assumption | (simp <;> omega)) | refine Ix.zero ?_ | refine Ix.one ?_ | refine Ix.two ?_ | refine Ix.nat ?_ | refine Ix.add ?_ | (apply Go.Eng.Pin.mk; apply Exists.intro) | apply Go.Eng.Pinned.mk rfl rfl | (apply Go.Eng.PinH.mk; apply Exists.intro; apply Exists.intro) | exact Go.Eng.Fin0.mk | refine Go.Eng.Chk.mk ?_ ?_ | refine Own.l ?_ | (refine Br.mkY ?h ?_; case h => first | omega | assumption) | (refine Br.mkN ?h ?_; case h => first | omega | assumption | exact not_not_intro (by assumption)) | fail))
          refine ⟨(i + 1 : Nat), by show st.length - (i + 1) < st.length - i; omega, ⟨hlt, by rw [hat, hb, hx]; rfl⟩, ?_⟩
          (repeat' (first | exact trivial | rfl | exact Nat.one_pos | (refine And.intro ?_ ?_) | omega | ((conv => whnf); (refine And.intro ?_ ?_)) | ((conv => whnf); exact trivial)))
          exact hset
      · have hii : i = st.length := by omega
        have htk : st.take i = st := by rw [hii, List.take_length]
        rw [htk] at hb w1 w2 hbl
        (repeat' ((conv => whnf); first | (refine Giv.mk fun _ => ?_) | (refine Alt.l (Need.mk ?h ?_); case h => omega) | (refine Alt.r (Need.mk ?h ?_); case h => omega) | (refine Need.mk ?h ?_; case h => first | omega | (intro _; rfl) | assumption | (simp <;> omega)) | refine Ix.zero ?_ | refine Ix.one ?_ | refine Ix.two ?_ | refine Ix.nat ?_ | refine Ix.add ?_ | (apply Go.Eng.Pin.mk; apply Exists.intro) | apply Go.Eng.Pinned.mk rfl rfl | (apply Go.Eng.PinH.mk; apply Exists.intro; apply Exists.intro) | exact Go.Eng.Fin0.mk | refine Go.Eng.Chk.mk ?_ ?_ | refine Own.l ?_ | (refine Br.mkY ?h ?_; case h => first | omega | assumption) | (refine Br.mkN ?h ?_; case h => first | omega | assumption | exact not_not_intro (by assumption)) | fail))
        refine Ask.mk ⟨{ X := Nat, pre := fun i => i ≤ n.toNat, mod := fun i _ => [(10, .ref 2 1), (11, I i)], objs := [2], heap := fun i _ => [.vec 1 (.int .i64) [] 3, .vec 1 .bool (bitsL n (putL (words n) st)) 4, .vec 1 (.int .i64) (readyTo (onL n l) (putL (words n) st) i) 3], mu := fun i => n.toNat - i }, rfl, ?_⟩
        (repeat' ((conv => whnf); first | (refine Giv.mk fun _ => ?_) | (refine Alt.l (Need.mk ?h ?_); case h => omega) | (refine Alt.r (Need.mk ?h ?_); case h => omega) | (refine Need.mk ?h ?_; case h => first | omega | (intro _; rfl) | assumption | (simp <;> omega)) | refine Ix.zero ?_ | refine Ix.one ?_ | refine Ix.two ?_ | refine Ix.nat ?_ | refine Ix.add ?_ | (apply Go.Eng.Pin.mk; apply Exists.intro) | apply Go.Eng.Pinned.mk rfl rfl | (apply Go.Eng.PinH.mk; apply Exists.intro; apply Exists.intro) | exact Go.Eng.Fin0.mk | refine Go.Eng.Chk.mk ?_ ?_ | refine Own.l ?_ | fail))
        refine ⟨⟨(0 : Nat), Nat.zero_le _, ?_⟩, fun (i : Nat) (hi : i ≤ n.toNat) => ?_⟩
        · (repeat' (first | exact trivial | rfl | exact Nat.one_pos | (refine And.intro ?_ ?_) | omega | ((conv => whnf); (refine And.intro ?_ ?_)) | ((conv => whnf); exact trivial)))
          exact congrArg (fun t => bitsL n (putL (words n) t)) htk
        · have hrs := readyTo_succ (onL n l) (putL (words n) st) i
          have hrl := readyTo_len (onL n l) (putL (words n) st) i
          have hpre : ∀ q, q < l.length → (l.getD q (0, 0)).2 < (bitsL n (putL (words n) st)).length := fun q hq => by
            have := r4 q hq
            omega
          (repeat' ((conv => whnf); first | (refine Giv.mk fun _ => ?_) | (refine Alt.l (Need.mk ?h ?_); case h => omega) | (refine Alt.r (Need.mk ?h ?_); case h => omega) | (refine Need.mk ?h ?_; case h => first | omega | (intro _; rfl) | assumption | (simp <;> omega)) | refine Ix.zero ?_ | refine Ix.one ?_ | refine Ix.two ?_ | refine Ix.nat ?_ | refine Ix.add ?_ | (apply Go.Eng.Pin.mk; apply Exists.intro) | apply Go.Eng.Pinned.mk rfl rfl | (apply Go.Eng.PinH.mk; apply Exists.intro; apply Exists.intro) | exact Go.Eng.Fin0.mk | refine Go.Eng.Chk.mk ?_ ?_ | refine Own.l ?_ | fail))
          (refine Br.mk (fun _ => ?_) (fun _ => ?_))
          · have hri := ready_iff hro (putL (words n) st) (m := i) (by omega)
            have hgt := bitsL_get n (putL (words n) st) i (by omega)
            (repeat' ((conv => whnf); first | (refine Giv.mk fun _ => ?_) | (refine Alt.l (Need.mk ?h ?_); case h => omega) | (refine Alt.r (Need.mk ?h ?_); case h => omega) | (refine Need.mk ?h ?_; case h => first | omega | (intro _; rfl) | assumption | (simp <;> omega)) | refine Ix.zero ?_ | refine Ix.one ?_ | refine Ix.two ?_ | refine Ix.nat ?_ | refine Ix.add ?_ | (apply Go.Eng.Pin.mk; apply Exists.intro) | apply Go.Eng.Pinned.mk rfl rfl | (apply Go.Eng.PinH.mk; apply Exists.intro; apply Exists.intro) | exact Go.Eng.Fin0.mk | refine Go.Eng.Chk.mk ?_ ?_ | refine Own.l ?_ | (refine Br.mkY ?h ?_; case h => first | omega | assumption) | (refine Br.mkN ?h ?_; case h => first | omega | assumption | exact not_not_intro (by assumption)) | fail))
            (refine Br.mk (fun _ => ?_) (fun _ => ?_))
            · rename_i b1
              rw [hgt, decide_eq_true_iff] at b1
              (repeat' ((conv => whnf); first | (refine Giv.mk fun _ => ?_) | (refine Alt.l (Need.mk ?h ?_); case h => omega) | (refine Alt.r (Need.mk ?h ?_); case h => omega) | (refine Need.mk ?h ?_; case h => first | omega | (intro _; rfl) | assumption | (simp <;> omega)) | refine Ix.zero ?_ | refine Ix.one ?_ | refine Ix.two ?_ | refine Ix.nat ?_ | refine Ix.add ?_ | (apply Go.Eng.Pin.mk; apply Exists.intro) | apply Go.Eng.Pinned.mk rfl rfl | (apply Go.Eng.PinH.mk; apply Exists.intro; apply Exists.intro) | exact Go.Eng.Fin0.mk | refine Go.Eng.Chk.mk ?_ ?_ | refine Own.l ?_ | fail))
              (refine Br.mk (fun _ => ?_) (fun _ => ?_))
              · rename_i b2
                rw [if_pos (hri.2 ⟨b1, b2⟩)] at hrs
                (repeat' ((conv => whnf); first | (refine Giv.mk fun _ => ?_) | (refine Alt.l (Need.mk ?h ?_); case h => omega) | (refine Alt.r (Need.mk ?h ?_); case h => omega) | (refine Need.mk ?h ?_; case h => first | omega | (intro _; rfl) | assumption | (simp <;> omega)) | refine Ix.zero ?_ | refine Ix.one ?_ | refine Ix.two ?_ | refine Ix.nat ?_ | refine Ix.add ?_ | (apply Go.Eng.Pin.mk; apply Exists.intro) | apply Go.Eng.Pinned.mk rfl rfl | (apply Go.Eng.PinH.mk; apply Exists.intro; apply Exists.intro) | exact Go.Eng.Fin0.mk | refine Go.Eng.Chk.mk ?_ ?_ | refine Own.l ?_ | fail))
                refine ⟨(i + 1 : Nat), by show n.toNat - (i + 1) < n.toNat - i; omega, by show i + 1 ≤ n.toNat; omega, ?_⟩
                (repeat' (first | exact trivial | rfl | exact Nat.one_pos | (refine And.intro ?_ ?_) | omega | ((conv => whnf); (refine And.intro ?_ ?_)) | ((conv => whnf); exact trivial)))
                exact hrs.symm
              · rename_i b2
                rw [if_neg (fun e => b2 (hri.1 e).2)] at hrs
                (repeat' ((conv => whnf); first | (refine Giv.mk fun _ => ?_) | (refine Alt.l (Need.mk ?h ?_); case h => omega) | (refine Alt.r (Need.mk ?h ?_); case h => omega) | (refine Need.mk ?h ?_; case h => first | omega | (intro _; rfl) | assumption | (simp <;> omega)) | refine Ix.zero ?_ | refine Ix.one ?_ | refine Ix.two ?_ | refine Ix.nat ?_ | refine Ix.add ?_ | (apply Go.Eng.Pin.mk; apply Exists.intro) | apply Go.Eng.Pinned.mk rfl rfl | (apply Go.Eng.PinH.mk; apply Exists.intro; apply Exists.intro) | exact Go.Eng.Fin0.mk | refine Go.Eng.Chk.mk ?_ ?_ | refine Own.l ?_ | fail))
                refine ⟨(i + 1 : Nat), by show n.toNat - (i + 1) < n.toNat - i; omega, by show i + 1 ≤ n.toNat; omega, ?_⟩
                (repeat' (first | exact trivial | rfl | exact Nat.one_pos | (refine And.intro ?_ ?_) | omega | ((conv => whnf); (refine And.intro ?_ ?_)) | ((conv => whnf); exact trivial)))
                exact hrs.symm
            · rename_i b1
              rw [hgt, decide_eq_true_iff] at b1
              rw [if_neg (fun e => b1 (hri.1 e).1)] at hrs
              (repeat' ((conv => whnf); first | (refine Giv.mk fun _ => ?_) | (refine Alt.l (Need.mk ?h ?_); case h => omega) | (refine Alt.r (Need.mk ?h ?_); case h => omega) | (refine Need.mk ?h ?_; case h => first | omega | (intro _; rfl) | assumption | (simp <;> omega)) | refine Ix.zero ?_ | refine Ix.one ?_ | refine Ix.two ?_ | refine Ix.nat ?_ | refine Ix.add ?_ | (apply Go.Eng.Pin.mk; apply Exists.intro) | apply Go.Eng.Pinned.mk rfl rfl | (apply Go.Eng.PinH.mk; apply Exists.intro; apply Exists.intro) | exact Go.Eng.Fin0.mk | refine Go.Eng.Chk.mk ?_ ?_ | refine Own.l ?_ | fail))
              refine ⟨(i + 1 : Nat), by show n.toNat - (i + 1) < n.toNat - i; omega, by show i + 1 ≤ n.toNat; omega, ?_⟩
              (repeat' (first | exact trivial | rfl | exact Nat.one_pos | (refine And.intro ?_ ?_) | omega | ((conv => whnf); (refine And.intro ?_ ?_)) | ((conv => whnf); exact trivial)))
              exact hrs.symm
          · have hii : i = n.toNat := by omega
            subst hii
            (repeat' ((conv => whnf); first | (refine Giv.mk fun _ => ?_) | (refine Alt.l (Need.mk ?h ?_); case h => omega) | (refine Alt.r (Need.mk ?h ?_); case h => omega) | (refine Need.mk ?h ?_; case h => first | omega | (intro _; rfl) | assumption | (simp <;> omega)) | refine Ix.zero ?_ | refine Ix.one ?_ | refine Ix.two ?_ | refine Ix.nat ?_ | refine Ix.add ?_ | (apply Go.Eng.Pin.mk; apply Exists.intro) | apply Go.Eng.Pinned.mk rfl rfl | (apply Go.Eng.PinH.mk; apply Exists.intro; apply Exists.intro) | exact Go.Eng.Fin0.mk | refine Go.Eng.Chk.mk ?_ ?_ | refine Own.l ?_ | (refine Br.mkY ?h ?_; case h => first | omega | assumption) | (refine Br.mkN ?h ?_; case h => first | omega | assumption | exact not_not_intro (by assumption)) | fail))
            (conv => whnf)
            refine ⟨?_, ⟨rfl, ?_⟩, trivial⟩
            · (conv => whnf)
              unfold readyRes; rw [if_pos ⟨h, hb⟩]
            · unfold readyErr; rw [if_neg (fun e => e h), if_neg (by rw [hb]; simp)]
def c34 : Con := mkCon 34 true fun args K => match args with | [.val (.int .i64 n), .seq (.pair (.int .i64) (.int .i64)) l, .seq (.int .i64) st] => K (.tup [Ls (readyRes n l st), I (readyErr n l st)]) | _ => False
theorem k34 : ConOK Try.prog c34 := by
  refine conOK_of rfl (enters_of Try.func34 (by kernel_rfl) rfl) ?_
  intro args K h
  simp only [c34] at h
  split at h
  · rename_i n l st; exact ⟨_, h, tri_of_body (Γ := [c62, c63]) (by simp [k62, k63]) Try.func34 (by simp [Try.ntmps34]) rfl (b34 n l st)⟩
  · exact h.elim
/-! ### The reference's Order -/
theorem b33 (n : Int) (l : List (Int × Int)) : body Try.prog [c62, c63] { asks := [(0, [2]), (2, [])] } true Try.f33 [I n, Ps l] (.tup [Ps (orderRes n l), I (orderErr n l)]) := by
  (repeat' ((conv => whnf); first | (refine Giv.mk fun _ => ?_) | (refine Alt.l (Need.mk ?h ?_); case h => omega) | (refine Alt.r (Need.mk ?h ?_); case h => omega) | (refine Need.mk ?h ?_; case h => first | omega | (intro _; rfl) | assumption | (simp <;> omega)) | refine Ix.zero ?_ | refine Ix.one ?_ | refine Ix.two ?_ | refine Ix.nat ?_ | refine Ix.add ?_ | (apply Go.Eng.Pin.mk; apply Exists.intro) | apply Go.Eng.Pinned.mk rfl rfl | (apply Go.Eng.PinH.mk; apply Exists.intro; apply Exists.intro) | exact Go.Eng.Fin0.mk | refine Go.Eng.Chk.mk ?_ ?_ | refine Own.l ?_ | fail))
  (refine Br.mk (fun _ => ?_) (fun _ => ?_))
  · rename_i h
    (repeat' ((conv => whnf); first | (refine Giv.mk fun _ => ?_) | (refine Alt.l (Need.mk ?h ?_); case h => omega) | (refine Alt.r (Need.mk ?h ?_); case h => omega) | (refine Need.mk ?h ?_; case h => first | omega | (intro _; rfl) | assumption | (simp <;> omega)) | refine Ix.zero ?_ | refine Ix.one ?_ | refine Ix.two ?_ | refine Ix.nat ?_ | refine Ix.add ?_ | (apply Go.Eng.Pin.mk; apply Exists.intro) | apply Go.Eng.Pinned.mk rfl rfl | (apply Go.Eng.PinH.mk; apply Exists.intro; apply Exists.intro) | exact Go.Eng.Fin0.mk | refine Go.Eng.Chk.mk ?_ ?_ | refine Own.l ?_ | fail))
    (conv => whnf)
    refine ⟨?_, ?_, trivial⟩
    · (conv => whnf)
      exact ((orderRes_bad h).1).symm
    · exact ⟨rfl, by unfold orderErr; rw [if_pos h]⟩
  · rename_i h
    have h : supE n l = 0 := Classical.not_not.1 h
    have hro := supE_rests h
    obtain ⟨r1, r2, r3, r4⟩ := id hro
    (repeat' ((conv => whnf); first | (refine Giv.mk fun _ => ?_) | (refine Alt.l (Need.mk ?h ?_); case h => omega) | (refine Alt.r (Need.mk ?h ?_); case h => omega) | (refine Need.mk ?h ?_; case h => first | omega | (intro _; rfl) | assumption | (simp <;> omega)) | refine Ix.zero ?_ | refine Ix.one ?_ | refine Ix.two ?_ | refine Ix.nat ?_ | refine Ix.add ?_ | (apply Go.Eng.Pin.mk; apply Exists.intro) | apply Go.Eng.Pinned.mk rfl rfl | (apply Go.Eng.PinH.mk; apply Exists.intro; apply Exists.intro) | exact Go.Eng.Fin0.mk | refine Go.Eng.Chk.mk ?_ ?_ | refine Own.l ?_ | fail))
    refine Need.mk (show 0 ≤ n ∧ n ≤ n ∧ n ≤ 140737488355328 ∧ n * ((1 : Nat) : Int) ≤ 140737488355328 by omega) ?_
    (repeat' ((conv => whnf); first | (refine Giv.mk fun _ => ?_) | (refine Alt.l (Need.mk ?h ?_); case h => omega) | (refine Alt.r (Need.mk ?h ?_); case h => omega) | (refine Need.mk ?h ?_; case h => first | omega | (intro _; rfl) | assumption | (simp <;> omega)) | refine Ix.zero ?_ | refine Ix.one ?_ | refine Ix.two ?_ | refine Ix.nat ?_ | refine Ix.add ?_ | (apply Go.Eng.Pin.mk; apply Exists.intro) | apply Go.Eng.Pinned.mk rfl rfl | (apply Go.Eng.PinH.mk; apply Exists.intro; apply Exists.intro) | exact Go.Eng.Fin0.mk | refine Go.Eng.Chk.mk ?_ ?_ | refine Own.l ?_ | fail))
    refine Ask.mk ⟨{ X := Nat, pre := fun k => k ≤ n.toNat ∧ (msAt (onL n l) n k).length = k, mod := fun k _ => [(7, .ref 2 1), (8, I k)], objs := [2], heap := fun k _ => [.vec 1 Two [] 29, .vec 1 .bool (bitsL n (putL (words n) (msAt (onL n l) n k))) 4, .vec 1 Two (stepsOf (restL n l) (msAt (onL n l) n k)) 29], mu := fun k => n.toNat - k }, rfl, ?_⟩
    (repeat' ((conv => whnf); first | (refine Giv.mk fun _ => ?_) | (refine Alt.l (Need.mk ?h ?_); case h => omega) | (refine Alt.r (Need.mk ?h ?_); case h => omega) | (refine Need.mk ?h ?_; case h => first | omega | (intro _; rfl) | assumption | (simp <;> omega)) | refine Ix.zero ?_ | refine Ix.one ?_ | refine Ix.two ?_ | refine Ix.nat ?_ | refine Ix.add ?_ | (apply Go.Eng.Pin.mk; apply Exists.intro) | apply Go.Eng.Pinned.mk rfl rfl | (apply Go.Eng.PinH.mk; apply Exists.intro; apply Exists.intro) | exact Go.Eng.Fin0.mk | refine Go.Eng.Chk.mk ?_ ?_ | refine Own.l ?_ | fail))
    refine ⟨⟨(0 : Nat), ⟨Nat.zero_le _, rfl⟩, ?_⟩, fun (k : Nat) hk => ?_⟩
    · (repeat' (first | exact trivial | rfl | exact Nat.one_pos | (refine And.intro ?_ ?_) | omega | ((conv => whnf); (refine And.intro ?_ ?_)) | ((conv => whnf); exact trivial)))
      exact (bitsL_nil n).symm
    · obtain ⟨hk, hlen⟩ := hk
      have hin := msAt_in (onL n l) n k
      obtain ⟨w1, w2⟩ := putL_all r2 hin
      have hbl := bitsL_len n (putL (words n) (msAt (onL n l) n k))
      have hpre : ∀ q, q < l.length → (l.getD q (0, 0)).2 < (bitsL n (putL (words n) (msAt (onL n l) n k))).length := fun q hq => by
        have := r4 q hq
        omega
      have hsl := stepsOf_len (restL n l) (msAt (onL n l) n k)
      (repeat' ((conv => whnf); first | (refine Giv.mk fun _ => ?_) | (refine Alt.l (Need.mk ?h ?_); case h => omega) | (refine Alt.r (Need.mk ?h ?_); case h => omega) | (refine Need.mk ?h ?_; case h => first | omega | (intro _; rfl) | assumption | (simp <;> omega)) | refine Ix.zero ?_ | refine Ix.one ?_ | refine Ix.two ?_ | refine Ix.nat ?_ | refine Ix.add ?_ | (apply Go.Eng.Pin.mk; apply Exists.intro) | apply Go.Eng.Pinned.mk rfl rfl | (apply Go.Eng.PinH.mk; apply Exists.intro; apply Exists.intro) | exact Go.Eng.Fin0.mk | refine Go.Eng.Chk.mk ?_ ?_ | refine Own.l ?_ | fail))
      (refine Br.mk (fun _ => ?_) (fun _ => ?_))
      · (repeat' ((conv => whnf); first | (refine Giv.mk fun _ => ?_) | (refine Alt.l (Need.mk ?h ?_); case h => omega) | (refine Alt.r (Need.mk ?h ?_); case h => omega) | (refine Need.mk ?h ?_; case h => first | omega | (intro _; rfl) | assumption | (simp <;> omega)) | refine Ix.zero ?_ | refine Ix.one ?_ | refine Ix.two ?_ | refine Ix.nat ?_ | refine Ix.add ?_ | (apply Go.Eng.Pin.mk; apply Exists.intro) | apply Go.Eng.Pinned.mk rfl rfl | (apply Go.Eng.PinH.mk; apply Exists.intro; apply Exists.intro) | exact Go.Eng.Fin0.mk | refine Go.Eng.Chk.mk ?_ ?_ | refine Own.l ?_ | fail))
        refine Ask.mk ⟨{ X := Nat, pre := fun j => j ≤ n.toNat, mod := fun j _ => [(9, I (nf (onL n l) n (putL (words n) (msAt (onL n l) n k)) j)), (10, I (n - 1 - j))], heap := fun j _ => [.vec 1 Two [] 29, .vec 1 .bool (bitsL n (putL (words n) (msAt (onL n l) n k))) 4, .vec 1 Two (stepsOf (restL n l) (msAt (onL n l) n k)) 29], mu := fun j => n.toNat - j }, rfl, ?_⟩
        (repeat' ((conv => whnf); first | (refine Giv.mk fun _ => ?_) | (refine Alt.l (Need.mk ?h ?_); case h => omega) | (refine Alt.r (Need.mk ?h ?_); case h => omega) | (refine Need.mk ?h ?_; case h => first | omega | (intro _; rfl) | assumption | (simp <;> omega)) | refine Ix.zero ?_ | refine Ix.one ?_ | refine Ix.two ?_ | refine Ix.nat ?_ | refine Ix.add ?_ | (apply Go.Eng.Pin.mk; apply Exists.intro) | apply Go.Eng.Pinned.mk rfl rfl | (apply Go.Eng.PinH.mk; apply Exists.intro; apply Exists.intro) | exact Go.Eng.Fin0.mk | refine Go.Eng.Chk.mk ?_ ?_ | refine Own.l ?_ | fail))
        refine ⟨⟨(0 : Nat), Nat.zero_le _, ?_⟩, fun (j : Nat) (hj : j ≤ n.toNat) => ?_⟩
        · (repeat' (first | exact trivial | rfl | exact Nat.one_pos | (refine And.intro ?_ ?_) | omega | ((conv => whnf); (refine And.intro ?_ ?_)) | ((conv => whnf); exact trivial)))
        · (repeat' ((conv => whnf); first | (refine Giv.mk fun _ => ?_) | (refine Alt.l (Need.mk ?h ?_); case h => omega) | (refine Alt.r (Need.mk ?h ?_); case h => omega) | (refine Need.mk ?h ?_; case h => first | omega | (intro _; rfl) | assumption | (simp <;> omega)) | refine Ix.zero ?_ | refine Ix.one ?_ | refine Ix.two ?_ | refine Ix.nat ?_ | refine Ix.add ?_ | (apply Go.Eng.Pin.mk; apply Exists.intro) | apply Go.Eng.Pinned.mk rfl rfl | (apply Go.Eng.PinH.mk; apply Exists.intro; apply Exists.intro) | exact Go.Eng.Fin0.mk | refine Go.Eng.Chk.mk ?_ ?_ | refine Own.l ?_ | fail))
          (refine Br.mk (fun _ => ?_) (fun _ => ?_))
          · have hri := ready_iff hro (putL (words n) (msAt (onL n l) n k)) (m := n - 1 - j) (by omega)
            have hgt := bitsL_get n (putL (words n) (msAt (onL n l) n k)) (n - 1 - j).toNat (by omega)
            rw [Int.toNat_of_nonneg (by omega)] at hgt
            have hnf : nf (onL n l) n (putL (words n) (msAt (onL n l) n k)) (j + 1) = if readyP (onL n l) (putL (words n) (msAt (onL n l) n k)) (n - 1 - j) then n - 1 - j else nf (onL n l) n (putL (words n) (msAt (onL n l) n k)) j := rfl
            (repeat' ((conv => whnf); first | (refine Giv.mk fun _ => ?_) | (refine Alt.l (Need.mk ?h ?_); case h => omega) | (refine Alt.r (Need.mk ?h ?_); case h => omega) | (refine Need.mk ?h ?_; case h => first | omega | (intro _; rfl) | assumption | (simp <;> omega)) | refine Ix.zero ?_ | refine Ix.one ?_ | refine Ix.two ?_ | refine Ix.nat ?_ | refine Ix.add ?_ | (apply Go.Eng.Pin.mk; apply Exists.intro) | apply Go.Eng.Pinned.mk rfl rfl | (apply Go.Eng.PinH.mk; apply Exists.intro; apply Exists.intro) | exact Go.Eng.Fin0.mk | refine Go.Eng.Chk.mk ?_ ?_ | refine Own.l ?_ | (refine Br.mkY ?h ?_; case h => first | omega | assumption) | (refine Br.mkN ?h ?_; case h => first | omega | assumption | exact not_not_intro (by assumption)) | fail))
            refine ix_at (n - 1 - j).toNat (by omega) ?_
            (repeat' ((conv => whnf); first | (refine Giv.mk fun _ => ?_) | (refine Alt.l (Need.mk ?h ?_); case h => omega) | (refine Alt.r (Need.mk ?h ?_); case h => omega) | (refine Need.mk ?h ?_; case h => first | omega | (intro _; rfl) | assumption | (simp <;> omega)) | refine Ix.zero ?_ | refine Ix.one ?_ | refine Ix.two ?_ | refine Ix.nat ?_ | refine Ix.add ?_ | (apply Go.Eng.Pin.mk; apply Exists.intro) | apply Go.Eng.Pinned.mk rfl rfl | (apply Go.Eng.PinH.mk; apply Exists.intro; apply Exists.intro) | exact Go.Eng.Fin0.mk | refine Go.Eng.Chk.mk ?_ ?_ | refine Own.l ?_ | (refine Br.mkY ?h ?_; case h => first | omega | assumption) | (refine Br.mkN ?h ?_; case h => first | omega | assumption | exact not_not_intro (by assumption)) | fail))
            (refine Br.mk (fun _ => ?_) (fun _ => ?_))
            · rename_i b1
              rw [hgt, decide_eq_true_iff] at b1
              (repeat' ((conv => whnf); first | (refine Giv.mk fun _ => ?_) | (refine Alt.l (Need.mk ?h ?_); case h => omega) | (refine Alt.r (Need.mk ?h ?_); case h => omega) | (refine Need.mk ?h ?_; case h => first | omega | (intro _; rfl) | assumption | (simp <;> omega)) | refine Ix.zero ?_ | refine Ix.one ?_ | refine Ix.two ?_ | refine Ix.nat ?_ | refine Ix.add ?_ | (apply Go.Eng.Pin.mk; apply Exists.intro) | apply Go.Eng.Pinned.mk rfl rfl | (apply Go.Eng.PinH.mk; apply Exists.intro; apply Exists.intro) | exact Go.Eng.Fin0.mk | refine Go.Eng.Chk.mk ?_ ?_ | refine Own.l ?_ | (refine Br.mkY ?h ?_; case h => first | omega | assumption) | (refine Br.mkN ?h ?_; case h => first | omega | assumption | exact not_not_intro (by assumption)) | fail))
              (refine Br.mk (fun _ => ?_) (fun _ => ?_))
              · rename_i b2
                rw [if_pos (hri.2 ⟨b1, b2⟩)] at hnf
                (repeat' ((conv => whnf); first | (refine Giv.mk fun _ => ?_) | (refine Alt.l (Need.mk ?h ?_); case h => omega) | (refine Alt.r (Need.mk ?h ?_); case h => omega) | (refine Need.mk ?h ?_; case h => first | omega | (intro _; rfl) | assumption | (simp <;> omega)) | refine Ix.zero ?_ | refine Ix.one ?_ | refine Ix.two ?_ | refine Ix.nat ?_ | refine Ix.add ?_ | (apply Go.Eng.Pin.mk; apply Exists.intro) | apply Go.Eng.Pinned.mk rfl rfl | (apply Go.Eng.PinH.mk; apply Exists.intro; apply Exists.intro) | exact Go.Eng.Fin0.mk | refine Go.Eng.Chk.mk ?_ ?_ | refine Own.l ?_ | (refine Br.mkY ?h ?_; case h => first | omega | assumption) | (refine Br.mkN ?h ?_; case h => first | omega | assumption | exact not_not_intro (by assumption)) | fail))
                refine ⟨(j + 1 : Nat), by show n.toNat - (j + 1) < n.toNat - j; omega, by show j + 1 ≤ n.toNat; omega, ?_⟩
                (repeat' (first | exact trivial | rfl | exact Nat.one_pos | (refine And.intro ?_ ?_) | omega | ((conv => whnf); (refine And.intro ?_ ?_)) | ((conv => whnf); exact trivial)))
              · rename_i b2
                rw [if_neg (fun e => b2 (hri.1 e).2)] at hnf
                (repeat' ((conv => whnf); first | (refine Giv.mk fun _ => ?_) | (refine Alt.l (Need.mk ?h ?_); case h => omega) | (refine Alt.r (Need.mk ?h ?_); case h => omega) | (refine Need.mk ?h ?_; case h => first | omega | (intro _; rfl) | assumption | (simp <;> omega)) | refine Ix.zero ?_ | refine Ix.one ?_ | refine Ix.two ?_ | refine Ix.nat ?_ | refine Ix.add ?_ | (apply Go.Eng.Pin.mk; apply Exists.intro) | apply Go.Eng.Pinned.mk rfl rfl | (apply Go.Eng.PinH.mk; apply Exists.intro; apply Exists.intro) | exact Go.Eng.Fin0.mk | refine Go.Eng.Chk.mk ?_ ?_ | refine Own.l ?_ | (refine Br.mkY ?h ?_; case h => first | omega | assumption) | (refine Br.mkN ?h ?_; case h => first | omega | assumption | exact not_not_intro (by assumption)) | fail))
                refine ⟨(j + 1 : Nat), by show n.toNat - (j + 1) < n.toNat - j; omega, by show j + 1 ≤ n.toNat; omega, ?_⟩
                (repeat' (first | exact trivial | rfl | exact Nat.one_pos | (refine And.intro ?_ ?_) | omega | ((conv => whnf); (refine And.intro ?_ ?_)) | ((conv => whnf); exact trivial)))
            · rename_i b1
              rw [hgt, decide_eq_true_iff] at b1
              rw [if_neg (fun e => b1 (hri.1 e).1)] at hnf
              (repeat' ((conv => whnf); first | (refine Giv.mk fun _ => ?_) | (refine Alt.l (Need.mk ?h ?_); case h => omega) | (refine Alt.r (Need.mk ?h ?_); case h => omega) | (refine Need.mk ?h ?_; case h => first | omega | (intro _; rfl) | assumption | (simp <;> omega)) | refine Ix.zero ?_ | refine Ix.one ?_ | refine Ix.two ?_ | refine Ix.nat ?_ | refine Ix.add ?_ | (apply Go.Eng.Pin.mk; apply Exists.intro) | apply Go.Eng.Pinned.mk rfl rfl | (apply Go.Eng.PinH.mk; apply Exists.intro; apply Exists.intro) | exact Go.Eng.Fin0.mk | refine Go.Eng.Chk.mk ?_ ?_ | refine Own.l ?_ | (refine Br.mkY ?h ?_; case h => first | omega | assumption) | (refine Br.mkN ?h ?_; case h => first | omega | assumption | exact not_not_intro (by assumption)) | fail))
              refine ⟨(j + 1 : Nat), by show n.toNat - (j + 1) < n.toNat - j; omega, by show j + 1 ≤ n.toNat; omega, ?_⟩
              (repeat' (first | exact trivial | rfl | exact Nat.one_pos | (refine And.intro ?_ ?_) | omega | ((conv => whnf); (refine And.intro ?_ ?_)) | ((conv => whnf); exact trivial)))
          · have hjj : j = n.toNat := by omega
            subst hjj
            have hnx := nf_nxt (onL n l) r2 (msAt (onL n l) n k)
            have hnb := nf_bound (onL n l) r2 (putL (words n) (msAt (onL n l) n k)) n.toNat (Nat.le_refl _)
            (repeat' ((conv => whnf); first | (refine Giv.mk fun _ => ?_) | (refine Alt.l (Need.mk ?h ?_); case h => omega) | (refine Alt.r (Need.mk ?h ?_); case h => omega) | (refine Need.mk ?h ?_; case h => first | omega | (intro _; rfl) | assumption | (simp <;> omega)) | refine Ix.zero ?_ | refine Ix.one ?_ | refine Ix.two ?_ | refine Ix.nat ?_ | refine Ix.add ?_ | (apply Go.Eng.Pin.mk; apply Exists.intro) | apply Go.Eng.Pinned.mk rfl rfl | (apply Go.Eng.PinH.mk; apply Exists.intro; apply Exists.intro) | exact Go.Eng.Fin0.mk | refine Go.Eng.Chk.mk ?_ ?_ | refine Own.l ?_ | fail))
            (refine Br.mk (fun _ => ?_) (fun _ => ?_))
            · obtain ⟨o1, o2⟩ := order_cycle (k := k) h (by omega) hlen (by omega)
              (repeat' ((conv => whnf); first | (refine Giv.mk fun _ => ?_) | (refine Alt.l (Need.mk ?h ?_); case h => omega) | (refine Alt.r (Need.mk ?h ?_); case h => omega) | (refine Need.mk ?h ?_; case h => first | omega | (intro _; rfl) | assumption | (simp <;> omega)) | refine Ix.zero ?_ | refine Ix.one ?_ | refine Ix.two ?_ | refine Ix.nat ?_ | refine Ix.add ?_ | (apply Go.Eng.Pin.mk; apply Exists.intro) | apply Go.Eng.Pinned.mk rfl rfl | (apply Go.Eng.PinH.mk; apply Exists.intro; apply Exists.intro) | exact Go.Eng.Fin0.mk | refine Go.Eng.Chk.mk ?_ ?_ | refine Own.l ?_ | (refine Br.mkY ?h ?_; case h => first | omega | assumption) | (refine Br.mkN ?h ?_; case h => first | omega | assumption | exact not_not_intro (by assumption)) | fail))
              (conv => whnf)
              refine ⟨?_, ⟨rfl, o1.symm⟩, trivial⟩
              (conv => whnf)
              exact o2.symm
            · rename_i h0
              have hmn : 0 ≤ nf (onL n l) n (putL (words n) (msAt (onL n l) n k)) n.toNat ∧ nf (onL n l) n (putL (words n) (msAt (onL n l) n k)) n.toNat < n := by omega
              have hms : msAt (onL n l) n (k + 1) = msAt (onL n l) n k ++ [nf (onL n l) n (putL (words n) (msAt (onL n l) n k)) n.toNat] := by
                rw [msAt_succ, if_pos (by omega), hnx]
              have hra := rest_any (l := l) hmn
              have hset := bitsL_put w1 w2 hmn
              rw [← putL_snoc, ← hms] at hset
              have hl1 : (msAt (onL n l) n (k + 1)).length = k + 1 := by rw [hms, List.length_append, hlen]; rfl
              have hst : stepsOf (restL n l) (msAt (onL n l) n (k + 1)) = stepsOf (restL n l) (msAt (onL n l) n k) ++ stepOf (restL n l) (nf (onL n l) n (putL (words n) (msAt (onL n l) n k)) n.toNat) := by
                rw [hms, stepsOf_append, show stepsOf (restL n l) [nf (onL n l) n (putL (words n) (msAt (onL n l) n k)) n.toNat] = stepOf _ _ from List.append_nil _]
              unfold stepOf at hst
              rw [hra] at hst
              (repeat' ((conv => whnf); first | (refine Giv.mk fun _ => ?_) | (refine Alt.l (Need.mk ?h ?_); case h => omega) | (refine Alt.r (Need.mk ?h ?_); case h => omega) | (refine Need.mk ?h ?_; case h => first | omega | (intro _; rfl) | assumption | (simp <;> omega)) | refine Ix.zero ?_ | refine Ix.one ?_ | refine Ix.two ?_ | refine Ix.nat ?_ | refine Ix.add ?_ | (apply Go.Eng.Pin.mk; apply Exists.intro) | apply Go.Eng.Pinned.mk rfl rfl | (apply Go.Eng.PinH.mk; apply Exists.intro; apply Exists.intro) | exact Go.Eng.Fin0.mk | refine Go.Eng.Chk.mk ?_ ?_ | refine Own.l ?_ | (refine Br.mkY ?h ?_; case h => first | omega | assumption) | (refine Br.mkN ?h ?_; case h => first | omega | assumption | exact not_not_intro (by assumption)) | fail))
              (refine Br.mk (fun _ => ?_) (fun _ => ?_))
              · rename_i hf
                rw [if_neg hf] at hst
                (repeat' ((conv => whnf); first | (refine Giv.mk fun _ => ?_) | (refine Alt.l (Need.mk ?h ?_); case h => omega) | (refine Alt.r (Need.mk ?h ?_); case h => omega) | (refine Need.mk ?h ?_; case h => first | omega | (intro _; rfl) | assumption | (simp <;> omega)) | refine Ix.zero ?_ | refine Ix.one ?_ | refine Ix.two ?_ | refine Ix.nat ?_ | refine Ix.add ?_ | (apply Go.Eng.Pin.mk; apply Exists.intro) | apply Go.Eng.Pinned.mk rfl rfl | (apply Go.Eng.PinH.mk; apply Exists.intro; apply Exists.intro) | exact Go.Eng.Fin0.mk | refine Go.Eng.Chk.mk ?_ ?_ | refine Own.l ?_ | (refine Br.mkY ?h ?_; case h => first | omega | assumption) | (refine Br.mkN ?h ?_; case h => first | omega | assumption | exact not_not_intro (by assumption)) | fail))
                refine ix_at (nf (onL n l) n (putL (words n) (msAt (onL n l) n k)) n.toNat).toNat (by omega) ?_
                (repeat' ((conv => whnf); first | (refine Giv.mk fun _ => ?_) | (refine Alt.l (Need.mk ?h ?_); case h => omega) | (refine Alt.r (Need.mk ?h ?_); case h => omega) | (refine Need.mk ?h ?_; case h => first | omega | (intro _; rfl) | assumption | (simp <;> omega)) | refine Ix.zero ?_ | refine Ix.one ?_ | refine Ix.two ?_ | refine Ix.nat ?_ | refine Ix.add ?_ | (apply Go.Eng.Pin.mk; apply Exists.intro) | apply Go.Eng.Pinned.mk rfl rfl | (apply Go.Eng.PinH.mk; apply Exists.intro; apply Exists.intro) | exact Go.Eng.Fin0.mk | refine Go.Eng.Chk.mk ?_ ?_ | refine Own.l ?_ | (refine Br.mkY ?h ?_; case h => first | omega | assumption) | (refine Br.mkN ?h ?_; case h => first | omega | assumption | exact not_not_intro (by assumption)) | fail))
                refine ⟨(k + 1 : Nat), by show n.toNat - (k + 1) < n.toNat - k; omega, ⟨by show k + 1 ≤ n.toNat; omega, hl1⟩, ?_⟩
                (repeat' (first | exact trivial | rfl | exact Nat.one_pos | (refine And.intro ?_ ?_) | omega | ((conv => whnf); (refine And.intro ?_ ?_)) | ((conv => whnf); exact trivial)))
                · exact hset
                · exact Eq.trans (by simp) hst.symm
              · rename_i hf
                rw [if_pos (Classical.not_not.1 hf)] at hst
                (repeat' ((conv => whnf); first | (refine Giv.mk fun _ => ?_) | (refine Alt.l (Need.mk ?h ?_); case h => omega) | (refine Alt.r (Need.mk ?h ?_); case h => omega) | (refine Need.mk ?h ?_; case h => first | omega | (intro _; rfl) | assumption | (simp <;> omega)) | refine Ix.zero ?_ | refine Ix.one ?_ | refine Ix.two ?_ | refine Ix.nat ?_ | refine Ix.add ?_ | (apply Go.Eng.Pin.mk; apply Exists.intro) | apply Go.Eng.Pinned.mk rfl rfl | (apply Go.Eng.PinH.mk; apply Exists.intro; apply Exists.intro) | exact Go.Eng.Fin0.mk | refine Go.Eng.Chk.mk ?_ ?_ | refine Own.l ?_ | (refine Br.mkY ?h ?_; case h => first | omega | assumption) | (refine Br.mkN ?h ?_; case h => first | omega | assumption | exact not_not_intro (by assumption)) | fail))
                refine ix_at (nf (onL n l) n (putL (words n) (msAt (onL n l) n k)) n.toNat).toNat (by omega) ?_
                (repeat' ((conv => whnf); first | (refine Giv.mk fun _ => ?_) | (refine Alt.l (Need.mk ?h ?_); case h => omega) | (refine Alt.r (Need.mk ?h ?_); case h => omega) | (refine Need.mk ?h ?_; case h => first | omega | (intro _; rfl) | assumption | (simp <;> omega)) | refine Ix.zero ?_ | refine Ix.one ?_ | refine Ix.two ?_ | refine Ix.nat ?_ | refine Ix.add ?_ | (apply Go.Eng.Pin.mk; apply Exists.intro) | apply Go.Eng.Pinned.mk rfl rfl | (apply Go.Eng.PinH.mk; apply Exists.intro; apply Exists.intro) | exact Go.Eng.Fin0.mk | refine Go.Eng.Chk.mk ?_ ?_ | refine Own.l ?_ | (refine Br.mkY ?h ?_; case h => first | omega | assumption) | (refine Br.mkN ?h ?_; case h => first | omega | assumption | exact not_not_intro (by assumption)) | fail))
                refine ⟨(k + 1 : Nat), by show n.toNat - (k + 1) < n.toNat - k; omega, ⟨by show k + 1 ≤ n.toNat; omega, hl1⟩, ?_⟩
                (repeat' (first | exact trivial | rfl | exact Nat.one_pos | (refine And.intro ?_ ?_) | omega | ((conv => whnf); (refine And.intro ?_ ?_)) | ((conv => whnf); exact trivial)))
                · exact hset
                · exact hst.symm
      · have hkk : k = n.toNat := by omega
        subst hkk
        obtain ⟨o1, o2⟩ := order_full h r2 hlen
        (repeat' ((conv => whnf); first | (refine Giv.mk fun _ => ?_) | (refine Alt.l (Need.mk ?h ?_); case h => omega) | (refine Alt.r (Need.mk ?h ?_); case h => omega) | (refine Need.mk ?h ?_; case h => first | omega | (intro _; rfl) | assumption | (simp <;> omega)) | refine Ix.zero ?_ | refine Ix.one ?_ | refine Ix.two ?_ | refine Ix.nat ?_ | refine Ix.add ?_ | (apply Go.Eng.Pin.mk; apply Exists.intro) | apply Go.Eng.Pinned.mk rfl rfl | (apply Go.Eng.PinH.mk; apply Exists.intro; apply Exists.intro) | exact Go.Eng.Fin0.mk | refine Go.Eng.Chk.mk ?_ ?_ | refine Own.l ?_ | (refine Br.mkY ?h ?_; case h => first | omega | assumption) | (refine Br.mkN ?h ?_; case h => first | omega | assumption | exact not_not_intro (by assumption)) | fail))
        (conv => whnf)
        refine ⟨?_, ⟨rfl, o1.symm⟩, trivial⟩
        (conv => whnf)
        exact o2.symm
def c33 : Con := mkCon 33 true fun args K => match args with | [.val (.int .i64 n), .seq (.pair (.int .i64) (.int .i64)) l] => K (.tup [Ps (orderRes n l), I (orderErr n l)]) | _ => False
theorem k33 : ConOK Try.prog c33 := by
  refine conOK_of rfl (enters_of Try.func33 (by kernel_rfl) rfl) ?_
  intro args K h
  simp only [c33] at h
  split at h
  · rename_i n l; exact ⟨_, h, tri_of_body (Γ := [c62, c63]) (by simp [k62, k63]) Try.func33 (by simp [Try.ntmps33]) rfl (b33 n l)⟩
  · exact h.elim
/-! ### The reference's Check -/
theorem wf_doAt {on : List (List Int)} {rs : List Bool} {n : Int} (hn : 0 ≤ n) {S : List (Int × Int)} (hc : chkE n S = 0) {i : Nat} (hi : i ≤ S.length) (h : (doAt on rs n S i).err = false) : WOk (doAt on rs n S i).st ∧ WOk (doAt on rs n S i).pr ∧ ((doAt on rs n S i).st.length : Int) = (n + 63) / 64 ∧ ((doAt on rs n S i).pr.length : Int) = (n + 63) / 64 ∧ memsTo (doAt on rs n S i).st (64 * (doAt on rs n S i).st.length) = memL n fun j => decide (hasW (doAt on rs n S i).st j) := by
  obtain ⟨e1, e2⟩ := doAt_wF i hi h
  obtain ⟨l1, l2, o1, o2, s1, s2, b1, b2⟩ := wf_take hn (chkE_ok hn hc) i hi
  rw [e1, e2]
  refine ⟨o1, o2, l1, l2, ?_⟩
  exact memsTo_eq hn l1 (fun j => decide_eq_true_iff.symm) fun j hj => b1 j ((s1 j).1 (of_decide_eq_true hj))
theorem b35 (n : Int) (l S : List (Int × Int)) : body Try.prog [c58, c62, c63] { asks := [(0, []), (3, [])] } true Try.f35 [I n, Ps l, Ps S] (I (checkE n l S)) := by
  (repeat' ((conv => whnf); first | (refine Giv.mk fun _ => ?_) | (refine Alt.l (Need.mk ?h ?_); case h => omega) | (refine Alt.r (Need.mk ?h ?_); case h => omega) | (refine Need.mk ?h ?_; case h => first | omega | (intro _; rfl) | assumption | (simp <;> omega)) | refine Ix.zero ?_ | refine Ix.one ?_ | refine Ix.two ?_ | refine Ix.nat ?_ | refine Ix.add ?_ | (apply Go.Eng.Pin.mk; apply Exists.intro) | apply Go.Eng.Pinned.mk rfl rfl | (apply Go.Eng.PinH.mk; apply Exists.intro; apply Exists.intro) | exact Go.Eng.Fin0.mk | refine Go.Eng.Chk.mk ?_ ?_ | refine Own.l ?_ | fail))
  (refine Br.mk (fun _ => ?_) (fun _ => ?_))
  · rename_i h
    (repeat' ((conv => whnf); first | (refine Giv.mk fun _ => ?_) | (refine Alt.l (Need.mk ?h ?_); case h => omega) | (refine Alt.r (Need.mk ?h ?_); case h => omega) | (refine Need.mk ?h ?_; case h => first | omega | (intro _; rfl) | assumption | (simp <;> omega)) | refine Ix.zero ?_ | refine Ix.one ?_ | refine Ix.two ?_ | refine Ix.nat ?_ | refine Ix.add ?_ | (apply Go.Eng.Pin.mk; apply Exists.intro) | apply Go.Eng.Pinned.mk rfl rfl | (apply Go.Eng.PinH.mk; apply Exists.intro; apply Exists.intro) | exact Go.Eng.Fin0.mk | refine Go.Eng.Chk.mk ?_ ?_ | refine Own.l ?_ | fail))
    (conv => whnf)
    exact ⟨rfl, by unfold checkE; rw [if_pos h]⟩
  rename_i h
  have h := Classical.not_not.1 h
  have hro := supE_rests h
  obtain ⟨r1, r2, r3, r4⟩ := id hro
  (repeat' ((conv => whnf); first | (refine Giv.mk fun _ => ?_) | (refine Alt.l (Need.mk ?h ?_); case h => omega) | (refine Alt.r (Need.mk ?h ?_); case h => omega) | (refine Need.mk ?h ?_; case h => first | omega | (intro _; rfl) | assumption | (simp <;> omega)) | refine Ix.zero ?_ | refine Ix.one ?_ | refine Ix.two ?_ | refine Ix.nat ?_ | refine Ix.add ?_ | (apply Go.Eng.Pin.mk; apply Exists.intro) | apply Go.Eng.Pinned.mk rfl rfl | (apply Go.Eng.PinH.mk; apply Exists.intro; apply Exists.intro) | exact Go.Eng.Fin0.mk | refine Go.Eng.Chk.mk ?_ ?_ | refine Own.l ?_ | fail))
  (refine Br.mk (fun _ => ?_) (fun _ => ?_))
  · rename_i hc
    (repeat' ((conv => whnf); first | (refine Giv.mk fun _ => ?_) | (refine Alt.l (Need.mk ?h ?_); case h => omega) | (refine Alt.r (Need.mk ?h ?_); case h => omega) | (refine Need.mk ?h ?_; case h => first | omega | (intro _; rfl) | assumption | (simp <;> omega)) | refine Ix.zero ?_ | refine Ix.one ?_ | refine Ix.two ?_ | refine Ix.nat ?_ | refine Ix.add ?_ | (apply Go.Eng.Pin.mk; apply Exists.intro) | apply Go.Eng.Pinned.mk rfl rfl | (apply Go.Eng.PinH.mk; apply Exists.intro; apply Exists.intro) | exact Go.Eng.Fin0.mk | refine Go.Eng.Chk.mk ?_ ?_ | refine Own.l ?_ | fail))
    (conv => whnf)
    exact ⟨rfl, by unfold checkE; rw [if_neg (fun e => e h), if_pos hc]⟩
  rename_i hc
  have hc := Classical.not_not.1 hc
  have hco := chkE_ok r2 hc
  (repeat' ((conv => whnf); first | (refine Giv.mk fun _ => ?_) | (refine Alt.l (Need.mk ?h ?_); case h => omega) | (refine Alt.r (Need.mk ?h ?_); case h => omega) | (refine Need.mk ?h ?_; case h => first | omega | (intro _; rfl) | assumption | (simp <;> omega)) | refine Ix.zero ?_ | refine Ix.one ?_ | refine Ix.two ?_ | refine Ix.nat ?_ | refine Ix.add ?_ | (apply Go.Eng.Pin.mk; apply Exists.intro) | apply Go.Eng.Pinned.mk rfl rfl | (apply Go.Eng.PinH.mk; apply Exists.intro; apply Exists.intro) | exact Go.Eng.Fin0.mk | refine Go.Eng.Chk.mk ?_ ?_ | refine Own.l ?_ | fail))
  refine Need.mk (show 0 ≤ n ∧ n ≤ n ∧ n ≤ 140737488355328 ∧ n * ((1 : Nat) : Int) ≤ 140737488355328 by omega) ?_
  (repeat' ((conv => whnf); first | (refine Giv.mk fun _ => ?_) | (refine Alt.l (Need.mk ?h ?_); case h => omega) | (refine Alt.r (Need.mk ?h ?_); case h => omega) | (refine Need.mk ?h ?_; case h => first | omega | (intro _; rfl) | assumption | (simp <;> omega)) | refine Ix.zero ?_ | refine Ix.one ?_ | refine Ix.two ?_ | refine Ix.nat ?_ | refine Ix.add ?_ | (apply Go.Eng.Pin.mk; apply Exists.intro) | apply Go.Eng.Pinned.mk rfl rfl | (apply Go.Eng.PinH.mk; apply Exists.intro; apply Exists.intro) | exact Go.Eng.Fin0.mk | refine Go.Eng.Chk.mk ?_ ?_ | refine Own.l ?_ | fail))
  refine Need.mk (show 0 ≤ n ∧ n ≤ n ∧ n ≤ 140737488355328 ∧ n * ((1 : Nat) : Int) ≤ 140737488355328 by omega) ?_
  (repeat' ((conv => whnf); first | (refine Giv.mk fun _ => ?_) | (refine Alt.l (Need.mk ?h ?_); case h => omega) | (refine Alt.r (Need.mk ?h ?_); case h => omega) | (refine Need.mk ?h ?_; case h => first | omega | (intro _; rfl) | assumption | (simp <;> omega)) | refine Ix.zero ?_ | refine Ix.one ?_ | refine Ix.two ?_ | refine Ix.nat ?_ | refine Ix.add ?_ | (apply Go.Eng.Pin.mk; apply Exists.intro) | apply Go.Eng.Pinned.mk rfl rfl | (apply Go.Eng.PinH.mk; apply Exists.intro; apply Exists.intro) | exact Go.Eng.Fin0.mk | refine Go.Eng.Chk.mk ?_ ?_ | refine Own.l ?_ | fail))
  refine Ask.mk ⟨{ X := Nat, pre := fun i => i ≤ S.length ∧ (doAt (onL n l) (restL n l) n S i).err = false, mod := fun i _ => [(10, I i)], heap := fun i _ => [.vec 1 .bool (bitsL n (doAt (onL n l) (restL n l) n S i).st) 4, .vec 1 .bool (bitsL n (doAt (onL n l) (restL n l) n S i).pr) 4], mu := fun i => S.length - i }, rfl, ?_⟩
  (repeat' ((conv => whnf); first | (refine Giv.mk fun _ => ?_) | (refine Alt.l (Need.mk ?h ?_); case h => omega) | (refine Alt.r (Need.mk ?h ?_); case h => omega) | (refine Need.mk ?h ?_; case h => first | omega | (intro _; rfl) | assumption | (simp <;> omega)) | refine Ix.zero ?_ | refine Ix.one ?_ | refine Ix.two ?_ | refine Ix.nat ?_ | refine Ix.add ?_ | (apply Go.Eng.Pin.mk; apply Exists.intro) | apply Go.Eng.Pinned.mk rfl rfl | (apply Go.Eng.PinH.mk; apply Exists.intro; apply Exists.intro) | exact Go.Eng.Fin0.mk | refine Go.Eng.Chk.mk ?_ ?_ | refine Own.l ?_ | fail))
  refine ⟨⟨(0 : Nat), ⟨Nat.zero_le _, rfl⟩, ?_⟩, fun (i : Nat) hi => ?_⟩
  · (repeat' (first | exact trivial | rfl | exact Nat.one_pos | (refine And.intro ?_ ?_) | omega | ((conv => whnf); (refine And.intro ?_ ?_)) | ((conv => whnf); exact trivial)))
    · exact (bitsL_nil n).symm
    · exact (bitsL_nil n).symm
  · obtain ⟨hi, he⟩ := hi
    have hst := doAt_succ (onL n l) (restL n l) n S i
    unfold doStep at hst
    rw [if_neg (by rw [he]; simp)] at hst
    obtain ⟨o1, o2, l1, l2, hmm⟩ := wf_doAt r2 hc hi he
    have hb1 := bitsL_len n (doAt (onL n l) (restL n l) n S i).st
    have hb2 := bitsL_len n (doAt (onL n l) (restL n l) n S i).pr
    (repeat' ((conv => whnf); first | (refine Giv.mk fun _ => ?_) | (refine Alt.l (Need.mk ?h ?_); case h => omega) | (refine Alt.r (Need.mk ?h ?_); case h => omega) | (refine Need.mk ?h ?_; case h => first | omega | (intro _; rfl) | assumption | (simp <;> omega)) | refine Ix.zero ?_ | refine Ix.one ?_ | refine Ix.two ?_ | refine Ix.nat ?_ | refine Ix.add ?_ | (apply Go.Eng.Pin.mk; apply Exists.intro) | apply Go.Eng.Pinned.mk rfl rfl | (apply Go.Eng.PinH.mk; apply Exists.intro; apply Exists.intro) | exact Go.Eng.Fin0.mk | refine Go.Eng.Chk.mk ?_ ?_ | refine Own.l ?_ | fail))
    (refine Br.mk (fun _ => ?_) (fun _ => ?_))
    · have hlt : i < S.length := by omega
      obtain ⟨q1, q2, q3⟩ := hco i hlt
      have bad : ¬ canDo (onL n l) (restL n l) (doAt (onL n l) (restL n l) n S i) (S.getD i (0, 0)) → 26 = checkE n l S := fun hb => checkE_bad h hc hlt (by rw [hst, if_pos hb])
      have arr : ∀ {a b : List Int}, doAt (onL n l) (restL n l) n S (i + 1) = ⟨a, b, false⟩ → i + 1 ≤ S.length ∧ (doAt (onL n l) (restL n l) n S (i + 1)).err = false := fun e => ⟨hlt, by rw [e]⟩
      have hri := ready_iff hro (doAt (onL n l) (restL n l) n S i).st (m := (S.getD i (0, 0)).2) ⟨q2, q3⟩
      have g1 := bitsL_get n (doAt (onL n l) (restL n l) n S i).st (S.getD i (0, 0)).2.toNat (by omega)
      have g2 := bitsL_get n (doAt (onL n l) (restL n l) n S i).pr (S.getD i (0, 0)).2.toNat (by omega)
      rw [Int.toNat_of_nonneg q2] at g1 g2
      have hra := rest_any (l := l) ⟨q2, q3⟩
      have hs1 := bitsL_put o1 l1 ⟨q2, q3⟩
      have hs2 := bitsL_put o2 l2 ⟨q2, q3⟩
      have hs3 := bitsL_take o2 l2 ⟨q2, q3⟩
      have hpre : ∀ q, q < l.length → (l.getD q (0, 0)).2 < (bitsL n (doAt (onL n l) (restL n l) n S i).st).length := fun q hq => by
        have := r4 q hq
        omega
      (repeat' ((conv => whnf); first | (refine Giv.mk fun _ => ?_) | (refine Alt.l (Need.mk ?h ?_); case h => omega) | (refine Alt.r (Need.mk ?h ?_); case h => omega) | (refine Need.mk ?h ?_; case h => first | omega | (intro _; rfl) | assumption | (simp <;> omega)) | refine Ix.zero ?_ | refine Ix.one ?_ | refine Ix.two ?_ | refine Ix.nat ?_ | refine Ix.add ?_ | (apply Go.Eng.Pin.mk; apply Exists.intro) | apply Go.Eng.Pinned.mk rfl rfl | (apply Go.Eng.PinH.mk; apply Exists.intro; apply Exists.intro) | exact Go.Eng.Fin0.mk | refine Go.Eng.Chk.mk ?_ ?_ | refine Own.l ?_ | (refine Br.mkY ?h ?_; case h => first | omega | assumption) | (refine Br.mkN ?h ?_; case h => first | omega | assumption | exact not_not_intro (by assumption)) | fail))
      (refine Br.mk (fun _ => ?_) (fun _ => ?_))
      · rename_i k1
        have hcd : canDo (onL n l) (restL n l) (doAt (onL n l) (restL n l) n S i) (S.getD i (0, 0)) ↔ (¬ hasW (doAt (onL n l) (restL n l) n S i).st (S.getD i (0, 0)).2 ∧ allF l (bitsL n (doAt (onL n l) (restL n l) n S i).st) (S.getD i (0, 0)).2 l.length = true) ∧ (l.any (upP (S.getD i (0, 0)).2) = true ∨ hasW (doAt (onL n l) (restL n l) n S i).pr (S.getD i (0, 0)).2) := by unfold canDo; rw [if_pos k1, hri, hra]
        (repeat' ((conv => whnf); first | (refine Giv.mk fun _ => ?_) | (refine Alt.l (Need.mk ?h ?_); case h => omega) | (refine Alt.r (Need.mk ?h ?_); case h => omega) | (refine Need.mk ?h ?_; case h => first | omega | (intro _; rfl) | assumption | (simp <;> omega)) | refine Ix.zero ?_ | refine Ix.one ?_ | refine Ix.two ?_ | refine Ix.nat ?_ | refine Ix.add ?_ | (apply Go.Eng.Pin.mk; apply Exists.intro) | apply Go.Eng.Pinned.mk rfl rfl | (apply Go.Eng.PinH.mk; apply Exists.intro; apply Exists.intro) | exact Go.Eng.Fin0.mk | refine Go.Eng.Chk.mk ?_ ?_ | refine Own.l ?_ | (refine Br.mkY ?h ?_; case h => first | omega | assumption) | (refine Br.mkN ?h ?_; case h => first | omega | assumption | exact not_not_intro (by assumption)) | fail))
        refine ix_at (S.getD i (0, 0)).2.toNat (by omega) ?_
        (repeat' ((conv => whnf); first | (refine Giv.mk fun _ => ?_) | (refine Alt.l (Need.mk ?h ?_); case h => omega) | (refine Alt.r (Need.mk ?h ?_); case h => omega) | (refine Need.mk ?h ?_; case h => first | omega | (intro _; rfl) | assumption | (simp <;> omega)) | refine Ix.zero ?_ | refine Ix.one ?_ | refine Ix.two ?_ | refine Ix.nat ?_ | refine Ix.add ?_ | (apply Go.Eng.Pin.mk; apply Exists.intro) | apply Go.Eng.Pinned.mk rfl rfl | (apply Go.Eng.PinH.mk; apply Exists.intro; apply Exists.intro) | exact Go.Eng.Fin0.mk | refine Go.Eng.Chk.mk ?_ ?_ | refine Own.l ?_ | (refine Br.mkY ?h ?_; case h => first | omega | assumption) | (refine Br.mkN ?h ?_; case h => first | omega | assumption | exact not_not_intro (by assumption)) | fail))
        (refine Br.mk (fun _ => ?_) (fun _ => ?_))
        · rename_i m1
          rw [g1, decide_eq_true_iff] at m1
          (repeat' ((conv => whnf); first | (refine Giv.mk fun _ => ?_) | (refine Alt.l (Need.mk ?h ?_); case h => omega) | (refine Alt.r (Need.mk ?h ?_); case h => omega) | (refine Need.mk ?h ?_; case h => first | omega | (intro _; rfl) | assumption | (simp <;> omega)) | refine Ix.zero ?_ | refine Ix.one ?_ | refine Ix.two ?_ | refine Ix.nat ?_ | refine Ix.add ?_ | (apply Go.Eng.Pin.mk; apply Exists.intro) | apply Go.Eng.Pinned.mk rfl rfl | (apply Go.Eng.PinH.mk; apply Exists.intro; apply Exists.intro) | exact Go.Eng.Fin0.mk | refine Go.Eng.Chk.mk ?_ ?_ | refine Own.l ?_ | (refine Br.mkY ?h ?_; case h => first | omega | assumption) | (refine Br.mkN ?h ?_; case h => first | omega | assumption | exact not_not_intro (by assumption)) | fail))
          (refine Br.mk (fun _ => ?_) (fun _ => ?_))
          · rename_i m2
            (repeat' ((conv => whnf); first | (refine Giv.mk fun _ => ?_) | (refine Alt.l (Need.mk ?h ?_); case h => omega) | (refine Alt.r (Need.mk ?h ?_); case h => omega) | (refine Need.mk ?h ?_; case h => first | omega | (intro _; rfl) | assumption | (simp <;> omega)) | refine Ix.zero ?_ | refine Ix.one ?_ | refine Ix.two ?_ | refine Ix.nat ?_ | refine Ix.add ?_ | (apply Go.Eng.Pin.mk; apply Exists.intro) | apply Go.Eng.Pinned.mk rfl rfl | (apply Go.Eng.PinH.mk; apply Exists.intro; apply Exists.intro) | exact Go.Eng.Fin0.mk | refine Go.Eng.Chk.mk ?_ ?_ | refine Own.l ?_ | (refine Br.mkY ?h ?_; case h => first | omega | assumption) | (refine Br.mkN ?h ?_; case h => first | omega | assumption | exact not_not_intro (by assumption)) | fail))
            (refine Br.mk (fun _ => ?_) (fun _ => ?_))
            · rename_i m3
              have e := hst
              rw [if_neg (Classical.not_not.2 (hcd.2 ⟨⟨m1, m2⟩, .inl m3⟩)), if_pos k1] at e
              (repeat' ((conv => whnf); first | (refine Giv.mk fun _ => ?_) | (refine Alt.l (Need.mk ?h ?_); case h => omega) | (refine Alt.r (Need.mk ?h ?_); case h => omega) | (refine Need.mk ?h ?_; case h => first | omega | (intro _; rfl) | assumption | (simp <;> omega)) | refine Ix.zero ?_ | refine Ix.one ?_ | refine Ix.two ?_ | refine Ix.nat ?_ | refine Ix.add ?_ | (apply Go.Eng.Pin.mk; apply Exists.intro) | apply Go.Eng.Pinned.mk rfl rfl | (apply Go.Eng.PinH.mk; apply Exists.intro; apply Exists.intro) | exact Go.Eng.Fin0.mk | refine Go.Eng.Chk.mk ?_ ?_ | refine Own.l ?_ | (refine Br.mkY ?h ?_; case h => first | omega | assumption) | (refine Br.mkN ?h ?_; case h => first | omega | assumption | exact not_not_intro (by assumption)) | fail))
              refine ix_at (S.getD i (0, 0)).2.toNat (by omega) ?_
              (repeat' ((conv => whnf); first | (refine Giv.mk fun _ => ?_) | (refine Alt.l (Need.mk ?h ?_); case h => omega) | (refine Alt.r (Need.mk ?h ?_); case h => omega) | (refine Need.mk ?h ?_; case h => first | omega | (intro _; rfl) | assumption | (simp <;> omega)) | refine Ix.zero ?_ | refine Ix.one ?_ | refine Ix.two ?_ | refine Ix.nat ?_ | refine Ix.add ?_ | (apply Go.Eng.Pin.mk; apply Exists.intro) | apply Go.Eng.Pinned.mk rfl rfl | (apply Go.Eng.PinH.mk; apply Exists.intro; apply Exists.intro) | exact Go.Eng.Fin0.mk | refine Go.Eng.Chk.mk ?_ ?_ | refine Own.l ?_ | (refine Br.mkY ?h ?_; case h => first | omega | assumption) | (refine Br.mkN ?h ?_; case h => first | omega | assumption | exact not_not_intro (by assumption)) | fail))
              refine ⟨(i + 1 : Nat), by show S.length - (i + 1) < S.length - i; omega, arr e, ?_⟩
              (repeat' (first | exact trivial | rfl | exact Nat.one_pos | (refine And.intro ?_ ?_) | omega | ((conv => whnf); (refine And.intro ?_ ?_)) | ((conv => whnf); exact trivial)))
              · exact hs1.trans (congrArg (bitsL n) (congrArg CS.st e).symm)
              · exact congrArg (bitsL n) (congrArg CS.pr e).symm
            · rename_i m3
              (repeat' ((conv => whnf); first | (refine Giv.mk fun _ => ?_) | (refine Alt.l (Need.mk ?h ?_); case h => omega) | (refine Alt.r (Need.mk ?h ?_); case h => omega) | (refine Need.mk ?h ?_; case h => first | omega | (intro _; rfl) | assumption | (simp <;> omega)) | refine Ix.zero ?_ | refine Ix.one ?_ | refine Ix.two ?_ | refine Ix.nat ?_ | refine Ix.add ?_ | (apply Go.Eng.Pin.mk; apply Exists.intro) | apply Go.Eng.Pinned.mk rfl rfl | (apply Go.Eng.PinH.mk; apply Exists.intro; apply Exists.intro) | exact Go.Eng.Fin0.mk | refine Go.Eng.Chk.mk ?_ ?_ | refine Own.l ?_ | (refine Br.mkY ?h ?_; case h => first | omega | assumption) | (refine Br.mkN ?h ?_; case h => first | omega | assumption | exact not_not_intro (by assumption)) | fail))
              refine ix_at (S.getD i (0, 0)).2.toNat (by omega) ?_
              (repeat' ((conv => whnf); first | (refine Giv.mk fun _ => ?_) | (refine Alt.l (Need.mk ?h ?_); case h => omega) | (refine Alt.r (Need.mk ?h ?_); case h => omega) | (refine Need.mk ?h ?_; case h => first | omega | (intro _; rfl) | assumption | (simp <;> omega)) | refine Ix.zero ?_ | refine Ix.one ?_ | refine Ix.two ?_ | refine Ix.nat ?_ | refine Ix.add ?_ | (apply Go.Eng.Pin.mk; apply Exists.intro) | apply Go.Eng.Pinned.mk rfl rfl | (apply Go.Eng.PinH.mk; apply Exists.intro; apply Exists.intro) | exact Go.Eng.Fin0.mk | refine Go.Eng.Chk.mk ?_ ?_ | refine Own.l ?_ | (refine Br.mkY ?h ?_; case h => first | omega | assumption) | (refine Br.mkN ?h ?_; case h => first | omega | assumption | exact not_not_intro (by assumption)) | fail))
              refine ix_at (S.getD i (0, 0)).2.toNat (by omega) ?_
              (repeat' ((conv => whnf); first | (refine Giv.mk fun _ => ?_) | (refine Alt.l (Need.mk ?h ?_); case h => omega) | (refine Alt.r (Need.mk ?h ?_); case h => omega) | (refine Need.mk ?h ?_; case h => first | omega | (intro _; rfl) | assumption | (simp <;> omega)) | refine Ix.zero ?_ | refine Ix.one ?_ | refine Ix.two ?_ | refine Ix.nat ?_ | refine Ix.add ?_ | (apply Go.Eng.Pin.mk; apply Exists.intro) | apply Go.Eng.Pinned.mk rfl rfl | (apply Go.Eng.PinH.mk; apply Exists.intro; apply Exists.intro) | exact Go.Eng.Fin0.mk | refine Go.Eng.Chk.mk ?_ ?_ | refine Own.l ?_ | (refine Br.mkY ?h ?_; case h => first | omega | assumption) | (refine Br.mkN ?h ?_; case h => first | omega | assumption | exact not_not_intro (by assumption)) | fail))
              (refine Br.mk (fun _ => ?_) (fun _ => ?_))
              · rename_i m4
                rw [g2, decide_eq_true_iff] at m4
                exact ⟨rfl, bad fun e => m4 ((hcd.1 e).2.resolve_left m3)⟩
              · rename_i m4
                rw [g2, decide_eq_true_iff, Classical.not_not] at m4
                have e := hst
                rw [if_neg (Classical.not_not.2 (hcd.2 ⟨⟨m1, m2⟩, .inr m4⟩)), if_pos k1] at e
                (repeat' ((conv => whnf); first | (refine Giv.mk fun _ => ?_) | (refine Alt.l (Need.mk ?h ?_); case h => omega) | (refine Alt.r (Need.mk ?h ?_); case h => omega) | (refine Need.mk ?h ?_; case h => first | omega | (intro _; rfl) | assumption | (simp <;> omega)) | refine Ix.zero ?_ | refine Ix.one ?_ | refine Ix.two ?_ | refine Ix.nat ?_ | refine Ix.add ?_ | (apply Go.Eng.Pin.mk; apply Exists.intro) | apply Go.Eng.Pinned.mk rfl rfl | (apply Go.Eng.PinH.mk; apply Exists.intro; apply Exists.intro) | exact Go.Eng.Fin0.mk | refine Go.Eng.Chk.mk ?_ ?_ | refine Own.l ?_ | (refine Br.mkY ?h ?_; case h => first | omega | assumption) | (refine Br.mkN ?h ?_; case h => first | omega | assumption | exact not_not_intro (by assumption)) | fail))
                refine ⟨(i + 1 : Nat), by show S.length - (i + 1) < S.length - i; omega, arr e, ?_⟩
                (repeat' (first | exact trivial | rfl | exact Nat.one_pos | (refine And.intro ?_ ?_) | omega | ((conv => whnf); (refine And.intro ?_ ?_)) | ((conv => whnf); exact trivial)))
                · exact hs1.trans (congrArg (bitsL n) (congrArg CS.st e).symm)
                · exact congrArg (bitsL n) (congrArg CS.pr e).symm
          · rename_i m2
            (repeat' ((conv => whnf); first | (refine Giv.mk fun _ => ?_) | (refine Alt.l (Need.mk ?h ?_); case h => omega) | (refine Alt.r (Need.mk ?h ?_); case h => omega) | (refine Need.mk ?h ?_; case h => first | omega | (intro _; rfl) | assumption | (simp <;> omega)) | refine Ix.zero ?_ | refine Ix.one ?_ | refine Ix.two ?_ | refine Ix.nat ?_ | refine Ix.add ?_ | (apply Go.Eng.Pin.mk; apply Exists.intro) | apply Go.Eng.Pinned.mk rfl rfl | (apply Go.Eng.PinH.mk; apply Exists.intro; apply Exists.intro) | exact Go.Eng.Fin0.mk | refine Go.Eng.Chk.mk ?_ ?_ | refine Own.l ?_ | (refine Br.mkY ?h ?_; case h => first | omega | assumption) | (refine Br.mkN ?h ?_; case h => first | omega | assumption | exact not_not_intro (by assumption)) | fail))
            refine ix_at (S.getD i (0, 0)).2.toNat (by omega) ?_
            (repeat' ((conv => whnf); first | (refine Giv.mk fun _ => ?_) | (refine Alt.l (Need.mk ?h ?_); case h => omega) | (refine Alt.r (Need.mk ?h ?_); case h => omega) | (refine Need.mk ?h ?_; case h => first | omega | (intro _; rfl) | assumption | (simp <;> omega)) | refine Ix.zero ?_ | refine Ix.one ?_ | refine Ix.two ?_ | refine Ix.nat ?_ | refine Ix.add ?_ | (apply Go.Eng.Pin.mk; apply Exists.intro) | apply Go.Eng.Pinned.mk rfl rfl | (apply Go.Eng.PinH.mk; apply Exists.intro; apply Exists.intro) | exact Go.Eng.Fin0.mk | refine Go.Eng.Chk.mk ?_ ?_ | refine Own.l ?_ | (refine Br.mkY ?h ?_; case h => first | omega | assumption) | (refine Br.mkN ?h ?_; case h => first | omega | assumption | exact not_not_intro (by assumption)) | fail))
            exact ⟨rfl, bad fun e => m2 (hcd.1 e).1.2⟩
        · rename_i m1
          rw [g1, decide_eq_true_iff] at m1
          (repeat' ((conv => whnf); first | (refine Giv.mk fun _ => ?_) | (refine Alt.l (Need.mk ?h ?_); case h => omega) | (refine Alt.r (Need.mk ?h ?_); case h => omega) | (refine Need.mk ?h ?_; case h => first | omega | (intro _; rfl) | assumption | (simp <;> omega)) | refine Ix.zero ?_ | refine Ix.one ?_ | refine Ix.two ?_ | refine Ix.nat ?_ | refine Ix.add ?_ | (apply Go.Eng.Pin.mk; apply Exists.intro) | apply Go.Eng.Pinned.mk rfl rfl | (apply Go.Eng.PinH.mk; apply Exists.intro; apply Exists.intro) | exact Go.Eng.Fin0.mk | refine Go.Eng.Chk.mk ?_ ?_ | refine Own.l ?_ | (refine Br.mkY ?h ?_; case h => first | omega | assumption) | (refine Br.mkN ?h ?_; case h => first | omega | assumption | exact not_not_intro (by assumption)) | fail))
          refine ix_at (S.getD i (0, 0)).2.toNat (by omega) ?_
          (repeat' ((conv => whnf); first | (refine Giv.mk fun _ => ?_) | (refine Alt.l (Need.mk ?h ?_); case h => omega) | (refine Alt.r (Need.mk ?h ?_); case h => omega) | (refine Need.mk ?h ?_; case h => first | omega | (intro _; rfl) | assumption | (simp <;> omega)) | refine Ix.zero ?_ | refine Ix.one ?_ | refine Ix.two ?_ | refine Ix.nat ?_ | refine Ix.add ?_ | (apply Go.Eng.Pin.mk; apply Exists.intro) | apply Go.Eng.Pinned.mk rfl rfl | (apply Go.Eng.PinH.mk; apply Exists.intro; apply Exists.intro) | exact Go.Eng.Fin0.mk | refine Go.Eng.Chk.mk ?_ ?_ | refine Own.l ?_ | (refine Br.mkY ?h ?_; case h => first | omega | assumption) | (refine Br.mkN ?h ?_; case h => first | omega | assumption | exact not_not_intro (by assumption)) | fail))
          exact ⟨rfl, bad fun e => m1 (hcd.1 e).1.1⟩
      · rename_i k1
        (repeat' ((conv => whnf); first | (refine Giv.mk fun _ => ?_) | (refine Alt.l (Need.mk ?h ?_); case h => omega) | (refine Alt.r (Need.mk ?h ?_); case h => omega) | (refine Need.mk ?h ?_; case h => first | omega | (intro _; rfl) | assumption | (simp <;> omega)) | refine Ix.zero ?_ | refine Ix.one ?_ | refine Ix.two ?_ | refine Ix.nat ?_ | refine Ix.add ?_ | (apply Go.Eng.Pin.mk; apply Exists.intro) | apply Go.Eng.Pinned.mk rfl rfl | (apply Go.Eng.PinH.mk; apply Exists.intro; apply Exists.intro) | exact Go.Eng.Fin0.mk | refine Go.Eng.Chk.mk ?_ ?_ | refine Own.l ?_ | (refine Br.mkY ?h ?_; case h => first | omega | assumption) | (refine Br.mkN ?h ?_; case h => first | omega | assumption | exact not_not_intro (by assumption)) | fail))
        (refine Br.mk (fun _ => ?_) (fun _ => ?_))
        · rename_i k2
          have hcd : canDo (onL n l) (restL n l) (doAt (onL n l) (restL n l) n S i) (S.getD i (0, 0)) ↔ ¬ hasW (doAt (onL n l) (restL n l) n S i).pr (S.getD i (0, 0)).2 := by unfold canDo; rw [if_neg k1, if_pos k2]
          (repeat' ((conv => whnf); first | (refine Giv.mk fun _ => ?_) | (refine Alt.l (Need.mk ?h ?_); case h => omega) | (refine Alt.r (Need.mk ?h ?_); case h => omega) | (refine Need.mk ?h ?_; case h => first | omega | (intro _; rfl) | assumption | (simp <;> omega)) | refine Ix.zero ?_ | refine Ix.one ?_ | refine Ix.two ?_ | refine Ix.nat ?_ | refine Ix.add ?_ | (apply Go.Eng.Pin.mk; apply Exists.intro) | apply Go.Eng.Pinned.mk rfl rfl | (apply Go.Eng.PinH.mk; apply Exists.intro; apply Exists.intro) | exact Go.Eng.Fin0.mk | refine Go.Eng.Chk.mk ?_ ?_ | refine Own.l ?_ | (refine Br.mkY ?h ?_; case h => first | omega | assumption) | (refine Br.mkN ?h ?_; case h => first | omega | assumption | exact not_not_intro (by assumption)) | fail))
          refine ix_at (S.getD i (0, 0)).2.toNat (by omega) ?_
          (repeat' ((conv => whnf); first | (refine Giv.mk fun _ => ?_) | (refine Alt.l (Need.mk ?h ?_); case h => omega) | (refine Alt.r (Need.mk ?h ?_); case h => omega) | (refine Need.mk ?h ?_; case h => first | omega | (intro _; rfl) | assumption | (simp <;> omega)) | refine Ix.zero ?_ | refine Ix.one ?_ | refine Ix.two ?_ | refine Ix.nat ?_ | refine Ix.add ?_ | (apply Go.Eng.Pin.mk; apply Exists.intro) | apply Go.Eng.Pinned.mk rfl rfl | (apply Go.Eng.PinH.mk; apply Exists.intro; apply Exists.intro) | exact Go.Eng.Fin0.mk | refine Go.Eng.Chk.mk ?_ ?_ | refine Own.l ?_ | (refine Br.mkY ?h ?_; case h => first | omega | assumption) | (refine Br.mkN ?h ?_; case h => first | omega | assumption | exact not_not_intro (by assumption)) | fail))
          refine ix_at (S.getD i (0, 0)).2.toNat (by omega) ?_
          (repeat' ((conv => whnf); first | (refine Giv.mk fun _ => ?_) | (refine Alt.l (Need.mk ?h ?_); case h => omega) | (refine Alt.r (Need.mk ?h ?_); case h => omega) | (refine Need.mk ?h ?_; case h => first | omega | (intro _; rfl) | assumption | (simp <;> omega)) | refine Ix.zero ?_ | refine Ix.one ?_ | refine Ix.two ?_ | refine Ix.nat ?_ | refine Ix.add ?_ | (apply Go.Eng.Pin.mk; apply Exists.intro) | apply Go.Eng.Pinned.mk rfl rfl | (apply Go.Eng.PinH.mk; apply Exists.intro; apply Exists.intro) | exact Go.Eng.Fin0.mk | refine Go.Eng.Chk.mk ?_ ?_ | refine Own.l ?_ | (refine Br.mkY ?h ?_; case h => first | omega | assumption) | (refine Br.mkN ?h ?_; case h => first | omega | assumption | exact not_not_intro (by assumption)) | fail))
          (refine Br.mk (fun _ => ?_) (fun _ => ?_))
          · rename_i m1
            rw [g2, decide_eq_true_iff] at m1
            exact ⟨rfl, bad fun e => m1 (hcd.1 e)⟩
          · rename_i m1
            rw [g2, decide_eq_true_iff, Classical.not_not] at m1
            have e := hst
            rw [if_neg (Classical.not_not.2 (hcd.2 m1)), if_neg k1, if_pos k2] at e
            (repeat' ((conv => whnf); first | (refine Giv.mk fun _ => ?_) | (refine Alt.l (Need.mk ?h ?_); case h => omega) | (refine Alt.r (Need.mk ?h ?_); case h => omega) | (refine Need.mk ?h ?_; case h => first | omega | (intro _; rfl) | assumption | (simp <;> omega)) | refine Ix.zero ?_ | refine Ix.one ?_ | refine Ix.two ?_ | refine Ix.nat ?_ | refine Ix.add ?_ | (apply Go.Eng.Pin.mk; apply Exists.intro) | apply Go.Eng.Pinned.mk rfl rfl | (apply Go.Eng.PinH.mk; apply Exists.intro; apply Exists.intro) | exact Go.Eng.Fin0.mk | refine Go.Eng.Chk.mk ?_ ?_ | refine Own.l ?_ | (refine Br.mkY ?h ?_; case h => first | omega | assumption) | (refine Br.mkN ?h ?_; case h => first | omega | assumption | exact not_not_intro (by assumption)) | fail))
            refine ⟨(i + 1 : Nat), by show S.length - (i + 1) < S.length - i; omega, arr e, ?_⟩
            (repeat' (first | exact trivial | rfl | exact Nat.one_pos | (refine And.intro ?_ ?_) | omega | ((conv => whnf); (refine And.intro ?_ ?_)) | ((conv => whnf); exact trivial)))
            · exact congrArg (bitsL n) (congrArg CS.st e).symm
            · exact hs2.trans (congrArg (bitsL n) (congrArg CS.pr e).symm)
        · rename_i k2
          have hcd : canDo (onL n l) (restL n l) (doAt (onL n l) (restL n l) n S i) (S.getD i (0, 0)) ↔ hasW (doAt (onL n l) (restL n l) n S i).pr (S.getD i (0, 0)).2 ∧ (¬ hasW (doAt (onL n l) (restL n l) n S i).st (S.getD i (0, 0)).2 ∨ l.any (upP (S.getD i (0, 0)).2) = true) := by unfold canDo; rw [if_neg k1, if_neg k2, hra]
          (repeat' ((conv => whnf); first | (refine Giv.mk fun _ => ?_) | (refine Alt.l (Need.mk ?h ?_); case h => omega) | (refine Alt.r (Need.mk ?h ?_); case h => omega) | (refine Need.mk ?h ?_; case h => first | omega | (intro _; rfl) | assumption | (simp <;> omega)) | refine Ix.zero ?_ | refine Ix.one ?_ | refine Ix.two ?_ | refine Ix.nat ?_ | refine Ix.add ?_ | (apply Go.Eng.Pin.mk; apply Exists.intro) | apply Go.Eng.Pinned.mk rfl rfl | (apply Go.Eng.PinH.mk; apply Exists.intro; apply Exists.intro) | exact Go.Eng.Fin0.mk | refine Go.Eng.Chk.mk ?_ ?_ | refine Own.l ?_ | (refine Br.mkY ?h ?_; case h => first | omega | assumption) | (refine Br.mkN ?h ?_; case h => first | omega | assumption | exact not_not_intro (by assumption)) | fail))
          refine ix_at (S.getD i (0, 0)).2.toNat (by omega) ?_
          (repeat' ((conv => whnf); first | (refine Giv.mk fun _ => ?_) | (refine Alt.l (Need.mk ?h ?_); case h => omega) | (refine Alt.r (Need.mk ?h ?_); case h => omega) | (refine Need.mk ?h ?_; case h => first | omega | (intro _; rfl) | assumption | (simp <;> omega)) | refine Ix.zero ?_ | refine Ix.one ?_ | refine Ix.two ?_ | refine Ix.nat ?_ | refine Ix.add ?_ | (apply Go.Eng.Pin.mk; apply Exists.intro) | apply Go.Eng.Pinned.mk rfl rfl | (apply Go.Eng.PinH.mk; apply Exists.intro; apply Exists.intro) | exact Go.Eng.Fin0.mk | refine Go.Eng.Chk.mk ?_ ?_ | refine Own.l ?_ | (refine Br.mkY ?h ?_; case h => first | omega | assumption) | (refine Br.mkN ?h ?_; case h => first | omega | assumption | exact not_not_intro (by assumption)) | fail))
          (refine Br.mk (fun _ => ?_) (fun _ => ?_))
          · rename_i m1
            rw [g2, decide_eq_true_iff] at m1
            (repeat' ((conv => whnf); first | (refine Giv.mk fun _ => ?_) | (refine Alt.l (Need.mk ?h ?_); case h => omega) | (refine Alt.r (Need.mk ?h ?_); case h => omega) | (refine Need.mk ?h ?_; case h => first | omega | (intro _; rfl) | assumption | (simp <;> omega)) | refine Ix.zero ?_ | refine Ix.one ?_ | refine Ix.two ?_ | refine Ix.nat ?_ | refine Ix.add ?_ | (apply Go.Eng.Pin.mk; apply Exists.intro) | apply Go.Eng.Pinned.mk rfl rfl | (apply Go.Eng.PinH.mk; apply Exists.intro; apply Exists.intro) | exact Go.Eng.Fin0.mk | refine Go.Eng.Chk.mk ?_ ?_ | refine Own.l ?_ | (refine Br.mkY ?h ?_; case h => first | omega | assumption) | (refine Br.mkN ?h ?_; case h => first | omega | assumption | exact not_not_intro (by assumption)) | fail))
            refine ix_at (S.getD i (0, 0)).2.toNat (by omega) ?_
            (repeat' ((conv => whnf); first | (refine Giv.mk fun _ => ?_) | (refine Alt.l (Need.mk ?h ?_); case h => omega) | (refine Alt.r (Need.mk ?h ?_); case h => omega) | (refine Need.mk ?h ?_; case h => first | omega | (intro _; rfl) | assumption | (simp <;> omega)) | refine Ix.zero ?_ | refine Ix.one ?_ | refine Ix.two ?_ | refine Ix.nat ?_ | refine Ix.add ?_ | (apply Go.Eng.Pin.mk; apply Exists.intro) | apply Go.Eng.Pinned.mk rfl rfl | (apply Go.Eng.PinH.mk; apply Exists.intro; apply Exists.intro) | exact Go.Eng.Fin0.mk | refine Go.Eng.Chk.mk ?_ ?_ | refine Own.l ?_ | (refine Br.mkY ?h ?_; case h => first | omega | assumption) | (refine Br.mkN ?h ?_; case h => first | omega | assumption | exact not_not_intro (by assumption)) | fail))
            (refine Br.mk (fun _ => ?_) (fun _ => ?_))
            · rename_i m2
              rw [g1, decide_eq_true_iff] at m2
              have e := hst
              rw [if_neg (Classical.not_not.2 (hcd.2 ⟨m1, .inl m2⟩)), if_neg k1, if_neg k2] at e
              (repeat' ((conv => whnf); first | (refine Giv.mk fun _ => ?_) | (refine Alt.l (Need.mk ?h ?_); case h => omega) | (refine Alt.r (Need.mk ?h ?_); case h => omega) | (refine Need.mk ?h ?_; case h => first | omega | (intro _; rfl) | assumption | (simp <;> omega)) | refine Ix.zero ?_ | refine Ix.one ?_ | refine Ix.two ?_ | refine Ix.nat ?_ | refine Ix.add ?_ | (apply Go.Eng.Pin.mk; apply Exists.intro) | apply Go.Eng.Pinned.mk rfl rfl | (apply Go.Eng.PinH.mk; apply Exists.intro; apply Exists.intro) | exact Go.Eng.Fin0.mk | refine Go.Eng.Chk.mk ?_ ?_ | refine Own.l ?_ | (refine Br.mkY ?h ?_; case h => first | omega | assumption) | (refine Br.mkN ?h ?_; case h => first | omega | assumption | exact not_not_intro (by assumption)) | fail))
              refine ix_at (S.getD i (0, 0)).2.toNat (by omega) ?_
              (repeat' ((conv => whnf); first | (refine Giv.mk fun _ => ?_) | (refine Alt.l (Need.mk ?h ?_); case h => omega) | (refine Alt.r (Need.mk ?h ?_); case h => omega) | (refine Need.mk ?h ?_; case h => first | omega | (intro _; rfl) | assumption | (simp <;> omega)) | refine Ix.zero ?_ | refine Ix.one ?_ | refine Ix.two ?_ | refine Ix.nat ?_ | refine Ix.add ?_ | (apply Go.Eng.Pin.mk; apply Exists.intro) | apply Go.Eng.Pinned.mk rfl rfl | (apply Go.Eng.PinH.mk; apply Exists.intro; apply Exists.intro) | exact Go.Eng.Fin0.mk | refine Go.Eng.Chk.mk ?_ ?_ | refine Own.l ?_ | (refine Br.mkY ?h ?_; case h => first | omega | assumption) | (refine Br.mkN ?h ?_; case h => first | omega | assumption | exact not_not_intro (by assumption)) | fail))
              refine ⟨(i + 1 : Nat), by show S.length - (i + 1) < S.length - i; omega, arr e, ?_⟩
              (repeat' (first | exact trivial | rfl | exact Nat.one_pos | (refine And.intro ?_ ?_) | omega | ((conv => whnf); (refine And.intro ?_ ?_)) | ((conv => whnf); exact trivial)))
              · exact congrArg (bitsL n) (congrArg CS.st e).symm
              · exact hs3.trans (congrArg (bitsL n) (congrArg CS.pr e).symm)
            · rename_i m2
              rw [g1, decide_eq_true_iff, Classical.not_not] at m2
              (repeat' ((conv => whnf); first | (refine Giv.mk fun _ => ?_) | (refine Alt.l (Need.mk ?h ?_); case h => omega) | (refine Alt.r (Need.mk ?h ?_); case h => omega) | (refine Need.mk ?h ?_; case h => first | omega | (intro _; rfl) | assumption | (simp <;> omega)) | refine Ix.zero ?_ | refine Ix.one ?_ | refine Ix.two ?_ | refine Ix.nat ?_ | refine Ix.add ?_ | (apply Go.Eng.Pin.mk; apply Exists.intro) | apply Go.Eng.Pinned.mk rfl rfl | (apply Go.Eng.PinH.mk; apply Exists.intro; apply Exists.intro) | exact Go.Eng.Fin0.mk | refine Go.Eng.Chk.mk ?_ ?_ | refine Own.l ?_ | (refine Br.mkY ?h ?_; case h => first | omega | assumption) | (refine Br.mkN ?h ?_; case h => first | omega | assumption | exact not_not_intro (by assumption)) | fail))
              refine ix_at (S.getD i (0, 0)).2.toNat (by omega) ?_
              (repeat' ((conv => whnf); first | (refine Giv.mk fun _ => ?_) | (refine Alt.l (Need.mk ?h ?_); case h => omega) | (refine Alt.r (Need.mk ?h ?_); case h => omega) | (refine Need.mk ?h ?_; case h => first | omega | (intro _; rfl) | assumption | (simp <;> omega)) | refine Ix.zero ?_ | refine Ix.one ?_ | refine Ix.two ?_ | refine Ix.nat ?_ | refine Ix.add ?_ | (apply Go.Eng.Pin.mk; apply Exists.intro) | apply Go.Eng.Pinned.mk rfl rfl | (apply Go.Eng.PinH.mk; apply Exists.intro; apply Exists.intro) | exact Go.Eng.Fin0.mk | refine Go.Eng.Chk.mk ?_ ?_ | refine Own.l ?_ | (refine Br.mkY ?h ?_; case h => first | omega | assumption) | (refine Br.mkN ?h ?_; case h => first | omega | assumption | exact not_not_intro (by assumption)) | fail))
              (refine Br.mk (fun _ => ?_) (fun _ => ?_))
              · rename_i m3
                exact ⟨rfl, bad fun e => m3 ((hcd.1 e).2.resolve_left (fun h => h m2))⟩
              · rename_i m3
                have e := hst
                rw [if_neg (Classical.not_not.2 (hcd.2 ⟨m1, .inr (Classical.not_not.1 m3)⟩)), if_neg k1, if_neg k2] at e
                (repeat' ((conv => whnf); first | (refine Giv.mk fun _ => ?_) | (refine Alt.l (Need.mk ?h ?_); case h => omega) | (refine Alt.r (Need.mk ?h ?_); case h => omega) | (refine Need.mk ?h ?_; case h => first | omega | (intro _; rfl) | assumption | (simp <;> omega)) | refine Ix.zero ?_ | refine Ix.one ?_ | refine Ix.two ?_ | refine Ix.nat ?_ | refine Ix.add ?_ | (apply Go.Eng.Pin.mk; apply Exists.intro) | apply Go.Eng.Pinned.mk rfl rfl | (apply Go.Eng.PinH.mk; apply Exists.intro; apply Exists.intro) | exact Go.Eng.Fin0.mk | refine Go.Eng.Chk.mk ?_ ?_ | refine Own.l ?_ | (refine Br.mkY ?h ?_; case h => first | omega | assumption) | (refine Br.mkN ?h ?_; case h => first | omega | assumption | exact not_not_intro (by assumption)) | fail))
                refine ⟨(i + 1 : Nat), by show S.length - (i + 1) < S.length - i; omega, arr e, ?_⟩
                (repeat' (first | exact trivial | rfl | exact Nat.one_pos | (refine And.intro ?_ ?_) | omega | ((conv => whnf); (refine And.intro ?_ ?_)) | ((conv => whnf); exact trivial)))
                · exact congrArg (bitsL n) (congrArg CS.st e).symm
                · exact hs3.trans (congrArg (bitsL n) (congrArg CS.pr e).symm)
          · rename_i m1
            rw [g2, decide_eq_true_iff] at m1
            (repeat' ((conv => whnf); first | (refine Giv.mk fun _ => ?_) | (refine Alt.l (Need.mk ?h ?_); case h => omega) | (refine Alt.r (Need.mk ?h ?_); case h => omega) | (refine Need.mk ?h ?_; case h => first | omega | (intro _; rfl) | assumption | (simp <;> omega)) | refine Ix.zero ?_ | refine Ix.one ?_ | refine Ix.two ?_ | refine Ix.nat ?_ | refine Ix.add ?_ | (apply Go.Eng.Pin.mk; apply Exists.intro) | apply Go.Eng.Pinned.mk rfl rfl | (apply Go.Eng.PinH.mk; apply Exists.intro; apply Exists.intro) | exact Go.Eng.Fin0.mk | refine Go.Eng.Chk.mk ?_ ?_ | refine Own.l ?_ | (refine Br.mkY ?h ?_; case h => first | omega | assumption) | (refine Br.mkN ?h ?_; case h => first | omega | assumption | exact not_not_intro (by assumption)) | fail))
            refine ix_at (S.getD i (0, 0)).2.toNat (by omega) ?_
            (repeat' ((conv => whnf); first | (refine Giv.mk fun _ => ?_) | (refine Alt.l (Need.mk ?h ?_); case h => omega) | (refine Alt.r (Need.mk ?h ?_); case h => omega) | (refine Need.mk ?h ?_; case h => first | omega | (intro _; rfl) | assumption | (simp <;> omega)) | refine Ix.zero ?_ | refine Ix.one ?_ | refine Ix.two ?_ | refine Ix.nat ?_ | refine Ix.add ?_ | (apply Go.Eng.Pin.mk; apply Exists.intro) | apply Go.Eng.Pinned.mk rfl rfl | (apply Go.Eng.PinH.mk; apply Exists.intro; apply Exists.intro) | exact Go.Eng.Fin0.mk | refine Go.Eng.Chk.mk ?_ ?_ | refine Own.l ?_ | (refine Br.mkY ?h ?_; case h => first | omega | assumption) | (refine Br.mkN ?h ?_; case h => first | omega | assumption | exact not_not_intro (by assumption)) | fail))
            exact ⟨rfl, bad fun e => m1 (hcd.1 e).1⟩
    · have hii : i = S.length := by omega
      subst hii
      have hend : checkE n l S = endE n (doAt (onL n l) (restL n l) n S S.length) := by unfold checkE; rw [if_neg (fun e => e h), if_neg (fun e => e hc)]
      unfold endE at hend
      rw [if_neg (by rw [he]; simp), hmm] at hend
      (repeat' ((conv => whnf); first | (refine Giv.mk fun _ => ?_) | (refine Alt.l (Need.mk ?h ?_); case h => omega) | (refine Alt.r (Need.mk ?h ?_); case h => omega) | (refine Need.mk ?h ?_; case h => first | omega | (intro _; rfl) | assumption | (simp <;> omega)) | refine Ix.zero ?_ | refine Ix.one ?_ | refine Ix.two ?_ | refine Ix.nat ?_ | refine Ix.add ?_ | (apply Go.Eng.Pin.mk; apply Exists.intro) | apply Go.Eng.Pinned.mk rfl rfl | (apply Go.Eng.PinH.mk; apply Exists.intro; apply Exists.intro) | exact Go.Eng.Fin0.mk | refine Go.Eng.Chk.mk ?_ ?_ | refine Own.l ?_ | fail))
      refine Ask.mk ⟨{ X := Nat, pre := fun j => j ≤ n.toNat ∧ ∀ q : Nat, q < j → hasW (doAt (onL n l) (restL n l) n S S.length).st q, mod := fun j _ => [(15, I j)], heap := fun j _ => [.vec 1 .bool (bitsL n (doAt (onL n l) (restL n l) n S S.length).st) 4, .vec 1 .bool (bitsL n (doAt (onL n l) (restL n l) n S S.length).pr) 4], mu := fun j => n.toNat - j }, rfl, ?_⟩
      (repeat' ((conv => whnf); first | (refine Giv.mk fun _ => ?_) | (refine Alt.l (Need.mk ?h ?_); case h => omega) | (refine Alt.r (Need.mk ?h ?_); case h => omega) | (refine Need.mk ?h ?_; case h => first | omega | (intro _; rfl) | assumption | (simp <;> omega)) | refine Ix.zero ?_ | refine Ix.one ?_ | refine Ix.two ?_ | refine Ix.nat ?_ | refine Ix.add ?_ | (apply Go.Eng.Pin.mk; apply Exists.intro) | apply Go.Eng.Pinned.mk rfl rfl | (apply Go.Eng.PinH.mk; apply Exists.intro; apply Exists.intro) | exact Go.Eng.Fin0.mk | refine Go.Eng.Chk.mk ?_ ?_ | refine Own.l ?_ | fail))
      refine ⟨⟨(0 : Nat), ⟨Nat.zero_le _, fun q hq => absurd hq (Nat.not_lt_zero _)⟩, ?_⟩, fun (j : Nat) hj => ?_⟩
      · (repeat' (first | exact trivial | rfl | exact Nat.one_pos | (refine And.intro ?_ ?_) | omega | ((conv => whnf); (refine And.intro ?_ ?_)) | ((conv => whnf); exact trivial)))
      · obtain ⟨hj, hall⟩ := hj
        (repeat' ((conv => whnf); first | (refine Giv.mk fun _ => ?_) | (refine Alt.l (Need.mk ?h ?_); case h => omega) | (refine Alt.r (Need.mk ?h ?_); case h => omega) | (refine Need.mk ?h ?_; case h => first | omega | (intro _; rfl) | assumption | (simp <;> omega)) | refine Ix.zero ?_ | refine Ix.one ?_ | refine Ix.two ?_ | refine Ix.nat ?_ | refine Ix.add ?_ | (apply Go.Eng.Pin.mk; apply Exists.intro) | apply Go.Eng.Pinned.mk rfl rfl | (apply Go.Eng.PinH.mk; apply Exists.intro; apply Exists.intro) | exact Go.Eng.Fin0.mk | refine Go.Eng.Chk.mk ?_ ?_ | refine Own.l ?_ | fail))
        (refine Br.mk (fun _ => ?_) (fun _ => ?_))
        · have g1 := bitsL_get n (doAt (onL n l) (restL n l) n S S.length).st j (by omega)
          (repeat' ((conv => whnf); first | (refine Giv.mk fun _ => ?_) | (refine Alt.l (Need.mk ?h ?_); case h => omega) | (refine Alt.r (Need.mk ?h ?_); case h => omega) | (refine Need.mk ?h ?_; case h => first | omega | (intro _; rfl) | assumption | (simp <;> omega)) | refine Ix.zero ?_ | refine Ix.one ?_ | refine Ix.two ?_ | refine Ix.nat ?_ | refine Ix.add ?_ | (apply Go.Eng.Pin.mk; apply Exists.intro) | apply Go.Eng.Pinned.mk rfl rfl | (apply Go.Eng.PinH.mk; apply Exists.intro; apply Exists.intro) | exact Go.Eng.Fin0.mk | refine Go.Eng.Chk.mk ?_ ?_ | refine Own.l ?_ | (refine Br.mkY ?h ?_; case h => first | omega | assumption) | (refine Br.mkN ?h ?_; case h => first | omega | assumption | exact not_not_intro (by assumption)) | fail))
          (refine Br.mk (fun _ => ?_) (fun _ => ?_))
          · rename_i m1
            rw [g1] at m1
            have hm := memL_less (n := n) (f := fun j => decide (hasW (doAt (onL n l) (restL n l) n S S.length).st j)) (by omega) (Bool.eq_false_iff.2 m1)
            rw [if_pos (by omega)] at hend
            (repeat' ((conv => whnf); first | (refine Giv.mk fun _ => ?_) | (refine Alt.l (Need.mk ?h ?_); case h => omega) | (refine Alt.r (Need.mk ?h ?_); case h => omega) | (refine Need.mk ?h ?_; case h => first | omega | (intro _; rfl) | assumption | (simp <;> omega)) | refine Ix.zero ?_ | refine Ix.one ?_ | refine Ix.two ?_ | refine Ix.nat ?_ | refine Ix.add ?_ | (apply Go.Eng.Pin.mk; apply Exists.intro) | apply Go.Eng.Pinned.mk rfl rfl | (apply Go.Eng.PinH.mk; apply Exists.intro; apply Exists.intro) | exact Go.Eng.Fin0.mk | refine Go.Eng.Chk.mk ?_ ?_ | refine Own.l ?_ | (refine Br.mkY ?h ?_; case h => first | omega | assumption) | (refine Br.mkN ?h ?_; case h => first | omega | assumption | exact not_not_intro (by assumption)) | fail))
            (conv => whnf)
            exact ⟨rfl, hend.symm⟩
          · rename_i m1
            rw [g1, decide_eq_true_iff, Classical.not_not] at m1
            (repeat' ((conv => whnf); first | (refine Giv.mk fun _ => ?_) | (refine Alt.l (Need.mk ?h ?_); case h => omega) | (refine Alt.r (Need.mk ?h ?_); case h => omega) | (refine Need.mk ?h ?_; case h => first | omega | (intro _; rfl) | assumption | (simp <;> omega)) | refine Ix.zero ?_ | refine Ix.one ?_ | refine Ix.two ?_ | refine Ix.nat ?_ | refine Ix.add ?_ | (apply Go.Eng.Pin.mk; apply Exists.intro) | apply Go.Eng.Pinned.mk rfl rfl | (apply Go.Eng.PinH.mk; apply Exists.intro; apply Exists.intro) | exact Go.Eng.Fin0.mk | refine Go.Eng.Chk.mk ?_ ?_ | refine Own.l ?_ | (refine Br.mkY ?h ?_; case h => first | omega | assumption) | (refine Br.mkN ?h ?_; case h => first | omega | assumption | exact not_not_intro (by assumption)) | fail))
            refine ⟨(j + 1 : Nat), by show n.toNat - (j + 1) < n.toNat - j; omega, ⟨by show j + 1 ≤ n.toNat; omega, fun q hq => ?_⟩, by (repeat' (first | exact trivial | rfl | exact Nat.one_pos | (refine And.intro ?_ ?_) | omega | ((conv => whnf); (refine And.intro ?_ ?_)) | ((conv => whnf); exact trivial)))⟩
            by_cases e : q = j
            · subst e; exact m1
            · exact hall q (by omega)
        · have hm := memL_full (n := n) (f := fun j => decide (hasW (doAt (onL n l) (restL n l) n S S.length).st j)) fun q hq => decide_eq_true (hall q (by omega))
          rw [if_neg (by omega)] at hend
          (repeat' ((conv => whnf); first | (refine Giv.mk fun _ => ?_) | (refine Alt.l (Need.mk ?h ?_); case h => omega) | (refine Alt.r (Need.mk ?h ?_); case h => omega) | (refine Need.mk ?h ?_; case h => first | omega | (intro _; rfl) | assumption | (simp <;> omega)) | refine Ix.zero ?_ | refine Ix.one ?_ | refine Ix.two ?_ | refine Ix.nat ?_ | refine Ix.add ?_ | (apply Go.Eng.Pin.mk; apply Exists.intro) | apply Go.Eng.Pinned.mk rfl rfl | (apply Go.Eng.PinH.mk; apply Exists.intro; apply Exists.intro) | exact Go.Eng.Fin0.mk | refine Go.Eng.Chk.mk ?_ ?_ | refine Own.l ?_ | (refine Br.mkY ?h ?_; case h => first | omega | assumption) | (refine Br.mkN ?h ?_; case h => first | omega | assumption | exact not_not_intro (by assumption)) | fail))
          (conv => whnf)
          exact ⟨rfl, hend.symm⟩
def c35 : Con := mkCon 35 true fun args K => match args with | [.val (.int .i64 n), .seq (.pair (.int .i64) (.int .i64)) l, .seq (.pair (.int .i64) (.int .i64)) S] => K (I (checkE n l S)) | _ => False
theorem k35 : ConOK Try.prog c35 := by
  refine conOK_of rfl (enters_of Try.func35 (by kernel_rfl) rfl) ?_
  intro args K h
  simp only [c35] at h
  split at h
  · rename_i n l S; exact ⟨_, h, tri_of_body (Γ := [c58, c62, c63]) (by simp [k58, k62, k63]) Try.func35 (by simp [Try.ntmps35]) rfl (b35 n l S)⟩
  · exact h.elim
/-! ### ErectOrders -/
theorem b8 (n : Int) (l S : List (Int × Int)) (st : List Int) : body Try.prog [c13, c14, c16, c24, c25, c30, c31, c32, c33, c34, c35] {} true Try.f8 [I n, Ps l, Ps S, Ls st] (.val (.bool true)) := by
  (repeat' ((conv => whnf); first | (refine Giv.mk fun _ => ?_) | (refine Alt.l (Need.mk ?h ?_); case h => omega) | (refine Alt.r (Need.mk ?h ?_); case h => omega) | (refine Need.mk ?h ?_; case h => first | omega | (intro _; rfl) | assumption | (simp <;> omega)) | refine Ix.zero ?_ | refine Ix.one ?_ | refine Ix.two ?_ | refine Ix.nat ?_ | refine Ix.add ?_ | (apply Go.Eng.Pin.mk; apply Exists.intro) | apply Go.Eng.Pinned.mk rfl rfl | (apply Go.Eng.PinH.mk; apply Exists.intro; apply Exists.intro) | exact Go.Eng.Fin0.mk | refine Go.Eng.Chk.mk ?_ ?_ | refine Own.l ?_ | fail))
  (repeat' ((conv => whnf); first | (refine Giv.mk fun _ => ?_) | (refine Alt.l (Need.mk ?h ?_); case h => omega) | (refine Alt.r (Need.mk ?h ?_); case h => omega) | (refine Need.mk ?h ?_; case h => first | omega | (intro _; rfl) | assumption | (simp <;> omega)) | refine Ix.zero ?_ | refine Ix.one ?_ | refine Ix.two ?_ | refine Ix.nat ?_ | refine Ix.add ?_ | (apply Go.Eng.Pin.mk; apply Exists.intro) | apply Go.Eng.Pinned.mk rfl rfl | (apply Go.Eng.PinH.mk; apply Exists.intro; apply Exists.intro) | exact Go.Eng.Fin0.mk | refine Go.Eng.Chk.mk ?_ ?_ | refine Own.l ?_ | (refine Br.mkY ?h ?_; case h => first | omega | assumption) | (refine Br.mkN ?h ?_; case h => first | omega | assumption | exact not_not_intro (by assumption)) | (refine Br.mk (fun _ => ?_) (fun _ => ?_)) | fail))
  all_goals (try (conv => whnf))
  all_goals (rename_i hh; exact absurd rfl hh)
theorem t8 (n : Int) (l S : List (Int × Int)) (st : List Int) (hn : inK .i64 n) (hl : Okd (.slice Two) l) (hS : Okd (.slice Two) S) (hs : Okd (.slice (.int .i64)) st) :
    Tri Try.prog true 8 [I n, Ps l, Ps S, Ls st] (.val (.bool true)) :=
  tri_of_body (Γ := [c13, c14, c16, c24, c25, c30, c31, c32, c33, c34, c35]) (by simp [k13, k14, k16, k24, k25, k30, k31, k32, k33, k34, k35]) Try.func8 (by simp [Try.ntmps8]) rfl (b8 n l S st)
end EB
end
section
set_option linter.unusedVariables false
open Go Go.Proofs Go.Eng Go.Shelf
set_option linter.unusedVariables false
namespace EB
set_option maxRecDepth 10000
/-! ### Products of small numbers -/
abbrev U6 (n : Int) : SV := .val (.int .u64 n)
theorem and_mask {y : Int} (h : 0 ≤ y ∧ y ≤ 1000000) : bitsI .and .u64 y 4294967295 = y := by
  obtain ⟨n, rfl⟩ := Int.eq_ofNat_of_zero_le h.1
  have hn : n ≤ 1000000 := by omega
  have := and_nat n 4294967295 (by omega) (by omega)
  rw [show (4294967295 : Int) = ((4294967295 : Nat) : Int) from rfl, this]
  have e : n &&& 4294967295 = n % 2 ^ 32 := Nat.and_two_pow_sub_one_eq_mod n 32
  rw [e, Nat.mod_eq_of_lt (by omega)]
theorem shr_small {y : Int} (h : 0 ≤ y ∧ y ≤ 1000000) : shrI .u64 y 32 = 0 := by
  unfold shrI
  have e : (2 : Int) ^ (min (32 : Int).toNat IntKind.u64.bits) = 4294967296 := by decide
  rw [e, Int.fdiv_eq_ediv_of_nonneg _ (by decide)]
  omega
theorem b77 (y : Int) (h : 0 ≤ y ∧ y ≤ 1000000) : body Try.prog [] {} true Try.f77 [U6 1, U6 y] (.tup [U6 0, U6 y]) := by
  have a1 : bitsI .and .u64 1 4294967295 = 1 := and_mask ⟨by omega, by omega⟩
  have a2 := and_mask h
  have a3 : shrI .u64 1 32 = 0 := shr_small ⟨by omega, by omega⟩
  have a4 := shr_small h
  have a5 : bitsI .and .u64 0 4294967295 = 0 := and_mask ⟨by omega, by omega⟩
  have a6 : shrI .u64 0 32 = 0 := shr_small ⟨by omega, by omega⟩
  (repeat' ((conv => whnf); first | (refine Giv.mk fun _ => ?_) | (refine Alt.l (Need.mk ?h ?_); case h => omega) | (refine Alt.r (Need.mk ?h ?_); case h => omega) | (refine Need.mk ?h ?_; case h => first | omega | (intro _; rfl) | assumption | (simp <;> omega)) | refine Ix.zero ?_ | refine Ix.one ?_ | refine Ix.two ?_ | refine Ix.nat ?_ | refine Ix.add ?_ | (apply Go.Eng.Pin.mk; apply Exists.intro) | apply Go.Eng.Pinned.mk rfl rfl | (apply Go.Eng.PinH.mk; apply Exists.intro; apply Exists.intro) | exact Go.Eng.Fin0.mk | refine Go.Eng.Chk.mk ?_ ?_ | refine Own.l ?_ | fail))
  simp only [a1, a2, a3, a4]
  (repeat' ((conv => whnf); first | (refine Giv.mk fun _ => ?_) | (refine Alt.l (Need.mk ?h ?_); case h => omega) | (refine Alt.r (Need.mk ?h ?_); case h => omega) | (refine Need.mk ?h ?_; case h => first | omega | (intro _; rfl) | assumption | (simp <;> omega)) | refine Ix.zero ?_ | refine Ix.one ?_ | refine Ix.two ?_ | refine Ix.nat ?_ | refine Ix.add ?_ | (apply Go.Eng.Pin.mk; apply Exists.intro) | apply Go.Eng.Pinned.mk rfl rfl | (apply Go.Eng.PinH.mk; apply Exists.intro; apply Exists.intro) | exact Go.Eng.Fin0.mk | refine Go.Eng.Chk.mk ?_ ?_ | refine Own.l ?_ | fail))
  simp only [Int.one_mul, Int.zero_mul, Int.add_zero, a4, a5, a6]
  (repeat' ((conv => whnf); first | (refine Giv.mk fun _ => ?_) | (refine Alt.l (Need.mk ?h ?_); case h => omega) | (refine Alt.r (Need.mk ?h ?_); case h => omega) | (refine Need.mk ?h ?_; case h => first | omega | (intro _; rfl) | assumption | (simp <;> omega)) | refine Ix.zero ?_ | refine Ix.one ?_ | refine Ix.two ?_ | refine Ix.nat ?_ | refine Ix.add ?_ | (apply Go.Eng.Pin.mk; apply Exists.intro) | apply Go.Eng.Pinned.mk rfl rfl | (apply Go.Eng.PinH.mk; apply Exists.intro; apply Exists.intro) | exact Go.Eng.Fin0.mk | refine Go.Eng.Chk.mk ?_ ?_ | refine Own.l ?_ | fail))
  have a7 : (0 * 0 + 0 + shrI .u64 (0 + 0) 32 : Int) = 0 := by rw [show (0 : Int) + 0 = 0 from rfl, a6]; rfl
  (repeat' (first | exact trivial | rfl | exact Nat.one_pos | (refine And.intro ?_ ?_) | ((conv => whnf); (refine And.intro ?_ ?_)) | ((conv => whnf); exact trivial)))
  all_goals (conv => whnf)
  all_goals (repeat' (first | exact trivial | rfl | exact Nat.one_pos | (refine And.intro ?_ ?_) | ((conv => whnf); (refine And.intro ?_ ?_)) | ((conv => whnf); exact trivial)))
  exact Int.one_mul y
def c77 : Con := mkCon 77 true fun args K => match args with | [.val (.int .u64 1), .val (.int .u64 y)] => Need (0 ≤ y ∧ y ≤ 1000000) (K (.tup [U6 0, U6 y])) | _ => False
theorem k77 : ConOK Try.prog c77 := by
  refine conOK_of rfl (enters_of Try.func77 (by kernel_rfl) rfl) ?_
  intro args K h
  simp only [c77] at h
  split at h
  · rename_i y; exact ⟨_, h.go, tri_of_body (Γ := []) (by simp) Try.func77 (by simp [Try.ntmps77]) rfl (b77 y h.ok)⟩
  · exact h.elim
theorem b64 (y : Int) (h : 0 ≤ y ∧ y ≤ 1000000) : body Try.prog [c77] {} true Try.f64 [U6 1, U6 y] (.tup [U6 0, U6 y]) := by
  (repeat' ((conv => whnf); first | (refine Giv.mk fun _ => ?_) | (refine Alt.l (Need.mk ?h ?_); case h => omega) | (refine Alt.r (Need.mk ?h ?_); case h => omega) | (refine Need.mk ?h ?_; case h => first | omega | (intro _; rfl) | assumption | (simp <;> omega)) | refine Ix.zero ?_ | refine Ix.one ?_ | refine Ix.two ?_ | refine Ix.nat ?_ | refine Ix.add ?_ | (apply Go.Eng.Pin.mk; apply Exists.intro) | apply Go.Eng.Pinned.mk rfl rfl | (apply Go.Eng.PinH.mk; apply Exists.intro; apply Exists.intro) | exact Go.Eng.Fin0.mk | refine Go.Eng.Chk.mk ?_ ?_ | refine Own.l ?_ | fail))
  (conv => whnf)
  (repeat' (first | exact trivial | rfl | exact Nat.one_pos | (refine And.intro ?_ ?_) | ((conv => whnf); (refine And.intro ?_ ?_)) | ((conv => whnf); exact trivial)))
def c64 : Con := mkCon 64 true fun args K => match args with | [.val (.int .u64 1), .val (.int .u64 y)] => Need (0 ≤ y ∧ y ≤ 1000000) (K (.tup [U6 0, U6 y])) | _ => False
theorem k64 : ConOK Try.prog c64 := by
  refine conOK_of rfl (enters_of Try.func64 (by kernel_rfl) rfl) ?_
  intro args K h
  simp only [c64] at h
  split at h
  · rename_i y; exact ⟨_, h.go, tri_of_body (Γ := [c77]) (by simp [k77]) Try.func64 (by simp [Try.ntmps64]) rfl (b64 y h.ok)⟩
  · exact h.elim
/-! ### slices.Repeat of one truth -/
def repL {α : Type} (v z : α) (n k : Nat) : List α := List.replicate (min k n) v ++ List.replicate (n - k) z
theorem repL_len {α : Type} (v z : α) (n k : Nat) : (repL v z n k).length = n := by simp [repL]; omega
theorem repL_all {α : Type} (v z : α) (n k : Nat) (h : n ≤ k) : repL v z n k = List.replicate n v := by
  unfold repL
  rw [Nat.min_eq_right h, show n - k = 0 by omega]; simp
theorem repL_zero {α : Type} (v z : α) (n : Nat) : repL v z n 0 = List.replicate n z := by simp [repL]
theorem repL_first {α : Type} (v z : α) (n : Nat) : layL (List.replicate n z) 0 ([v].take n) = repL v z n 1 := by
  cases n with
  | zero => rfl
  | succ m => simp [layL, repL, Nat.min_eq_left]
theorem repL_min {α : Type} (v z : α) (n : Nat) : repL v z n 1 = repL v z n (min 1 n) := by
  cases n with
  | zero => rfl
  | succ m => rw [Nat.min_eq_left (by omega)]
theorem repL_next {α : Type} (v z : α) (n k : Nat) (hk : k ≤ n) : layL (repL v z n k) k (((repL v z n k).take k).take (n - k)) = repL v z n (k + min k (n - k)) ∧ (((repL v z n k).take k).take (n - k)).length = min k (n - k) := by
  have e : (repL v z n k).take k = List.replicate k v := by
    unfold repL
    rw [Nat.min_eq_left hk, List.take_left' (by simp)]
  have e2 : ((repL v z n k).take k).take (n - k) = List.replicate (min k (n - k)) v := by rw [e, List.take_replicate, Nat.min_comm]
  rw [e2]
  refine ⟨?_, by simp⟩
  unfold layL repL
  rw [Nat.min_eq_left hk, List.take_left' (by simp), List.length_replicate, Nat.min_eq_left (by omega : k + min k (n - k) ≤ n), List.drop_append, List.length_replicate, List.drop_replicate, List.drop_replicate, List.replicate_append_replicate.symm, List.append_assoc]
  congr 2
  rw [show k - (k + min k (n - k)) = 0 by omega, List.replicate_zero, List.nil_append]
  congr 1
  omega
theorem b39 (n : Int) (h : 0 ≤ n ∧ n ≤ 100000) : bodyO Try.prog [c64] { asks := [(0, [])] } Try.f39 [.seq .bool [true], I n] (.ref 0 1) .bool (List.replicate n.toNat true) 4 := by
  obtain ⟨h1, h2⟩ := h
  (repeat' ((conv => whnf); first | (refine Giv.mk fun _ => ?_) | (refine Alt.l (Need.mk ?h ?_); case h => omega) | (refine Alt.r (Need.mk ?h ?_); case h => omega) | (refine Need.mk ?h ?_; case h => first | omega | (intro _; rfl) | assumption | (simp <;> omega)) | refine Ix.zero ?_ | refine Ix.one ?_ | refine Ix.two ?_ | refine Ix.nat ?_ | refine Ix.add ?_ | (apply Go.Eng.Pin.mk; apply Exists.intro) | apply Go.Eng.Pinned.mk rfl rfl | (apply Go.Eng.PinH.mk; apply Exists.intro; apply Exists.intro) | exact Go.Eng.Fin0.mk | refine Go.Eng.Chk.mk ?_ ?_ | refine Own.l ?_ | (refine Br.mkY ?h ?_; case h => first | omega | assumption) | (refine Br.mkN ?h ?_; case h => first | omega | assumption | exact not_not_intro (by assumption)) | fail))
  refine Need.mk (show 0 ≤ n ∧ n ≤ n ∧ n ≤ 140737488355328 ∧ n * ((1 : Nat) : Int) ≤ 140737488355328 by omega) ?_
  (repeat' ((conv => whnf); first | (refine Giv.mk fun _ => ?_) | (refine Alt.l (Need.mk ?h ?_); case h => omega) | (refine Alt.r (Need.mk ?h ?_); case h => omega) | (refine Need.mk ?h ?_; case h => first | omega | (intro _; rfl) | assumption | (simp <;> omega)) | refine Ix.zero ?_ | refine Ix.one ?_ | refine Ix.two ?_ | refine Ix.nat ?_ | refine Ix.add ?_ | (apply Go.Eng.Pin.mk; apply Exists.intro) | apply Go.Eng.Pinned.mk rfl rfl | (apply Go.Eng.PinH.mk; apply Exists.intro; apply Exists.intro) | exact Go.Eng.Fin0.mk | refine Go.Eng.Chk.mk ?_ ?_ | refine Own.l ?_ | (refine Br.mkY ?h ?_; case h => first | omega | assumption) | (refine Br.mkN ?h ?_; case h => first | omega | assumption | exact not_not_intro (by assumption)) | fail))
  have hf := repL_first true false n.toNat
  have hfl : ([true].take (n.toNat - 0)).length = min 1 n.toNat := by simp [Nat.min_comm]
  refine Ask.mk ⟨{ X := Nat, pre := fun k => k ≤ n.toNat ∧ (k = 0 → n.toNat = 0), mod := fun k _ => [(8, I k)], heap := fun k _ => [.vec 1 .bool [] 4, .vec 1 .bool (repL true false n.toNat k) 4], mu := fun k => n.toNat - k }, rfl, ?_⟩
  (repeat' ((conv => whnf); first | (refine Giv.mk fun _ => ?_) | (refine Alt.l (Need.mk ?h ?_); case h => omega) | (refine Alt.r (Need.mk ?h ?_); case h => omega) | (refine Need.mk ?h ?_; case h => first | omega | (intro _; rfl) | assumption | (simp <;> omega)) | refine Ix.zero ?_ | refine Ix.one ?_ | refine Ix.two ?_ | refine Ix.nat ?_ | refine Ix.add ?_ | (apply Go.Eng.Pin.mk; apply Exists.intro) | apply Go.Eng.Pinned.mk rfl rfl | (apply Go.Eng.PinH.mk; apply Exists.intro; apply Exists.intro) | exact Go.Eng.Fin0.mk | refine Go.Eng.Chk.mk ?_ ?_ | refine Own.l ?_ | fail))
  refine ⟨⟨min 1 n.toNat, ⟨by omega, by omega⟩, ?_⟩, fun (k : Nat) hk => ?_⟩
  · (repeat' (first | exact trivial | rfl | exact Nat.one_pos | (refine And.intro ?_ ?_) | omega | ((conv => whnf); (refine And.intro ?_ ?_)) | ((conv => whnf); exact trivial)))
    · simp [Nat.min_comm]
    · rw [List.length_replicate, Nat.sub_zero, hf, repL_min]
      exact rfl
  · obtain ⟨hk, hk0⟩ := hk
    obtain ⟨e1, e2⟩ := repL_next true false n.toNat k hk
    have hrl := repL_len true false n.toNat k
    (repeat' ((conv => whnf); first | (refine Giv.mk fun _ => ?_) | (refine Alt.l (Need.mk ?h ?_); case h => omega) | (refine Alt.r (Need.mk ?h ?_); case h => omega) | (refine Need.mk ?h ?_; case h => first | omega | (intro _; rfl) | assumption | (simp <;> omega)) | refine Ix.zero ?_ | refine Ix.one ?_ | refine Ix.two ?_ | refine Ix.nat ?_ | refine Ix.add ?_ | (apply Go.Eng.Pin.mk; apply Exists.intro) | apply Go.Eng.Pinned.mk rfl rfl | (apply Go.Eng.PinH.mk; apply Exists.intro; apply Exists.intro) | exact Go.Eng.Fin0.mk | refine Go.Eng.Chk.mk ?_ ?_ | refine Own.l ?_ | fail))
    (refine Br.mk (fun _ => ?_) (fun _ => ?_))
    · have e3 : (((repL true false n.toNat k).take k).drop 0).take ((repL true false n.toNat k).length - k) = ((repL true false n.toNat k).take k).take (n.toNat - k) := by rw [List.drop_zero, hrl]
      (repeat' ((conv => whnf); first | (refine Giv.mk fun _ => ?_) | (refine Alt.l (Need.mk ?h ?_); case h => omega) | (refine Alt.r (Need.mk ?h ?_); case h => omega) | (refine Need.mk ?h ?_; case h => first | omega | (intro _; rfl) | assumption | (simp <;> omega)) | refine Ix.zero ?_ | refine Ix.one ?_ | refine Ix.two ?_ | refine Ix.nat ?_ | refine Ix.add ?_ | (apply Go.Eng.Pin.mk; apply Exists.intro) | apply Go.Eng.Pinned.mk rfl rfl | (apply Go.Eng.PinH.mk; apply Exists.intro; apply Exists.intro) | exact Go.Eng.Fin0.mk | refine Go.Eng.Chk.mk ?_ ?_ | refine Own.r ?_ | fail))
      refine ⟨k + min k (n.toNat - k), by show n.toNat - (k + min k (n.toNat - k)) < n.toNat - k; omega, ⟨by omega, by omega⟩, ?_⟩
      (repeat' (first | exact trivial | rfl | exact Nat.one_pos | (refine And.intro ?_ ?_) | omega | ((conv => whnf); (refine And.intro ?_ ?_)) | ((conv => whnf); exact trivial)))
      · rw [e3, e2]; omega
      · rw [e3, e1]
        exact rfl
    · have hall := repL_all true false n.toNat k (by omega)
      (repeat' ((conv => whnf); first | (refine Giv.mk fun _ => ?_) | (refine Alt.l (Need.mk ?h ?_); case h => omega) | (refine Alt.r (Need.mk ?h ?_); case h => omega) | (refine Need.mk ?h ?_; case h => first | omega | (intro _; rfl) | assumption | (simp <;> omega)) | refine Ix.zero ?_ | refine Ix.one ?_ | refine Ix.two ?_ | refine Ix.nat ?_ | refine Ix.add ?_ | (apply Go.Eng.Pin.mk; apply Exists.intro) | apply Go.Eng.Pinned.mk rfl rfl | (apply Go.Eng.PinH.mk; apply Exists.intro; apply Exists.intro) | exact Go.Eng.Fin0.mk | refine Go.Eng.Chk.mk ?_ ?_ | refine Own.l ?_ | (refine Br.mkY ?h ?_; case h => first | omega | assumption) | (refine Br.mkN ?h ?_; case h => first | omega | assumption | exact not_not_intro (by assumption)) | fail))
      (repeat' (first | exact trivial | rfl | exact Nat.one_pos | (refine And.intro ?_ ?_) | ((conv => whnf); (refine And.intro ?_ ?_)) | ((conv => whnf); exact trivial)))
      exact hall
def c39 : Con := ownCon 39 fun args K => match args with | [.seq .bool [true], .val (.int .i64 n)] => Need (0 ≤ n ∧ n ≤ 100000) (K (.ref 0 1) (.vec 1 (.bool) (List.replicate n.toNat true) 4)) | _ => False
theorem k39 : ConOK Try.prog c39 := by
  refine ownOK_of (enters_of Try.func39 (by kernel_rfl) rfl) ?_
  intro args K h
  split at h
  · rename_i n; exact ⟨_, _, _, _, _, h.go, fun hfl => otri_of_body (Γ := [c64]) (by simp [k64]) Try.func39 (by simp [Try.ntmps39]) hfl (b39 n h.ok)⟩
  · exact h.elim
/-! ### slices.Reverse -/
def revAt (xs : List (Int × Int)) (k : Nat) : List (Int × Int) := (List.range xs.length).map fun p => if p < k ∨ xs.length - k ≤ p then xs.getD (xs.length - 1 - p) (0, 0) else xs.getD p (0, 0)
theorem revAt_len (xs : List (Int × Int)) (k : Nat) : (revAt xs k).length = xs.length := by simp [revAt]
theorem revAt_get (xs : List (Int × Int)) (k p : Nat) (h : p < xs.length) : (revAt xs k).getD p (0, 0) = if p < k ∨ xs.length - k ≤ p then xs.getD (xs.length - 1 - p) (0, 0) else xs.getD p (0, 0) := by
  simp [revAt, List.getD_eq_getElem?_getD, h]
theorem set_getD {α : Type} (xs : List α) (i p : Nat) (v d : α) : (xs.set i v).getD p d = if p = i ∧ p < xs.length then v else xs.getD p d := by
  rw [List.getD_eq_getElem?_getD, List.getD_eq_getElem?_getD, List.getElem?_set]
  by_cases h : i = p
  · subst h
    by_cases h2 : i < xs.length
    · simp [h2]
    · simp [h2]
  · have : ¬ p = i := fun e => h e.symm
    simp [h, this]
theorem revAt_zero (xs : List (Int × Int)) : revAt xs 0 = xs := by
  refine pair_ext (revAt_len xs 0) fun p hp => ?_
  rw [revAt_len] at hp
  rw [revAt_get _ _ _ hp, if_neg (by omega)]
theorem revAt_step (xs : List (Int × Int)) (k : Nat) (h : 2 * k + 1 < xs.length) : ((revAt xs k).set k ((revAt xs k).getD (xs.length - 1 - k) (0, 0))).set (xs.length - 1 - k) ((revAt xs k).getD k (0, 0)) = revAt xs (k + 1) := by
  refine pair_ext (by simp [revAt_len]) fun p hp => ?_
  have hp : p < xs.length := by simpa [revAt_len] using hp
  rw [set_getD, set_getD, List.length_set, revAt_len, revAt_get _ _ _ hp, revAt_get _ _ _ hp, revAt_get _ _ _ (by omega), revAt_get _ _ _ (by omega)]
  by_cases h1 : p = xs.length - 1 - k
  · rw [if_pos ⟨h1, hp⟩, if_neg (by omega), if_pos (by omega)]
    congr 1; omega
  · rw [if_neg (fun h => h1 h.1)]
    by_cases h2 : p = k
    · rw [if_pos ⟨h2, hp⟩, if_neg (by omega), if_pos (by omega)]
      congr 1; omega
    · rw [if_neg (fun h => h2 h.1)]
      by_cases h3 : p < k ∨ xs.length - k ≤ p
      · rw [if_pos h3, if_pos (by omega)]
      · rw [if_neg h3, if_neg (by omega)]
theorem revAt_all (xs : List (Int × Int)) (k : Nat) (h : xs.length ≤ 2 * k + 1) : revAt xs k = xs.reverse := by
  refine pair_ext (by simp [revAt_len]) fun p hp => ?_
  have hp : p < xs.length := by simpa [revAt_len] using hp
  have e : xs.reverse.getD p (0, 0) = xs.getD (xs.length - 1 - p) (0, 0) := by
    rw [List.getD_eq_getElem?_getD, List.getD_eq_getElem?_getD, List.getElem?_reverse hp]
  rw [revAt_get _ _ _ hp, e]
  by_cases h3 : p < k ∨ xs.length - k ≤ p
  · rw [if_pos h3]
  · rw [if_neg h3]
    congr 1; omega
theorem b60 (xs : List (Int × Int)) (h : xs.length ≤ 100000) : bodyL Try.prog [] { asks := [(0, [])] } Try.f60 0 true [.any] Two xs 29 (.tup []) xs.reverse := by
  (repeat' ((conv => whnf); first | (refine Giv.mk fun _ => ?_) | (refine Alt.l (Need.mk ?h ?_); case h => omega) | (refine Alt.r (Need.mk ?h ?_); case h => omega) | (refine Need.mk ?h ?_; case h => first | omega | (intro _; rfl) | assumption | (simp <;> omega)) | refine Ix.zero ?_ | refine Ix.one ?_ | refine Ix.two ?_ | refine Ix.nat ?_ | refine Ix.add ?_ | (apply Go.Eng.Pin.mk; apply Exists.intro) | apply Go.Eng.Pinned.mk rfl rfl | (apply Go.Eng.PinH.mk; apply Exists.intro; apply Exists.intro) | exact Go.Eng.Fin0.mk | refine Go.Eng.Chk.mk ?_ ?_ | refine Own.l ?_ | fail))
  refine Ask.mk ⟨{ X := Nat, pre := fun k => 2 * k ≤ xs.length, mod := fun k _ => [(2, I k), (3, I ((xs.length : Int) - 1 - k))], heap := fun k _ => [.vec 1 Two (revAt xs k) 29], mu := fun k => xs.length - k }, rfl, ?_⟩
  (repeat' ((conv => whnf); first | (refine Giv.mk fun _ => ?_) | (refine Alt.l (Need.mk ?h ?_); case h => omega) | (refine Alt.r (Need.mk ?h ?_); case h => omega) | (refine Need.mk ?h ?_; case h => first | omega | (intro _; rfl) | assumption | (simp <;> omega)) | refine Ix.zero ?_ | refine Ix.one ?_ | refine Ix.two ?_ | refine Ix.nat ?_ | refine Ix.add ?_ | (apply Go.Eng.Pin.mk; apply Exists.intro) | apply Go.Eng.Pinned.mk rfl rfl | (apply Go.Eng.PinH.mk; apply Exists.intro; apply Exists.intro) | exact Go.Eng.Fin0.mk | refine Go.Eng.Chk.mk ?_ ?_ | refine Own.l ?_ | fail))
  refine ⟨⟨(0 : Nat), Nat.zero_le _, ?_⟩, fun (k : Nat) (hk : 2 * k ≤ xs.length) => ?_⟩
  · (repeat' (first | exact trivial | rfl | exact Nat.one_pos | (refine And.intro ?_ ?_) | omega | ((conv => whnf); (refine And.intro ?_ ?_)) | ((conv => whnf); exact trivial)))
    exact (revAt_zero xs).symm
  · have hl := revAt_len xs k
    (repeat' ((conv => whnf); first | (refine Giv.mk fun _ => ?_) | (refine Alt.l (Need.mk ?h ?_); case h => omega) | (refine Alt.r (Need.mk ?h ?_); case h => omega) | (refine Need.mk ?h ?_; case h => first | omega | (intro _; rfl) | assumption | (simp <;> omega)) | refine Ix.zero ?_ | refine Ix.one ?_ | refine Ix.two ?_ | refine Ix.nat ?_ | refine Ix.add ?_ | (apply Go.Eng.Pin.mk; apply Exists.intro) | apply Go.Eng.Pinned.mk rfl rfl | (apply Go.Eng.PinH.mk; apply Exists.intro; apply Exists.intro) | exact Go.Eng.Fin0.mk | refine Go.Eng.Chk.mk ?_ ?_ | refine Own.l ?_ | fail))
    (refine Br.mk (fun _ => ?_) (fun _ => ?_))
    · have hst := revAt_step xs k (by omega)
      have e1 : (xs.length : Int) - 1 - k = ((xs.length - 1 - k : Nat) : Int) := by omega
      (repeat' ((conv => whnf); first | (refine Giv.mk fun _ => ?_) | (refine Alt.l (Need.mk ?h ?_); case h => omega) | (refine Alt.r (Need.mk ?h ?_); case h => omega) | (refine Need.mk ?h ?_; case h => first | omega | (intro _; rfl) | assumption | (simp <;> omega)) | refine Ix.zero ?_ | refine Ix.one ?_ | refine Ix.two ?_ | refine Ix.nat ?_ | refine Ix.add ?_ | (apply Go.Eng.Pin.mk; apply Exists.intro) | apply Go.Eng.Pinned.mk rfl rfl | (apply Go.Eng.PinH.mk; apply Exists.intro; apply Exists.intro) | exact Go.Eng.Fin0.mk | refine Go.Eng.Chk.mk ?_ ?_ | refine Own.l ?_ | fail))
      refine ix_at (xs.length - 1 - k) e1 ?_
      (repeat' ((conv => whnf); first | (refine Giv.mk fun _ => ?_) | (refine Alt.l (Need.mk ?h ?_); case h => omega) | (refine Alt.r (Need.mk ?h ?_); case h => omega) | (refine Need.mk ?h ?_; case h => first | omega | (intro _; rfl) | assumption | (simp <;> omega)) | refine Ix.zero ?_ | refine Ix.one ?_ | refine Ix.two ?_ | refine Ix.nat ?_ | refine Ix.add ?_ | (apply Go.Eng.Pin.mk; apply Exists.intro) | apply Go.Eng.Pinned.mk rfl rfl | (apply Go.Eng.PinH.mk; apply Exists.intro; apply Exists.intro) | exact Go.Eng.Fin0.mk | refine Go.Eng.Chk.mk ?_ ?_ | refine Own.l ?_ | fail))
      refine ix_at (xs.length - 1 - k) e1 ?_
      (repeat' ((conv => whnf); first | (refine Giv.mk fun _ => ?_) | (refine Alt.l (Need.mk ?h ?_); case h => omega) | (refine Alt.r (Need.mk ?h ?_); case h => omega) | (refine Need.mk ?h ?_; case h => first | omega | (intro _; rfl) | assumption | (simp <;> omega)) | refine Ix.zero ?_ | refine Ix.one ?_ | refine Ix.two ?_ | refine Ix.nat ?_ | refine Ix.add ?_ | (apply Go.Eng.Pin.mk; apply Exists.intro) | apply Go.Eng.Pinned.mk rfl rfl | (apply Go.Eng.PinH.mk; apply Exists.intro; apply Exists.intro) | exact Go.Eng.Fin0.mk | refine Go.Eng.Chk.mk ?_ ?_ | refine Own.l ?_ | fail))
      refine ⟨(k + 1 : Nat), by show xs.length - (k + 1) < xs.length - k; omega, by show 2 * (k + 1) ≤ xs.length; omega, ?_⟩
      (repeat' (first | exact trivial | rfl | exact Nat.one_pos | (refine And.intro ?_ ?_) | omega | ((conv => whnf); (refine And.intro ?_ ?_)) | ((conv => whnf); exact trivial)))
      exact hst
    · have hall := revAt_all xs k (by omega)
      (repeat' ((conv => whnf); first | (refine Giv.mk fun _ => ?_) | (refine Alt.l (Need.mk ?h ?_); case h => omega) | (refine Alt.r (Need.mk ?h ?_); case h => omega) | (refine Need.mk ?h ?_; case h => first | omega | (intro _; rfl) | assumption | (simp <;> omega)) | refine Ix.zero ?_ | refine Ix.one ?_ | refine Ix.two ?_ | refine Ix.nat ?_ | refine Ix.add ?_ | (apply Go.Eng.Pin.mk; apply Exists.intro) | apply Go.Eng.Pinned.mk rfl rfl | (apply Go.Eng.PinH.mk; apply Exists.intro; apply Exists.intro) | exact Go.Eng.Fin0.mk | refine Go.Eng.Chk.mk ?_ ?_ | refine Own.l ?_ | fail))
      (repeat' (first | exact trivial | rfl | exact Nat.one_pos | (refine And.intro ?_ ?_) | ((conv => whnf); (refine And.intro ?_ ?_)) | ((conv => whnf); exact trivial)))
      exact hall
def c60 : Con := linCon 60 0 true fun args o K => match args, o with | [.any], .vec 1 (.pair (.int .i64) (.int .i64)) ws 29 => Need (ws.length ≤ 100000) (K (.tup []) (.vec 1 (.pair (.int .i64) (.int .i64)) (ws.reverse) 29)) | _, _ => False
theorem k60 : ConOK Try.prog c60 := by
  refine linOK_of (enters_of Try.func60 (by kernel_rfl) rfl) ?_
  intro args t xs e K hfl h
  split at h
  · rename_i zs heq
    cases heq
    first | exact ⟨_, _, h.go, ltri_of_body (Γ := []) (by simp) Try.func60 (by simp [Try.ntmps60]) rfl (b60 zs h.ok)⟩ | exact ⟨_, _, h.go, ltri_of_body (Γ := []) (by simp) Try.func60 (by simp [Try.ntmps60]) rfl (b60 xs h.ok)⟩
  · exact h.elim
/-! ### erect.Reverse -/
def kindR (k : Int) : Int := if k = 1 then 1 else if k = 2 then 3 else if k = 3 then 2 else 0
def flipS (x : Int × Int) : Int × Int := (kindR x.1, x.2)
def flipAt (xs : List (Int × Int)) (k : Nat) : List (Int × Int) := (xs.take k).map flipS ++ xs.drop k
theorem flipAt_len (xs : List (Int × Int)) (k : Nat) : (flipAt xs k).length = xs.length := by simp [flipAt]; omega
theorem flipAt_here (xs : List (Int × Int)) (k : Nat) (h : k < xs.length) : (flipAt xs k).getD k (0, 0) = xs.getD k (0, 0) := by
  unfold flipAt
  rw [List.getD_eq_getElem?_getD, List.getElem?_append_right (by simp; omega)]
  simp [List.getD_eq_getElem?_getD, Nat.min_eq_left (Nat.le_of_lt h)]
theorem flipAt_step (xs : List (Int × Int)) (k : Nat) (h : k < xs.length) : (flipAt xs k).set k (flipS (xs.getD k (0, 0))) = flipAt xs (k + 1) := by
  unfold flipAt
  rw [take_pair xs k h, List.map_append, List.map_cons, List.map_nil, List.set_append_right _ _ (by simp; omega), List.append_assoc]
  congr 1
  have e : xs.drop k = xs.getD k (0, 0) :: xs.drop (k + 1) := by
    rw [List.drop_eq_getElem_cons h]; simp [List.getD_eq_getElem?_getD, h]
  rw [e]
  simp [Nat.min_eq_left (Nat.le_of_lt h)]
def revRes (S : List (Int × Int)) : List (Int × Int) := if chkE (-1) S = 0 then S.reverse.map flipS else []
theorem chk_mem {n : Int} {S : List (Int × Int)} (h : chkE n S = 0) : ∀ i, i < S.length → (1 ≤ (S.getD i (0, 0)).1 ∧ (S.getD i (0, 0)).1 ≤ 3) ∧ 0 ≤ (S.getD i (0, 0)).2 := by
  intro i hi
  unfold chkE at h
  split at h
  · cases h
  have := firstE_zero h i hi
  unfold chkAt at this
  split at this
  · cases this
  split at this
  · cases this
  omega
theorem rev_get (xs : List (Int × Int)) (p : Nat) (h : p < xs.length) : xs.reverse.getD p (0, 0) = xs.getD (xs.length - 1 - p) (0, 0) := by
  rw [List.getD_eq_getElem?_getD, List.getD_eq_getElem?_getD, List.getElem?_reverse h]
theorem b27 (S : List (Int × Int)) : body Try.prog [c23, c51, c60] { asks := [(0, [])] } true Try.f27 [Ps S] (.tup [Ps (revRes S), I (chkE (-1) S)]) := by
  (repeat' ((conv => whnf); first | (refine Giv.mk fun _ => ?_) | (refine Alt.l (Need.mk ?h ?_); case h => omega) | (refine Alt.r (Need.mk ?h ?_); case h => omega) | (refine Need.mk ?h ?_; case h => first | omega | (intro _; rfl) | assumption | (simp <;> omega)) | refine Ix.zero ?_ | refine Ix.one ?_ | refine Ix.two ?_ | refine Ix.nat ?_ | refine Ix.add ?_ | (apply Go.Eng.Pin.mk; apply Exists.intro) | apply Go.Eng.Pinned.mk rfl rfl | (apply Go.Eng.PinH.mk; apply Exists.intro; apply Exists.intro) | exact Go.Eng.Fin0.mk | refine Go.Eng.Chk.mk ?_ ?_ | refine Own.l ?_ | fail))
  (refine Br.mk (fun _ => ?_) (fun _ => ?_))
  · rename_i h
    (repeat' ((conv => whnf); first | (refine Giv.mk fun _ => ?_) | (refine Alt.l (Need.mk ?h ?_); case h => omega) | (refine Alt.r (Need.mk ?h ?_); case h => omega) | (refine Need.mk ?h ?_; case h => first | omega | (intro _; rfl) | assumption | (simp <;> omega)) | refine Ix.zero ?_ | refine Ix.one ?_ | refine Ix.two ?_ | refine Ix.nat ?_ | refine Ix.add ?_ | (apply Go.Eng.Pin.mk; apply Exists.intro) | apply Go.Eng.Pinned.mk rfl rfl | (apply Go.Eng.PinH.mk; apply Exists.intro; apply Exists.intro) | exact Go.Eng.Fin0.mk | refine Go.Eng.Chk.mk ?_ ?_ | refine Own.l ?_ | fail))
    (conv => whnf)
    (repeat' (first | exact trivial | rfl | exact Nat.one_pos | (refine And.intro ?_ ?_) | ((conv => whnf); (refine And.intro ?_ ?_)) | ((conv => whnf); exact trivial)))
    (conv => whnf)
    unfold revRes
    rw [if_neg h]
  · rename_i h
    have h := Classical.not_not.1 h
    have hlen := chkE_len h
    have hm := chk_mem h
    (repeat' ((conv => whnf); first | (refine Giv.mk fun _ => ?_) | (refine Alt.l (Need.mk ?h ?_); case h => omega) | (refine Alt.r (Need.mk ?h ?_); case h => omega) | (refine Need.mk ?h ?_; case h => first | omega | (intro _; rfl) | assumption | (simp <;> omega)) | refine Ix.zero ?_ | refine Ix.one ?_ | refine Ix.two ?_ | refine Ix.nat ?_ | refine Ix.add ?_ | (apply Go.Eng.Pin.mk; apply Exists.intro) | apply Go.Eng.Pinned.mk rfl rfl | (apply Go.Eng.PinH.mk; apply Exists.intro; apply Exists.intro) | exact Go.Eng.Fin0.mk | refine Go.Eng.Chk.mk ?_ ?_ | refine Own.l ?_ | fail))
    refine Ask.mk ⟨{ X := Nat, pre := fun k => k ≤ S.reverse.length, mod := fun k _ => [(20, I k)], heap := fun k _ => [.vec 1 Two [] 29, .cells [I 0, I 1, I 3, I 2] 85, .vec 1 Two (flipAt S.reverse k) 29], mu := fun k => S.reverse.length - k }, rfl, ?_⟩
    (repeat' ((conv => whnf); first | (refine Giv.mk fun _ => ?_) | (refine Alt.l (Need.mk ?h ?_); case h => omega) | (refine Alt.r (Need.mk ?h ?_); case h => omega) | (refine Need.mk ?h ?_; case h => first | omega | (intro _; rfl) | assumption | (simp <;> omega)) | refine Ix.zero ?_ | refine Ix.one ?_ | refine Ix.two ?_ | refine Ix.nat ?_ | refine Ix.add ?_ | (apply Go.Eng.Pin.mk; apply Exists.intro) | apply Go.Eng.Pinned.mk rfl rfl | (apply Go.Eng.PinH.mk; apply Exists.intro; apply Exists.intro) | exact Go.Eng.Fin0.mk | refine Go.Eng.Chk.mk ?_ ?_ | refine Own.l ?_ | fail))
    refine ⟨⟨(0 : Nat), Nat.zero_le _, ?_⟩, fun (k : Nat) (hk : k ≤ S.reverse.length) => ?_⟩
    · (repeat' (first | exact trivial | rfl | exact Nat.one_pos | (refine And.intro ?_ ?_) | omega | ((conv => whnf); (refine And.intro ?_ ?_)) | ((conv => whnf); exact trivial)))
    · have hl := flipAt_len S.reverse k
      (repeat' ((conv => whnf); first | (refine Giv.mk fun _ => ?_) | (refine Alt.l (Need.mk ?h ?_); case h => omega) | (refine Alt.r (Need.mk ?h ?_); case h => omega) | (refine Need.mk ?h ?_; case h => first | omega | (intro _; rfl) | assumption | (simp <;> omega)) | refine Ix.zero ?_ | refine Ix.one ?_ | refine Ix.two ?_ | refine Ix.nat ?_ | refine Ix.add ?_ | (apply Go.Eng.Pin.mk; apply Exists.intro) | apply Go.Eng.Pinned.mk rfl rfl | (apply Go.Eng.PinH.mk; apply Exists.intro; apply Exists.intro) | exact Go.Eng.Fin0.mk | refine Go.Eng.Chk.mk ?_ ?_ | refine Own.l ?_ | fail))
      (refine Br.mk (fun _ => ?_) (fun _ => ?_))
      · have hlt : k < S.reverse.length := by omega
        have hrl : S.reverse.length = S.length := List.length_reverse
        have hh := flipAt_here S.reverse k hlt
        have hst := flipAt_step S.reverse k hlt
        have hmm := hm (S.length - 1 - k) (by omega)
        rw [← rev_get S k (by omega), ← hh] at hmm
        obtain ⟨m1, m2⟩ := hmm
        have hc : ((flipAt S.reverse k).getD k (0, 0)).1 = 1 ∨ ((flipAt S.reverse k).getD k (0, 0)).1 = 2 ∨ ((flipAt S.reverse k).getD k (0, 0)).1 = 3 := by omega
        have hff : ∀ q : Nat, ((flipAt S.reverse k).getD k (0, 0)).1 = (q : Int) → (flipAt S.reverse k).set k (kindR q, ((flipAt S.reverse k).getD k (0, 0)).2) = flipAt S.reverse (k + 1) := fun q hq => by
          rw [← hst, ← hh]; unfold flipS; rw [hq]
        rcases hc with hc | hc | hc
        · have hff := hff 1 hc
          (repeat' ((conv => whnf); first | (refine Giv.mk fun _ => ?_) | (refine Alt.l (Need.mk ?h ?_); case h => omega) | (refine Alt.r (Need.mk ?h ?_); case h => omega) | (refine Need.mk ?h ?_; case h => first | omega | (intro _; rfl) | assumption | (simp <;> omega)) | refine Ix.zero ?_ | refine Ix.one ?_ | refine Ix.two ?_ | refine Ix.nat ?_ | refine Ix.add ?_ | (apply Go.Eng.Pin.mk; apply Exists.intro) | apply Go.Eng.Pinned.mk rfl rfl | (apply Go.Eng.PinH.mk; apply Exists.intro; apply Exists.intro) | exact Go.Eng.Fin0.mk | refine Go.Eng.Chk.mk ?_ ?_ | refine Own.l ?_ | fail))
          refine ix_at 1 hc ?_
          (repeat' ((conv => whnf); first | (refine Giv.mk fun _ => ?_) | (refine Alt.l (Need.mk ?h ?_); case h => omega) | (refine Alt.r (Need.mk ?h ?_); case h => omega) | (refine Need.mk ?h ?_; case h => first | omega | (intro _; rfl) | assumption | (simp <;> omega)) | refine Ix.zero ?_ | refine Ix.one ?_ | refine Ix.two ?_ | refine Ix.nat ?_ | refine Ix.add ?_ | (apply Go.Eng.Pin.mk; apply Exists.intro) | apply Go.Eng.Pinned.mk rfl rfl | (apply Go.Eng.PinH.mk; apply Exists.intro; apply Exists.intro) | exact Go.Eng.Fin0.mk | refine Go.Eng.Chk.mk ?_ ?_ | refine Own.l ?_ | fail))
          refine ⟨(k + 1 : Nat), by show S.reverse.length - (k + 1) < S.reverse.length - k; omega, hlt, ?_⟩
          (repeat' (first | exact trivial | rfl | exact Nat.one_pos | (refine And.intro ?_ ?_) | omega | ((conv => whnf); (refine And.intro ?_ ?_)) | ((conv => whnf); exact trivial)))
          exact hff
        · have hff := hff 2 hc
          (repeat' ((conv => whnf); first | (refine Giv.mk fun _ => ?_) | (refine Alt.l (Need.mk ?h ?_); case h => omega) | (refine Alt.r (Need.mk ?h ?_); case h => omega) | (refine Need.mk ?h ?_; case h => first | omega | (intro _; rfl) | assumption | (simp <;> omega)) | refine Ix.zero ?_ | refine Ix.one ?_ | refine Ix.two ?_ | refine Ix.nat ?_ | refine Ix.add ?_ | (apply Go.Eng.Pin.mk; apply Exists.intro) | apply Go.Eng.Pinned.mk rfl rfl | (apply Go.Eng.PinH.mk; apply Exists.intro; apply Exists.intro) | exact Go.Eng.Fin0.mk | refine Go.Eng.Chk.mk ?_ ?_ | refine Own.l ?_ | fail))
          refine ix_at 2 hc ?_
          (repeat' ((conv => whnf); first | (refine Giv.mk fun _ => ?_) | (refine Alt.l (Need.mk ?h ?_); case h => omega) | (refine Alt.r (Need.mk ?h ?_); case h => omega) | (refine Need.mk ?h ?_; case h => first | omega | (intro _; rfl) | assumption | (simp <;> omega)) | refine Ix.zero ?_ | refine Ix.one ?_ | refine Ix.two ?_ | refine Ix.nat ?_ | refine Ix.add ?_ | (apply Go.Eng.Pin.mk; apply Exists.intro) | apply Go.Eng.Pinned.mk rfl rfl | (apply Go.Eng.PinH.mk; apply Exists.intro; apply Exists.intro) | exact Go.Eng.Fin0.mk | refine Go.Eng.Chk.mk ?_ ?_ | refine Own.l ?_ | fail))
          refine ⟨(k + 1 : Nat), by show S.reverse.length - (k + 1) < S.reverse.length - k; omega, hlt, ?_⟩
          (repeat' (first | exact trivial | rfl | exact Nat.one_pos | (refine And.intro ?_ ?_) | omega | ((conv => whnf); (refine And.intro ?_ ?_)) | ((conv => whnf); exact trivial)))
          exact hff
        · have hff := hff 3 hc
          (repeat' ((conv => whnf); first | (refine Giv.mk fun _ => ?_) | (refine Alt.l (Need.mk ?h ?_); case h => omega) | (refine Alt.r (Need.mk ?h ?_); case h => omega) | (refine Need.mk ?h ?_; case h => first | omega | (intro _; rfl) | assumption | (simp <;> omega)) | refine Ix.zero ?_ | refine Ix.one ?_ | refine Ix.two ?_ | refine Ix.nat ?_ | refine Ix.add ?_ | (apply Go.Eng.Pin.mk; apply Exists.intro) | apply Go.Eng.Pinned.mk rfl rfl | (apply Go.Eng.PinH.mk; apply Exists.intro; apply Exists.intro) | exact Go.Eng.Fin0.mk | refine Go.Eng.Chk.mk ?_ ?_ | refine Own.l ?_ | fail))
          refine ix_at 3 hc ?_
          (repeat' ((conv => whnf); first | (refine Giv.mk fun _ => ?_) | (refine Alt.l (Need.mk ?h ?_); case h => omega) | (refine Alt.r (Need.mk ?h ?_); case h => omega) | (refine Need.mk ?h ?_; case h => first | omega | (intro _; rfl) | assumption | (simp <;> omega)) | refine Ix.zero ?_ | refine Ix.one ?_ | refine Ix.two ?_ | refine Ix.nat ?_ | refine Ix.add ?_ | (apply Go.Eng.Pin.mk; apply Exists.intro) | apply Go.Eng.Pinned.mk rfl rfl | (apply Go.Eng.PinH.mk; apply Exists.intro; apply Exists.intro) | exact Go.Eng.Fin0.mk | refine Go.Eng.Chk.mk ?_ ?_ | refine Own.l ?_ | fail))
          refine ⟨(k + 1 : Nat), by show S.reverse.length - (k + 1) < S.reverse.length - k; omega, hlt, ?_⟩
          (repeat' (first | exact trivial | rfl | exact Nat.one_pos | (refine And.intro ?_ ?_) | omega | ((conv => whnf); (refine And.intro ?_ ?_)) | ((conv => whnf); exact trivial)))
          exact hff
      · have hii : k = S.reverse.length := by omega
        have hfa : flipAt S.reverse k = S.reverse.map flipS := by unfold flipAt; rw [hii, List.take_length, List.drop_length, List.append_nil]
        have hre : revRes S = S.reverse.map flipS := by unfold revRes; rw [if_pos h]
        (repeat' ((conv => whnf); first | (refine Giv.mk fun _ => ?_) | (refine Alt.l (Need.mk ?h ?_); case h => omega) | (refine Alt.r (Need.mk ?h ?_); case h => omega) | (refine Need.mk ?h ?_; case h => first | omega | (intro _; rfl) | assumption | (simp <;> omega)) | refine Ix.zero ?_ | refine Ix.one ?_ | refine Ix.two ?_ | refine Ix.nat ?_ | refine Ix.add ?_ | (apply Go.Eng.Pin.mk; apply Exists.intro) | apply Go.Eng.Pinned.mk rfl rfl | (apply Go.Eng.PinH.mk; apply Exists.intro; apply Exists.intro) | exact Go.Eng.Fin0.mk | refine Go.Eng.Chk.mk ?_ ?_ | refine Own.l ?_ | fail))
        (repeat' (first | exact trivial | rfl | exact Nat.one_pos | (refine And.intro ?_ ?_) | ((conv => whnf); (refine And.intro ?_ ?_)) | ((conv => whnf); exact trivial)))
        · (conv => whnf)
          rw [hfa, hre]
        · (conv => whnf)
          exact h.symm
def c27 : Con := mkCon 27 true fun args K => match args with | [.seq (.pair (.int .i64) (.int .i64)) S] => K (.tup [Ps (revRes S), I (chkE (-1) S)]) | _ => False
theorem k27 : ConOK Try.prog c27 := by
  refine conOK_of rfl (enters_of Try.func27 (by kernel_rfl) rfl) ?_
  intro args K h
  simp only [c27] at h
  split at h
  · rename_i S; exact ⟨_, h, tri_of_body (Γ := [c23, c51, c60]) (by simp [k23, k51, k60]) Try.func27 (by simp [Try.ntmps27]) rfl (b27 S)⟩
  · exact h.elim
end EB
end
section
set_option linter.unusedVariables false
open Go Go.Proofs Go.Eng Go.Shelf
set_option linter.unusedVariables false
namespace EB.R
set_option maxRecDepth 10000
/-! ### The law's own look at what stands -/
def onIt (m : Int) (st : List Bool) (r : Int × Int) : Bool := decide (r.2 = m) && st.getD r.1.toNat false
theorem b41 (a b k m : Int) (st : List Bool) (h : 0 ≤ a ∧ a < st.length) : body Try.prog [] {} true Try.f41 [.agg [I a, I b], .lelem [I k, I m] 0, .lelem [Bs st] 0] (.bl (onIt m st (a, b) = true) inferInstance) := by
  obtain ⟨h1, h2⟩ := h
  (repeat' ((conv => whnf); first | (refine Giv.mk fun _ => ?_) | (refine Alt.l (Need.mk ?h ?_); case h => omega) | (refine Alt.r (Need.mk ?h ?_); case h => omega) | (refine Need.mk ?h ?_; case h => first | omega | (intro _; rfl) | assumption | (simp <;> omega)) | refine Ix.zero ?_ | refine Ix.one ?_ | refine Ix.two ?_ | refine Ix.nat ?_ | refine Ix.add ?_ | (apply Go.Eng.Pin.mk; apply Exists.intro) | apply Go.Eng.Pinned.mk rfl rfl | (apply Go.Eng.PinH.mk; apply Exists.intro; apply Exists.intro) | exact Go.Eng.Fin0.mk | refine Go.Eng.Chk.mk ?_ ?_ | refine Own.l ?_ | fail))
  (refine Br.mk (fun _ => ?_) (fun _ => ?_))
  · rename_i hb
    (repeat' ((conv => whnf); first | (refine Giv.mk fun _ => ?_) | (refine Alt.l (Need.mk ?h ?_); case h => omega) | (refine Alt.r (Need.mk ?h ?_); case h => omega) | (refine Need.mk ?h ?_; case h => first | omega | (intro _; rfl) | assumption | (simp <;> omega)) | refine Ix.zero ?_ | refine Ix.one ?_ | refine Ix.two ?_ | refine Ix.nat ?_ | refine Ix.add ?_ | (apply Go.Eng.Pin.mk; apply Exists.intro) | apply Go.Eng.Pinned.mk rfl rfl | (apply Go.Eng.PinH.mk; apply Exists.intro; apply Exists.intro) | exact Go.Eng.Fin0.mk | refine Go.Eng.Chk.mk ?_ ?_ | refine Own.l ?_ | fail))
    refine ix_at a.toNat (by omega) ?_
    (repeat' ((conv => whnf); first | (refine Giv.mk fun _ => ?_) | (refine Alt.l (Need.mk ?h ?_); case h => omega) | (refine Alt.r (Need.mk ?h ?_); case h => omega) | (refine Need.mk ?h ?_; case h => first | omega | (intro _; rfl) | assumption | (simp <;> omega)) | refine Ix.zero ?_ | refine Ix.one ?_ | refine Ix.two ?_ | refine Ix.nat ?_ | refine Ix.add ?_ | (apply Go.Eng.Pin.mk; apply Exists.intro) | apply Go.Eng.Pinned.mk rfl rfl | (apply Go.Eng.PinH.mk; apply Exists.intro; apply Exists.intro) | exact Go.Eng.Fin0.mk | refine Go.Eng.Chk.mk ?_ ?_ | refine Own.l ?_ | fail))
    (conv => whnf)
    unfold onIt
    rw [decide_eq_true hb, Bool.true_and]
  · rename_i hb
    (repeat' ((conv => whnf); first | (refine Giv.mk fun _ => ?_) | (refine Alt.l (Need.mk ?h ?_); case h => omega) | (refine Alt.r (Need.mk ?h ?_); case h => omega) | (refine Need.mk ?h ?_; case h => first | omega | (intro _; rfl) | assumption | (simp <;> omega)) | refine Ix.zero ?_ | refine Ix.one ?_ | refine Ix.two ?_ | refine Ix.nat ?_ | refine Ix.add ?_ | (apply Go.Eng.Pin.mk; apply Exists.intro) | apply Go.Eng.Pinned.mk rfl rfl | (apply Go.Eng.PinH.mk; apply Exists.intro; apply Exists.intro) | exact Go.Eng.Fin0.mk | refine Go.Eng.Chk.mk ?_ ?_ | refine Own.l ?_ | fail))
    (conv => whnf)
    unfold onIt
    rw [decide_eq_false hb, Bool.false_and]; simp
def c41 : Con := mkCon 41 true fun args K => match args with | [.agg [.val (.int .i64 a), .val (.int .i64 b)], .lelem [.val (.int .i64 k), .val (.int .i64 m)] 0, .lelem [.seq .bool st] 0] => Need (0 ≤ a ∧ a < st.length) (K (.bl (onIt m st (a, b) = true) inferInstance)) | _ => False
theorem k41 : ConOK Try.prog c41 := by
  refine conOK_of rfl (enters_of Try.func41 (by kernel_rfl) rfl) ?_
  intro args K h
  simp only [c41] at h
  split at h
  · rename_i a b k m st; exact ⟨_, h.go, tri_of_body (Γ := []) (by simp) Try.func41 (by simp [Try.ntmps41]) rfl (b41 a b k m st h.ok)⟩
  · exact h.elim
theorem b65 (xs : List (Int × Int)) (k m : Int) (st : List Bool) (h : ∀ i, i < xs.length → 0 ≤ (xs.getD i (0, 0)).1 ∧ (xs.getD i (0, 0)).1 < st.length) : body Try.prog [c41] { loops := [(0, anIx 8 (onIt m st) xs (0, 0))] } true Try.f65 [Ps xs, .clo 41 [] [.lelem [I k, I m] 0, .lelem [Bs st] 0]] (I (idxOf (onIt m st) xs)) := by
  (repeat' ((conv => whnf); first | (refine Giv.mk fun _ => ?_) | (refine Alt.l (Need.mk ?h ?_); case h => omega) | (refine Alt.r (Need.mk ?h ?_); case h => omega) | (refine Need.mk ?h ?_; case h => first | omega | (intro _; rfl) | assumption | (simp <;> omega)) | refine Ix.zero ?_ | refine Ix.one ?_ | refine Ix.two ?_ | refine Ix.nat ?_ | refine Ix.add ?_ | (apply Go.Eng.Pin.mk; apply Exists.intro) | apply Go.Eng.Pinned.mk rfl rfl | (apply Go.Eng.PinH.mk; apply Exists.intro; apply Exists.intro) | exact Go.Eng.Fin0.mk | refine Go.Eng.Chk.mk ?_ ?_ | refine Own.l ?_ | fail))
  refine ⟨⟨(0 : Nat), ⟨Nat.zero_le _, fun j hj => absurd hj (Nat.not_lt_zero _)⟩, by (repeat' (first | exact trivial | rfl | exact Nat.one_pos | (refine And.intro ?_ ?_) | omega | ((conv => whnf); (refine And.intro ?_ ?_)) | ((conv => whnf); exact trivial)))⟩, fun (i : Nat) hi => ?_⟩
  obtain ⟨hi, hb⟩ := hi
  (repeat' ((conv => whnf); first | (refine Giv.mk fun _ => ?_) | (refine Alt.l (Need.mk ?h ?_); case h => omega) | (refine Alt.r (Need.mk ?h ?_); case h => omega) | (refine Need.mk ?h ?_; case h => first | omega | (intro _; rfl) | assumption | (simp <;> omega)) | refine Ix.zero ?_ | refine Ix.one ?_ | refine Ix.two ?_ | refine Ix.nat ?_ | refine Ix.add ?_ | (apply Go.Eng.Pin.mk; apply Exists.intro) | apply Go.Eng.Pinned.mk rfl rfl | (apply Go.Eng.PinH.mk; apply Exists.intro; apply Exists.intro) | exact Go.Eng.Fin0.mk | refine Go.Eng.Chk.mk ?_ ?_ | refine Own.l ?_ | fail))
  (refine Br.mk (fun _ => ?_) (fun _ => ?_))
  · have hlt : i < xs.length := by omega
    have hh := h i hlt
    (repeat' ((conv => whnf); first | (refine Giv.mk fun _ => ?_) | (refine Alt.l (Need.mk ?h ?_); case h => omega) | (refine Alt.r (Need.mk ?h ?_); case h => omega) | (refine Need.mk ?h ?_; case h => first | omega | (intro _; rfl) | assumption | (simp <;> omega)) | refine Ix.zero ?_ | refine Ix.one ?_ | refine Ix.two ?_ | refine Ix.nat ?_ | refine Ix.add ?_ | (apply Go.Eng.Pin.mk; apply Exists.intro) | apply Go.Eng.Pinned.mk rfl rfl | (apply Go.Eng.PinH.mk; apply Exists.intro; apply Exists.intro) | exact Go.Eng.Fin0.mk | refine Go.Eng.Chk.mk ?_ ?_ | refine Own.l ?_ | fail))
    (refine Br.mk (fun _ => ?_) (fun _ => ?_))
    · rename_i hh
      (repeat' ((conv => whnf); first | (refine Giv.mk fun _ => ?_) | (refine Alt.l (Need.mk ?h ?_); case h => omega) | (refine Alt.r (Need.mk ?h ?_); case h => omega) | (refine Need.mk ?h ?_; case h => first | omega | (intro _; rfl) | assumption | (simp <;> omega)) | refine Ix.zero ?_ | refine Ix.one ?_ | refine Ix.two ?_ | refine Ix.nat ?_ | refine Ix.add ?_ | (apply Go.Eng.Pin.mk; apply Exists.intro) | apply Go.Eng.Pinned.mk rfl rfl | (apply Go.Eng.PinH.mk; apply Exists.intro; apply Exists.intro) | exact Go.Eng.Fin0.mk | refine Go.Eng.Chk.mk ?_ ?_ | refine Own.l ?_ | fail))
      (conv => whnf)
      exact ⟨rfl, (idxOf_some (0, 0) hlt hh hb).symm⟩
    · rename_i hh
      (repeat' ((conv => whnf); first | (refine Giv.mk fun _ => ?_) | (refine Alt.l (Need.mk ?h ?_); case h => omega) | (refine Alt.r (Need.mk ?h ?_); case h => omega) | (refine Need.mk ?h ?_; case h => first | omega | (intro _; rfl) | assumption | (simp <;> omega)) | refine Ix.zero ?_ | refine Ix.one ?_ | refine Ix.two ?_ | refine Ix.nat ?_ | refine Ix.add ?_ | (apply Go.Eng.Pin.mk; apply Exists.intro) | apply Go.Eng.Pinned.mk rfl rfl | (apply Go.Eng.PinH.mk; apply Exists.intro; apply Exists.intro) | exact Go.Eng.Fin0.mk | refine Go.Eng.Chk.mk ?_ ?_ | refine Own.l ?_ | fail))
      refine ⟨(i + 1 : Nat), by show xs.length - (i + 1) < xs.length - i; omega, ⟨hlt, fun j hj => ?_⟩, by (repeat' (first | exact trivial | rfl | exact Nat.one_pos | (refine And.intro ?_ ?_) | omega | ((conv => whnf); (refine And.intro ?_ ?_)) | ((conv => whnf); exact trivial)))⟩
      by_cases e : j = i
      · subst e; exact Bool.eq_false_iff.2 hh
      · exact hb j (by omega)
  · have hii : i = xs.length := by omega
    subst hii
    (repeat' ((conv => whnf); first | (refine Giv.mk fun _ => ?_) | (refine Alt.l (Need.mk ?h ?_); case h => omega) | (refine Alt.r (Need.mk ?h ?_); case h => omega) | (refine Need.mk ?h ?_; case h => first | omega | (intro _; rfl) | assumption | (simp <;> omega)) | refine Ix.zero ?_ | refine Ix.one ?_ | refine Ix.two ?_ | refine Ix.nat ?_ | refine Ix.add ?_ | (apply Go.Eng.Pin.mk; apply Exists.intro) | apply Go.Eng.Pinned.mk rfl rfl | (apply Go.Eng.PinH.mk; apply Exists.intro; apply Exists.intro) | exact Go.Eng.Fin0.mk | refine Go.Eng.Chk.mk ?_ ?_ | refine Own.l ?_ | fail))
    (conv => whnf)
    exact ⟨rfl, (idxOf_none (0, 0) hb).symm⟩
def c65 : Con := mkCon 65 true fun args K => match args with | [.seq (.pair (.int .i64) (.int .i64)) xs, .clo 41 [] [.lelem [.val (.int .i64 k), .val (.int .i64 m)] 0, .lelem [.seq .bool st] 0]] => Need (∀ i, i < xs.length → 0 ≤ (xs.getD i (0, 0)).1 ∧ (xs.getD i (0, 0)).1 < st.length) (K (I (idxOf (onIt m st) xs))) | _ => False
theorem k65 : ConOK Try.prog c65 := by
  refine conOK_of rfl (enters_of Try.func65 (by kernel_rfl) rfl) ?_
  intro args K h
  simp only [c65] at h
  split at h
  · rename_i xs k m st; exact ⟨_, h.go, tri_of_body (Γ := [c41]) (by simp [k41]) Try.func65 (by simp [Try.ntmps65]) rfl (b65 xs k m st h.ok)⟩
  · exact h.elim
theorem b40 (xs : List (Int × Int)) (k m : Int) (st : List Bool) (h : ∀ i, i < xs.length → 0 ≤ (xs.getD i (0, 0)).1 ∧ (xs.getD i (0, 0)).1 < st.length) : body Try.prog [c65] {} true Try.f40 [Ps xs, .clo 41 [] [.lelem [I k, I m] 0, .lelem [Bs st] 0]] (.bl (xs.any (onIt m st) = true) inferInstance) := by
  (repeat' ((conv => whnf); first | (refine Giv.mk fun _ => ?_) | (refine Alt.l (Need.mk ?h ?_); case h => omega) | (refine Alt.r (Need.mk ?h ?_); case h => omega) | (refine Need.mk ?h ?_; case h => first | omega | (intro _; rfl) | assumption | (simp <;> omega)) | refine Ix.zero ?_ | refine Ix.one ?_ | refine Ix.two ?_ | refine Ix.nat ?_ | refine Ix.add ?_ | (apply Go.Eng.Pin.mk; apply Exists.intro) | apply Go.Eng.Pinned.mk rfl rfl | (apply Go.Eng.PinH.mk; apply Exists.intro; apply Exists.intro) | exact Go.Eng.Fin0.mk | refine Go.Eng.Chk.mk ?_ ?_ | refine Own.l ?_ | fail))
  (conv => whnf)
  exact idxOf_pos _ _
def c40 : Con := mkCon 40 true fun args K => match args with | [.seq (.pair (.int .i64) (.int .i64)) xs, .clo 41 [] [.lelem [.val (.int .i64 k), .val (.int .i64 m)] 0, .lelem [.seq .bool st] 0]] => Need (∀ i, i < xs.length → 0 ≤ (xs.getD i (0, 0)).1 ∧ (xs.getD i (0, 0)).1 < st.length) (K (.bl (xs.any (onIt m st) = true) inferInstance)) | _ => False
theorem k40 : ConOK Try.prog c40 := by
  refine conOK_of rfl (enters_of Try.func40 (by kernel_rfl) rfl) ?_
  intro args K h
  simp only [c40] at h
  split at h
  · rename_i xs k m st; exact ⟨_, h.go, tri_of_body (Γ := [c65]) (by simp [k65]) Try.func40 (by simp [Try.ntmps40]) rfl (b40 xs k m st h.ok)⟩
  · exact h.elim
/-! ### slices.Contains of truths -/
def isT (x : Bool) : Bool := x
theorem b66 (xs : List Bool) : body Try.prog [] { loops := [(0, anIx 8 isT xs false)] } true Try.f66 [Bs xs, .val (.bool true)] (I (idxOf isT xs)) := by
  (repeat' ((conv => whnf); first | (refine Giv.mk fun _ => ?_) | (refine Alt.l (Need.mk ?h ?_); case h => omega) | (refine Alt.r (Need.mk ?h ?_); case h => omega) | (refine Need.mk ?h ?_; case h => first | omega | (intro _; rfl) | assumption | (simp <;> omega)) | refine Ix.zero ?_ | refine Ix.one ?_ | refine Ix.two ?_ | refine Ix.nat ?_ | refine Ix.add ?_ | (apply Go.Eng.Pin.mk; apply Exists.intro) | apply Go.Eng.Pinned.mk rfl rfl | (apply Go.Eng.PinH.mk; apply Exists.intro; apply Exists.intro) | exact Go.Eng.Fin0.mk | refine Go.Eng.Chk.mk ?_ ?_ | refine Own.l ?_ | fail))
  refine ⟨⟨(0 : Nat), ⟨Nat.zero_le _, fun j hj => absurd hj (Nat.not_lt_zero _)⟩, by (repeat' (first | exact trivial | rfl | exact Nat.one_pos | (refine And.intro ?_ ?_) | omega | ((conv => whnf); (refine And.intro ?_ ?_)) | ((conv => whnf); exact trivial)))⟩, fun (i : Nat) hi => ?_⟩
  obtain ⟨hi, hb⟩ := hi
  (repeat' ((conv => whnf); first | (refine Giv.mk fun _ => ?_) | (refine Alt.l (Need.mk ?h ?_); case h => omega) | (refine Alt.r (Need.mk ?h ?_); case h => omega) | (refine Need.mk ?h ?_; case h => first | omega | (intro _; rfl) | assumption | (simp <;> omega)) | refine Ix.zero ?_ | refine Ix.one ?_ | refine Ix.two ?_ | refine Ix.nat ?_ | refine Ix.add ?_ | (apply Go.Eng.Pin.mk; apply Exists.intro) | apply Go.Eng.Pinned.mk rfl rfl | (apply Go.Eng.PinH.mk; apply Exists.intro; apply Exists.intro) | exact Go.Eng.Fin0.mk | refine Go.Eng.Chk.mk ?_ ?_ | refine Own.l ?_ | fail))
  (refine Br.mk (fun _ => ?_) (fun _ => ?_))
  · have hlt : i < xs.length := by omega
    (repeat' ((conv => whnf); first | (refine Giv.mk fun _ => ?_) | (refine Alt.l (Need.mk ?h ?_); case h => omega) | (refine Alt.r (Need.mk ?h ?_); case h => omega) | (refine Need.mk ?h ?_; case h => first | omega | (intro _; rfl) | assumption | (simp <;> omega)) | refine Ix.zero ?_ | refine Ix.one ?_ | refine Ix.two ?_ | refine Ix.nat ?_ | refine Ix.add ?_ | (apply Go.Eng.Pin.mk; apply Exists.intro) | apply Go.Eng.Pinned.mk rfl rfl | (apply Go.Eng.PinH.mk; apply Exists.intro; apply Exists.intro) | exact Go.Eng.Fin0.mk | refine Go.Eng.Chk.mk ?_ ?_ | refine Own.l ?_ | fail))
    (refine Br.mk (fun _ => ?_) (fun _ => ?_))
    · rename_i hh
      (repeat' ((conv => whnf); first | (refine Giv.mk fun _ => ?_) | (refine Alt.l (Need.mk ?h ?_); case h => omega) | (refine Alt.r (Need.mk ?h ?_); case h => omega) | (refine Need.mk ?h ?_; case h => first | omega | (intro _; rfl) | assumption | (simp <;> omega)) | refine Ix.zero ?_ | refine Ix.one ?_ | refine Ix.two ?_ | refine Ix.nat ?_ | refine Ix.add ?_ | (apply Go.Eng.Pin.mk; apply Exists.intro) | apply Go.Eng.Pinned.mk rfl rfl | (apply Go.Eng.PinH.mk; apply Exists.intro; apply Exists.intro) | exact Go.Eng.Fin0.mk | refine Go.Eng.Chk.mk ?_ ?_ | refine Own.l ?_ | fail))
      (conv => whnf)
      exact ⟨rfl, (idxOf_some false hlt (hh.1 rfl) hb).symm⟩
    · rename_i hh
      (repeat' ((conv => whnf); first | (refine Giv.mk fun _ => ?_) | (refine Alt.l (Need.mk ?h ?_); case h => omega) | (refine Alt.r (Need.mk ?h ?_); case h => omega) | (refine Need.mk ?h ?_; case h => first | omega | (intro _; rfl) | assumption | (simp <;> omega)) | refine Ix.zero ?_ | refine Ix.one ?_ | refine Ix.two ?_ | refine Ix.nat ?_ | refine Ix.add ?_ | (apply Go.Eng.Pin.mk; apply Exists.intro) | apply Go.Eng.Pinned.mk rfl rfl | (apply Go.Eng.PinH.mk; apply Exists.intro; apply Exists.intro) | exact Go.Eng.Fin0.mk | refine Go.Eng.Chk.mk ?_ ?_ | refine Own.l ?_ | fail))
      refine ⟨(i + 1 : Nat), by show xs.length - (i + 1) < xs.length - i; omega, ⟨hlt, fun j hj => ?_⟩, by (repeat' (first | exact trivial | rfl | exact Nat.one_pos | (refine And.intro ?_ ?_) | omega | ((conv => whnf); (refine And.intro ?_ ?_)) | ((conv => whnf); exact trivial)))⟩
      by_cases e : j = i
      · subst e; exact Bool.eq_false_iff.2 fun e => hh ⟨fun _ => e, fun _ => rfl⟩
      · exact hb j (by omega)
  · have hii : i = xs.length := by omega
    subst hii
    (repeat' ((conv => whnf); first | (refine Giv.mk fun _ => ?_) | (refine Alt.l (Need.mk ?h ?_); case h => omega) | (refine Alt.r (Need.mk ?h ?_); case h => omega) | (refine Need.mk ?h ?_; case h => first | omega | (intro _; rfl) | assumption | (simp <;> omega)) | refine Ix.zero ?_ | refine Ix.one ?_ | refine Ix.two ?_ | refine Ix.nat ?_ | refine Ix.add ?_ | (apply Go.Eng.Pin.mk; apply Exists.intro) | apply Go.Eng.Pinned.mk rfl rfl | (apply Go.Eng.PinH.mk; apply Exists.intro; apply Exists.intro) | exact Go.Eng.Fin0.mk | refine Go.Eng.Chk.mk ?_ ?_ | refine Own.l ?_ | fail))
    (conv => whnf)
    exact ⟨rfl, (idxOf_none false hb).symm⟩
def c66 : Con := mkCon 66 true fun args K => match args with | [.seq .bool xs, .val (.bool true)] => K (I (idxOf isT xs)) | _ => False
theorem k66 : ConOK Try.prog c66 := by
  refine conOK_of rfl (enters_of Try.func66 (by kernel_rfl) rfl) ?_
  intro args K h
  simp only [c66] at h
  split at h
  · rename_i xs; exact ⟨_, h, tri_of_body (Γ := []) (by simp) Try.func66 (by simp [Try.ntmps66]) rfl (b66 xs)⟩
  · exact h.elim
theorem b42 (xs : List Bool) : body Try.prog [c66] {} true Try.f42 [Bs xs, .val (.bool true)] (.bl (xs.any isT = true) inferInstance) := by
  (repeat' ((conv => whnf); first | (refine Giv.mk fun _ => ?_) | (refine Alt.l (Need.mk ?h ?_); case h => omega) | (refine Alt.r (Need.mk ?h ?_); case h => omega) | (refine Need.mk ?h ?_; case h => first | omega | (intro _; rfl) | assumption | (simp <;> omega)) | refine Ix.zero ?_ | refine Ix.one ?_ | refine Ix.two ?_ | refine Ix.nat ?_ | refine Ix.add ?_ | (apply Go.Eng.Pin.mk; apply Exists.intro) | apply Go.Eng.Pinned.mk rfl rfl | (apply Go.Eng.PinH.mk; apply Exists.intro; apply Exists.intro) | exact Go.Eng.Fin0.mk | refine Go.Eng.Chk.mk ?_ ?_ | refine Own.l ?_ | fail))
  (conv => whnf)
  exact idxOf_pos _ _
def c42 : Con := mkCon 42 true fun args K => match args with | [.seq .bool xs, .val (.bool true)] => K (.bl (xs.any isT = true) inferInstance) | _ => False
theorem k42 : ConOK Try.prog c42 := by
  refine conOK_of rfl (enters_of Try.func42 (by kernel_rfl) rfl) ?_
  intro args K h
  simp only [c42] at h
  split at h
  · rename_i xs; exact ⟨_, h, tri_of_body (Γ := [c66]) (by simp [k66]) Try.func42 (by simp [Try.ntmps42]) rfl (b42 xs)⟩
  · exact h.elim
end EB.R
end
section
set_option linter.unusedVariables false
open Go Go.Proofs Go.Eng Go.Shelf
set_option linter.unusedVariables false
namespace EB
set_option maxRecDepth 10000
/-! ### The plain law of ErectReversed -/
theorem kindR_twice {k : Int} (h : 1 ≤ k ∧ k ≤ 3) : kindR (kindR k) = k := by
  have : k = 1 ∨ k = 2 ∨ k = 3 := by omega
  rcases this with rfl | rfl | rfl <;> rfl
theorem kindR_in {k : Int} (h : 1 ≤ k ∧ k ≤ 3) : 1 ≤ kindR k ∧ kindR k ≤ 3 := by
  have : k = 1 ∨ k = 2 ∨ k = 3 := by omega
  rcases this with rfl | rfl | rfl <;> decide
theorem kindR_one {k : Int} : kindR k = 1 ↔ k = 1 := by
  unfold kindR
  split
  · simp [*]
  · split
    · simp [*]
    · split
      · simp [*]
      · simp [*]
def downOf (S : List (Int × Int)) : List (Int × Int) := S.reverse.map flipS
theorem down_len (S : List (Int × Int)) : (downOf S).length = S.length := by simp [downOf]
theorem down_get (S : List (Int × Int)) (i : Nat) (h : i < S.length) : (downOf S).getD i (0, 0) = flipS (S.getD (S.length - 1 - i) (0, 0)) := by
  unfold downOf
  rw [← rev_get S i h]
  have h' : i < S.reverse.length := by rw [List.length_reverse]; exact h
  rw [List.getD_eq_getElem?_getD, List.getElem?_map, List.getD_eq_getElem?_getD, List.getElem?_eq_getElem h']; rfl
theorem down_chk {S : List (Int × Int)} (h : chkE (-1) S = 0) : chkE (-1) (downOf S) = 0 := by
  have hl := chkE_len h
  unfold chkE
  rw [down_len, if_neg (by omega), firstE_none]
  intro i hi
  have h1 := chk_mem h (S.length - 1 - i) (by omega)
  have h2 := kindR_in h1.1
  unfold chkAt
  rw [down_get S i hi]
  unfold flipS
  rw [if_neg (by omega), if_neg (by omega)]
theorem down_down {S : List (Int × Int)} (h : chkE (-1) S = 0) : downOf (downOf S) = S := by
  refine pair_ext (by rw [down_len, down_len]) fun p hp => ?_
  rw [down_len, down_len] at hp
  rw [down_get _ p (by rw [down_len]; exact hp), down_len, down_get S _ (by omega), show S.length - 1 - (S.length - 1 - p) = p by omega]
  unfold flipS
  rw [kindR_twice (chk_mem h p hp).1]
theorem rev_twice {S : List (Int × Int)} (h : chkE (-1) S = 0) : chkE (-1) (revRes S) = 0 ∧ revRes (revRes S) = S ∧ revRes S = downOf S := by
  have e : revRes S = downOf S := by unfold revRes; rw [if_pos h]; rfl
  have h2 := down_chk h
  refine ⟨by rw [e]; exact h2, ?_, e⟩
  rw [e]
  show (if _ then _ else _) = _
  rw [if_pos h2]
  exact down_down h
/-- What stands still. -/
def stR (n : Nat) (T : List (Int × Int)) : List Bool := (List.range n).map fun j : Nat => !decide ((1, (j : Int)) ∈ T)
theorem stR_len (n : Nat) (T : List (Int × Int)) : (stR n T).length = n := by simp [stR]
theorem stR_get (n : Nat) (T : List (Int × Int)) (j : Nat) (h : j < n) : (stR n T).getD j false = !decide ((1, (j : Int)) ∈ T) := by
  simp [stR, List.getD_eq_getElem?_getD, h]
theorem stR_nil (n : Nat) : stR n [] = List.replicate n true := by
  apply List.ext_getElem <;> simp [stR]
theorem stR_skip (n : Nat) (T : List (Int × Int)) (x : Int × Int) (h : ¬ x.1 = 1) : stR n (T ++ [x]) = stR n T := by
  unfold stR
  refine List.map_congr_left fun j _ => ?_
  have : ¬ (1, (j : Int)) = x := fun e => h (by rw [← e])
  simp [this]
theorem stR_take (n : Nat) (T : List (Int × Int)) (x : Int × Int) (h : x.1 = 1) (hx : 0 ≤ x.2 ∧ x.2 < n) : (stR n T).set x.2.toNat false = stR n (T ++ [x]) := by
  apply List.ext_getElem?
  intro j
  rw [List.getElem?_set, stR_len]
  by_cases e : x.2.toNat = j
  · subst e
    rw [if_pos rfl, if_pos (by omega)]
    have hm : (1, ((x.2.toNat : Nat) : Int)) = x := Prod.ext h.symm (by show ((x.2.toNat : Nat) : Int) = x.2; omega)
    simp only [stR, List.getElem?_map, List.getElem?_range (show x.2.toNat < n by omega), Option.map_some]
    rw [hm]; simp
  · rw [if_neg e]
    simp only [stR, List.getElem?_map]
    by_cases hj : j < n
    · rw [List.getElem?_range hj]
      have : ¬ (1, (j : Int)) = x := fun e2 => e (by rw [← e2]; exact Int.toNat_natCast _)
      simp [this]
    · rw [List.getElem?_eq_none (by simpa using Nat.le_of_not_lt hj)]; rfl
structure Rev (n : Int) (l S : List (Int × Int)) : Prop where
  chk : chkE (-1) S = 0
  at_ : ∀ i, i < (downOf S).length → ((downOf S).getD i (0, 0)).1 = 1 → (0 ≤ ((downOf S).getD i (0, 0)).2 ∧ ((downOf S).getD i (0, 0)).2 < n) ∧ (stR n.toNat ((downOf S).take i)).getD ((downOf S).getD i (0, 0)).2.toNat false = true ∧
    ¬ l.any (R.onIt ((downOf S).getD i (0, 0)).2 (stR n.toNat ((downOf S).take (i + 1)))) = true
  all : ¬ (stR n.toNat (downOf S)).any R.isT = true
theorem down_take {S : List (Int × Int)} {i : Nat} (hi : i ≤ S.length) {m : Int} : (1, m) ∈ (downOf S).take i ↔ ∃ j, S.length - i ≤ j ∧ j < S.length ∧ S.getD j (0, 0) = (1, m) := by
  rw [take_mem]
  constructor
  · rintro ⟨q, h1, h2, h3⟩
    rw [down_len] at h2
    rw [down_get S q h2] at h3
    refine ⟨S.length - 1 - q, by omega, by omega, ?_⟩
    have e1 : kindR (S.getD (S.length - 1 - q) (0, 0)).1 = 1 := congrArg Prod.fst h3
    have e2 : (S.getD (S.length - 1 - q) (0, 0)).2 = m := congrArg Prod.snd h3
    exact Prod.ext (kindR_one.1 e1) e2
  · rintro ⟨j, h1, h2, h3⟩
    refine ⟨S.length - 1 - j, by omega, by rw [down_len]; omega, ?_⟩
    rw [down_get S _ (by omega), show S.length - 1 - (S.length - 1 - j) = j by omega, h3]; rfl
theorem rev_law {n : Int} {l : List (Int × Int)} (h : orderErr n l = 0) : Rev n l (orderRes n l) := by
  have hw := whole_ord h
  have w0 := hw.n0
  have hro := supE_rests hw.sup
  have hin : ∀ i, InN n (raisedL (orderRes n l) i) := fun i m hm => by
    rw [raisedL_mem, take_mem] at hm
    obtain ⟨j, h1, h2, h3⟩ := hm
    have := (hw.at_ j h2).2
    rw [h3] at this
    exact this
  have huniq : ∀ i j m, i < j → j < (orderRes n l).length → (orderRes n l).getD i (0, 0) = (1, m) → (orderRes n l).getD j (0, 0) = (1, m) → False := fun i j m hij hj h1 h2 => by
    have hra := ready_at h hj (by rw [h2])
    rw [h2] at hra
    have hm := (hw.at_ j hj).2
    rw [h2] at hm
    refine hra.1 ((has_mem w0 (hin j) hm.1).2 ?_)
    rw [raisedL_mem, take_mem]
    exact ⟨i, hij, by omega, h1⟩
  have hex : ∀ m, 0 ≤ m → m < n → ∃ j, j < (orderRes n l).length ∧ (orderRes n l).getD j (0, 0) = (1, m) := fun m h1 h2 => by
    have h3 := hw.once m h1 h2
    have h4 : m ∈ raisedL (orderRes n l) (orderRes n l).length := by rw [← List.count_pos_iff]; omega
    rw [raisedL_mem, take_mem] at h4
    obtain ⟨j, _, h5, h6⟩ := h4
    exact ⟨j, h5, h6⟩
  have hc : chkE (-1) (orderRes n l) = 0 := by
    unfold chkE
    have := hw.len
    rw [if_neg (by omega), firstE_none]
    intro i hi
    have := hw.at_ i hi
    unfold chkAt
    rw [if_neg (by omega), if_neg (by omega)]
  refine ⟨hc, fun i hi hk => ?_, ?_⟩
  · rw [down_len] at hi
    have hg := down_get (orderRes n l) i hi
    rw [hg] at hk ⊢
    have hk1 : ((orderRes n l).getD ((orderRes n l).length - 1 - i) (0, 0)).1 = 1 := kindR_one.1 hk
    obtain ⟨_, m0, m1⟩ := hw.at_ ((orderRes n l).length - 1 - i) (by omega)
    have hS : (orderRes n l).getD ((orderRes n l).length - 1 - i) (0, 0) = (1, ((orderRes n l).getD ((orderRes n l).length - 1 - i) (0, 0)).2) := Prod.ext hk1 rfl
    show (0 ≤ ((orderRes n l).getD ((orderRes n l).length - 1 - i) (0, 0)).2 ∧ ((orderRes n l).getD ((orderRes n l).length - 1 - i) (0, 0)).2 < n) ∧ (stR n.toNat ((downOf (orderRes n l)).take i)).getD ((orderRes n l).getD ((orderRes n l).length - 1 - i) (0, 0)).2.toNat false = true ∧
      ¬ l.any (R.onIt ((orderRes n l).getD ((orderRes n l).length - 1 - i) (0, 0)).2 (stR n.toNat ((downOf (orderRes n l)).take (i + 1)))) = true
    refine ⟨⟨m0, m1⟩, ?_, ?_⟩
    · rw [stR_get _ _ _ (by omega), Int.toNat_of_nonneg m0]
      have : ¬ (1, ((orderRes n l).getD ((orderRes n l).length - 1 - i) (0, 0)).2) ∈ (downOf (orderRes n l)).take i := by
        rw [down_take (by omega)]
        rintro ⟨j, h1, h2, h3⟩
        exact huniq _ j _ (by omega) h2 hS h3
      rw [decide_eq_false this]; rfl
    · rw [Bool.not_eq_true, List.any_eq_false]
      intro r hr
      unfold R.onIt
      by_cases e : r.2 = ((orderRes n l).getD ((orderRes n l).length - 1 - i) (0, 0)).2
      · obtain ⟨q, hq, hq2⟩ := mem_at hr
        have hr4 := hro.2.2.2 q hq
        rw [hq2] at hr4
        obtain ⟨iu, u1, u2⟩ := hex r.1 hr4.1 hr4.2.1
        have hra := ready_at h u1 (by rw [u2])
        rw [u2] at hra
        have hlow := lower_in w0 (hin iu) ⟨hr4.1, hr4.2.1⟩ hra hr rfl (by omega)
        rw [raisedL_mem, take_mem] at hlow
        obtain ⟨j, j1, j2, j3⟩ := hlow
        have hji : j = (orderRes n l).length - 1 - i := by
          rw [e] at j3
          rcases Nat.lt_trichotomy j ((orderRes n l).length - 1 - i) with hlt | he | hgt
          · exact (huniq _ _ _ hlt (by omega) j3 hS).elim
          · exact he
          · exact (huniq _ _ _ hgt j2 hS j3).elim
        have hmem : (1, r.1) ∈ (downOf (orderRes n l)).take (i + 1) := (down_take (by omega)).2 ⟨iu, by omega, u1, u2⟩
        rw [stR_get _ _ _ (by omega), Int.toNat_of_nonneg hr4.1, decide_eq_true hmem]; simp
      · rw [decide_eq_false e]; simp
  · rw [Bool.not_eq_true, List.any_eq_false]
    intro x hx
    unfold stR at hx
    rw [List.mem_map] at hx
    obtain ⟨j, hj, rfl⟩ := hx
    rw [List.mem_range] at hj
    obtain ⟨q, q1, q2⟩ := hex j (by omega) (by omega)
    have : (1, (j : Int)) ∈ downOf (orderRes n l) := by
      have := (down_take (S := orderRes n l) (i := (orderRes n l).length) (Nat.le_refl _) (m := j)).2 ⟨q, by omega, q1, q2⟩
      rw [← down_len, List.take_length] at this
      exact this
    rw [decide_eq_true this]; simp [R.isT]
end EB
end
section
set_option linter.unusedVariables false
open Go Go.Proofs Go.Eng Go.Shelf
set_option linter.unusedVariables false
namespace EB
set_option maxRecDepth 10000
set_option maxHeartbeats 1000000 in
theorem b10 (s : Int) (l T : List (Int × Int)) (hs : inK .u8 s) : body Try.prog [c12, c13, c27, c38, c39, R.c40, R.c42] { asks := [(0, [])] } true Try.f10 [.val (.int .u8 s), Ps l, Ps T] (.val (.bool true)) := by
  have h1 : 0 ≤ s := by have := hs.1; simpa [lo] using this
  have h2 : s ≤ 255 := by have := hs.2; simpa [hi] using this
  have main : ∀ K : Prop, K → K := fun K h => h
  (repeat' ((conv => whnf); first | (refine Giv.mk fun _ => ?_) | (refine Alt.l (Need.mk ?h ?_); case h => omega) | (refine Alt.r (Need.mk ?h ?_); case h => omega) | (refine Need.mk ?h ?_; case h => first | omega | (intro _; rfl) | assumption | (simp <;> omega)) | refine Ix.zero ?_ | refine Ix.one ?_ | refine Ix.two ?_ | refine Ix.nat ?_ | refine Ix.add ?_ | (apply Go.Eng.Pin.mk; apply Exists.intro) | apply Go.Eng.Pinned.mk rfl rfl | (apply Go.Eng.PinH.mk; apply Exists.intro; apply Exists.intro) | exact Go.Eng.Fin0.mk | refine Go.Eng.Chk.mk ?_ ?_ | refine Own.l ?_ | fail))
  (refine Br.mk (fun _ => ?_) (fun _ => ?_))
  · (repeat' ((conv => whnf); first | (refine Giv.mk fun _ => ?_) | (refine Alt.l (Need.mk ?h ?_); case h => omega) | (refine Alt.r (Need.mk ?h ?_); case h => omega) | (refine Need.mk ?h ?_; case h => first | omega | (intro _; rfl) | assumption | (simp <;> omega)) | refine Ix.zero ?_ | refine Ix.one ?_ | refine Ix.two ?_ | refine Ix.nat ?_ | refine Ix.add ?_ | (apply Go.Eng.Pin.mk; apply Exists.intro) | apply Go.Eng.Pinned.mk rfl rfl | (apply Go.Eng.PinH.mk; apply Exists.intro; apply Exists.intro) | exact Go.Eng.Fin0.mk | refine Go.Eng.Chk.mk ?_ ?_ | refine Own.l ?_ | fail))
    (conv => whnf)
  · (repeat' ((conv => whnf); first | (refine Giv.mk fun _ => ?_) | (refine Alt.l (Need.mk ?h ?_); case h => omega) | (refine Alt.r (Need.mk ?h ?_); case h => omega) | (refine Need.mk ?h ?_; case h => first | omega | (intro _; rfl) | assumption | (simp <;> omega)) | refine Ix.zero ?_ | refine Ix.one ?_ | refine Ix.two ?_ | refine Ix.nat ?_ | refine Ix.add ?_ | (apply Go.Eng.Pin.mk; apply Exists.intro) | apply Go.Eng.Pinned.mk rfl rfl | (apply Go.Eng.PinH.mk; apply Exists.intro; apply Exists.intro) | exact Go.Eng.Fin0.mk | refine Go.Eng.Chk.mk ?_ ?_ | refine Own.l ?_ | fail))
    refine Br.mk (fun hc => ?pa) (fun hc => ?pb)
    case' pa =>
      obtain ⟨r1, r2, r3⟩ := rev_twice hc
      (repeat' ((conv => whnf); first | (refine Giv.mk fun _ => ?_) | (refine Alt.l (Need.mk ?h ?_); case h => omega) | (refine Alt.r (Need.mk ?h ?_); case h => omega) | (refine Need.mk ?h ?_; case h => first | omega | (intro _; rfl) | assumption | (simp <;> omega)) | refine Ix.zero ?_ | refine Ix.one ?_ | refine Ix.two ?_ | refine Ix.nat ?_ | refine Ix.add ?_ | (apply Go.Eng.Pin.mk; apply Exists.intro) | apply Go.Eng.Pinned.mk rfl rfl | (apply Go.Eng.PinH.mk; apply Exists.intro; apply Exists.intro) | exact Go.Eng.Fin0.mk | refine Go.Eng.Chk.mk ?_ ?_ | refine Own.l ?_ | (refine Br.mkY ?h ?_; case h => first | omega | assumption) | (refine Br.mkN ?h ?_; case h => first | omega | assumption | exact not_not_intro (by assumption)) | fail))
    case' pb => (repeat' ((conv => whnf); first | (refine Giv.mk fun _ => ?_) | (refine Alt.l (Need.mk ?h ?_); case h => omega) | (refine Alt.r (Need.mk ?h ?_); case h => omega) | (refine Need.mk ?h ?_; case h => first | omega | (intro _; rfl) | assumption | (simp <;> omega)) | refine Ix.zero ?_ | refine Ix.one ?_ | refine Ix.two ?_ | refine Ix.nat ?_ | refine Ix.add ?_ | (apply Go.Eng.Pin.mk; apply Exists.intro) | apply Go.Eng.Pinned.mk rfl rfl | (apply Go.Eng.PinH.mk; apply Exists.intro; apply Exists.intro) | exact Go.Eng.Fin0.mk | refine Go.Eng.Chk.mk ?_ ?_ | refine Own.l ?_ | fail))
    all_goals
      refine Br.mk (fun hok => ?_) (fun hok => ?_)
      · (repeat' ((conv => whnf); first | (refine Giv.mk fun _ => ?_) | (refine Alt.l (Need.mk ?h ?_); case h => omega) | (refine Alt.r (Need.mk ?h ?_); case h => omega) | (refine Need.mk ?h ?_; case h => first | omega | (intro _; rfl) | assumption | (simp <;> omega)) | refine Ix.zero ?_ | refine Ix.one ?_ | refine Ix.two ?_ | refine Ix.nat ?_ | refine Ix.add ?_ | (apply Go.Eng.Pin.mk; apply Exists.intro) | apply Go.Eng.Pinned.mk rfl rfl | (apply Go.Eng.PinH.mk; apply Exists.intro; apply Exists.intro) | exact Go.Eng.Fin0.mk | refine Go.Eng.Chk.mk ?_ ?_ | refine Own.l ?_ | fail))
        (conv => whnf)
      · have hok := Classical.not_not.1 hok
        have hw := whole_ord hok.2
        have hv := rev_law hok.2
        have hr12 : res12 s l = orderRes (n12 s) l := by unfold res12; rw [if_pos hok.1]
        rw [← hr12] at hw hv
        have w0 := hw.n0
        have w1 := hw.n1
        have w4 := hw.len
        have hro := supE_rests hw.sup
        obtain ⟨v1, v2, v3⟩ := hv
        have v4 := (rev_twice v1).2.2
        have v5 : (revRes (res12 s l)).length = (res12 s l).length := by rw [v4, down_len]
        rw [← v4] at v2 v3
        (repeat' ((conv => whnf); first | (refine Giv.mk fun _ => ?_) | (refine Alt.l (Need.mk ?h ?_); case h => omega) | (refine Alt.r (Need.mk ?h ?_); case h => omega) | (refine Need.mk ?h ?_; case h => first | omega | (intro _; rfl) | assumption | (simp <;> omega)) | refine Ix.zero ?_ | refine Ix.one ?_ | refine Ix.two ?_ | refine Ix.nat ?_ | refine Ix.add ?_ | (apply Go.Eng.Pin.mk; apply Exists.intro) | apply Go.Eng.Pinned.mk rfl rfl | (apply Go.Eng.PinH.mk; apply Exists.intro; apply Exists.intro) | exact Go.Eng.Fin0.mk | refine Go.Eng.Chk.mk ?_ ?_ | refine Own.l ?_ | (refine Br.mkY ?h ?_; case h => first | omega | assumption) | (refine Br.mkN ?h ?_; case h => first | omega | assumption | exact not_not_intro (by assumption)) | fail))
        refine Ask.mk ⟨{ X := Nat, pre := fun i => i ≤ (revRes (res12 s l)).length, mod := fun i _ => [(72, I i)], heap := fun i _ => [.vec 1 .bool (stR (n12 s).toNat ((revRes (res12 s l)).take i)) 4, .vec 1 .bool [] 4, .cells [.ref 0 1] 59], mu := fun i => (revRes (res12 s l)).length - i }, rfl, ?_⟩
        (repeat' ((conv => whnf); first | (refine Giv.mk fun _ => ?_) | (refine Alt.l (Need.mk ?h ?_); case h => omega) | (refine Alt.r (Need.mk ?h ?_); case h => omega) | (refine Need.mk ?h ?_; case h => first | omega | (intro _; rfl) | assumption | (simp <;> omega)) | refine Ix.zero ?_ | refine Ix.one ?_ | refine Ix.two ?_ | refine Ix.nat ?_ | refine Ix.add ?_ | (apply Go.Eng.Pin.mk; apply Exists.intro) | apply Go.Eng.Pinned.mk rfl rfl | (apply Go.Eng.PinH.mk; apply Exists.intro; apply Exists.intro) | exact Go.Eng.Fin0.mk | refine Go.Eng.Chk.mk ?_ ?_ | refine Own.l ?_ | fail))
        refine ⟨⟨(0 : Nat), Nat.zero_le _, ?_⟩, fun (i : Nat) (hi : i ≤ (revRes (res12 s l)).length) => ?_⟩
        · (repeat' (first | exact trivial | rfl | exact Nat.one_pos | (refine And.intro ?_ ?_) | omega | ((conv => whnf); (refine And.intro ?_ ?_)) | ((conv => whnf); exact trivial)))
          exact (stR_nil _).symm
        · have hsl := stR_len (n12 s).toNat ((revRes (res12 s l)).take i)
          (repeat' ((conv => whnf); first | (refine Giv.mk fun _ => ?_) | (refine Alt.l (Need.mk ?h ?_); case h => omega) | (refine Alt.r (Need.mk ?h ?_); case h => omega) | (refine Need.mk ?h ?_; case h => first | omega | (intro _; rfl) | assumption | (simp <;> omega)) | refine Ix.zero ?_ | refine Ix.one ?_ | refine Ix.two ?_ | refine Ix.nat ?_ | refine Ix.add ?_ | (apply Go.Eng.Pin.mk; apply Exists.intro) | apply Go.Eng.Pinned.mk rfl rfl | (apply Go.Eng.PinH.mk; apply Exists.intro; apply Exists.intro) | exact Go.Eng.Fin0.mk | refine Go.Eng.Chk.mk ?_ ?_ | refine Own.l ?_ | fail))
          (refine Br.mk (fun _ => ?_) (fun _ => ?_))
          · have hlt : i < (revRes (res12 s l)).length := by omega
            have htk := take_pair (revRes (res12 s l)) i hlt
            (repeat' ((conv => whnf); first | (refine Giv.mk fun _ => ?_) | (refine Alt.l (Need.mk ?h ?_); case h => omega) | (refine Alt.r (Need.mk ?h ?_); case h => omega) | (refine Need.mk ?h ?_; case h => first | omega | (intro _; rfl) | assumption | (simp <;> omega)) | refine Ix.zero ?_ | refine Ix.one ?_ | refine Ix.two ?_ | refine Ix.nat ?_ | refine Ix.add ?_ | (apply Go.Eng.Pin.mk; apply Exists.intro) | apply Go.Eng.Pinned.mk rfl rfl | (apply Go.Eng.PinH.mk; apply Exists.intro; apply Exists.intro) | exact Go.Eng.Fin0.mk | refine Go.Eng.Chk.mk ?_ ?_ | refine Own.l ?_ | fail))
            (refine Br.mk (fun _ => ?_) (fun _ => ?_))
            · rename_i hk
              have hsk := stR_skip (n12 s).toNat ((revRes (res12 s l)).take i) _ hk
              rw [← htk] at hsk
              (repeat' ((conv => whnf); first | (refine Giv.mk fun _ => ?_) | (refine Alt.l (Need.mk ?h ?_); case h => omega) | (refine Alt.r (Need.mk ?h ?_); case h => omega) | (refine Need.mk ?h ?_; case h => first | omega | (intro _; rfl) | assumption | (simp <;> omega)) | refine Ix.zero ?_ | refine Ix.one ?_ | refine Ix.two ?_ | refine Ix.nat ?_ | refine Ix.add ?_ | (apply Go.Eng.Pin.mk; apply Exists.intro) | apply Go.Eng.Pinned.mk rfl rfl | (apply Go.Eng.PinH.mk; apply Exists.intro; apply Exists.intro) | exact Go.Eng.Fin0.mk | refine Go.Eng.Chk.mk ?_ ?_ | refine Own.l ?_ | (refine Br.mkY ?h ?_; case h => first | omega | assumption) | (refine Br.mkN ?h ?_; case h => first | omega | assumption | exact not_not_intro (by assumption)) | fail))
              refine ⟨(i + 1 : Nat), by show (revRes (res12 s l)).length - (i + 1) < (revRes (res12 s l)).length - i; omega, hlt, ?_⟩
              (repeat' (first | exact trivial | rfl | exact Nat.one_pos | (refine And.intro ?_ ?_) | omega | ((conv => whnf); (refine And.intro ?_ ?_)) | ((conv => whnf); exact trivial)))
              exact hsk.symm
            · rename_i hk
              have hk := Classical.not_not.1 hk
              obtain ⟨⟨q1, q2⟩, q3, q4⟩ := v2 i hlt hk
              have hst := stR_take (n12 s).toNat ((revRes (res12 s l)).take i) _ hk ⟨q1, by omega⟩
              rw [← htk] at hst
              have hpre : ∀ j, j < l.length → 0 ≤ (l.getD j (0, 0)).1 ∧ (l.getD j (0, 0)).1 < (stR (n12 s).toNat ((revRes (res12 s l)).take (i + 1))).length := fun j hj => by
                have := hro.2.2.2 j hj
                rw [stR_len]
                omega
              rw [← hst] at q4 hpre
              (repeat' ((conv => whnf); first | (refine Giv.mk fun _ => ?_) | (refine Alt.l (Need.mk ?h ?_); case h => omega) | (refine Alt.r (Need.mk ?h ?_); case h => omega) | (refine Need.mk ?h ?_; case h => first | omega | (intro _; rfl) | assumption | (simp <;> omega)) | refine Ix.zero ?_ | refine Ix.one ?_ | refine Ix.two ?_ | refine Ix.nat ?_ | refine Ix.add ?_ | (apply Go.Eng.Pin.mk; apply Exists.intro) | apply Go.Eng.Pinned.mk rfl rfl | (apply Go.Eng.PinH.mk; apply Exists.intro; apply Exists.intro) | exact Go.Eng.Fin0.mk | refine Go.Eng.Chk.mk ?_ ?_ | refine Own.l ?_ | (refine Br.mkY ?h ?_; case h => first | omega | assumption) | (refine Br.mkN ?h ?_; case h => first | omega | assumption | exact not_not_intro (by assumption)) | fail))
              refine ix_at ((revRes (res12 s l)).getD i (0, 0)).2.toNat (by omega) ?_
              (repeat' ((conv => whnf); first | (refine Giv.mk fun _ => ?_) | (refine Alt.l (Need.mk ?h ?_); case h => omega) | (refine Alt.r (Need.mk ?h ?_); case h => omega) | (refine Need.mk ?h ?_; case h => first | omega | (intro _; rfl) | assumption | (simp <;> omega)) | refine Ix.zero ?_ | refine Ix.one ?_ | refine Ix.two ?_ | refine Ix.nat ?_ | refine Ix.add ?_ | (apply Go.Eng.Pin.mk; apply Exists.intro) | apply Go.Eng.Pinned.mk rfl rfl | (apply Go.Eng.PinH.mk; apply Exists.intro; apply Exists.intro) | exact Go.Eng.Fin0.mk | refine Go.Eng.Chk.mk ?_ ?_ | refine Own.l ?_ | (refine Br.mkY ?h ?_; case h => first | omega | assumption) | (refine Br.mkN ?h ?_; case h => first | omega | assumption | exact not_not_intro (by assumption)) | fail))
              refine ix_at ((revRes (res12 s l)).getD i (0, 0)).2.toNat (by omega) ?_
              (repeat' ((conv => whnf); first | (refine Giv.mk fun _ => ?_) | (refine Alt.l (Need.mk ?h ?_); case h => omega) | (refine Alt.r (Need.mk ?h ?_); case h => omega) | (refine Need.mk ?h ?_; case h => first | omega | (intro _; rfl) | assumption | (simp <;> omega)) | refine Ix.zero ?_ | refine Ix.one ?_ | refine Ix.two ?_ | refine Ix.nat ?_ | refine Ix.add ?_ | (apply Go.Eng.Pin.mk; apply Exists.intro) | apply Go.Eng.Pinned.mk rfl rfl | (apply Go.Eng.PinH.mk; apply Exists.intro; apply Exists.intro) | exact Go.Eng.Fin0.mk | refine Go.Eng.Chk.mk ?_ ?_ | refine Own.l ?_ | (refine Br.mkY ?h ?_; case h => first | omega | assumption) | (refine Br.mkN ?h ?_; case h => first | omega | assumption | exact not_not_intro (by assumption)) | fail))
              refine ⟨(i + 1 : Nat), by show (revRes (res12 s l)).length - (i + 1) < (revRes (res12 s l)).length - i; omega, hlt, ?_⟩
              (repeat' (first | exact trivial | rfl | exact Nat.one_pos | (refine And.intro ?_ ?_) | omega | ((conv => whnf); (refine And.intro ?_ ?_)) | ((conv => whnf); exact trivial)))
              exact hst
          · have hii : i = (revRes (res12 s l)).length := by omega
            have htk : (revRes (res12 s l)).take i = revRes (res12 s l) := by rw [hii, List.take_length]
            rw [← htk] at v3
            (repeat' ((conv => whnf); first | (refine Giv.mk fun _ => ?_) | (refine Alt.l (Need.mk ?h ?_); case h => omega) | (refine Alt.r (Need.mk ?h ?_); case h => omega) | (refine Need.mk ?h ?_; case h => first | omega | (intro _; rfl) | assumption | (simp <;> omega)) | refine Ix.zero ?_ | refine Ix.one ?_ | refine Ix.two ?_ | refine Ix.nat ?_ | refine Ix.add ?_ | (apply Go.Eng.Pin.mk; apply Exists.intro) | apply Go.Eng.Pinned.mk rfl rfl | (apply Go.Eng.PinH.mk; apply Exists.intro; apply Exists.intro) | exact Go.Eng.Fin0.mk | refine Go.Eng.Chk.mk ?_ ?_ | refine Own.l ?_ | (refine Br.mkY ?h ?_; case h => first | omega | assumption) | (refine Br.mkN ?h ?_; case h => first | omega | assumption | exact not_not_intro (by assumption)) | fail))
            (conv => whnf)
theorem t10 (s : Int) (l T : List (Int × Int)) (hs : inK .u8 s) (hl : Okd (.slice Two) l) (hT : Okd (.slice Two) T) :
    Tri Try.prog true 10 [.val (.int .u8 s), Ps l, Ps T] (.val (.bool true)) :=
  tri_of_body (Γ := [c12, c13, c27, c38, c39, R.c40, R.c42]) (by simp [k12, k13, k27, k38, k39, R.k40, R.k42]) Try.func10 (by simp [Try.ntmps10]) rfl (b10 s l T hs)
end EB
end
section
set_option linter.unusedVariables false
open Go Go.Proofs Go.Eng Go.Shelf
set_option linter.unusedVariables false
namespace EB
set_option maxRecDepth 10000
/-! ### Ways -/
def Edge (on : List (List Int)) (u v : Int) : Prop := v ∈ on.getD u.toNat []
inductive Way (on : List (List Int)) : Int → Int → Prop
  | one (u v : Int) (h : Edge on u v) : Way on u v
  | more (u v w : Int) (h : Edge on u v) (hw : Way on v w) : Way on u w
theorem Way.trans {on : List (List Int)} {u v w : Int} (h : Way on u v) (h2 : Way on v w) : Way on u w := by
  induction h with
  | one u v h => exact .more u v w h h2
  | more u v x h _ ih => exact .more u v w h (ih h2)
theorem Way.snoc {on : List (List Int)} {u v w : Int} (h : Way on u v) (h2 : Edge on v w) : Way on u w := h.trans (.one v w h2)
/-- Whether a member is below itself. -/
def Loops (on : List (List Int)) (n : Int) : Prop := ∃ i : Int, (0 ≤ i ∧ i < n) ∧ Way on i i
/-- Rows whose members are in their range. -/
def Rows2 (on : List (List Int)) (n : Int) : Prop := (on.length : Int) = n ∧ ∀ u v : Int, Edge on u v → 0 ≤ v ∧ v < n
theorem onL_edge {n : Int} {l : List (Int × Int)} {u v : Int} (hu : 0 ≤ u ∧ u < n) : Edge (onL n l) u v ↔ 0 ≤ v ∧ (u, v) ∈ l := by
  unfold Edge
  have e : (onL n l).getD u.toNat [] = rowOf l l.length u.toNat := onN_get _ _ _ _ (by omega)
  rw [e]
  unfold rowOf
  rw [List.take_length, List.mem_map]
  constructor
  · rintro ⟨r, hr, rfl⟩
    rw [List.mem_filter] at hr
    have := of_decide_eq_true hr.2
    have h1 : r.1 = u := by omega
    refine ⟨this.2, ?_⟩
    have : (u, r.2) = r := Prod.ext h1.symm rfl
    rw [this]; exact hr.1
  · rintro ⟨h1, h2⟩
    exact ⟨(u, v), List.mem_filter.2 ⟨h2, decide_eq_true ⟨by show u = _; omega, h1⟩⟩, rfl⟩
theorem edge_out {on : List (List Int)} {u v : Int} (h : Edge on u v) : u.toNat < on.length := by
  apply Classical.byContradiction
  intro hn
  unfold Edge at h
  rw [List.getD_eq_getElem?_getD, List.getElem?_eq_none (by omega)] at h
  cases h
theorem onL_neg {n : Int} {l : List (Int × Int)} {u : Int} (h : u < 0) : (onL n l).getD u.toNat [] = (onL n l).getD (0 : Int).toNat [] := by
  rw [show u.toNat = (0 : Int).toNat by omega]
theorem onL_rows {n : Int} {l : List (Int × Int)} (h : RestsOk n l) : Rows2 (onL n l) n := by
  obtain ⟨r1, r2, r3, r4⟩ := h
  refine ⟨by rw [onL_len]; omega, fun u v he => ?_⟩
  have hu := edge_out he
  rw [onL_len] at hu
  have key : ∀ u v : Int, 0 ≤ u → u < n → Edge (onL n l) u v → 0 ≤ v ∧ v < n := fun u v h0 h1 he => by
    obtain ⟨h2, h3⟩ := (onL_edge ⟨h0, h1⟩).1 he
    obtain ⟨i, i1, i2⟩ := mem_at h3
    have := r4 i i1
    rw [i2] at this
    omega
  by_cases h0 : 0 ≤ u
  · exact key u v h0 (by omega) he
  · refine key 0 v (by omega) (by omega) ?_
    unfold Edge at he ⊢
    rwa [onL_neg (by omega)] at he
/-! ### There is an order exactly if none is below itself -/
theorem edge_pos {n : Int} {l : List (Int × Int)} (h : orderErr n l = 0) {u v : Int} (hu : 0 ≤ u ∧ u < n) (he : Edge (onL n l) u v) : ∀ i, i < (orderRes n l).length → (orderRes n l).getD i (0, 0) = (1, u) → ∃ j, j < i ∧ (orderRes n l).getD j (0, 0) = (1, v) := fun i hi h1 => by
  have hw := whole_ord h
  have hin : InN n (raisedL (orderRes n l) i) := fun m hm => by
    rw [raisedL_mem, take_mem] at hm
    obtain ⟨j, h1, h2, h3⟩ := hm
    have := (hw.at_ j h2).2
    rw [h3] at this
    exact this
  obtain ⟨h2, h3⟩ := (onL_edge hu).1 he
  have hra := ready_at h hi (by rw [h1])
  rw [h1] at hra
  have hlow := lower_in hw.n0 hin hu hra h3 rfl h2
  rw [raisedL_mem, take_mem] at hlow
  obtain ⟨j, j1, j2, j3⟩ := hlow
  exact ⟨j, j1, j3⟩
theorem way_pos {n : Int} {l : List (Int × Int)} (h : orderErr n l = 0) {u v : Int} (hw : Way (onL n l) u v) : (0 ≤ u ∧ u < n) → ∀ i, i < (orderRes n l).length → (orderRes n l).getD i (0, 0) = (1, u) → ∃ j, j < i ∧ (orderRes n l).getD j (0, 0) = (1, v) := by
  have hro := onL_rows (supE_rests (whole_ord h).sup)
  induction hw with
  | one u v he => exact fun hu => edge_pos h hu he
  | more u v x he _ ih =>
    intro hu i hi h1
    obtain ⟨j, j1, j2⟩ := edge_pos h hu he i hi h1
    obtain ⟨q, q1, q2⟩ := ih (hro.2 u v he) j (by omega) j2
    exact ⟨q, by omega, q2⟩
theorem raise_uniq {n : Int} {l : List (Int × Int)} (h : orderErr n l = 0) : ∀ i j m, i < j → j < (orderRes n l).length → (orderRes n l).getD i (0, 0) = (1, m) → (orderRes n l).getD j (0, 0) = (1, m) → False := fun i j m hij hj h1 h2 => by
  have hw := whole_ord h
  have hin : InN n (raisedL (orderRes n l) j) := fun m hm => by
    rw [raisedL_mem, take_mem] at hm
    obtain ⟨j, h1, h2, h3⟩ := hm
    have := (hw.at_ j h2).2
    rw [h3] at this
    exact this
  have hra := ready_at h hj (by rw [h2])
  rw [h2] at hra
  have hm := (hw.at_ j hj).2
  rw [h2] at hm
  refine hra.1 ((has_mem hw.n0 hin hm.1).2 ?_)
  rw [raisedL_mem, take_mem]
  exact ⟨i, hij, by omega, h1⟩
theorem order_noloop {n : Int} {l : List (Int × Int)} (h : orderErr n l = 0) : ¬ Loops (onL n l) n := by
  rintro ⟨i, hi, hw⟩
  have h3 := (whole_ord h).once i hi.1 hi.2
  have h4 : i ∈ raisedL (orderRes n l) (orderRes n l).length := by rw [← List.count_pos_iff]; omega
  rw [raisedL_mem, take_mem] at h4
  obtain ⟨j, _, h5, h6⟩ := h4
  obtain ⟨q, q1, q2⟩ := way_pos h hw hi j h5 h6
  exact raise_uniq h q j i q1 h5 q2 h6
/-- Where each has a next one, one comes again. -/
theorem comes_again {on : List (List Int)} {n : Int} (hn : 0 ≤ n) {S : Int → Prop} (hS : ∀ u, S u → 0 ≤ u ∧ u < n) (hx : ∀ u, S u → ∃ v, S v ∧ Edge on u v) {u : Int} (hu : S u) : Loops on n := by
  have key : ∀ k : Nat, ∃ ws : List Int, ws.length = k + 1 ∧ (∀ w ∈ ws, S w) ∧ ws.Pairwise (fun a b => Way on b a) ∧ ∃ w r, ws = w :: r := by
    intro k
    induction k with
    | zero => exact ⟨[u], rfl, fun w hw => by rw [List.mem_singleton.1 hw]; exact hu, List.pairwise_singleton _ _, u, [], rfl⟩
    | succ k ih =>
      obtain ⟨ws, h1, h2, h3, w, r, rfl⟩ := ih
      obtain ⟨v, hv, he⟩ := hx w (h2 w List.mem_cons_self)
      refine ⟨v :: w :: r, by simpa using h1, fun x hx => ?_, ?_, v, _, rfl⟩
      · rcases List.mem_cons.1 hx with rfl | hx
        · exact hv
        · exact h2 x hx
      · refine List.pairwise_cons.2 ⟨fun x hx => ?_, h3⟩
        rcases List.mem_cons.1 hx with rfl | hx
        · exact .one _ _ he
        · exact ((List.pairwise_cons.1 h3).1 x hx).snoc he
  obtain ⟨ws, h1, h2, h3, _⟩ := key n.toNat
  have hnd : ¬ ws.Nodup := fun h => by
    have := nodup_len hn h (fun w hw => hS w (h2 w hw))
    omega
  rw [List.nodup_iff_pairwise_ne] at hnd
  apply Classical.byContradiction
  intro hno
  refine hnd (h3.imp_of_mem fun {a b} ha hb hw e => ?_)
  subst e
  exact hno ⟨a, hS a (h2 a ha), hw⟩
theorem nodup_sub_len : ∀ (a b : List Int), a.Nodup → (∀ x ∈ a, x ∈ b) → a.length ≤ b.length
  | [], _, _, _ => Nat.zero_le _
  | x :: r, b, h, hs => by
    have hx := hs x List.mem_cons_self
    rw [List.nodup_cons] at h
    have := nodup_sub_len r (b.erase x) h.2 fun y hy => by
      have hne : y ≠ x := fun e => h.1 (e ▸ hy)
      exact (List.mem_erase_of_ne hne).2 (hs y (List.mem_cons_of_mem _ hy))
    rw [List.length_erase_of_mem hx] at this
    have hp := List.length_pos_of_mem hx
    rw [List.length_cons]; omega
theorem noorder_loop {n : Int} {l : List (Int × Int)} (hs : supE n l = 0) (h : ¬ orderErr n l = 0) : Loops (onL n l) n ∧ orderErr n l = 27 := by
  have hro := supE_rests hs
  obtain ⟨r1, r2, r3, r4⟩ := id hro
  unfold orderErr at h ⊢
  rw [if_neg (not_not_intro hs)] at h ⊢
  split at h
  · rename_i hr
    rw [if_pos hr]
    refine ⟨?_, rfl⟩
    have hraise : raisedL (ordL n l) (ordL n l).length = msAt (onL n l) n n.toNat := raised_all _ _
    rw [raisedIn_eq, hraise] at hr
    have hin := msAt_in (onL n l) n n.toNat
    have hnx : nxt (onL n l) n (msAt (onL n l) n n.toNat) = -1 := by
      rcases nxt_cases (onL n l) n (msAt (onL n l) n n.toNat) with h1 | ⟨i, h1, h2, h3, h4⟩
      · exact h1.1
      · exfalso
        have h5 := msAt_short (onL n l) n n.toNat (by omega) 1
        rw [msAt_succ, if_pos (by omega)] at h5
        have := congrArg List.length h5
        simp at this
    have hnr : ∀ j : Nat, j < n.toNat → ¬ readyP (onL n l) (putL (words n) (msAt (onL n l) n n.toNat)) j := by
      rcases nxt_cases (onL n l) n (msAt (onL n l) n n.toNat) with h1 | ⟨i, h1, h2, h3, h4⟩
      · exact h1.2
      · omega
    have hex : ∃ u : Int, (0 ≤ u ∧ u < n) ∧ ¬ u ∈ msAt (onL n l) n n.toNat := by
      apply Classical.byContradiction
      intro hno
      have hall : ∀ u : Int, 0 ≤ u → u < n → u ∈ msAt (onL n l) n n.toNat := fun u h1 h2 => Classical.byContradiction fun h3 => hno ⟨u, ⟨h1, h2⟩, h3⟩
      have hsub : ((List.range n.toNat).map fun i : Nat => (i : Int)) ⊆ msAt (onL n l) n n.toNat := by
        intro x hx
        rw [List.mem_map] at hx
        obtain ⟨i, hi, rfl⟩ := hx
        rw [List.mem_range] at hi
        exact hall i (by omega) (by omega)
      have hnd : ((List.range n.toNat).map fun i : Nat => (i : Int)).Nodup := by
        rw [List.nodup_iff_pairwise_ne, List.pairwise_map]
        exact List.Pairwise.imp (fun h => by omega) List.pairwise_lt_range
      have := nodup_sub_len _ _ hnd hsub
      rw [List.length_map, List.length_range] at this
      omega
    obtain ⟨u, hu, hum⟩ := hex
    refine comes_again r2 (S := fun u => (0 ≤ u ∧ u < n) ∧ ¬ u ∈ msAt (onL n l) n n.toNat) (fun u h => h.1) (fun u hu => ?_) ⟨hu, hum⟩
    obtain ⟨hu, hum⟩ := hu
    have := hnr u.toNat (by omega)
    rw [Int.toNat_of_nonneg hu.1] at this
    unfold readyP at this
    have hnh : ¬ hasW (putL (words n) (msAt (onL n l) n n.toNat)) u := fun h => hum ((has_mem r2 hin hu.1).1 h)
    have hany : ((onL n l).getD u.toNat []).any (lackP (putL (words n) (msAt (onL n l) n n.toNat))) = true := Classical.byContradiction fun h => this ⟨hnh, h⟩
    rw [List.any_eq_true] at hany
    obtain ⟨v, hv, hlk⟩ := hany
    have hvn := (onL_rows hro).2 u v hv
    refine ⟨v, ⟨hvn, fun hm => ?_⟩, hv⟩
    exact of_decide_eq_true hlk ((has_mem r2 hin hvn.1).2 hm)
  · exact absurd rfl h
end EB
end
section
set_option linter.unusedVariables false
open Go Go.Proofs Go.Eng Go.Shelf
set_option linter.unusedVariables false
namespace EB
set_option maxRecDepth 10000
theorem b78 (S : List Int) (h : S.length ≤ 100000) : bodyO Try.prog [] {} Try.f78 [Ls S] (.ref 0 1) (.int .i64) S 3 := by
  (conv => whnf)
  intro q hq
  (repeat' ((conv => whnf); first | (refine Giv.mk fun _ => ?_) | (refine Alt.l (Need.mk ?h ?_); case h => omega) | (refine Alt.r (Need.mk ?h ?_); case h => omega) | (refine Need.mk ?h ?_; case h => first | omega | (intro _; rfl) | assumption | (simp <;> omega)) | refine Ix.zero ?_ | refine Ix.one ?_ | refine Ix.two ?_ | refine Ix.nat ?_ | refine Ix.add ?_ | (apply Go.Eng.Pin.mk; apply Exists.intro) | apply Go.Eng.Pinned.mk rfl rfl | (apply Go.Eng.PinH.mk; apply Exists.intro; apply Exists.intro) | exact Go.Eng.Fin0.mk | refine Go.Eng.Chk.mk ?_ ?_ | refine Own.l ?_ | fail))
  (refine Br.mk (fun _ => ?_) (fun _ => ?_))
  · rename_i hx
    have hx := hq hx
    subst hx
    (repeat' ((conv => whnf); first | (refine Giv.mk fun _ => ?_) | (refine Alt.l (Need.mk ?h ?_); case h => omega) | (refine Alt.r (Need.mk ?h ?_); case h => omega) | (refine Need.mk ?h ?_; case h => first | omega | (intro _; rfl) | assumption | (simp <;> omega)) | refine Ix.zero ?_ | refine Ix.one ?_ | refine Ix.two ?_ | refine Ix.nat ?_ | refine Ix.add ?_ | (apply Go.Eng.Pin.mk; apply Exists.intro) | apply Go.Eng.Pinned.mk rfl rfl | (apply Go.Eng.PinH.mk; apply Exists.intro; apply Exists.intro) | exact Go.Eng.Fin0.mk | refine Go.Eng.Chk.mk ?_ ?_ | refine Own.l ?_ | fail))
    (conv => whnf)
    (repeat' (first | exact trivial | rfl | exact Nat.one_pos | (refine And.intro ?_ ?_) | ((conv => whnf); (refine And.intro ?_ ?_)) | ((conv => whnf); exact trivial)))
  · (repeat' ((conv => whnf); first | (refine Giv.mk fun _ => ?_) | (refine Alt.l (Need.mk ?h ?_); case h => omega) | (refine Alt.r (Need.mk ?h ?_); case h => omega) | (refine Need.mk ?h ?_; case h => first | omega | (intro _; rfl) | assumption | (simp <;> omega)) | refine Ix.zero ?_ | refine Ix.one ?_ | refine Ix.two ?_ | refine Ix.nat ?_ | refine Ix.add ?_ | (apply Go.Eng.Pin.mk; apply Exists.intro) | apply Go.Eng.Pinned.mk rfl rfl | (apply Go.Eng.PinH.mk; apply Exists.intro; apply Exists.intro) | exact Go.Eng.Fin0.mk | refine Go.Eng.Chk.mk ?_ ?_ | refine Own.l ?_ | fail))
    (conv => whnf)
    (repeat' (first | exact trivial | rfl | exact Nat.one_pos | (refine And.intro ?_ ?_) | ((conv => whnf); (refine And.intro ?_ ?_)) | ((conv => whnf); exact trivial)))
def c78 : Con := ownCon 78 fun args K => match args with | [.seq (.int .i64) S] => Need (S.length ≤ 100000) (K (.ref 0 1) (.vec 1 (.int .i64) (S) 3)) | _ => False
theorem k78 : ConOK Try.prog c78 := by
  refine ownOK_of (enters_of Try.func78 (by kernel_rfl) rfl) ?_
  intro args K h
  split at h
  · rename_i S; exact ⟨_, _, _, _, _, h.go, fun hfl => otri_of_body (Γ := []) (by simp) Try.func78 (by simp [Try.ntmps78]) hfl (b78 S h.ok)⟩
  · exact h.elim
/-! ### support.lowers -/
theorem b69 (n : Int) (l : List (Int × Int)) (h : RestsOk n l) : body Try.prog [] { asks := [(0, [])] } true Try.f69 [I n, Ps l] (.seq (.slice (.int .i64)) (onL n l)) := by
  obtain ⟨h1, h2, h3, h4⟩ := h
  (repeat' ((conv => whnf); first | (refine Giv.mk fun _ => ?_) | (refine Alt.l (Need.mk ?h ?_); case h => omega) | (refine Alt.r (Need.mk ?h ?_); case h => omega) | (refine Need.mk ?h ?_; case h => first | omega | (intro _; rfl) | assumption | (simp <;> omega)) | refine Ix.zero ?_ | refine Ix.one ?_ | refine Ix.two ?_ | refine Ix.nat ?_ | refine Ix.add ?_ | (apply Go.Eng.Pin.mk; apply Exists.intro) | apply Go.Eng.Pinned.mk rfl rfl | (apply Go.Eng.PinH.mk; apply Exists.intro; apply Exists.intro) | exact Go.Eng.Fin0.mk | refine Go.Eng.Chk.mk ?_ ?_ | refine Own.l ?_ | fail))
  refine Need.mk (show 0 ≤ n ∧ n ≤ n ∧ n ≤ 140737488355328 ∧ n * ((24 : Nat) : Int) ≤ 140737488355328 by omega) ?_
  (repeat' ((conv => whnf); first | (refine Giv.mk fun _ => ?_) | (refine Alt.l (Need.mk ?h ?_); case h => omega) | (refine Alt.r (Need.mk ?h ?_); case h => omega) | (refine Need.mk ?h ?_; case h => first | omega | (intro _; rfl) | assumption | (simp <;> omega)) | refine Ix.zero ?_ | refine Ix.one ?_ | refine Ix.two ?_ | refine Ix.nat ?_ | refine Ix.add ?_ | (apply Go.Eng.Pin.mk; apply Exists.intro) | apply Go.Eng.Pinned.mk rfl rfl | (apply Go.Eng.PinH.mk; apply Exists.intro; apply Exists.intro) | exact Go.Eng.Fin0.mk | refine Go.Eng.Chk.mk ?_ ?_ | refine Own.l ?_ | fail))
  refine Ask.mk ⟨{ X := Nat × Nat, pre := fun x => x.1 ≤ l.length, mod := fun x _ => [(12, I x.1)], heap := fun x _ => [.vec 1 (.slice (.int .i64)) [] 27, .vv 1 x.2 (.int .i64) (onN n.toNat l x.1) none 27 3], mu := fun x => l.length - x.1 }, rfl, ?_⟩
  (repeat' ((conv => whnf); first | (refine Giv.mk fun _ => ?_) | (refine Alt.l (Need.mk ?h ?_); case h => omega) | (refine Alt.r (Need.mk ?h ?_); case h => omega) | (refine Need.mk ?h ?_; case h => first | omega | (intro _; rfl) | assumption | (simp <;> omega)) | refine Ix.zero ?_ | refine Ix.one ?_ | refine Ix.two ?_ | refine Ix.nat ?_ | refine Ix.add ?_ | (apply Go.Eng.Pin.mk; apply Exists.intro) | apply Go.Eng.Pinned.mk rfl rfl | (apply Go.Eng.PinH.mk; apply Exists.intro; apply Exists.intro) | exact Go.Eng.Fin0.mk | refine Go.Eng.Chk.mk ?_ ?_ | refine Own.l ?_ | fail))
  refine ⟨⟨((0 : Nat), (0 : Nat)), Nat.zero_le _, ?_⟩, fun (x : Nat × Nat) hi => ?_⟩
  · (repeat' (first | exact trivial | rfl | exact Nat.one_pos | (refine And.intro ?_ ?_) | omega | ((conv => whnf); (refine And.intro ?_ ?_)) | ((conv => whnf); exact trivial)))
    exact (onN_zero _ _).symm
  · have hi : x.1 ≤ l.length := hi
    have hol := onN_len n.toNat l x.1
    (repeat' ((conv => whnf); first | (refine Giv.mk fun _ => ?_) | (refine Alt.l (Need.mk ?h ?_); case h => omega) | (refine Alt.r (Need.mk ?h ?_); case h => omega) | (refine Need.mk ?h ?_; case h => first | omega | (intro _; rfl) | assumption | (simp <;> omega)) | refine Ix.zero ?_ | refine Ix.one ?_ | refine Ix.two ?_ | refine Ix.nat ?_ | refine Ix.add ?_ | (apply Go.Eng.Pin.mk; apply Exists.intro) | apply Go.Eng.Pinned.mk rfl rfl | (apply Go.Eng.PinH.mk; apply Exists.intro; apply Exists.intro) | exact Go.Eng.Fin0.mk | refine Go.Eng.Chk.mk ?_ ?_ | refine Own.l ?_ | fail))
    (refine Br.mk (fun _ => ?_) (fun _ => ?_))
    · have hlt : x.1 < l.length := by omega
      obtain ⟨g1, g2, g3, g4⟩ := h4 x.1 hlt
      have hun : (l.getD x.1 (0, 0)).1.toNat < n.toNat := by omega
      have hu : (l.getD x.1 (0, 0)).1 = ((l.getD x.1 (0, 0)).1.toNat : Int) := by omega
      have hrow := rowOf_len l x.1 (l.getD x.1 (0, 0)).1.toNat
      have hget := onN_get n.toNat l x.1 _ hun
      (repeat' ((conv => whnf); first | (refine Giv.mk fun _ => ?_) | (refine Alt.l (Need.mk ?h ?_); case h => omega) | (refine Alt.r (Need.mk ?h ?_); case h => omega) | (refine Need.mk ?h ?_; case h => first | omega | (intro _; rfl) | assumption | (simp <;> omega)) | refine Ix.zero ?_ | refine Ix.one ?_ | refine Ix.two ?_ | refine Ix.nat ?_ | refine Ix.add ?_ | (apply Go.Eng.Pin.mk; apply Exists.intro) | apply Go.Eng.Pinned.mk rfl rfl | (apply Go.Eng.PinH.mk; apply Exists.intro; apply Exists.intro) | exact Go.Eng.Fin0.mk | refine Go.Eng.Chk.mk ?_ ?_ | refine Own.l ?_ | fail))
      (refine Br.mk (fun _ => ?_) (fun _ => ?_))
      · (repeat' ((conv => whnf); first | (refine Giv.mk fun _ => ?_) | (refine Alt.l (Need.mk ?h ?_); case h => omega) | (refine Alt.r (Need.mk ?h ?_); case h => omega) | (refine Need.mk ?h ?_; case h => first | omega | (intro _; rfl) | assumption | (simp <;> omega)) | refine Ix.zero ?_ | refine Ix.one ?_ | refine Ix.two ?_ | refine Ix.nat ?_ | refine Ix.add ?_ | (apply Go.Eng.Pin.mk; apply Exists.intro) | apply Go.Eng.Pinned.mk rfl rfl | (apply Go.Eng.PinH.mk; apply Exists.intro; apply Exists.intro) | exact Go.Eng.Fin0.mk | refine Go.Eng.Chk.mk ?_ ?_ | refine Own.l ?_ | fail))
        refine ix_at (l.getD x.1 (0, 0)).1.toNat hu ?_
        (repeat' ((conv => whnf); first | (refine Giv.mk fun _ => ?_) | (refine Alt.l (Need.mk ?h ?_); case h => omega) | (refine Alt.r (Need.mk ?h ?_); case h => omega) | (refine Need.mk ?h ?_; case h => first | omega | (intro _; rfl) | assumption | (simp <;> omega)) | refine Ix.zero ?_ | refine Ix.one ?_ | refine Ix.two ?_ | refine Ix.nat ?_ | refine Ix.add ?_ | (apply Go.Eng.Pin.mk; apply Exists.intro) | apply Go.Eng.Pinned.mk rfl rfl | (apply Go.Eng.PinH.mk; apply Exists.intro; apply Exists.intro) | exact Go.Eng.Fin0.mk | refine Go.Eng.Chk.mk ?_ ?_ | refine Own.l ?_ | fail))
        refine Need.mk (show ((onN n.toNat l x.1).getD (l.getD x.1 (0, 0)).1.toNat []).length + 1 ≤ 17592186044416 by rw [hget]; omega) ?_
        (repeat' ((conv => whnf); first | (refine Giv.mk fun _ => ?_) | (refine Alt.l (Need.mk ?h ?_); case h => omega) | (refine Alt.r (Need.mk ?h ?_); case h => omega) | (refine Need.mk ?h ?_; case h => first | omega | (intro _; rfl) | assumption | (simp <;> omega)) | refine Ix.zero ?_ | refine Ix.one ?_ | refine Ix.two ?_ | refine Ix.nat ?_ | refine Ix.add ?_ | (apply Go.Eng.Pin.mk; apply Exists.intro) | apply Go.Eng.Pinned.mk rfl rfl | (apply Go.Eng.PinH.mk; apply Exists.intro; apply Exists.intro) | exact Go.Eng.Fin0.mk | refine Go.Eng.Chk.mk ?_ ?_ | refine Own.l ?_ | fail))
        · refine Need.mk (show ((onN n.toNat l x.1).getD (l.getD x.1 (0, 0)).1.toNat []).length + 1 ≤ 17592186044416 by rw [hget]; omega) ?_
          (repeat' ((conv => whnf); first | (refine Giv.mk fun _ => ?_) | (refine Alt.l (Need.mk ?h ?_); case h => omega) | (refine Alt.r (Need.mk ?h ?_); case h => omega) | (refine Need.mk ?h ?_; case h => first | omega | (intro _; rfl) | assumption | (simp <;> omega)) | refine Ix.zero ?_ | refine Ix.one ?_ | refine Ix.two ?_ | refine Ix.nat ?_ | refine Ix.add ?_ | (apply Go.Eng.Pin.mk; apply Exists.intro) | apply Go.Eng.Pinned.mk rfl rfl | (apply Go.Eng.PinH.mk; apply Exists.intro; apply Exists.intro) | exact Go.Eng.Fin0.mk | refine Go.Eng.Chk.mk ?_ ?_ | refine Own.l ?_ | fail))
        · refine ix_at (l.getD x.1 (0, 0)).1.toNat hu ?_
          (repeat' ((conv => whnf); first | (refine Giv.mk fun _ => ?_) | (refine Alt.l (Need.mk ?h ?_); case h => omega) | (refine Alt.r (Need.mk ?h ?_); case h => omega) | (refine Need.mk ?h ?_; case h => first | omega | (intro _; rfl) | assumption | (simp <;> omega)) | refine Ix.zero ?_ | refine Ix.one ?_ | refine Ix.two ?_ | refine Ix.nat ?_ | refine Ix.add ?_ | (apply Go.Eng.Pin.mk; apply Exists.intro) | apply Go.Eng.Pinned.mk rfl rfl | (apply Go.Eng.PinH.mk; apply Exists.intro; apply Exists.intro) | exact Go.Eng.Fin0.mk | refine Go.Eng.Chk.mk ?_ ?_ | refine Own.l ?_ | fail))
        · refine ix_at (l.getD x.1 (0, 0)).1.toNat hu ?_
          (repeat' ((conv => whnf); first | (refine Giv.mk fun _ => ?_) | (refine Alt.l (Need.mk ?h ?_); case h => omega) | (refine Alt.r (Need.mk ?h ?_); case h => omega) | (refine Need.mk ?h ?_; case h => first | omega | (intro _; rfl) | assumption | (simp <;> omega)) | refine Ix.zero ?_ | refine Ix.one ?_ | refine Ix.two ?_ | refine Ix.nat ?_ | refine Ix.add ?_ | (apply Go.Eng.Pin.mk; apply Exists.intro) | apply Go.Eng.Pinned.mk rfl rfl | (apply Go.Eng.PinH.mk; apply Exists.intro; apply Exists.intro) | exact Go.Eng.Fin0.mk | refine Go.Eng.Chk.mk ?_ ?_ | refine Own.l ?_ | fail))
          refine Need.mk (show ((onN n.toNat l x.1).getD (l.getD x.1 (0, 0)).1.toNat [] ++ [(l.getD x.1 (0, 0)).2]).length ≤ 140737488355328 by rw [hget, List.length_append, List.length_singleton]; omega) ?_
          (repeat' ((conv => whnf); first | (refine Giv.mk fun _ => ?_) | (refine Alt.l (Need.mk ?h ?_); case h => omega) | (refine Alt.r (Need.mk ?h ?_); case h => omega) | (refine Need.mk ?h ?_; case h => first | omega | (intro _; rfl) | assumption | (simp <;> omega)) | refine Ix.zero ?_ | refine Ix.one ?_ | refine Ix.two ?_ | refine Ix.nat ?_ | refine Ix.add ?_ | (apply Go.Eng.Pin.mk; apply Exists.intro) | apply Go.Eng.Pinned.mk rfl rfl | (apply Go.Eng.PinH.mk; apply Exists.intro; apply Exists.intro) | exact Go.Eng.Fin0.mk | refine Go.Eng.Chk.mk ?_ ?_ | refine Own.l ?_ | fail))
          refine ⟨((x.1 + 1 : Nat), (x.2 + 1 + 1 : Nat)), ?_, ?_, ?_⟩
          · show l.length - (x.1 + 1) < l.length - x.1
            omega
          · show x.1 + 1 ≤ l.length
            omega
          · (repeat' (first | exact trivial | rfl | exact Nat.one_pos | (refine And.intro ?_ ?_) | omega | ((conv => whnf); (refine And.intro ?_ ?_)) | ((conv => whnf); exact trivial)))
            exact onN_step n.toNat l x.1 _ hlt hu ‹_› hun
      · have hos := onN_same n.toNat l x.1 hlt ‹_›
        (repeat' ((conv => whnf); first | (refine Giv.mk fun _ => ?_) | (refine Alt.l (Need.mk ?h ?_); case h => omega) | (refine Alt.r (Need.mk ?h ?_); case h => omega) | (refine Need.mk ?h ?_; case h => first | omega | (intro _; rfl) | assumption | (simp <;> omega)) | refine Ix.zero ?_ | refine Ix.one ?_ | refine Ix.two ?_ | refine Ix.nat ?_ | refine Ix.add ?_ | (apply Go.Eng.Pin.mk; apply Exists.intro) | apply Go.Eng.Pinned.mk rfl rfl | (apply Go.Eng.PinH.mk; apply Exists.intro; apply Exists.intro) | exact Go.Eng.Fin0.mk | refine Go.Eng.Chk.mk ?_ ?_ | refine Own.l ?_ | fail))
        (conv => whnf)
        refine ⟨((x.1 + 1 : Nat), x.2), ?_, ?_, ?_⟩
        · show l.length - (x.1 + 1) < l.length - x.1
          omega
        · show x.1 + 1 ≤ l.length
          omega
        · (repeat' (first | exact trivial | rfl | exact Nat.one_pos | (refine And.intro ?_ ?_) | omega | ((conv => whnf); (refine And.intro ?_ ?_)) | ((conv => whnf); exact trivial)))
          exact hos.symm
    · have hii : x.1 = l.length := by omega
      (repeat' ((conv => whnf); first | (refine Giv.mk fun _ => ?_) | (refine Alt.l (Need.mk ?h ?_); case h => omega) | (refine Alt.r (Need.mk ?h ?_); case h => omega) | (refine Need.mk ?h ?_; case h => first | omega | (intro _; rfl) | assumption | (simp <;> omega)) | refine Ix.zero ?_ | refine Ix.one ?_ | refine Ix.two ?_ | refine Ix.nat ?_ | refine Ix.add ?_ | (apply Go.Eng.Pin.mk; apply Exists.intro) | apply Go.Eng.Pinned.mk rfl rfl | (apply Go.Eng.PinH.mk; apply Exists.intro; apply Exists.intro) | exact Go.Eng.Fin0.mk | refine Go.Eng.Chk.mk ?_ ?_ | refine Own.l ?_ | fail))
      (conv => whnf)
      rw [hii]
      rfl
def c69 : Con := mkCon 69 true fun args K => match args with | [.val (.int .i64 n), .seq (.pair (.int .i64) (.int .i64)) l] => Need (RestsOk n l) (K (.seq (.slice (.int .i64)) (onL n l))) | _ => False
theorem k69 : ConOK Try.prog c69 := by
  refine conOK_of rfl (enters_of Try.func69 (by kernel_rfl) rfl) ?_
  intro args K h
  simp only [c69] at h
  split at h
  · rename_i n l; exact ⟨_, h.go, tri_of_body (Γ := []) (by simp) Try.func69 (by simp [Try.ntmps69]) rfl (b69 n l h.ok)⟩
  · exact h.elim
/-! ### support.reached -/
abbrev Rs (on : List (List Int)) : SV := .seq (.slice (.int .i64)) on
noncomputable def wayB (on : List (List Int)) (i k : Int) : Bool := @decide (Way on i k) (Classical.propDecidable _)
theorem wayB_iff (on : List (List Int)) (i k : Int) : wayB on i k = true ↔ Way on i k := @decide_eq_true_iff _ (Classical.propDecidable _)
noncomputable def reachL (on : List (List Int)) (i : Int) : List Bool := (List.range on.length).map fun k : Nat => wayB on i k
def unmTo (on : List (List Int)) (out : List Bool) : Nat → Nat
  | 0 => 0
  | k + 1 => unmTo on out k + if out.getD k false = true then 0 else (on.getD k []).length
theorem unmTo_set (on : List (List Int)) (out : List Bool) (j : Nat) (hj : out.getD j false = false) (hl : j < out.length) : ∀ k, unmTo on (out.set j true) k + (if j < k then (on.getD j []).length else 0) = unmTo on out k
  | 0 => by simp [unmTo]
  | k + 1 => by
    have ih := unmTo_set on out j hj hl k
    unfold unmTo
    by_cases e : k = j
    · subst e
      have e1 : (out.set k true).getD k false = true := by rw [set_getD, if_pos ⟨rfl, hl⟩]
      rw [e1, hj, if_pos rfl, if_pos (Nat.lt_succ_self _), if_neg (by simp)]
      rw [if_neg (Nat.lt_irrefl _)] at ih
      omega
    · have e1 : (out.set j true).getD k false = out.getD k false := by rw [set_getD, if_neg fun h => e h.1]
      rw [e1]
      by_cases h : j < k
      · rw [if_pos h] at ih
        rw [if_pos (show j < k + 1 by omega)]
        omega
      · rw [if_neg h] at ih
        rw [if_neg (show ¬ j < k + 1 by omega)]
        omega
theorem unmTo_le (on : List (List Int)) (out : List Bool) {B : Nat} (h : ∀ u, (on.getD u []).length ≤ B) : ∀ k, unmTo on out k ≤ k * B
  | 0 => Nat.zero_le _
  | k + 1 => by
    have ih := unmTo_le on out h k
    have := h k
    unfold unmTo
    rw [Nat.add_mul, Nat.one_mul]
    split <;> omega
structure RI (on : List (List Int)) (i : Int) (n : Int) (x : List Bool × List Int) : Prop where
  len : x.1.length = on.length
  stk : ∀ k ∈ x.2, (0 ≤ k ∧ k < n) ∧ Way on i k
  mrk : ∀ k : Nat, x.1.getD k false = true → Way on i k
  frm : ∀ k, Edge on i k → x.1.getD k.toNat false = true ∨ k ∈ x.2
  nxt : ∀ m : Nat, x.1.getD m false = true → ∀ k, Edge on m k → x.1.getD k.toNat false = true ∨ k ∈ x.2
  sz : x.2.length + unmTo on x.1 on.length ≤ 5000000
theorem ri_end {on : List (List Int)} {i n : Int} (hn : Rows2 on n) {out : List Bool} (h : RI on i n (out, [])) : out = reachL on i := by
  have hd : ∀ u k : Int, Way on u k → (∀ k, Edge on u k → out.getD k.toNat false = true) → out.getD k.toNat false = true := by
    intro u k hw
    induction hw with
    | one u v he => intro hu; exact hu v he
    | more u v w he _ ih =>
      intro hu
      refine ih fun k hk => ?_
      have h1 := hu v he
      have hv := hn.2 u v he
      have := h.nxt v.toNat h1 k (by rw [Int.toNat_of_nonneg hv.1]; exact hk)
      exact this.resolve_right (by simp)
  apply List.ext_getElem
  · rw [h.len]; simp [reachL]
  · intro k h1 h2
    simp only [reachL, List.getElem_map, List.getElem_range]
    have e : out[k] = out.getD k false := by simp [List.getD_eq_getElem?_getD, h1]
    rw [e, Bool.eq_iff_iff, wayB_iff]
    constructor
    · exact h.mrk k
    · intro hw
      have := hd i k hw fun q hq => (h.frm q hq).resolve_right (by simp)
      simpa using this
theorem pop_mem {xs : List Int} (h : 0 < xs.length) (k : Int) : k ∈ xs ↔ k ∈ xs.take (xs.length - 1) ∨ k = xs.getD (xs.length - 1) 0 := by
  have e : xs = xs.take (xs.length - 1) ++ [xs.getD (xs.length - 1) 0] := by
    have h2 : xs.length - 1 < xs.length := by omega
    have := List.take_succ_eq_append_getElem h2
    rw [show xs.length - 1 + 1 = xs.length by omega, List.take_length] at this
    rw [List.getD_eq_getElem?_getD, List.getElem?_eq_getElem h2]
    exact this
  constructor
  · intro hk
    rw [e] at hk
    rcases List.mem_append.1 hk with h | h
    · exact .inl h
    · exact .inr (List.mem_singleton.1 h)
  · rintro (h | h)
    · exact List.mem_of_mem_take h
    · rw [h, List.getD_eq_getElem?_getD, List.getElem?_eq_getElem (by omega)]; exact List.getElem_mem _
theorem ri_skip {on : List (List Int)} {i n : Int} {x : List Bool × List Int} (h : RI on i n x) (hp : 0 < x.2.length) (hm : x.1.getD (x.2.getD (x.2.length - 1) 0).toNat false = true) : RI on i n (x.1, x.2.take (x.2.length - 1)) := by
  have hpm := pop_mem hp
  have key : ∀ k : Int, (x.1.getD k.toNat false = true ∨ k ∈ x.2) → x.1.getD k.toNat false = true ∨ k ∈ x.2.take (x.2.length - 1) := fun k hk => by
    rcases hk with hk | hk
    · exact .inl hk
    · rcases (hpm k).1 hk with h | h
      · exact .inr h
      · exact .inl (by rw [h]; exact hm)
  refine ⟨h.len, fun k hk => h.stk k ((hpm k).2 (.inl hk)), h.mrk, fun k hk => key k (h.frm k hk), fun m hm k hk => key k (h.nxt m hm k hk), ?_⟩
  have := h.sz
  show (x.2.take (x.2.length - 1)).length + unmTo on x.1 on.length ≤ _
  rw [List.length_take]; omega
theorem ri_mark {on : List (List Int)} {i n : Int} (hn : Rows2 on n) {x : List Bool × List Int} (h : RI on i n x) (hp : 0 < x.2.length) {j : Int} (hj : j = x.2.getD (x.2.length - 1) 0) (hm : ¬ x.1.getD j.toNat false = true) :
    RI on i n (x.1.set j.toNat true, x.2.take (x.2.length - 1) ++ on.getD j.toNat []) ∧ (x.2.take (x.2.length - 1) ++ on.getD j.toNat []).length + unmTo on (x.1.set j.toNat true) on.length < x.2.length + unmTo on x.1 on.length := by
  have hpm := pop_mem hp
  have hjm : j ∈ x.2 := (hpm j).2 (.inr hj)
  obtain ⟨⟨j0, j1⟩, jw⟩ := h.stk j hjm
  have hl : j.toNat < x.1.length := by rw [h.len]; have := hn.1; omega
  have hset : ∀ k, (x.1.set j.toNat true).getD k false = if k = j.toNat then true else x.1.getD k false := fun k => by
    rw [set_getD]
    by_cases e : k = j.toNat
    · subst e; rw [if_pos ⟨rfl, hl⟩, if_pos rfl]
    · rw [if_neg fun h => e h.1, if_neg e]
  have hun := unmTo_set on x.1 j.toNat (Bool.eq_false_iff.2 hm) hl on.length
  rw [if_pos (by rw [← h.len]; exact hl)] at hun
  have hlen : (x.2.take (x.2.length - 1) ++ on.getD j.toNat []).length = x.2.length - 1 + (on.getD j.toNat []).length := by
    rw [List.length_append, List.length_take]; omega
  have key : ∀ k : Int, (x.1.getD k.toNat false = true ∨ k ∈ x.2) → (x.1.set j.toNat true).getD k.toNat false = true ∨ k ∈ x.2.take (x.2.length - 1) ++ on.getD j.toNat [] := fun k hk => by
    rw [hset]
    by_cases e : k.toNat = j.toNat
    · rw [if_pos e]; exact .inl rfl
    · rw [if_neg e]
      rcases hk with hk | hk
      · exact .inl hk
      · rcases (hpm k).1 hk with h | h
        · exact .inr (List.mem_append.2 (.inl h))
        · exact absurd (by rw [h, ← hj]) e
  refine ⟨⟨by rw [List.length_set]; exact h.len, fun k hk => ?_, fun k hk => ?_, fun k hk => key k (h.frm k hk), fun m hm2 k hk => ?_, ?_⟩, by rw [hlen]; omega⟩
  · rcases List.mem_append.1 hk with hk | hk
    · exact h.stk k ((hpm k).2 (.inl hk))
    · exact ⟨hn.2 j k hk, jw.snoc hk⟩
  · rw [hset] at hk
    by_cases e : k = j.toNat
    · rw [e, Int.toNat_of_nonneg j0]; exact jw
    · rw [if_neg e] at hk; exact h.mrk k hk
  · rw [hset] at hm2
    by_cases e : m = j.toNat
    · right
      refine List.mem_append.2 (.inr ?_)
      unfold Edge at hk
      rw [e, Int.toNat_natCast] at hk
      exact hk
    · rw [if_neg e] at hm2
      exact key k (h.nxt m hm2 k hk)
  · have := h.sz
    show (x.2.take (x.2.length - 1) ++ on.getD j.toNat []).length + unmTo on (x.1.set j.toNat true) on.length ≤ _
    rw [hlen]; omega
theorem b70 (on : List (List Int)) (i : Int) (h : ∃ n, Rows2 on n ∧ (0 ≤ i ∧ i < n) ∧ (∀ u, (on.getD u []).length ≤ 4096) ∧ n ≤ 512) : body Try.prog [c78] { asks := [(0, [2])] } true Try.f70 [Rs on, I i] (Bs (reachL on i)) := by
  obtain ⟨n, h1, h2, h3, h4⟩ := h
  obtain ⟨h5, h6⟩ := id h1
  have hri := h3 i.toNat
  (repeat' ((conv => whnf); first | (refine Giv.mk fun _ => ?_) | (refine Alt.l (Need.mk ?h ?_); case h => omega) | (refine Alt.r (Need.mk ?h ?_); case h => omega) | (refine Need.mk ?h ?_; case h => first | omega | (intro _; rfl) | assumption | (simp <;> omega)) | refine Ix.zero ?_ | refine Ix.one ?_ | refine Ix.two ?_ | refine Ix.nat ?_ | refine Ix.add ?_ | (apply Go.Eng.Pin.mk; apply Exists.intro) | apply Go.Eng.Pinned.mk rfl rfl | (apply Go.Eng.PinH.mk; apply Exists.intro; apply Exists.intro) | exact Go.Eng.Fin0.mk | refine Go.Eng.Chk.mk ?_ ?_ | refine Own.l ?_ | fail))
  refine Need.mk (show 0 ≤ (on.length : Int) ∧ (on.length : Int) ≤ (on.length : Int) ∧ (on.length : Int) ≤ 140737488355328 ∧ (on.length : Int) * ((1 : Nat) : Int) ≤ 140737488355328 by omega) ?_
  (repeat' ((conv => whnf); first | (refine Giv.mk fun _ => ?_) | (refine Alt.l (Need.mk ?h ?_); case h => omega) | (refine Alt.r (Need.mk ?h ?_); case h => omega) | (refine Need.mk ?h ?_; case h => first | omega | (intro _; rfl) | assumption | (simp <;> omega)) | refine Ix.zero ?_ | refine Ix.one ?_ | refine Ix.two ?_ | refine Ix.nat ?_ | refine Ix.add ?_ | (apply Go.Eng.Pin.mk; apply Exists.intro) | apply Go.Eng.Pinned.mk rfl rfl | (apply Go.Eng.PinH.mk; apply Exists.intro; apply Exists.intro) | exact Go.Eng.Fin0.mk | refine Go.Eng.Chk.mk ?_ ?_ | refine Own.l ?_ | fail))
  refine ix_at i.toNat (by omega) ?_
  (repeat' ((conv => whnf); first | (refine Giv.mk fun _ => ?_) | (refine Alt.l (Need.mk ?h ?_); case h => omega) | (refine Alt.r (Need.mk ?h ?_); case h => omega) | (refine Need.mk ?h ?_; case h => first | omega | (intro _; rfl) | assumption | (simp <;> omega)) | refine Ix.zero ?_ | refine Ix.one ?_ | refine Ix.two ?_ | refine Ix.nat ?_ | refine Ix.add ?_ | (apply Go.Eng.Pin.mk; apply Exists.intro) | apply Go.Eng.Pinned.mk rfl rfl | (apply Go.Eng.PinH.mk; apply Exists.intro; apply Exists.intro) | exact Go.Eng.Fin0.mk | refine Go.Eng.Chk.mk ?_ ?_ | refine Own.l ?_ | fail))
  refine Ask.mk ⟨{ X := List Bool × List Int, pre := fun x => RI on i n x, mod := fun x _ => [(6, .ref 2 1)], objs := [2], heap := fun x _ => [.vec 1 .bool [] 4, .vec 1 .bool x.1 4, .vec 1 (.int .i64) x.2 3], mu := fun x => x.2.length + unmTo on x.1 on.length }, rfl, ?_⟩
  (repeat' ((conv => whnf); first | (refine Giv.mk fun _ => ?_) | (refine Alt.l (Need.mk ?h ?_); case h => omega) | (refine Alt.r (Need.mk ?h ?_); case h => omega) | (refine Need.mk ?h ?_; case h => first | omega | (intro _; rfl) | assumption | (simp <;> omega)) | refine Ix.zero ?_ | refine Ix.one ?_ | refine Ix.two ?_ | refine Ix.nat ?_ | refine Ix.add ?_ | (apply Go.Eng.Pin.mk; apply Exists.intro) | apply Go.Eng.Pinned.mk rfl rfl | (apply Go.Eng.PinH.mk; apply Exists.intro; apply Exists.intro) | exact Go.Eng.Fin0.mk | refine Go.Eng.Chk.mk ?_ ?_ | refine Own.l ?_ | fail))
  refine ⟨⟨(List.replicate on.length false, on.getD i.toNat []), ?_, ?_⟩, fun (x : List Bool × List Int) hx => ?_⟩
  · have hun := unmTo_le on (List.replicate on.length false) h3 on.length
    have hmul : on.length * 4096 ≤ 512 * 4096 := Nat.mul_le_mul_right _ (by omega)
    refine ⟨by simp, fun k hk => ⟨h6 i k hk, .one _ _ hk⟩, fun k hk => ?_, fun k hk => .inr hk, fun m hm => ?_, by show (on.getD i.toNat []).length + unmTo on (List.replicate on.length false) on.length ≤ _; omega⟩
    · exfalso
      rw [List.getD_eq_getElem?_getD, List.getElem?_replicate] at hk
      split at hk <;> cases hk
    · exfalso
      rw [List.getD_eq_getElem?_getD, List.getElem?_replicate] at hm
      split at hm <;> cases hm
  · (repeat' (first | exact trivial | rfl | exact Nat.one_pos | (refine And.intro ?_ ?_) | omega | ((conv => whnf); (refine And.intro ?_ ?_)) | ((conv => whnf); exact trivial)))
  · have hx : RI on i n x := hx
    obtain ⟨q1, q2, q3, q4, q5, q6⟩ := id hx
    (repeat' ((conv => whnf); first | (refine Giv.mk fun _ => ?_) | (refine Alt.l (Need.mk ?h ?_); case h => omega) | (refine Alt.r (Need.mk ?h ?_); case h => omega) | (refine Need.mk ?h ?_; case h => first | omega | (intro _; rfl) | assumption | (simp <;> omega)) | refine Ix.zero ?_ | refine Ix.one ?_ | refine Ix.two ?_ | refine Ix.nat ?_ | refine Ix.add ?_ | (apply Go.Eng.Pin.mk; apply Exists.intro) | apply Go.Eng.Pinned.mk rfl rfl | (apply Go.Eng.PinH.mk; apply Exists.intro; apply Exists.intro) | exact Go.Eng.Fin0.mk | refine Go.Eng.Chk.mk ?_ ?_ | refine Own.l ?_ | fail))
    (refine Br.mk (fun _ => ?_) (fun _ => ?_))
    · have hpos : 0 < x.2.length := by omega
      have e1 : (x.2.length : Int) - 1 = ((x.2.length - 1 : Nat) : Int) := by omega
      have hlast : x.2.getD (x.2.length - 1) 0 ∈ x.2 := by
        rw [List.getD_eq_getElem?_getD, List.getElem?_eq_getElem (by omega)]; exact List.getElem_mem _
      obtain ⟨⟨m1, m2⟩, m3⟩ := q2 _ hlast
      (repeat' ((conv => whnf); first | (refine Giv.mk fun _ => ?_) | (refine Alt.l (Need.mk ?h ?_); case h => omega) | (refine Alt.r (Need.mk ?h ?_); case h => omega) | (refine Need.mk ?h ?_; case h => first | omega | (intro _; rfl) | assumption | (simp <;> omega)) | refine Ix.zero ?_ | refine Ix.one ?_ | refine Ix.two ?_ | refine Ix.nat ?_ | refine Ix.add ?_ | (apply Go.Eng.Pin.mk; apply Exists.intro) | apply Go.Eng.Pinned.mk rfl rfl | (apply Go.Eng.PinH.mk; apply Exists.intro; apply Exists.intro) | exact Go.Eng.Fin0.mk | refine Go.Eng.Chk.mk ?_ ?_ | refine Own.l ?_ | fail))
      refine ix_at (x.2.length - 1) e1 ?_
      (repeat' ((conv => whnf); first | (refine Giv.mk fun _ => ?_) | (refine Alt.l (Need.mk ?h ?_); case h => omega) | (refine Alt.r (Need.mk ?h ?_); case h => omega) | (refine Need.mk ?h ?_; case h => first | omega | (intro _; rfl) | assumption | (simp <;> omega)) | refine Ix.zero ?_ | refine Ix.one ?_ | refine Ix.two ?_ | refine Ix.nat ?_ | refine Ix.add ?_ | (apply Go.Eng.Pin.mk; apply Exists.intro) | apply Go.Eng.Pinned.mk rfl rfl | (apply Go.Eng.PinH.mk; apply Exists.intro; apply Exists.intro) | exact Go.Eng.Fin0.mk | refine Go.Eng.Chk.mk ?_ ?_ | fail))
      refine Own.l (Own.r ?_)
      (repeat' ((conv => whnf); first | (refine Giv.mk fun _ => ?_) | (refine Alt.l (Need.mk ?h ?_); case h => omega) | (refine Alt.r (Need.mk ?h ?_); case h => omega) | (refine Need.mk ?h ?_; case h => first | omega | (intro _; rfl) | assumption | (simp <;> omega)) | refine Ix.zero ?_ | refine Ix.one ?_ | refine Ix.two ?_ | refine Ix.nat ?_ | refine Ix.add ?_ | (apply Go.Eng.Pin.mk; apply Exists.intro) | apply Go.Eng.Pinned.mk rfl rfl | (apply Go.Eng.PinH.mk; apply Exists.intro; apply Exists.intro) | exact Go.Eng.Fin0.mk | refine Go.Eng.Chk.mk ?_ ?_ | fail))
      refine ix_at (x.2.length - 1) e1 ?_
      (repeat' ((conv => whnf); first | (refine Giv.mk fun _ => ?_) | (refine Alt.l (Need.mk ?h ?_); case h => omega) | (refine Alt.r (Need.mk ?h ?_); case h => omega) | (refine Need.mk ?h ?_; case h => first | omega | (intro _; rfl) | assumption | (simp <;> omega)) | refine Ix.zero ?_ | refine Ix.one ?_ | refine Ix.two ?_ | refine Ix.nat ?_ | refine Ix.add ?_ | (apply Go.Eng.Pin.mk; apply Exists.intro) | apply Go.Eng.Pinned.mk rfl rfl | (apply Go.Eng.PinH.mk; apply Exists.intro; apply Exists.intro) | exact Go.Eng.Fin0.mk | refine Go.Eng.Chk.mk ?_ ?_ | refine Own.l ?_ | fail))
      refine ix_at (x.2.getD (x.2.length - 1) 0).toNat (by omega) ?_
      (repeat' ((conv => whnf); first | (refine Giv.mk fun _ => ?_) | (refine Alt.l (Need.mk ?h ?_); case h => omega) | (refine Alt.r (Need.mk ?h ?_); case h => omega) | (refine Need.mk ?h ?_; case h => first | omega | (intro _; rfl) | assumption | (simp <;> omega)) | refine Ix.zero ?_ | refine Ix.one ?_ | refine Ix.two ?_ | refine Ix.nat ?_ | refine Ix.add ?_ | (apply Go.Eng.Pin.mk; apply Exists.intro) | apply Go.Eng.Pinned.mk rfl rfl | (apply Go.Eng.PinH.mk; apply Exists.intro; apply Exists.intro) | exact Go.Eng.Fin0.mk | refine Go.Eng.Chk.mk ?_ ?_ | refine Own.l ?_ | fail))
      (refine Br.mk (fun _ => ?_) (fun _ => ?_))
      · rename_i hm
        obtain ⟨w1, w2⟩ := ri_mark h1 hx hpos rfl hm
        have hrj := h3 (x.2.getD (x.2.length - 1) 0).toNat
        (repeat' ((conv => whnf); first | (refine Giv.mk fun _ => ?_) | (refine Alt.l (Need.mk ?h ?_); case h => omega) | (refine Alt.r (Need.mk ?h ?_); case h => omega) | (refine Need.mk ?h ?_; case h => first | omega | (intro _; rfl) | assumption | (simp <;> omega)) | refine Ix.zero ?_ | refine Ix.one ?_ | refine Ix.two ?_ | refine Ix.nat ?_ | refine Ix.add ?_ | (apply Go.Eng.Pin.mk; apply Exists.intro) | apply Go.Eng.Pinned.mk rfl rfl | (apply Go.Eng.PinH.mk; apply Exists.intro; apply Exists.intro) | exact Go.Eng.Fin0.mk | refine Go.Eng.Chk.mk ?_ ?_ | refine Own.l ?_ | fail))
        refine ix_at (x.2.getD (x.2.length - 1) 0).toNat (by omega) ?_
        (repeat' ((conv => whnf); first | (refine Giv.mk fun _ => ?_) | (refine Alt.l (Need.mk ?h ?_); case h => omega) | (refine Alt.r (Need.mk ?h ?_); case h => omega) | (refine Need.mk ?h ?_; case h => first | omega | (intro _; rfl) | assumption | (simp <;> omega)) | refine Ix.zero ?_ | refine Ix.one ?_ | refine Ix.two ?_ | refine Ix.nat ?_ | refine Ix.add ?_ | (apply Go.Eng.Pin.mk; apply Exists.intro) | apply Go.Eng.Pinned.mk rfl rfl | (apply Go.Eng.PinH.mk; apply Exists.intro; apply Exists.intro) | exact Go.Eng.Fin0.mk | refine Go.Eng.Chk.mk ?_ ?_ | refine Own.l ?_ | fail))
        refine ix_at (x.2.getD (x.2.length - 1) 0).toNat (by omega) ?_
        (repeat' ((conv => whnf); first | (refine Giv.mk fun _ => ?_) | (refine Alt.l (Need.mk ?h ?_); case h => omega) | (refine Alt.r (Need.mk ?h ?_); case h => omega) | (refine Need.mk ?h ?_; case h => first | omega | (intro _; rfl) | assumption | (simp <;> omega)) | refine Ix.zero ?_ | refine Ix.one ?_ | refine Ix.two ?_ | refine Ix.nat ?_ | refine Ix.add ?_ | (apply Go.Eng.Pin.mk; apply Exists.intro) | apply Go.Eng.Pinned.mk rfl rfl | (apply Go.Eng.PinH.mk; apply Exists.intro; apply Exists.intro) | exact Go.Eng.Fin0.mk | refine Go.Eng.Chk.mk ?_ ?_ | refine Own.l ?_ | fail))
        refine Need.mk (by rw [List.length_take]; omega) ?_
        (repeat' ((conv => whnf); first | (refine Giv.mk fun _ => ?_) | (refine Alt.l (Need.mk ?h ?_); case h => omega) | (refine Alt.r (Need.mk ?h ?_); case h => omega) | (refine Need.mk ?h ?_; case h => first | omega | (intro _; rfl) | assumption | (simp <;> omega)) | refine Ix.zero ?_ | refine Ix.one ?_ | refine Ix.two ?_ | refine Ix.nat ?_ | refine Ix.add ?_ | (apply Go.Eng.Pin.mk; apply Exists.intro) | apply Go.Eng.Pinned.mk rfl rfl | (apply Go.Eng.PinH.mk; apply Exists.intro; apply Exists.intro) | exact Go.Eng.Fin0.mk | refine Go.Eng.Chk.mk ?_ ?_ | refine Own.l ?_ | fail))
        refine ⟨((x.1.set (x.2.getD (x.2.length - 1) 0).toNat true, x.2.take (x.2.length - 1) ++ on.getD (x.2.getD (x.2.length - 1) 0).toNat []) : List Bool × List Int), w2, w1, ?_⟩
        (repeat' (first | exact trivial | rfl | exact Nat.one_pos | (refine And.intro ?_ ?_) | omega | ((conv => whnf); (refine And.intro ?_ ?_)) | ((conv => whnf); exact trivial)))
      · rename_i hm
        have w1 := ri_skip hx hpos (Classical.not_not.1 hm)
        (repeat' ((conv => whnf); first | (refine Giv.mk fun _ => ?_) | (refine Alt.l (Need.mk ?h ?_); case h => omega) | (refine Alt.r (Need.mk ?h ?_); case h => omega) | (refine Need.mk ?h ?_; case h => first | omega | (intro _; rfl) | assumption | (simp <;> omega)) | refine Ix.zero ?_ | refine Ix.one ?_ | refine Ix.two ?_ | refine Ix.nat ?_ | refine Ix.add ?_ | (apply Go.Eng.Pin.mk; apply Exists.intro) | apply Go.Eng.Pinned.mk rfl rfl | (apply Go.Eng.PinH.mk; apply Exists.intro; apply Exists.intro) | exact Go.Eng.Fin0.mk | refine Go.Eng.Chk.mk ?_ ?_ | refine Own.l ?_ | fail))
        refine ⟨((x.1, x.2.take (x.2.length - 1)) : List Bool × List Int), ?_, w1, ?_⟩
        · have e2 : (x.2.take (x.2.length - 1)).length < x.2.length := by rw [List.length_take]; omega
          show (x.2.take (x.2.length - 1)).length + unmTo on x.1 on.length < x.2.length + unmTo on x.1 on.length
          omega
        · (repeat' (first | exact trivial | rfl | exact Nat.one_pos | (refine And.intro ?_ ?_) | omega | ((conv => whnf); (refine And.intro ?_ ?_)) | ((conv => whnf); exact trivial)))
    · have h0 : x.2 = [] := List.eq_nil_of_length_eq_zero (by omega)
      have hend := ri_end (out := x.1) h1 (by rw [← h0]; exact hx)
      (repeat' ((conv => whnf); first | (refine Giv.mk fun _ => ?_) | (refine Alt.l (Need.mk ?h ?_); case h => omega) | (refine Alt.r (Need.mk ?h ?_); case h => omega) | (refine Need.mk ?h ?_; case h => first | omega | (intro _; rfl) | assumption | (simp <;> omega)) | refine Ix.zero ?_ | refine Ix.one ?_ | refine Ix.two ?_ | refine Ix.nat ?_ | refine Ix.add ?_ | (apply Go.Eng.Pin.mk; apply Exists.intro) | apply Go.Eng.Pinned.mk rfl rfl | (apply Go.Eng.PinH.mk; apply Exists.intro; apply Exists.intro) | exact Go.Eng.Fin0.mk | refine Go.Eng.Chk.mk ?_ ?_ | refine Own.l ?_ | fail))
      (conv => whnf)
      exact hend
def c70 : Con := mkCon 70 true fun args K => match args with | [.seq (.slice (.int .i64)) on, .val (.int .i64 i)] => Need (∃ n, Rows2 on n ∧ (0 ≤ i ∧ i < n) ∧ (∀ u, (on.getD u []).length ≤ 4096) ∧ n ≤ 512) (K (Bs (reachL on i))) | _ => False
theorem k70 : ConOK Try.prog c70 := by
  refine conOK_of rfl (enters_of Try.func70 (by kernel_rfl) rfl) ?_
  intro args K h
  simp only [c70] at h
  split at h
  · rename_i on i; exact ⟨_, h.go, tri_of_body (Γ := [c78]) (by simp [k78]) Try.func70 (by simp [Try.ntmps70]) rfl (b70 on i h.ok)⟩
  · exact h.elim
end EB
end
section
set_option linter.unusedVariables false
open Go Go.Proofs Go.Eng Go.Shelf
set_option linter.unusedVariables false
namespace EB
set_option maxRecDepth 10000
/-! ### Ways of a length -/
inductive WayN (on : List (List Int)) : Nat → Int → Int → Prop
  | nil (u : Int) : WayN on 0 u u
  | cons (m : Nat) (u v w : Int) (h : Edge on u v) (hw : WayN on m v w) : WayN on (m + 1) u w
theorem Way.num {on : List (List Int)} {u v : Int} (h : Way on u v) : ∃ m, WayN on (m + 1) u v := by
  induction h with
  | one u v h => exact ⟨0, .cons 0 u v v h (.nil v)⟩
  | more u v w h _ ih => obtain ⟨m, hm⟩ := ih; exact ⟨m + 1, .cons (m + 1) u v w h hm⟩
def Least (p : Nat → Prop) (m : Nat) : Prop := p m ∧ ∀ q, q < m → ¬ p q
theorem least_ex {p : Nat → Prop} {m : Nat} (h : p m) : ∃ q, Least p q := by
  induction m using Nat.strongRecOn with
  | _ m ih =>
    by_cases hq : ∃ q, q < m ∧ p q
    · obtain ⟨q, h1, h2⟩ := hq; exact ih q h1 h2
    · exact ⟨m, h, fun q h1 h2 => hq ⟨q, h1, h2⟩⟩
theorem least_uniq {p : Nat → Prop} {a b : Nat} (h1 : Least p a) (h2 : Least p b) : a = b := by
  rcases Nat.lt_trichotomy a b with h | h | h
  · exact absurd h1.1 (h2.2 a h)
  · exact h
  · exact absurd h2.1 (h1.2 b h)
noncomputable def dist1 (on : List (List Int)) (to k : Int) : Int := open Classical in if h : ∃ m, Least (fun m => WayN on m k to) m then (Classical.choose h : Nat) else -1
noncomputable def distL (on : List (List Int)) (to : Int) : List Int := (List.range on.length).map fun k : Nat => dist1 on to k
theorem dist1_eq {on : List (List Int)} {to k : Int} {m : Nat} (h : Least (fun m => WayN on m k to) m) : dist1 on to k = m := by
  have hex : ∃ m, Least (fun m => WayN on m k to) m := ⟨m, h⟩
  unfold dist1
  rw [dif_pos hex, least_uniq (Classical.choose_spec hex) h]
theorem dist1_none {on : List (List Int)} {to k : Int} (h : ∀ m, ¬ WayN on m k to) : dist1 on to k = -1 := by
  unfold dist1
  rw [dif_neg]
  rintro ⟨m, hm⟩
  exact h m hm.1
/-! ### Distances, step by step -/
def cntTo (far : List Int) : Nat → Nat
  | 0 => 0
  | k + 1 => cntTo far k + if 0 ≤ far.getD k (-1) then 1 else 0
def phiTo (N : Nat) (far : List Int) : Nat → Nat
  | 0 => 0
  | k + 1 => phiTo N far k + if 0 ≤ far.getD k (-1) then (far.getD k (-1)).toNat else N
theorem cntTo_le (far : List Int) : ∀ k, cntTo far k ≤ k
  | 0 => Nat.le_refl _
  | k + 1 => by have := cntTo_le far k; unfold cntTo; split <;> omega
theorem cntTo_set (far : List Int) (j : Nat) (v : Int) (hv : 0 ≤ v) (hj : j < far.length) : ∀ k, cntTo (far.set j v) k = cntTo far k + if j < k ∧ far.getD j (-1) < 0 then 1 else 0
  | 0 => by simp [cntTo]
  | k + 1 => by
    have ih := cntTo_set far j v hv hj k
    unfold cntTo
    rw [ih]
    by_cases e : k = j
    · subst e
      have e1 : (far.set k v).getD k (-1) = v := by rw [set_getD, if_pos ⟨rfl, hj⟩]
      rw [e1, if_pos hv, if_neg (show ¬ (k < k ∧ far.getD k (-1) < 0) by omega)]
      by_cases h : far.getD k (-1) < 0
      · rw [if_neg (show ¬ 0 ≤ far.getD k (-1) by omega), if_pos (show k < k + 1 ∧ far.getD k (-1) < 0 by omega)]
      · rw [if_pos (show 0 ≤ far.getD k (-1) by omega), if_neg (show ¬ (k < k + 1 ∧ far.getD k (-1) < 0) by omega)]
    · have e1 : (far.set j v).getD k (-1) = far.getD k (-1) := by rw [set_getD, if_neg fun h => e h.1]
      rw [e1]
      by_cases h : j < k ∧ far.getD j (-1) < 0
      · rw [if_pos h, if_pos (show j < k + 1 ∧ far.getD j (-1) < 0 by omega)]; omega
      · rw [if_neg h, if_neg (show ¬ (j < k + 1 ∧ far.getD j (-1) < 0) by omega)]; omega
theorem phiTo_set (N : Nat) (far : List Int) (j : Nat) (v : Int) (hv : 0 ≤ v) (hj : j < far.length) (hl : v < if 0 ≤ far.getD j (-1) then far.getD j (-1) else (N : Int)) : ∀ k, phiTo N (far.set j v) k + (if j < k then 1 else 0) ≤ phiTo N far k
  | 0 => by simp [phiTo]
  | k + 1 => by
    have ih := phiTo_set N far j v hv hj hl k
    unfold phiTo
    by_cases e : k = j
    · subst e
      have e1 : (far.set k v).getD k (-1) = v := by rw [set_getD, if_pos ⟨rfl, hj⟩]
      rw [e1, if_pos hv, if_pos (Nat.lt_succ_self _)]
      rw [if_neg (Nat.lt_irrefl _)] at ih
      by_cases h : 0 ≤ far.getD k (-1)
      · rw [if_pos h] at hl ⊢; omega
      · rw [if_neg h] at hl ⊢; omega
    · have e1 : (far.set j v).getD k (-1) = far.getD k (-1) := by rw [set_getD, if_neg fun h => e h.1]
      rw [e1]
      by_cases h : j < k
      · rw [if_pos h] at ih
        rw [if_pos (show j < k + 1 by omega)]; omega
      · rw [if_neg h] at ih
        rw [if_neg (show ¬ j < k + 1 by omega)]; omega
structure DI (on : List (List Int)) (to : Int) (far : List Int) : Prop where
  len : far.length = on.length
  zero : far.getD to.toNat (-1) = 0
  way : ∀ k : Nat, k < on.length → 0 ≤ far.getD k (-1) → WayN on (far.getD k (-1)).toNat k to
  low : ∀ k : Nat, -1 ≤ far.getD k (-1)
  cnt : ∀ k : Nat, far.getD k (-1) < cntTo far on.length
/-- An edge that has nothing to say. -/
def okE (far : List Int) (u v : Int) : Prop := 0 ≤ far.getD v.toNat (-1) → 0 ≤ far.getD u.toNat (-1) ∧ far.getD u.toNat (-1) ≤ far.getD v.toNat (-1) + 1
theorem di_zero {on : List (List Int)} {n to : Int} (h : (on.length : Int) = n) (ht : 0 ≤ to ∧ to < n) : DI on to ((List.replicate on.length (-1 : Int)).set to.toNat 0) := by
  have hl : to.toNat < (List.replicate on.length (-1 : Int)).length := by rw [List.length_replicate]; omega
  have hg : ∀ k, (List.replicate on.length (-1 : Int)).getD k (-1) = -1 := fun k => by
    rw [List.getD_eq_getElem?_getD, List.getElem?_replicate]; split <;> rfl
  have hs : ∀ k, ((List.replicate on.length (-1 : Int)).set to.toNat 0).getD k (-1) = if k = to.toNat then 0 else -1 := fun k => by
    rw [set_getD]
    by_cases e : k = to.toNat
    · rw [if_pos ⟨e, by rw [e]; exact hl⟩, if_pos e]
    · rw [if_neg fun h => e h.1, if_neg e, hg]
  have hc : 0 < cntTo ((List.replicate on.length (-1 : Int)).set to.toNat 0) on.length := by
    rw [cntTo_set _ _ _ (Int.le_refl _) hl, if_pos ⟨by omega, by rw [hg]; omega⟩]; omega
  refine ⟨by simp, by rw [hs, if_pos rfl], fun k hk h0 => ?_, fun k => ?_, fun k => ?_⟩
  · rw [hs] at h0 ⊢
    by_cases e : k = to.toNat
    · rw [if_pos e, e, Int.toNat_of_nonneg ht.1]; exact .nil _
    · rw [if_neg e] at h0; omega
  · rw [hs]; split <;> omega
  · rw [hs]; split <;> omega
theorem di_step {on : List (List Int)} {n to : Int} (hn : Rows2 on n) (ht : 0 ≤ to ∧ to < n) {far : List Int} (h : DI on to far) {i : Nat} {k : Int} (hi : i < on.length) (he : Edge on i k) (h0 : 0 ≤ far.getD k.toNat (-1)) (h1 : far.getD i (-1) < 0 ∨ far.getD k.toNat (-1) + 1 < far.getD i (-1)) :
    DI on to (far.set i (far.getD k.toNat (-1) + 1)) ∧ phiTo on.length (far.set i (far.getD k.toNat (-1) + 1)) on.length < phiTo on.length far on.length := by
  have hl : i < far.length := by rw [h.len]; exact hi
  have hk := hn.2 _ _ he
  have hs : ∀ q, (far.set i (far.getD k.toNat (-1) + 1)).getD q (-1) = if q = i then far.getD k.toNat (-1) + 1 else far.getD q (-1) := fun q => by
    rw [set_getD]
    by_cases e : q = i
    · rw [if_pos ⟨e, by rw [e]; exact hl⟩, if_pos e]
    · rw [if_neg fun h => e h.1, if_neg e]
  have hc := cntTo_set far i (far.getD k.toNat (-1) + 1) (by omega) hl on.length
  have hkc := h.cnt k.toNat
  have hcl := cntTo_le far on.length
  have hcl2 := cntTo_le (far.set i (far.getD k.toNat (-1) + 1)) on.length
  refine ⟨⟨by rw [List.length_set]; exact h.len, ?_, fun q hq h2 => ?_, fun q => ?_, fun q => ?_⟩, ?_⟩
  · rw [hs, if_neg]
    · exact h.zero
    · intro e
      have := h.zero
      rw [e] at this
      omega
  · rw [hs] at h2 ⊢
    by_cases e : q = i
    · rw [if_pos e]
      rw [e]
      have hw := h.way k.toNat (by have := hn.1; omega) h0
      rw [Int.toNat_of_nonneg hk.1] at hw
      have : (far.getD k.toNat (-1) + 1).toNat = (far.getD k.toNat (-1)).toNat + 1 := by omega
      rw [this]
      exact .cons _ _ _ _ he hw
    · rw [if_neg e] at h2 ⊢
      exact h.way q hq h2
  · rw [hs]
    have := h.low q
    split <;> omega
  · rw [hs, hc]
    have := h.cnt q
    by_cases e : q = i
    · rw [if_pos e]
      rcases h1 with h1 | h1
      · rw [if_pos ⟨hi, h1⟩]; omega
      · have := h.cnt i
        split <;> omega
    · rw [if_neg e]
      split <;> omega
  · have := phiTo_set on.length far i (far.getD k.toNat (-1) + 1) (by omega) hl (by
      have := h.cnt i
      by_cases hh : 0 ≤ far.getD i (-1)
      · rw [if_pos hh]; omega
      · rw [if_neg hh]
        rw [if_pos ⟨hi, by omega⟩] at hc
        omega) on.length
    rw [if_pos hi] at this
    omega
theorem di_end {on : List (List Int)} {n to : Int} (hn : Rows2 on n) (ht : 0 ≤ to ∧ to < n) {far : List Int} (h : DI on to far) (hok : ∀ u : Nat, u < on.length → ∀ v, Edge on u v → okE far u v) : far = distL on to := by
  have key : ∀ (m : Nat) (u v : Int), WayN on m u v → v = to → (0 ≤ u ∧ u < n) → 0 ≤ far.getD u.toNat (-1) ∧ far.getD u.toNat (-1) ≤ m := by
    intro m u v hw
    induction hw with
    | nil u => rintro rfl _; rw [h.zero]; omega
    | cons m u v w he _ ih =>
      intro hv hu
      have hvn := hn.2 u v he
      obtain ⟨i1, i2⟩ := ih hv hvn
      have := hok u.toNat (by have := hn.1; omega) v (by rw [Int.toNat_of_nonneg hu.1]; exact he) i1
      rw [Int.toNat_natCast] at this
      omega
  apply List.ext_getElem
  · rw [h.len]; simp [distL]
  · intro k h1 h2
    have hk : k < on.length := by rw [← h.len]; exact h1
    simp only [distL, List.getElem_map, List.getElem_range]
    have e : far[k] = far.getD k (-1) := by simp [List.getD_eq_getElem?_getD, h1]
    rw [e]
    have hkn : 0 ≤ (k : Int) ∧ (k : Int) < n := by have := hn.1; omega
    by_cases h0 : 0 ≤ far.getD k (-1)
    · have hw := h.way k hk h0
      have hl : Least (fun m => WayN on m k to) (far.getD k (-1)).toNat := ⟨hw, fun q hq hq2 => by
        have := (key q k to hq2 rfl hkn).2
        rw [Int.toNat_natCast] at this
        omega⟩
      rw [dist1_eq hl]; omega
    · have := h.low k
      rw [dist1_none fun m hm => by
        have := (key m k to hm rfl hkn).1
        rw [Int.toNat_natCast] at this
        exact h0 this]
      omega
/-- What the distances say. -/
theorem dist_get {on : List (List Int)} (to : Int) {k : Int} (h : 0 ≤ k ∧ k < on.length) : (distL on to).getD k.toNat (-1) = dist1 on to k := by
  have : k.toNat < on.length := by omega
  simp [distL, List.getD_eq_getElem?_getD, this, Int.toNat_of_nonneg h.1]
theorem dist_way {on : List (List Int)} {to k : Int} {m : Nat} (h : WayN on m k to) : ∃ d : Nat, dist1 on to k = d ∧ WayN on d k to ∧ d ≤ m := by
  obtain ⟨q, hq⟩ := least_ex (p := fun m => WayN on m k to) h
  refine ⟨q, dist1_eq hq, hq.1, ?_⟩
  apply Classical.byContradiction
  intro hn
  exact hq.2 m (by omega) h
theorem dist_low {on : List (List Int)} (to k : Int) : dist1 on to k = -1 ∨ ∃ d : Nat, dist1 on to k = d ∧ WayN on d k to := by
  by_cases h : ∃ m, WayN on m k to
  · obtain ⟨m, hm⟩ := h
    obtain ⟨d, h1, h2, _⟩ := dist_way hm
    exact .inr ⟨d, h1, h2⟩
  · exact .inl (dist1_none fun m hm => h ⟨m, hm⟩)
/-! ### The next one on the shortest way -/
def bestS (far : List Int) (b k : Int) : Int := if 0 ≤ far.getD k.toNat (-1) ∧ (b < 0 ∨ far.getD k.toNat (-1) < far.getD b.toNat (-1)) then k else b
def bestOf (far : List Int) (row : List Int) : Int := row.foldl (bestS far) (-1)
theorem bestOf_snoc (far row : List Int) (k : Int) : bestOf far (row ++ [k]) = bestS far (bestOf far row) k := by simp [bestOf]
theorem bestOf_spec (far : List Int) : ∀ row : List Int, (∀ k ∈ row, 0 ≤ k) → (bestOf far row = -1 ∧ ∀ k ∈ row, far.getD k.toNat (-1) < 0) ∨ (bestOf far row ∈ row ∧ 0 ≤ far.getD (bestOf far row).toNat (-1) ∧ ∀ k ∈ row, 0 ≤ far.getD k.toNat (-1) → far.getD (bestOf far row).toNat (-1) ≤ far.getD k.toNat (-1)) := by
  refine snoc_ind (fun _ => .inl ⟨rfl, fun k hk => nomatch hk⟩) fun row k ih hp => ?_
  have ih := ih fun q hq => hp q (List.mem_append.2 (.inl hq))
  have hk := hp k (List.mem_append.2 (.inr (List.mem_singleton.2 rfl)))
  rw [bestOf_snoc]
  unfold bestS
  by_cases hc : 0 ≤ far.getD k.toNat (-1) ∧ (bestOf far row < 0 ∨ far.getD k.toNat (-1) < far.getD (bestOf far row).toNat (-1))
  · rw [if_pos hc]
    refine .inr ⟨List.mem_append.2 (.inr (List.mem_singleton.2 rfl)), hc.1, fun q hq h0 => ?_⟩
    rcases List.mem_append.1 hq with hq | hq
    · rcases ih with ⟨h1, h2⟩ | ⟨h1, h2, h3⟩
      · have := h2 q hq; omega
      · have := h3 q hq h0
        have := hp _ (List.mem_append.2 (.inl h1))
        omega
    · rw [List.mem_singleton.1 hq]; omega
  · rw [if_neg hc]
    rcases ih with ⟨h1, h2⟩ | ⟨h1, h2, h3⟩
    · refine .inl ⟨h1, fun q hq => ?_⟩
      rcases List.mem_append.1 hq with hq | hq
      · exact h2 q hq
      · rw [List.mem_singleton.1 hq]
        rw [h1] at hc
        omega
    · refine .inr ⟨List.mem_append.2 (.inl h1), h2, fun q hq h0 => ?_⟩
      rcases List.mem_append.1 hq with hq | hq
      · exact h3 q hq h0
      · rw [List.mem_singleton.1 hq] at h0 ⊢
        omega
end EB
end
