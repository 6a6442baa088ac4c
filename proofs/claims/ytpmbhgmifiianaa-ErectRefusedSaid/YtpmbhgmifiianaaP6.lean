/-
  Part 6: a symbolic executor over the model, contracts of functions and plain laws.
-/
import Derived.Test.YtpmbhgmifiianaaP5
section
set_option linter.unusedVariables false
open Go Go.Proofs Go.Eng Go.Shelf
set_option linter.unusedVariables false
namespace EB
set_option maxRecDepth 10000
/-! ### The reference's Ready -/
theorem in_take {n : Int} {st : List Int} {i : Nat} (h : (st.take i).any (outB n) = false) : InN n (st.take i) := by
  intro m hm
  rw [List.any_eq_false] at h
  have := h m hm
  unfold outB at this
  rw [decide_eq_true_iff] at this
  omega
theorem putL_all {n : Int} (hn : 0 ≤ n) {ms : List Int} (h : InN n ms) : WOk (putL (words n) ms) ∧ ((putL (words n) ms).length : Int) = (n + 63) / 64 :=
  ⟨(putL_ok hn ms (words n) (words_ok n) (words_len n hn) h).1, by rw [putL_len]; exact words_len n hn⟩
theorem b34 (n : Int) (l : List (Int × Int)) (st : List Int) : body Try.prog [c62, c63] { asks := [(0, []), (2, [2])] } true Try.f34 [I n, Ps l, Ls st] (.tup [Ls (readyRes n l st), I (readyErr n l st)]) := by
  (repeat' ((conv => whnf); first | (refine Giv.mk fun _ => ?_) | (refine Alt.l (Need.mk ?h ?_); case h => omega) | (refine Alt.r (Need.mk ?h ?_); case h => omega) | (refine Need.mk ?h ?_; case h => first | omega | (intro _; rfl) | assumption | (simp <;> omega)) | refine Ix.zero ?_ | refine Ix.one ?_ | refine Ix.two ?_ | refine Ix.nat ?_ | refine Ix.add ?_ | (apply Go.Eng.Pin.mk; apply Exists.intro) | apply Go.Eng.Pinned.mk rfl rfl | (apply Go.Eng.PinH.mk; apply Exists.intro; apply Exists.intro) | exact Go.Eng.Fin0.mk | refine Go.Eng.Chk.mk ?_ ?_ | refine Own.l ?_ | fail))
  (refine Br.mk (fun _ => ?_) (fun _ => ?_))
  · rename_i h
    (repeat' ((conv => whnf); first | (refine Giv.mk fun _ => ?_) | (refine Alt.l (Need.mk ?h ?_); case h => omega) | (refine Alt.r (Need.mk ?h ?_); case h => omega) | (refine Need.mk ?h ?_; case h => first | omega | (intro _; rfl) | assumption | (simp <;> omega)) | refine Ix.zero ?_ | refine Ix.one ?_ | refine Ix.two ?_ | refine Ix.nat ?_ | refine Ix.add ?_ | (apply Go.Eng.Pin.mk; apply Exists.intro) | apply Go.Eng.Pinned.mk rfl rfl | (apply Go.Eng.PinH.mk; apply Exists.intro; apply Exists.intro) | exact Go.Eng.Fin0.mk | refine Go.Eng.Chk.mk ?_ ?_ | refine Own.l ?_ | fail))
    (conv => whnf)
    refine ⟨?_, ?_, trivial⟩
    · (conv => whnf)
      unfold readyRes; rw [if_neg fun e => h e.1]
    · exact ⟨rfl, by unfold readyErr; rw [if_pos h]⟩
  · rename_i h
    have h : supE n l = 0 := Classical.not_not.1 h
    have hro := supE_rests h
    obtain ⟨r1, r2, r3, r4⟩ := id hro
    (repeat' ((conv => whnf); first | (refine Giv.mk fun _ => ?_) | (refine Alt.l (Need.mk ?h ?_); case h => omega) | (refine Alt.r (Need.mk ?h ?_); case h => omega) | (refine Need.mk ?h ?_; case h => first | omega | (intro _; rfl) | assumption | (simp <;> omega)) | refine Ix.zero ?_ | refine Ix.one ?_ | refine Ix.two ?_ | refine Ix.nat ?_ | refine Ix.add ?_ | (apply Go.Eng.Pin.mk; apply Exists.intro) | apply Go.Eng.Pinned.mk rfl rfl | (apply Go.Eng.PinH.mk; apply Exists.intro; apply Exists.intro) | exact Go.Eng.Fin0.mk | refine Go.Eng.Chk.mk ?_ ?_ | refine Own.l ?_ | fail))
    refine Need.mk (show 0 ≤ n ∧ n ≤ n ∧ n ≤ 140737488355328 ∧ n * ((1 : Nat) : Int) ≤ 140737488355328 by omega) ?_
    (repeat' ((conv => whnf); first | (refine Giv.mk fun _ => ?_) | (refine Alt.l (Need.mk ?h ?_); case h => omega) | (refine Alt.r (Need.mk ?h ?_); case h => omega) | (refine Need.mk ?h ?_; case h => first | omega | (intro _; rfl) | assumption | (simp <;> omega)) | refine Ix.zero ?_ | refine Ix.one ?_ | refine Ix.two ?_ | refine Ix.nat ?_ | refine Ix.add ?_ | (apply Go.Eng.Pin.mk; apply Exists.intro) | apply Go.Eng.Pinned.mk rfl rfl | (apply Go.Eng.PinH.mk; apply Exists.intro; apply Exists.intro) | exact Go.Eng.Fin0.mk | refine Go.Eng.Chk.mk ?_ ?_ | refine Own.l ?_ | fail))
    refine Ask.mk ⟨{ X := Nat, pre := fun i => i ≤ st.length ∧ (st.take i).any (outB n) = false, mod := fun i _ => [(9, I i)], heap := fun i _ => [.vec 1 (.int .i64) [] 3, .vec 1 .bool (bitsL n (putL (words n) (st.take i))) 4], mu := fun i => st.length - i }, rfl, ?_⟩
    (repeat' ((conv => whnf); first | (refine Giv.mk fun _ => ?_) | (refine Alt.l (Need.mk ?h ?_); case h => omega) | (refine Alt.r (Need.mk ?h ?_); case h => omega) | (refine Need.mk ?h ?_; case h => first | omega | (intro _; rfl) | assumption | (simp <;> omega)) | refine Ix.zero ?_ | refine Ix.one ?_ | refine Ix.two ?_ | refine Ix.nat ?_ | refine Ix.add ?_ | (apply Go.Eng.Pin.mk; apply Exists.intro) | apply Go.Eng.Pinned.mk rfl rfl | (apply Go.Eng.PinH.mk; apply Exists.intro; apply Exists.intro) | exact Go.Eng.Fin0.mk | refine Go.Eng.Chk.mk ?_ ?_ | refine Own.l ?_ | fail))
    refine ⟨⟨(0 : Nat), ⟨Nat.zero_le _, by simp⟩, ?_⟩, fun (i : Nat) hi => ?_⟩
    · (repeat' (first | exact trivial | rfl | exact Nat.one_pos | (refine And.intro ?_ ?_) | omega | ((conv => whnf); (refine And.intro ?_ ?_)) | ((conv => whnf); exact trivial)))
      exact (bitsL_nil n).symm
    · obtain ⟨hi, hb⟩ := hi
      obtain ⟨w1, w2⟩ := putL_all r2 (in_take hb)
      have hbl := bitsL_len n (putL (words n) (st.take i))
      (repeat' ((conv => whnf); first | (refine Giv.mk fun _ => ?_) | (refine Alt.l (Need.mk ?h ?_); case h => omega) | (refine Alt.r (Need.mk ?h ?_); case h => omega) | (refine Need.mk ?h ?_; case h => first | omega | (intro _; rfl) | assumption | (simp <;> omega)) | refine Ix.zero ?_ | refine Ix.one ?_ | refine Ix.two ?_ | refine Ix.nat ?_ | refine Ix.add ?_ | (apply Go.Eng.Pin.mk; apply Exists.intro) | apply Go.Eng.Pinned.mk rfl rfl | (apply Go.Eng.PinH.mk; apply Exists.intro; apply Exists.intro) | exact Go.Eng.Fin0.mk | refine Go.Eng.Chk.mk ?_ ?_ | refine Own.l ?_ | fail))
      (refine Br.mk (fun _ => ?_) (fun _ => ?_))
      · have hlt : i < st.length := by omega
        have hps := putL_succ (words n) st i hlt
        have hat := any_take_succ (outB n) st 0 i hlt
        have bad : outB n (st.getD i 0) = true → [] = readyRes n l st ∧ 2 = readyErr n l st := fun hx => by
          have ha : st.any (outB n) = true := any_getD (outB n) st 0 i hlt hx
          refine ⟨by unfold readyRes; rw [if_neg (by rw [ha]; simp)], by unfold readyErr; rw [if_neg (by omega), if_pos ha]⟩
        (repeat' ((conv => whnf); first | (refine Giv.mk fun _ => ?_) | (refine Alt.l (Need.mk ?h ?_); case h => omega) | (refine Alt.r (Need.mk ?h ?_); case h => omega) | (refine Need.mk ?h ?_; case h => first | omega | (intro _; rfl) | assumption | (simp <;> omega)) | refine Ix.zero ?_ | refine Ix.one ?_ | refine Ix.two ?_ | refine Ix.nat ?_ | refine Ix.add ?_ | (apply Go.Eng.Pin.mk; apply Exists.intro) | apply Go.Eng.Pinned.mk rfl rfl | (apply Go.Eng.PinH.mk; apply Exists.intro; apply Exists.intro) | exact Go.Eng.Fin0.mk | refine Go.Eng.Chk.mk ?_ ?_ | refine Own.l ?_ | (refine Br.mkY ?h ?_; case h => first | omega | assumption) | (refine Br.mkN ?h ?_; case h => first | omega | assumption | exact not_not_intro (by assumption)) | (refine Br.mk (fun _ => ?_) (fun _ => ?_)) | fail))
        · have hx : outB n (st.getD i 0) = true := decide_eq_true (.inl ‹_›)
          (conv => whnf)
          refine ⟨?_, ⟨rfl, (bad hx).2⟩, trivial⟩
          · (conv => whnf)
            exact (bad hx).1
        · have hx : outB n (st.getD i 0) = true := decide_eq_true (.inr ‹_›)
          (conv => whnf)
          refine ⟨?_, ⟨rfl, (bad hx).2⟩, trivial⟩
          · (conv => whnf)
            exact (bad hx).1
        · have hx : outB n (st.getD i 0) = false := decide_eq_false (by omega)
          have hset := bitsL_put w1 w2 (m := st.getD i 0) (by omega)
          rw [← hps] at hset
          refine ix_at (st.getD i 0).toNat (by omega) ?_
          (repeat' ((conv => whnf); first | (refine Giv.mk fun _ => ?_) | (refine Alt.l (Need.mk ?h ?_); case h => omega) | (refine Alt.r (Need.mk ?h ?_); case h => omega) | (refine Need.mk ?h ?_; case h => first | omega | (intro _; rfl) | assumption | (simp <;> omega)) | refine Ix.zero ?_ | refine Ix.one ?_ | refine Ix.two ?_ | refine Ix.nat ?_ | refine Ix.add ?_ | (apply Go.Eng.Pin.mk; apply Exists.intro) | apply Go.Eng.Pinned.mk rfl rfl | (apply Go.Eng.PinH.mk; apply Exists.intro; apply Exists.intro) | exact Go.Eng.Fin0.mk | refine Go.Eng.Chk.mk ?_ ?_ | refine Own.l ?_ | (refine Br.mkY ?h ?_; case h => first | omega | assumption) | (refine Br.mkN ?h ?_; case h => first | omega | assumption | exact not_not_intro (by assumption)) | fail))
          refine ⟨(i + 1 : Nat), by show st.length - (i + 1) < st.length - i; omega, ⟨hlt, by rw [hat, hb, hx]; rfl⟩, ?_⟩
          (repeat' (first | exact trivial | rfl | exact Nat.one_pos | (refine And.intro ?_ ?_) | omega | ((conv => whnf); (refine And.intro ?_ ?_)) | ((conv => whnf); exact trivial)))
          exact hset
      · have hii : i = st.length := by omega
        have htk : st.take i = st := by rw [hii, List.take_length]
        rw [htk] at hb w1 w2 hbl
        (repeat' ((conv => whnf); first | (refine Giv.mk fun _ => ?_) | (refine Alt.l (Need.mk ?h ?_); case h => omega) | (refine Alt.r (Need.mk ?h ?_); case h => omega) | (refine Need.mk ?h ?_; case h => first | omega | (intro _; rfl) | assumption | (simp <;> omega)) | refine Ix.zero ?_ | refine Ix.one ?_ | refine Ix.two ?_ | refine Ix.nat ?_ | refine Ix.add ?_ | (apply Go.Eng.Pin.mk; apply Exists.intro) | apply Go.Eng.Pinned.mk rfl rfl | (apply Go.Eng.PinH.mk; apply Exists.intro; apply Exists.intro) | exact Go.Eng.Fin0.mk | refine Go.Eng.Chk.mk ?_ ?_ | refine Own.l ?_ | (refine Br.mkY ?h ?_; case h => first | omega | assumption) | (refine Br.mkN ?h ?_; case h => first | omega | assumption | exact not_not_intro (by assumption)) | fail))
        refine Ask.mk ⟨{ X := Nat, pre := fun i => i ≤ n.toNat, mod := fun i _ => [(10, .ref 2 1), (11, I i)], objs := [2], heap := fun i _ => [.vec 1 (.int .i64) [] 3, .vec 1 .bool (bitsL n (putL (words n) st)) 4, .vec 1 (.int .i64) (readyTo (onL n l) (putL (words n) st) i) 3], mu := fun i => n.toNat - i }, rfl, ?_⟩
        (repeat' ((conv => whnf); first | (refine Giv.mk fun _ => ?_) | (refine Alt.l (Need.mk ?h ?_); case h => omega) | (refine Alt.r (Need.mk ?h ?_); case h => omega) | (refine Need.mk ?h ?_; case h => first | omega | (intro _; rfl) | assumption | (simp <;> omega)) | refine Ix.zero ?_ | refine Ix.one ?_ | refine Ix.two ?_ | refine Ix.nat ?_ | refine Ix.add ?_ | (apply Go.Eng.Pin.mk; apply Exists.intro) | apply Go.Eng.Pinned.mk rfl rfl | (apply Go.Eng.PinH.mk; apply Exists.intro; apply Exists.intro) | exact Go.Eng.Fin0.mk | refine Go.Eng.Chk.mk ?_ ?_ | refine Own.l ?_ | fail))
        refine ⟨⟨(0 : Nat), Nat.zero_le _, ?_⟩, fun (i : Nat) (hi : i ≤ n.toNat) => ?_⟩
        · (repeat' (first | exact trivial | rfl | exact Nat.one_pos | (refine And.intro ?_ ?_) | omega | ((conv => whnf); (refine And.intro ?_ ?_)) | ((conv => whnf); exact trivial)))
          exact congrArg (fun t => bitsL n (putL (words n) t)) htk
        · have hrs := readyTo_succ (onL n l) (putL (words n) st) i
          have hrl := readyTo_len (onL n l) (putL (words n) st) i
          have hpre : ∀ q, q < l.length → (l.getD q (0, 0)).2 < (bitsL n (putL (words n) st)).length := fun q hq => by
            have := r4 q hq
            omega
          (repeat' ((conv => whnf); first | (refine Giv.mk fun _ => ?_) | (refine Alt.l (Need.mk ?h ?_); case h => omega) | (refine Alt.r (Need.mk ?h ?_); case h => omega) | (refine Need.mk ?h ?_; case h => first | omega | (intro _; rfl) | assumption | (simp <;> omega)) | refine Ix.zero ?_ | refine Ix.one ?_ | refine Ix.two ?_ | refine Ix.nat ?_ | refine Ix.add ?_ | (apply Go.Eng.Pin.mk; apply Exists.intro) | apply Go.Eng.Pinned.mk rfl rfl | (apply Go.Eng.PinH.mk; apply Exists.intro; apply Exists.intro) | exact Go.Eng.Fin0.mk | refine Go.Eng.Chk.mk ?_ ?_ | refine Own.l ?_ | fail))
          (refine Br.mk (fun _ => ?_) (fun _ => ?_))
          · have hri := ready_iff hro (putL (words n) st) (m := i) (by omega)
            have hgt := bitsL_get n (putL (words n) st) i (by omega)
            (repeat' ((conv => whnf); first | (refine Giv.mk fun _ => ?_) | (refine Alt.l (Need.mk ?h ?_); case h => omega) | (refine Alt.r (Need.mk ?h ?_); case h => omega) | (refine Need.mk ?h ?_; case h => first | omega | (intro _; rfl) | assumption | (simp <;> omega)) | refine Ix.zero ?_ | refine Ix.one ?_ | refine Ix.two ?_ | refine Ix.nat ?_ | refine Ix.add ?_ | (apply Go.Eng.Pin.mk; apply Exists.intro) | apply Go.Eng.Pinned.mk rfl rfl | (apply Go.Eng.PinH.mk; apply Exists.intro; apply Exists.intro) | exact Go.Eng.Fin0.mk | refine Go.Eng.Chk.mk ?_ ?_ | refine Own.l ?_ | (refine Br.mkY ?h ?_; case h => first | omega | assumption) | (refine Br.mkN ?h ?_; case h => first | omega | assumption | exact not_not_intro (by assumption)) | fail))
            (refine Br.mk (fun _ => ?_) (fun _ => ?_))
            · rename_i b1
              rw [hgt, decide_eq_true_iff] at b1
              (repeat' ((conv => whnf); first | (refine Giv.mk fun _ => ?_) | (refine Alt.l (Need.mk ?h ?_); case h => omega) | (refine Alt.r (Need.mk ?h ?_); case h => omega) | (refine Need.mk ?h ?_; case h => first | omega | (intro _; rfl) | assumption | (simp <;> omega)) | refine Ix.zero ?_ | refine Ix.one ?_ | refine Ix.two ?_ | refine Ix.nat ?_ | refine Ix.add ?_ | (apply Go.Eng.Pin.mk; apply Exists.intro) | apply Go.Eng.Pinned.mk rfl rfl | (apply Go.Eng.PinH.mk; apply Exists.intro; apply Exists.intro) | exact Go.Eng.Fin0.mk | refine Go.Eng.Chk.mk ?_ ?_ | refine Own.l ?_ | fail))
              (refine Br.mk (fun _ => ?_) (fun _ => ?_))
              · rename_i b2
                rw [if_pos (hri.2 ⟨b1, b2⟩)] at hrs
                (repeat' ((conv => whnf); first | (refine Giv.mk fun _ => ?_) | (refine Alt.l (Need.mk ?h ?_); case h => omega) | (refine Alt.r (Need.mk ?h ?_); case h => omega) | (refine Need.mk ?h ?_; case h => first | omega | (intro _; rfl) | assumption | (simp <;> omega)) | refine Ix.zero ?_ | refine Ix.one ?_ | refine Ix.two ?_ | refine Ix.nat ?_ | refine Ix.add ?_ | (apply Go.Eng.Pin.mk; apply Exists.intro) | apply Go.Eng.Pinned.mk rfl rfl | (apply Go.Eng.PinH.mk; apply Exists.intro; apply Exists.intro) | exact Go.Eng.Fin0.mk | refine Go.Eng.Chk.mk ?_ ?_ | refine Own.l ?_ | fail))
                refine ⟨(i + 1 : Nat), by show n.toNat - (i + 1) < n.toNat - i; omega, by show i + 1 ≤ n.toNat; omega, ?_⟩
                (repeat' (first | exact trivial | rfl | exact Nat.one_pos | (refine And.intro ?_ ?_) | omega | ((conv => whnf); (refine And.intro ?_ ?_)) | ((conv => whnf); exact trivial)))
                exact hrs.symm
              · rename_i b2
                rw [if_neg (fun e => b2 (hri.1 e).2)] at hrs
                (repeat' ((conv => whnf); first | (refine Giv.mk fun _ => ?_) | (refine Alt.l (Need.mk ?h ?_); case h => omega) | (refine Alt.r (Need.mk ?h ?_); case h => omega) | (refine Need.mk ?h ?_; case h => first | omega | (intro _; rfl) | assumption | (simp <;> omega)) | refine Ix.zero ?_ | refine Ix.one ?_ | refine Ix.two ?_ | refine Ix.nat ?_ | refine Ix.add ?_ | (apply Go.Eng.Pin.mk; apply Exists.intro) | apply Go.Eng.Pinned.mk rfl rfl | (apply Go.Eng.PinH.mk; apply Exists.intro; apply Exists.intro) | exact Go.Eng.Fin0.mk | refine Go.Eng.Chk.mk ?_ ?_ | refine Own.l ?_ | fail))
                refine ⟨(i + 1 : Nat), by show n.toNat - (i + 1) < n.toNat - i; omega, by show i + 1 ≤ n.toNat; omega, ?_⟩
                (repeat' (first | exact trivial | rfl | exact Nat.one_pos | (refine And.intro ?_ ?_) | omega | ((conv => whnf); (refine And.intro ?_ ?_)) | ((conv => whnf); exact trivial)))
                exact hrs.symm
            · rename_i b1
              rw [hgt, decide_eq_true_iff] at b1
              rw [if_neg (fun e => b1 (hri.1 e).1)] at hrs
              (repeat' ((conv => whnf); first | (refine Giv.mk fun _ => ?_) | (refine Alt.l (Need.mk ?h ?_); case h => omega) | (refine Alt.r (Need.mk ?h ?_); case h => omega) | (refine Need.mk ?h ?_; case h => first | omega | (intro _; rfl) | assumption | (simp <;> omega)) | refine Ix.zero ?_ | refine Ix.one ?_ | refine Ix.two ?_ | refine Ix.nat ?_ | refine Ix.add ?_ | (apply Go.Eng.Pin.mk; apply Exists.intro) | apply Go.Eng.Pinned.mk rfl rfl | (apply Go.Eng.PinH.mk; apply Exists.intro; apply Exists.intro) | exact Go.Eng.Fin0.mk | refine Go.Eng.Chk.mk ?_ ?_ | refine Own.l ?_ | fail))
              refine ⟨(i + 1 : Nat), by show n.toNat - (i + 1) < n.toNat - i; omega, by show i + 1 ≤ n.toNat; omega, ?_⟩
              (repeat' (first | exact trivial | rfl | exact Nat.one_pos | (refine And.intro ?_ ?_) | omega | ((conv => whnf); (refine And.intro ?_ ?_)) | ((conv => whnf); exact trivial)))
              exact hrs.symm
          · have hii : i = n.toNat := by omega
            subst hii
            (repeat' ((conv => whnf); first | (refine Giv.mk fun _ => ?_) | (refine Alt.l (Need.mk ?h ?_); case h => omega) | (refine Alt.r (Need.mk ?h ?_); case h => omega) | (refine Need.mk ?h ?_; case h => first | omega | (intro _; rfl) | assumption | (simp <;> omega)) | refine Ix.zero ?_ | refine Ix.one ?_ | refine Ix.two ?_ | refine Ix.nat ?_ | refine Ix.add ?_ | (apply Go.Eng.Pin.mk; apply Exists.intro) | apply Go.Eng.Pinned.mk rfl rfl | (apply Go.Eng.PinH.mk; apply Exists.intro; apply Exists.intro) | exact Go.Eng.Fin0.mk | refine Go.Eng.Chk.mk ?_ ?_ | refine Own.l ?_ | (refine Br.mkY ?h ?_; case h => first | omega | assumption) | (refine Br.mkN ?h ?_; case h => first | omega | assumption | exact not_not_intro (by assumption)) | fail))
            (conv => whnf)
            refine ⟨?_, ⟨rfl, ?_⟩, trivial⟩
            · (conv => whnf)
              unfold readyRes; rw [if_pos ⟨h, hb⟩]
            · unfold readyErr; rw [if_neg (fun e => e h), if_neg (by rw [hb]; simp)]
def c34 : Con := mkCon 34 true fun args K => match args with | [.val (.int .i64 n), .seq (.pair (.int .i64) (.int .i64)) l, .seq (.int .i64) st] => K (.tup [Ls (readyRes n l st), I (readyErr n l st)]) | _ => False
theorem k34 : ConOK Try.prog c34 := by
  refine conOK_of rfl (enters_of Try.func34 (by kernel_rfl) rfl) ?_
  intro args K h
  simp only [c34] at h
  split at h
  · rename_i n l st; exact ⟨_, h, tri_of_body (Γ := [c62, c63]) (by simp [k62, k63]) Try.func34 (by simp [Try.ntmps34]) rfl (b34 n l st)⟩
  · exact h.elim
/-! ### The reference's Order -/
theorem b33 (n : Int) (l : List (Int × Int)) : body Try.prog [c62, c63] { asks := [(0, [2]), (2, [])] } true Try.f33 [I n, Ps l] (.tup [Ps (orderRes n l), I (orderErr n l)]) := by
  (repeat' ((conv => whnf); first | (refine Giv.mk fun _ => ?_) | (refine Alt.l (Need.mk ?h ?_); case h => omega) | (refine Alt.r (Need.mk ?h ?_); case h => omega) | (refine Need.mk ?h ?_; case h => first | omega | (intro _; rfl) | assumption | (simp <;> omega)) | refine Ix.zero ?_ | refine Ix.one ?_ | refine Ix.two ?_ | refine Ix.nat ?_ | refine Ix.add ?_ | (apply Go.Eng.Pin.mk; apply Exists.intro) | apply Go.Eng.Pinned.mk rfl rfl | (apply Go.Eng.PinH.mk; apply Exists.intro; apply Exists.intro) | exact Go.Eng.Fin0.mk | refine Go.Eng.Chk.mk ?_ ?_ | refine Own.l ?_ | fail))
  (refine Br.mk (fun _ => ?_) (fun _ => ?_))
  · rename_i h
    (repeat' ((conv => whnf); first | (refine Giv.mk fun _ => ?_) | (refine Alt.l (Need.mk ?h ?_); case h => omega) | (refine Alt.r (Need.mk ?h ?_); case h => omega) | (refine Need.mk ?h ?_; case h => first | omega | (intro _; rfl) | assumption | (simp <;> omega)) | refine Ix.zero ?_ | refine Ix.one ?_ | refine Ix.two ?_ | refine Ix.nat ?_ | refine Ix.add ?_ | (apply Go.Eng.Pin.mk; apply Exists.intro) | apply Go.Eng.Pinned.mk rfl rfl | (apply Go.Eng.PinH.mk; apply Exists.intro; apply Exists.intro) | exact Go.Eng.Fin0.mk | refine Go.Eng.Chk.mk ?_ ?_ | refine Own.l ?_ | fail))
    (conv => whnf)
    refine ⟨?_, ?_, trivial⟩
    · (conv => whnf)
      exact ((orderRes_bad h).1).symm
    · exact ⟨rfl, by unfold orderErr; rw [if_pos h]⟩
  · rename_i h
    have h : supE n l = 0 := Classical.not_not.1 h
    have hro := supE_rests h
    obtain ⟨r1, r2, r3, r4⟩ := id hro
    (repeat' ((conv => whnf); first | (refine Giv.mk fun _ => ?_) | (refine Alt.l (Need.mk ?h ?_); case h => omega) | (refine Alt.r (Need.mk ?h ?_); case h => omega) | (refine Need.mk ?h ?_; case h => first | omega | (intro _; rfl) | assumption | (simp <;> omega)) | refine Ix.zero ?_ | refine Ix.one ?_ | refine Ix.two ?_ | refine Ix.nat ?_ | refine Ix.add ?_ | (apply Go.Eng.Pin.mk; apply Exists.intro) | apply Go.Eng.Pinned.mk rfl rfl | (apply Go.Eng.PinH.mk; apply Exists.intro; apply Exists.intro) | exact Go.Eng.Fin0.mk | refine Go.Eng.Chk.mk ?_ ?_ | refine Own.l ?_ | fail))
    refine Need.mk (show 0 ≤ n ∧ n ≤ n ∧ n ≤ 140737488355328 ∧ n * ((1 : Nat) : Int) ≤ 140737488355328 by omega) ?_
    (repeat' ((conv => whnf); first | (refine Giv.mk fun _ => ?_) | (refine Alt.l (Need.mk ?h ?_); case h => omega) | (refine Alt.r (Need.mk ?h ?_); case h => omega) | (refine Need.mk ?h ?_; case h => first | omega | (intro _; rfl) | assumption | (simp <;> omega)) | refine Ix.zero ?_ | refine Ix.one ?_ | refine Ix.two ?_ | refine Ix.nat ?_ | refine Ix.add ?_ | (apply Go.Eng.Pin.mk; apply Exists.intro) | apply Go.Eng.Pinned.mk rfl rfl | (apply Go.Eng.PinH.mk; apply Exists.intro; apply Exists.intro) | exact Go.Eng.Fin0.mk | refine Go.Eng.Chk.mk ?_ ?_ | refine Own.l ?_ | fail))
    refine Ask.mk ⟨{ X := Nat, pre := fun k => k ≤ n.toNat ∧ (msAt (onL n l) n k).length = k, mod := fun k _ => [(7, .ref 2 1), (8, I k)], objs := [2], heap := fun k _ => [.vec 1 Two [] 29, .vec 1 .bool (bitsL n (putL (words n) (msAt (onL n l) n k))) 4, .vec 1 Two (stepsOf (restL n l) (msAt (onL n l) n k)) 29], mu := fun k => n.toNat - k }, rfl, ?_⟩
    (repeat' ((conv => whnf); first | (refine Giv.mk fun _ => ?_) | (refine Alt.l (Need.mk ?h ?_); case h => omega) | (refine Alt.r (Need.mk ?h ?_); case h => omega) | (refine Need.mk ?h ?_; case h => first | omega | (intro _; rfl) | assumption | (simp <;> omega)) | refine Ix.zero ?_ | refine Ix.one ?_ | refine Ix.two ?_ | refine Ix.nat ?_ | refine Ix.add ?_ | (apply Go.Eng.Pin.mk; apply Exists.intro) | apply Go.Eng.Pinned.mk rfl rfl | (apply Go.Eng.PinH.mk; apply Exists.intro; apply Exists.intro) | exact Go.Eng.Fin0.mk | refine Go.Eng.Chk.mk ?_ ?_ | refine Own.l ?_ | fail))
    refine ⟨⟨(0 : Nat), ⟨Nat.zero_le _, rfl⟩, ?_⟩, fun (k : Nat) hk => ?_⟩
    · (repeat' (first | exact trivial | rfl | exact Nat.one_pos | (refine And.intro ?_ ?_) | omega | ((conv => whnf); (refine And.intro ?_ ?_)) | ((conv => whnf); exact trivial)))
      exact (bitsL_nil n).symm
    · obtain ⟨hk, hlen⟩ := hk
      have hin := msAt_in (onL n l) n k
      obtain ⟨w1, w2⟩ := putL_all r2 hin
      have hbl := bitsL_len n (putL (words n) (msAt (onL n l) n k))
      have hpre : ∀ q, q < l.length → (l.getD q (0, 0)).2 < (bitsL n (putL (words n) (msAt (onL n l) n k))).length := fun q hq => by
        have := r4 q hq
        omega
      have hsl := stepsOf_len (restL n l) (msAt (onL n l) n k)
      (repeat' ((conv => whnf); first | (refine Giv.mk fun _ => ?_) | (refine Alt.l (Need.mk ?h ?_); case h => omega) | (refine Alt.r (Need.mk ?h ?_); case h => omega) | (refine Need.mk ?h ?_; case h => first | omega | (intro _; rfl) | assumption | (simp <;> omega)) | refine Ix.zero ?_ | refine Ix.one ?_ | refine Ix.two ?_ | refine Ix.nat ?_ | refine Ix.add ?_ | (apply Go.Eng.Pin.mk; apply Exists.intro) | apply Go.Eng.Pinned.mk rfl rfl | (apply Go.Eng.PinH.mk; apply Exists.intro; apply Exists.intro) | exact Go.Eng.Fin0.mk | refine Go.Eng.Chk.mk ?_ ?_ | refine Own.l ?_ | fail))
      (refine Br.mk (fun _ => ?_) (fun _ => ?_))
      · (repeat' ((conv => whnf); first | (refine Giv.mk fun _ => ?_) | (refine Alt.l (Need.mk ?h ?_); case h => omega) | (refine Alt.r (Need.mk ?h ?_); case h => omega) | (refine Need.mk ?h ?_; case h => first | omega | (intro _; rfl) | assumption | (simp <;> omega)) | refine Ix.zero ?_ | refine Ix.one ?_ | refine Ix.two ?_ | refine Ix.nat ?_ | refine Ix.add ?_ | (apply Go.Eng.Pin.mk; apply Exists.intro) | apply Go.Eng.Pinned.mk rfl rfl | (apply Go.Eng.PinH.mk; apply Exists.intro; apply Exists.intro) | exact Go.Eng.Fin0.mk | refine Go.Eng.Chk.mk ?_ ?_ | refine Own.l ?_ | fail))
        refine Ask.mk ⟨{ X := Nat, pre := fun j => j ≤ n.toNat, mod := fun j _ => [(9, I (nf (onL n l) n (putL (words n) (msAt (onL n l) n k)) j)), (10, I (n - 1 - j))], heap := fun j _ => [.vec 1 Two [] 29, .vec 1 .bool (bitsL n (putL (words n) (msAt (onL n l) n k))) 4, .vec 1 Two (stepsOf (restL n l) (msAt (onL n l) n k)) 29], mu := fun j => n.toNat - j }, rfl, ?_⟩
        (repeat' ((conv => whnf); first | (refine Giv.mk fun _ => ?_) | (refine Alt.l (Need.mk ?h ?_); case h => omega) | (refine Alt.r (Need.mk ?h ?_); case h => omega) | (refine Need.mk ?h ?_; case h => first | omega | (intro _; rfl) | assumption | (simp <;> omega)) | refine Ix.zero ?_ | refine Ix.one ?_ | refine Ix.two ?_ | refine Ix.nat ?_ | refine Ix.add ?_ | (apply Go.Eng.Pin.mk; apply Exists.intro) | apply Go.Eng.Pinned.mk rfl rfl | (apply Go.Eng.PinH.mk; apply Exists.intro; apply Exists.intro) | exact Go.Eng.Fin0.mk | refine Go.Eng.Chk.mk ?_ ?_ | refine Own.l ?_ | fail))
        refine ⟨⟨(0 : Nat), Nat.zero_le _, ?_⟩, fun (j : Nat) (hj : j ≤ n.toNat) => ?_⟩
        · (repeat' (first | exact trivial | rfl | exact Nat.one_pos | (refine And.intro ?_ ?_) | omega | ((conv => whnf); (refine And.intro ?_ ?_)) | ((conv => whnf); exact trivial)))
        · (repeat' ((conv => whnf); first | (refine Giv.mk fun _ => ?_) | (refine Alt.l (Need.mk ?h ?_); case h => omega) | (refine Alt.r (Need.mk ?h ?_); case h => omega) | (refine Need.mk ?h ?_; case h => first | omega | (intro _; rfl) | assumption | (simp <;> omega)) | refine Ix.zero ?_ | refine Ix.one ?_ | refine Ix.two ?_ | refine Ix.nat ?_ | refine Ix.add ?_ | (apply Go.Eng.Pin.mk; apply Exists.intro) | apply Go.Eng.Pinned.mk rfl rfl | (apply Go.Eng.PinH.mk; apply Exists.intro; apply Exists.intro) | exact Go.Eng.Fin0.mk | refine Go.Eng.Chk.mk ?_ ?_ | refine Own.l ?_ | fail))
          (refine Br.mk (fun _ => ?_) (fun _ => ?_))
          · have hri := ready_iff hro (putL (words n) (msAt (onL n l) n k)) (m := n - 1 - j) (by omega)
            have hgt := bitsL_get n (putL (words n) (msAt (onL n l) n k)) (n - 1 - j).toNat (by omega)
            rw [Int.toNat_of_nonneg (by omega)] at hgt
            have hnf : nf (onL n l) n (putL (words n) (msAt (onL n l) n k)) (j + 1) = if readyP (onL n l) (putL (words n) (msAt (onL n l) n k)) (n - 1 - j) then n - 1 - j else nf (onL n l) n (putL (words n) (msAt (onL n l) n k)) j := rfl
            (repeat' ((conv => whnf); first | (refine Giv.mk fun _ => ?_) | (refine Alt.l (Need.mk ?h ?_); case h => omega) | (refine Alt.r (Need.mk ?h ?_); case h => omega) | (refine Need.mk ?h ?_; case h => first | omega | (intro _; rfl) | assumption | (simp <;> omega)) | refine Ix.zero ?_ | refine Ix.one ?_ | refine Ix.two ?_ | refine Ix.nat ?_ | refine Ix.add ?_ | (apply Go.Eng.Pin.mk; apply Exists.intro) | apply Go.Eng.Pinned.mk rfl rfl | (apply Go.Eng.PinH.mk; apply Exists.intro; apply Exists.intro) | exact Go.Eng.Fin0.mk | refine Go.Eng.Chk.mk ?_ ?_ | refine Own.l ?_ | (refine Br.mkY ?h ?_; case h => first | omega | assumption) | (refine Br.mkN ?h ?_; case h => first | omega | assumption | exact not_not_intro (by assumption)) | fail))
            refine ix_at (n - 1 - j).toNat (by omega) ?_
            (repeat' ((conv => whnf); first | (refine Giv.mk fun _ => ?_) | (refine Alt.l (Need.mk ?h ?_); case h => omega) | (refine Alt.r (Need.mk ?h ?_); case h => omega) | (refine Need.mk ?h ?_; case h => first | omega | (intro _; rfl) | assumption | (simp <;> omega)) | refine Ix.zero ?_ | refine Ix.one ?_ | refine Ix.two ?_ | refine Ix.nat ?_ | refine Ix.add ?_ | (apply Go.Eng.Pin.mk; apply Exists.intro) | apply Go.Eng.Pinned.mk rfl rfl | (apply Go.Eng.PinH.mk; apply Exists.intro; apply Exists.intro) | exact Go.Eng.Fin0.mk | refine Go.Eng.Chk.mk ?_ ?_ | refine Own.l ?_ | (refine Br.mkY ?h ?_; case h => first | omega | assumption) | (refine Br.mkN ?h ?_; case h => first | omega | assumption | exact not_not_intro (by assumption)) | fail))
            (refine Br.mk (fun _ => ?_) (fun _ => ?_))
            · rename_i b1
              rw [hgt, decide_eq_true_iff] at b1
              (repeat' ((conv => whnf); first | (refine Giv.mk fun _ => ?_) | (refine Alt.l (Need.mk ?h ?_); case h => omega) | (refine Alt.r (Need.mk ?h ?_); case h => omega) | (refine Need.mk ?h ?_; case h => first | omega | (intro _; rfl) | assumption | (simp <;> omega)) | refine Ix.zero ?_ | refine Ix.one ?_ | refine Ix.two ?_ | refine Ix.nat ?_ | refine Ix.add ?_ | (apply Go.Eng.Pin.mk; apply Exists.intro) | apply Go.Eng.Pinned.mk rfl rfl | (apply Go.Eng.PinH.mk; apply Exists.intro; apply Exists.intro) | exact Go.Eng.Fin0.mk | refine Go.Eng.Chk.mk ?_ ?_ | refine Own.l ?_ | (refine Br.mkY ?h ?_; case h => first | omega | assumption) | (refine Br.mkN ?h ?_; case h => first | omega | assumption | exact not_not_intro (by assumption)) | fail))
              (refine Br.mk (fun _ => ?_) (fun _ => ?_))
              · rename_i b2
                rw [if_pos (hri.2 ⟨b1, b2⟩)] at hnf
                (repeat' ((conv => whnf); first | (refine Giv.mk fun _ => ?_) | (refine Alt.l (Need.mk ?h ?_); case h => omega) | (refine Alt.r (Need.mk ?h ?_); case h => omega) | (refine Need.mk ?h ?_; case h => first | omega | (intro _; rfl) | assumption | (simp <;> omega)) | refine Ix.zero ?_ | refine Ix.one ?_ | refine Ix.two ?_ | refine Ix.nat ?_ | refine Ix.add ?_ | (apply Go.Eng.Pin.mk; apply Exists.intro) | apply Go.Eng.Pinned.mk rfl rfl | (apply Go.Eng.PinH.mk; apply Exists.intro; apply Exists.intro) | exact Go.Eng.Fin0.mk | refine Go.Eng.Chk.mk ?_ ?_ | refine Own.l ?_ | (refine Br.mkY ?h ?_; case h => first | omega | assumption) | (refine Br.mkN ?h ?_; case h => first | omega | assumption | exact not_not_intro (by assumption)) | fail))
                refine ⟨(j + 1 : Nat), by show n.toNat - (j + 1) < n.toNat - j; omega, by show j + 1 ≤ n.toNat; omega, ?_⟩
                (repeat' (first | exact trivial | rfl | exact Nat.one_pos | (refine And.intro ?_ ?_) | omega | ((conv => whnf); (refine And.intro ?_ ?_)) | ((conv => whnf); exact trivial)))
              · rename_i b2
                rw [if_neg (fun e => b2 (hri.1 e).2)] at hnf
                (repeat' ((conv => whnf); first | (refine Giv.mk fun _ => ?_) | (refine Alt.l (Need.mk ?h ?_); case h => omega) | (refine Alt.r (Need.mk ?h ?_); case h => omega) | (refine Need.mk ?h ?_; case h => first | omega | (intro _; rfl) | assumption | (simp <;> omega)) | refine Ix.zero ?_ | refine Ix.one ?_ | refine Ix.two ?_ | refine Ix.nat ?_ | refine Ix.add ?_ | (apply Go.Eng.Pin.mk; apply Exists.intro) | apply Go.Eng.Pinned.mk rfl rfl | (apply Go.Eng.PinH.mk; apply Exists.intro; apply Exists.intro) | exact Go.Eng.Fin0.mk | refine Go.Eng.Chk.mk ?_ ?_ | refine Own.l ?_ | (refine Br.mkY ?h ?_; case h => first | omega | assumption) | (refine Br.mkN ?h ?_; case h => first | omega | assumption | exact not_not_intro (by assumption)) | fail))
                refine ⟨(j + 1 : Nat), by show n.toNat - (j + 1) < n.toNat - j; omega, by show j + 1 ≤ n.toNat; omega, ?_⟩
                (repeat' (first | exact trivial | rfl | exact Nat.one_pos | (refine And.intro ?_ ?_) | omega | ((conv => whnf); (refine And.intro ?_ ?_)) | ((conv => whnf); exact trivial)))
            · rename_i b1
              rw [hgt, decide_eq_true_iff] at b1
              rw [if_neg (fun e => b1 (hri.1 e).1)] at hnf
              (repeat' ((conv => whnf); first | (refine Giv.mk fun _ => ?_) | (refine Alt.l (Need.mk ?h ?_); case h => omega) | (refine Alt.r (Need.mk ?h ?_); case h => omega) | (refine Need.mk ?h ?_; case h => first | omega | (intro _; rfl) | assumption | (simp <;> omega)) | refine Ix.zero ?_ | refine Ix.one ?_ | refine Ix.two ?_ | refine Ix.nat ?_ | refine Ix.add ?_ | (apply Go.Eng.Pin.mk; apply Exists.intro) | apply Go.Eng.Pinned.mk rfl rfl | (apply Go.Eng.PinH.mk; apply Exists.intro; apply Exists.intro) | exact Go.Eng.Fin0.mk | refine Go.Eng.Chk.mk ?_ ?_ | refine Own.l ?_ | (refine Br.mkY ?h ?_; case h => first | omega | assumption) | (refine Br.mkN ?h ?_; case h => first | omega | assumption | exact not_not_intro (by assumption)) | fail))
              refine ⟨(j + 1 : Nat), by show n.toNat - (j + 1) < n.toNat - j; omega, by show j + 1 ≤ n.toNat; omega, ?_⟩
              (repeat' (first | exact trivial | rfl | exact Nat.one_pos | (refine And.intro ?_ ?_) | omega | ((conv => whnf); (refine And.intro ?_ ?_)) | ((conv => whnf); exact trivial)))
          · have hjj : j = n.toNat := by omega
            subst hjj
            have hnx := nf_nxt (onL n l) r2 (msAt (onL n l) n k)
            have hnb := nf_bound (onL n l) r2 (putL (words n) (msAt (onL n l) n k)) n.toNat (Nat.le_refl _)
            (repeat' ((conv => whnf); first | (refine Giv.mk fun _ => ?_) | (refine Alt.l (Need.mk ?h ?_); case h => omega) | (refine Alt.r (Need.mk ?h ?_); case h => omega) | (refine Need.mk ?h ?_; case h => first | omega | (intro _; rfl) | assumption | (simp <;> omega)) | refine Ix.zero ?_ | refine Ix.one ?_ | refine Ix.two ?_ | refine Ix.nat ?_ | refine Ix.add ?_ | (apply Go.Eng.Pin.mk; apply Exists.intro) | apply Go.Eng.Pinned.mk rfl rfl | (apply Go.Eng.PinH.mk; apply Exists.intro; apply Exists.intro) | exact Go.Eng.Fin0.mk | refine Go.Eng.Chk.mk ?_ ?_ | refine Own.l ?_ | fail))
            (refine Br.mk (fun _ => ?_) (fun _ => ?_))
            · obtain ⟨o1, o2⟩ := order_cycle (k := k) h (by omega) hlen (by omega)
              (repeat' ((conv => whnf); first | (refine Giv.mk fun _ => ?_) | (refine Alt.l (Need.mk ?h ?_); case h => omega) | (refine Alt.r (Need.mk ?h ?_); case h => omega) | (refine Need.mk ?h ?_; case h => first | omega | (intro _; rfl) | assumption | (simp <;> omega)) | refine Ix.zero ?_ | refine Ix.one ?_ | refine Ix.two ?_ | refine Ix.nat ?_ | refine Ix.add ?_ | (apply Go.Eng.Pin.mk; apply Exists.intro) | apply Go.Eng.Pinned.mk rfl rfl | (apply Go.Eng.PinH.mk; apply Exists.intro; apply Exists.intro) | exact Go.Eng.Fin0.mk | refine Go.Eng.Chk.mk ?_ ?_ | refine Own.l ?_ | (refine Br.mkY ?h ?_; case h => first | omega | assumption) | (refine Br.mkN ?h ?_; case h => first | omega | assumption | exact not_not_intro (by assumption)) | fail))
              (conv => whnf)
              refine ⟨?_, ⟨rfl, o1.symm⟩, trivial⟩
              (conv => whnf)
              exact o2.symm
            · rename_i h0
              have hmn : 0 ≤ nf (onL n l) n (putL (words n) (msAt (onL n l) n k)) n.toNat ∧ nf (onL n l) n (putL (words n) (msAt (onL n l) n k)) n.toNat < n := by omega
              have hms : msAt (onL n l) n (k + 1) = msAt (onL n l) n k ++ [nf (onL n l) n (putL (words n) (msAt (onL n l) n k)) n.toNat] := by
                rw [msAt_succ, if_pos (by omega), hnx]
              have hra := rest_any (l := l) hmn
              have hset := bitsL_put w1 w2 hmn
              rw [← putL_snoc, ← hms] at hset
              have hl1 : (msAt (onL n l) n (k + 1)).length = k + 1 := by rw [hms, List.length_append, hlen]; rfl
              have hst : stepsOf (restL n l) (msAt (onL n l) n (k + 1)) = stepsOf (restL n l) (msAt (onL n l) n k) ++ stepOf (restL n l) (nf (onL n l) n (putL (words n) (msAt (onL n l) n k)) n.toNat) := by
                rw [hms, stepsOf_append, show stepsOf (restL n l) [nf (onL n l) n (putL (words n) (msAt (onL n l) n k)) n.toNat] = stepOf _ _ from List.append_nil _]
              unfold stepOf at hst
              rw [hra] at hst
              (repeat' ((conv => whnf); first | (refine Giv.mk fun _ => ?_) | (refine Alt.l (Need.mk ?h ?_); case h => omega) | (refine Alt.r (Need.mk ?h ?_); case h => omega) | (refine Need.mk ?h ?_; case h => first | omega | (intro _; rfl) | assumption | (simp <;> omega)) | refine Ix.zero ?_ | refine Ix.one ?_ | refine Ix.two ?_ | refine Ix.nat ?_ | refine Ix.add ?_ | (apply Go.Eng.Pin.mk; apply Exists.intro) | apply Go.Eng.Pinned.mk rfl rfl | (apply Go.Eng.PinH.mk; apply Exists.intro; apply Exists.intro) | exact Go.Eng.Fin0.mk | refine Go.Eng.Chk.mk ?_ ?_ | refine Own.l ?_ | (refine Br.mkY ?h ?_; case h => first | omega | assumption) | (refine Br.mkN ?h ?_; case h => first | omega | assumption | exact not_not_intro (by assumption)) | fail))
              (refine Br.mk (fun _ => ?_) (fun _ => ?_))
              · rename_i hf
                rw [if_neg hf] at hst
                (repeat' ((conv => whnf); first | (refine Giv.mk fun _ => ?_) | (refine Alt.l (Need.mk ?h ?_); case h => omega) | (refine Alt.r (Need.mk ?h ?_); case h => omega) | (refine Need.mk ?h ?_; case h => first | omega | (intro _; rfl) | assumption | (simp <;> omega)) | refine Ix.zero ?_ | refine Ix.one ?_ | refine Ix.two ?_ | refine Ix.nat ?_ | refine Ix.add ?_ | (apply Go.Eng.Pin.mk; apply Exists.intro) | apply Go.Eng.Pinned.mk rfl rfl | (apply Go.Eng.PinH.mk; apply Exists.intro; apply Exists.intro) | exact Go.Eng.Fin0.mk | refine Go.Eng.Chk.mk ?_ ?_ | refine Own.l ?_ | (refine Br.mkY ?h ?_; case h => first | omega | assumption) | (refine Br.mkN ?h ?_; case h => first | omega | assumption | exact not_not_intro (by assumption)) | fail))
                refine ix_at (nf (onL n l) n (putL (words n) (msAt (onL n l) n k)) n.toNat).toNat (by omega) ?_
                (repeat' ((conv => whnf); first | (refine Giv.mk fun _ => ?_) | (refine Alt.l (Need.mk ?h ?_); case h => omega) | (refine Alt.r (Need.mk ?h ?_); case h => omega) | (refine Need.mk ?h ?_; case h => first | omega | (intro _; rfl) | assumption | (simp <;> omega)) | refine Ix.zero ?_ | refine Ix.one ?_ | refine Ix.two ?_ | refine Ix.nat ?_ | refine Ix.add ?_ | (apply Go.Eng.Pin.mk; apply Exists.intro) | apply Go.Eng.Pinned.mk rfl rfl | (apply Go.Eng.PinH.mk; apply Exists.intro; apply Exists.intro) | exact Go.Eng.Fin0.mk | refine Go.Eng.Chk.mk ?_ ?_ | refine Own.l ?_ | (refine Br.mkY ?h ?_; case h => first | omega | assumption) | (refine Br.mkN ?h ?_; case h => first | omega | assumption | exact not_not_intro (by assumption)) | fail))
                refine ⟨(k + 1 : Nat), by show n.toNat - (k + 1) < n.toNat - k; omega, ⟨by show k + 1 ≤ n.toNat; omega, hl1⟩, ?_⟩
                (repeat' (first | exact trivial | rfl | exact Nat.one_pos | (refine And.intro ?_ ?_) | omega | ((conv => whnf); (refine And.intro ?_ ?_)) | ((conv => whnf); exact trivial)))
                · exact hset
                · exact Eq.trans (by simp) hst.symm
              · rename_i hf
                rw [if_pos (Classical.not_not.1 hf)] at hst
                (repeat' ((conv => whnf); first | (refine Giv.mk fun _ => ?_) | (refine Alt.l (Need.mk ?h ?_); case h => omega) | (refine Alt.r (Need.mk ?h ?_); case h => omega) | (refine Need.mk ?h ?_; case h => first | omega | (intro _; rfl) | assumption | (simp <;> omega)) | refine Ix.zero ?_ | refine Ix.one ?_ | refine Ix.two ?_ | refine Ix.nat ?_ | refine Ix.add ?_ | (apply Go.Eng.Pin.mk; apply Exists.intro) | apply Go.Eng.Pinned.mk rfl rfl | (apply Go.Eng.PinH.mk; apply Exists.intro; apply Exists.intro) | exact Go.Eng.Fin0.mk | refine Go.Eng.Chk.mk ?_ ?_ | refine Own.l ?_ | (refine Br.mkY ?h ?_; case h => first | omega | assumption) | (refine Br.mkN ?h ?_; case h => first | omega | assumption | exact not_not_intro (by assumption)) | fail))
                refine ix_at (nf (onL n l) n (putL (words n) (msAt (onL n l) n k)) n.toNat).toNat (by omega) ?_
                (repeat' ((conv => whnf); first | (refine Giv.mk fun _ => ?_) | (refine Alt.l (Need.mk ?h ?_); case h => omega) | (refine Alt.r (Need.mk ?h ?_); case h => omega) | (refine Need.mk ?h ?_; case h => first | omega | (intro _; rfl) | assumption | (simp <;> omega)) | refine Ix.zero ?_ | refine Ix.one ?_ | refine Ix.two ?_ | refine Ix.nat ?_ | refine Ix.add ?_ | (apply Go.Eng.Pin.mk; apply Exists.intro) | apply Go.Eng.Pinned.mk rfl rfl | (apply Go.Eng.PinH.mk; apply Exists.intro; apply Exists.intro) | exact Go.Eng.Fin0.mk | refine Go.Eng.Chk.mk ?_ ?_ | refine Own.l ?_ | (refine Br.mkY ?h ?_; case h => first | omega | assumption) | (refine Br.mkN ?h ?_; case h => first | omega | assumption | exact not_not_intro (by assumption)) | fail))
                refine ⟨(k + 1 : Nat), by show n.toNat - (k + 1) < n.toNat - k; omega, ⟨by show k + 1 ≤ n.toNat; omega, hl1⟩, ?_⟩
                (repeat' (first | exact trivial | rfl | exact Nat.one_pos | (refine And.intro ?_ ?_) | omega | ((conv => whnf); (refine And.intro ?_ ?_)) | ((conv => whnf); exact trivial)))
                · exact hset
                · exact hst.symm
      · have hkk : k = n.toNat := by omega
        subst hkk
        obtain ⟨o1, o2⟩ := order_full h r2 hlen
        (repeat' ((conv => whnf); first | (refine Giv.mk fun _ => ?_) | (refine Alt.l (Need.mk ?h ?_); case h => omega) | (refine Alt.r (Need.mk ?h ?_); case h => omega) | (refine Need.mk ?h ?_; case h => first | omega | (intro _; rfl) | assumption | (simp <;> omega)) | refine Ix.zero ?_ | refine Ix.one ?_ | refine Ix.two ?_ | refine Ix.nat ?_ | refine Ix.add ?_ | (apply Go.Eng.Pin.mk; apply Exists.intro) | apply Go.Eng.Pinned.mk rfl rfl | (apply Go.Eng.PinH.mk; apply Exists.intro; apply Exists.intro) | exact Go.Eng.Fin0.mk | refine Go.Eng.Chk.mk ?_ ?_ | refine Own.l ?_ | (refine Br.mkY ?h ?_; case h => first | omega | assumption) | (refine Br.mkN ?h ?_; case h => first | omega | assumption | exact not_not_intro (by assumption)) | fail))
        (conv => whnf)
        refine ⟨?_, ⟨rfl, o1.symm⟩, trivial⟩
        (conv => whnf)
        exact o2.symm
def c33 : Con := mkCon 33 true fun args K => match args with | [.val (.int .i64 n), .seq (.pair (.int .i64) (.int .i64)) l] => K (.tup [Ps (orderRes n l), I (orderErr n l)]) | _ => False
theorem k33 : ConOK Try.prog c33 := by
  refine conOK_of rfl (enters_of Try.func33 (by kernel_rfl) rfl) ?_
  intro args K h
  simp only [c33] at h
  split at h
  · rename_i n l; exact ⟨_, h, tri_of_body (Γ := [c62, c63]) (by simp [k62, k63]) Try.func33 (by simp [Try.ntmps33]) rfl (b33 n l)⟩
  · exact h.elim
/-! ### The reference's Check -/
theorem wf_doAt {on : List (List Int)} {rs : List Bool} {n : Int} (hn : 0 ≤ n) {S : List (Int × Int)} (hc : chkE n S = 0) {i : Nat} (hi : i ≤ S.length) (h : (doAt on rs n S i).err = false) : WOk (doAt on rs n S i).st ∧ WOk (doAt on rs n S i).pr ∧ ((doAt on rs n S i).st.length : Int) = (n + 63) / 64 ∧ ((doAt on rs n S i).pr.length : Int) = (n + 63) / 64 ∧ memsTo (doAt on rs n S i).st (64 * (doAt on rs n S i).st.length) = memL n fun j => decide (hasW (doAt on rs n S i).st j) := by
  obtain ⟨e1, e2⟩ := doAt_wF i hi h
  obtain ⟨l1, l2, o1, o2, s1, s2, b1, b2⟩ := wf_take hn (chkE_ok hn hc) i hi
  rw [e1, e2]
  refine ⟨o1, o2, l1, l2, ?_⟩
  exact memsTo_eq hn l1 (fun j => decide_eq_true_iff.symm) fun j hj => b1 j ((s1 j).1 (of_decide_eq_true hj))
theorem b35 (n : Int) (l S : List (Int × Int)) : body Try.prog [c58, c62, c63] { asks := [(0, []), (3, [])] } true Try.f35 [I n, Ps l, Ps S] (I (checkE n l S)) := by
  (repeat' ((conv => whnf); first | (refine Giv.mk fun _ => ?_) | (refine Alt.l (Need.mk ?h ?_); case h => omega) | (refine Alt.r (Need.mk ?h ?_); case h => omega) | (refine Need.mk ?h ?_; case h => first | omega | (intro _; rfl) | assumption | (simp <;> omega)) | refine Ix.zero ?_ | refine Ix.one ?_ | refine Ix.two ?_ | refine Ix.nat ?_ | refine Ix.add ?_ | (apply Go.Eng.Pin.mk; apply Exists.intro) | apply Go.Eng.Pinned.mk rfl rfl | (apply Go.Eng.PinH.mk; apply Exists.intro; apply Exists.intro) | exact Go.Eng.Fin0.mk | refine Go.Eng.Chk.mk ?_ ?_ | refine Own.l ?_ | fail))
  (refine Br.mk (fun _ => ?_) (fun _ => ?_))
  · rename_i h
    (repeat' ((conv => whnf); first | (refine Giv.mk fun _ => ?_) | (refine Alt.l (Need.mk ?h ?_); case h => omega) | (refine Alt.r (Need.mk ?h ?_); case h => omega) | (refine Need.mk ?h ?_; case h => first | omega | (intro _; rfl) | assumption | (simp <;> omega)) | refine Ix.zero ?_ | refine Ix.one ?_ | refine Ix.two ?_ | refine Ix.nat ?_ | refine Ix.add ?_ | (apply Go.Eng.Pin.mk; apply Exists.intro) | apply Go.Eng.Pinned.mk rfl rfl | (apply Go.Eng.PinH.mk; apply Exists.intro; apply Exists.intro) | exact Go.Eng.Fin0.mk | refine Go.Eng.Chk.mk ?_ ?_ | refine Own.l ?_ | fail))
    (conv => whnf)
    exact ⟨rfl, by unfold checkE; rw [if_pos h]⟩
  rename_i h
  have h := Classical.not_not.1 h
  have hro := supE_rests h
  obtain ⟨r1, r2, r3, r4⟩ := id hro
  (repeat' ((conv => whnf); first | (refine Giv.mk fun _ => ?_) | (refine Alt.l (Need.mk ?h ?_); case h => omega) | (refine Alt.r (Need.mk ?h ?_); case h => omega) | (refine Need.mk ?h ?_; case h => first | omega | (intro _; rfl) | assumption | (simp <;> omega)) | refine Ix.zero ?_ | refine Ix.one ?_ | refine Ix.two ?_ | refine Ix.nat ?_ | refine Ix.add ?_ | (apply Go.Eng.Pin.mk; apply Exists.intro) | apply Go.Eng.Pinned.mk rfl rfl | (apply Go.Eng.PinH.mk; apply Exists.intro; apply Exists.intro) | exact Go.Eng.Fin0.mk | refine Go.Eng.Chk.mk ?_ ?_ | refine Own.l ?_ | fail))
  (refine Br.mk (fun _ => ?_) (fun _ => ?_))
  · rename_i hc
    (repeat' ((conv => whnf); first | (refine Giv.mk fun _ => ?_) | (refine Alt.l (Need.mk ?h ?_); case h => omega) | (refine Alt.r (Need.mk ?h ?_); case h => omega) | (refine Need.mk ?h ?_; case h => first | omega | (intro _; rfl) | assumption | (simp <;> omega)) | refine Ix.zero ?_ | refine Ix.one ?_ | refine Ix.two ?_ | refine Ix.nat ?_ | refine Ix.add ?_ | (apply Go.Eng.Pin.mk; apply Exists.intro) | apply Go.Eng.Pinned.mk rfl rfl | (apply Go.Eng.PinH.mk; apply Exists.intro; apply Exists.intro) | exact Go.Eng.Fin0.mk | refine Go.Eng.Chk.mk ?_ ?_ | refine Own.l ?_ | fail))
    (conv => whnf)
    exact ⟨rfl, by unfold checkE; rw [if_neg (fun e => e h), if_pos hc]⟩
  rename_i hc
  have hc := Classical.not_not.1 hc
  have hco := chkE_ok r2 hc
  (repeat' ((conv => whnf); first | (refine Giv.mk fun _ => ?_) | (refine Alt.l (Need.mk ?h ?_); case h => omega) | (refine Alt.r (Need.mk ?h ?_); case h => omega) | (refine Need.mk ?h ?_; case h => first | omega | (intro _; rfl) | assumption | (simp <;> omega)) | refine Ix.zero ?_ | refine Ix.one ?_ | refine Ix.two ?_ | refine Ix.nat ?_ | refine Ix.add ?_ | (apply Go.Eng.Pin.mk; apply Exists.intro) | apply Go.Eng.Pinned.mk rfl rfl | (apply Go.Eng.PinH.mk; apply Exists.intro; apply Exists.intro) | exact Go.Eng.Fin0.mk | refine Go.Eng.Chk.mk ?_ ?_ | refine Own.l ?_ | fail))
  refine Need.mk (show 0 ≤ n ∧ n ≤ n ∧ n ≤ 140737488355328 ∧ n * ((1 : Nat) : Int) ≤ 140737488355328 by omega) ?_
  (repeat' ((conv => whnf); first | (refine Giv.mk fun _ => ?_) | (refine Alt.l (Need.mk ?h ?_); case h => omega) | (refine Alt.r (Need.mk ?h ?_); case h => omega) | (refine Need.mk ?h ?_; case h => first | omega | (intro _; rfl) | assumption | (simp <;> omega)) | refine Ix.zero ?_ | refine Ix.one ?_ | refine Ix.two ?_ | refine Ix.nat ?_ | refine Ix.add ?_ | (apply Go.Eng.Pin.mk; apply Exists.intro) | apply Go.Eng.Pinned.mk rfl rfl | (apply Go.Eng.PinH.mk; apply Exists.intro; apply Exists.intro) | exact Go.Eng.Fin0.mk | refine Go.Eng.Chk.mk ?_ ?_ | refine Own.l ?_ | fail))
  refine Need.mk (show 0 ≤ n ∧ n ≤ n ∧ n ≤ 140737488355328 ∧ n * ((1 : Nat) : Int) ≤ 140737488355328 by omega) ?_
  (repeat' ((conv => whnf); first | (refine Giv.mk fun _ => ?_) | (refine Alt.l (Need.mk ?h ?_); case h => omega) | (refine Alt.r (Need.mk ?h ?_); case h => omega) | (refine Need.mk ?h ?_; case h => first | omega | (intro _; rfl) | assumption | (simp <;> omega)) | refine Ix.zero ?_ | refine Ix.one ?_ | refine Ix.two ?_ | refine Ix.nat ?_ | refine Ix.add ?_ | (apply Go.Eng.Pin.mk; apply Exists.intro) | apply Go.Eng.Pinned.mk rfl rfl | (apply Go.Eng.PinH.mk; apply Exists.intro; apply Exists.intro) | exact Go.Eng.Fin0.mk | refine Go.Eng.Chk.mk ?_ ?_ | refine Own.l ?_ | fail))
  refine Ask.mk ⟨{ X := Nat, pre := fun i => i ≤ S.length ∧ (doAt (onL n l) (restL n l) n S i).err = false, mod := fun i _ => [(10, I i)], heap := fun i _ => [.vec 1 .bool (bitsL n (doAt (onL n l) (restL n l) n S i).st) 4, .vec 1 .bool (bitsL n (doAt (onL n l) (restL n l) n S i).pr) 4], mu := fun i => S.length - i }, rfl, ?_⟩
  (repeat' ((conv => whnf); first | (refine Giv.mk fun _ => ?_) | (refine Alt.l (Need.mk ?h ?_); case h => omega) | (refine Alt.r (Need.mk ?h ?_); case h => omega) | (refine Need.mk ?h ?_; case h => first | omega | (intro _; rfl) | assumption | (simp <;> omega)) | refine Ix.zero ?_ | refine Ix.one ?_ | refine Ix.two ?_ | refine Ix.nat ?_ | refine Ix.add ?_ | (apply Go.Eng.Pin.mk; apply Exists.intro) | apply Go.Eng.Pinned.mk rfl rfl | (apply Go.Eng.PinH.mk; apply Exists.intro; apply Exists.intro) | exact Go.Eng.Fin0.mk | refine Go.Eng.Chk.mk ?_ ?_ | refine Own.l ?_ | fail))
  refine ⟨⟨(0 : Nat), ⟨Nat.zero_le _, rfl⟩, ?_⟩, fun (i : Nat) hi => ?_⟩
  · (repeat' (first | exact trivial | rfl | exact Nat.one_pos | (refine And.intro ?_ ?_) | omega | ((conv => whnf); (refine And.intro ?_ ?_)) | ((conv => whnf); exact trivial)))
    · exact (bitsL_nil n).symm
    · exact (bitsL_nil n).symm
  · obtain ⟨hi, he⟩ := hi
    have hst := doAt_succ (onL n l) (restL n l) n S i
    unfold doStep at hst
    rw [if_neg (by rw [he]; simp)] at hst
    obtain ⟨o1, o2, l1, l2, hmm⟩ := wf_doAt r2 hc hi he
    have hb1 := bitsL_len n (doAt (onL n l) (restL n l) n S i).st
    have hb2 := bitsL_len n (doAt (onL n l) (restL n l) n S i).pr
    (repeat' ((conv => whnf); first | (refine Giv.mk fun _ => ?_) | (refine Alt.l (Need.mk ?h ?_); case h => omega) | (refine Alt.r (Need.mk ?h ?_); case h => omega) | (refine Need.mk ?h ?_; case h => first | omega | (intro _; rfl) | assumption | (simp <;> omega)) | refine Ix.zero ?_ | refine Ix.one ?_ | refine Ix.two ?_ | refine Ix.nat ?_ | refine Ix.add ?_ | (apply Go.Eng.Pin.mk; apply Exists.intro) | apply Go.Eng.Pinned.mk rfl rfl | (apply Go.Eng.PinH.mk; apply Exists.intro; apply Exists.intro) | exact Go.Eng.Fin0.mk | refine Go.Eng.Chk.mk ?_ ?_ | refine Own.l ?_ | fail))
    (refine Br.mk (fun _ => ?_) (fun _ => ?_))
    · have hlt : i < S.length := by omega
      obtain ⟨q1, q2, q3⟩ := hco i hlt
      have bad : ¬ canDo (onL n l) (restL n l) (doAt (onL n l) (restL n l) n S i) (S.getD i (0, 0)) → 26 = checkE n l S := fun hb => checkE_bad h hc hlt (by rw [hst, if_pos hb])
      have arr : ∀ {a b : List Int}, doAt (onL n l) (restL n l) n S (i + 1) = ⟨a, b, false⟩ → i + 1 ≤ S.length ∧ (doAt (onL n l) (restL n l) n S (i + 1)).err = false := fun e => ⟨hlt, by rw [e]⟩
      have hri := ready_iff hro (doAt (onL n l) (restL n l) n S i).st (m := (S.getD i (0, 0)).2) ⟨q2, q3⟩
      have g1 := bitsL_get n (doAt (onL n l) (restL n l) n S i).st (S.getD i (0, 0)).2.toNat (by omega)
      have g2 := bitsL_get n (doAt (onL n l) (restL n l) n S i).pr (S.getD i (0, 0)).2.toNat (by omega)
      rw [Int.toNat_of_nonneg q2] at g1 g2
      have hra := rest_any (l := l) ⟨q2, q3⟩
      have hs1 := bitsL_put o1 l1 ⟨q2, q3⟩
      have hs2 := bitsL_put o2 l2 ⟨q2, q3⟩
      have hs3 := bitsL_take o2 l2 ⟨q2, q3⟩
      have hpre : ∀ q, q < l.length → (l.getD q (0, 0)).2 < (bitsL n (doAt (onL n l) (restL n l) n S i).st).length := fun q hq => by
        have := r4 q hq
        omega
      (repeat' ((conv => whnf); first | (refine Giv.mk fun _ => ?_) | (refine Alt.l (Need.mk ?h ?_); case h => omega) | (refine Alt.r (Need.mk ?h ?_); case h => omega) | (refine Need.mk ?h ?_; case h => first | omega | (intro _; rfl) | assumption | (simp <;> omega)) | refine Ix.zero ?_ | refine Ix.one ?_ | refine Ix.two ?_ | refine Ix.nat ?_ | refine Ix.add ?_ | (apply Go.Eng.Pin.mk; apply Exists.intro) | apply Go.Eng.Pinned.mk rfl rfl | (apply Go.Eng.PinH.mk; apply Exists.intro; apply Exists.intro) | exact Go.Eng.Fin0.mk | refine Go.Eng.Chk.mk ?_ ?_ | refine Own.l ?_ | (refine Br.mkY ?h ?_; case h => first | omega | assumption) | (refine Br.mkN ?h ?_; case h => first | omega | assumption | exact not_not_intro (by assumption)) | fail))
      (refine Br.mk (fun _ => ?_) (fun _ => ?_))
      · rename_i k1
        have hcd : canDo (onL n l) (restL n l) (doAt (onL n l) (restL n l) n S i) (S.getD i (0, 0)) ↔ (¬ hasW (doAt (onL n l) (restL n l) n S i).st (S.getD i (0, 0)).2 ∧ allF l (bitsL n (doAt (onL n l) (restL n l) n S i).st) (S.getD i (0, 0)).2 l.length = true) ∧ (l.any (upP (S.getD i (0, 0)).2) = true ∨ hasW (doAt (onL n l) (restL n l) n S i).pr (S.getD i (0, 0)).2) := by unfold canDo; rw [if_pos k1, hri, hra]
        (repeat' ((conv => whnf); first | (refine Giv.mk fun _ => ?_) | (refine Alt.l (Need.mk ?h ?_); case h => omega) | (refine Alt.r (Need.mk ?h ?_); case h => omega) | (refine Need.mk ?h ?_; case h => first | omega | (intro _; rfl) | assumption | (simp <;> omega)) | refine Ix.zero ?_ | refine Ix.one ?_ | refine Ix.two ?_ | refine Ix.nat ?_ | refine Ix.add ?_ | (apply Go.Eng.Pin.mk; apply Exists.intro) | apply Go.Eng.Pinned.mk rfl rfl | (apply Go.Eng.PinH.mk; apply Exists.intro; apply Exists.intro) | exact Go.Eng.Fin0.mk | refine Go.Eng.Chk.mk ?_ ?_ | refine Own.l ?_ | (refine Br.mkY ?h ?_; case h => first | omega | assumption) | (refine Br.mkN ?h ?_; case h => first | omega | assumption | exact not_not_intro (by assumption)) | fail))
        refine ix_at (S.getD i (0, 0)).2.toNat (by omega) ?_
        (repeat' ((conv => whnf); first | (refine Giv.mk fun _ => ?_) | (refine Alt.l (Need.mk ?h ?_); case h => omega) | (refine Alt.r (Need.mk ?h ?_); case h => omega) | (refine Need.mk ?h ?_; case h => first | omega | (intro _; rfl) | assumption | (simp <;> omega)) | refine Ix.zero ?_ | refine Ix.one ?_ | refine Ix.two ?_ | refine Ix.nat ?_ | refine Ix.add ?_ | (apply Go.Eng.Pin.mk; apply Exists.intro) | apply Go.Eng.Pinned.mk rfl rfl | (apply Go.Eng.PinH.mk; apply Exists.intro; apply Exists.intro) | exact Go.Eng.Fin0.mk | refine Go.Eng.Chk.mk ?_ ?_ | refine Own.l ?_ | (refine Br.mkY ?h ?_; case h => first | omega | assumption) | (refine Br.mkN ?h ?_; case h => first | omega | assumption | exact not_not_intro (by assumption)) | fail))
        (refine Br.mk (fun _ => ?_) (fun _ => ?_))
        · rename_i m1
          rw [g1, decide_eq_true_iff] at m1
          (repeat' ((conv => whnf); first | (refine Giv.mk fun _ => ?_) | (refine Alt.l (Need.mk ?h ?_); case h => omega) | (refine Alt.r (Need.mk ?h ?_); case h => omega) | (refine Need.mk ?h ?_; case h => first | omega | (intro _; rfl) | assumption | (simp <;> omega)) | refine Ix.zero ?_ | refine Ix.one ?_ | refine Ix.two ?_ | refine Ix.nat ?_ | refine Ix.add ?_ | (apply Go.Eng.Pin.mk; apply Exists.intro) | apply Go.Eng.Pinned.mk rfl rfl | (apply Go.Eng.PinH.mk; apply Exists.intro; apply Exists.intro) | exact Go.Eng.Fin0.mk | refine Go.Eng.Chk.mk ?_ ?_ | refine Own.l ?_ | (refine Br.mkY ?h ?_; case h => first | omega | assumption) | (refine Br.mkN ?h ?_; case h => first | omega | assumption | exact not_not_intro (by assumption)) | fail))
          (refine Br.mk (fun _ => ?_) (fun _ => ?_))
          · rename_i m2
            (repeat' ((conv => whnf); first | (refine Giv.mk fun _ => ?_) | (refine Alt.l (Need.mk ?h ?_); case h => omega) | (refine Alt.r (Need.mk ?h ?_); case h => omega) | (refine Need.mk ?h ?_; case h => first | omega | (intro _; rfl) | assumption | (simp <;> omega)) | refine Ix.zero ?_ | refine Ix.one ?_ | refine Ix.two ?_ | refine Ix.nat ?_ | refine Ix.add ?_ | (apply Go.Eng.Pin.mk; apply Exists.intro) | apply Go.Eng.Pinned.mk rfl rfl | (apply Go.Eng.PinH.mk; apply Exists.intro; apply Exists.intro) | exact Go.Eng.Fin0.mk | refine Go.Eng.Chk.mk ?_ ?_ | refine Own.l ?_ | (refine Br.mkY ?h ?_; case h => first | omega | assumption) | (refine Br.mkN ?h ?_; case h => first | omega | assumption | exact not_not_intro (by assumption)) | fail))
            (refine Br.mk (fun _ => ?_) (fun _ => ?_))
            · rename_i m3
              have e := hst
              rw [if_neg (Classical.not_not.2 (hcd.2 ⟨⟨m1, m2⟩, .inl m3⟩)), if_pos k1] at e
              (repeat' ((conv => whnf); first | (refine Giv.mk fun _ => ?_) | (refine Alt.l (Need.mk ?h ?_); case h => omega) | (refine Alt.r (Need.mk ?h ?_); case h => omega) | (refine Need.mk ?h ?_; case h => first | omega | (intro _; rfl) | assumption | (simp <;> omega)) | refine Ix.zero ?_ | refine Ix.one ?_ | refine Ix.two ?_ | refine Ix.nat ?_ | refine Ix.add ?_ | (apply Go.Eng.Pin.mk; apply Exists.intro) | apply Go.Eng.Pinned.mk rfl rfl | (apply Go.Eng.PinH.mk; apply Exists.intro; apply Exists.intro) | exact Go.Eng.Fin0.mk | refine Go.Eng.Chk.mk ?_ ?_ | refine Own.l ?_ | (refine Br.mkY ?h ?_; case h => first | omega | assumption) | (refine Br.mkN ?h ?_; case h => first | omega | assumption | exact not_not_intro (by assumption)) | fail))
              refine ix_at (S.getD i (0, 0)).2.toNat (by omega) ?_
              (repeat' ((conv => whnf); first | (refine Giv.mk fun _ => ?_) | (refine Alt.l (Need.mk ?h ?_); case h => omega) | (refine Alt.r (Need.mk ?h ?_); case h => omega) | (refine Need.mk ?h ?_; case h => first | omega | (intro _; rfl) | assumption | (simp <;> omega)) | refine Ix.zero ?_ | refine Ix.one ?_ | refine Ix.two ?_ | refine Ix.nat ?_ | refine Ix.add ?_ | (apply Go.Eng.Pin.mk; apply Exists.intro) | apply Go.Eng.Pinned.mk rfl rfl | (apply Go.Eng.PinH.mk; apply Exists.intro; apply Exists.intro) | exact Go.Eng.Fin0.mk | refine Go.Eng.Chk.mk ?_ ?_ | refine Own.l ?_ | (refine Br.mkY ?h ?_; case h => first | omega | assumption) | (refine Br.mkN ?h ?_; case h => first | omega | assumption | exact not_not_intro (by assumption)) | fail))
              refine ⟨(i + 1 : Nat), by show S.length - (i + 1) < S.length - i; omega, arr e, ?_⟩
              (repeat' (first | exact trivial | rfl | exact Nat.one_pos | (refine And.intro ?_ ?_) | omega | ((conv => whnf); (refine And.intro ?_ ?_)) | ((conv => whnf); exact trivial)))
              · exact hs1.trans (congrArg (bitsL n) (congrArg CS.st e).symm)
              · exact congrArg (bitsL n) (congrArg CS.pr e).symm
            · rename_i m3
              (repeat' ((conv => whnf); first | (refine Giv.mk fun _ => ?_) | (refine Alt.l (Need.mk ?h ?_); case h => omega) | (refine Alt.r (Need.mk ?h ?_); case h => omega) | (refine Need.mk ?h ?_; case h => first | omega | (intro _; rfl) | assumption | (simp <;> omega)) | refine Ix.zero ?_ | refine Ix.one ?_ | refine Ix.two ?_ | refine Ix.nat ?_ | refine Ix.add ?_ | (apply Go.Eng.Pin.mk; apply Exists.intro) | apply Go.Eng.Pinned.mk rfl rfl | (apply Go.Eng.PinH.mk; apply Exists.intro; apply Exists.intro) | exact Go.Eng.Fin0.mk | refine Go.Eng.Chk.mk ?_ ?_ | refine Own.l ?_ | (refine Br.mkY ?h ?_; case h => first | omega | assumption) | (refine Br.mkN ?h ?_; case h => first | omega | assumption | exact not_not_intro (by assumption)) | fail))
              refine ix_at (S.getD i (0, 0)).2.toNat (by omega) ?_
              (repeat' ((conv => whnf); first | (refine Giv.mk fun _ => ?_) | (refine Alt.l (Need.mk ?h ?_); case h => omega) | (refine Alt.r (Need.mk ?h ?_); case h => omega) | (refine Need.mk ?h ?_; case h => first | omega | (intro _; rfl) | assumption | (simp <;> omega)) | refine Ix.zero ?_ | refine Ix.one ?_ | refine Ix.two ?_ | refine Ix.nat ?_ | refine Ix.add ?_ | (apply Go.Eng.Pin.mk; apply Exists.intro) | apply Go.Eng.Pinned.mk rfl rfl | (apply Go.Eng.PinH.mk; apply Exists.intro; apply Exists.intro) | exact Go.Eng.Fin0.mk | refine Go.Eng.Chk.mk ?_ ?_ | refine Own.l ?_ | (refine Br.mkY ?h ?_; case h => first | omega | assumption) | (refine Br.mkN ?h ?_; case h => first | omega | assumption | exact not_not_intro (by assumption)) | fail))
              refine ix_at (S.getD i (0, 0)).2.toNat (by omega) ?_
              (repeat' ((conv => whnf); first | (refine Giv.mk fun _ => ?_) | (refine Alt.l (Need.mk ?h ?_); case h => omega) | (refine Alt.r (Need.mk ?h ?_); case h => omega) | (refine Need.mk ?h ?_; case h => first | omega | (intro _; rfl) | assumption | (simp <;> omega)) | refine Ix.zero ?_ | refine Ix.one ?_ | refine Ix.two ?_ | refine Ix.nat ?_ | refine Ix.add ?_ | (apply Go.Eng.Pin.mk; apply Exists.intro) | apply Go.Eng.Pinned.mk rfl rfl | (apply Go.Eng.PinH.mk; apply Exists.intro; apply Exists.intro) | exact Go.Eng.Fin0.mk | refine Go.Eng.Chk.mk ?_ ?_ | refine Own.l ?_ | (refine Br.mkY ?h ?_; case h => first | omega | assumption) | (refine Br.mkN ?h ?_; case h => first | omega | assumption | exact not_not_intro (by assumption)) | fail))
              (refine Br.mk (fun _ => ?_) (fun _ => ?_))
              · rename_i m4
                rw [g2, decide_eq_true_iff] at m4
                exact ⟨rfl, bad fun e => m4 ((hcd.1 e).2.resolve_left m3)⟩
              · rename_i m4
                rw [g2, decide_eq_true_iff, Classical.not_not] at m4
                have e := hst
                rw [if_neg (Classical.not_not.2 (hcd.2 ⟨⟨m1, m2⟩, .inr m4⟩)), if_pos k1] at e
                (repeat' ((conv => whnf); first | (refine Giv.mk fun _ => ?_) | (refine Alt.l (Need.mk ?h ?_); case h => omega) | (refine Alt.r (Need.mk ?h ?_); case h => omega) | (refine Need.mk ?h ?_; case h => first | omega | (intro _; rfl) | assumption | (simp <;> omega)) | refine Ix.zero ?_ | refine Ix.one ?_ | refine Ix.two ?_ | refine Ix.nat ?_ | refine Ix.add ?_ | (apply Go.Eng.Pin.mk; apply Exists.intro) | apply Go.Eng.Pinned.mk rfl rfl | (apply Go.Eng.PinH.mk; apply Exists.intro; apply Exists.intro) | exact Go.Eng.Fin0.mk | refine Go.Eng.Chk.mk ?_ ?_ | refine Own.l ?_ | (refine Br.mkY ?h ?_; case h => first | omega | assumption) | (refine Br.mkN ?h ?_; case h => first | omega | assumption | exact not_not_intro (by assumption)) | fail))
                refine ⟨(i + 1 : Nat), by show S.length - (i + 1) < S.length - i; omega, arr e, ?_⟩
                (repeat' (first | exact trivial | rfl | exact Nat.one_pos | (refine And.intro ?_ ?_) | omega | ((conv => whnf); (refine And.intro ?_ ?_)) | ((conv => whnf); exact trivial)))
                · exact hs1.trans (congrArg (bitsL n) (congrArg CS.st e).symm)
                · exact congrArg (bitsL n) (congrArg CS.pr e).symm
          · rename_i m2
            (repeat' ((conv => whnf); first | (refine Giv.mk fun _ => ?_) | (refine Alt.l (Need.mk ?h ?_); case h => omega) | (refine Alt.r (Need.mk ?h ?_); case h => omega) | (refine Need.mk ?h ?_; case h => first | omega | (intro _; rfl) | assumption | (simp <;> omega)) | refine Ix.zero ?_ | refine Ix.one ?_ | refine Ix.two ?_ | refine Ix.nat ?_ | refine Ix.add ?_ | (apply Go.Eng.Pin.mk; apply Exists.intro) | apply Go.Eng.Pinned.mk rfl rfl | (apply Go.Eng.PinH.mk; apply Exists.intro; apply Exists.intro) | exact Go.Eng.Fin0.mk | refine Go.Eng.Chk.mk ?_ ?_ | refine Own.l ?_ | (refine Br.mkY ?h ?_; case h => first | omega | assumption) | (refine Br.mkN ?h ?_; case h => first | omega | assumption | exact not_not_intro (by assumption)) | fail))
            refine ix_at (S.getD i (0, 0)).2.toNat (by omega) ?_
            (repeat' ((conv => whnf); first | (refine Giv.mk fun _ => ?_) | (refine Alt.l (Need.mk ?h ?_); case h => omega) | (refine Alt.r (Need.mk ?h ?_); case h => omega) | (refine Need.mk ?h ?_; case h => first | omega | (intro _; rfl) | assumption | (simp <;> omega)) | refine Ix.zero ?_ | refine Ix.one ?_ | refine Ix.two ?_ | refine Ix.nat ?_ | refine Ix.add ?_ | (apply Go.Eng.Pin.mk; apply Exists.intro) | apply Go.Eng.Pinned.mk rfl rfl | (apply Go.Eng.PinH.mk; apply Exists.intro; apply Exists.intro) | exact Go.Eng.Fin0.mk | refine Go.Eng.Chk.mk ?_ ?_ | refine Own.l ?_ | (refine Br.mkY ?h ?_; case h => first | omega | assumption) | (refine Br.mkN ?h ?_; case h => first | omega | assumption | exact not_not_intro (by assumption)) | fail))
            exact ⟨rfl, bad fun e => m2 (hcd.1 e).1.2⟩
        · rename_i m1
          rw [g1, decide_eq_true_iff] at m1
          (repeat' ((conv => whnf); first | (refine Giv.mk fun _ => ?_) | (refine Alt.l (Need.mk ?h ?_); case h => omega) | (refine Alt.r (Need.mk ?h ?_); case h => omega) | (refine Need.mk ?h ?_; case h => first | omega | (intro _; rfl) | assumption | (simp <;> omega)) | refine Ix.zero ?_ | refine Ix.one ?_ | refine Ix.two ?_ | refine Ix.nat ?_ | refine Ix.add ?_ | (apply Go.Eng.Pin.mk; apply Exists.intro) | apply Go.Eng.Pinned.mk rfl rfl | (apply Go.Eng.PinH.mk; apply Exists.intro; apply Exists.intro) | exact Go.Eng.Fin0.mk | refine Go.Eng.Chk.mk ?_ ?_ | refine Own.l ?_ | (refine Br.mkY ?h ?_; case h => first | omega | assumption) | (refine Br.mkN ?h ?_; case h => first | omega | assumption | exact not_not_intro (by assumption)) | fail))
          refine ix_at (S.getD i (0, 0)).2.toNat (by omega) ?_
          (repeat' ((conv => whnf); first | (refine Giv.mk fun _ => ?_) | (refine Alt.l (Need.mk ?h ?_); case h => omega) | (refine Alt.r (Need.mk ?h ?_); case h => omega) | (refine Need.mk ?h ?_; case h => first | omega | (intro _; rfl) | assumption | (simp <;> omega)) | refine Ix.zero ?_ | refine Ix.one ?_ | refine Ix.two ?_ | refine Ix.nat ?_ | refine Ix.add ?_ | (apply Go.Eng.Pin.mk; apply Exists.intro) | apply Go.Eng.Pinned.mk rfl rfl | (apply Go.Eng.PinH.mk; apply Exists.intro; apply Exists.intro) | exact Go.Eng.Fin0.mk | refine Go.Eng.Chk.mk ?_ ?_ | refine Own.l ?_ | (refine Br.mkY ?h ?_; case h => first | omega | assumption) | (refine Br.mkN ?h ?_; case h => first | omega | assumption | exact not_not_intro (by assumption)) | fail))
          exact ⟨rfl, bad fun e => m1 (hcd.1 e).1.1⟩
      · rename_i k1
        (repeat' ((conv => whnf); first | (refine Giv.mk fun _ => ?_) | (refine Alt.l (Need.mk ?h ?_); case h => omega) | (refine Alt.r (Need.mk ?h ?_); case h => omega) | (refine Need.mk ?h ?_; case h => first | omega | (intro _; rfl) | assumption | (simp <;> omega)) | refine Ix.zero ?_ | refine Ix.one ?_ | refine Ix.two ?_ | refine Ix.nat ?_ | refine Ix.add ?_ | (apply Go.Eng.Pin.mk; apply Exists.intro) | apply Go.Eng.Pinned.mk rfl rfl | (apply Go.Eng.PinH.mk; apply Exists.intro; apply Exists.intro) | exact Go.Eng.Fin0.mk | refine Go.Eng.Chk.mk ?_ ?_ | refine Own.l ?_ | (refine Br.mkY ?h ?_; case h => first | omega | assumption) | (refine Br.mkN ?h ?_; case h => first | omega | assumption | exact not_not_intro (by assumption)) | fail))
        (refine Br.mk (fun _ => ?_) (fun _ => ?_))
        · rename_i k2
          have hcd : canDo (onL n l) (restL n l) (doAt (onL n l) (restL n l) n S i) (S.getD i (0, 0)) ↔ ¬ hasW (doAt (onL n l) (restL n l) n S i).pr (S.getD i (0, 0)).2 := by unfold canDo; rw [if_neg k1, if_pos k2]
          (repeat' ((conv => whnf); first | (refine Giv.mk fun _ => ?_) | (refine Alt.l (Need.mk ?h ?_); case h => omega) | (refine Alt.r (Need.mk ?h ?_); case h => omega) | (refine Need.mk ?h ?_; case h => first | omega | (intro _; rfl) | assumption | (simp <;> omega)) | refine Ix.zero ?_ | refine Ix.one ?_ | refine Ix.two ?_ | refine Ix.nat ?_ | refine Ix.add ?_ | (apply Go.Eng.Pin.mk; apply Exists.intro) | apply Go.Eng.Pinned.mk rfl rfl | (apply Go.Eng.PinH.mk; apply Exists.intro; apply Exists.intro) | exact Go.Eng.Fin0.mk | refine Go.Eng.Chk.mk ?_ ?_ | refine Own.l ?_ | (refine Br.mkY ?h ?_; case h => first | omega | assumption) | (refine Br.mkN ?h ?_; case h => first | omega | assumption | exact not_not_intro (by assumption)) | fail))
          refine ix_at (S.getD i (0, 0)).2.toNat (by omega) ?_
          (repeat' ((conv => whnf); first | (refine Giv.mk fun _ => ?_) | (refine Alt.l (Need.mk ?h ?_); case h => omega) | (refine Alt.r (Need.mk ?h ?_); case h => omega) | (refine Need.mk ?h ?_; case h => first | omega | (intro _; rfl) | assumption | (simp <;> omega)) | refine Ix.zero ?_ | refine Ix.one ?_ | refine Ix.two ?_ | refine Ix.nat ?_ | refine Ix.add ?_ | (apply Go.Eng.Pin.mk; apply Exists.intro) | apply Go.Eng.Pinned.mk rfl rfl | (apply Go.Eng.PinH.mk; apply Exists.intro; apply Exists.intro) | exact Go.Eng.Fin0.mk | refine Go.Eng.Chk.mk ?_ ?_ | refine Own.l ?_ | (refine Br.mkY ?h ?_; case h => first | omega | assumption) | (refine Br.mkN ?h ?_; case h => first | omega | assumption | exact not_not_intro (by assumption)) | fail))
          refine ix_at (S.getD i (0, 0)).2.toNat (by omega) ?_
          (repeat' ((conv => whnf); first | (refine Giv.mk fun _ => ?_) | (refine Alt.l (Need.mk ?h ?_); case h => omega) | (refine Alt.r (Need.mk ?h ?_); case h => omega) | (refine Need.mk ?h ?_; case h => first | omega | (intro _; rfl) | assumption | (simp <;> omega)) | refine Ix.zero ?_ | refine Ix.one ?_ | refine Ix.two ?_ | refine Ix.nat ?_ | refine Ix.add ?_ | (apply Go.Eng.Pin.mk; apply Exists.intro) | apply Go.Eng.Pinned.mk rfl rfl | (apply Go.Eng.PinH.mk; apply Exists.intro; apply Exists.intro) | exact Go.Eng.Fin0.mk | refine Go.Eng.Chk.mk ?_ ?_ | refine Own.l ?_ | (refine Br.mkY ?h ?_; case h => first | omega | assumption) | (refine Br.mkN ?h ?_; case h => first | omega | assumption | exact not_not_intro (by assumption)) | fail))
          (refine Br.mk (fun _ => ?_) (fun _ => ?_))
          · rename_i m1
            rw [g2, decide_eq_true_iff] at m1
            exact ⟨rfl, bad fun e => m1 (hcd.1 e)⟩
          · rename_i m1
            rw [g2, decide_eq_true_iff, Classical.not_not] at m1
            have e := hst
            rw [if_neg (Classical.not_not.2 (hcd.2 m1)), if_neg k1, if_pos k2] at e
            (repeat' ((conv => whnf); first | (refine Giv.mk fun _ => ?_) | (refine Alt.l (Need.mk ?h ?_); case h => omega) | (refine Alt.r (Need.mk ?h ?_); case h => omega) | (refine Need.mk ?h ?_; case h => first | omega | (intro _; rfl) | assumption | (simp <;> omega)) | refine Ix.zero ?_ | refine Ix.one ?_ | refine Ix.two ?_ | refine Ix.nat ?_ | refine Ix.add ?_ | (apply Go.Eng.Pin.mk; apply Exists.intro) | apply Go.Eng.Pinned.mk rfl rfl | (apply Go.Eng.PinH.mk; apply Exists.intro; apply Exists.intro) | exact Go.Eng.Fin0.mk | refine Go.Eng.Chk.mk ?_ ?_ | refine Own.l ?_ | (refine Br.mkY ?h ?_; case h => first | omega | assumption) | (refine Br.mkN ?h ?_; case h => first | omega | assumption | exact not_not_intro (by assumption)) | fail))
            refine ⟨(i + 1 : Nat), by show S.length - (i + 1) < S.length - i; omega, arr e, ?_⟩
            (repeat' (first | exact trivial | rfl | exact Nat.one_pos | (refine And.intro ?_ ?_) | omega | ((conv => whnf); (refine And.intro ?_ ?_)) | ((conv => whnf); exact trivial)))
            · exact congrArg (bitsL n) (congrArg CS.st e).symm
            · exact hs2.trans (congrArg (bitsL n) (congrArg CS.pr e).symm)
        · rename_i k2
          have hcd : canDo (onL n l) (restL n l) (doAt (onL n l) (restL n l) n S i) (S.getD i (0, 0)) ↔ hasW (doAt (onL n l) (restL n l) n S i).pr (S.getD i (0, 0)).2 ∧ (¬ hasW (doAt (onL n l) (restL n l) n S i).st (S.getD i (0, 0)).2 ∨ l.any (upP (S.getD i (0, 0)).2) = true) := by unfold canDo; rw [if_neg k1, if_neg k2, hra]
          (repeat' ((conv => whnf); first | (refine Giv.mk fun _ => ?_) | (refine Alt.l (Need.mk ?h ?_); case h => omega) | (refine Alt.r (Need.mk ?h ?_); case h => omega) | (refine Need.mk ?h ?_; case h => first | omega | (intro _; rfl) | assumption | (simp <;> omega)) | refine Ix.zero ?_ | refine Ix.one ?_ | refine Ix.two ?_ | refine Ix.nat ?_ | refine Ix.add ?_ | (apply Go.Eng.Pin.mk; apply Exists.intro) | apply Go.Eng.Pinned.mk rfl rfl | (apply Go.Eng.PinH.mk; apply Exists.intro; apply Exists.intro) | exact Go.Eng.Fin0.mk | refine Go.Eng.Chk.mk ?_ ?_ | refine Own.l ?_ | (refine Br.mkY ?h ?_; case h => first | omega | assumption) | (refine Br.mkN ?h ?_; case h => first | omega | assumption | exact not_not_intro (by assumption)) | fail))
          refine ix_at (S.getD i (0, 0)).2.toNat (by omega) ?_
          (repeat' ((conv => whnf); first | (refine Giv.mk fun _ => ?_) | (refine Alt.l (Need.mk ?h ?_); case h => omega) | (refine Alt.r (Need.mk ?h ?_); case h => omega) | (refine Need.mk ?h ?_; case h => first | omega | (intro _; rfl) | assumption | (simp <;> omega)) | refine Ix.zero ?_ | refine Ix.one ?_ | refine Ix.two ?_ | refine Ix.nat ?_ | refine Ix.add ?_ | (apply Go.Eng.Pin.mk; apply Exists.intro) | apply Go.Eng.Pinned.mk rfl rfl | (apply Go.Eng.PinH.mk; apply Exists.intro; apply Exists.intro) | exact Go.Eng.Fin0.mk | refine Go.Eng.Chk.mk ?_ ?_ | refine Own.l ?_ | (refine Br.mkY ?h ?_; case h => first | omega | assumption) | (refine Br.mkN ?h ?_; case h => first | omega | assumption | exact not_not_intro (by assumption)) | fail))
          (refine Br.mk (fun _ => ?_) (fun _ => ?_))
          · rename_i m1
            rw [g2, decide_eq_true_iff] at m1
            (repeat' ((conv => whnf); first | (refine Giv.mk fun _ => ?_) | (refine Alt.l (Need.mk ?h ?_); case h => omega) | (refine Alt.r (Need.mk ?h ?_); case h => omega) | (refine Need.mk ?h ?_; case h => first | omega | (intro _; rfl) | assumption | (simp <;> omega)) | refine Ix.zero ?_ | refine Ix.one ?_ | refine Ix.two ?_ | refine Ix.nat ?_ | refine Ix.add ?_ | (apply Go.Eng.Pin.mk; apply Exists.intro) | apply Go.Eng.Pinned.mk rfl rfl | (apply Go.Eng.PinH.mk; apply Exists.intro; apply Exists.intro) | exact Go.Eng.Fin0.mk | refine Go.Eng.Chk.mk ?_ ?_ | refine Own.l ?_ | (refine Br.mkY ?h ?_; case h => first | omega | assumption) | (refine Br.mkN ?h ?_; case h => first | omega | assumption | exact not_not_intro (by assumption)) | fail))
            refine ix_at (S.getD i (0, 0)).2.toNat (by omega) ?_
            (repeat' ((conv => whnf); first | (refine Giv.mk fun _ => ?_) | (refine Alt.l (Need.mk ?h ?_); case h => omega) | (refine Alt.r (Need.mk ?h ?_); case h => omega) | (refine Need.mk ?h ?_; case h => first | omega | (intro _; rfl) | assumption | (simp <;> omega)) | refine Ix.zero ?_ | refine Ix.one ?_ | refine Ix.two ?_ | refine Ix.nat ?_ | refine Ix.add ?_ | (apply Go.Eng.Pin.mk; apply Exists.intro) | apply Go.Eng.Pinned.mk rfl rfl | (apply Go.Eng.PinH.mk; apply Exists.intro; apply Exists.intro) | exact Go.Eng.Fin0.mk | refine Go.Eng.Chk.mk ?_ ?_ | refine Own.l ?_ | (refine Br.mkY ?h ?_; case h => first | omega | assumption) | (refine Br.mkN ?h ?_; case h => first | omega | assumption | exact not_not_intro (by assumption)) | fail))
            (refine Br.mk (fun _ => ?_) (fun _ => ?_))
            · rename_i m2
              rw [g1, decide_eq_true_iff] at m2
              have e := hst
              rw [if_neg (Classical.not_not.2 (hcd.2 ⟨m1, .inl m2⟩)), if_neg k1, if_neg k2] at e
              (repeat' ((conv => whnf); first | (refine Giv.mk fun _ => ?_) | (refine Alt.l (Need.mk ?h ?_); case h => omega) | (refine Alt.r (Need.mk ?h ?_); case h => omega) | (refine Need.mk ?h ?_; case h => first | omega | (intro _; rfl) | assumption | (simp <;> omega)) | refine Ix.zero ?_ | refine Ix.one ?_ | refine Ix.two ?_ | refine Ix.nat ?_ | refine Ix.add ?_ | (apply Go.Eng.Pin.mk; apply Exists.intro) | apply Go.Eng.Pinned.mk rfl rfl | (apply Go.Eng.PinH.mk; apply Exists.intro; apply Exists.intro) | exact Go.Eng.Fin0.mk | refine Go.Eng.Chk.mk ?_ ?_ | refine Own.l ?_ | (refine Br.mkY ?h ?_; case h => first | omega | assumption) | (refine Br.mkN ?h ?_; case h => first | omega | assumption | exact not_not_intro (by assumption)) | fail))
              refine ix_at (S.getD i (0, 0)).2.toNat (by omega) ?_
              (repeat' ((conv => whnf); first | (refine Giv.mk fun _ => ?_) | (refine Alt.l (Need.mk ?h ?_); case h => omega) | (refine Alt.r (Need.mk ?h ?_); case h => omega) | (refine Need.mk ?h ?_; case h => first | omega | (intro _; rfl) | assumption | (simp <;> omega)) | refine Ix.zero ?_ | refine Ix.one ?_ | refine Ix.two ?_ | refine Ix.nat ?_ | refine Ix.add ?_ | (apply Go.Eng.Pin.mk; apply Exists.intro) | apply Go.Eng.Pinned.mk rfl rfl | (apply Go.Eng.PinH.mk; apply Exists.intro; apply Exists.intro) | exact Go.Eng.Fin0.mk | refine Go.Eng.Chk.mk ?_ ?_ | refine Own.l ?_ | (refine Br.mkY ?h ?_; case h => first | omega | assumption) | (refine Br.mkN ?h ?_; case h => first | omega | assumption | exact not_not_intro (by assumption)) | fail))
              refine ⟨(i + 1 : Nat), by show S.length - (i + 1) < S.length - i; omega, arr e, ?_⟩
              (repeat' (first | exact trivial | rfl | exact Nat.one_pos | (refine And.intro ?_ ?_) | omega | ((conv => whnf); (refine And.intro ?_ ?_)) | ((conv => whnf); exact trivial)))
              · exact congrArg (bitsL n) (congrArg CS.st e).symm
              · exact hs3.trans (congrArg (bitsL n) (congrArg CS.pr e).symm)
            · rename_i m2
              rw [g1, decide_eq_true_iff, Classical.not_not] at m2
              (repeat' ((conv => whnf); first | (refine Giv.mk fun _ => ?_) | (refine Alt.l (Need.mk ?h ?_); case h => omega) | (refine Alt.r (Need.mk ?h ?_); case h => omega) | (refine Need.mk ?h ?_; case h => first | omega | (intro _; rfl) | assumption | (simp <;> omega)) | refine Ix.zero ?_ | refine Ix.one ?_ | refine Ix.two ?_ | refine Ix.nat ?_ | refine Ix.add ?_ | (apply Go.Eng.Pin.mk; apply Exists.intro) | apply Go.Eng.Pinned.mk rfl rfl | (apply Go.Eng.PinH.mk; apply Exists.intro; apply Exists.intro) | exact Go.Eng.Fin0.mk | refine Go.Eng.Chk.mk ?_ ?_ | refine Own.l ?_ | (refine Br.mkY ?h ?_; case h => first | omega | assumption) | (refine Br.mkN ?h ?_; case h => first | omega | assumption | exact not_not_intro (by assumption)) | fail))
              refine ix_at (S.getD i (0, 0)).2.toNat (by omega) ?_
              (repeat' ((conv => whnf); first | (refine Giv.mk fun _ => ?_) | (refine Alt.l (Need.mk ?h ?_); case h => omega) | (refine Alt.r (Need.mk ?h ?_); case h => omega) | (refine Need.mk ?h ?_; case h => first | omega | (intro _; rfl) | assumption | (simp <;> omega)) | refine Ix.zero ?_ | refine Ix.one ?_ | refine Ix.two ?_ | refine Ix.nat ?_ | refine Ix.add ?_ | (apply Go.Eng.Pin.mk; apply Exists.intro) | apply Go.Eng.Pinned.mk rfl rfl | (apply Go.Eng.PinH.mk; apply Exists.intro; apply Exists.intro) | exact Go.Eng.Fin0.mk | refine Go.Eng.Chk.mk ?_ ?_ | refine Own.l ?_ | (refine Br.mkY ?h ?_; case h => first | omega | assumption) | (refine Br.mkN ?h ?_; case h => first | omega | assumption | exact not_not_intro (by assumption)) | fail))
              (refine Br.mk (fun _ => ?_) (fun _ => ?_))
              · rename_i m3
                exact ⟨rfl, bad fun e => m3 ((hcd.1 e).2.resolve_left (fun h => h m2))⟩
              · rename_i m3
                have e := hst
                rw [if_neg (Classical.not_not.2 (hcd.2 ⟨m1, .inr (Classical.not_not.1 m3)⟩)), if_neg k1, if_neg k2] at e
                (repeat' ((conv => whnf); first | (refine Giv.mk fun _ => ?_) | (refine Alt.l (Need.mk ?h ?_); case h => omega) | (refine Alt.r (Need.mk ?h ?_); case h => omega) | (refine Need.mk ?h ?_; case h => first | omega | (intro _; rfl) | assumption | (simp <;> omega)) | refine Ix.zero ?_ | refine Ix.one ?_ | refine Ix.two ?_ | refine Ix.nat ?_ | refine Ix.add ?_ | (apply Go.Eng.Pin.mk; apply Exists.intro) | apply Go.Eng.Pinned.mk rfl rfl | (apply Go.Eng.PinH.mk; apply Exists.intro; apply Exists.intro) | exact Go.Eng.Fin0.mk | refine Go.Eng.Chk.mk ?_ ?_ | refine Own.l ?_ | (refine Br.mkY ?h ?_; case h => first | omega | assumption) | (refine Br.mkN ?h ?_; case h => first | omega | assumption | exact not_not_intro (by assumption)) | fail))
                refine ⟨(i + 1 : Nat), by show S.length - (i + 1) < S.length - i; omega, arr e, ?_⟩
                (repeat' (first | exact trivial | rfl | exact Nat.one_pos | (refine And.intro ?_ ?_) | omega | ((conv => whnf); (refine And.intro ?_ ?_)) | ((conv => whnf); exact trivial)))
                · exact congrArg (bitsL n) (congrArg CS.st e).symm
                · exact hs3.trans (congrArg (bitsL n) (congrArg CS.pr e).symm)
          · rename_i m1
            rw [g2, decide_eq_true_iff] at m1
            (repeat' ((conv => whnf); first | (refine Giv.mk fun _ => ?_) | (refine Alt.l (Need.mk ?h ?_); case h => omega) | (refine Alt.r (Need.mk ?h ?_); case h => omega) | (refine Need.mk ?h ?_; case h => first | omega | (intro _; rfl) | assumption | (simp <;> omega)) | refine Ix.zero ?_ | refine Ix.one ?_ | refine Ix.two ?_ | refine Ix.nat ?_ | refine Ix.add ?_ | (apply Go.Eng.Pin.mk; apply Exists.intro) | apply Go.Eng.Pinned.mk rfl rfl | (apply Go.Eng.PinH.mk; apply Exists.intro; apply Exists.intro) | exact Go.Eng.Fin0.mk | refine Go.Eng.Chk.mk ?_ ?_ | refine Own.l ?_ | (refine Br.mkY ?h ?_; case h => first | omega | assumption) | (refine Br.mkN ?h ?_; case h => first | omega | assumption | exact not_not_intro (by assumption)) | fail))
            refine ix_at (S.getD i (0, 0)).2.toNat (by omega) ?_
            (repeat' ((conv => whnf); first | (refine Giv.mk fun _ => ?_) | (refine Alt.l (Need.mk ?h ?_); case h => omega) | (refine Alt.r (Need.mk ?h ?_); case h => omega) | (refine Need.mk ?h ?_; case h => first | omega | (intro _; rfl) | assumption | (simp <;> omega)) | refine Ix.zero ?_ | refine Ix.one ?_ | refine Ix.two ?_ | refine Ix.nat ?_ | refine Ix.add ?_ | (apply Go.Eng.Pin.mk; apply Exists.intro) | apply Go.Eng.Pinned.mk rfl rfl | (apply Go.Eng.PinH.mk; apply Exists.intro; apply Exists.intro) | exact Go.Eng.Fin0.mk | refine Go.Eng.Chk.mk ?_ ?_ | refine Own.l ?_ | (refine Br.mkY ?h ?_; case h => first | omega | assumption) | (refine Br.mkN ?h ?_; case h => first | omega | assumption | exact not_not_intro (by assumption)) | fail))
            exact ⟨rfl, bad fun e => m1 (hcd.1 e).1⟩
    · have hii : i = S.length := by omega
      subst hii
      have hend : checkE n l S = endE n (doAt (onL n l) (restL n l) n S S.length) := by unfold checkE; rw [if_neg (fun e => e h), if_neg (fun e => e hc)]
      unfold endE at hend
      rw [if_neg (by rw [he]; simp), hmm] at hend
      (repeat' ((conv => whnf); first | (refine Giv.mk fun _ => ?_) | (refine Alt.l (Need.mk ?h ?_); case h => omega) | (refine Alt.r (Need.mk ?h ?_); case h => omega) | (refine Need.mk ?h ?_; case h => first | omega | (intro _; rfl) | assumption | (simp <;> omega)) | refine Ix.zero ?_ | refine Ix.one ?_ | refine Ix.two ?_ | refine Ix.nat ?_ | refine Ix.add ?_ | (apply Go.Eng.Pin.mk; apply Exists.intro) | apply Go.Eng.Pinned.mk rfl rfl | (apply Go.Eng.PinH.mk; apply Exists.intro; apply Exists.intro) | exact Go.Eng.Fin0.mk | refine Go.Eng.Chk.mk ?_ ?_ | refine Own.l ?_ | fail))
      refine Ask.mk ⟨{ X := Nat, pre := fun j => j ≤ n.toNat ∧ ∀ q : Nat, q < j → hasW (doAt (onL n l) (restL n l) n S S.length).st q, mod := fun j _ => [(15, I j)], heap := fun j _ => [.vec 1 .bool (bitsL n (doAt (onL n l) (restL n l) n S S.length).st) 4, .vec 1 .bool (bitsL n (doAt (onL n l) (restL n l) n S S.length).pr) 4], mu := fun j => n.toNat - j }, rfl, ?_⟩
      (repeat' ((conv => whnf); first | (refine Giv.mk fun _ => ?_) | (refine Alt.l (Need.mk ?h ?_); case h => omega) | (refine Alt.r (Need.mk ?h ?_); case h => omega) | (refine Need.mk ?h ?_; case h => first | omega | (intro _; rfl) | assumption | (simp <;> omega)) | refine Ix.zero ?_ | refine Ix.one ?_ | refine Ix.two ?_ | refine Ix.nat ?_ | refine Ix.add ?_ | (apply Go.Eng.Pin.mk; apply Exists.intro) | apply Go.Eng.Pinned.mk rfl rfl | (apply Go.Eng.PinH.mk; apply Exists.intro; apply Exists.intro) | exact Go.Eng.Fin0.mk | refine Go.Eng.Chk.mk ?_ ?_ | refine Own.l ?_ | fail))
      refine ⟨⟨(0 : Nat), ⟨Nat.zero_le _, fun q hq => absurd hq (Nat.not_lt_zero _)⟩, ?_⟩, fun (j : Nat) hj => ?_⟩
      · (repeat' (first | exact trivial | rfl | exact Nat.one_pos | (refine And.intro ?_ ?_) | omega | ((conv => whnf); (refine And.intro ?_ ?_)) | ((conv => whnf); exact trivial)))
      · obtain ⟨hj, hall⟩ := hj
        (repeat' ((conv => whnf); first | (refine Giv.mk fun _ => ?_) | (refine Alt.l (Need.mk ?h ?_); case h => omega) | (refine Alt.r (Need.mk ?h ?_); case h => omega) | (refine Need.mk ?h ?_; case h => first | omega | (intro _; rfl) | assumption | (simp <;> omega)) | refine Ix.zero ?_ | refine Ix.one ?_ | refine Ix.two ?_ | refine Ix.nat ?_ | refine Ix.add ?_ | (apply Go.Eng.Pin.mk; apply Exists.intro) | apply Go.Eng.Pinned.mk rfl rfl | (apply Go.Eng.PinH.mk; apply Exists.intro; apply Exists.intro) | exact Go.Eng.Fin0.mk | refine Go.Eng.Chk.mk ?_ ?_ | refine Own.l ?_ | fail))
        (refine Br.mk (fun _ => ?_) (fun _ => ?_))
        · have g1 := bitsL_get n (doAt (onL n l) (restL n l) n S S.length).st j (by omega)
          (repeat' ((conv => whnf); first | (refine Giv.mk fun _ => ?_) | (refine Alt.l (Need.mk ?h ?_); case h => omega) | (refine Alt.r (Need.mk ?h ?_); case h => omega) | (refine Need.mk ?h ?_; case h => first | omega | (intro _; rfl) | assumption | (simp <;> omega)) | refine Ix.zero ?_ | refine Ix.one ?_ | refine Ix.two ?_ | refine Ix.nat ?_ | refine Ix.add ?_ | (apply Go.Eng.Pin.mk; apply Exists.intro) | apply Go.Eng.Pinned.mk rfl rfl | (apply Go.Eng.PinH.mk; apply Exists.intro; apply Exists.intro) | exact Go.Eng.Fin0.mk | refine Go.Eng.Chk.mk ?_ ?_ | refine Own.l ?_ | (refine Br.mkY ?h ?_; case h => first | omega | assumption) | (refine Br.mkN ?h ?_; case h => first | omega | assumption | exact not_not_intro (by assumption)) | fail))
          (refine Br.mk (fun _ => ?_) (fun _ => ?_))
          · rename_i m1
            rw [g1] at m1
            have hm := memL_less (n := n) (f := fun j => decide (hasW (doAt (onL n l) (restL n l) n S S.length).st j)) (by omega) (Bool.eq_false_iff.2 m1)
            rw [if_pos (by omega)] at hend
            (repeat' ((conv => whnf); first | (refine Giv.mk fun _ => ?_) | (refine Alt.l (Need.mk ?h ?_); case h => omega) | (refine Alt.r (Need.mk ?h ?_); case h => omega) | (refine Need.mk ?h ?_; case h => first | omega | (intro _; rfl) | assumption | (simp <;> omega)) | refine Ix.zero ?_ | refine Ix.one ?_ | refine Ix.two ?_ | refine Ix.nat ?_ | refine Ix.add ?_ | (apply Go.Eng.Pin.mk; apply Exists.intro) | apply Go.Eng.Pinned.mk rfl rfl | (apply Go.Eng.PinH.mk; apply Exists.intro; apply Exists.intro) | exact Go.Eng.Fin0.mk | refine Go.Eng.Chk.mk ?_ ?_ | refine Own.l ?_ | (refine Br.mkY ?h ?_; case h => first | omega | assumption) | (refine Br.mkN ?h ?_; case h => first | omega | assumption | exact not_not_intro (by assumption)) | fail))
            (conv => whnf)
            exact ⟨rfl, hend.symm⟩
          · rename_i m1
            rw [g1, decide_eq_true_iff, Classical.not_not] at m1
            (repeat' ((conv => whnf); first | (refine Giv.mk fun _ => ?_) | (refine Alt.l (Need.mk ?h ?_); case h => omega) | (refine Alt.r (Need.mk ?h ?_); case h => omega) | (refine Need.mk ?h ?_; case h => first | omega | (intro _; rfl) | assumption | (simp <;> omega)) | refine Ix.zero ?_ | refine Ix.one ?_ | refine Ix.two ?_ | refine Ix.nat ?_ | refine Ix.add ?_ | (apply Go.Eng.Pin.mk; apply Exists.intro) | apply Go.Eng.Pinned.mk rfl rfl | (apply Go.Eng.PinH.mk; apply Exists.intro; apply Exists.intro) | exact Go.Eng.Fin0.mk | refine Go.Eng.Chk.mk ?_ ?_ | refine Own.l ?_ | (refine Br.mkY ?h ?_; case h => first | omega | assumption) | (refine Br.mkN ?h ?_; case h => first | omega | assumption | exact not_not_intro (by assumption)) | fail))
            refine ⟨(j + 1 : Nat), by show n.toNat - (j + 1) < n.toNat - j; omega, ⟨by show j + 1 ≤ n.toNat; omega, fun q hq => ?_⟩, by (repeat' (first | exact trivial | rfl | exact Nat.one_pos | (refine And.intro ?_ ?_) | omega | ((conv => whnf); (refine And.intro ?_ ?_)) | ((conv => whnf); exact trivial)))⟩
            by_cases e : q = j
            · subst e; exact m1
            · exact hall q (by omega)
        · have hm := memL_full (n := n) (f := fun j => decide (hasW (doAt (onL n l) (restL n l) n S S.length).st j)) fun q hq => decide_eq_true (hall q (by omega))
          rw [if_neg (by omega)] at hend
          (repeat' ((conv => whnf); first | (refine Giv.mk fun _ => ?_) | (refine Alt.l (Need.mk ?h ?_); case h => omega) | (refine Alt.r (Need.mk ?h ?_); case h => omega) | (refine Need.mk ?h ?_; case h => first | omega | (intro _; rfl) | assumption | (simp <;> omega)) | refine Ix.zero ?_ | refine Ix.one ?_ | refine Ix.two ?_ | refine Ix.nat ?_ | refine Ix.add ?_ | (apply Go.Eng.Pin.mk; apply Exists.intro) | apply Go.Eng.Pinned.mk rfl rfl | (apply Go.Eng.PinH.mk; apply Exists.intro; apply Exists.intro) | exact Go.Eng.Fin0.mk | refine Go.Eng.Chk.mk ?_ ?_ | refine Own.l ?_ | (refine Br.mkY ?h ?_; case h => first | omega | assumption) | (refine Br.mkN ?h ?_; case h => first | omega | assumption | exact not_not_intro (by assumption)) | fail))
          (conv => whnf)
          exact ⟨rfl, hend.symm⟩
def c35 : Con := mkCon 35 true fun args K => match args with | [.val (.int .i64 n), .seq (.pair (.int .i64) (.int .i64)) l, .seq (.pair (.int .i64) (.int .i64)) S] => K (I (checkE n l S)) | _ => False
theorem k35 : ConOK Try.prog c35 := by
  refine conOK_of rfl (enters_of Try.func35 (by kernel_rfl) rfl) ?_
  intro args K h
  simp only [c35] at h
  split at h
  · rename_i n l S; exact ⟨_, h, tri_of_body (Γ := [c58, c62, c63]) (by simp [k58, k62, k63]) Try.func35 (by simp [Try.ntmps35]) rfl (b35 n l S)⟩
  · exact h.elim
/-! ### ErectOrders -/
theorem b8 (n : Int) (l S : List (Int × Int)) (st : List Int) : body Try.prog [c13, c14, c16, c24, c25, c30, c31, c32, c33, c34, c35] {} true Try.f8 [I n, Ps l, Ps S, Ls st] (.val (.bool true)) := by
  (repeat' ((conv => whnf); first | (refine Giv.mk fun _ => ?_) | (refine Alt.l (Need.mk ?h ?_); case h => omega) | (refine Alt.r (Need.mk ?h ?_); case h => omega) | (refine Need.mk ?h ?_; case h => first | omega | (intro _; rfl) | assumption | (simp <;> omega)) | refine Ix.zero ?_ | refine Ix.one ?_ | refine Ix.two ?_ | refine Ix.nat ?_ | refine Ix.add ?_ | (apply Go.Eng.Pin.mk; apply Exists.intro) | apply Go.Eng.Pinned.mk rfl rfl | (apply Go.Eng.PinH.mk; apply Exists.intro; apply Exists.intro) | exact Go.Eng.Fin0.mk | refine Go.Eng.Chk.mk ?_ ?_ | refine Own.l ?_ | fail))
  (repeat' ((conv => whnf); first | (refine Giv.mk fun _ => ?_) | (refine Alt.l (Need.mk ?h ?_); case h => omega) | (refine Alt.r (Need.mk ?h ?_); case h => omega) | (refine Need.mk ?h ?_; case h => first | omega | (intro _; rfl) | assumption | (simp <;> omega)) | refine Ix.zero ?_ | refine Ix.one ?_ | refine Ix.two ?_ | refine Ix.nat ?_ | refine Ix.add ?_ | (apply Go.Eng.Pin.mk; apply Exists.intro) | apply Go.Eng.Pinned.mk rfl rfl | (apply Go.Eng.PinH.mk; apply Exists.intro; apply Exists.intro) | exact Go.Eng.Fin0.mk | refine Go.Eng.Chk.mk ?_ ?_ | refine Own.l ?_ | (refine Br.mkY ?h ?_; case h => first | omega | assumption) | (refine Br.mkN ?h ?_; case h => first | omega | assumption | exact not_not_intro (by assumption)) | (refine Br.mk (fun _ => ?_) (fun _ => ?_)) | fail))
  all_goals (try (conv => whnf))
  all_goals (rename_i hh; exact absurd rfl hh)
theorem t8 (n : Int) (l S : List (Int × Int)) (st : List Int) (hn : inK .i64 n) (hl : Okd (.slice Two) l) (hS : Okd (.slice Two) S) (hs : Okd (.slice (.int .i64)) st) :
    Tri Try.prog true 8 [I n, Ps l, Ps S, Ls st] (.val (.bool true)) :=
  tri_of_body (Γ := [c13, c14, c16, c24, c25, c30, c31, c32, c33, c34, c35]) (by simp [k13, k14, k16, k24, k25, k30, k31, k32, k33, k34, k35]) Try.func8 (by simp [Try.ntmps8]) rfl (b8 n l S st)
end EB
end
section
set_option linter.unusedVariables false
open Go Go.Proofs Go.Eng Go.Shelf
set_option linter.unusedVariables false
namespace EB
set_option maxRecDepth 10000
/-! ### Products of small numbers -/
abbrev U6 (n : Int) : SV := .val (.int .u64 n)
theorem and_mask {y : Int} (h : 0 ≤ y ∧ y ≤ 1000000) : bitsI .and .u64 y 4294967295 = y := by
  obtain ⟨n, rfl⟩ := Int.eq_ofNat_of_zero_le h.1
  have hn : n ≤ 1000000 := by omega
  have := and_nat n 4294967295 (by omega) (by omega)
  rw [show (4294967295 : Int) = ((4294967295 : Nat) : Int) from rfl, this]
  have e : n &&& 4294967295 = n % 2 ^ 32 := Nat.and_two_pow_sub_one_eq_mod n 32
  rw [e, Nat.mod_eq_of_lt (by omega)]
theorem shr_small {y : Int} (h : 0 ≤ y ∧ y ≤ 1000000) : shrI .u64 y 32 = 0 := by
  unfold shrI
  have e : (2 : Int) ^ (min (32 : Int).toNat IntKind.u64.bits) = 4294967296 := by decide
  rw [e, Int.fdiv_eq_ediv_of_nonneg _ (by decide)]
  omega
theorem b77 (y : Int) (h : 0 ≤ y ∧ y ≤ 1000000) : body Try.prog [] {} true Try.f77 [U6 1, U6 y] (.tup [U6 0, U6 y]) := by
  have a1 : bitsI .and .u64 1 4294967295 = 1 := and_mask ⟨by omega, by omega⟩
  have a2 := and_mask h
  have a3 : shrI .u64 1 32 = 0 := shr_small ⟨by omega, by omega⟩
  have a4 := shr_small h
  have a5 : bitsI .and .u64 0 4294967295 = 0 := and_mask ⟨by omega, by omega⟩
  have a6 : shrI .u64 0 32 = 0 := shr_small ⟨by omega, by omega⟩
  (repeat' ((conv => whnf); first | (refine Giv.mk fun _ => ?_) | (refine Alt.l (Need.mk ?h ?_); case h => omega) | (refine Alt.r (Need.mk ?h ?_); case h => omega) | (refine Need.mk ?h ?_; case h => first | omega | (intro _; rfl) | assumption | (simp <;> omega)) | refine Ix.zero ?_ | refine Ix.one ?_ | refine Ix.two ?_ | refine Ix.nat ?_ | refine Ix.add ?_ | (apply Go.Eng.Pin.mk; apply Exists.intro) | apply Go.Eng.Pinned.mk rfl rfl | (apply Go.Eng.PinH.mk; apply Exists.intro; apply Exists.intro) | exact Go.Eng.Fin0.mk | refine Go.Eng.Chk.mk ?_ ?_ | refine Own.l ?_ | fail))
  simp only [a1, a2, a3, a4]
  (repeat' ((conv => whnf); first | (refine Giv.mk fun _ => ?_) | (refine Alt.l (Need.mk ?h ?_); case h => omega) | (refine Alt.r (Need.mk ?h ?_); case h => omega) | (refine Need.mk ?h ?_; case h => first | omega | (intro _; rfl) | assumption | (simp <;> omega)) | refine Ix.zero ?_ | refine Ix.one ?_ | refine Ix.two ?_ | refine Ix.nat ?_ | refine Ix.add ?_ | (apply Go.Eng.Pin.mk; apply Exists.intro) | apply Go.Eng.Pinned.mk rfl rfl | (apply Go.Eng.PinH.mk; apply Exists.intro; apply Exists.intro) | exact Go.Eng.Fin0.mk | refine Go.Eng.Chk.mk ?_ ?_ | refine Own.l ?_ | fail))
  simp only [Int.one_mul, Int.zero_mul, Int.add_zero, a4, a5, a6]
  (repeat' ((conv => whnf); first | (refine Giv.mk fun _ => ?_) | (refine Alt.l (Need.mk ?h ?_); case h => omega) | (refine Alt.r (Need.mk ?h ?_); case h => omega) | (refine Need.mk ?h ?_; case h => first | omega | (intro _; rfl) | assumption | (simp <;> omega)) | refine Ix.zero ?_ | refine Ix.one ?_ | refine Ix.two ?_ | refine Ix.nat ?_ | refine Ix.add ?_ | (apply Go.Eng.Pin.mk; apply Exists.intro) | apply Go.Eng.Pinned.mk rfl rfl | (apply Go.Eng.PinH.mk; apply Exists.intro; apply Exists.intro) | exact Go.Eng.Fin0.mk | refine Go.Eng.Chk.mk ?_ ?_ | refine Own.l ?_ | fail))
  have a7 : (0 * 0 + 0 + shrI .u64 (0 + 0) 32 : Int) = 0 := by rw [show (0 : Int) + 0 = 0 from rfl, a6]; rfl
  (repeat' (first | exact trivial | rfl | exact Nat.one_pos | (refine And.intro ?_ ?_) | ((conv => whnf); (refine And.intro ?_ ?_)) | ((conv => whnf); exact trivial)))
  all_goals (conv => whnf)
  all_goals (repeat' (first | exact trivial | rfl | exact Nat.one_pos | (refine And.intro ?_ ?_) | ((conv => whnf); (refine And.intro ?_ ?_)) | ((conv => whnf); exact trivial)))
  exact Int.one_mul y
def c77 : Con := mkCon 77 true fun args K => match args with | [.val (.int .u64 1), .val (.int .u64 y)] => Need (0 ≤ y ∧ y ≤ 1000000) (K (.tup [U6 0, U6 y])) | _ => False
theorem k77 : ConOK Try.prog c77 := by
  refine conOK_of rfl (enters_of Try.func77 (by kernel_rfl) rfl) ?_
  intro args K h
  simp only [c77] at h
  split at h
  · rename_i y; exact ⟨_, h.go, tri_of_body (Γ := []) (by simp) Try.func77 (by simp [Try.ntmps77]) rfl (b77 y h.ok)⟩
  · exact h.elim
theorem b64 (y : Int) (h : 0 ≤ y ∧ y ≤ 1000000) : body Try.prog [c77] {} true Try.f64 [U6 1, U6 y] (.tup [U6 0, U6 y]) := by
  (repeat' ((conv => whnf); first | (refine Giv.mk fun _ => ?_) | (refine Alt.l (Need.mk ?h ?_); case h => omega) | (refine Alt.r (Need.mk ?h ?_); case h => omega) | (refine Need.mk ?h ?_; case h => first | omega | (intro _; rfl) | assumption | (simp <;> omega)) | refine Ix.zero ?_ | refine Ix.one ?_ | refine Ix.two ?_ | refine Ix.nat ?_ | refine Ix.add ?_ | (apply Go.Eng.Pin.mk; apply Exists.intro) | apply Go.Eng.Pinned.mk rfl rfl | (apply Go.Eng.PinH.mk; apply Exists.intro; apply Exists.intro) | exact Go.Eng.Fin0.mk | refine Go.Eng.Chk.mk ?_ ?_ | refine Own.l ?_ | fail))
  (conv => whnf)
  (repeat' (first | exact trivial | rfl | exact Nat.one_pos | (refine And.intro ?_ ?_) | ((conv => whnf); (refine And.intro ?_ ?_)) | ((conv => whnf); exact trivial)))
def c64 : Con := mkCon 64 true fun args K => match args with | [.val (.int .u64 1), .val (.int .u64 y)] => Need (0 ≤ y ∧ y ≤ 1000000) (K (.tup [U6 0, U6 y])) | _ => False
theorem k64 : ConOK Try.prog c64 := by
  refine conOK_of rfl (enters_of Try.func64 (by kernel_rfl) rfl) ?_
  intro args K h
  simp only [c64] at h
  split at h
  · rename_i y; exact ⟨_, h.go, tri_of_body (Γ := [c77]) (by simp [k77]) Try.func64 (by simp [Try.ntmps64]) rfl (b64 y h.ok)⟩
  · exact h.elim
/-! ### slices.Repeat of one truth -/
def repL {α : Type} (v z : α) (n k : Nat) : List α := List.replicate (min k n) v ++ List.replicate (n - k) z
theorem repL_len {α : Type} (v z : α) (n k : Nat) : (repL v z n k).length = n := by simp [repL]; omega
theorem repL_all {α : Type} (v z : α) (n k : Nat) (h : n ≤ k) : repL v z n k = List.replicate n v := by
  unfold repL
  rw [Nat.min_eq_right h, show n - k = 0 by omega]; simp
theorem repL_zero {α : Type} (v z : α) (n : Nat) : repL v z n 0 = List.replicate n z := by simp [repL]
theorem repL_first {α : Type} (v z : α) (n : Nat) : layL (List.replicate n z) 0 ([v].take n) = repL v z n 1 := by
  cases n with
  | zero => rfl
  | succ m => simp [layL, repL, Nat.min_eq_left]
theorem repL_min {α : Type} (v z : α) (n : Nat) : repL v z n 1 = repL v z n (min 1 n) := by
  cases n with
  | zero => rfl
  | succ m => rw [Nat.min_eq_left (by omega)]
theorem repL_next {α : Type} (v z : α) (n k : Nat) (hk : k ≤ n) : layL (repL v z n k) k (((repL v z n k).take k).take (n - k)) = repL v z n (k + min k (n - k)) ∧ (((repL v z n k).take k).take (n - k)).length = min k (n - k) := by
  have e : (repL v z n k).take k = List.replicate k v := by
    unfold repL
    rw [Nat.min_eq_left hk, List.take_left' (by simp)]
  have e2 : ((repL v z n k).take k).take (n - k) = List.replicate (min k (n - k)) v := by rw [e, List.take_replicate, Nat.min_comm]
  rw [e2]
  refine ⟨?_, by simp⟩
  unfold layL repL
  rw [Nat.min_eq_left hk, List.take_left' (by simp), List.length_replicate, Nat.min_eq_left (by omega : k + min k (n - k) ≤ n), List.drop_append, List.length_replicate, List.drop_replicate, List.drop_replicate, List.replicate_append_replicate.symm, List.append_assoc]
  congr 2
  rw [show k - (k + min k (n - k)) = 0 by omega, List.replicate_zero, List.nil_append]
  congr 1
  omega
theorem b39 (n : Int) (h : 0 ≤ n ∧ n ≤ 100000) : bodyO Try.prog [c64] { asks := [(0, [])] } Try.f39 [.seq .bool [true], I n] (.ref 0 1) .bool (List.replicate n.toNat true) 4 := by
  obtain ⟨h1, h2⟩ := h
  (repeat' ((conv => whnf); first | (refine Giv.mk fun _ => ?_) | (refine Alt.l (Need.mk ?h ?_); case h => omega) | (refine Alt.r (Need.mk ?h ?_); case h => omega) | (refine Need.mk ?h ?_; case h => first | omega | (intro _; rfl) | assumption | (simp <;> omega)) | refine Ix.zero ?_ | refine Ix.one ?_ | refine Ix.two ?_ | refine Ix.nat ?_ | refine Ix.add ?_ | (apply Go.Eng.Pin.mk; apply Exists.intro) | apply Go.Eng.Pinned.mk rfl rfl | (apply Go.Eng.PinH.mk; apply Exists.intro; apply Exists.intro) | exact Go.Eng.Fin0.mk | refine Go.Eng.Chk.mk ?_ ?_ | refine Own.l ?_ | (refine Br.mkY ?h ?_; case h => first | omega | assumption) | (refine Br.mkN ?h ?_; case h => first | omega | assumption | exact not_not_intro (by assumption)) | fail))
  refine Need.mk (show 0 ≤ n ∧ n ≤ n ∧ n ≤ 140737488355328 ∧ n * ((1 : Nat) : Int) ≤ 140737488355328 by omega) ?_
  (repeat' ((conv => whnf); first | (refine Giv.mk fun _ => ?_) | (refine Alt.l (Need.mk ?h ?_); case h => omega) | (refine Alt.r (Need.mk ?h ?_); case h => omega) | (refine Need.mk ?h ?_; case h => first | omega | (intro _; rfl) | assumption | (simp <;> omega)) | refine Ix.zero ?_ | refine Ix.one ?_ | refine Ix.two ?_ | refine Ix.nat ?_ | refine Ix.add ?_ | (apply Go.Eng.Pin.mk; apply Exists.intro) | apply Go.Eng.Pinned.mk rfl rfl | (apply Go.Eng.PinH.mk; apply Exists.intro; apply Exists.intro) | exact Go.Eng.Fin0.mk | refine Go.Eng.Chk.mk ?_ ?_ | refine Own.l ?_ | (refine Br.mkY ?h ?_; case h => first | omega | assumption) | (refine Br.mkN ?h ?_; case h => first | omega | assumption | exact not_not_intro (by assumption)) | fail))
  have hf := repL_first true false n.toNat
  have hfl : ([true].take (n.toNat - 0)).length = min 1 n.toNat := by simp [Nat.min_comm]
  refine Ask.mk ⟨{ X := Nat, pre := fun k => k ≤ n.toNat ∧ (k = 0 → n.toNat = 0), mod := fun k _ => [(8, I k)], heap := fun k _ => [.vec 1 .bool [] 4, .vec 1 .bool (repL true false n.toNat k) 4], mu := fun k => n.toNat - k }, rfl, ?_⟩
  (repeat' ((conv => whnf); first | (refine Giv.mk fun _ => ?_) | (refine Alt.l (Need.mk ?h ?_); case h => omega) | (refine Alt.r (Need.mk ?h ?_); case h => omega) | (refine Need.mk ?h ?_; case h => first | omega | (intro _; rfl) | assumption | (simp <;> omega)) | refine Ix.zero ?_ | refine Ix.one ?_ | refine Ix.two ?_ | refine Ix.nat ?_ | refine Ix.add ?_ | (apply Go.Eng.Pin.mk; apply Exists.intro) | apply Go.Eng.Pinned.mk rfl rfl | (apply Go.Eng.PinH.mk; apply Exists.intro; apply Exists.intro) | exact Go.Eng.Fin0.mk | refine Go.Eng.Chk.mk ?_ ?_ | refine Own.l ?_ | fail))
  refine ⟨⟨min 1 n.toNat, ⟨by omega, by omega⟩, ?_⟩, fun (k : Nat) hk => ?_⟩
  · (repeat' (first | exact trivial | rfl | exact Nat.one_pos | (refine And.intro ?_ ?_) | omega | ((conv => whnf); (refine And.intro ?_ ?_)) | ((conv => whnf); exact trivial)))
    · simp [Nat.min_comm]
    · rw [List.length_replicate, Nat.sub_zero, hf, repL_min]
      exact rfl
  · obtain ⟨hk, hk0⟩ := hk
    obtain ⟨e1, e2⟩ := repL_next true false n.toNat k hk
    have hrl := repL_len true false n.toNat k
    (repeat' ((conv => whnf); first | (refine Giv.mk fun _ => ?_) | (refine Alt.l (Need.mk ?h ?_); case h => omega) | (refine Alt.r (Need.mk ?h ?_); case h => omega) | (refine Need.mk ?h ?_; case h => first | omega | (intro _; rfl) | assumption | (simp <;> omega)) | refine Ix.zero ?_ | refine Ix.one ?_ | refine Ix.two ?_ | refine Ix.nat ?_ | refine Ix.add ?_ | (apply Go.Eng.Pin.mk; apply Exists.intro) | apply Go.Eng.Pinned.mk rfl rfl | (apply Go.Eng.PinH.mk; apply Exists.intro; apply Exists.intro) | exact Go.Eng.Fin0.mk | refine Go.Eng.Chk.mk ?_ ?_ | refine Own.l ?_ | fail))
    (refine Br.mk (fun _ => ?_) (fun _ => ?_))
    · have e3 : (((repL true false n.toNat k).take k).drop 0).take ((repL true false n.toNat k).length - k) = ((repL true false n.toNat k).take k).take (n.toNat - k) := by rw [List.drop_zero, hrl]
      (repeat' ((conv => whnf); first | (refine Giv.mk fun _ => ?_) | (refine Alt.l (Need.mk ?h ?_); case h => omega) | (refine Alt.r (Need.mk ?h ?_); case h => omega) | (refine Need.mk ?h ?_; case h => first | omega | (intro _; rfl) | assumption | (simp <;> omega)) | refine Ix.zero ?_ | refine Ix.one ?_ | refine Ix.two ?_ | refine Ix.nat ?_ | refine Ix.add ?_ | (apply Go.Eng.Pin.mk; apply Exists.intro) | apply Go.Eng.Pinned.mk rfl rfl | (apply Go.Eng.PinH.mk; apply Exists.intro; apply Exists.intro) | exact Go.Eng.Fin0.mk | refine Go.Eng.Chk.mk ?_ ?_ | refine Own.r ?_ | fail))
      refine ⟨k + min k (n.toNat - k), by show n.toNat - (k + min k (n.toNat - k)) < n.toNat - k; omega, ⟨by omega, by omega⟩, ?_⟩
      (repeat' (first | exact trivial | rfl | exact Nat.one_pos | (refine And.intro ?_ ?_) | omega | ((conv => whnf); (refine And.intro ?_ ?_)) | ((conv => whnf); exact trivial)))
      · rw [e3, e2]; omega
      · rw [e3, e1]
        exact rfl
    · have hall := repL_all true false n.toNat k (by omega)
      (repeat' ((conv => whnf); first | (refine Giv.mk fun _ => ?_) | (refine Alt.l (Need.mk ?h ?_); case h => omega) | (refine Alt.r (Need.mk ?h ?_); case h => omega) | (refine Need.mk ?h ?_; case h => first | omega | (intro _; rfl) | assumption | (simp <;> omega)) | refine Ix.zero ?_ | refine Ix.one ?_ | refine Ix.two ?_ | refine Ix.nat ?_ | refine Ix.add ?_ | (apply Go.Eng.Pin.mk; apply Exists.intro) | apply Go.Eng.Pinned.mk rfl rfl | (apply Go.Eng.PinH.mk; apply Exists.intro; apply Exists.intro) | exact Go.Eng.Fin0.mk | refine Go.Eng.Chk.mk ?_ ?_ | refine Own.l ?_ | (refine Br.mkY ?h ?_; case h => first | omega | assumption) | (refine Br.mkN ?h ?_; case h => first | omega | assumption | exact not_not_intro (by assumption)) | fail))
      (repeat' (first | exact trivial | rfl | exact Nat.one_pos | (refine And.intro ?_ ?_) | ((conv => whnf); (refine And.intro ?_ ?_)) | ((conv => whnf); exact trivial)))
      exact hall
def c39 : Con := ownCon 39 fun args K => match args with | [.seq .bool [true], .val (.int .i64 n)] => Need (0 ≤ n ∧ n ≤ 100000) (K (.ref 0 1) (.vec 1 (.bool) (List.replicate n.toNat true) 4)) | _ => False
theorem k39 : ConOK Try.prog c39 := by
  refine ownOK_of (enters_of Try.func39 (by kernel_rfl) rfl) ?_
  intro args K h
  split at h
  · rename_i n; exact ⟨_, _, _, _, _, h.go, fun hfl => otri_of_body (Γ := [c64]) (by simp [k64]) Try.func39 (by simp [Try.ntmps39]) hfl (b39 n h.ok)⟩
  · exact h.elim
/-! ### slices.Reverse -/
def revAt (xs : List (Int × Int)) (k : Nat) : List (Int × Int) := (List.range xs.length).map fun p => if p < k ∨ xs.length - k ≤ p then xs.getD (xs.length - 1 - p) (0, 0) else xs.getD p (0, 0)
theorem revAt_len (xs : List (Int × Int)) (k : Nat) : (revAt xs k).length = xs.length := by simp [revAt]
theorem revAt_get (xs : List (Int × Int)) (k p : Nat) (h : p < xs.length) : (revAt xs k).getD p (0, 0) = if p < k ∨ xs.length - k ≤ p then xs.getD (xs.length - 1 - p) (0, 0) else xs.getD p (0, 0) := by
  simp [revAt, List.getD_eq_getElem?_getD, h]
theorem set_getD {α : Type} (xs : List α) (i p : Nat) (v d : α) : (xs.set i v).getD p d = if p = i ∧ p < xs.length then v else xs.getD p d := by
  rw [List.getD_eq_getElem?_getD, List.getD_eq_getElem?_getD, List.getElem?_set]
  by_cases h : i = p
  · subst h
    by_cases h2 : i < xs.length
    · simp [h2]
    · simp [h2]
  · have : ¬ p = i := fun e => h e.symm
    simp [h, this]
theorem revAt_zero (xs : List (Int × Int)) : revAt xs 0 = xs := by
  refine pair_ext (revAt_len xs 0) fun p hp => ?_
  rw [revAt_len] at hp
  rw [revAt_get _ _ _ hp, if_neg (by omega)]
theorem revAt_step (xs : List (Int × Int)) (k : Nat) (h : 2 * k + 1 < xs.length) : ((revAt xs k).set k ((revAt xs k).getD (xs.length - 1 - k) (0, 0))).set (xs.length - 1 - k) ((revAt xs k).getD k (0, 0)) = revAt xs (k + 1) := by
  refine pair_ext (by simp [revAt_len]) fun p hp => ?_
  have hp : p < xs.length := by simpa [revAt_len] using hp
  rw [set_getD, set_getD, List.length_set, revAt_len, revAt_get _ _ _ hp, revAt_get _ _ _ hp, revAt_get _ _ _ (by omega), revAt_get _ _ _ (by omega)]
  by_cases h1 : p = xs.length - 1 - k
  · rw [if_pos ⟨h1, hp⟩, if_neg (by omega), if_pos (by omega)]
    congr 1; omega
  · rw [if_neg (fun h => h1 h.1)]
    by_cases h2 : p = k
    · rw [if_pos ⟨h2, hp⟩, if_neg (by omega), if_pos (by omega)]
      congr 1; omega
    · rw [if_neg (fun h => h2 h.1)]
      by_cases h3 : p < k ∨ xs.length - k ≤ p
      · rw [if_pos h3, if_pos (by omega)]
      · rw [if_neg h3, if_neg (by omega)]
theorem revAt_all (xs : List (Int × Int)) (k : Nat) (h : xs.length ≤ 2 * k + 1) : revAt xs k = xs.reverse := by
  refine pair_ext (by simp [revAt_len]) fun p hp => ?_
  have hp : p < xs.length := by simpa [revAt_len] using hp
  have e : xs.reverse.getD p (0, 0) = xs.getD (xs.length - 1 - p) (0, 0) := by
    rw [List.getD_eq_getElem?_getD, List.getD_eq_getElem?_getD, List.getElem?_reverse hp]
  rw [revAt_get _ _ _ hp, e]
  by_cases h3 : p < k ∨ xs.length - k ≤ p
  · rw [if_pos h3]
  · rw [if_neg h3]
    congr 1; omega
theorem b60 (xs : List (Int × Int)) (h : xs.length ≤ 100000) : bodyL Try.prog [] { asks := [(0, [])] } Try.f60 0 true [.any] Two xs 29 (.tup []) xs.reverse := by
  (repeat' ((conv => whnf); first | (refine Giv.mk fun _ => ?_) | (refine Alt.l (Need.mk ?h ?_); case h => omega) | (refine Alt.r (Need.mk ?h ?_); case h => omega) | (refine Need.mk ?h ?_; case h => first | omega | (intro _; rfl) | assumption | (simp <;> omega)) | refine Ix.zero ?_ | refine Ix.one ?_ | refine Ix.two ?_ | refine Ix.nat ?_ | refine Ix.add ?_ | (apply Go.Eng.Pin.mk; apply Exists.intro) | apply Go.Eng.Pinned.mk rfl rfl | (apply Go.Eng.PinH.mk; apply Exists.intro; apply Exists.intro) | exact Go.Eng.Fin0.mk | refine Go.Eng.Chk.mk ?_ ?_ | refine Own.l ?_ | fail))
  refine Ask.mk ⟨{ X := Nat, pre := fun k => 2 * k ≤ xs.length, mod := fun k _ => [(2, I k), (3, I ((xs.length : Int) - 1 - k))], heap := fun k _ => [.vec 1 Two (revAt xs k) 29], mu := fun k => xs.length - k }, rfl, ?_⟩
  (repeat' ((conv => whnf); first | (refine Giv.mk fun _ => ?_) | (refine Alt.l (Need.mk ?h ?_); case h => omega) | (refine Alt.r (Need.mk ?h ?_); case h => omega) | (refine Need.mk ?h ?_; case h => first | omega | (intro _; rfl) | assumption | (simp <;> omega)) | refine Ix.zero ?_ | refine Ix.one ?_ | refine Ix.two ?_ | refine Ix.nat ?_ | refine Ix.add ?_ | (apply Go.Eng.Pin.mk; apply Exists.intro) | apply Go.Eng.Pinned.mk rfl rfl | (apply Go.Eng.PinH.mk; apply Exists.intro; apply Exists.intro) | exact Go.Eng.Fin0.mk | refine Go.Eng.Chk.mk ?_ ?_ | refine Own.l ?_ | fail))
  refine ⟨⟨(0 : Nat), Nat.zero_le _, ?_⟩, fun (k : Nat) (hk : 2 * k ≤ xs.length) => ?_⟩
  · (repeat' (first | exact trivial | rfl | exact Nat.one_pos | (refine And.intro ?_ ?_) | omega | ((conv => whnf); (refine And.intro ?_ ?_)) | ((conv => whnf); exact trivial)))
    exact (revAt_zero xs).symm
  · have hl := revAt_len xs k
    (repeat' ((conv => whnf); first | (refine Giv.mk fun _ => ?_) | (refine Alt.l (Need.mk ?h ?_); case h => omega) | (refine Alt.r (Need.mk ?h ?_); case h => omega) | (refine Need.mk ?h ?_; case h => first | omega | (intro _; rfl) | assumption | (simp <;> omega)) | refine Ix.zero ?_ | refine Ix.one ?_ | refine Ix.two ?_ | refine Ix.nat ?_ | refine Ix.add ?_ | (apply Go.Eng.Pin.mk; apply Exists.intro) | apply Go.Eng.Pinned.mk rfl rfl | (apply Go.Eng.PinH.mk; apply Exists.intro; apply Exists.intro) | exact Go.Eng.Fin0.mk | refine Go.Eng.Chk.mk ?_ ?_ | refine Own.l ?_ | fail))
    (refine Br.mk (fun _ => ?_) (fun _ => ?_))
    · have hst := revAt_step xs k (by omega)
      have e1 : (xs.length : Int) - 1 - k = ((xs.length - 1 - k : Nat) : Int) := by omega
      (repeat' ((conv => whnf); first | (refine Giv.mk fun _ => ?_) | (refine Alt.l (Need.mk ?h ?_); case h => omega) | (refine Alt.r (Need.mk ?h ?_); case h => omega) | (refine Need.mk ?h ?_; case h => first | omega | (intro _; rfl) | assumption | (simp <;> omega)) | refine Ix.zero ?_ | refine Ix.one ?_ | refine Ix.two ?_ | refine Ix.nat ?_ | refine Ix.add ?_ | (apply Go.Eng.Pin.mk; apply Exists.intro) | apply Go.Eng.Pinned.mk rfl rfl | (apply Go.Eng.PinH.mk; apply Exists.intro; apply Exists.intro) | exact Go.Eng.Fin0.mk | refine Go.Eng.Chk.mk ?_ ?_ | refine Own.l ?_ | fail))
      refine ix_at (xs.length - 1 - k) e1 ?_
      (repeat' ((conv => whnf); first | (refine Giv.mk fun _ => ?_) | (refine Alt.l (Need.mk ?h ?_); case h => omega) | (refine Alt.r (Need.mk ?h ?_); case h => omega) | (refine Need.mk ?h ?_; case h => first | omega | (intro _; rfl) | assumption | (simp <;> omega)) | refine Ix.zero ?_ | refine Ix.one ?_ | refine Ix.two ?_ | refine Ix.nat ?_ | refine Ix.add ?_ | (apply Go.Eng.Pin.mk; apply Exists.intro) | apply Go.Eng.Pinned.mk rfl rfl | (apply Go.Eng.PinH.mk; apply Exists.intro; apply Exists.intro) | exact Go.Eng.Fin0.mk | refine Go.Eng.Chk.mk ?_ ?_ | refine Own.l ?_ | fail))
      refine ix_at (xs.length - 1 - k) e1 ?_
      (repeat' ((conv => whnf); first | (refine Giv.mk fun _ => ?_) | (refine Alt.l (Need.mk ?h ?_); case h => omega) | (refine Alt.r (Need.mk ?h ?_); case h => omega) | (refine Need.mk ?h ?_; case h => first | omega | (intro _; rfl) | assumption | (simp <;> omega)) | refine Ix.zero ?_ | refine Ix.one ?_ | refine Ix.two ?_ | refine Ix.nat ?_ | refine Ix.add ?_ | (apply Go.Eng.Pin.mk; apply Exists.intro) | apply Go.Eng.Pinned.mk rfl rfl | (apply Go.Eng.PinH.mk; apply Exists.intro; apply Exists.intro) | exact Go.Eng.Fin0.mk | refine Go.Eng.Chk.mk ?_ ?_ | refine Own.l ?_ | fail))
      refine ⟨(k + 1 : Nat), by show xs.length - (k + 1) < xs.length - k; omega, by show 2 * (k + 1) ≤ xs.length; omega, ?_⟩
      (repeat' (first | exact trivial | rfl | exact Nat.one_pos | (refine And.intro ?_ ?_) | omega | ((conv => whnf); (refine And.intro ?_ ?_)) | ((conv => whnf); exact trivial)))
      exact hst
    · have hall := revAt_all xs k (by omega)
      (repeat' ((conv => whnf); first | (refine Giv.mk fun _ => ?_) | (refine Alt.l (Need.mk ?h ?_); case h => omega) | (refine Alt.r (Need.mk ?h ?_); case h => omega) | (refine Need.mk ?h ?_; case h => first | omega | (intro _; rfl) | assumption | (simp <;> omega)) | refine Ix.zero ?_ | refine Ix.one ?_ | refine Ix.two ?_ | refine Ix.nat ?_ | refine Ix.add ?_ | (apply Go.Eng.Pin.mk; apply Exists.intro) | apply Go.Eng.Pinned.mk rfl rfl | (apply Go.Eng.PinH.mk; apply Exists.intro; apply Exists.intro) | exact Go.Eng.Fin0.mk | refine Go.Eng.Chk.mk ?_ ?_ | refine Own.l ?_ | fail))
      (repeat' (first | exact trivial | rfl | exact Nat.one_pos | (refine And.intro ?_ ?_) | ((conv => whnf); (refine And.intro ?_ ?_)) | ((conv => whnf); exact trivial)))
      exact hall
def c60 : Con := linCon 60 0 true fun args o K => match args, o with | [.any], .vec 1 (.pair (.int .i64) (.int .i64)) ws 29 => Need (ws.length ≤ 100000) (K (.tup []) (.vec 1 (.pair (.int .i64) (.int .i64)) (ws.reverse) 29)) | _, _ => False
theorem k60 : ConOK Try.prog c60 := by
  refine linOK_of (enters_of Try.func60 (by kernel_rfl) rfl) ?_
  intro args t xs e K hfl h
  split at h
  · rename_i zs heq
    cases heq
    first | exact ⟨_, _, h.go, ltri_of_body (Γ := []) (by simp) Try.func60 (by simp [Try.ntmps60]) rfl (b60 zs h.ok)⟩ | exact ⟨_, _, h.go, ltri_of_body (Γ := []) (by simp) Try.func60 (by simp [Try.ntmps60]) rfl (b60 xs h.ok)⟩
  · exact h.elim
/-! ### erect.Reverse -/
def kindR (k : Int) : Int := if k = 1 then 1 else if k = 2 then 3 else if k = 3 then 2 else 0
def flipS (x : Int × Int) : Int × Int := (kindR x.1, x.2)
def flipAt (xs : List (Int × Int)) (k : Nat) : List (Int × Int) := (xs.take k).map flipS ++ xs.drop k
theorem flipAt_len (xs : List (Int × Int)) (k : Nat) : (flipAt xs k).length = xs.length := by simp [flipAt]; omega
theorem flipAt_here (xs : List (Int × Int)) (k : Nat) (h : k < xs.length) : (flipAt xs k).getD k (0, 0) = xs.getD k (0, 0) := by
  unfold flipAt
  rw [List.getD_eq_getElem?_getD, List.getElem?_append_right (by simp; omega)]
  simp [List.getD_eq_getElem?_getD, Nat.min_eq_left (Nat.le_of_lt h)]
theorem flipAt_step (xs : List (Int × Int)) (k : Nat) (h : k < xs.length) : (flipAt xs k).set k (flipS (xs.getD k (0, 0))) = flipAt xs (k + 1) := by
  unfold flipAt
  rw [take_pair xs k h, List.map_append, List.map_cons, List.map_nil, List.set_append_right _ _ (by simp; omega), List.append_assoc]
  congr 1
  have e : xs.drop k = xs.getD k (0, 0) :: xs.drop (k + 1) := by
    rw [List.drop_eq_getElem_cons h]; simp [List.getD_eq_getElem?_getD, h]
  rw [e]
  simp [Nat.min_eq_left (Nat.le_of_lt h)]
def revRes (S : List (Int × Int)) : List (Int × Int) := if chkE (-1) S = 0 then S.reverse.map flipS else []
theorem chk_mem {n : Int} {S : List (Int × Int)} (h : chkE n S = 0) : ∀ i, i < S.length → (1 ≤ (S.getD i (0, 0)).1 ∧ (S.getD i (0, 0)).1 ≤ 3) ∧ 0 ≤ (S.getD i (0, 0)).2 := by
  intro i hi
  unfold chkE at h
  split at h
  · cases h
  have := firstE_zero h i hi
  unfold chkAt at this
  split at this
  · cases this
  split at this
  · cases this
  omega
theorem rev_get (xs : List (Int × Int)) (p : Nat) (h : p < xs.length) : xs.reverse.getD p (0, 0) = xs.getD (xs.length - 1 - p) (0, 0) := by
  rw [List.getD_eq_getElem?_getD, List.getD_eq_getElem?_getD, List.getElem?_reverse h]
theorem b27 (S : List (Int × Int)) : body Try.prog [c23, c51, c60] { asks := [(0, [])] } true Try.f27 [Ps S] (.tup [Ps (revRes S), I (chkE (-1) S)]) := by
  (repeat' ((conv => whnf); first | (refine Giv.mk fun _ => ?_) | (refine Alt.l (Need.mk ?h ?_); case h => omega) | (refine Alt.r (Need.mk ?h ?_); case h => omega) | (refine Need.mk ?h ?_; case h => first | omega | (intro _; rfl) | assumption | (simp <;> omega)) | refine Ix.zero ?_ | refine Ix.one ?_ | refine Ix.two ?_ | refine Ix.nat ?_ | refine Ix.add ?_ | (apply Go.Eng.Pin.mk; apply Exists.intro) | apply Go.Eng.Pinned.mk rfl rfl | (apply Go.Eng.PinH.mk; apply Exists.intro; apply Exists.intro) | exact Go.Eng.Fin0.mk | refine Go.Eng.Chk.mk ?_ ?_ | refine Own.l ?_ | fail))
  (refine Br.mk (fun _ => ?_) (fun _ => ?_))
  · rename_i h
    (repeat' ((conv => whnf); first | (refine Giv.mk fun _ => ?_) | (refine Alt.l (Need.mk ?h ?_); case h => omega) | (refine Alt.r (Need.mk ?h ?_); case h => omega) | (refine Need.mk ?h ?_; case h => first | omega | (intro _; rfl) | assumption | (simp <;> omega)) | refine Ix.zero ?_ | refine Ix.one ?_ | refine Ix.two ?_ | refine Ix.nat ?_ | refine Ix.add ?_ | (apply Go.Eng.Pin.mk; apply Exists.intro) | apply Go.Eng.Pinned.mk rfl rfl | (apply Go.Eng.PinH.mk; apply Exists.intro; apply Exists.intro) | exact Go.Eng.Fin0.mk | refine Go.Eng.Chk.mk ?_ ?_ | refine Own.l ?_ | fail))
    (conv => whnf)
    (repeat' (first | exact trivial | rfl | exact Nat.one_pos | (refine And.intro ?_ ?_) | ((conv => whnf); (refine And.intro ?_ ?_)) | ((conv => whnf); exact trivial)))
    (conv => whnf)
    unfold revRes
    rw [if_neg h]
  · rename_i h
    have h := Classical.not_not.1 h
    have hlen := chkE_len h
    have hm := chk_mem h
    (repeat' ((conv => whnf); first | (refine Giv.mk fun _ => ?_) | (refine Alt.l (Need.mk ?h ?_); case h => omega) | (refine Alt.r (Need.mk ?h ?_); case h => omega) | (refine Need.mk ?h ?_; case h => first | omega | (intro _; rfl) | assumption | (simp <;> omega)) | refine Ix.zero ?_ | refine Ix.one ?_ | refine Ix.two ?_ | refine Ix.nat ?_ | refine Ix.add ?_ | (apply Go.Eng.Pin.mk; apply Exists.intro) | apply Go.Eng.Pinned.mk rfl rfl | (apply Go.Eng.PinH.mk; apply Exists.intro; apply Exists.intro) | exact Go.Eng.Fin0.mk | refine Go.Eng.Chk.mk ?_ ?_ | refine Own.l ?_ | fail))
    refine Ask.mk ⟨{ X := Nat, pre := fun k => k ≤ S.reverse.length, mod := fun k _ => [(20, I k)], heap := fun k _ => [.vec 1 Two [] 29, .cells [I 0, I 1, I 3, I 2] 85, .vec 1 Two (flipAt S.reverse k) 29], mu := fun k => S.reverse.length - k }, rfl, ?_⟩
    (repeat' ((conv => whnf); first | (refine Giv.mk fun _ => ?_) | (refine Alt.l (Need.mk ?h ?_); case h => omega) | (refine Alt.r (Need.mk ?h ?_); case h => omega) | (refine Need.mk ?h ?_; case h => first | omega | (intro _; rfl) | assumption | (simp <;> omega)) | refine Ix.zero ?_ | refine Ix.one ?_ | refine Ix.two ?_ | refine Ix.nat ?_ | refine Ix.add ?_ | (apply Go.Eng.Pin.mk; apply Exists.intro) | apply Go.Eng.Pinned.mk rfl rfl | (apply Go.Eng.PinH.mk; apply Exists.intro; apply Exists.intro) | exact Go.Eng.Fin0.mk | refine Go.Eng.Chk.mk ?_ ?_ | refine Own.l ?_ | fail))
    refine ⟨⟨(0 : Nat), Nat.zero_le _, ?_⟩, fun (k : Nat) (hk : k ≤ S.reverse.length) => ?_⟩
    · (repeat' (first | exact trivial | rfl | exact Nat.one_pos | (refine And.intro ?_ ?_) | omega | ((conv => whnf); (refine And.intro ?_ ?_)) | ((conv => whnf); exact trivial)))
    · have hl := flipAt_len S.reverse k
      (repeat' ((conv => whnf); first | (refine Giv.mk fun _ => ?_) | (refine Alt.l (Need.mk ?h ?_); case h => omega) | (refine Alt.r (Need.mk ?h ?_); case h => omega) | (refine Need.mk ?h ?_; case h => first | omega | (intro _; rfl) | assumption | (simp <;> omega)) | refine Ix.zero ?_ | refine Ix.one ?_ | refine Ix.two ?_ | refine Ix.nat ?_ | refine Ix.add ?_ | (apply Go.Eng.Pin.mk; apply Exists.intro) | apply Go.Eng.Pinned.mk rfl rfl | (apply Go.Eng.PinH.mk; apply Exists.intro; apply Exists.intro) | exact Go.Eng.Fin0.mk | refine Go.Eng.Chk.mk ?_ ?_ | refine Own.l ?_ | fail))
      (refine Br.mk (fun _ => ?_) (fun _ => ?_))
      · have hlt : k < S.reverse.length := by omega
        have hrl : S.reverse.length = S.length := List.length_reverse
        have hh := flipAt_here S.reverse k hlt
        have hst := flipAt_step S.reverse k hlt
        have hmm := hm (S.length - 1 - k) (by omega)
        rw [← rev_get S k (by omega), ← hh] at hmm
        obtain ⟨m1, m2⟩ := hmm
        have hc : ((flipAt S.reverse k).getD k (0, 0)).1 = 1 ∨ ((flipAt S.reverse k).getD k (0, 0)).1 = 2 ∨ ((flipAt S.reverse k).getD k (0, 0)).1 = 3 := by omega
        have hff : ∀ q : Nat, ((flipAt S.reverse k).getD k (0, 0)).1 = (q : Int) → (flipAt S.reverse k).set k (kindR q, ((flipAt S.reverse k).getD k (0, 0)).2) = flipAt S.reverse (k + 1) := fun q hq => by
          rw [← hst, ← hh]; unfold flipS; rw [hq]
        rcases hc with hc | hc | hc
        · have hff := hff 1 hc
          (repeat' ((conv => whnf); first | (refine Giv.mk fun _ => ?_) | (refine Alt.l (Need.mk ?h ?_); case h => omega) | (refine Alt.r (Need.mk ?h ?_); case h => omega) | (refine Need.mk ?h ?_; case h => first | omega | (intro _; rfl) | assumption | (simp <;> omega)) | refine Ix.zero ?_ | refine Ix.one ?_ | refine Ix.two ?_ | refine Ix.nat ?_ | refine Ix.add ?_ | (apply Go.Eng.Pin.mk; apply Exists.intro) | apply Go.Eng.Pinned.mk rfl rfl | (apply Go.Eng.PinH.mk; apply Exists.intro; apply Exists.intro) | exact Go.Eng.Fin0.mk | refine Go.Eng.Chk.mk ?_ ?_ | refine Own.l ?_ | fail))
          refine ix_at 1 hc ?_
          (repeat' ((conv => whnf); first | (refine Giv.mk fun _ => ?_) | (refine Alt.l (Need.mk ?h ?_); case h => omega) | (refine Alt.r (Need.mk ?h ?_); case h => omega) | (refine Need.mk ?h ?_; case h => first | omega | (intro _; rfl) | assumption | (simp <;> omega)) | refine Ix.zero ?_ | refine Ix.one ?_ | refine Ix.two ?_ | refine Ix.nat ?_ | refine Ix.add ?_ | (apply Go.Eng.Pin.mk; apply Exists.intro) | apply Go.Eng.Pinned.mk rfl rfl | (apply Go.Eng.PinH.mk; apply Exists.intro; apply Exists.intro) | exact Go.Eng.Fin0.mk | refine Go.Eng.Chk.mk ?_ ?_ | refine Own.l ?_ | fail))
          refine ⟨(k + 1 : Nat), by show S.reverse.length - (k + 1) < S.reverse.length - k; omega, hlt, ?_⟩
          (repeat' (first | exact trivial | rfl | exact Nat.one_pos | (refine And.intro ?_ ?_) | omega | ((conv => whnf); (refine And.intro ?_ ?_)) | ((conv => whnf); exact trivial)))
          exact hff
        · have hff := hff 2 hc
          (repeat' ((conv => whnf); first | (refine Giv.mk fun _ => ?_) | (refine Alt.l (Need.mk ?h ?_); case h => omega) | (refine Alt.r (Need.mk ?h ?_); case h => omega) | (refine Need.mk ?h ?_; case h => first | omega | (intro _; rfl) | assumption | (simp <;> omega)) | refine Ix.zero ?_ | refine Ix.one ?_ | refine Ix.two ?_ | refine Ix.nat ?_ | refine Ix.add ?_ | (apply Go.Eng.Pin.mk; apply Exists.intro) | apply Go.Eng.Pinned.mk rfl rfl | (apply Go.Eng.PinH.mk; apply Exists.intro; apply Exists.intro) | exact Go.Eng.Fin0.mk | refine Go.Eng.Chk.mk ?_ ?_ | refine Own.l ?_ | fail))
          refine ix_at 2 hc ?_
          (repeat' ((conv => whnf); first | (refine Giv.mk fun _ => ?_) | (refine Alt.l (Need.mk ?h ?_); case h => omega) | (refine Alt.r (Need.mk ?h ?_); case h => omega) | (refine Need.mk ?h ?_; case h => first | omega | (intro _; rfl) | assumption | (simp <;> omega)) | refine Ix.zero ?_ | refine Ix.one ?_ | refine Ix.two ?_ | refine Ix.nat ?_ | refine Ix.add ?_ | (apply Go.Eng.Pin.mk; apply Exists.intro) | apply Go.Eng.Pinned.mk rfl rfl | (apply Go.Eng.PinH.mk; apply Exists.intro; apply Exists.intro) | exact Go.Eng.Fin0.mk | refine Go.Eng.Chk.mk ?_ ?_ | refine Own.l ?_ | fail))
          refine ⟨(k + 1 : Nat), by show S.reverse.length - (k + 1) < S.reverse.length - k; omega, hlt, ?_⟩
          (repeat' (first | exact trivial | rfl | exact Nat.one_pos | (refine And.intro ?_ ?_) | omega | ((conv => whnf); (refine And.intro ?_ ?_)) | ((conv => whnf); exact trivial)))
          exact hff
        · have hff := hff 3 hc
          (repeat' ((conv => whnf); first | (refine Giv.mk fun _ => ?_) | (refine Alt.l (Need.mk ?h ?_); case h => omega) | (refine Alt.r (Need.mk ?h ?_); case h => omega) | (refine Need.mk ?h ?_; case h => first | omega | (intro _; rfl) | assumption | (simp <;> omega)) | refine Ix.zero ?_ | refine Ix.one ?_ | refine Ix.two ?_ | refine Ix.nat ?_ | refine Ix.add ?_ | (apply Go.Eng.Pin.mk; apply Exists.intro) | apply Go.Eng.Pinned.mk rfl rfl | (apply Go.Eng.PinH.mk; apply Exists.intro; apply Exists.intro) | exact Go.Eng.Fin0.mk | refine Go.Eng.Chk.mk ?_ ?_ | refine Own.l ?_ | fail))
          refine ix_at 3 hc ?_
          (repeat' ((conv => whnf); first | (refine Giv.mk fun _ => ?_) | (refine Alt.l (Need.mk ?h ?_); case h => omega) | (refine Alt.r (Need.mk ?h ?_); case h => omega) | (refine Need.mk ?h ?_; case h => first | omega | (intro _; rfl) | assumption | (simp <;> omega)) | refine Ix.zero ?_ | refine Ix.one ?_ | refine Ix.two ?_ | refine Ix.nat ?_ | refine Ix.add ?_ | (apply Go.Eng.Pin.mk; apply Exists.intro) | apply Go.Eng.Pinned.mk rfl rfl | (apply Go.Eng.PinH.mk; apply Exists.intro; apply Exists.intro) | exact Go.Eng.Fin0.mk | refine Go.Eng.Chk.mk ?_ ?_ | refine Own.l ?_ | fail))
          refine ⟨(k + 1 : Nat), by show S.reverse.length - (k + 1) < S.reverse.length - k; omega, hlt, ?_⟩
          (repeat' (first | exact trivial | rfl | exact Nat.one_pos | (refine And.intro ?_ ?_) | omega | ((conv => whnf); (refine And.intro ?_ ?_)) | ((conv => whnf); exact trivial)))
          exact hff
      · have hii : k = S.reverse.length := by omega
        have hfa : flipAt S.reverse k = S.reverse.map flipS := by unfold flipAt; rw [hii, List.take_length, List.drop_length, List.append_nil]
        have hre : revRes S = S.reverse.map flipS := by unfold revRes; rw [if_pos h]
        (repeat' ((conv => whnf); first | (refine Giv.mk fun _ => ?_) | (refine Alt.l (Need.mk ?h ?_); case h => omega) | (refine Alt.r (Need.mk ?h ?_); case h => omega) | (refine Need.mk ?h ?_; case h => first | omega | (intro _; rfl) | assumption | (simp <;> omega)) | refine Ix.zero ?_ | refine Ix.one ?_ | refine Ix.two ?_ | refine Ix.nat ?_ | refine Ix.add ?_ | (apply Go.Eng.Pin.mk; apply Exists.intro) | apply Go.Eng.Pinned.mk rfl rfl | (apply Go.Eng.PinH.mk; apply Exists.intro; apply Exists.intro) | exact Go.Eng.Fin0.mk | refine Go.Eng.Chk.mk ?_ ?_ | refine Own.l ?_ | fail))
        (repeat' (first | exact trivial | rfl | exact Nat.one_pos | (refine And.intro ?_ ?_) | ((conv => whnf); (refine And.intro ?_ ?_)) | ((conv => whnf); exact trivial)))
        · (conv => whnf)
          rw [hfa, hre]
        · (conv => whnf)
          exact h.symm
def c27 : Con := mkCon 27 true fun args K => match args with | [.seq (.pair (.int .i64) (.int .i64)) S] => K (.tup [Ps (revRes S), I (chkE (-1) S)]) | _ => False
theorem k27 : ConOK Try.prog c27 := by
  refine conOK_of rfl (enters_of Try.func27 (by kernel_rfl) rfl) ?_
  intro args K h
  simp only [c27] at h
  split at h
  · rename_i S; exact ⟨_, h, tri_of_body (Γ := [c23, c51, c60]) (by simp [k23, k51, k60]) Try.func27 (by simp [Try.ntmps27]) rfl (b27 S)⟩
  · exact h.elim
end EB
end
section
set_option linter.unusedVariables false
open Go Go.Proofs Go.Eng Go.Shelf
set_option linter.unusedVariables false
namespace EB.R
set_option maxRecDepth 10000
/-! ### The law's own look at what stands -/
def onIt (m : Int) (st : List Bool) (r : Int × Int) : Bool := decide (r.2 = m) && st.getD r.1.toNat false
theorem b41 (a b k m : Int) (st : List Bool) (h : 0 ≤ a ∧ a < st.length) : body Try.prog [] {} true Try.f41 [.agg [I a, I b], .lelem [I k, I m] 0, .lelem [Bs st] 0] (.bl (onIt m st (a, b) = true) inferInstance) := by
  obtain ⟨h1, h2⟩ := h
  (repeat' ((conv => whnf); first | (refine Giv.mk fun _ => ?_) | (refine Alt.l (Need.mk ?h ?_); case h => omega) | (refine Alt.r (Need.mk ?h ?_); case h => omega) | (refine Need.mk ?h ?_; case h => first | omega | (intro _; rfl) | assumption | (simp <;> omega)) | refine Ix.zero ?_ | refine Ix.one ?_ | refine Ix.two ?_ | refine Ix.nat ?_ | refine Ix.add ?_ | (apply Go.Eng.Pin.mk; apply Exists.intro) | apply Go.Eng.Pinned.mk rfl rfl | (apply Go.Eng.PinH.mk; apply Exists.intro; apply Exists.intro) | exact Go.Eng.Fin0.mk | refine Go.Eng.Chk.mk ?_ ?_ | refine Own.l ?_ | fail))
  (refine Br.mk (fun _ => ?_) (fun _ => ?_))
  · rename_i hb
    (repeat' ((conv => whnf); first | (refine Giv.mk fun _ => ?_) | (refine Alt.l (Need.mk ?h ?_); case h => omega) | (refine Alt.r (Need.mk ?h ?_); case h => omega) | (refine Need.mk ?h ?_; case h => first | omega | (intro _; rfl) | assumption | (simp <;> omega)) | refine Ix.zero ?_ | refine Ix.one ?_ | refine Ix.two ?_ | refine Ix.nat ?_ | refine Ix.add ?_ | (apply Go.Eng.Pin.mk; apply Exists.intro) | apply Go.Eng.Pinned.mk rfl rfl | (apply Go.Eng.PinH.mk; apply Exists.intro; apply Exists.intro) | exact Go.Eng.Fin0.mk | refine Go.Eng.Chk.mk ?_ ?_ | refine Own.l ?_ | fail))
    refine ix_at a.toNat (by omega) ?_
    (repeat' ((conv => whnf); first | (refine Giv.mk fun _ => ?_) | (refine Alt.l (Need.mk ?h ?_); case h => omega) | (refine Alt.r (Need.mk ?h ?_); case h => omega) | (refine Need.mk ?h ?_; case h => first | omega | (intro _; rfl) | assumption | (simp <;> omega)) | refine Ix.zero ?_ | refine Ix.one ?_ | refine Ix.two ?_ | refine Ix.nat ?_ | refine Ix.add ?_ | (apply Go.Eng.Pin.mk; apply Exists.intro) | apply Go.Eng.Pinned.mk rfl rfl | (apply Go.Eng.PinH.mk; apply Exists.intro; apply Exists.intro) | exact Go.Eng.Fin0.mk | refine Go.Eng.Chk.mk ?_ ?_ | refine Own.l ?_ | fail))
    (conv => whnf)
    unfold onIt
    rw [decide_eq_true hb, Bool.true_and]
  · rename_i hb
    (repeat' ((conv => whnf); first | (refine Giv.mk fun _ => ?_) | (refine Alt.l (Need.mk ?h ?_); case h => omega) | (refine Alt.r (Need.mk ?h ?_); case h => omega) | (refine Need.mk ?h ?_; case h => first | omega | (intro _; rfl) | assumption | (simp <;> omega)) | refine Ix.zero ?_ | refine Ix.one ?_ | refine Ix.two ?_ | refine Ix.nat ?_ | refine Ix.add ?_ | (apply Go.Eng.Pin.mk; apply Exists.intro) | apply Go.Eng.Pinned.mk rfl rfl | (apply Go.Eng.PinH.mk; apply Exists.intro; apply Exists.intro) | exact Go.Eng.Fin0.mk | refine Go.Eng.Chk.mk ?_ ?_ | refine Own.l ?_ | fail))
    (conv => whnf)
    unfold onIt
    rw [decide_eq_false hb, Bool.false_and]; simp
def c41 : Con := mkCon 41 true fun args K => match args with | [.agg [.val (.int .i64 a), .val (.int .i64 b)], .lelem [.val (.int .i64 k), .val (.int .i64 m)] 0, .lelem [.seq .bool st] 0] => Need (0 ≤ a ∧ a < st.length) (K (.bl (onIt m st (a, b) = true) inferInstance)) | _ => False
theorem k41 : ConOK Try.prog c41 := by
  refine conOK_of rfl (enters_of Try.func41 (by kernel_rfl) rfl) ?_
  intro args K h
  simp only [c41] at h
  split at h
  · rename_i a b k m st; exact ⟨_, h.go, tri_of_body (Γ := []) (by simp) Try.func41 (by simp [Try.ntmps41]) rfl (b41 a b k m st h.ok)⟩
  · exact h.elim
theorem b65 (xs : List (Int × Int)) (k m : Int) (st : List Bool) (h : ∀ i, i < xs.length → 0 ≤ (xs.getD i (0, 0)).1 ∧ (xs.getD i (0, 0)).1 < st.length) : body Try.prog [c41] { loops := [(0, anIx 8 (onIt m st) xs (0, 0))] } true Try.f65 [Ps xs, .clo 41 [] [.lelem [I k, I m] 0, .lelem [Bs st] 0]] (I (idxOf (onIt m st) xs)) := by
  (repeat' ((conv => whnf); first | (refine Giv.mk fun _ => ?_) | (refine Alt.l (Need.mk ?h ?_); case h => omega) | (refine Alt.r (Need.mk ?h ?_); case h => omega) | (refine Need.mk ?h ?_; case h => first | omega | (intro _; rfl) | assumption | (simp <;> omega)) | refine Ix.zero ?_ | refine Ix.one ?_ | refine Ix.two ?_ | refine Ix.nat ?_ | refine Ix.add ?_ | (apply Go.Eng.Pin.mk; apply Exists.intro) | apply Go.Eng.Pinned.mk rfl rfl | (apply Go.Eng.PinH.mk; apply Exists.intro; apply Exists.intro) | exact Go.Eng.Fin0.mk | refine Go.Eng.Chk.mk ?_ ?_ | refine Own.l ?_ | fail))
  refine ⟨⟨(0 : Nat), ⟨Nat.zero_le _, fun j hj => absurd hj (Nat.not_lt_zero _)⟩, by (repeat' (first | exact trivial | rfl | exact Nat.one_pos | (refine And.intro ?_ ?_) | omega | ((conv => whnf); (refine And.intro ?_ ?_)) | ((conv => whnf); exact trivial)))⟩, fun (i : Nat) hi => ?_⟩
  obtain ⟨hi, hb⟩ := hi
  (repeat' ((conv => whnf); first | (refine Giv.mk fun _ => ?_) | (refine Alt.l (Need.mk ?h ?_); case h => omega) | (refine Alt.r (Need.mk ?h ?_); case h => omega) | (refine Need.mk ?h ?_; case h => first | omega | (intro _; rfl) | assumption | (simp <;> omega)) | refine Ix.zero ?_ | refine Ix.one ?_ | refine Ix.two ?_ | refine Ix.nat ?_ | refine Ix.add ?_ | (apply Go.Eng.Pin.mk; apply Exists.intro) | apply Go.Eng.Pinned.mk rfl rfl | (apply Go.Eng.PinH.mk; apply Exists.intro; apply Exists.intro) | exact Go.Eng.Fin0.mk | refine Go.Eng.Chk.mk ?_ ?_ | refine Own.l ?_ | fail))
  (refine Br.mk (fun _ => ?_) (fun _ => ?_))
  · have hlt : i < xs.length := by omega
    have hh := h i hlt
    (repeat' ((conv => whnf); first | (refine Giv.mk fun _ => ?_) | (refine Alt.l (Need.mk ?h ?_); case h => omega) | (refine Alt.r (Need.mk ?h ?_); case h => omega) | (refine Need.mk ?h ?_; case h => first | omega | (intro _; rfl) | assumption | (simp <;> omega)) | refine Ix.zero ?_ | refine Ix.one ?_ | refine Ix.two ?_ | refine Ix.nat ?_ | refine Ix.add ?_ | (apply Go.Eng.Pin.mk; apply Exists.intro) | apply Go.Eng.Pinned.mk rfl rfl | (apply Go.Eng.PinH.mk; apply Exists.intro; apply Exists.intro) | exact Go.Eng.Fin0.mk | refine Go.Eng.Chk.mk ?_ ?_ | refine Own.l ?_ | fail))
    (refine Br.mk (fun _ => ?_) (fun _ => ?_))
    · rename_i hh
      (repeat' ((conv => whnf); first | (refine Giv.mk fun _ => ?_) | (refine Alt.l (Need.mk ?h ?_); case h => omega) | (refine Alt.r (Need.mk ?h ?_); case h => omega) | (refine Need.mk ?h ?_; case h => first | omega | (intro _; rfl) | assumption | (simp <;> omega)) | refine Ix.zero ?_ | refine Ix.one ?_ | refine Ix.two ?_ | refine Ix.nat ?_ | refine Ix.add ?_ | (apply Go.Eng.Pin.mk; apply Exists.intro) | apply Go.Eng.Pinned.mk rfl rfl | (apply Go.Eng.PinH.mk; apply Exists.intro; apply Exists.intro) | exact Go.Eng.Fin0.mk | refine Go.Eng.Chk.mk ?_ ?_ | refine Own.l ?_ | fail))
      (conv => whnf)
      exact ⟨rfl, (idxOf_some (0, 0) hlt hh hb).symm⟩
    · rename_i hh
      (repeat' ((conv => whnf); first | (refine Giv.mk fun _ => ?_) | (refine Alt.l (Need.mk ?h ?_); case h => omega) | (refine Alt.r (Need.mk ?h ?_); case h => omega) | (refine Need.mk ?h ?_; case h => first | omega | (intro _; rfl) | assumption | (simp <;> omega)) | refine Ix.zero ?_ | refine Ix.one ?_ | refine Ix.two ?_ | refine Ix.nat ?_ | refine Ix.add ?_ | (apply Go.Eng.Pin.mk; apply Exists.intro) | apply Go.Eng.Pinned.mk rfl rfl | (apply Go.Eng.PinH.mk; apply Exists.intro; apply Exists.intro) | exact Go.Eng.Fin0.mk | refine Go.Eng.Chk.mk ?_ ?_ | refine Own.l ?_ | fail))
      refine ⟨(i + 1 : Nat), by show xs.length - (i + 1) < xs.length - i; omega, ⟨hlt, fun j hj => ?_⟩, by (repeat' (first | exact trivial | rfl | exact Nat.one_pos | (refine And.intro ?_ ?_) | omega | ((conv => whnf); (refine And.intro ?_ ?_)) | ((conv => whnf); exact trivial)))⟩
      by_cases e : j = i
      · subst e; exact Bool.eq_false_iff.2 hh
      · exact hb j (by omega)
  · have hii : i = xs.length := by omega
    subst hii
    (repeat' ((conv => whnf); first | (refine Giv.mk fun _ => ?_) | (refine Alt.l (Need.mk ?h ?_); case h => omega) | (refine Alt.r (Need.mk ?h ?_); case h => omega) | (refine Need.mk ?h ?_; case h => first | omega | (intro _; rfl) | assumption | (simp <;> omega)) | refine Ix.zero ?_ | refine Ix.one ?_ | refine Ix.two ?_ | refine Ix.nat ?_ | refine Ix.add ?_ | (apply Go.Eng.Pin.mk; apply Exists.intro) | apply Go.Eng.Pinned.mk rfl rfl | (apply Go.Eng.PinH.mk; apply Exists.intro; apply Exists.intro) | exact Go.Eng.Fin0.mk | refine Go.Eng.Chk.mk ?_ ?_ | refine Own.l ?_ | fail))
    (conv => whnf)
    exact ⟨rfl, (idxOf_none (0, 0) hb).symm⟩
def c65 : Con := mkCon 65 true fun args K => match args with | [.seq (.pair (.int .i64) (.int .i64)) xs, .clo 41 [] [.lelem [.val (.int .i64 k), .val (.int .i64 m)] 0, .lelem [.seq .bool st] 0]] => Need (∀ i, i < xs.length → 0 ≤ (xs.getD i (0, 0)).1 ∧ (xs.getD i (0, 0)).1 < st.length) (K (I (idxOf (onIt m st) xs))) | _ => False
theorem k65 : ConOK Try.prog c65 := by
  refine conOK_of rfl (enters_of Try.func65 (by kernel_rfl) rfl) ?_
  intro args K h
  simp only [c65] at h
  split at h
  · rename_i xs k m st; exact ⟨_, h.go, tri_of_body (Γ := [c41]) (by simp [k41]) Try.func65 (by simp [Try.ntmps65]) rfl (b65 xs k m st h.ok)⟩
  · exact h.elim
theorem b40 (xs : List (Int × Int)) (k m : Int) (st : List Bool) (h : ∀ i, i < xs.length → 0 ≤ (xs.getD i (0, 0)).1 ∧ (xs.getD i (0, 0)).1 < st.length) : body Try.prog [c65] {} true Try.f40 [Ps xs, .clo 41 [] [.lelem [I k, I m] 0, .lelem [Bs st] 0]] (.bl (xs.any (onIt m st) = true) inferInstance) := by
  (repeat' ((conv => whnf); first | (refine Giv.mk fun _ => ?_) | (refine Alt.l (Need.mk ?h ?_); case h => omega) | (refine Alt.r (Need.mk ?h ?_); case h => omega) | (refine Need.mk ?h ?_; case h => first | omega | (intro _; rfl) | assumption | (simp <;> omega)) | refine Ix.zero ?_ | refine Ix.one ?_ | refine Ix.two ?_ | refine Ix.nat ?_ | refine Ix.add ?_ | (apply Go.Eng.Pin.mk; apply Exists.intro) | apply Go.Eng.Pinned.mk rfl rfl | (apply Go.Eng.PinH.mk; apply Exists.intro; apply Exists.intro) | exact Go.Eng.Fin0.mk | refine Go.Eng.Chk.mk ?_ ?_ | refine Own.l ?_ | fail))
  (conv => whnf)
  exact idxOf_pos _ _
def c40 : Con := mkCon 40 true fun args K => match args with | [.seq (.pair (.int .i64) (.int .i64)) xs, .clo 41 [] [.lelem [.val (.int .i64 k), .val (.int .i64 m)] 0, .lelem [.seq .bool st] 0]] => Need (∀ i, i < xs.length → 0 ≤ (xs.getD i (0, 0)).1 ∧ (xs.getD i (0, 0)).1 < st.length) (K (.bl (xs.any (onIt m st) = true) inferInstance)) | _ => False
theorem k40 : ConOK Try.prog c40 := by
  refine conOK_of rfl (enters_of Try.func40 (by kernel_rfl) rfl) ?_
  intro args K h
  simp only [c40] at h
  split at h
  · rename_i xs k m st; exact ⟨_, h.go, tri_of_body (Γ := [c65]) (by simp [k65]) Try.func40 (by simp [Try.ntmps40]) rfl (b40 xs k m st h.ok)⟩
  · exact h.elim
/-! ### slices.Contains of truths -/
def isT (x : Bool) : Bool := x
theorem b66 (xs : List Bool) : body Try.prog [] { loops := [(0, anIx 8 isT xs false)] } true Try.f66 [Bs xs, .val (.bool true)] (I (idxOf isT xs)) := by
  (repeat' ((conv => whnf); first | (refine Giv.mk fun _ => ?_) | (refine Alt.l (Need.mk ?h ?_); case h => omega) | (refine Alt.r (Need.mk ?h ?_); case h => omega) | (refine Need.mk ?h ?_; case h => first | omega | (intro _; rfl) | assumption | (simp <;> omega)) | refine Ix.zero ?_ | refine Ix.one ?_ | refine Ix.two ?_ | refine Ix.nat ?_ | refine Ix.add ?_ | (apply Go.Eng.Pin.mk; apply Exists.intro) | apply Go.Eng.Pinned.mk rfl rfl | (apply Go.Eng.PinH.mk; apply Exists.intro; apply Exists.intro) | exact Go.Eng.Fin0.mk | refine Go.Eng.Chk.mk ?_ ?_ | refine Own.l ?_ | fail))
  refine ⟨⟨(0 : Nat), ⟨Nat.zero_le _, fun j hj => absurd hj (Nat.not_lt_zero _)⟩, by (repeat' (first | exact trivial | rfl | exact Nat.one_pos | (refine And.intro ?_ ?_) | omega | ((conv => whnf); (refine And.intro ?_ ?_)) | ((conv => whnf); exact trivial)))⟩, fun (i : Nat) hi => ?_⟩
  obtain ⟨hi, hb⟩ := hi
  (repeat' ((conv => whnf); first | (refine Giv.mk fun _ => ?_) | (refine Alt.l (Need.mk ?h ?_); case h => omega) | (refine Alt.r (Need.mk ?h ?_); case h => omega) | (refine Need.mk ?h ?_; case h => first | omega | (intro _; rfl) | assumption | (simp <;> omega)) | refine Ix.zero ?_ | refine Ix.one ?_ | refine Ix.two ?_ | refine Ix.nat ?_ | refine Ix.add ?_ | (apply Go.Eng.Pin.mk; apply Exists.intro) | apply Go.Eng.Pinned.mk rfl rfl | (apply Go.Eng.PinH.mk; apply Exists.intro; apply Exists.intro) | exact Go.Eng.Fin0.mk | refine Go.Eng.Chk.mk ?_ ?_ | refine Own.l ?_ | fail))
  (refine Br.mk (fun _ => ?_) (fun _ => ?_))
  · have hlt : i < xs.length := by omega
    (repeat' ((conv => whnf); first | (refine Giv.mk fun _ => ?_) | (refine Alt.l (Need.mk ?h ?_); case h => omega) | (refine Alt.r (Need.mk ?h ?_); case h => omega) | (refine Need.mk ?h ?_; case h => first | omega | (intro _; rfl) | assumption | (simp <;> omega)) | refine Ix.zero ?_ | refine Ix.one ?_ | refine Ix.two ?_ | refine Ix.nat ?_ | refine Ix.add ?_ | (apply Go.Eng.Pin.mk; apply Exists.intro) | apply Go.Eng.Pinned.mk rfl rfl | (apply Go.Eng.PinH.mk; apply Exists.intro; apply Exists.intro) | exact Go.Eng.Fin0.mk | refine Go.Eng.Chk.mk ?_ ?_ | refine Own.l ?_ | fail))
    (refine Br.mk (fun _ => ?_) (fun _ => ?_))
    · rename_i hh
      (repeat' ((conv => whnf); first | (refine Giv.mk fun _ => ?_) | (refine Alt.l (Need.mk ?h ?_); case h => omega) | (refine Alt.r (Need.mk ?h ?_); case h => omega) | (refine Need.mk ?h ?_; case h => first | omega | (intro _; rfl) | assumption | (simp <;> omega)) | refine Ix.zero ?_ | refine Ix.one ?_ | refine Ix.two ?_ | refine Ix.nat ?_ | refine Ix.add ?_ | (apply Go.Eng.Pin.mk; apply Exists.intro) | apply Go.Eng.Pinned.mk rfl rfl | (apply Go.Eng.PinH.mk; apply Exists.intro; apply Exists.intro) | exact Go.Eng.Fin0.mk | refine Go.Eng.Chk.mk ?_ ?_ | refine Own.l ?_ | fail))
      (conv => whnf)
      exact ⟨rfl, (idxOf_some false hlt (hh.1 rfl) hb).symm⟩
    · rename_i hh
      (repeat' ((conv => whnf); first | (refine Giv.mk fun _ => ?_) | (refine Alt.l (Need.mk ?h ?_); case h => omega) | (refine Alt.r (Need.mk ?h ?_); case h => omega) | (refine Need.mk ?h ?_; case h => first | omega | (intro _; rfl) | assumption | (simp <;> omega)) | refine Ix.zero ?_ | refine Ix.one ?_ | refine Ix.two ?_ | refine Ix.nat ?_ | refine Ix.add ?_ | (apply Go.Eng.Pin.mk; apply Exists.intro) | apply Go.Eng.Pinned.mk rfl rfl | (apply Go.Eng.PinH.mk; apply Exists.intro; apply Exists.intro) | exact Go.Eng.Fin0.mk | refine Go.Eng.Chk.mk ?_ ?_ | refine Own.l ?_ | fail))
      refine ⟨(i + 1 : Nat), by show xs.length - (i + 1) < xs.length - i; omega, ⟨hlt, fun j hj => ?_⟩, by (repeat' (first | exact trivial | rfl | exact Nat.one_pos | (refine And.intro ?_ ?_) | omega | ((conv => whnf); (refine And.intro ?_ ?_)) | ((conv => whnf); exact trivial)))⟩
      by_cases e : j = i
      · subst e; exact Bool.eq_false_iff.2 fun e => hh ⟨fun _ => e, fun _ => rfl⟩
      · exact hb j (by omega)
  · have hii : i = xs.length := by omega
    subst hii
    (repeat' ((conv => whnf); first | (refine Giv.mk fun _ => ?_) | (refine Alt.l (Need.mk ?h ?_); case h => omega) | (refine Alt.r (Need.mk ?h ?_); case h => omega) | (refine Need.mk ?h ?_; case h => first | omega | (intro _; rfl) | assumption | (simp <;> omega)) | refine Ix.zero ?_ | refine Ix.one ?_ | refine Ix.two ?_ | refine Ix.nat ?_ | refine Ix.add ?_ | (apply Go.Eng.Pin.mk; apply Exists.intro) | apply Go.Eng.Pinned.mk rfl rfl | (apply Go.Eng.PinH.mk; apply Exists.intro; apply Exists.intro) | exact Go.Eng.Fin0.mk | refine Go.Eng.Chk.mk ?_ ?_ | refine Own.l ?_ | fail))
    (conv => whnf)
    exact ⟨rfl, (idxOf_none false hb).symm⟩
def c66 : Con := mkCon 66 true fun args K => match args with | [.seq .bool xs, .val (.bool true)] => K (I (idxOf isT xs)) | _ => False
theorem k66 : ConOK Try.prog c66 := by
  refine conOK_of rfl (enters_of Try.func66 (by kernel_rfl) rfl) ?_
  intro args K h
  simp only [c66] at h
  split at h
  · rename_i xs; exact ⟨_, h, tri_of_body (Γ := []) (by simp) Try.func66 (by simp [Try.ntmps66]) rfl (b66 xs)⟩
  · exact h.elim
theorem b42 (xs : List Bool) : body Try.prog [c66] {} true Try.f42 [Bs xs, .val (.bool true)] (.bl (xs.any isT = true) inferInstance) := by
  (repeat' ((conv => whnf); first | (refine Giv.mk fun _ => ?_) | (refine Alt.l (Need.mk ?h ?_); case h => omega) | (refine Alt.r (Need.mk ?h ?_); case h => omega) | (refine Need.mk ?h ?_; case h => first | omega | (intro _; rfl) | assumption | (simp <;> omega)) | refine Ix.zero ?_ | refine Ix.one ?_ | refine Ix.two ?_ | refine Ix.nat ?_ | refine Ix.add ?_ | (apply Go.Eng.Pin.mk; apply Exists.intro) | apply Go.Eng.Pinned.mk rfl rfl | (apply Go.Eng.PinH.mk; apply Exists.intro; apply Exists.intro) | exact Go.Eng.Fin0.mk | refine Go.Eng.Chk.mk ?_ ?_ | refine Own.l ?_ | fail))
  (conv => whnf)
  exact idxOf_pos _ _
def c42 : Con := mkCon 42 true fun args K => match args with | [.seq .bool xs, .val (.bool true)] => K (.bl (xs.any isT = true) inferInstance) | _ => False
theorem k42 : ConOK Try.prog c42 := by
  refine conOK_of rfl (enters_of Try.func42 (by kernel_rfl) rfl) ?_
  intro args K h
  simp only [c42] at h
  split at h
  · rename_i xs; exact ⟨_, h, tri_of_body (Γ := [c66]) (by simp [k66]) Try.func42 (by simp [Try.ntmps42]) rfl (b42 xs)⟩
  · exact h.elim
end EB.R
end
section
set_option linter.unusedVariables false
open Go Go.Proofs Go.Eng Go.Shelf
set_option linter.unusedVariables false
namespace EB
set_option maxRecDepth 10000
/-! ### The plain law of ErectReversed -/
theorem kindR_twice {k : Int} (h : 1 ≤ k ∧ k ≤ 3) : kindR (kindR k) = k := by
  have : k = 1 ∨ k = 2 ∨ k = 3 := by omega
  rcases this with rfl | rfl | rfl <;> rfl
theorem kindR_in {k : Int} (h : 1 ≤ k ∧ k ≤ 3) : 1 ≤ kindR k ∧ kindR k ≤ 3 := by
  have : k = 1 ∨ k = 2 ∨ k = 3 := by omega
  rcases this with rfl | rfl | rfl <;> decide
theorem kindR_one {k : Int} : kindR k = 1 ↔ k = 1 := by
  unfold kindR
  split
  · simp [*]
  · split
    · simp [*]
    · split
      · simp [*]
      · simp [*]
def downOf (S : List (Int × Int)) : List (Int × Int) := S.reverse.map flipS
theorem down_len (S : List (Int × Int)) : (downOf S).length = S.length := by simp [downOf]
theorem down_get (S : List (Int × Int)) (i : Nat) (h : i < S.length) : (downOf S).getD i (0, 0) = flipS (S.getD (S.length - 1 - i) (0, 0)) := by
  unfold downOf
  rw [← rev_get S i h]
  have h' : i < S.reverse.length := by rw [List.length_reverse]; exact h
  rw [List.getD_eq_getElem?_getD, List.getElem?_map, List.getD_eq_getElem?_getD, List.getElem?_eq_getElem h']; rfl
theorem down_chk {S : List (Int × Int)} (h : chkE (-1) S = 0) : chkE (-1) (downOf S) = 0 := by
  have hl := chkE_len h
  unfold chkE
  rw [down_len, if_neg (by omega), firstE_none]
  intro i hi
  have h1 := chk_mem h (S.length - 1 - i) (by omega)
  have h2 := kindR_in h1.1
  unfold chkAt
  rw [down_get S i hi]
  unfold flipS
  rw [if_neg (by omega), if_neg (by omega)]
theorem down_down {S : List (Int × Int)} (h : chkE (-1) S = 0) : downOf (downOf S) = S := by
  refine pair_ext (by rw [down_len, down_len]) fun p hp => ?_
  rw [down_len, down_len] at hp
  rw [down_get _ p (by rw [down_len]; exact hp), down_len, down_get S _ (by omega), show S.length - 1 - (S.length - 1 - p) = p by omega]
  unfold flipS
  rw [kindR_twice (chk_mem h p hp).1]
theorem rev_twice {S : List (Int × Int)} (h : chkE (-1) S = 0) : chkE (-1) (revRes S) = 0 ∧ revRes (revRes S) = S ∧ revRes S = downOf S := by
  have e : revRes S = downOf S := by unfold revRes; rw [if_pos h]; rfl
  have h2 := down_chk h
  refine ⟨by rw [e]; exact h2, ?_, e⟩
  rw [e]
  show (if _ then _ else _) = _
  rw [if_pos h2]
  exact down_down h
/-- What stands still. -/
def stR (n : Nat) (T : List (Int × Int)) : List Bool := (List.range n).map fun j : Nat => !decide ((1, (j : Int)) ∈ T)
theorem stR_len (n : Nat) (T : List (Int × Int)) : (stR n T).length = n := by simp [stR]
theorem stR_get (n : Nat) (T : List (Int × Int)) (j : Nat) (h : j < n) : (stR n T).getD j false = !decide ((1, (j : Int)) ∈ T) := by
  simp [stR, List.getD_eq_getElem?_getD, h]
theorem stR_nil (n : Nat) : stR n [] = List.replicate n true := by
  apply List.ext_getElem <;> simp [stR]
theorem stR_skip (n : Nat) (T : List (Int × Int)) (x : Int × Int) (h : ¬ x.1 = 1) : stR n (T ++ [x]) = stR n T := by
  unfold stR
  refine List.map_congr_left fun j _ => ?_
  have : ¬ (1, (j : Int)) = x := fun e => h (by rw [← e])
  simp [this]
theorem stR_take (n : Nat) (T : List (Int × Int)) (x : Int × Int) (h : x.1 = 1) (hx : 0 ≤ x.2 ∧ x.2 < n) : (stR n T).set x.2.toNat false = stR n (T ++ [x]) := by
  apply List.ext_getElem?
  intro j
  rw [List.getElem?_set, stR_len]
  by_cases e : x.2.toNat = j
  · subst e
    rw [if_pos rfl, if_pos (by omega)]
    have hm : (1, ((x.2.toNat : Nat) : Int)) = x := Prod.ext h.symm (by show ((x.2.toNat : Nat) : Int) = x.2; omega)
    simp only [stR, List.getElem?_map, List.getElem?_range (show x.2.toNat < n by omega), Option.map_some]
    rw [hm]; simp
  · rw [if_neg e]
    simp only [stR, List.getElem?_map]
    by_cases hj : j < n
    · rw [List.getElem?_range hj]
      have : ¬ (1, (j : Int)) = x := fun e2 => e (by rw [← e2]; exact Int.toNat_natCast _)
      simp [this]
    · rw [List.getElem?_eq_none (by simpa using Nat.le_of_not_lt hj)]; rfl
structure Rev (n : Int) (l S : List (Int × Int)) : Prop where
  chk : chkE (-1) S = 0
  at_ : ∀ i, i < (downOf S).length → ((downOf S).getD i (0, 0)).1 = 1 → (0 ≤ ((downOf S).getD i (0, 0)).2 ∧ ((downOf S).getD i (0, 0)).2 < n) ∧ (stR n.toNat ((downOf S).take i)).getD ((downOf S).getD i (0, 0)).2.toNat false = true ∧
    ¬ l.any (R.onIt ((downOf S).getD i (0, 0)).2 (stR n.toNat ((downOf S).take (i + 1)))) = true
  all : ¬ (stR n.toNat (downOf S)).any R.isT = true
theorem down_take {S : List (Int × Int)} {i : Nat} (hi : i ≤ S.length) {m : Int} : (1, m) ∈ (downOf S).take i ↔ ∃ j, S.length - i ≤ j ∧ j < S.length ∧ S.getD j (0, 0) = (1, m) := by
  rw [take_mem]
  constructor
  · rintro ⟨q, h1, h2, h3⟩
    rw [down_len] at h2
    rw [down_get S q h2] at h3
    refine ⟨S.length - 1 - q, by omega, by omega, ?_⟩
    have e1 : kindR (S.getD (S.length - 1 - q) (0, 0)).1 = 1 := congrArg Prod.fst h3
    have e2 : (S.getD (S.length - 1 - q) (0, 0)).2 = m := congrArg Prod.snd h3
    exact Prod.ext (kindR_one.1 e1) e2
  · rintro ⟨j, h1, h2, h3⟩
    refine ⟨S.length - 1 - j, by omega, by rw [down_len]; omega, ?_⟩
    rw [down_get S _ (by omega), show S.length - 1 - (S.length - 1 - j) = j by omega, h3]; rfl
theorem rev_law {n : Int} {l : List (Int × Int)} (h : orderErr n l = 0) : Rev n l (orderRes n l) := by
  have hw := whole_ord h
  have w0 := hw.n0
  have hro := supE_rests hw.sup
  have hin : ∀ i, InN n (raisedL (orderRes n l) i) := fun i m hm => by
    rw [raisedL_mem, take_mem] at hm
    obtain ⟨j, h1, h2, h3⟩ := hm
    have := (hw.at_ j h2).2
    rw [h3] at this
    exact this
  have huniq : ∀ i j m, i < j → j < (orderRes n l).length → (orderRes n l).getD i (0, 0) = (1, m) → (orderRes n l).getD j (0, 0) = (1, m) → False := fun i j m hij hj h1 h2 => by
    have hra := ready_at h hj (by rw [h2])
    rw [h2] at hra
    have hm := (hw.at_ j hj).2
    rw [h2] at hm
    refine hra.1 ((has_mem w0 (hin j) hm.1).2 ?_)
    rw [raisedL_mem, take_mem]
    exact ⟨i, hij, by omega, h1⟩
  have hex : ∀ m, 0 ≤ m → m < n → ∃ j, j < (orderRes n l).length ∧ (orderRes n l).getD j (0, 0) = (1, m) := fun m h1 h2 => by
    have h3 := hw.once m h1 h2
    have h4 : m ∈ raisedL (orderRes n l) (orderRes n l).length := by rw [← List.count_pos_iff]; omega
    rw [raisedL_mem, take_mem] at h4
    obtain ⟨j, _, h5, h6⟩ := h4
    exact ⟨j, h5, h6⟩
  have hc : chkE (-1) (orderRes n l) = 0 := by
    unfold chkE
    have := hw.len
    rw [if_neg (by omega), firstE_none]
    intro i hi
    have := hw.at_ i hi
    unfold chkAt
    rw [if_neg (by omega), if_neg (by omega)]
  refine ⟨hc, fun i hi hk => ?_, ?_⟩
  · rw [down_len] at hi
    have hg := down_get (orderRes n l) i hi
    rw [hg] at hk ⊢
    have hk1 : ((orderRes n l).getD ((orderRes n l).length - 1 - i) (0, 0)).1 = 1 := kindR_one.1 hk
    obtain ⟨_, m0, m1⟩ := hw.at_ ((orderRes n l).length - 1 - i) (by omega)
    have hS : (orderRes n l).getD ((orderRes n l).length - 1 - i) (0, 0) = (1, ((orderRes n l).getD ((orderRes n l).length - 1 - i) (0, 0)).2) := Prod.ext hk1 rfl
    show (0 ≤ ((orderRes n l).getD ((orderRes n l).length - 1 - i) (0, 0)).2 ∧ ((orderRes n l).getD ((orderRes n l).length - 1 - i) (0, 0)).2 < n) ∧ (stR n.toNat ((downOf (orderRes n l)).take i)).getD ((orderRes n l).getD ((orderRes n l).length - 1 - i) (0, 0)).2.toNat false = true ∧
      ¬ l.any (R.onIt ((orderRes n l).getD ((orderRes n l).length - 1 - i) (0, 0)).2 (stR n.toNat ((downOf (orderRes n l)).take (i + 1)))) = true
    refine ⟨⟨m0, m1⟩, ?_, ?_⟩
    · rw [stR_get _ _ _ (by omega), Int.toNat_of_nonneg m0]
      have : ¬ (1, ((orderRes n l).getD ((orderRes n l).length - 1 - i) (0, 0)).2) ∈ (downOf (orderRes n l)).take i := by
        rw [down_take (by omega)]
        rintro ⟨j, h1, h2, h3⟩
        exact huniq _ j _ (by omega) h2 hS h3
      rw [decide_eq_false this]; rfl
    · rw [Bool.not_eq_true, List.any_eq_false]
      intro r hr
      unfold R.onIt
      by_cases e : r.2 = ((orderRes n l).getD ((orderRes n l).length - 1 - i) (0, 0)).2
      · obtain ⟨q, hq, hq2⟩ := mem_at hr
        have hr4 := hro.2.2.2 q hq
        rw [hq2] at hr4
        obtain ⟨iu, u1, u2⟩ := hex r.1 hr4.1 hr4.2.1
        have hra := ready_at h u1 (by rw [u2])
        rw [u2] at hra
        have hlow := lower_in w0 (hin iu) ⟨hr4.1, hr4.2.1⟩ hra hr rfl (by omega)
        rw [raisedL_mem, take_mem] at hlow
        obtain ⟨j, j1, j2, j3⟩ := hlow
        have hji : j = (orderRes n l).length - 1 - i := by
          rw [e] at j3
          rcases Nat.lt_trichotomy j ((orderRes n l).length - 1 - i) with hlt | he | hgt
          · exact (huniq _ _ _ hlt (by omega) j3 hS).elim
          · exact he
          · exact (huniq _ _ _ hgt j2 hS j3).elim
        have hmem : (1, r.1) ∈ (downOf (orderRes n l)).take (i + 1) := (down_take (by omega)).2 ⟨iu, by omega, u1, u2⟩
        rw [stR_get _ _ _ (by omega), Int.toNat_of_nonneg hr4.1, decide_eq_true hmem]; simp
      · rw [decide_eq_false e]; simp
  · rw [Bool.not_eq_true, List.any_eq_false]
    intro x hx
    unfold stR at hx
    rw [List.mem_map] at hx
    obtain ⟨j, hj, rfl⟩ := hx
    rw [List.mem_range] at hj
    obtain ⟨q, q1, q2⟩ := hex j (by omega) (by omega)
    have : (1, (j : Int)) ∈ downOf (orderRes n l) := by
      have := (down_take (S := orderRes n l) (i := (orderRes n l).length) (Nat.le_refl _) (m := j)).2 ⟨q, by omega, q1, q2⟩
      rw [← down_len, List.take_length] at this
      exact this
    rw [decide_eq_true this]; simp [R.isT]
end EB
end
section
set_option linter.unusedVariables false
open Go Go.Proofs Go.Eng Go.Shelf
set_option linter.unusedVariables false
namespace EB
set_option maxRecDepth 10000
set_option maxHeartbeats 1000000 in
theorem b10 (s : Int) (l T : List (Int × Int)) (hs : inK .u8 s) : body Try.prog [c12, c13, c27, c38, c39, R.c40, R.c42] { asks := [(0, [])] } true Try.f10 [.val (.int .u8 s), Ps l, Ps T] (.val (.bool true)) := by
  have h1 : 0 ≤ s := by have := hs.1; simpa [lo] using this
  have h2 : s ≤ 255 := by have := hs.2; simpa [hi] using this
  have main : ∀ K : Prop, K → K := fun K h => h
  (repeat' ((conv => whnf); first | (refine Giv.mk fun _ => ?_) | (refine Alt.l (Need.mk ?h ?_); case h => omega) | (refine Alt.r (Need.mk ?h ?_); case h => omega) | (refine Need.mk ?h ?_; case h => first | omega | (intro _; rfl) | assumption | (simp <;> omega)) | refine Ix.zero ?_ | refine Ix.one ?_ | refine Ix.two ?_ | refine Ix.nat ?_ | refine Ix.add ?_ | (apply Go.Eng.Pin.mk; apply Exists.intro) | apply Go.Eng.Pinned.mk rfl rfl | (apply Go.Eng.PinH.mk; apply Exists.intro; apply Exists.intro) | exact Go.Eng.Fin0.mk | refine Go.Eng.Chk.mk ?_ ?_ | refine Own.l ?_ | fail))
  (refine Br.mk (fun _ => ?_) (fun _ => ?_))
  · (repeat' ((conv => whnf); first | (refine Giv.mk fun _ => ?_) | (refine Alt.l (Need.mk ?h ?_); case h => omega) | (refine Alt.r (Need.mk ?h ?_); case h => omega) | (refine Need.mk ?h ?_; case h => first | omega | (intro _; rfl) | assumption | (simp <;> omega)) | refine Ix.zero ?_ | refine Ix.one ?_ | refine Ix.two ?_ | refine Ix.nat ?_ | refine Ix.add ?_ | (apply Go.Eng.Pin.mk; apply Exists.intro) | apply Go.Eng.Pinned.mk rfl rfl | (apply Go.Eng.PinH.mk; apply Exists.intro; apply Exists.intro) | exact Go.Eng.Fin0.mk | refine Go.Eng.Chk.mk ?_ ?_ | refine Own.l ?_ | fail))
    (conv => whnf)
  · (repeat' ((conv => whnf); first | (refine Giv.mk fun _ => ?_) | (refine Alt.l (Need.mk ?h ?_); case h => omega) | (refine Alt.r (Need.mk ?h ?_); case h => omega) | (refine Need.mk ?h ?_; case h => first | omega | (intro _; rfl) | assumption | (simp <;> omega)) | refine Ix.zero ?_ | refine Ix.one ?_ | refine Ix.two ?_ | refine Ix.nat ?_ | refine Ix.add ?_ | (apply Go.Eng.Pin.mk; apply Exists.intro) | apply Go.Eng.Pinned.mk rfl rfl | (apply Go.Eng.PinH.mk; apply Exists.intro; apply Exists.intro) | exact Go.Eng.Fin0.mk | refine Go.Eng.Chk.mk ?_ ?_ | refine Own.l ?_ | fail))
    refine Br.mk (fun hc => ?pa) (fun hc => ?pb)
    case' pa =>
      obtain ⟨r1, r2, r3⟩ := rev_twice hc
      (repeat' ((conv => whnf); first | (refine Giv.mk fun _ => ?_) | (refine Alt.l (Need.mk ?h ?_); case h => omega) | (refine Alt.r (Need.mk ?h ?_); case h => omega) | (refine Need.mk ?h ?_; case h => first | omega | (intro _; rfl) | assumption | (simp <;> omega)) | refine Ix.zero ?_ | refine Ix.one ?_ | refine Ix.two ?_ | refine Ix.nat ?_ | refine Ix.add ?_ | (apply Go.Eng.Pin.mk; apply Exists.intro) | apply Go.Eng.Pinned.mk rfl rfl | (apply Go.Eng.PinH.mk; apply Exists.intro; apply Exists.intro) | exact Go.Eng.Fin0.mk | refine Go.Eng.Chk.mk ?_ ?_ | refine Own.l ?_ | (refine Br.mkY ?h ?_; case h => first | omega | assumption) | (refine Br.mkN ?h ?_; case h => first | omega | assumption | exact not_not_intro (by assumption)) | fail))
    case' pb => (repeat' ((conv => whnf); first | (refine Giv.mk fun _ => ?_) | (refine Alt.l (Need.mk ?h ?_); case h => omega) | (refine Alt.r (Need.mk ?h ?_); case h => omega) | (refine Need.mk ?h ?_; case h => first | omega | (intro _; rfl) | assumption | (simp <;> omega)) | refine Ix.zero ?_ | refine Ix.one ?_ | refine Ix.two ?_ | refine Ix.nat ?_ | refine Ix.add ?_ | (apply Go.Eng.Pin.mk; apply Exists.intro) | apply Go.Eng.Pinned.mk rfl rfl | (apply Go.Eng.PinH.mk; apply Exists.intro; apply Exists.intro) | exact Go.Eng.Fin0.mk | refine Go.Eng.Chk.mk ?_ ?_ | refine Own.l ?_ | fail))
    all_goals
      refine Br.mk (fun hok => ?_) (fun hok => ?_)
      · (repeat' ((conv => whnf); first | (refine Giv.mk fun _ => ?_) | (refine Alt.l (Need.mk ?h ?_); case h => omega) | (refine Alt.r (Need.mk ?h ?_); case h => omega) | (refine Need.mk ?h ?_; case h => first | omega | (intro _; rfl) | assumption | (simp <;> omega)) | refine Ix.zero ?_ | refine Ix.one ?_ | refine Ix.two ?_ | refine Ix.nat ?_ | refine Ix.add ?_ | (apply Go.Eng.Pin.mk; apply Exists.intro) | apply Go.Eng.Pinned.mk rfl rfl | (apply Go.Eng.PinH.mk; apply Exists.intro; apply Exists.intro) | exact Go.Eng.Fin0.mk | refine Go.Eng.Chk.mk ?_ ?_ | refine Own.l ?_ | fail))
        (conv => whnf)
      · have hok := Classical.not_not.1 hok
        have hw := whole_ord hok.2
        have hv := rev_law hok.2
        have hr12 : res12 s l = orderRes (n12 s) l := by unfold res12; rw [if_pos hok.1]
        rw [← hr12] at hw hv
        have w0 := hw.n0
        have w1 := hw.n1
        have w4 := hw.len
        have hro := supE_rests hw.sup
        obtain ⟨v1, v2, v3⟩ := hv
        have v4 := (rev_twice v1).2.2
        have v5 : (revRes (res12 s l)).length = (res12 s l).length := by rw [v4, down_len]
        rw [← v4] at v2 v3
        (repeat' ((conv => whnf); first | (refine Giv.mk fun _ => ?_) | (refine Alt.l (Need.mk ?h ?_); case h => omega) | (refine Alt.r (Need.mk ?h ?_); case h => omega) | (refine Need.mk ?h ?_; case h => first | omega | (intro _; rfl) | assumption | (simp <;> omega)) | refine Ix.zero ?_ | refine Ix.one ?_ | refine Ix.two ?_ | refine Ix.nat ?_ | refine Ix.add ?_ | (apply Go.Eng.Pin.mk; apply Exists.intro) | apply Go.Eng.Pinned.mk rfl rfl | (apply Go.Eng.PinH.mk; apply Exists.intro; apply Exists.intro) | exact Go.Eng.Fin0.mk | refine Go.Eng.Chk.mk ?_ ?_ | refine Own.l ?_ | (refine Br.mkY ?h ?_; case h => first | omega | assumption) | (refine Br.mkN ?h ?_; case h => first | omega | assumption | exact not_not_intro (by assumption)) | fail))
        refine Ask.mk ⟨{ X := Nat, pre := fun i => i ≤ (revRes (res12 s l)).length, mod := fun i _ => [(72, I i)], heap := fun i _ => [.vec 1 .bool (stR (n12 s).toNat ((revRes (res12 s l)).take i)) 4, .vec 1 .bool [] 4, .cells [.ref 0 1] 59], mu := fun i => (revRes (res12 s l)).length - i }, rfl, ?_⟩
        (repeat' ((conv => whnf); first | (refine Giv.mk fun _ => ?_) | (refine Alt.l (Need.mk ?h ?_); case h => omega) | (refine Alt.r (Need.mk ?h ?_); case h => omega) | (refine Need.mk ?h ?_; case h => first | omega | (intro _; rfl) | assumption | (simp <;> omega)) | refine Ix.zero ?_ | refine Ix.one ?_ | refine Ix.two ?_ | refine Ix.nat ?_ | refine Ix.add ?_ | (apply Go.Eng.Pin.mk; apply Exists.intro) | apply Go.Eng.Pinned.mk rfl rfl | (apply Go.Eng.PinH.mk; apply Exists.intro; apply Exists.intro) | exact Go.Eng.Fin0.mk | refine Go.Eng.Chk.mk ?_ ?_ | refine Own.l ?_ | fail))
        refine ⟨⟨(0 : Nat), Nat.zero_le _, ?_⟩, fun (i : Nat) (hi : i ≤ (revRes (res12 s l)).length) => ?_⟩
        · (repeat' (first | exact trivial | rfl | exact Nat.one_pos | (refine And.intro ?_ ?_) | omega | ((conv => whnf); (refine And.intro ?_ ?_)) | ((conv => whnf); exact trivial)))
          exact (stR_nil _).symm
        · have hsl := stR_len (n12 s).toNat ((revRes (res12 s l)).take i)
          (repeat' ((conv => whnf); first | (refine Giv.mk fun _ => ?_) | (refine Alt.l (Need.mk ?h ?_); case h => omega) | (refine Alt.r (Need.mk ?h ?_); case h => omega) | (refine Need.mk ?h ?_; case h => first | omega | (intro _; rfl) | assumption | (simp <;> omega)) | refine Ix.zero ?_ | refine Ix.one ?_ | refine Ix.two ?_ | refine Ix.nat ?_ | refine Ix.add ?_ | (apply Go.Eng.Pin.mk; apply Exists.intro) | apply Go.Eng.Pinned.mk rfl rfl | (apply Go.Eng.PinH.mk; apply Exists.intro; apply Exists.intro) | exact Go.Eng.Fin0.mk | refine Go.Eng.Chk.mk ?_ ?_ | refine Own.l ?_ | fail))
          (refine Br.mk (fun _ => ?_) (fun _ => ?_))
          · have hlt : i < (revRes (res12 s l)).length := by omega
            have htk := take_pair (revRes (res12 s l)) i hlt
            (repeat' ((conv => whnf); first | (refine Giv.mk fun _ => ?_) | (refine Alt.l (Need.mk ?h ?_); case h => omega) | (refine Alt.r (Need.mk ?h ?_); case h => omega) | (refine Need.mk ?h ?_; case h => first | omega | (intro _; rfl) | assumption | (simp <;> omega)) | refine Ix.zero ?_ | refine Ix.one ?_ | refine Ix.two ?_ | refine Ix.nat ?_ | refine Ix.add ?_ | (apply Go.Eng.Pin.mk; apply Exists.intro) | apply Go.Eng.Pinned.mk rfl rfl | (apply Go.Eng.PinH.mk; apply Exists.intro; apply Exists.intro) | exact Go.Eng.Fin0.mk | refine Go.Eng.Chk.mk ?_ ?_ | refine Own.l ?_ | fail))
            (refine Br.mk (fun _ => ?_) (fun _ => ?_))
            · rename_i hk
              have hsk := stR_skip (n12 s).toNat ((revRes (res12 s l)).take i) _ hk
              rw [← htk] at hsk
              (repeat' ((conv => whnf); first | (refine Giv.mk fun _ => ?_) | (refine Alt.l (Need.mk ?h ?_); case h => omega) | (refine Alt.r (Need.mk ?h ?_); case h => omega) | (refine Need.mk ?h ?_; case h => first | omega | (intro _; rfl) | assumption | (simp <;> omega)) | refine Ix.zero ?_ | refine Ix.one ?_ | refine Ix.two ?_ | refine Ix.nat ?_ | refine Ix.add ?_ | (apply Go.Eng.Pin.mk; apply Exists.intro) | apply Go.Eng.Pinned.mk rfl rfl | (apply Go.Eng.PinH.mk; apply Exists.intro; apply Exists.intro) | exact Go.Eng.Fin0.mk | refine Go.Eng.Chk.mk ?_ ?_ | refine Own.l ?_ | (refine Br.mkY ?h ?_; case h => first | omega | assumption) | (refine Br.mkN ?h ?_; case h => first | omega | assumption | exact not_not_intro (by assumption)) | fail))
              refine ⟨(i + 1 : Nat), by show (revRes (res12 s l)).length - (i + 1) < (revRes (res12 s l)).length - i; omega, hlt, ?_⟩
              (repeat' (first | exact trivial | rfl | exact Nat.one_pos | (refine And.intro ?_ ?_) | omega | ((conv => whnf); (refine And.intro ?_ ?_)) | ((conv => whnf); exact trivial)))
              exact hsk.symm
            · rename_i hk
              have hk := Classical.not_not.1 hk
              obtain ⟨⟨q1, q2⟩, q3, q4⟩ := v2 i hlt hk
              have hst := stR_take (n12 s).toNat ((revRes (res12 s l)).take i) _ hk ⟨q1, by omega⟩
              rw [← htk] at hst
              have hpre : ∀ j, j < l.length → 0 ≤ (l.getD j (0, 0)).1 ∧ (l.getD j (0, 0)).1 < (stR (n12 s).toNat ((revRes (res12 s l)).take (i + 1))).length := fun j hj => by
                have := hro.2.2.2 j hj
                rw [stR_len]
                omega
              rw [← hst] at q4 hpre
              (repeat' ((conv => whnf); first | (refine Giv.mk fun _ => ?_) | (refine Alt.l (Need.mk ?h ?_); case h => omega) | (refine Alt.r (Need.mk ?h ?_); case h => omega) | (refine Need.mk ?h ?_; case h => first | omega | (intro _; rfl) | assumption | (simp <;> omega)) | refine Ix.zero ?_ | refine Ix.one ?_ | refine Ix.two ?_ | refine Ix.nat ?_ | refine Ix.add ?_ | (apply Go.Eng.Pin.mk; apply Exists.intro) | apply Go.Eng.Pinned.mk rfl rfl | (apply Go.Eng.PinH.mk; apply Exists.intro; apply Exists.intro) | exact Go.Eng.Fin0.mk | refine Go.Eng.Chk.mk ?_ ?_ | refine Own.l ?_ | (refine Br.mkY ?h ?_; case h => first | omega | assumption) | (refine Br.mkN ?h ?_; case h => first | omega | assumption | exact not_not_intro (by assumption)) | fail))
              refine ix_at ((revRes (res12 s l)).getD i (0, 0)).2.toNat (by omega) ?_
              (repeat' ((conv => whnf); first | (refine Giv.mk fun _ => ?_) | (refine Alt.l (Need.mk ?h ?_); case h => omega) | (refine Alt.r (Need.mk ?h ?_); case h => omega) | (refine Need.mk ?h ?_; case h => first | omega | (intro _; rfl) | assumption | (simp <;> omega)) | refine Ix.zero ?_ | refine Ix.one ?_ | refine Ix.two ?_ | refine Ix.nat ?_ | refine Ix.add ?_ | (apply Go.Eng.Pin.mk; apply Exists.intro) | apply Go.Eng.Pinned.mk rfl rfl | (apply Go.Eng.PinH.mk; apply Exists.intro; apply Exists.intro) | exact Go.Eng.Fin0.mk | refine Go.Eng.Chk.mk ?_ ?_ | refine Own.l ?_ | (refine Br.mkY ?h ?_; case h => first | omega | assumption) | (refine Br.mkN ?h ?_; case h => first | omega | assumption | exact not_not_intro (by assumption)) | fail))
              refine ix_at ((revRes (res12 s l)).getD i (0, 0)).2.toNat (by omega) ?_
              (repeat' ((conv => whnf); first | (refine Giv.mk fun _ => ?_) | (refine Alt.l (Need.mk ?h ?_); case h => omega) | (refine Alt.r (Need.mk ?h ?_); case h => omega) | (refine Need.mk ?h ?_; case h => first | omega | (intro _; rfl) | assumption | (simp <;> omega)) | refine Ix.zero ?_ | refine Ix.one ?_ | refine Ix.two ?_ | refine Ix.nat ?_ | refine Ix.add ?_ | (apply Go.Eng.Pin.mk; apply Exists.intro) | apply Go.Eng.Pinned.mk rfl rfl | (apply Go.Eng.PinH.mk; apply Exists.intro; apply Exists.intro) | exact Go.Eng.Fin0.mk | refine Go.Eng.Chk.mk ?_ ?_ | refine Own.l ?_ | (refine Br.mkY ?h ?_; case h => first | omega | assumption) | (refine Br.mkN ?h ?_; case h => first | omega | assumption | exact not_not_intro (by assumption)) | fail))
              refine ⟨(i + 1 : Nat), by show (revRes (res12 s l)).length - (i + 1) < (revRes (res12 s l)).length - i; omega, hlt, ?_⟩
              (repeat' (first | exact trivial | rfl | exact Nat.one_pos | (refine And.intro ?_ ?_) | omega | ((conv => whnf); (refine And.intro ?_ ?_)) | ((conv => whnf); exact trivial)))
              exact hst
          · have hii : i = (revRes (res12 s l)).length := by omega
            have htk : (revRes (res12 s l)).take i = revRes (res12 s l) := by rw [hii, List.take_length]
            rw [← htk] at v3
            (repeat' ((conv => whnf); first | (refine Giv.mk fun _ => ?_) | (refine Alt.l (Need.mk ?h ?_); case h => omega) | (refine Alt.r (Need.mk ?h ?_); case h => omega) | (refine Need.mk ?h ?_; case h => first | omega | (intro _; rfl) | assumption | (simp <;> omega)) | refine Ix.zero ?_ | refine Ix.one ?_ | refine Ix.two ?_ | refine Ix.nat ?_ | refine Ix.add ?_ | (apply Go.Eng.Pin.mk; apply Exists.intro) | apply Go.Eng.Pinned.mk rfl rfl | (apply Go.Eng.PinH.mk; apply Exists.intro; apply Exists.intro) | exact Go.Eng.Fin0.mk | refine Go.Eng.Chk.mk ?_ ?_ | refine Own.l ?_ | (refine Br.mkY ?h ?_; case h => first | omega | assumption) | (refine Br.mkN ?h ?_; case h => first | omega | assumption | exact not_not_intro (by assumption)) | fail))
            (conv => whnf)
theorem t10 (s : Int) (l T : List (Int × Int)) (hs : inK .u8 s) (hl : Okd (.slice Two) l) (hT : Okd (.slice Two) T) :
    Tri Try.prog true 10 [.val (.int .u8 s), Ps l, Ps T] (.val (.bool true)) :=
  tri_of_body (Γ := [c12, c13, c27, c38, c39, R.c40, R.c42]) (by simp [k12, k13, k27, k38, k39, R.k40, R.k42]) Try.func10 (by simp [Try.ntmps10]) rfl (b10 s l T hs)
end EB
end
section
set_option linter.unusedVariables false
open Go Go.Proofs Go.Eng Go.Shelf
set_option linter.unusedVariables false
namespace EB
set_option maxRecDepth 10000
/-! ### Ways -/
def Edge (on : List (List Int)) (u v : Int) : Prop := v ∈ on.getD u.toNat []
inductive Way (on : List (List Int)) : Int → Int → Prop
  | one (u v : Int) (h : Edge on u v) : Way on u v
  | more (u v w : Int) (h : Edge on u v) (hw : Way on v w) : Way on u w
theorem Way.trans {on : List (List Int)} {u v w : Int} (h : Way on u v) (h2 : Way on v w) : Way on u w := by
  induction h with
  | one u v h => exact .more u v w h h2
  | more u v x h _ ih => exact .more u v w h (ih h2)
theorem Way.snoc {on : List (List Int)} {u v w : Int} (h : Way on u v) (h2 : Edge on v w) : Way on u w := h.trans (.one v w h2)
/-- Whether a member is below itself. -/
def Loops (on : List (List Int)) (n : Int) : Prop := ∃ i : Int, (0 ≤ i ∧ i < n) ∧ Way on i i
/-- Rows whose members are in their range. -/
def Rows2 (on : List (List Int)) (n : Int) : Prop := (on.length : Int) = n ∧ ∀ u v : Int, Edge on u v → 0 ≤ v ∧ v < n
theorem onL_edge {n : Int} {l : List (Int × Int)} {u v : Int} (hu : 0 ≤ u ∧ u < n) : Edge (onL n l) u v ↔ 0 ≤ v ∧ (u, v) ∈ l := by
  unfold Edge
  have e : (onL n l).getD u.toNat [] = rowOf l l.length u.toNat := onN_get _ _ _ _ (by omega)
  rw [e]
  unfold rowOf
  rw [List.take_length, List.mem_map]
  constructor
  · rintro ⟨r, hr, rfl⟩
    rw [List.mem_filter] at hr
    have := of_decide_eq_true hr.2
    have h1 : r.1 = u := by omega
    refine ⟨this.2, ?_⟩
    have : (u, r.2) = r := Prod.ext h1.symm rfl
    rw [this]; exact hr.1
  · rintro ⟨h1, h2⟩
    exact ⟨(u, v), List.mem_filter.2 ⟨h2, decide_eq_true ⟨by show u = _; omega, h1⟩⟩, rfl⟩
theorem edge_out {on : List (List Int)} {u v : Int} (h : Edge on u v) : u.toNat < on.length := by
  apply Classical.byContradiction
  intro hn
  unfold Edge at h
  rw [List.getD_eq_getElem?_getD, List.getElem?_eq_none (by omega)] at h
  cases h
theorem onL_neg {n : Int} {l : List (Int × Int)} {u : Int} (h : u < 0) : (onL n l).getD u.toNat [] = (onL n l).getD (0 : Int).toNat [] := by
  rw [show u.toNat = (0 : Int).toNat by omega]
theorem onL_rows {n : Int} {l : List (Int × Int)} (h : RestsOk n l) : Rows2 (onL n l) n := by
  obtain ⟨r1, r2, r3, r4⟩ := h
  refine ⟨by rw [onL_len]; omega, fun u v he => ?_⟩
  have hu := edge_out he
  rw [onL_len] at hu
  have key : ∀ u v : Int, 0 ≤ u → u < n → Edge (onL n l) u v → 0 ≤ v ∧ v < n := fun u v h0 h1 he => by
    obtain ⟨h2, h3⟩ := (onL_edge ⟨h0, h1⟩).1 he
    obtain ⟨i, i1, i2⟩ := mem_at h3
    have := r4 i i1
    rw [i2] at this
    omega
  by_cases h0 : 0 ≤ u
  · exact key u v h0 (by omega) he
  · refine key 0 v (by omega) (by omega) ?_
    unfold Edge at he ⊢
    rwa [onL_neg (by omega)] at he
/-! ### There is an order exactly if none is below itself -/
theorem edge_pos {n : Int} {l : List (Int × Int)} (h : orderErr n l = 0) {u v : Int} (hu : 0 ≤ u ∧ u < n) (he : Edge (onL n l) u v) : ∀ i, i < (orderRes n l).length → (orderRes n l).getD i (0, 0) = (1, u) → ∃ j, j < i ∧ (orderRes n l).getD j (0, 0) = (1, v) := fun i hi h1 => by
  have hw := whole_ord h
  have hin : InN n (raisedL (orderRes n l) i) := fun m hm => by
    rw [raisedL_mem, take_mem] at hm
    obtain ⟨j, h1, h2, h3⟩ := hm
    have := (hw.at_ j h2).2
    rw [h3] at this
    exact this
  obtain ⟨h2, h3⟩ := (onL_edge hu).1 he
  have hra := ready_at h hi (by rw [h1])
  rw [h1] at hra
  have hlow := lower_in hw.n0 hin hu hra h3 rfl h2
  rw [raisedL_mem, take_mem] at hlow
  obtain ⟨j, j1, j2, j3⟩ := hlow
  exact ⟨j, j1, j3⟩
theorem way_pos {n : Int} {l : List (Int × Int)} (h : orderErr n l = 0) {u v : Int} (hw : Way (onL n l) u v) : (0 ≤ u ∧ u < n) → ∀ i, i < (orderRes n l).length → (orderRes n l).getD i (0, 0) = (1, u) → ∃ j, j < i ∧ (orderRes n l).getD j (0, 0) = (1, v) := by
  have hro := onL_rows (supE_rests (whole_ord h).sup)
  induction hw with
  | one u v he => exact fun hu => edge_pos h hu he
  | more u v x he _ ih =>
    intro hu i hi h1
    obtain ⟨j, j1, j2⟩ := edge_pos h hu he i hi h1
    obtain ⟨q, q1, q2⟩ := ih (hro.2 u v he) j (by omega) j2
    exact ⟨q, by omega, q2⟩
theorem raise_uniq {n : Int} {l : List (Int × Int)} (h : orderErr n l = 0) : ∀ i j m, i < j → j < (orderRes n l).length → (orderRes n l).getD i (0, 0) = (1, m) → (orderRes n l).getD j (0, 0) = (1, m) → False := fun i j m hij hj h1 h2 => by
  have hw := whole_ord h
  have hin : InN n (raisedL (orderRes n l) j) := fun m hm => by
    rw [raisedL_mem, take_mem] at hm
    obtain ⟨j, h1, h2, h3⟩ := hm
    have := (hw.at_ j h2).2
    rw [h3] at this
    exact this
  have hra := ready_at h hj (by rw [h2])
  rw [h2] at hra
  have hm := (hw.at_ j hj).2
  rw [h2] at hm
  refine hra.1 ((has_mem hw.n0 hin hm.1).2 ?_)
  rw [raisedL_mem, take_mem]
  exact ⟨i, hij, by omega, h1⟩
theorem order_noloop {n : Int} {l : List (Int × Int)} (h : orderErr n l = 0) : ¬ Loops (onL n l) n := by
  rintro ⟨i, hi, hw⟩
  have h3 := (whole_ord h).once i hi.1 hi.2
  have h4 : i ∈ raisedL (orderRes n l) (orderRes n l).length := by rw [← List.count_pos_iff]; omega
  rw [raisedL_mem, take_mem] at h4
  obtain ⟨j, _, h5, h6⟩ := h4
  obtain ⟨q, q1, q2⟩ := way_pos h hw hi j h5 h6
  exact raise_uniq h q j i q1 h5 q2 h6
/-- Where each has a next one, one comes again. -/
theorem comes_again {on : List (List Int)} {n : Int} (hn : 0 ≤ n) {S : Int → Prop} (hS : ∀ u, S u → 0 ≤ u ∧ u < n) (hx : ∀ u, S u → ∃ v, S v ∧ Edge on u v) {u : Int} (hu : S u) : Loops on n := by
  have key : ∀ k : Nat, ∃ ws : List Int, ws.length = k + 1 ∧ (∀ w ∈ ws, S w) ∧ ws.Pairwise (fun a b => Way on b a) ∧ ∃ w r, ws = w :: r := by
    intro k
    induction k with
    | zero => exact ⟨[u], rfl, fun w hw => by rw [List.mem_singleton.1 hw]; exact hu, List.pairwise_singleton _ _, u, [], rfl⟩
    | succ k ih =>
      obtain ⟨ws, h1, h2, h3, w, r, rfl⟩ := ih
      obtain ⟨v, hv, he⟩ := hx w (h2 w List.mem_cons_self)
      refine ⟨v :: w :: r, by simpa using h1, fun x hx => ?_, ?_, v, _, rfl⟩
      · rcases List.mem_cons.1 hx with rfl | hx
        · exact hv
        · exact h2 x hx
      · refine List.pairwise_cons.2 ⟨fun x hx => ?_, h3⟩
        rcases List.mem_cons.1 hx with rfl | hx
        · exact .one _ _ he
        · exact ((List.pairwise_cons.1 h3).1 x hx).snoc he
  obtain ⟨ws, h1, h2, h3, _⟩ := key n.toNat
  have hnd : ¬ ws.Nodup := fun h => by
    have := nodup_len hn h (fun w hw => hS w (h2 w hw))
    omega
  rw [List.nodup_iff_pairwise_ne] at hnd
  apply Classical.byContradiction
  intro hno
  refine hnd (h3.imp_of_mem fun {a b} ha hb hw e => ?_)
  subst e
  exact hno ⟨a, hS a (h2 a ha), hw⟩
theorem nodup_sub_len : ∀ (a b : List Int), a.Nodup → (∀ x ∈ a, x ∈ b) → a.length ≤ b.length
  | [], _, _, _ => Nat.zero_le _
  | x :: r, b, h, hs => by
    have hx := hs x List.mem_cons_self
    rw [List.nodup_cons] at h
    have := nodup_sub_len r (b.erase x) h.2 fun y hy => by
      have hne : y ≠ x := fun e => h.1 (e ▸ hy)
      exact (List.mem_erase_of_ne hne).2 (hs y (List.mem_cons_of_mem _ hy))
    rw [List.length_erase_of_mem hx] at this
    have hp := List.length_pos_of_mem hx
    rw [List.length_cons]; omega
theorem noorder_loop {n : Int} {l : List (Int × Int)} (hs : supE n l = 0) (h : ¬ orderErr n l = 0) : Loops (onL n l) n ∧ orderErr n l = 27 := by
  have hro := supE_rests hs
  obtain ⟨r1, r2, r3, r4⟩ := id hro
  unfold orderErr at h ⊢
  rw [if_neg (not_not_intro hs)] at h ⊢
  split at h
  · rename_i hr
    rw [if_pos hr]
    refine ⟨?_, rfl⟩
    have hraise : raisedL (ordL n l) (ordL n l).length = msAt (onL n l) n n.toNat := raised_all _ _
    rw [raisedIn_eq, hraise] at hr
    have hin := msAt_in (onL n l) n n.toNat
    have hnx : nxt (onL n l) n (msAt (onL n l) n n.toNat) = -1 := by
      rcases nxt_cases (onL n l) n (msAt (onL n l) n n.toNat) with h1 | ⟨i, h1, h2, h3, h4⟩
      · exact h1.1
      · exfalso
        have h5 := msAt_short (onL n l) n n.toNat (by omega) 1
        rw [msAt_succ, if_pos (by omega)] at h5
        have := congrArg List.length h5
        simp at this
    have hnr : ∀ j : Nat, j < n.toNat → ¬ readyP (onL n l) (putL (words n) (msAt (onL n l) n n.toNat)) j := by
      rcases nxt_cases (onL n l) n (msAt (onL n l) n n.toNat) with h1 | ⟨i, h1, h2, h3, h4⟩
      · exact h1.2
      · omega
    have hex : ∃ u : Int, (0 ≤ u ∧ u < n) ∧ ¬ u ∈ msAt (onL n l) n n.toNat := by
      apply Classical.byContradiction
      intro hno
      have hall : ∀ u : Int, 0 ≤ u → u < n → u ∈ msAt (onL n l) n n.toNat := fun u h1 h2 => Classical.byContradiction fun h3 => hno ⟨u, ⟨h1, h2⟩, h3⟩
      have hsub : ((List.range n.toNat).map fun i : Nat => (i : Int)) ⊆ msAt (onL n l) n n.toNat := by
        intro x hx
        rw [List.mem_map] at hx
        obtain ⟨i, hi, rfl⟩ := hx
        rw [List.mem_range] at hi
        exact hall i (by omega) (by omega)
      have hnd : ((List.range n.toNat).map fun i : Nat => (i : Int)).Nodup := by
        rw [List.nodup_iff_pairwise_ne, List.pairwise_map]
        exact List.Pairwise.imp (fun h => by omega) List.pairwise_lt_range
      have := nodup_sub_len _ _ hnd hsub
      rw [List.length_map, List.length_range] at this
      omega
    obtain ⟨u, hu, hum⟩ := hex
    refine comes_again r2 (S := fun u => (0 ≤ u ∧ u < n) ∧ ¬ u ∈ msAt (onL n l) n n.toNat) (fun u h => h.1) (fun u hu => ?_) ⟨hu, hum⟩
    obtain ⟨hu, hum⟩ := hu
    have := hnr u.toNat (by omega)
    rw [Int.toNat_of_nonneg hu.1] at this
    unfold readyP at this
    have hnh : ¬ hasW (putL (words n) (msAt (onL n l) n n.toNat)) u := fun h => hum ((has_mem r2 hin hu.1).1 h)
    have hany : ((onL n l).getD u.toNat []).any (lackP (putL (words n) (msAt (onL n l) n n.toNat))) = true := Classical.byContradiction fun h => this ⟨hnh, h⟩
    rw [List.any_eq_true] at hany
    obtain ⟨v, hv, hlk⟩ := hany
    have hvn := (onL_rows hro).2 u v hv
    refine ⟨v, ⟨hvn, fun hm => ?_⟩, hv⟩
    exact of_decide_eq_true hlk ((has_mem r2 hin hvn.1).2 hm)
  · exact absurd rfl h
end EB
end
section
set_option linter.unusedVariables false
open Go Go.Proofs Go.Eng Go.Shelf
set_option linter.unusedVariables false
namespace EB
set_option maxRecDepth 10000
/-! ### slices.Delete, slices.Index -/
def cutL (xs : List (Int × Int)) (i j : Nat) : List (Int × Int) := xs.take i ++ xs.drop j
theorem cut_lay {α : Type} (xs ys zs : List α) (p : Nat) (h : p + ys.length ≤ xs.length) : List.take (p + ys.length) (layL (layL xs p ys) (p + ys.length - 0) zs) = xs.take p ++ ys := by
  have h1 : (xs.take p).length = p := by rw [List.length_take]; omega
  have h2 : (layL xs p ys).take (p + ys.length) = xs.take p ++ ys := by
    unfold layL
    first
      | rw [List.take_append_of_le_length (by rw [List.length_append, h1]; exact Nat.le_refl _), List.take_of_length_le (by rw [List.length_append, h1]; exact Nat.le_refl _)]
      | rw [← List.append_assoc, List.take_append_of_le_length (by rw [List.length_append, h1]; exact Nat.le_refl _), List.take_of_length_le (by rw [List.length_append, h1]; exact Nat.le_refl _)]
  have h3 : (layL xs p ys).length = xs.length := layL_len _ _ _ h
  rw [Nat.sub_zero, ← h2]
  generalize layL xs p ys = A at h3
  generalize p + ys.length = k at h
  have h4 : (A.take k).length = k := by rw [List.length_take]; omega
  unfold layL
  first
    | rw [List.take_append_of_le_length (by rw [List.length_append, h4]; omega), List.take_append_of_le_length (by omega), List.take_take, Nat.min_self]
    | rw [List.take_append_of_le_length (by omega), List.take_take, Nat.min_self]
theorem b36 (i j : Int) (xs : List (Int × Int)) (h : 0 ≤ i ∧ i < j ∧ j ≤ (xs.length : Int)) : bodyL Try.prog [] {} Try.f36 0 false [.any, I i, I j] Two xs 29 (.ref 0 1) (cutL xs i.toNat j.toNat) := by
  obtain ⟨h1, h2, h3⟩ := h
  obtain ⟨p, rfl⟩ : ∃ p : Nat, i = p := ⟨i.toNat, by omega⟩
  obtain ⟨q, rfl⟩ : ∃ q : Nat, j = q := ⟨j.toNat, by omega⟩
  have hl : (List.drop q (List.take xs.length xs)).length = xs.length - q := by simp
  have hll : (layL xs p (List.drop q (List.take xs.length xs))).length = xs.length := layL_len _ _ _ (by rw [hl]; omega)
  (repeat' ((conv => whnf); first | (refine Giv.mk fun _ => ?_) | (refine Alt.l (Need.mk ?h ?_); case h => omega) | (refine Alt.r (Need.mk ?h ?_); case h => omega) | (refine Need.mk ?h ?_; case h => first | omega | (intro _; rfl) | assumption | (simp <;> omega)) | refine Ix.zero ?_ | refine Ix.one ?_ | refine Ix.two ?_ | refine Ix.nat ?_ | refine Ix.add ?_ | (apply Go.Eng.Pin.mk; apply Exists.intro) | apply Go.Eng.Pinned.mk rfl rfl | (apply Go.Eng.PinH.mk; apply Exists.intro; apply Exists.intro) | exact Go.Eng.Fin0.mk | refine Go.Eng.Chk.mk ?_ ?_ | (refine Br.mkY ?h ?_; case h => first | omega | assumption) | (refine Br.mkN ?h ?_; case h => first | omega | assumption | exact not_not_intro (by assumption)) | fail))
  refine Own.r ?_
  (repeat' ((conv => whnf); first | (refine Giv.mk fun _ => ?_) | (refine Alt.l (Need.mk ?h ?_); case h => omega) | (refine Alt.r (Need.mk ?h ?_); case h => omega) | (refine Need.mk ?h ?_; case h => first | omega | (intro _; rfl) | assumption | (simp <;> omega)) | refine Ix.zero ?_ | refine Ix.one ?_ | refine Ix.two ?_ | refine Ix.nat ?_ | refine Ix.add ?_ | (apply Go.Eng.Pin.mk; apply Exists.intro) | apply Go.Eng.Pinned.mk rfl rfl | (apply Go.Eng.PinH.mk; apply Exists.intro; apply Exists.intro) | exact Go.Eng.Fin0.mk | refine Go.Eng.Chk.mk ?_ ?_ | (refine Br.mkY ?h ?_; case h => first | omega | assumption) | (refine Br.mkN ?h ?_; case h => first | omega | assumption | exact not_not_intro (by assumption)) | fail))
  refine Own.r ?_
  (repeat' ((conv => whnf); first | (refine Giv.mk fun _ => ?_) | (refine Alt.l (Need.mk ?h ?_); case h => omega) | (refine Alt.r (Need.mk ?h ?_); case h => omega) | (refine Need.mk ?h ?_; case h => first | omega | (intro _; rfl) | assumption | (simp <;> omega)) | refine Ix.zero ?_ | refine Ix.one ?_ | refine Ix.two ?_ | refine Ix.nat ?_ | refine Ix.add ?_ | (apply Go.Eng.Pin.mk; apply Exists.intro) | apply Go.Eng.Pinned.mk rfl rfl | (apply Go.Eng.PinH.mk; apply Exists.intro; apply Exists.intro) | exact Go.Eng.Fin0.mk | refine Go.Eng.Chk.mk ?_ ?_ | (refine Br.mkY ?h ?_; case h => first | omega | assumption) | (refine Br.mkN ?h ?_; case h => first | omega | assumption | exact not_not_intro (by assumption)) | fail))
  refine Own.l ?_
  (repeat' ((conv => whnf); first | (refine Giv.mk fun _ => ?_) | (refine Alt.l (Need.mk ?h ?_); case h => omega) | (refine Alt.r (Need.mk ?h ?_); case h => omega) | (refine Need.mk ?h ?_; case h => first | omega | (intro _; rfl) | assumption | (simp <;> omega)) | refine Ix.zero ?_ | refine Ix.one ?_ | refine Ix.two ?_ | refine Ix.nat ?_ | refine Ix.add ?_ | (apply Go.Eng.Pin.mk; apply Exists.intro) | apply Go.Eng.Pinned.mk rfl rfl | (apply Go.Eng.PinH.mk; apply Exists.intro; apply Exists.intro) | exact Go.Eng.Fin0.mk | refine Go.Eng.Chk.mk ?_ ?_ | (refine Br.mkY ?h ?_; case h => first | omega | assumption) | (refine Br.mkN ?h ?_; case h => first | omega | assumption | exact not_not_intro (by assumption)) | fail))
  refine Own.r ?_
  (repeat' ((conv => whnf); first | (refine Giv.mk fun _ => ?_) | (refine Alt.l (Need.mk ?h ?_); case h => omega) | (refine Alt.r (Need.mk ?h ?_); case h => omega) | (refine Need.mk ?h ?_; case h => first | omega | (intro _; rfl) | assumption | (simp <;> omega)) | refine Ix.zero ?_ | refine Ix.one ?_ | refine Ix.two ?_ | refine Ix.nat ?_ | refine Ix.add ?_ | (apply Go.Eng.Pin.mk; apply Exists.intro) | apply Go.Eng.Pinned.mk rfl rfl | (apply Go.Eng.PinH.mk; apply Exists.intro; apply Exists.intro) | exact Go.Eng.Fin0.mk | refine Go.Eng.Chk.mk ?_ ?_ | (refine Br.mkY ?h ?_; case h => first | omega | assumption) | (refine Br.mkN ?h ?_; case h => first | omega | assumption | exact not_not_intro (by assumption)) | fail))
  (repeat' (first | exact trivial | rfl | exact Nat.one_pos | (refine And.intro ?_ ?_) | ((conv => whnf); (refine And.intro ?_ ?_)) | ((conv => whnf); exact trivial)))
  rw [cut_lay xs _ _ p (by omega), List.take_length]
  rfl
def isS (v x : Int × Int) : Bool := decide (x = v)
theorem b37 (xs : List (Int × Int)) (a b : Int) : body Try.prog [] { loops := [(0, anIx 8 (isS (a, b)) xs (0, 0))] } true Try.f37 [Ps xs, .agg [I a, I b]] (I (idxOf (isS (a, b)) xs)) := by
  (repeat' ((conv => whnf); first | (refine Giv.mk fun _ => ?_) | (refine Alt.l (Need.mk ?h ?_); case h => omega) | (refine Alt.r (Need.mk ?h ?_); case h => omega) | (refine Need.mk ?h ?_; case h => first | omega | (intro _; rfl) | assumption | (simp <;> omega)) | refine Ix.zero ?_ | refine Ix.one ?_ | refine Ix.two ?_ | refine Ix.nat ?_ | refine Ix.add ?_ | (apply Go.Eng.Pin.mk; apply Exists.intro) | apply Go.Eng.Pinned.mk rfl rfl | (apply Go.Eng.PinH.mk; apply Exists.intro; apply Exists.intro) | exact Go.Eng.Fin0.mk | refine Go.Eng.Chk.mk ?_ ?_ | refine Own.l ?_ | fail))
  refine ⟨⟨(0 : Nat), ⟨Nat.zero_le _, fun j hj => absurd hj (Nat.not_lt_zero _)⟩, by (repeat' (first | exact trivial | rfl | exact Nat.one_pos | (refine And.intro ?_ ?_) | omega | ((conv => whnf); (refine And.intro ?_ ?_)) | ((conv => whnf); exact trivial)))⟩, fun (i : Nat) hi => ?_⟩
  obtain ⟨hi, hb⟩ := hi
  (repeat' ((conv => whnf); first | (refine Giv.mk fun _ => ?_) | (refine Alt.l (Need.mk ?h ?_); case h => omega) | (refine Alt.r (Need.mk ?h ?_); case h => omega) | (refine Need.mk ?h ?_; case h => first | omega | (intro _; rfl) | assumption | (simp <;> omega)) | refine Ix.zero ?_ | refine Ix.one ?_ | refine Ix.two ?_ | refine Ix.nat ?_ | refine Ix.add ?_ | (apply Go.Eng.Pin.mk; apply Exists.intro) | apply Go.Eng.Pinned.mk rfl rfl | (apply Go.Eng.PinH.mk; apply Exists.intro; apply Exists.intro) | exact Go.Eng.Fin0.mk | refine Go.Eng.Chk.mk ?_ ?_ | refine Own.l ?_ | fail))
  (refine Br.mk (fun _ => ?_) (fun _ => ?_))
  · have hlt : i < xs.length := by omega
    (repeat' ((conv => whnf); first | (refine Giv.mk fun _ => ?_) | (refine Alt.l (Need.mk ?h ?_); case h => omega) | (refine Alt.r (Need.mk ?h ?_); case h => omega) | (refine Need.mk ?h ?_; case h => first | omega | (intro _; rfl) | assumption | (simp <;> omega)) | refine Ix.zero ?_ | refine Ix.one ?_ | refine Ix.two ?_ | refine Ix.nat ?_ | refine Ix.add ?_ | (apply Go.Eng.Pin.mk; apply Exists.intro) | apply Go.Eng.Pinned.mk rfl rfl | (apply Go.Eng.PinH.mk; apply Exists.intro; apply Exists.intro) | exact Go.Eng.Fin0.mk | refine Go.Eng.Chk.mk ?_ ?_ | refine Own.l ?_ | fail))
    (refine Br.mk (fun _ => ?_) (fun _ => ?_))
    · rename_i hh
      (repeat' ((conv => whnf); first | (refine Giv.mk fun _ => ?_) | (refine Alt.l (Need.mk ?h ?_); case h => omega) | (refine Alt.r (Need.mk ?h ?_); case h => omega) | (refine Need.mk ?h ?_; case h => first | omega | (intro _; rfl) | assumption | (simp <;> omega)) | refine Ix.zero ?_ | refine Ix.one ?_ | refine Ix.two ?_ | refine Ix.nat ?_ | refine Ix.add ?_ | (apply Go.Eng.Pin.mk; apply Exists.intro) | apply Go.Eng.Pinned.mk rfl rfl | (apply Go.Eng.PinH.mk; apply Exists.intro; apply Exists.intro) | exact Go.Eng.Fin0.mk | refine Go.Eng.Chk.mk ?_ ?_ | refine Own.l ?_ | fail))
      (conv => whnf)
      exact ⟨rfl, (idxOf_some (0, 0) hlt (decide_eq_true (Prod.ext hh.1.symm hh.2.symm)) hb).symm⟩
    · rename_i hh
      (repeat' ((conv => whnf); first | (refine Giv.mk fun _ => ?_) | (refine Alt.l (Need.mk ?h ?_); case h => omega) | (refine Alt.r (Need.mk ?h ?_); case h => omega) | (refine Need.mk ?h ?_; case h => first | omega | (intro _; rfl) | assumption | (simp <;> omega)) | refine Ix.zero ?_ | refine Ix.one ?_ | refine Ix.two ?_ | refine Ix.nat ?_ | refine Ix.add ?_ | (apply Go.Eng.Pin.mk; apply Exists.intro) | apply Go.Eng.Pinned.mk rfl rfl | (apply Go.Eng.PinH.mk; apply Exists.intro; apply Exists.intro) | exact Go.Eng.Fin0.mk | refine Go.Eng.Chk.mk ?_ ?_ | refine Own.l ?_ | fail))
      refine ⟨(i + 1 : Nat), by show xs.length - (i + 1) < xs.length - i; omega, ⟨hlt, fun j hj => ?_⟩, by (repeat' (first | exact trivial | rfl | exact Nat.one_pos | (refine And.intro ?_ ?_) | omega | ((conv => whnf); (refine And.intro ?_ ?_)) | ((conv => whnf); exact trivial)))⟩
      by_cases e : j = i
      · subst e; exact decide_eq_false fun e => hh (by rw [e]; exact ⟨rfl, rfl⟩)
      · exact hb j (by omega)
  · have hii : i = xs.length := by omega
    subst hii
    (repeat' ((conv => whnf); first | (refine Giv.mk fun _ => ?_) | (refine Alt.l (Need.mk ?h ?_); case h => omega) | (refine Alt.r (Need.mk ?h ?_); case h => omega) | (refine Need.mk ?h ?_; case h => first | omega | (intro _; rfl) | assumption | (simp <;> omega)) | refine Ix.zero ?_ | refine Ix.one ?_ | refine Ix.two ?_ | refine Ix.nat ?_ | refine Ix.add ?_ | (apply Go.Eng.Pin.mk; apply Exists.intro) | apply Go.Eng.Pinned.mk rfl rfl | (apply Go.Eng.PinH.mk; apply Exists.intro; apply Exists.intro) | exact Go.Eng.Fin0.mk | refine Go.Eng.Chk.mk ?_ ?_ | refine Own.l ?_ | fail))
    (conv => whnf)
    exact ⟨rfl, (idxOf_none (0, 0) hb).symm⟩
def c36 : Con := linCon 36 0 false fun args o K => match args, o with | [.any, .val (.int .i64 i), .val (.int .i64 j)], .vec 1 (.pair (.int .i64) (.int .i64)) ws 29 => Need (0 ≤ i ∧ i < j ∧ j ≤ (ws.length : Int)) (K (.ref 0 1) (.vec 1 (.pair (.int .i64) (.int .i64)) (cutL ws i.toNat j.toNat) 29)) | _, _ => False
theorem k36 : ConOK Try.prog c36 := by
  refine linOK_of (enters_of Try.func36 (by kernel_rfl) rfl) ?_
  intro args t xs e K hfl h
  split at h
  · rename_i i j zs heq
    cases heq
    first | exact ⟨_, _, h.go, ltri_of_body (Γ := []) (by simp) Try.func36 (by simp [Try.ntmps36]) rfl (b36 i j zs h.ok)⟩ | exact ⟨_, _, h.go, ltri_of_body (Γ := []) (by simp) Try.func36 (by simp [Try.ntmps36]) rfl (b36 i j xs h.ok)⟩
  · exact h.elim
def c37 : Con := mkCon 37 true fun args K => match args with | [.seq (.pair (.int .i64) (.int .i64)) xs, .agg [.val (.int .i64 a), .val (.int .i64 b)]] => K (I (idxOf (isS (a, b)) xs)) | _ => False
theorem k37 : ConOK Try.prog c37 := by
  refine conOK_of rfl (enters_of Try.func37 (by kernel_rfl) rfl) ?_
  intro args K h
  simp only [c37] at h
  split at h
  · rename_i xs a b; exact ⟨_, h, tri_of_body (Γ := []) (by simp) Try.func37 (by simp [Try.ntmps37]) rfl (b37 xs a b)⟩
  · exact h.elim
end
section
set_option linter.unusedVariables false
open Go Go.Proofs Go.Eng Go.Shelf
set_option linter.unusedVariables false
namespace EB
set_option maxRecDepth 10000
/-! ### Steps that only raise and prop -/
def rsd (T : List (Int × Int)) : List Int := (T.filter fun x => decide (x.1 = 1)).map (·.2)
def prp (T : List (Int × Int)) : List Int := (T.filter fun x => decide (x.1 = 2)).map (·.2)
section
variable {on : List (List Int)} {rs : List Bool}
theorem fold_err : ∀ (T : List (Int × Int)) (c : CS), c.err = true → T.foldl (doOne on rs) c = c
  | [], _, _ => rfl
  | x :: r, c, h => by
    rw [List.foldl_cons]
    have : doOne on rs c x = c := by unfold doOne; rw [if_pos h]
    rw [this]; exact fold_err r c h
theorem doOne_ok {c : CS} {x : Int × Int} (hk : x.1 = 1 ∨ x.1 = 2) (h : ¬ (doOne on rs c x).err = true) : canDo on rs c x ∧ doOne on rs c x = if x.1 = 1 then ⟨putW c.st x.2, c.pr, false⟩ else ⟨c.st, putW c.pr x.2, false⟩ := by
  unfold doOne at h ⊢
  by_cases h1 : c.err = true
  · rw [if_pos h1] at h; exact absurd h1 h
  rw [if_neg h1] at h ⊢
  by_cases h2 : ¬ canDo on rs c x
  · rw [if_pos h2] at h; exact absurd rfl h
  rw [if_neg h2] at h ⊢
  refine ⟨Classical.not_not.1 h2, ?_⟩
  by_cases h3 : x.1 = 1
  · rw [if_pos h3, if_pos h3]
  · rw [if_neg h3, if_neg h3, if_pos (by omega)]
theorem fold_rp {w : List Int} : ∀ (T : List (Int × Int)) (A B : List Int), (∀ x ∈ T, x.1 = 1 ∨ x.1 = 2) → ¬ (T.foldl (doOne on rs) ⟨putL w A, putL w B, false⟩).err = true → T.foldl (doOne on rs) ⟨putL w A, putL w B, false⟩ = ⟨putL w (A ++ rsd T), putL w (B ++ prp T), false⟩
  | [], A, B, _, _ => by simp [rsd, prp]
  | x :: r, A, B, hk, h => by
    rw [List.foldl_cons] at h ⊢
    by_cases he : (doOne on rs ⟨putL w A, putL w B, false⟩ x).err = true
    · rw [fold_err _ _ he] at h; exact absurd he h
    obtain ⟨_, e⟩ := doOne_ok (hk x List.mem_cons_self) he
    rw [e] at h ⊢
    have hk' : ∀ y ∈ r, y.1 = 1 ∨ y.1 = 2 := fun y hy => hk y (List.mem_cons_of_mem _ hy)
    by_cases h1 : x.1 = 1
    · rw [if_pos h1] at h ⊢
      have e1 : rsd (x :: r) = x.2 :: rsd r := by simp [rsd, h1]
      have e2 : prp (x :: r) = prp r := by unfold prp; rw [List.filter_cons_of_neg (by simp; omega)]
      have e3 : putW (putL w A) x.2 = putL w (A ++ [x.2]) := (putL_snoc w A x.2).symm
      have h : ¬ (r.foldl (doOne on rs) ⟨putW (putL w A) x.2, putL w B, false⟩).err = true := h
      show r.foldl (doOne on rs) ⟨putW (putL w A) x.2, putL w B, false⟩ = _
      rw [e3] at h ⊢
      rw [fold_rp r _ _ hk' h, e1, e2, List.append_assoc]; rfl
    · rw [if_neg h1] at h ⊢
      have h2 : x.1 = 2 := (hk x List.mem_cons_self).resolve_left h1
      have e1 : rsd (x :: r) = rsd r := by unfold rsd; rw [List.filter_cons_of_neg (by simp; omega)]
      have e2 : prp (x :: r) = x.2 :: prp r := by simp [prp, h2]
      have e3 : putW (putL w B) x.2 = putL w (B ++ [x.2]) := (putL_snoc w B x.2).symm
      have h : ¬ (r.foldl (doOne on rs) ⟨putL w A, putW (putL w B) x.2, false⟩).err = true := h
      show r.foldl (doOne on rs) ⟨putL w A, putW (putL w B) x.2, false⟩ = _
      rw [e3] at h ⊢
      rw [fold_rp r _ _ hk' h, e1, e2, List.append_assoc]; rfl
theorem fold_can {n : Int} {X Y : List (Int × Int)} {x : Int × Int} (hk : ∀ y ∈ X ++ x :: Y, y.1 = 1 ∨ y.1 = 2) (h : ¬ (doF on rs n (X ++ x :: Y)).err = true) : canDo on rs ⟨putL (words n) (rsd X), putL (words n) (prp X), false⟩ x := by
  unfold doF at h
  rw [List.foldl_append] at h
  by_cases he : (X.foldl (doOne on rs) ⟨words n, words n, false⟩).err = true
  · rw [fold_err _ _ he] at h; exact absurd he h
  have e := fold_rp (on := on) (rs := rs) (w := words n) X [] [] (fun y hy => hk y (List.mem_append.2 (.inl hy))) he
  have e : X.foldl (doOne on rs) ⟨words n, words n, false⟩ = ⟨putL (words n) (rsd X), putL (words n) (prp X), false⟩ := e
  rw [e, List.foldl_cons] at h
  by_cases h2 : (doOne on rs ⟨putL (words n) (rsd X), putL (words n) (prp X), false⟩ x).err = true
  · rw [fold_err _ _ h2] at h; exact absurd h2 h
  exact (doOne_ok (hk x (List.mem_append.2 (.inr List.mem_cons_self))) h2).1
end
theorem rsd_mem {T : List (Int × Int)} {m : Int} : m ∈ rsd T ↔ (1, m) ∈ T := by
  unfold rsd
  simp only [List.mem_map, List.mem_filter, decide_eq_true_eq]
  constructor
  · rintro ⟨x, ⟨h1, h2⟩, rfl⟩
    have : x = (1, x.2) := Prod.ext h2 rfl
    rw [← this]; exact h1
  · intro h; exact ⟨_, ⟨h, rfl⟩, rfl⟩
theorem prp_mem {T : List (Int × Int)} {m : Int} : m ∈ prp T ↔ (2, m) ∈ T := by
  unfold prp
  simp only [List.mem_map, List.mem_filter, decide_eq_true_eq]
  constructor
  · rintro ⟨x, ⟨h1, h2⟩, rfl⟩
    have : x = (2, x.2) := Prod.ext h2 rfl
    rw [← this]; exact h1
  · intro h; exact ⟨_, ⟨h, rfl⟩, rfl⟩
theorem rsd_len (T : List (Int × Int)) : (rsd T).length ≤ T.length := by
  unfold rsd; rw [List.length_map]; exact List.length_filter_le _ _
theorem drop_mem {T : List (Int × Int)} {k : Nat} {x : Int × Int} (h : x ∈ T.drop k) : ∃ j, k ≤ j ∧ j < T.length ∧ T.getD j (0, 0) = x := by
  obtain ⟨i, hi, rfl⟩ := List.getElem_of_mem h
  have hi' : k + i < T.length := by rw [List.length_drop] at hi; omega
  exact ⟨k + i, by omega, hi', by rw [List.getElem_drop, List.getD_eq_getElem?_getD, List.getElem?_eq_getElem hi']; rfl⟩
/-! ### Without one of its steps an order is refused -/
theorem ord_chk2 {n : Int} {l T : List (Int × Int)} (h : orderErr n l = 0) (hl : T.length ≤ 4096) (hm : ∀ x ∈ T, x ∈ orderRes n l) : chkE n T = 0 ∧ (∀ x ∈ T, x.1 = 1 ∨ x.1 = 2) ∧ ∀ x ∈ T, 0 ≤ x.2 ∧ x.2 < n := by
  have hw := whole_ord h
  have key : ∀ x ∈ T, (x.1 = 1 ∨ x.1 = 2) ∧ 0 ≤ x.2 ∧ x.2 < n := fun x hx => by
    obtain ⟨i, h1, h2⟩ := mem_at (hm x hx)
    have := hw.at_ i h1
    rw [h2] at this
    exact this
  refine ⟨chkE_zero hl fun x hx => ?_, fun x hx => (key x hx).1, fun x hx => (key x hx).2⟩
  have := key x hx
  exact ⟨this.1.elim .inl fun h => .inr (.inl h), this.2⟩
theorem less_refused {n : Int} {l : List (Int × Int)} (h : orderErr n l = 0) {i : Nat} (hi : i < (orderRes n l).length) : checkE n l (cutL (orderRes n l) i (i + 1)) = 26 ∨ checkE n l (cutL (orderRes n l) i (i + 1)) = 9 := by
  have hw := whole_ord h
  have hu := raise_uniq h
  have hlen := hw.len
  have hT : ∀ x ∈ cutL (orderRes n l) i (i + 1), x ∈ orderRes n l := fun x hx => by
    rcases List.mem_append.1 hx with hx | hx
    · exact List.mem_of_mem_take hx
    · exact List.mem_of_mem_drop hx
  obtain ⟨hc, hk, hin⟩ := ord_chk2 h (by unfold cutL; simp; omega) hT
  rw [check_doF hw.sup hc]
  by_cases he : (doF (onL n l) (restL n l) n (cutL (orderRes n l) i (i + 1))).err = true
  · left; unfold endE; rw [if_pos he]
  have hx := hw.at_ i hi
  have hcut : cutL (orderRes n l) i (i + 1) = (orderRes n l).take i ++ (orderRes n l).drop (i + 1) := rfl
  rcases hx.1 with h1 | h1
  · right
    generalize hm : ((orderRes n l).getD i (0, 0)).2 = m at hx
    have hoi : (orderRes n l).getD i (0, 0) = (1, m) := Prod.ext h1 hm
    have e : doF (onL n l) (restL n l) n (cutL (orderRes n l) i (i + 1)) = ⟨putL (words n) (rsd (cutL (orderRes n l) i (i + 1))), putL (words n) (prp (cutL (orderRes n l) i (i + 1))), false⟩ := fold_rp (cutL (orderRes n l) i (i + 1)) [] [] hk he
    have hnm : ¬ m ∈ rsd (cutL (orderRes n l) i (i + 1)) := fun hm => by
      rw [rsd_mem, hcut] at hm
      rcases List.mem_append.1 hm with hm | hm
      · obtain ⟨j, j1, j2, j3⟩ := take_mem.1 hm
        exact hu j i m j1 hi j3 hoi
      · obtain ⟨j, j1, j2, j3⟩ := drop_mem hm
        exact hu i j m (by omega) j2 hoi j3
    have hin2 : InN n (rsd (cutL (orderRes n l) i (i + 1))) := fun x hx => hin _ (rsd_mem.1 hx)
    rw [e]
    unfold endE
    rw [if_neg (by simp), if_pos]
    show ((memsTo (putL (words n) (rsd (cutL (orderRes n l) i (i + 1)))) (64 * (putL (words n) (rsd (cutL (orderRes n l) i (i + 1)))).length)).length : Int) < n
    rw [memsTo_eq (n := n) (f := fun j => decide ((j : Int) ∈ rsd (cutL (orderRes n l) i (i + 1)))) hw.n0 (by rw [putL_len]; exact words_len n hw.n0) (fun j => by rw [has_mem hw.n0 hin2 (by omega), decide_eq_true_iff]) (fun j hj => (hin2 _ (of_decide_eq_true hj)).2)]
    unfold memL
    rw [List.length_map]
    have hlt : ((List.range n.toNat).filter fun (j : Nat) => decide ((j : Int) ∈ rsd (cutL (orderRes n l) i (i + 1)))).length < (List.range n.toNat).length := by
      rw [List.length_filter_lt_length_iff_exists]
      refine ⟨m.toNat, by rw [List.mem_range]; omega, ?_⟩
      rw [decide_eq_true_iff, Int.toNat_of_nonneg hx.2.1]
      exact hnm
    rw [List.length_range] at hlt
    have := hw.n0
    omega
  · exfalso
    obtain ⟨p1, p2, p3⟩ := hw.prop_ i hi h1
    generalize hm : ((orderRes n l).getD i (0, 0)).2 = m at hx p1 p3
    have hoi : (orderRes n l).getD i (0, 0) = (2, m) := Prod.ext h1 hm
    have hd : (orderRes n l).drop (i + 1) = (1, m) :: (orderRes n l).drop (i + 2) := by
      rw [List.drop_eq_getElem_cons p2]
      congr 1
      rw [← p3, List.getD_eq_getElem?_getD, List.getElem?_eq_getElem p2]; rfl
    rw [hcut, hd] at he hk
    have hcan := fold_can hk he
    unfold canDo at hcan
    rw [if_pos rfl] at hcan
    have hin2 : InN n (prp ((orderRes n l).take i)) := fun x hx => hin _ (by rw [hcut]; exact List.mem_append.2 (.inl (prp_mem.1 hx)))
    rcases hcan.2 with h2 | h2
    · rw [rest_up n l _ (by show m.toNat < _; omega)] at h2
      refine p1 ?_
      have : ((m.toNat : Nat) : Int) = m := Int.toNat_of_nonneg hx.2.1
      rw [← this]; exact h2
    · have h3 := (has_mem hw.n0 hin2 hx.2.1).1 h2
      rw [prp_mem] at h3
      obtain ⟨j, j1, j2, j3⟩ := take_mem.1 h3
      obtain ⟨_, q2, q3⟩ := hw.prop_ j j2 (by rw [j3])
      rw [j3] at q3
      exact hu (j + 1) (i + 1) m (by omega) p2 q3 p3
/-! ### A member that is raised ahead of one on which it rests -/
def swapL (o : List (Int × Int)) (a b : Nat) : List (Int × Int) := (o.set a (o.getD b (0, 0))).set b (o.getD a (0, 0))
theorem swap_mem {o : List (Int × Int)} {a b : Nat} (ha : a < o.length) (hb : b < o.length) {x : Int × Int} (h : x ∈ swapL o a b) : x ∈ o := by
  rcases List.mem_or_eq_of_mem_set h with h | rfl
  · rcases List.mem_or_eq_of_mem_set h with h | rfl
    · exact h
    · exact at_mem o b hb
  · exact at_mem o a ha
theorem raised_once {n : Int} {l : List (Int × Int)} (h : orderErr n l = 0) {m : Int} (hm : 0 ≤ m ∧ m < n) : ∃ i, i < (orderRes n l).length ∧ idxOf (isS (1, m)) (orderRes n l) = (i : Int) ∧ (orderRes n l).getD i (0, 0) = (1, m) := by
  have h3 := (whole_ord h).once m hm.1 hm.2
  have h4 : m ∈ raisedL (orderRes n l) (orderRes n l).length := by rw [← List.count_pos_iff]; omega
  rw [raisedL_mem, take_mem] at h4
  obtain ⟨j, _, h5, h6⟩ := h4
  rcases idxOf_cases (isS (1, m)) (orderRes n l) (0, 0) with ⟨_, h7⟩ | ⟨i, i1, i2, i3, _⟩
  · have := h7 j h5
    rw [h6] at this
    exact absurd rfl (of_decide_eq_false this)
  · exact ⟨i, i1, i2, of_decide_eq_true i3⟩
theorem swap_refused {n : Int} {l : List (Int × Int)} (h : orderErr n l = 0) {r : Int × Int} (hr : r ∈ l) (h0 : 0 ≤ r.2) : ∃ a b : Nat, b < a ∧ a < (orderRes n l).length ∧ idxOf (isS (1, r.1)) (orderRes n l) = (a : Int) ∧ idxOf (isS (1, r.2)) (orderRes n l) = (b : Int) ∧ checkE n l (swapL (orderRes n l) a b) = 26 := by
  have hw := whole_ord h
  have hu := raise_uniq h
  have hlen := hw.len
  obtain ⟨r1, r2, r3, r4⟩ := supE_rests hw.sup
  obtain ⟨q, q1, q2⟩ := mem_at hr
  have hq := r4 q q1
  rw [q2] at hq
  obtain ⟨a, a1, a2, a3⟩ := raised_once h (m := r.1) ⟨hq.1, hq.2.1⟩
  obtain ⟨b, b1, b2, b3⟩ := raised_once h (m := r.2) ⟨h0, hq.2.2.2⟩
  obtain ⟨j, j1, j2⟩ := edge_pos h ⟨hq.1, hq.2.1⟩ ((onL_edge ⟨hq.1, hq.2.1⟩).2 ⟨h0, hr⟩) a a1 a3
  have hbj : b = j := by
    rcases Nat.lt_trichotomy b j with hh | hh | hh
    · exact (hu b j _ hh (by omega) b3 j2).elim
    · exact hh
    · exact (hu j b _ hh b1 j2 b3).elim
  have hba : b < a := by omega
  refine ⟨a, b, hba, a1, a2, b2, ?_⟩
  obtain ⟨hc, hk, hin⟩ := ord_chk2 h (by simp [swapL]; omega) (fun x hx => swap_mem a1 b1 hx)
  rw [check_doF hw.sup hc]
  by_cases he : (doF (onL n l) (restL n l) n (swapL (orderRes n l) a b)).err = true
  · unfold endE; rw [if_pos he]
  exfalso
  have hl : b < (swapL (orderRes n l) a b).length := by simp [swapL]; omega
  have hsp : swapL (orderRes n l) a b = (orderRes n l).take b ++ (1, r.1) :: (swapL (orderRes n l) a b).drop (b + 1) := by
    have e1 : (swapL (orderRes n l) a b).take b = (orderRes n l).take b := by
      unfold swapL
      rw [List.take_set_of_le (Nat.le_refl _), List.take_set_of_le (by omega)]
    have e2 : (swapL (orderRes n l) a b)[b]'hl = (1, r.1) := by
      unfold swapL
      first | exact (List.getElem_set_self _).trans a3 | rw [List.getElem_set, if_pos rfl, a3]
    rw [← e1, ← e2, ← List.drop_eq_getElem_cons hl, List.take_append_drop]
  rw [hsp] at he hk
  have hcan := fold_can hk he
  unfold canDo at hcan
  rw [if_pos rfl] at hcan
  have hin2 : InN n (rsd ((orderRes n l).take b)) := fun x hx => by
    rw [rsd_mem, take_mem] at hx
    obtain ⟨i, _, i2, i3⟩ := hx
    have := (hw.at_ i i2).2
    rw [i3] at this
    exact this
  have := lower_in hw.n0 hin2 ⟨hq.1, hq.2.1⟩ hcan.1 hr rfl h0
  rw [rsd_mem, take_mem] at this
  obtain ⟨i, i1, i2, i3⟩ := this
  exact hu i b _ i1 b1 i3 b3
end
section
set_option linter.unusedVariables false
open Go Go.Proofs Go.Eng Go.Shelf
set_option linter.unusedVariables false
namespace EB
set_option maxRecDepth 10000
/-! ### kingpostlaw55.ErectRefused -/
set_option maxHeartbeats 1000000 in
theorem b9 (s : Int) (l : List (Int × Int)) (w : Int) (hs : inK .u8 s) (hw0 : inK .u8 w) : body Try.prog [c12, c13, c16, c23, c36, c37] { asks := [(0, [])] } true Try.f9 [.val (.int .u8 s), Ps l, .val (.int .u8 w)] (.val (.bool true)) := by
  have h1 : 0 ≤ s := by have := hs.1; simpa [lo] using this
  have h2 : s ≤ 255 := by have := hs.2; simpa [hi] using this
  have h3 : 0 ≤ w := by have := hw0.1; simpa [lo] using this
  have h4 : w ≤ 255 := by have := hw0.2; simpa [hi] using this
  (repeat' ((conv => whnf); first | (refine Giv.mk fun _ => ?_) | (refine Alt.l (Need.mk ?h ?_); case h => omega) | (refine Alt.r (Need.mk ?h ?_); case h => omega) | (refine Need.mk ?h ?_; case h => first | omega | (intro _; rfl) | assumption | (simp <;> omega)) | refine Ix.zero ?_ | refine Ix.one ?_ | refine Ix.two ?_ | refine Ix.nat ?_ | refine Ix.add ?_ | (apply Go.Eng.Pin.mk; apply Exists.intro) | apply Go.Eng.Pinned.mk rfl rfl | (apply Go.Eng.PinH.mk; apply Exists.intro; apply Exists.intro) | exact Go.Eng.Fin0.mk | refine Go.Eng.Chk.mk ?_ ?_ | refine Own.l ?_ | fail))
  (refine Br.mk (fun _ => ?_) (fun _ => ?_))
  · (repeat' ((conv => whnf); first | (refine Giv.mk fun _ => ?_) | (refine Alt.l (Need.mk ?h ?_); case h => omega) | (refine Alt.r (Need.mk ?h ?_); case h => omega) | (refine Need.mk ?h ?_; case h => first | omega | (intro _; rfl) | assumption | (simp <;> omega)) | refine Ix.zero ?_ | refine Ix.one ?_ | refine Ix.two ?_ | refine Ix.nat ?_ | refine Ix.add ?_ | (apply Go.Eng.Pin.mk; apply Exists.intro) | apply Go.Eng.Pinned.mk rfl rfl | (apply Go.Eng.PinH.mk; apply Exists.intro; apply Exists.intro) | exact Go.Eng.Fin0.mk | refine Go.Eng.Chk.mk ?_ ?_ | refine Own.l ?_ | fail))
    (conv => whnf)
  · rename_i hok
    have hok := Classical.not_not.1 hok
    have hw := whole_ord hok.2
    have hle := fun i hi => less_refused (i := i) hok.2 hi
    have hsw := fun r (hr : r ∈ l) h0 => swap_refused hok.2 hr h0
    have hr12 : res12 s l = orderRes (n12 s) l := by unfold res12; rw [if_pos hok.1]
    rw [← hr12] at hw hle hsw
    have w0 := hw.n0
    have w1 := hw.n1
    have w4 := hw.len
    (repeat' ((conv => whnf); first | (refine Giv.mk fun _ => ?_) | (refine Alt.l (Need.mk ?h ?_); case h => omega) | (refine Alt.r (Need.mk ?h ?_); case h => omega) | (refine Need.mk ?h ?_; case h => first | omega | (intro _; rfl) | assumption | (simp <;> omega)) | refine Ix.zero ?_ | refine Ix.one ?_ | refine Ix.two ?_ | refine Ix.nat ?_ | refine Ix.add ?_ | (apply Go.Eng.Pin.mk; apply Exists.intro) | apply Go.Eng.Pinned.mk rfl rfl | (apply Go.Eng.PinH.mk; apply Exists.intro; apply Exists.intro) | exact Go.Eng.Fin0.mk | refine Go.Eng.Chk.mk ?_ ?_ | refine Own.l ?_ | fail))
    (refine Br.mk (fun _ => ?_) (fun _ => ?_))
    · (repeat' ((conv => whnf); first | (refine Giv.mk fun _ => ?_) | (refine Alt.l (Need.mk ?h ?_); case h => omega) | (refine Alt.r (Need.mk ?h ?_); case h => omega) | (refine Need.mk ?h ?_; case h => first | omega | (intro _; rfl) | assumption | (simp <;> omega)) | refine Ix.zero ?_ | refine Ix.one ?_ | refine Ix.two ?_ | refine Ix.nat ?_ | refine Ix.add ?_ | (apply Go.Eng.Pin.mk; apply Exists.intro) | apply Go.Eng.Pinned.mk rfl rfl | (apply Go.Eng.PinH.mk; apply Exists.intro; apply Exists.intro) | exact Go.Eng.Fin0.mk | refine Go.Eng.Chk.mk ?_ ?_ | refine Own.l ?_ | fail))
      (conv => whnf)
    · rename_i hne
      have hi0 : 0 ≤ w % ((res12 s l).length : Int) ∧ w % ((res12 s l).length : Int) < ((res12 s l).length : Int) := ⟨Int.emod_nonneg _ hne, Int.emod_lt_of_pos _ (by omega)⟩
      have hl2 := hle (w % ((res12 s l).length : Int)).toNat (by omega)
      have et : (w % ((res12 s l).length : Int) + 1).toNat = (w % ((res12 s l).length : Int)).toNat + 1 := by omega
      rw [← et] at hl2
      (repeat' ((conv => whnf); first | (refine Giv.mk fun _ => ?_) | (refine Alt.l (Need.mk ?h ?_); case h => omega) | (refine Alt.r (Need.mk ?h ?_); case h => omega) | (refine Need.mk ?h ?_; case h => first | omega | (intro _; rfl) | assumption | (simp <;> omega)) | refine Ix.zero ?_ | refine Ix.one ?_ | refine Ix.two ?_ | refine Ix.nat ?_ | refine Ix.add ?_ | (apply Go.Eng.Pin.mk; apply Exists.intro) | apply Go.Eng.Pinned.mk rfl rfl | (apply Go.Eng.PinH.mk; apply Exists.intro; apply Exists.intro) | exact Go.Eng.Fin0.mk | refine Go.Eng.Chk.mk ?_ ?_ | (refine Br.mkY ?h ?_; case h => first | omega | assumption) | (refine Br.mkN ?h ?_; case h => first | omega | assumption | exact not_not_intro (by assumption)) | fail))
      refine Br.mk (fun hc0 => ?_) (fun hc => ?_)
      all_goals
        try have hc := hl2.resolve_left hc0
        (repeat' ((conv => whnf); first | (refine Giv.mk fun _ => ?_) | (refine Alt.l (Need.mk ?h ?_); case h => omega) | (refine Alt.r (Need.mk ?h ?_); case h => omega) | (refine Need.mk ?h ?_; case h => first | omega | (intro _; rfl) | assumption | (simp <;> omega)) | refine Ix.zero ?_ | refine Ix.one ?_ | refine Ix.two ?_ | refine Ix.nat ?_ | refine Ix.add ?_ | (apply Go.Eng.Pin.mk; apply Exists.intro) | apply Go.Eng.Pinned.mk rfl rfl | (apply Go.Eng.PinH.mk; apply Exists.intro; apply Exists.intro) | exact Go.Eng.Fin0.mk | refine Go.Eng.Chk.mk ?_ ?_ | (refine Br.mkY ?h ?_; case h => first | omega | assumption) | (refine Br.mkN ?h ?_; case h => first | omega | assumption | exact not_not_intro (by assumption)) | fail))
        refine Ask.mk ⟨{ X := Nat, pre := fun k => k ≤ l.length, mod := fun k _ => [(56, I k)], mu := fun k => l.length - k }, rfl, ?_⟩
        (repeat' ((conv => whnf); first | (refine Giv.mk fun _ => ?_) | (refine Alt.l (Need.mk ?h ?_); case h => omega) | (refine Alt.r (Need.mk ?h ?_); case h => omega) | (refine Need.mk ?h ?_; case h => first | omega | (intro _; rfl) | assumption | (simp <;> omega)) | refine Ix.zero ?_ | refine Ix.one ?_ | refine Ix.two ?_ | refine Ix.nat ?_ | refine Ix.add ?_ | (apply Go.Eng.Pin.mk; apply Exists.intro) | apply Go.Eng.Pinned.mk rfl rfl | (apply Go.Eng.PinH.mk; apply Exists.intro; apply Exists.intro) | exact Go.Eng.Fin0.mk | refine Go.Eng.Chk.mk ?_ ?_ | refine Own.l ?_ | fail))
        refine ⟨⟨(0 : Nat), Nat.zero_le _, ?_⟩, fun (k : Nat) (hk : k ≤ l.length) => ?_⟩
        · (repeat' (first | exact trivial | rfl | exact Nat.one_pos | (refine And.intro ?_ ?_) | omega | ((conv => whnf); (refine And.intro ?_ ?_)) | ((conv => whnf); exact trivial)))
        · (repeat' ((conv => whnf); first | (refine Giv.mk fun _ => ?_) | (refine Alt.l (Need.mk ?h ?_); case h => omega) | (refine Alt.r (Need.mk ?h ?_); case h => omega) | (refine Need.mk ?h ?_; case h => first | omega | (intro _; rfl) | assumption | (simp <;> omega)) | refine Ix.zero ?_ | refine Ix.one ?_ | refine Ix.two ?_ | refine Ix.nat ?_ | refine Ix.add ?_ | (apply Go.Eng.Pin.mk; apply Exists.intro) | apply Go.Eng.Pinned.mk rfl rfl | (apply Go.Eng.PinH.mk; apply Exists.intro; apply Exists.intro) | exact Go.Eng.Fin0.mk | refine Go.Eng.Chk.mk ?_ ?_ | refine Own.l ?_ | fail))
          (refine Br.mk (fun _ => ?_) (fun _ => ?_))
          · have hkl : k < l.length := by omega
            have hsk := hsw (l.getD k (0, 0)) (at_mem l k hkl)
            (repeat' ((conv => whnf); first | (refine Giv.mk fun _ => ?_) | (refine Alt.l (Need.mk ?h ?_); case h => omega) | (refine Alt.r (Need.mk ?h ?_); case h => omega) | (refine Need.mk ?h ?_; case h => first | omega | (intro _; rfl) | assumption | (simp <;> omega)) | refine Ix.zero ?_ | refine Ix.one ?_ | refine Ix.two ?_ | refine Ix.nat ?_ | refine Ix.add ?_ | (apply Go.Eng.Pin.mk; apply Exists.intro) | apply Go.Eng.Pinned.mk rfl rfl | (apply Go.Eng.PinH.mk; apply Exists.intro; apply Exists.intro) | exact Go.Eng.Fin0.mk | refine Go.Eng.Chk.mk ?_ ?_ | (refine Br.mkY ?h ?_; case h => first | omega | assumption) | (refine Br.mkN ?h ?_; case h => first | omega | assumption | exact not_not_intro (by assumption)) | fail))
            refine Br.mk (fun h0 => ?_) (fun h0 => ?_)
            · (repeat' ((conv => whnf); first | (refine Giv.mk fun _ => ?_) | (refine Alt.l (Need.mk ?h ?_); case h => omega) | (refine Alt.r (Need.mk ?h ?_); case h => omega) | (refine Need.mk ?h ?_; case h => first | omega | (intro _; rfl) | assumption | (simp <;> omega)) | refine Ix.zero ?_ | refine Ix.one ?_ | refine Ix.two ?_ | refine Ix.nat ?_ | refine Ix.add ?_ | (apply Go.Eng.Pin.mk; apply Exists.intro) | apply Go.Eng.Pinned.mk rfl rfl | (apply Go.Eng.PinH.mk; apply Exists.intro; apply Exists.intro) | exact Go.Eng.Fin0.mk | refine Go.Eng.Chk.mk ?_ ?_ | (refine Br.mkY ?h ?_; case h => first | omega | assumption) | (refine Br.mkN ?h ?_; case h => first | omega | assumption | exact not_not_intro (by assumption)) | fail))
              refine ⟨(k + 1 : Nat), by show l.length - (k + 1) < l.length - k; omega, by show k + 1 ≤ l.length; omega, ?_⟩
              (repeat' (first | exact trivial | rfl | exact Nat.one_pos | (refine And.intro ?_ ?_) | omega | ((conv => whnf); (refine And.intro ?_ ?_)) | ((conv => whnf); exact trivial)))
            · obtain ⟨a, b, g1, g2, g3, g4, g5⟩ := hsk (by omega)
              (repeat' ((conv => whnf); first | (refine Giv.mk fun _ => ?_) | (refine Alt.l (Need.mk ?h ?_); case h => omega) | (refine Alt.r (Need.mk ?h ?_); case h => omega) | (refine Need.mk ?h ?_; case h => first | omega | (intro _; rfl) | assumption | (simp <;> omega)) | refine Ix.zero ?_ | refine Ix.one ?_ | refine Ix.two ?_ | refine Ix.nat ?_ | refine Ix.add ?_ | (apply Go.Eng.Pin.mk; apply Exists.intro) | apply Go.Eng.Pinned.mk rfl rfl | (apply Go.Eng.PinH.mk; apply Exists.intro; apply Exists.intro) | exact Go.Eng.Fin0.mk | refine Go.Eng.Chk.mk ?_ ?_ | (refine Br.mkY ?h ?_; case h => first | omega | assumption) | (refine Br.mkN ?h ?_; case h => first | omega | assumption | exact not_not_intro (by assumption)) | fail))
              refine ix_at b g4 ?_
              (repeat' ((conv => whnf); first | (refine Giv.mk fun _ => ?_) | (refine Alt.l (Need.mk ?h ?_); case h => omega) | (refine Alt.r (Need.mk ?h ?_); case h => omega) | (refine Need.mk ?h ?_; case h => first | omega | (intro _; rfl) | assumption | (simp <;> omega)) | refine Ix.zero ?_ | refine Ix.one ?_ | refine Ix.two ?_ | refine Ix.nat ?_ | refine Ix.add ?_ | (apply Go.Eng.Pin.mk; apply Exists.intro) | apply Go.Eng.Pinned.mk rfl rfl | (apply Go.Eng.PinH.mk; apply Exists.intro; apply Exists.intro) | exact Go.Eng.Fin0.mk | refine Go.Eng.Chk.mk ?_ ?_ | (refine Br.mkY ?h ?_; case h => first | omega | assumption) | (refine Br.mkN ?h ?_; case h => first | omega | assumption | exact not_not_intro (by assumption)) | fail))
              refine ix_at a g3 ?_
              (repeat' ((conv => whnf); first | (refine Giv.mk fun _ => ?_) | (refine Alt.l (Need.mk ?h ?_); case h => omega) | (refine Alt.r (Need.mk ?h ?_); case h => omega) | (refine Need.mk ?h ?_; case h => first | omega | (intro _; rfl) | assumption | (simp <;> omega)) | refine Ix.zero ?_ | refine Ix.one ?_ | refine Ix.two ?_ | refine Ix.nat ?_ | refine Ix.add ?_ | (apply Go.Eng.Pin.mk; apply Exists.intro) | apply Go.Eng.Pinned.mk rfl rfl | (apply Go.Eng.PinH.mk; apply Exists.intro; apply Exists.intro) | exact Go.Eng.Fin0.mk | refine Go.Eng.Chk.mk ?_ ?_ | (refine Br.mkY ?h ?_; case h => first | omega | assumption) | (refine Br.mkN ?h ?_; case h => first | omega | assumption | exact not_not_intro (by assumption)) | fail))
              have hst : ((res12 s l).set a (((res12 s l).getD b (0, 0)).fst, ((res12 s l).getD b (0, 0)).snd)).length = (res12 s l).length := List.length_set
              refine ix_at a g3 ?_
              (repeat' ((conv => whnf); first | (refine Giv.mk fun _ => ?_) | (refine Alt.l (Need.mk ?h ?_); case h => omega) | (refine Alt.r (Need.mk ?h ?_); case h => omega) | (refine Need.mk ?h ?_; case h => first | omega | (intro _; rfl) | assumption | (simp <;> omega)) | refine Ix.zero ?_ | refine Ix.one ?_ | refine Ix.two ?_ | refine Ix.nat ?_ | refine Ix.add ?_ | (apply Go.Eng.Pin.mk; apply Exists.intro) | apply Go.Eng.Pinned.mk rfl rfl | (apply Go.Eng.PinH.mk; apply Exists.intro; apply Exists.intro) | exact Go.Eng.Fin0.mk | refine Go.Eng.Chk.mk ?_ ?_ | (refine Br.mkY ?h ?_; case h => first | omega | assumption) | (refine Br.mkN ?h ?_; case h => first | omega | assumption | exact not_not_intro (by assumption)) | fail))
              refine ix_at b g4 ?_
              (repeat' ((conv => whnf); first | (refine Giv.mk fun _ => ?_) | (refine Alt.l (Need.mk ?h ?_); case h => omega) | (refine Alt.r (Need.mk ?h ?_); case h => omega) | (refine Need.mk ?h ?_; case h => first | omega | (intro _; rfl) | assumption | (simp <;> omega)) | refine Ix.zero ?_ | refine Ix.one ?_ | refine Ix.two ?_ | refine Ix.nat ?_ | refine Ix.add ?_ | (apply Go.Eng.Pin.mk; apply Exists.intro) | apply Go.Eng.Pinned.mk rfl rfl | (apply Go.Eng.PinH.mk; apply Exists.intro; apply Exists.intro) | exact Go.Eng.Fin0.mk | refine Go.Eng.Chk.mk ?_ ?_ | (refine Br.mkY ?h ?_; case h => first | omega | assumption) | (refine Br.mkN ?h ?_; case h => first | omega | assumption | exact not_not_intro (by assumption)) | fail))
              refine ⟨(k + 1 : Nat), by show l.length - (k + 1) < l.length - k; omega, by show k + 1 ≤ l.length; omega, ?_⟩
              (repeat' (first | exact trivial | rfl | exact Nat.one_pos | (refine And.intro ?_ ?_) | omega | ((conv => whnf); (refine And.intro ?_ ?_)) | ((conv => whnf); exact trivial)))
          · (repeat' ((conv => whnf); first | (refine Giv.mk fun _ => ?_) | (refine Alt.l (Need.mk ?h ?_); case h => omega) | (refine Alt.r (Need.mk ?h ?_); case h => omega) | (refine Need.mk ?h ?_; case h => first | omega | (intro _; rfl) | assumption | (simp <;> omega)) | refine Ix.zero ?_ | refine Ix.one ?_ | refine Ix.two ?_ | refine Ix.nat ?_ | refine Ix.add ?_ | (apply Go.Eng.Pin.mk; apply Exists.intro) | apply Go.Eng.Pinned.mk rfl rfl | (apply Go.Eng.PinH.mk; apply Exists.intro; apply Exists.intro) | exact Go.Eng.Fin0.mk | refine Go.Eng.Chk.mk ?_ ?_ | refine Own.l ?_ | fail))
            (conv => whnf)
theorem t9 (s : Int) (l : List (Int × Int)) (w : Int) (hs : inK .u8 s) (hl : Okd (.slice Two) l) (hw : inK .u8 w) :
    Tri Try.prog true 9 [.val (.int .u8 s), Ps l, .val (.int .u8 w)] (.val (.bool true)) :=
  tri_of_body (Γ := [c12, c13, c16, c23, c36, c37]) (by simp [k12, k13, k16, k23, k36, k37]) Try.func9 (by simp [Try.ntmps9]) rfl (b9 s l w hs hw)
end EB
end
