import Derived.Test.YtpmbhgmifiianaaE4
open Go Go.Proofs Go.Eng Go.Shelf
namespace EB
set_option maxRecDepth 10000
/-! ### erect.Ready -/
theorem any_take_succ {α : Type} (p : α → Bool) (xs : List α) (d : α) (k : Nat) (h : k < xs.length) : (xs.take (k + 1)).any p = ((xs.take k).any p || p (xs.getD k d)) := by
  rw [List.take_succ_eq_append_getElem h, List.any_append]
  simp [List.getD_eq_getElem?_getD, h]
theorem any_getD {α : Type} (p : α → Bool) (xs : List α) (d : α) (k : Nat) (h : k < xs.length) (hp : p (xs.getD k d) = true) : xs.any p = true := by
  rw [List.any_eq_true]
  exact ⟨xs[k], List.getElem_mem h, by simpa [List.getD_eq_getElem?_getD, h] using hp⟩
def words (n : Int) : List Int := List.replicate ((n + 63) / 64).toNat 0
def putL (ws : List Int) (ms : List Int) : List Int := ms.foldl putW ws
theorem putW_len (ws : List Int) (i : Int) : (putW ws i).length = ws.length := by simp [putW]
theorem putL_len (ms ws : List Int) : (putL ws ms).length = ws.length := by
  induction ms generalizing ws with
  | nil => rfl
  | cons m r ih => show (putL (putW ws m) r).length = _; rw [ih, putW_len]
theorem putL_succ (ws ms : List Int) (k : Nat) (h : k < ms.length) : putL ws (ms.take (k + 1)) = putW (putL ws (ms.take k)) (ms.getD k 0) := by
  unfold putL
  rw [List.take_succ_eq_append_getElem h, List.foldl_append]
  simp [List.getD_eq_getElem?_getD, h]
theorem words_len (n : Int) (h : 0 ≤ n) : ((words n).length : Int) = (n + 63) / 64 := by
  simp [words]; omega
def outB (n m : Int) : Bool := decide (m < 0 ∨ n ≤ m)
def readyTo (on : List (List Int)) (ws : List Int) (k : Nat) : List Int := ((List.range k).filter fun (i : Nat) => decide (readyP on ws i)).map fun (i : Nat) => (i : Int)
theorem readyTo_succ (on : List (List Int)) (ws : List Int) (k : Nat) : readyTo on ws (k + 1) = if readyP on ws k then readyTo on ws k ++ [(k : Int)] else readyTo on ws k := by
  unfold readyTo
  rw [List.range_succ, List.filter_append, List.map_append]
  by_cases h : readyP on ws k <;> simp [h]
theorem readyTo_len (on : List (List Int)) (ws : List Int) (k : Nat) : (readyTo on ws k).length ≤ k := by
  unfold readyTo
  rw [List.length_map]
  exact Nat.le_trans (List.length_filter_le _ _) (by simp)
def onL (n : Int) (l : List (Int × Int)) : List (List Int) := onN n.toNat l l.length
def restL (n : Int) (l : List (Int × Int)) : List Bool := restN n.toNat l l.length
theorem onL_len (n : Int) (l : List (Int × Int)) : (onL n l).length = n.toNat := onN_len _ _ _
theorem onL_ok (n : Int) (l : List (Int × Int)) : RowsOk (onL n l) := by
  intro i hi j hj
  rw [onL_len] at hi
  have e : (onL n l).getD i [] = rowOf l l.length i := onN_get _ _ _ _ hi
  rw [e] at hj ⊢
  have : (rowOf l l.length i).getD j 0 ∈ rowOf l l.length i := by
    rw [List.getD_eq_getElem?_getD, List.getElem?_eq_getElem hj]; exact List.getElem_mem hj
  unfold rowOf at this
  rw [List.mem_map] at this
  obtain ⟨r, hr, he⟩ := this
  rw [List.mem_filter] at hr
  have := of_decide_eq_true hr.2
  show 0 ≤ (rowOf l l.length i).getD j 0
  unfold rowOf
  rw [← he]; exact this.2
def readyRes (n : Int) (l : List (Int × Int)) (st : List Int) : List Int := if supE n l = 0 ∧ st.any (outB n) = false then readyTo (onL n l) (putL (words n) st) n.toNat else []
def readyErr (n : Int) (l : List (Int × Int)) (st : List Int) : Int := if ¬ supE n l = 0 then 1 else if st.any (outB n) = true then 2 else 0
theorem b14 (n : Int) (l : List (Int × Int)) (st : List Int) : body Try.prog [c43, c46, c47, c48, c49] { asks := [(0, []), (2, [3])] } true Try.f14 [I n, Ps l, Ls st] (.tup [Ls (readyRes n l st), I (readyErr n l st)]) := by
  (repeat' ((conv => whnf); first | (refine Giv.mk (fun _ => ?_)) | (refine Alt.l (Need.mk ?h ?_); case h => omega) | (refine Alt.r (Need.mk ?h ?_); case h => omega) | (refine Need.mk ?h ?_; case h => omega) | (refine Need.mk ?h ?_; case h => (intro _; rfl)) | (refine Need.mk ?h ?_; case h => assumption) | (refine Need.mk ?h ?_; case h => (simp <;> omega)) | (refine Ix.zero ?_) | (refine Ix.one ?_) | (refine Ix.two ?_) | (refine Ix.nat ?_) | (refine Ix.add ?_) | (apply Go.Eng.Pin.mk; apply Exists.intro) | (apply Go.Eng.Pinned.mk (Eq.refl _) (Eq.refl _)) | (apply Go.Eng.PinH.mk; apply Exists.intro; apply Exists.intro) | (exact Go.Eng.Fin0.mk) | (refine Go.Eng.Chk.mk ?_ ?_) | fail))
  (refine Br.mk (fun _ => ?_) (fun _ => ?_))
  · rename_i h
    (repeat' ((conv => whnf); first | (refine Giv.mk (fun _ => ?_)) | (refine Alt.l (Need.mk ?h ?_); case h => omega) | (refine Alt.r (Need.mk ?h ?_); case h => omega) | (refine Need.mk ?h ?_; case h => omega) | (refine Need.mk ?h ?_; case h => (intro _; rfl)) | (refine Need.mk ?h ?_; case h => assumption) | (refine Need.mk ?h ?_; case h => (simp <;> omega)) | (refine Ix.zero ?_) | (refine Ix.one ?_) | (refine Ix.two ?_) | (refine Ix.nat ?_) | (refine Ix.add ?_) | (apply Go.Eng.Pin.mk; apply Exists.intro) | (apply Go.Eng.Pinned.mk (Eq.refl _) (Eq.refl _)) | (apply Go.Eng.PinH.mk; apply Exists.intro; apply Exists.intro) | (exact Go.Eng.Fin0.mk) | (refine Go.Eng.Chk.mk ?_ ?_) | fail))
    (conv => whnf)
    refine ⟨?_, ?_, trivial⟩
    · (conv => whnf)
      unfold readyRes; rw [if_neg fun e => h e.1]
    · exact ⟨rfl, by unfold readyErr; rw [if_pos h]⟩
  · rename_i h
    have h : supE n l = 0 := Classical.not_not.1 h
    have hro := supE_rests h
    obtain ⟨r1, r2, r3, r4⟩ := id hro
    (repeat' ((conv => whnf); first | (refine Giv.mk (fun _ => ?_)) | (refine Alt.l (Need.mk ?h ?_); case h => omega) | (refine Alt.r (Need.mk ?h ?_); case h => omega) | (refine Need.mk ?h ?_; case h => omega) | (refine Need.mk ?h ?_; case h => (intro _; rfl)) | (refine Need.mk ?h ?_; case h => assumption) | (refine Need.mk ?h ?_; case h => (simp <;> omega)) | (refine Ix.zero ?_) | (refine Ix.one ?_) | (refine Ix.two ?_) | (refine Ix.nat ?_) | (refine Ix.add ?_) | (apply Go.Eng.Pin.mk; apply Exists.intro) | (apply Go.Eng.Pinned.mk (Eq.refl _) (Eq.refl _)) | (apply Go.Eng.PinH.mk; apply Exists.intro; apply Exists.intro) | (exact Go.Eng.Fin0.mk) | (refine Go.Eng.Chk.mk ?_ ?_) | fail))
    refine Ask.mk ⟨{ X := Nat, pre := fun i => i ≤ st.length ∧ (st.take i).any (outB n) = false, mod := fun i _ => [(22, I i)], heap := fun i _ => [.vec 1 (.int .i64) [] 3, .vec 1 (.int .u64) (putL (words n) (st.take i)) 103], mu := fun i => st.length - i }, rfl, ?_⟩
    (repeat' ((conv => whnf); first | (refine Giv.mk (fun _ => ?_)) | (refine Alt.l (Need.mk ?h ?_); case h => omega) | (refine Alt.r (Need.mk ?h ?_); case h => omega) | (refine Need.mk ?h ?_; case h => omega) | (refine Need.mk ?h ?_; case h => (intro _; rfl)) | (refine Need.mk ?h ?_; case h => assumption) | (refine Need.mk ?h ?_; case h => (simp <;> omega)) | (refine Ix.zero ?_) | (refine Ix.one ?_) | (refine Ix.two ?_) | (refine Ix.nat ?_) | (refine Ix.add ?_) | (apply Go.Eng.Pin.mk; apply Exists.intro) | (apply Go.Eng.Pinned.mk (Eq.refl _) (Eq.refl _)) | (apply Go.Eng.PinH.mk; apply Exists.intro; apply Exists.intro) | (exact Go.Eng.Fin0.mk) | (refine Go.Eng.Chk.mk ?_ ?_) | fail))
    refine ⟨⟨(0 : Nat), ⟨Nat.zero_le _, by simp⟩, ?_⟩, fun (i : Nat) hi => ?_⟩
    · (repeat' (first | exact trivial | rfl | exact Nat.one_pos | (refine And.intro ?_ ?_) | omega | ((conv => whnf); (refine And.intro ?_ ?_)) | ((conv => whnf); exact trivial)))
    · obtain ⟨hi, hb⟩ := hi
      have hwl : ((putL (words n) (st.take i)).length : Int) = (n + 63) / 64 := by rw [putL_len]; exact words_len n r2
      (repeat' ((conv => whnf); first | (refine Giv.mk (fun _ => ?_)) | (refine Alt.l (Need.mk ?h ?_); case h => omega) | (refine Alt.r (Need.mk ?h ?_); case h => omega) | (refine Need.mk ?h ?_; case h => omega) | (refine Need.mk ?h ?_; case h => (intro _; rfl)) | (refine Need.mk ?h ?_; case h => assumption) | (refine Need.mk ?h ?_; case h => (simp <;> omega)) | (refine Ix.zero ?_) | (refine Ix.one ?_) | (refine Ix.two ?_) | (refine Ix.nat ?_) | (refine Ix.add ?_) | (apply Go.Eng.Pin.mk; apply Exists.intro) | (apply Go.Eng.Pinned.mk (Eq.refl _) (Eq.refl _)) | (apply Go.Eng.PinH.mk; apply Exists.intro; apply Exists.intro) | (exact Go.Eng.Fin0.mk) | (refine Go.Eng.Chk.mk ?_ ?_) | fail))
      (refine Br.mk (fun _ => ?_) (fun _ => ?_))
      · have hlt : i < st.length := by omega
        have hps := putL_succ (words n) st i hlt
        have hat := any_take_succ (outB n) st 0 i hlt
        have bad : outB n (st.getD i 0) = true → [] = readyRes n l st ∧ 2 = readyErr n l st := fun hx => by
          have ha : st.any (outB n) = true := any_getD (outB n) st 0 i hlt hx
          refine ⟨by unfold readyRes; rw [if_neg (by rw [ha]; simp)], by unfold readyErr; rw [if_neg (by omega), if_pos ha]⟩
        (repeat' ((conv => whnf); first | (refine Giv.mk (fun _ => ?_)) | (refine Alt.l (Need.mk ?h ?_); case h => omega) | (refine Alt.r (Need.mk ?h ?_); case h => omega) | (refine Need.mk ?h ?_; case h => omega) | (refine Need.mk ?h ?_; case h => (intro _; rfl)) | (refine Need.mk ?h ?_; case h => assumption) | (refine Need.mk ?h ?_; case h => (simp <;> omega)) | (refine Ix.zero ?_) | (refine Ix.one ?_) | (refine Ix.two ?_) | (refine Ix.nat ?_) | (refine Ix.add ?_) | (apply Go.Eng.Pin.mk; apply Exists.intro) | (apply Go.Eng.Pinned.mk (Eq.refl _) (Eq.refl _)) | (apply Go.Eng.PinH.mk; apply Exists.intro; apply Exists.intro) | (exact Go.Eng.Fin0.mk) | (refine Go.Eng.Chk.mk ?_ ?_) | (refine Br.mkY ?h ?_; case h => omega) | (refine Br.mkN ?h ?_; case h => omega) | (refine Br.mkY ?h ?_; case h => assumption) | (refine Br.mkN ?h ?_; case h => assumption) | (refine Br.mkN ?h ?_; case h => exact not_not_intro (by assumption)) | (refine Br.mk (fun _ => ?_) (fun _ => ?_)) | fail))
        · have hx : outB n (st.getD i 0) = true := decide_eq_true (.inl ‹_›)
          (conv => whnf)
          refine ⟨?_, ⟨rfl, (bad hx).2⟩, trivial⟩
          · (conv => whnf)
            exact (bad hx).1
        · have hx : outB n (st.getD i 0) = true := decide_eq_true (.inr ‹_›)
          (conv => whnf)
          refine ⟨?_, ⟨rfl, (bad hx).2⟩, trivial⟩
          · (conv => whnf)
            exact (bad hx).1
        · have hx : outB n (st.getD i 0) = false := decide_eq_false (by omega)
          refine ⟨(i + 1 : Nat), by show st.length - (i + 1) < st.length - i; omega, ⟨hlt, by rw [hat, hb, hx]; rfl⟩, ?_⟩
          rw [← hps]
          (repeat' (first | exact trivial | rfl | exact Nat.one_pos | (refine And.intro ?_ ?_) | omega | ((conv => whnf); (refine And.intro ?_ ?_)) | ((conv => whnf); exact trivial)))
      · have hii : i = st.length := by omega
        subst hii
        rw [List.take_length] at hb hwl
        have hok := onL_ok n l
        have hol := onL_len n l
        (repeat' ((conv => whnf); first | (refine Giv.mk (fun _ => ?_)) | (refine Alt.l (Need.mk ?h ?_); case h => omega) | (refine Alt.r (Need.mk ?h ?_); case h => omega) | (refine Need.mk ?h ?_; case h => omega) | (refine Need.mk ?h ?_; case h => (intro _; rfl)) | (refine Need.mk ?h ?_; case h => assumption) | (refine Need.mk ?h ?_; case h => (simp <;> omega)) | (refine Ix.zero ?_) | (refine Ix.one ?_) | (refine Ix.two ?_) | (refine Ix.nat ?_) | (refine Ix.add ?_) | (apply Go.Eng.Pin.mk; apply Exists.intro) | (apply Go.Eng.Pinned.mk (Eq.refl _) (Eq.refl _)) | (apply Go.Eng.PinH.mk; apply Exists.intro; apply Exists.intro) | (exact Go.Eng.Fin0.mk) | (refine Go.Eng.Chk.mk ?_ ?_) | fail))
        refine Ask.mk ⟨{ X := Nat, pre := fun i => i ≤ n.toNat, mod := fun i _ => [(12, .ref 3 1), (41, I i)], objs := [3], heap := fun i _ => [.vec 1 (.int .i64) [] 3, .vec 1 (.int .u64) (putL (words n) st) 103, .cells [.seq (.slice (.int .i64)) (onL n l), .seq .bool (restL n l)] 75, .vec 1 (.int .i64) (readyTo (onL n l) (putL (words n) st) i) 3], mu := fun i => n.toNat - i }, rfl, ?_⟩
        (repeat' ((conv => whnf); first | (refine Giv.mk (fun _ => ?_)) | (refine Alt.l (Need.mk ?h ?_); case h => omega) | (refine Alt.r (Need.mk ?h ?_); case h => omega) | (refine Need.mk ?h ?_; case h => omega) | (refine Need.mk ?h ?_; case h => (intro _; rfl)) | (refine Need.mk ?h ?_; case h => assumption) | (refine Need.mk ?h ?_; case h => (simp <;> omega)) | (refine Ix.zero ?_) | (refine Ix.one ?_) | (refine Ix.two ?_) | (refine Ix.nat ?_) | (refine Ix.add ?_) | (apply Go.Eng.Pin.mk; apply Exists.intro) | (apply Go.Eng.Pinned.mk (Eq.refl _) (Eq.refl _)) | (apply Go.Eng.PinH.mk; apply Exists.intro; apply Exists.intro) | (exact Go.Eng.Fin0.mk) | (refine Go.Eng.Chk.mk ?_ ?_) | fail))
        refine ⟨⟨(0 : Nat), Nat.zero_le _, ?_⟩, fun (i : Nat) (hi : i ≤ n.toNat) => ?_⟩
        · (repeat' (first | exact trivial | rfl | exact Nat.one_pos | (refine And.intro ?_ ?_) | omega | ((conv => whnf); (refine And.intro ?_ ?_)) | ((conv => whnf); exact trivial)))
          show putL (words n) (List.take st.length st) = putL (words n) st
          rw [List.take_length]
        · have hrs := readyTo_succ (onL n l) (putL (words n) st) i
          have hrl := readyTo_len (onL n l) (putL (words n) st) i
          (repeat' ((conv => whnf); first | (refine Giv.mk (fun _ => ?_)) | (refine Alt.l (Need.mk ?h ?_); case h => omega) | (refine Alt.r (Need.mk ?h ?_); case h => omega) | (refine Need.mk ?h ?_; case h => omega) | (refine Need.mk ?h ?_; case h => (intro _; rfl)) | (refine Need.mk ?h ?_; case h => assumption) | (refine Need.mk ?h ?_; case h => (simp <;> omega)) | (refine Ix.zero ?_) | (refine Ix.one ?_) | (refine Ix.two ?_) | (refine Ix.nat ?_) | (refine Ix.add ?_) | (apply Go.Eng.Pin.mk; apply Exists.intro) | (apply Go.Eng.Pinned.mk (Eq.refl _) (Eq.refl _)) | (apply Go.Eng.PinH.mk; apply Exists.intro; apply Exists.intro) | (exact Go.Eng.Fin0.mk) | (refine Go.Eng.Chk.mk ?_ ?_) | fail))
          (refine Br.mk (fun _ => ?_) (fun _ => ?_))
          · refine Need.mk ⟨hok, by omega, by omega⟩ ?_
            (repeat' ((conv => whnf); first | (refine Giv.mk (fun _ => ?_)) | (refine Alt.l (Need.mk ?h ?_); case h => omega) | (refine Alt.r (Need.mk ?h ?_); case h => omega) | (refine Need.mk ?h ?_; case h => omega) | (refine Need.mk ?h ?_; case h => (intro _; rfl)) | (refine Need.mk ?h ?_; case h => assumption) | (refine Need.mk ?h ?_; case h => (simp <;> omega)) | (refine Ix.zero ?_) | (refine Ix.one ?_) | (refine Ix.two ?_) | (refine Ix.nat ?_) | (refine Ix.add ?_) | (apply Go.Eng.Pin.mk; apply Exists.intro) | (apply Go.Eng.Pinned.mk (Eq.refl _) (Eq.refl _)) | (apply Go.Eng.PinH.mk; apply Exists.intro; apply Exists.intro) | (exact Go.Eng.Fin0.mk) | (refine Go.Eng.Chk.mk ?_ ?_) | fail))
            (refine Br.mk (fun _ => ?_) (fun _ => ?_))
            · rename_i hh
              rw [if_pos hh] at hrs
              (repeat' ((conv => whnf); first | (refine Giv.mk (fun _ => ?_)) | (refine Alt.l (Need.mk ?h ?_); case h => omega) | (refine Alt.r (Need.mk ?h ?_); case h => omega) | (refine Need.mk ?h ?_; case h => omega) | (refine Need.mk ?h ?_; case h => (intro _; rfl)) | (refine Need.mk ?h ?_; case h => assumption) | (refine Need.mk ?h ?_; case h => (simp <;> omega)) | (refine Ix.zero ?_) | (refine Ix.one ?_) | (refine Ix.two ?_) | (refine Ix.nat ?_) | (refine Ix.add ?_) | (apply Go.Eng.Pin.mk; apply Exists.intro) | (apply Go.Eng.Pinned.mk (Eq.refl _) (Eq.refl _)) | (apply Go.Eng.PinH.mk; apply Exists.intro; apply Exists.intro) | (exact Go.Eng.Fin0.mk) | (refine Go.Eng.Chk.mk ?_ ?_) | fail))
              refine ⟨(i + 1 : Nat), by show n.toNat - (i + 1) < n.toNat - i; omega, by show i + 1 ≤ n.toNat; omega, ?_⟩
              (repeat' (first | exact trivial | rfl | exact Nat.one_pos | (refine And.intro ?_ ?_) | omega | ((conv => whnf); (refine And.intro ?_ ?_)) | ((conv => whnf); exact trivial)))
              exact hrs.symm
            · rename_i hh
              rw [if_neg hh] at hrs
              (repeat' ((conv => whnf); first | (refine Giv.mk (fun _ => ?_)) | (refine Alt.l (Need.mk ?h ?_); case h => omega) | (refine Alt.r (Need.mk ?h ?_); case h => omega) | (refine Need.mk ?h ?_; case h => omega) | (refine Need.mk ?h ?_; case h => (intro _; rfl)) | (refine Need.mk ?h ?_; case h => assumption) | (refine Need.mk ?h ?_; case h => (simp <;> omega)) | (refine Ix.zero ?_) | (refine Ix.one ?_) | (refine Ix.two ?_) | (refine Ix.nat ?_) | (refine Ix.add ?_) | (apply Go.Eng.Pin.mk; apply Exists.intro) | (apply Go.Eng.Pinned.mk (Eq.refl _) (Eq.refl _)) | (apply Go.Eng.PinH.mk; apply Exists.intro; apply Exists.intro) | (exact Go.Eng.Fin0.mk) | (refine Go.Eng.Chk.mk ?_ ?_) | fail))
              refine ⟨(i + 1 : Nat), by show n.toNat - (i + 1) < n.toNat - i; omega, by show i + 1 ≤ n.toNat; omega, ?_⟩
              (repeat' (first | exact trivial | rfl | exact Nat.one_pos | (refine And.intro ?_ ?_) | omega | ((conv => whnf); (refine And.intro ?_ ?_)) | ((conv => whnf); exact trivial)))
              exact hrs.symm
          · have hii : i = n.toNat := by omega
            subst hii
            (repeat' ((conv => whnf); first | (refine Giv.mk (fun _ => ?_)) | (refine Alt.l (Need.mk ?h ?_); case h => omega) | (refine Alt.r (Need.mk ?h ?_); case h => omega) | (refine Need.mk ?h ?_; case h => omega) | (refine Need.mk ?h ?_; case h => (intro _; rfl)) | (refine Need.mk ?h ?_; case h => assumption) | (refine Need.mk ?h ?_; case h => (simp <;> omega)) | (refine Ix.zero ?_) | (refine Ix.one ?_) | (refine Ix.two ?_) | (refine Ix.nat ?_) | (refine Ix.add ?_) | (apply Go.Eng.Pin.mk; apply Exists.intro) | (apply Go.Eng.Pinned.mk (Eq.refl _) (Eq.refl _)) | (apply Go.Eng.PinH.mk; apply Exists.intro; apply Exists.intro) | (exact Go.Eng.Fin0.mk) | (refine Go.Eng.Chk.mk ?_ ?_) | fail))
            (conv => whnf)
            refine ⟨?_, ⟨rfl, ?_⟩, trivial⟩
            · (conv => whnf)
              unfold readyRes; rw [if_pos ⟨h, hb⟩]
            · unfold readyErr; rw [if_neg (fun e => e h), if_neg (by rw [hb]; simp)]
def c14 : Con := mkCon 14 true fun args K => match args with | [.val (.int .i64 n), .seq (.pair (.int .i64) (.int .i64)) l, .seq (.int .i64) st] => K (.tup [Ls (readyRes n l st), I (readyErr n l st)]) | _ => False
theorem k14 : ConOK Try.prog c14 := by
  refine conOK_of rfl (enters_of Try.func14 (by kernel_rfl) rfl) ?_
  intro args K h
  simp only [c14] at h
  split at h
  · rename_i n l st; exact ⟨_, h, tri_of_body (Γ := [c43, c46, c47, c48, c49]) (by simp [k43, k46, k47, k48, k49]) Try.func14 (by simp [Try.ntmps14]) rfl (b14 n l st)⟩
  · exact h.elim
end EB
