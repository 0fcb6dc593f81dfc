/- Setup: the walk of close; State, Left. -/
import Derived.Test.YtnmgnggchgckoaaWalks
namespace Go.Proofs.Ytnmgnggchgckoaa
set_option linter.unusedVariables false
set_option linter.unusedSimpArgs false
open Go.RowKit
set_option maxHeartbeats 2000000 in
theorem close_c (c : Ch) (i : Nat) (w : World) (L : Loc) (h : IsCh w L c) (hi : i < c.n) :
    Calls Try.prog 36 #[.pointer (some ⟨L.p, 0, none⟩), .int .i64 i] w (Turns w L (closeP c i).1 (closeP c i).2) := by
  obtain ⟨s, hs⟩ : ∃ s, c.st i = s := ⟨_, rfl⟩
  have hs5 := h.ok.st i hi
  have cs := h.state hi
  rw [hs] at hs5 cs
  have c3 := h.tab.cell 3 (v := .slice (some ⟨L.S, 0, none⟩) c.n c.n) rfl
  have fs := h.row.free i
  have hlt := h.tab.lt
  have hls := h.row.lt
  have hn := h.ok.n2
  have H := Kept.mk h
  have HI := Kept.mk hi
  have HP5 := Kept.mk (h.put hi (show (0:Int) ≤ 5 by omega) (by omega))
  have HP4 := Kept.mk (h.put hi (show (0:Int) ≤ 4 by omega) (by omega))
  clear h
  have hsc : s = 0 ∨ s = 1 ∨ s = 2 ∨ s = 3 ∨ s = 4 ∨ s = 5 := by omega
  rcases hsc with rfl | rfl | rfl | rfl | rfl | rfl
  · have HT : Kept (closeP c i = (c.put i 5, sendP c 5 ((i : Int) - 1))) := ⟨by unfold closeP; rw [hs]; rfl⟩
    rw [HT.out]
    clear hs
    go_enter Try.func36, Try.ntmps36
    go_wp2_with fail
    refine (send_c (c.put i 5) 5 ((i : Int) - 1) _ L HP5.out).mono ?_
    rw [put_sendP]
    rintro e w' ⟨v, rfl, ho, hb⟩
    go_wp2_with fail
    go_ret
    exact turns_mk HP5.out (setS (OnlyP.refl _ _)) ⟨v, rfl, ho, hb⟩
  iterate 2
    · by_cases hl : i + 1 = c.n
      · have HT : Kept (closeP c i = (c.put i 5, sendP c 5 ((i : Int) - 1))) := ⟨by unfold closeP; rw [hs, if_pos (by omega), if_pos hl]⟩
        rw [HT.out]
        have HL := Kept.mk (show decide (i + 1 = c.n) = true by simpa using hl)
        clear hs hl
        go_enter Try.func36, Try.ntmps36
        go_wp2_with fail
        refine (last_c c i _ L H.out HI.out).mono ?_
        rintro e w' ⟨rfl, rfl⟩
        rw [HL.out]
        go_wp2_with fail
        refine (send_c (c.put i 5) 5 ((i : Int) - 1) _ L HP5.out).mono ?_
        rw [put_sendP]
        rintro e w' ⟨v, rfl, ho, hb⟩
        go_wp2_with fail
        go_ret
        exact turns_mk HP5.out (setS (OnlyP.refl _ _)) ⟨v, rfl, ho, hb⟩
      · have HT : Kept (closeP c i = (c.put i 4, sendP c 4 ((i : Int) + 1))) := ⟨by unfold closeP; rw [hs, if_pos (by omega), if_neg hl]⟩
        rw [HT.out]
        have HL := Kept.mk (show decide (i + 1 = c.n) = false by simpa using hl)
        clear hs hl
        go_enter Try.func36, Try.ntmps36
        go_wp2_with fail
        refine (last_c c i _ L H.out HI.out).mono ?_
        rintro e w' ⟨rfl, rfl⟩
        rw [HL.out]
        go_wp2_with fail
        refine (send_c (c.put i 4) 4 ((i : Int) + 1) _ L HP4.out).mono ?_
        rw [put_sendP]
        rintro e w' ⟨v, rfl, ho, hb⟩
        go_wp2_with fail
        go_ret
        exact turns_mk HP4.out (setS (OnlyP.refl _ _)) ⟨v, rfl, ho, hb⟩
  · have HT : Kept (closeP c i = (c, sendP c 5 ((i : Int) - 1))) := ⟨by unfold closeP; rw [hs]; rfl⟩
    rw [HT.out]
    clear hs
    go_enter Try.func36, Try.ntmps36
    go_wp2_with fail
    refine (send_c c 5 ((i : Int) - 1) _ L H.out).mono ?_
    rintro e w' ⟨v, rfl, ho, hb⟩
    go_wp2_with fail
    go_ret
    exact turns_mk H.out (OnlyP.refl _ _) ⟨v, rfl, ho, hb⟩
  · have HT : Kept (closeP c i = (c, [])) := ⟨by unfold closeP; rw [hs]; rfl⟩
    rw [HT.out]
    clear hs
    go_enter Try.func36, Try.ntmps36
    go_wp2_with fail
    go_ret
    exact turns_none H.out (OnlyP.refl _ _)
  · have HT : Kept (closeP c i = (c, sendP c 5 ((i : Int) - 1))) := ⟨by unfold closeP; rw [hs]; rfl⟩
    rw [HT.out]
    clear hs
    go_enter Try.func36, Try.ntmps36
    go_wp2_with fail
    refine (send_c c 5 ((i : Int) - 1) _ L H.out).mono ?_
    rintro e w' ⟨v, rfl, ho, hb⟩
    go_wp2_with fail
    go_ret
    exact turns_mk H.out (OnlyP.refl _ _) ⟨v, rfl, ho, hb⟩
/-- State. -/
def stateP (c : Ch) (k : Int) : Int := if c.hasB k = true then c.st k.toNat else -1
theorem state_c (c : Ch) (k : Int) (w : World) (L : Loc) (h : IsCh w L c) :
    Calls Try.prog 13 #[.pointer (some ⟨L.p, 0, none⟩), .int .i64 k] w fun e w' => e = .returned (.int .i64 (stateP c k)) ∧ w = w' := by
  have c3 := h.tab.cell 3 (v := .slice (some ⟨L.S, 0, none⟩) c.n c.n) rfl
  have hlt := h.tab.lt
  have hls := h.row.lt
  have hn := h.ok.n2
  cases hb : c.hasB k with
  | false =>
    have HE : Kept (stateP c k = -1) := ⟨by simp [stateP, hb]⟩
    have HB := Kept.mk hb
    have H := Kept.mk h
    clear h hb
    rw [HE.out]
    go_enter Try.func13, Try.ntmps13
    go_wp2_with fail
    refine (has_c c k _ L H.out).mono ?_
    rintro e w' ⟨rfl, rfl⟩
    rw [HB.out]
    go_wp2_with fail
    go_ret
    exact ⟨rfl, rfl⟩
  | true =>
    obtain ⟨k0, k1⟩ := hasB_iff.1 hb
    obtain ⟨i, rfl⟩ := Int.eq_ofNat_of_zero_le k0
    have HE : Kept (stateP c i = c.st i) := ⟨by simp [stateP, hb]⟩
    have HB := Kept.mk hb
    have cs := h.state (i := i) (by omega)
    have H := Kept.mk h
    clear h hb k0
    rw [HE.out]
    generalize c.st i = s at *
    go_enter Try.func13, Try.ntmps13
    go_wp2_with fail
    refine (has_c c i _ L H.out).mono ?_
    rintro e w' ⟨rfl, rfl⟩
    rw [HB.out]
    go_wp2_with fail
    go_ret
    exact ⟨rfl, rfl⟩
def heldB (s : Int) : Bool := s == 1 || s == 2 || s == 4
def leftP (c : Ch) (k : Int) : Int := if c.hasB k = true then (if heldB (c.st k.toNat) = true then c.room k.toNat - c.need else c.room k.toNat) else -1
set_option maxHeartbeats 1000000 in
theorem left_c (c : Ch) (k : Int) (w : World) (L : Loc) (h : IsCh w L c) :
    Calls Try.prog 14 #[.pointer (some ⟨L.p, 0, none⟩), .int .i64 k] w fun e w' => e = .returned (.int .i64 (leftP c k)) ∧ ∃ n, w' = w.drewN n := by
  have c3 := h.tab.cell 3 (v := .slice (some ⟨L.S, 0, none⟩) c.n c.n) rfl
  have c1 := h.tab.cell 1 (v := .int .i64 c.need) rfl
  have c2 := h.tab.cell 2 (v := .slice (some ⟨L.R, 0, none⟩) c.n L.k) rfl
  have hlt := h.tab.lt
  have hls := h.row.lt
  have hlr := h.rlt
  have hn := h.ok.n2
  have hn1 := h.ok.need1
  have hn2 := h.ok.need2
  have hkap := h.kap
  have hkm := h.kmax
  unfold maxLen at hkm
  cases hb : c.hasB k with
  | false =>
    have HE : Kept (leftP c k = -1) := ⟨by simp [leftP, hb]⟩
    have HB := Kept.mk hb
    have H := Kept.mk h
    clear h hb
    rw [HE.out]
    go_enter Try.func14, Try.ntmps14
    go_wp2_with fail
    refine (has_c c k _ L H.out).mono ?_
    rintro e w' ⟨rfl, rfl⟩
    rw [HB.out]
    go_wp2_with fail
    go_ret
    exact ⟨rfl, 0, rfl⟩
  | true =>
    obtain ⟨k0, k1⟩ := hasB_iff.1 hb
    obtain ⟨i, rfl⟩ := Int.eq_ofNat_of_zero_le k0
    have hi : i < c.n := by omega
    have HB := Kept.mk hb
    have cs := h.state hi
    have hs5 := h.ok.st i hi
    have cr := h.rooms i hi
    have hr := h.ok.room i hi
    have H := Kept.mk h
    have HE : Kept (leftP c i = if heldB (c.st i) = true then c.room i - c.need else c.room i) := ⟨by simp [leftP, hb]⟩
    rw [HE.out]
    clear h hb k0
    generalize c.st i = s at *
    generalize c.room i = r at *
    have hsc : s = 0 ∨ s = 1 ∨ s = 2 ∨ s = 3 ∨ s = 4 ∨ s = 5 := by omega
    rcases hsc with rfl | rfl | rfl | rfl | rfl | rfl
    all_goals
      go_enter Try.func14, Try.ntmps14
      go_wp2_with fail
      refine (has_c c i _ L H.out).mono ?_
      rintro e w' ⟨rfl, rfl⟩
      rw [HB.out]
      go_wp2_with fail
      try (go_quiet (fail))
      try go_wp2_with fail
      go_ret
      first | exact ⟨rfl, 0, rfl⟩ | exact ⟨rfl, _, rfl⟩
end Go.Proofs.Ytnmgnggchgckoaa
