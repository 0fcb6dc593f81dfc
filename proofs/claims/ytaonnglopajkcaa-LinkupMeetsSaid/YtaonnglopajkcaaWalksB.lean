/- Linkup: Receive, Tick and the readers of a side that is one block of seven cells. -/
import Derived.Test.YtaonnglopajkcaaWalks
namespace Go.Proofs.Ytaonnglopajkcaa
set_option linter.unusedVariables false
open Go.RowKit
theorem recv_c (s : Sd) (m y : Int) (w : World) (b : Nat) (h : Side w b s) (hc : 0 ≤ s.changes) (hc2 : s.changes < 4611686018427387904) :
    Calls Try.prog 13 #[.pointer (some ⟨b, 0, none⟩), .agg #[.int .i64 m, .int .i64 y]] w fun e w' => e = .returned (.bool (recvB s m y)) ∧ Side w' b (recv s m y) ∧ Only b w w' := by
  obtain ⟨h0, h1, h2, h3, h4, h5, h6⟩ := h.all
  have f3 := h.free 3
  have f5 := h.free 5
  have hlt := h.lt
  have H := hid h; clear h
  by_cases hk : okB m = true
  · by_cases hs : m < s.seen
    · have eB : recvB s m y = false := by simp [recvB, takes]; omega
      have eS : recv s m y = s := by simp [recv, takes]; omega
      have EB := hid eB; clear eB
      have ES := hid eS; clear eS
      go_enter Try.func13, Try.ntmps13
      go_wp2_with fail
      go_quiet ((go_at_call 22; exact Calls.quiet_of_same ((ok_c _ _).mono fun _ _ h => ⟨h.1, h.2.symm⟩)))
      go_wp2_with fail
      go_ret
      exact ⟨ret_bool EB.out.symm, by rw [ES.out]; exact (H.out.alloc _).drewN _, ((Only.refl _ _).alloc _).drewN _⟩
    · by_cases hy : y = s.mine
      · have eB : recvB s m y = becB (recvMid s m) 2 m := by simp [recvB, takes, hk, recvTo, hy]; omega
        have eS : recv s m y = bec (recvMid s m) 2 m := by simp [recv, takes, hk, recvTo, hy]; omega
        have EB := hid eB; clear eB
        have ES := hid eS; clear eS
        have hy' : (y == s.mine) = true := by simpa using hy
        clear hy
        go_enter Try.func13, Try.ntmps13
        go_wp2_with fail
        go_quiet ((go_at_call 22; exact Calls.quiet_of_same ((ok_c _ _).mono fun _ _ h => ⟨h.1, h.2.symm⟩)))
        go_wp2_with fail
        go_quiet (fail)
        go_wp2_with fail
        refine (bec_c (recvMid s m) 2 m _ b (((((H.out.alloc _).drewN _).set_ 3 _).to 5 _ rfl).drewN _) hc hc2).mono ?_
        rintro e w' ⟨rfl, hS, hO⟩
        have hO' := ((((((Only.refl b w).alloc _).drewN _).set _ _).set _ _).drewN _).trans hO
        clear hO
        go_wp2_with fail
        go_ret
        exact ⟨ret_bool EB.out.symm, by rw [ES.out]; exact hS, hO'⟩
      · have eB : recvB s m y = becB (recvMid s m) 1 m := by simp [recvB, takes, hk, recvTo, hy]; omega
        have eS : recv s m y = bec (recvMid s m) 1 m := by simp [recv, takes, hk, recvTo, hy]; omega
        have EB := hid eB; clear eB
        have ES := hid eS; clear eS
        have hy' : (y == s.mine) = false := by simpa using hy
        clear hy
        go_enter Try.func13, Try.ntmps13
        go_wp2_with fail
        go_quiet ((go_at_call 22; exact Calls.quiet_of_same ((ok_c _ _).mono fun _ _ h => ⟨h.1, h.2.symm⟩)))
        go_wp2_with fail
        go_quiet (fail)
        go_wp2_with fail
        refine (bec_c (recvMid s m) 1 m _ b (((((H.out.alloc _).drewN _).set_ 3 _).to 5 _ rfl).drewN _) hc hc2).mono ?_
        rintro e w' ⟨rfl, hS, hO⟩
        have hO' := ((((((Only.refl b w).alloc _).drewN _).set _ _).set _ _).drewN _).trans hO
        clear hO
        go_wp2_with fail
        go_ret
        exact ⟨ret_bool EB.out.symm, by rw [ES.out]; exact hS, hO'⟩
  · have hk : okB m = false := by simpa using hk
    have eB : recvB s m y = false := by simp [recvB, takes, hk]
    have eS : recv s m y = s := by simp [recv, takes, hk]
    have EB := hid eB; clear eB
    have ES := hid eS; clear eS
    go_enter Try.func13, Try.ntmps13
    go_wp2_with fail
    go_quiet ((go_at_call 22; exact Calls.quiet_of_same ((ok_c _ _).mono fun _ _ h => ⟨h.1, h.2.symm⟩)))
    go_wp2_with fail
    go_ret
    exact ⟨ret_bool EB.out.symm, by rw [ES.out]; exact (H.out.alloc _).drewN _, ((Only.refl _ _).alloc _).drewN _⟩
theorem state_c (s : Sd) (w : World) (b : Nat) (h : Side w b s) : Calls Try.prog 14 #[.pointer (some ⟨b, 0, none⟩)] w fun e w' => e = .returned (.int .i64 s.state) ∧ w = w' := by
  obtain ⟨h0, h1, h2, h3, h4, h5, h6⟩ := h.all
  go_enter Try.func14, Try.ntmps14
  go_wp2
  go_ret
  exact ⟨rfl, rfl⟩
theorem peer_c (s : Sd) (w : World) (b : Nat) (h : Side w b s) : Calls Try.prog 16 #[.pointer (some ⟨b, 0, none⟩)] w fun e w' => e = .returned (.int .i64 s.peer) ∧ w = w' := by
  obtain ⟨h0, h1, h2, h3, h4, h5, h6⟩ := h.all
  go_enter Try.func16, Try.ntmps16
  go_wp2
  go_ret
  exact ⟨rfl, rfl⟩
theorem changes_c (s : Sd) (w : World) (b : Nat) (h : Side w b s) : Calls Try.prog 18 #[.pointer (some ⟨b, 0, none⟩)] w fun e w' => e = .returned (.int .i64 s.changes) ∧ w = w' := by
  obtain ⟨h0, h1, h2, h3, h4, h5, h6⟩ := h.all
  go_enter Try.func18, Try.ntmps18
  go_wp2
  go_ret
  exact ⟨rfl, rfl⟩
def accB (s : Sd) (n : Int) : Bool := !(s.peer == 0) && s.peer == n
theorem accepts_c (s : Sd) (n : Int) (w : World) (b : Nat) (h : Side w b s) : Calls Try.prog 17 #[.pointer (some ⟨b, 0, none⟩), .int .i64 n] w fun e w' => e = .returned (.bool (accB s n)) ∧ w = w' := by
  obtain ⟨h0, h1, h2, h3, h4, h5, h6⟩ := h.all
  by_cases e : s.peer = 0
  · have e1 : (s.peer == 0) = true := by simpa using e
    have e2 : (s.peer != 0) = false := by simpa using e
    have eA := hid (show accB s n = false by simp [accB, e])
    clear e
    go_enter Try.func17, Try.ntmps17
    go_wp2
    go_ret
    exact ⟨ret_bool eA.out.symm, rfl⟩
  · have e1 : (s.peer == 0) = false := by simpa using e
    have e2 : (s.peer != 0) = true := by simpa using e
    have eA := hid (show accB s n = (s.peer == n) by simp [accB, e])
    clear e
    go_enter Try.func17, Try.ntmps17
    go_wp2
    all_goals go_ret
    all_goals exact ⟨ret_bool (by rw [eA.out]), rfl⟩
theorem new_c (m d : Int) (w : World) (hn : newB m d = true) : Calls Try.prog 12 #[.int .i64 m, .int .i64 d] w fun e w' => e = .returned (.tuple #[.pointer (some ⟨w.heap.size, 0, none⟩), .int .i64 0]) ∧ w.alloc (.cells (cells (new m d)) 56) = w' := by
  obtain ⟨⟨a1, a2⟩, a3, a4⟩ := newB_iff.1 hn
  have hk : okB m = true := okB_iff.2 ⟨a1, a2⟩
  go_enter Try.func12, Try.ntmps12
  go_wp2_with (go_at_call 22; refine (ok_c _ _).mono ?_; rintro e w' ⟨rfl, rfl⟩)
  go_ret2
  exact ⟨rfl, rfl⟩
theorem newNot_c (m d : Int) (w : World) (hn : newB m d = false) : Calls Try.prog 12 #[.int .i64 m, .int .i64 d] w fun e w' => e = .returned (.tuple #[.pointer none, .int .i64 2]) ∧ w = w' := by
  by_cases hk : okB m = true
  · by_cases h1 : 1 ≤ d
    · have h2 : ¬ d ≤ 1000 := by
        intro h2
        rw [newB_iff.2 ⟨okB_iff.1 hk, h1, h2⟩] at hn
        cases hn
      clear hn
      go_enter Try.func12, Try.ntmps12
      go_wp2_with (go_at_call 22; refine (ok_c _ _).mono ?_; rintro e w' ⟨rfl, rfl⟩)
      go_ret2
      exact ⟨rfl, rfl⟩
    · clear hn
      go_enter Try.func12, Try.ntmps12
      go_wp2_with (go_at_call 22; refine (ok_c _ _).mono ?_; rintro e w' ⟨rfl, rfl⟩)
      go_ret2
      exact ⟨rfl, rfl⟩
  · have hk : okB m = false := by simpa using hk
    clear hn
    go_enter Try.func12, Try.ntmps12
    go_wp2_with (go_at_call 22; refine (ok_c _ _).mono ?_; rintro e w' ⟨rfl, rfl⟩)
    go_ret2
    exact ⟨rfl, rfl⟩
end Go.Proofs.Ytaonnglopajkcaa
