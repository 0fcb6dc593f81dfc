/- Linkup: what the reference's functions compute: the same as the side's own methods, on a side as a value. -/
import Derived.Test.YtaonnglopajkcaaWalks
namespace Go.Proofs.Ytaonnglopajkcaa
set_option linter.unusedVariables false
open Go.RowKit
theorem refValid_c (m d : Int) (w : World) : Calls Try.prog 19 #[.int .i64 m, .int .i64 d] w fun e w' => e = .returned (.bool (newB m d)) ∧ w = w' := by
  go_enter Try.func19, Try.ntmps19
  go_wp2
  all_goals go_ret
  all_goals exact ⟨ret_bool (by simp [newB, okB]; omega), rfl⟩
set_option maxHeartbeats 1000000 in
theorem refTick_c (s : Sd) (w : World) (hc : 0 ≤ s.changes) (hc2 : s.changes < 4611686018427387904) (hq : 0 ≤ s.silent) (hq2 : s.silent < 4611686018427387904) (t : Sd) (ht : tick s = t) :
    Calls Try.prog 21 #[.agg (cells s)] w fun e w' => e = .returned (.agg (cells t)) ∧ Below w.heap.size w w' := by
  have HT := hid ht
  clear ht
  unfold cells at *
  go_enter Try.func21, Try.ntmps21
  go_wp2
  all_goals go_returns
  all_goals refine ⟨?_, by go_grown⟩
  all_goals rw [← HT.out]
  all_goals simp_all [tick, bec, becB, bne]
  all_goals (rw [if_neg (by omega)]; simp)
set_option maxHeartbeats 4000000 in
theorem refRecv_c (s : Sd) (m y : Int) (w : World) (hc : 0 ≤ s.changes) (hc2 : s.changes < 4611686018427387904) (t : Sd) (ht : recv s m y = t) :
    Calls Try.prog 20 #[.agg (cells s), .int .i64 m, .int .i64 y] w fun e w' => e = .returned (.agg (cells t)) ∧ Below w.heap.size w w' := by
  have HT := hid ht
  clear ht
  unfold cells at *
  go_enter Try.func20, Try.ntmps20
  go_wp2
  all_goals go_returns
  all_goals refine ⟨?_, by go_grown⟩
  all_goals rw [← HT.out]
  all_goals simp_all [recv, takes, okB, bec, becB, bne, recvMid, recvTo]
  all_goals (first | (rw [if_pos (by omega)]; simp; done) | (rw [if_neg (by omega)]; simp; done) | (rw [if_neg (by omega)]; done))
end Go.Proofs.Ytaonnglopajkcaa
