/- Linkup: the example check of the statements is true, and leaves what was there as it was. -/
import Derived.Test.YtaonnglopajkcaaWalksC
namespace Go.Proofs.Ytaonnglopajkcaa
set_option linter.unusedVariables false
open Go.RowKit
set_option maxHeartbeats 1000000 in
theorem awake_c (w : World) : Calls Try.prog 11 #[] w fun e w' => e = .returned (.bool true) ∧ Below w.heap.size w w' := by
  go_enter Try.func11, Try.ntmps11
  go_wp2_with (go_at_call 12; refine (new_c 5 10 _ (by decide)).mono ?_; rintro e w' ⟨rfl, rfl⟩)
  refine (tick_c ⟨5, 10, 0, 0, 0, 0, 0⟩ _ w.heap.size (Blk.new _ _ _) (by decide) (by decide) (by decide) (by decide)).mono ?_
  rintro e w1 ⟨rfl, hS, hO⟩
  have hb := joinO (w := w) (B := w.heap.size) (by go_grown) hO (by simp) (by simp)
  replace hS : Side w1 w.heap.size ⟨5, 10, 0, 0, 0, 0, 0⟩ := hS
  clear hO
  have hz := hS.lt
  rw [show (tick ⟨5, 10, 0, 0, 0, 0, 0⟩).peer = 0 from rfl]
  go_wp2_with fail
  refine (recv_c ⟨5, 10, 0, 0, 0, 0, 0⟩ 7 0 _ _ hS (by decide) (by decide)).mono ?_
  rintro e w2 ⟨rfl, hS2, hO⟩
  replace hb := joinO hb hO (by simp) (by simp)
  replace hS2 : Side w2 w.heap.size ⟨5, 10, 7, 7, 1, 0, 1⟩ := hS2
  clear hO hS
  rw [show recvB ⟨5, 10, 0, 0, 0, 0, 0⟩ 7 0 = true from rfl]
  go_wp2_with fail
  refine (tick_c ⟨5, 10, 7, 7, 1, 0, 1⟩ _ _ hS2 (by decide) (by decide) (by decide) (by decide)).mono ?_
  rintro e w3 ⟨rfl, hS, hO⟩
  replace hb := joinO hb hO (by simp) (by simp)
  replace hS : Side w3 w.heap.size ⟨5, 10, 7, 7, 1, 1, 1⟩ := hS
  clear hO hS2
  rw [show (tick ⟨5, 10, 7, 7, 1, 0, 1⟩).peer = 7 from rfl]
  go_wp2_with fail
  refine (recv_c ⟨5, 10, 7, 7, 1, 1, 1⟩ 7 5 _ _ hS (by decide) (by decide)).mono ?_
  rintro e w4 ⟨rfl, hS2, hO⟩
  replace hb := joinO hb hO (by simp) (by simp)
  replace hS2 : Side w4 w.heap.size ⟨5, 10, 7, 7, 2, 0, 2⟩ := hS2
  clear hO hS
  rw [show recvB ⟨5, 10, 7, 7, 1, 1, 1⟩ 7 5 = true from rfl]
  go_wp2_with fail
  refine (state_c ⟨5, 10, 7, 7, 2, 0, 2⟩ _ _ hS2).mono ?_
  rintro e w5 ⟨rfl, rfl⟩
  go_wp2_with fail
  refine (recv_c ⟨5, 10, 7, 7, 2, 0, 2⟩ 6 5 _ _ hS2 (by decide) (by decide)).mono ?_
  rintro e w5 ⟨rfl, hS, hO⟩
  replace hb := joinO hb hO (by simp) (by simp)
  rw [show recvB ⟨5, 10, 7, 7, 2, 0, 2⟩ 6 5 = false from rfl]
  clear hO hS hS2
  go_wp2_with fail
  go_ret
  exact ⟨rfl, hb⟩
end Go.Proofs.Ytaonnglopajkcaa
