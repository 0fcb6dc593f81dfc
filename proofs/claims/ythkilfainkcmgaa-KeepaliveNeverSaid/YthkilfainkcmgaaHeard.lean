/- Keepalive: New, Heard, Alarms; and the reference's watch. -/
import Derived.Test.YthkilfainkcmgaaWatch
namespace Go.Proofs.Ythkilfainkcmgaa
set_option linter.unusedVariables false
set_option linter.unusedSimpArgs false
open Go.RowKit
def perB (every dead : Int) : Bool := decide (1 ≤ every) && decide (every ≤ 1048576) && decide (every ≤ dead) && decide (dead ≤ 1048576)
theorem per_iff {e d : Int} : perB e d = true ↔ 1 ≤ e ∧ e ≤ 1048576 ∧ e ≤ d ∧ d ≤ 1048576 := by simp [perB, and_assoc]
theorem valid_p (e d : Int) (w : World) : Calls Try.prog 24 #[.int .i64 e, .int .i64 d] w fun r w' => r = .returned (.bool (perB e d)) ∧ w = w' := by
  go_enter Try.func24, Try.ntmps24
  go_wp2
  all_goals go_ret
  all_goals exact ⟨ret_bool (by rw [Bool.eq_iff_iff, per_iff]; simp; omega), rfl⟩
def new (every dead : Int) : St := ⟨every, dead, 0, false, 0, false, 0, false, 0⟩
theorem new_c (e d : Int) (w : World) (h : perB e d = true) : Calls Try.prog 11 #[.int .i64 e, .int .i64 d] w fun r w' => r = .returned (.tuple #[.pointer (some ⟨w.heap.size, 0, none⟩), .int .i64 0]) ∧ w' = w.alloc (.cells (wc (new e d)) 59) := by
  have H := Kept.mk h
  clear h
  go_enter Try.func11, Try.ntmps11
  go_wp2_with fail
  refine (valid_p _ _ _).mono ?_
  rintro r w' ⟨rfl, rfl⟩
  rw [H.out]
  go_wp2_with fail
  go_ret2
  exact ⟨rfl, rfl⟩
theorem newNot_c (e d : Int) (w : World) (h : perB e d = false) : Calls Try.prog 11 #[.int .i64 e, .int .i64 d] w fun r w' => r = .returned (.tuple #[.pointer none, .int .i64 2]) ∧ w = w' := by
  have H := Kept.mk h
  clear h
  go_enter Try.func11, Try.ntmps11
  go_wp2_with fail
  refine (valid_p _ _ _).mono ?_
  rintro r w' ⟨rfl, rfl⟩
  rw [H.out]
  go_wp2_with fail
  go_ret2
  exact ⟨rfl, rfl⟩
theorem alarms_c (s : St) (w : World) (b : Nat) (h : Blk w b 59 (wc s)) : Calls Try.prog 17 #[.pointer (some ⟨b, 0, none⟩)] w fun r w' => r = .returned (.int .i64 s.alarms) ∧ w = w' := by
  have c8 := h.cell 8 (v := .int .i64 s.alarms) rfl
  have hlt := h.lt
  clear h
  go_enter Try.func17, Try.ntmps17
  go_wp2_with fail
  go_ret
  exact ⟨rfl, rfl⟩
set_option maxHeartbeats 2000000 in
theorem heard_c (s : St) (n : Int) (w : World) (b : Nat) (h : Blk w b 59 (wc s)) :
    Calls Try.prog 13 #[.pointer (some ⟨b, 0, none⟩), .int .i64 n] w fun e w' => e = .returned (.tuple #[]) ∧ Blk w' b 59 (wc (heard s n)) ∧ OnlyP (fun x => x = b) w w' := by
  have c2 := h.cell 2 (v := .int .i64 s.now) rfl
  have c5 := h.cell 5 (v := .bool (s.begun || s.any)) rfl
  have c6 := h.cell 6 (v := .int .i64 s.last) rfl
  have c7 := h.cell 7 (v := .bool s.alarmed) rfl
  have z2 := h.free 2
  have z5 := h.free 5
  have z6 := h.free 6
  have z7 := h.free 7
  have hlt := h.lt
  have HB := Kept.mk h
  clear h
  have HH : Kept (∀ m, max s.now n = m → wc (heard s n) = #[.int .i64 s.every, .int .i64 s.dead, .int .i64 m, .bool s.begun, .int .i64 s.sent, .bool true, .int .i64 m, .bool false, .int .i64 s.alarms]) := ⟨fun m hm => by simp [wc, heard, hm]⟩
  rcases (by omega : (s.now < n ∧ max s.now n = n) ∨ (n ≤ s.now ∧ max s.now n = s.now)) with ⟨hmn, hm⟩ | ⟨hmn, hm⟩
  all_goals
    have HM := Kept.mk (HH.out _ hm)
    clear hm
    go_enter Try.func13, Try.ntmps13
    go_wp2_with fail
    go_end0
    exact ⟨rfl, by rw [HM.out]; exact Blk.cast (by with_reducible repeat (first | exact HB.out | apply Blk.drewN | apply Blk.drew | apply Blk.set_)) (by rfl), by with_reducible repeat (first | exact OnlyP.refl _ _ | apply OnlyP.drewN | apply OnlyP.drew | apply OnlyP.setb)⟩
end Go.Proofs.Ythkilfainkcmgaa
