/- Setup: the example of the chapter (awake), the methods of a nil chain. -/
import Derived.Test.YtnmgnggchgckoaaSame
namespace Go.Proofs.Ytnmgnggchgckoaa
set_option linter.unusedVariables false
set_option linter.unusedSimpArgs false
open Go.RowKit
theorem own_reads {w : World} {B sz n : Nat} {e : TypeId} {A : Option Addr} {k : Nat} {xs : List Value} (h : w.ownsRow B e sz (.slice A n k) n xs) : Reads w w.heap.size sz A n xs := Reads.of_own h
theorem startNil_c (w : World) : Calls Try.prog 19 #[.pointer none] w fun e w' => e = .returned (.tuple #[.slice none 0 0, .int .i64 1]) ∧ w = w' := by
  go_enter Try.func19, Try.ntmps19
  go_wp2_with fail
  go_ret2
  exact ⟨rfl, rfl⟩
theorem stopNil_c (w : World) : Calls Try.prog 21 #[.pointer none] w fun e w' => e = .returned (.tuple #[.slice none 0 0, .int .i64 1]) ∧ w = w' := by
  go_enter Try.func21, Try.ntmps21
  go_wp2_with fail
  go_ret2
  exact ⟨rfl, rfl⟩
theorem recvNil_c (m : Msg) (w : World) : Calls Try.prog 18 #[.pointer none, .agg #[.int .i64 m.kind, .int .i64 m.conn, .int .i64 m.dest]] w fun e w' => e = .returned (.tuple #[.slice none 0 0, .int .i64 1]) ∧ Below w.heap.size w w' := by
  go_enter Try.func18, Try.ntmps18
  go_wp2_with fail
  go_ret2
  exact ⟨rfl, by go_grown⟩
theorem stateNil_c (k : Int) (w : World) : Calls Try.prog 13 #[.pointer none, .int .i64 k] w fun e w' => e = .returned (.int .i64 (-1)) ∧ w = w' := by
  go_enter Try.func13, Try.ntmps13
  go_wp2_with fail
  go_ret
  exact ⟨rfl, rfl⟩
theorem leftNil_c (k : Int) (w : World) : Calls Try.prog 14 #[.pointer none, .int .i64 k] w fun e w' => e = .returned (.int .i64 (-1)) ∧ w = w' := by
  go_enter Try.func14, Try.ntmps14
  go_wp2_with fail
  go_ret
  exact ⟨rfl, rfl⟩
def aw0 : Ch := start0 7 [2, 2, 1] 1
theorem litI (w : World) (l : List Int) (hn : l.length ≤ 1000000) : (w.alloc (.cells (ints l) 3)).ownsRow w.heap.size 3 1 (.slice (some ⟨w.heap.size, 0, none⟩) l.length l.length) l.length (iv l) := by
  have h := World.ownsRow_lit (base := w.heap.size) (e := 3) (size := 1) w (ints l) l.length (Nat.le_refl _) (by unfold maxLen; omega) (by simp [ints])
  simpa [ints, iv] using h
set_option maxRecDepth 100000 in
set_option maxHeartbeats 4000000 in
theorem awake_c (w : World) : Calls Try.prog 10 #[] w fun e w' => e = .returned (.bool true) ∧ Below w.heap.size w w' := by
  have HL := Kept.mk (own_reads (litI w [2, 2, 1] (by decide)))
  have HS : Kept (startP aw0 = (⟨7, 1, [2, 2, 1], [1, 0, 0]⟩, [⟨1, 7, 1⟩], 0)) := ⟨rfl⟩
  go_enter Try.func10, Try.ntmps10
  go_wp2_with fail
  refine (new_yes 7 [2, 2, 1] 1 _ _ _ _ HL.out (by simp) (by decide)).mono ?_
  rintro e w1 ⟨L, rfl, hc, hb, hp, hR, hS⟩
  have HC := Kept.mk hc
  have HB : Kept (Below w.heap.size w w1) := ⟨((Below.refl _ _).alloc (Nat.le_refl _) _).trans (hb.mono (by simp))⟩
  have HSS : Kept (w.heap.size ≤ L.S) := ⟨by simp at hS; omega⟩
  clear hc hb hp hR hS
  go_wp2_with fail
  refine (start_c _ _ L HC.out).mono ?_
  rw [show startP (start0 7 [2, 2, 1] 1) = (⟨7, 1, [2, 2, 1], [1, 0, 0]⟩, [⟨1, 7, 1⟩], 0) from rfl]
  rintro e w2 ⟨v, rfl, ho, hc, hO⟩
  have HC2 := Kept.mk hc
  have HB2 : Kept (Below w.heap.size w w2) := ⟨HB.out.trans (hO.below (B := w.heap.size) (by rintro j rfl; exact HSS.out) HB.out.size)⟩
  obtain ⟨A, kap, rfl⟩ := own_slice ho
  have HO := Kept.mk (own_reads (own_new ho ((Below.refl _ _).alloc (Nat.le_refl _) (.cells #[.int .i64 1, .int .i64 7, .int .i64 1] 38))))
  have HM := Kept.mk (own_reads (World.ownsRow_lit (base := w2.heap.size) (e := 38) (size := 3) w2 #[.int .i64 1, .int .i64 7, .int .i64 1] 1 (Nat.le_refl _) (by unfold maxLen; omega) rfl))
  clear ho hc hO HB HC
  go_wp2_with fail
  refine (eqm_c [⟨1, 7, 1⟩] [⟨1, 7, 1⟩] _ _ _ _ _ _ _ HO.out HM.out (by decide) (by decide)).mono ?_
  rintro e w3 ⟨rfl, hD⟩
  have HB3 := Kept.mk ((HB2.out.alloc HB2.out.size _).trans (hD.below.mono (by have := HB2.out.size; simp; omega)))
  have HC3 := Kept.mk ((HC2.out.alloc _).new_ hD.below)
  clear hD
  rw [show decide ([(⟨1, 7, 1⟩ : Msg)] = [⟨1, 7, 1⟩]) = true from rfl]
  go_wp2_with fail
  refine (left_c _ 0 _ L HC3.out).mono ?_
  rintro e w4 ⟨rfl, n, rfl⟩
  rw [show leftP ⟨7, 1, [2, 2, 1], [1, 0, 0]⟩ 0 = 1 from rfl]
  go_wp2_with fail
  go_ret
  exact ⟨rfl, dN HB3.out n⟩
end Go.Proofs.Ytnmgnggchgckoaa
