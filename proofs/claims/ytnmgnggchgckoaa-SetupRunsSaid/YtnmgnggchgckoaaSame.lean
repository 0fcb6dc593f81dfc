/- Setup: messages compared with the reference's (same). -/
import Derived.Test.YtnmgnggchgckoaaEqs
namespace Go.Proofs.Ytnmgnggchgckoaa
set_option linter.unusedVariables false
set_option linter.unusedSimpArgs false
open Go.RowKit
theorem same1_c (x1 x2 x3 y1 y2 y3 : Int) (w : World) :
    Calls Try.prog 43 #[.agg #[.int .i64 x1, .int .i64 x2, .int .i64 x3], .agg #[.int .i64 y1, .int .i64 y2, .int .i64 y3]] w fun e w' => e = .returned (.bool (mB x1 x2 x3 y1 y2 y3)) ∧ Below w.heap.size w w' := by
  have hq := fun W => eql58 W x1 x2 x3 y1 y2 y3
  generalize mB x1 x2 x3 y1 y2 y3 = r at *
  go_enter Try.func43, Try.ntmps43
  go_wp2_with fail
  try (go_quiet (fail))
  try go_wp2_with fail
  go_ret
  exact ⟨rfl, by first | go_grown | (refine dN ?_ _; go_grown)⟩
set_option maxHeartbeats 4000000 in
theorem eqf_c (l m : List Msg) (A A' : Option Addr) (kap kap' : Nat) (w : World) (hl : Reads w w.heap.size 3 A l.length (mcells l)) (hm : Reads w w.heap.size 3 A' m.length (mcells m)) (hn : l.length ≤ 1000000) (hn2 : m.length ≤ 1000000) :
    Calls Try.prog 42 #[.slice A l.length kap, .slice A' m.length kap', .func (.func 43) #[] #[]] w fun e w' => e = .returned (.bool (decide (l = m))) ∧ Below w.heap.size w w' := by
  have HL := Kept.mk hl
  have HM := Kept.mk hm
  clear hl hm
  by_cases hlen : l.length = m.length
  · have HE := Kept.mk hlen
    have hle : l.length ≤ m.length := by omega
    have hle2 : m.length ≤ l.length := by omega
    have hq0 : ((l.length : Int) != (m.length : Int)) = false := by simp; omega
    clear hlen
    go_enter Try.func42, Try.ntmps42
    go_wp2_with fail
    go_loopw [17] (fun v17 wr => ∃ k : Nat, k ≤ l.length ∧ v17 = .int .i64 k ∧ Kept (l.take k = m.take k) ∧ Kept (Below w.heap.size w wr)) (fun v17 _ => l.length - (intOf v17).toNat)
    case atStart => exact ⟨0, by omega, rfl, ⟨rfl⟩, ⟨Below.refl _ _⟩⟩
    case round =>
      obtain ⟨k, hk, rfl, HT, HD⟩ := hrel
      by_cases hlt : k < l.length
      · obtain ⟨b, off, rfl, -, hb, hc⟩ := (HL.out.below HD.out).spot (by omega) (by omega)
        obtain ⟨b', off', rfl, -, hb', hc'⟩ := (HM.out.below HD.out).spot (by omega) (by omega)
        obtain ⟨x, hx⟩ := get_some hlt
        obtain ⟨y, hy⟩ := get_some (show k < m.length by omega)
        obtain ⟨g1, g2, g3⟩ := mcells_get hx
        obtain ⟨g1', g2', g3'⟩ := mcells_get hy
        have c1 := hc _ _ g1
        have c2 := hc _ _ g2
        have c3 := hc _ _ g3
        have c1' := hc' _ _ g1'
        have c2' := hc' _ _ g2'
        have c3' := hc' _ _ g3'
        rw [show off + (k * 3 + 1) = off + k * 3 + 1 by omega] at c2
        rw [show off + (k * 3 + 2) = off + k * 3 + 2 by omega] at c3
        rw [show off' + (k * 3 + 1) = off' + k * 3 + 1 by omega] at c2'
        rw [show off' + (k * 3 + 2) = off' + k * 3 + 2 by omega] at c3'
        have HX := Kept.mk hx
        have HY := Kept.mk hy
        have HB := Kept.mk (mB_msg x y)
        have HDr := Kept.mk (World.size_alloc wr)
        clear hx hy hc hc' g1 g2 g3 g1' g2' g3'
        by_cases hxy : x = y
        · have HN := Kept.mk (take_eq_succ HX.out HY.out HT.out hxy)
          have HB2 : Kept (mB x.kind x.conn x.dest y.kind y.conn y.dest = true) := ⟨by rw [HB.out]; simpa using hxy⟩
          clear hxy
          generalize x.kind = x1 at *
          generalize x.conn = x2 at *
          generalize x.dest = x3 at *
          generalize y.kind = y1 at *
          generalize y.conn = y2 at *
          generalize y.dest = y3 at *
          go_wp2_with fail
          refine (same1_c x1 x2 x3 y1 y2 y3 _).mono ?_
          rintro e w1 ⟨rfl, hb1⟩
          rw [HB2.out]
          have HL1 : Kept (Below w.heap.size w w1) := ⟨join (((HD.out.alloc HD.out.size _)).alloc (by have := HD.out.size; simp; omega) _) hb1⟩
          clear hb1
          go_wp2_with fail
          go_roundw
          case rel => exact ⟨k + 1, by omega, by go_num, HN, HL1⟩
          case measure => simp [intOf]; omega
        · have HN := Kept.mk (ne_of_at HX.out HY.out hxy)
          have HB2 : Kept (mB x.kind x.conn x.dest y.kind y.conn y.dest = false) := ⟨by rw [HB.out]; simpa using hxy⟩
          clear hxy
          generalize x.kind = x1 at *
          generalize x.conn = x2 at *
          generalize x.dest = x3 at *
          generalize y.kind = y1 at *
          generalize y.conn = y2 at *
          generalize y.dest = y3 at *
          go_wp2_with fail
          refine (same1_c x1 x2 x3 y1 y2 y3 _).mono ?_
          rintro e w1 ⟨rfl, hb1⟩
          rw [HB2.out]
          have HL1 : Kept (Below w.heap.size w w1) := ⟨join (((HD.out.alloc HD.out.size _)).alloc (by have := HD.out.size; simp; omega) _) hb1⟩
          clear hb1
          go_wp2_with fail
          go_ret
          exact ⟨ret_bool (by simpa using HN.out), HL1.out⟩
      · obtain rfl : k = l.length := by omega
        have HN : Kept (l = m) := ⟨by have h1 := HT.out; rw [List.take_length] at h1; rw [h1]; exact List.take_of_length_le (by omega)⟩
        clear HT
        go_wp2_with fail
        go_ret
        exact ⟨ret_bool (by simpa using HN.out), HD.out⟩
  · have HN : Kept (l ≠ m) := ⟨fun e => hlen (by rw [e])⟩
    have hne : l.length < m.length ∨ m.length < l.length := by omega
    clear hlen
    rcases hne with hne | hne
    all_goals
      go_enter Try.func42, Try.ntmps42
      go_wp2_with fail
      go_ret
      exact ⟨ret_bool (by simpa using HN.out), Below.refl _ _⟩
theorem same_c (l m : List Msg) (A A' : Option Addr) (kap kap' : Nat) (w : World) (hl : Reads w w.heap.size 3 A l.length (mcells l)) (hm : Reads w w.heap.size 3 A' m.length (mcells m)) (hn : l.length ≤ 1000000) (hn2 : m.length ≤ 1000000) :
    Calls Try.prog 29 #[.slice A l.length kap, .slice A' m.length kap'] w fun e w' => e = .returned (.bool (decide (l = m))) ∧ Below w.heap.size w w' := by
  have HC := Kept.mk (eqf_c l m A A' kap kap' w hl hm hn hn2)
  clear hl hm
  go_enter Try.func29, Try.ntmps29
  go_wp2_with fail
  refine HC.out.mono ?_
  rintro e w1 ⟨rfl, hb⟩
  go_wp2_with fail
  go_ret
  exact ⟨rfl, hb⟩
end Go.Proofs.Ytnmgnggchgckoaa
