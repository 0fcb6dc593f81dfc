/- Reconfig: messages compared with the reference's (same). -/
import Derived.Test.YtibmbhnpmfgclaaRZA
namespace Go.Proofs.Ytibmbhnpmfgclaa
set_option linter.unusedVariables false
set_option linter.unusedSimpArgs false
open Go.RowKit Go.Maps
set_option maxHeartbeats 2000000 in
theorem eqRM (w : World) (d : Nat) (a b c e a' b' c' e' : Int) : (Op.equalIn (d + 2) 62 (.agg #[.int .i64 a, .int .i64 b, .int .i64 c, .int .i64 e]) (.agg #[.int .i64 a', .int .i64 b', .int .i64 c', .int .i64 e'])).run Try.prog w = .ok (mB ⟨a, b, c, e⟩ ⟨a', b', c', e'⟩) w := by
  rw [Op.equalIn]
  simp [run_underlying Try.underlying62, eq3]
  by_cases h1 : a = a' <;> by_cases h2 : b = b' <;> by_cases h3 : c = c' <;> by_cases h4 : e = e' <;> simp [mB, List.range'_succ, part, cells3, eq3, h1, h2, h3, h4, run_underlying Try.underlying3]
theorem eqlRM (w : World) (a b c e a' b' c' e' : Int) : (binOp .eql 62 (.agg #[.int .i64 a, .int .i64 b, .int .i64 c, .int .i64 e]) (.agg #[.int .i64 a', .int .i64 b', .int .i64 c', .int .i64 e'])).run Try.prog w = .ok (.bool (mB ⟨a, b, c, e⟩ ⟨a', b', c', e'⟩)) w := by
  simp only [binOp]
  simp [Op.equal, Op.maxDepth, eqRM w 9998]
theorem same1_c (x1 x2 x3 x4 y1 y2 y3 y4 : Int) (w : World) :
    Calls Try.prog 59 #[.agg #[.int .i64 x1, .int .i64 x2, .int .i64 x3, .int .i64 x4], .agg #[.int .i64 y1, .int .i64 y2, .int .i64 y3, .int .i64 y4]] w fun e w' => e = .returned (.bool (mB ⟨x1, x2, x3, x4⟩ ⟨y1, y2, y3, y4⟩)) ∧ Below w.heap.size w w' := by
  have hq := fun W => eqlRM W x1 x2 x3 x4 y1 y2 y3 y4
  generalize mB ⟨x1, x2, x3, x4⟩ ⟨y1, y2, y3, y4⟩ = r at *
  go_enter Try.func59, Try.ntmps59
  go_wp2_with fail
  try (go_quiet (fail))
  try go_wp2_with fail
  go_ret
  exact ⟨rfl, by first | go_grown | (refine dN ?_ _; go_grown)⟩
set_option maxHeartbeats 4000000 in
theorem eqf_c (l m : List Mg) (A A' : Option Addr) (kap kap' : Nat) (w : World) (hl : Reads w w.heap.size 4 A l.length (mcells l)) (hm : Reads w w.heap.size 4 A' m.length (mcells m)) (hn : l.length ≤ 1000000) (hn2 : m.length ≤ 1000000) :
    Calls Try.prog 58 #[.slice A l.length kap, .slice A' m.length kap', .func (.func 59) #[] #[]] w fun e w' => e = .returned (.bool (decide (l = m))) ∧ Below w.heap.size w w' := by
  have HL := Kept.mk hl
  have HM := Kept.mk hm
  clear hl hm
  by_cases hlen : l.length = m.length
  · have HE := Kept.mk hlen
    have hle : l.length ≤ m.length := by omega
    have hle2 : m.length ≤ l.length := by omega
    have hq0 : ((l.length : Int) != (m.length : Int)) = false := by simp; omega
    clear hlen
    go_enter Try.func58, Try.ntmps58
    go_wp2_with fail
    go_loopw [17] (fun v17 wr => ∃ k : Nat, k ≤ l.length ∧ v17 = .int .i64 k ∧ Kept (l.take k = m.take k) ∧ Kept (Below w.heap.size w wr)) (fun v17 _ => l.length - (intOf v17).toNat)
    case atStart => exact ⟨0, by omega, rfl, ⟨rfl⟩, ⟨Below.refl _ _⟩⟩
    case round =>
      obtain ⟨k, hk, rfl, HT, HD⟩ := hrel
      by_cases hlt : k < l.length
      · obtain ⟨x, b, off, hx, hA, hb, c1, c2, c3, c4⟩ := m_cells (HL.out.new_ HD.out) hlt
        obtain ⟨y, b', off', hy, hA', hb', c1', c2', c3', c4'⟩ := m_cells (HM.out.new_ HD.out) (show k < m.length by omega)
        have HX := Kept.mk hx
        have HY := Kept.mk hy
        rw [hA, hA']
        clear hx hy hA hA'
        by_cases hxy : x = y
        · have HN := Kept.mk (take_eq_succ HX.out HY.out HT.out hxy)
          have HB2 : Kept (mB ⟨x.kind, x.frm, x.to_, x.ep⟩ ⟨y.kind, y.frm, y.to_, y.ep⟩ = true) := ⟨(mB_is x y).trans (by simpa using hxy)⟩
          clear hxy
          generalize x.kind = x1 at *
          generalize x.frm = x2 at *
          generalize x.to_ = x3 at *
          generalize x.ep = x4 at *
          generalize y.kind = y1 at *
          generalize y.frm = y2 at *
          generalize y.to_ = y3 at *
          generalize y.ep = y4 at *
          go_wp2_with fail
          refine (same1_c x1 x2 x3 x4 y1 y2 y3 y4 _).mono ?_
          rintro e w1 ⟨rfl, hb1⟩
          rw [HB2.out]
          have HL1 : Kept (Below w.heap.size w w1) := ⟨join (((HD.out.alloc HD.out.size _)).alloc (by have := HD.out.size; simp; omega) _) hb1⟩
          clear hb1
          go_wp2_with fail
          go_roundw
          case rel => exact ⟨k + 1, by omega, by go_num, HN, HL1⟩
          case measure => simp [intOf]; omega
        · have HN := Kept.mk (ne_of_at HX.out HY.out hxy)
          have HB2 : Kept (mB ⟨x.kind, x.frm, x.to_, x.ep⟩ ⟨y.kind, y.frm, y.to_, y.ep⟩ = false) := ⟨(mB_is x y).trans (by simpa using hxy)⟩
          clear hxy
          generalize x.kind = x1 at *
          generalize x.frm = x2 at *
          generalize x.to_ = x3 at *
          generalize x.ep = x4 at *
          generalize y.kind = y1 at *
          generalize y.frm = y2 at *
          generalize y.to_ = y3 at *
          generalize y.ep = y4 at *
          go_wp2_with fail
          refine (same1_c x1 x2 x3 x4 y1 y2 y3 y4 _).mono ?_
          rintro e w1 ⟨rfl, hb1⟩
          rw [HB2.out]
          have HL1 : Kept (Below w.heap.size w w1) := ⟨join (((HD.out.alloc HD.out.size _)).alloc (by have := HD.out.size; simp; omega) _) hb1⟩
          clear hb1
          go_wp2_with fail
          go_ret
          exact ⟨ret_bool (by simpa using HN.out), HL1.out⟩
      · obtain rfl : k = l.length := by omega
        have HN : Kept (l = m) := ⟨by have h1 := HT.out; rw [List.take_length] at h1; rw [h1]; exact List.take_of_length_le (by omega)⟩
        clear HT
        go_wp2_with fail
        go_ret
        exact ⟨ret_bool (by simpa using HN.out), HD.out⟩
  · have HN : Kept (l ≠ m) := ⟨fun e => hlen (by rw [e])⟩
    have hne : l.length < m.length ∨ m.length < l.length := by omega
    clear hlen
    rcases hne with hne | hne
    all_goals
      go_enter Try.func58, Try.ntmps58
      go_wp2_with fail
      go_ret
      exact ⟨ret_bool (by simpa using HN.out), Below.refl _ _⟩
theorem same_c (l m : List Mg) (A A' : Option Addr) (kap kap' : Nat) (w : World) (hl : Reads w w.heap.size 4 A l.length (mcells l)) (hm : Reads w w.heap.size 4 A' m.length (mcells m)) (hn : l.length ≤ 1000000) (hn2 : m.length ≤ 1000000) :
    Calls Try.prog 30 #[.slice A l.length kap, .slice A' m.length kap'] w fun e w' => e = .returned (.bool (decide (l = m))) ∧ Below w.heap.size w w' := by
  have HC := Kept.mk (eqf_c l m A A' kap kap' w hl hm hn hn2)
  clear hl hm
  go_enter Try.func30, Try.ntmps30
  go_wp2_with fail
  refine HC.out.mono ?_
  rintro e w1 ⟨rfl, hb⟩
  go_wp2_with fail
  go_ret
  exact ⟨rfl, hb⟩
end Go.Proofs.Ytibmbhnpmfgclaa
