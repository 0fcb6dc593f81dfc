/- Hello: the reference's Receive, an old message. -/
import Derived.Test.YtkbnacboianjkaaRefV
namespace Go.Proofs.Ytkbnacboianjkaa
set_option linter.unusedVariables false
set_option linter.unusedSimpArgs false
open Go.RowKit
set_option maxRecDepth 100000 in
set_option maxHeartbeats 4000000 in
theorem rrecvStale_c (t : Tb) (i : Nat) (p : Pt) (m : Msg) (A : Option Addr) (k : Nat) (w : World) (h : RT w t A k) (hi : i < t.ports.length) (hp : t.ports[i]? = some p) (hm : msgB m = true) (hs : stale p m = true) :
    Calls Try.prog 18 #[rval t A k, .int .i64 (i : Int), .agg #[.int .i64 m.node, .int .i64 m.inc, .int .i64 m.port, .int .i64 m.heard]] w fun e w' => e = .returned (.tuple #[.agg #[.int .i64 t.node, .int .i64 t.inc, .int .i64 t.every, .int .i64 t.dead, .slice A t.ports.length k, .int .i64 t.ticks, .int .i64 t.version], .int .i64 17]) ∧ RT w' t A k ∧ Below w.heap.size w w' := by
  have HRT := Kept.mk h
  have n1 := h.pos
  have n8 := h.few
  have hk := h.le
  have hkm := h.max
  unfold maxLen at hkm
  obtain ⟨⟨⟨c1, c2⟩, c3⟩, c4⟩ : ((inB m.node 0 15 = true ∧ inB m.inc 1 1099511627775 = true) ∧ inB m.port 0 7 = true) ∧ inB m.heard 0 1099511627775 = true := by simpa [msgB] using hm
  have c0 : inB (i : Int) 0 ((t.ports.length : Int) - 1) = true := inB_iff.2 ⟨by omega, by omega⟩
  have ci := inB_iff.1 c2
  obtain ⟨rb, roff, rfl, hrb, hrow⟩ := h.at_
  obtain ⟨r0, r1, r2, r3, r4⟩ := hrow i p hp
  clear h hrow
  have hs1 : (m.node == p.last.node) = true ∧ m.inc < p.last.inc := by simpa [stale] using hs
  have hne : p.last.inc ≠ 0 := by omega
  have t1 : (rof t.ticks p).n = m.node := by simp only [rof, if_neg hne]; have := hs1.1; rw [beq_iff_eq] at this; exact this.symm
  have t2 := hs1.2
  clear hs hs1 hne hm
  generalize (rof t.ticks p).n = rn at *
  subst t1
  unfold rval rcs
  go_enter Try.func18, Try.ntmps18
  go_upto_region 1 with fail
  obtain ⟨X, HX⟩ : ∃ X, X = ((w.alloc (.cells #[.int .i64 t.node, .int .i64 t.inc, .int .i64 t.every, .int .i64 t.dead, .slice (some ⟨rb, roff, none⟩) t.ports.length k, .int .i64 t.ticks, .int .i64 t.version] 35)).alloc (.cells #[.int .i64 m.node, .int .i64 m.inc, .int .i64 m.port, .int .i64 m.heard] 44)).alloc (.cells #[.int .i64 0, .int .i64 0, .int .i64 0, .int .i64 0, .slice none 0 0, .int .i64 0, .int .i64 0] 35) ∧ Kept (RW w X t (some ⟨rb, roff, none⟩) k m) := ⟨_, rfl, ⟨RW.start w t (some ⟨rb, roff, none⟩) k m⟩⟩
  obtain ⟨hX, HX⟩ := HX
  rw [← hX]
  clear hX
  have k0 := HX.out.b0.cell 0 (v := .int .i64 t.node) rfl
  have k1 := HX.out.b0.cell 1 (v := .int .i64 t.inc) rfl
  have k2 := HX.out.b0.cell 2 (v := .int .i64 t.every) rfl
  have k3 := HX.out.b0.cell 3 (v := .int .i64 t.dead) rfl
  have k4 := HX.out.b0.cell 4 (v := .slice (some ⟨rb, roff, none⟩) t.ports.length k) rfl
  have k5 := HX.out.b0.cell 5 (v := .int .i64 t.ticks) rfl
  have k6 := HX.out.b0.cell 6 (v := .int .i64 t.version) rfl
  have m0 := HX.out.b1.cell 0 (v := .int .i64 m.node) rfl
  have m1 := HX.out.b1.cell 1 (v := .int .i64 m.inc) rfl
  have m2 := HX.out.b1.cell 2 (v := .int .i64 m.port) rfl
  have m3 := HX.out.b1.cell 3 (v := .int .i64 m.heard) rfl
  have z0 := HX.out.b2.cell 0 (v := .int .i64 0) rfl
  have z1 := HX.out.b2.cell 1 (v := .int .i64 0) rfl
  have z2 := HX.out.b2.cell 2 (v := .int .i64 0) rfl
  have z3 := HX.out.b2.cell 3 (v := .int .i64 0) rfl
  have z4 := HX.out.b2.cell 4 (v := .slice none 0 0) rfl
  have z5 := HX.out.b2.cell 5 (v := .int .i64 0) rfl
  have z6 := HX.out.b2.cell 6 (v := .int .i64 0) rfl
  have zf0 := HX.out.b2.free 0
  have zf1 := HX.out.b2.free 1
  have zf2 := HX.out.b2.free 2
  have zf3 := HX.out.b2.free 3
  have zf4 := HX.out.b2.free 4
  have zf5 := HX.out.b2.free 5
  have zf6 := HX.out.b2.free 6
  have l0 := HX.out.b0.lt
  have l1 := HX.out.b1.lt
  have l2 := HX.out.b2.lt
  have lw := HX.out.blw.size
  have q0 : X.cell? ⟨rb, roff + i * 5, none⟩ = some (.int .i64 p.state) := (HX.out.blw.cell (p := ⟨rb, roff + i * 5, none⟩) hrb).trans r0
  have q1 : X.cell? ⟨rb, roff + i * 5 + 1, none⟩ = some (.int .i64 m.node) := (HX.out.blw.cell (p := ⟨rb, roff + i * 5 + 1, none⟩) hrb).trans r1
  have q2 : X.cell? ⟨rb, roff + i * 5 + 2, none⟩ = some (.int .i64 p.last.inc) := (HX.out.blw.cell (p := ⟨rb, roff + i * 5 + 2, none⟩) hrb).trans r2
  have q3 : X.cell? ⟨rb, roff + i * 5 + 3, none⟩ = some (.int .i64 p.last.port) := (HX.out.blw.cell (p := ⟨rb, roff + i * 5 + 3, none⟩) hrb).trans r3
  have q4 : X.cell? ⟨rb, roff + i * 5 + 4, none⟩ = some (.int .i64 (t.ticks - p.since)) := (HX.out.blw.cell (p := ⟨rb, roff + i * 5 + 4, none⟩) hrb).trans r4
  go_upto_region 3 with (go_at_call 24; refine (in_c _ _ _ _).mono ?_; rintro e wq ⟨rfl, rfl⟩)
  go_upto_region 4 with fail
  obtain ⟨Y, HY⟩ : ∃ Y, Y = X.alloc (.cells #[.int .i64 p.state, .int .i64 m.node, .int .i64 p.last.inc, .int .i64 p.last.port, .int .i64 (t.ticks - p.since)] 54) ∧ Kept (Blk Y X.heap.size 54 #[.int .i64 p.state, .int .i64 m.node, .int .i64 p.last.inc, .int .i64 p.last.port, .int .i64 (t.ticks - p.since)] ∧ RW w Y t (some ⟨rb, roff, none⟩) k m) := ⟨_, rfl, ⟨Blk.new _ _ _, HX.out.new_ ((Below.refl _ _).alloc (Nat.le_refl _) _)⟩⟩
  obtain ⟨hY, HY⟩ := HY
  rw [← hY]
  have hYs : Y.heap.size = X.heap.size + 1 := by rw [hY]; simp
  clear hY k0 k1 k2 k3 k4 k5 k6 m0 m1 m2 m3 z0 z1 z2 z3 z4 z5 z6 zf0 zf1 zf2 zf3 zf4 zf5 zf6 q0 q1 q2 q3 q4
  obtain ⟨b8, hb8⟩ : ∃ b, b = X.heap.size := ⟨_, rfl⟩
  rw [← hb8] at HY ⊢
  have hb8l : w.heap.size + 2 < b8 := by omega
  have hYs' : Y.heap.size = b8 + 1 := by omega
  clear hb8 hYs l0 l1 l2 lw
  have y0 := HY.out.1.cell 0 (v := .int .i64 p.state) rfl
  have y1 := HY.out.1.cell 1 (v := .int .i64 m.node) rfl
  have y2 := HY.out.1.cell 2 (v := .int .i64 p.last.inc) rfl
  have y3 := HY.out.1.cell 3 (v := .int .i64 p.last.port) rfl
  have y4 := HY.out.1.cell 4 (v := .int .i64 (t.ticks - p.since)) rfl
  have k0 := HY.out.2.b0.cell 0 (v := .int .i64 t.node) rfl
  have k1 := HY.out.2.b0.cell 1 (v := .int .i64 t.inc) rfl
  have k2 := HY.out.2.b0.cell 2 (v := .int .i64 t.every) rfl
  have k3 := HY.out.2.b0.cell 3 (v := .int .i64 t.dead) rfl
  have k4 := HY.out.2.b0.cell 4 (v := .slice (some ⟨rb, roff, none⟩) t.ports.length k) rfl
  have k5 := HY.out.2.b0.cell 5 (v := .int .i64 t.ticks) rfl
  have k6 := HY.out.2.b0.cell 6 (v := .int .i64 t.version) rfl
  have m0 := HY.out.2.b1.cell 0 (v := .int .i64 m.node) rfl
  have m1 := HY.out.2.b1.cell 1 (v := .int .i64 m.inc) rfl
  have m2 := HY.out.2.b1.cell 2 (v := .int .i64 m.port) rfl
  have m3 := HY.out.2.b1.cell 3 (v := .int .i64 m.heard) rfl
  have z0 := HY.out.2.b2.cell 0 (v := .int .i64 0) rfl
  have z1 := HY.out.2.b2.cell 1 (v := .int .i64 0) rfl
  have z2 := HY.out.2.b2.cell 2 (v := .int .i64 0) rfl
  have z3 := HY.out.2.b2.cell 3 (v := .int .i64 0) rfl
  have z4 := HY.out.2.b2.cell 4 (v := .slice none 0 0) rfl
  have z5 := HY.out.2.b2.cell 5 (v := .int .i64 0) rfl
  have z6 := HY.out.2.b2.cell 6 (v := .int .i64 0) rfl
  have zf0 := HY.out.2.b2.free 0
  have zf1 := HY.out.2.b2.free 1
  have zf2 := HY.out.2.b2.free 2
  have zf3 := HY.out.2.b2.free 3
  have zf4 := HY.out.2.b2.free 4
  have zf5 := HY.out.2.b2.free 5
  have zf6 := HY.out.2.b2.free 6
  have l0 := HY.out.2.b0.lt
  have l1 := HY.out.2.b1.lt
  have l2 := HY.out.2.b2.lt
  have lw := HY.out.2.blw.size
  go_wp2_with fail
  obtain ⟨W9, hW9, hB9, hO9⟩ := fill7 HY.out.2.b2 (.int .i64 t.node) (.int .i64 t.inc) (.int .i64 t.every) (.int .i64 t.dead) (.slice (some ⟨rb, roff, none⟩) t.ports.length k) (.int .i64 t.ticks) (.int .i64 t.version)
  rw [← hW9]
  have s0 := hB9.cell 0 (v := .int .i64 t.node) rfl
  have s1 := hB9.cell 1 (v := .int .i64 t.inc) rfl
  have s2 := hB9.cell 2 (v := .int .i64 t.every) rfl
  have s3 := hB9.cell 3 (v := .int .i64 t.dead) rfl
  have s4 := hB9.cell 4 (v := .slice (some ⟨rb, roff, none⟩) t.ports.length k) rfl
  have s5 := hB9.cell 5 (v := .int .i64 t.ticks) rfl
  have s6 := hB9.cell 6 (v := .int .i64 t.version) rfl
  have HL9 := Kept.mk (low HY.out.2.blw hO9 (by omega))
  clear hB9 hO9 hW9
  exact bodyPost_ret (v := .tuple #[.agg #[.int .i64 t.node, .int .i64 t.inc, .int .i64 t.every, .int .i64 t.dead, .slice (some ⟨rb, roff, none⟩) t.ports.length k, .int .i64 t.ticks, .int .i64 t.version], .int .i64 17]) (by simp [results, Try.results18, go_sem, s0, s1, s2, s3, s4, s5, s6]) rfl ⟨rfl, HRT.out.new_ HL9.out, HL9.out⟩
end Go.Proofs.Ytkbnacboianjkaa
