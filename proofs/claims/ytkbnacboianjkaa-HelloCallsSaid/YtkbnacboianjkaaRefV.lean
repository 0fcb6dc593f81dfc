/- Hello: the reference's Receive. -/
import Derived.Test.YtkbnacboianjkaaRef
import Derived.Test.YtkbnacboianjkaaRecv
namespace Go.Proofs.Ytkbnacboianjkaa
set_option linter.unusedVariables false
set_option linter.unusedSimpArgs false
open Go.RowKit
structure RW (w W : World) (t : Tb) (A : Option Addr) (k : Nat) (m : Msg) : Prop where
  b0 : Blk W w.heap.size 35 #[.int .i64 t.node, .int .i64 t.inc, .int .i64 t.every, .int .i64 t.dead, .slice A t.ports.length k, .int .i64 t.ticks, .int .i64 t.version]
  b1 : Blk W (w.heap.size + 1) 44 #[.int .i64 m.node, .int .i64 m.inc, .int .i64 m.port, .int .i64 m.heard]
  b2 : Blk W (w.heap.size + 2) 35 #[.int .i64 0, .int .i64 0, .int .i64 0, .int .i64 0, .slice none 0 0, .int .i64 0, .int .i64 0]
  blw : Below w.heap.size w W
theorem RW.start (w : World) (t : Tb) (A : Option Addr) (k : Nat) (m : Msg) : RW w (((w.alloc (.cells #[.int .i64 t.node, .int .i64 t.inc, .int .i64 t.every, .int .i64 t.dead, .slice A t.ports.length k, .int .i64 t.ticks, .int .i64 t.version] 35)).alloc (.cells #[.int .i64 m.node, .int .i64 m.inc, .int .i64 m.port, .int .i64 m.heard] 44)).alloc (.cells #[.int .i64 0, .int .i64 0, .int .i64 0, .int .i64 0, .slice none 0 0, .int .i64 0, .int .i64 0] 35)) t A k m := by
  have h1 := Blk.new (w.alloc (.cells #[.int .i64 t.node, .int .i64 t.inc, .int .i64 t.every, .int .i64 t.dead, .slice A t.ports.length k, .int .i64 t.ticks, .int .i64 t.version] 35)) 44 #[.int .i64 m.node, .int .i64 m.inc, .int .i64 m.port, .int .i64 m.heard]
  have h2 := Blk.new ((w.alloc (.cells #[.int .i64 t.node, .int .i64 t.inc, .int .i64 t.every, .int .i64 t.dead, .slice A t.ports.length k, .int .i64 t.ticks, .int .i64 t.version] 35)).alloc (.cells #[.int .i64 m.node, .int .i64 m.inc, .int .i64 m.port, .int .i64 m.heard] 44)) 35 #[.int .i64 0, .int .i64 0, .int .i64 0, .int .i64 0, .slice none 0 0, .int .i64 0, .int .i64 0]
  rw [World.size_alloc] at h1
  rw [World.size_alloc, World.size_alloc] at h2
  exact ⟨((Blk.new _ _ _).alloc _).alloc _, h1.alloc _, h2, by go_grown⟩
theorem RW.new_ {w W W' : World} {t : Tb} {A : Option Addr} {k : Nat} {m : Msg} (h : RW w W t A k m) (hb : Below W.heap.size W W') : RW w W' t A k m := ⟨h.b0.new_ hb, h.b1.new_ hb, h.b2.new_ hb, join h.blw hb⟩
set_option maxRecDepth 100000 in
set_option maxHeartbeats 4000000 in
theorem rrecvBad_c (t : Tb) (port : Int) (m : Msg) (A : Option Addr) (k : Nat) (w : World) (h : RT w t A k) (hv : ¬ (0 ≤ port ∧ port.toNat < t.ports.length ∧ msgB m = true)) :
    Calls Try.prog 18 #[rval t A k, .int .i64 port, .agg #[.int .i64 m.node, .int .i64 m.inc, .int .i64 m.port, .int .i64 m.heard]] w fun e w' => e = .returned (.tuple #[.agg #[.int .i64 t.node, .int .i64 t.inc, .int .i64 t.every, .int .i64 t.dead, .slice A t.ports.length k, .int .i64 t.ticks, .int .i64 t.version], .int .i64 2]) ∧ RT w' t A k ∧ Below w.heap.size w w' := by
  have HRT := Kept.mk h
  have n1 := h.pos
  have n8 := h.few
  clear h
  unfold rval rcs
  go_enter Try.func18, Try.ntmps18
  go_upto_region 1 with fail
  obtain ⟨X, HX⟩ : ∃ X, X = ((w.alloc (.cells #[.int .i64 t.node, .int .i64 t.inc, .int .i64 t.every, .int .i64 t.dead, .slice A t.ports.length k, .int .i64 t.ticks, .int .i64 t.version] 35)).alloc (.cells #[.int .i64 m.node, .int .i64 m.inc, .int .i64 m.port, .int .i64 m.heard] 44)).alloc (.cells #[.int .i64 0, .int .i64 0, .int .i64 0, .int .i64 0, .slice none 0 0, .int .i64 0, .int .i64 0] 35) ∧ Kept (RW w X t A k m) := ⟨_, rfl, ⟨RW.start w t A k m⟩⟩
  obtain ⟨hX, HX⟩ := HX
  rw [← hX]
  clear hX
  have k0 := HX.out.b0.cell 0 (v := .int .i64 t.node) rfl
  have k1 := HX.out.b0.cell 1 (v := .int .i64 t.inc) rfl
  have k2 := HX.out.b0.cell 2 (v := .int .i64 t.every) rfl
  have k3 := HX.out.b0.cell 3 (v := .int .i64 t.dead) rfl
  have k4 := HX.out.b0.cell 4 (v := .slice A t.ports.length k) rfl
  have k5 := HX.out.b0.cell 5 (v := .int .i64 t.ticks) rfl
  have k6 := HX.out.b0.cell 6 (v := .int .i64 t.version) rfl
  have m0 := HX.out.b1.cell 0 (v := .int .i64 m.node) rfl
  have m1 := HX.out.b1.cell 1 (v := .int .i64 m.inc) rfl
  have m2 := HX.out.b1.cell 2 (v := .int .i64 m.port) rfl
  have m3 := HX.out.b1.cell 3 (v := .int .i64 m.heard) rfl
  have z0 := HX.out.b2.cell 0 (v := .int .i64 0) rfl
  have z1 := HX.out.b2.cell 1 (v := .int .i64 0) rfl
  have z2 := HX.out.b2.cell 2 (v := .int .i64 0) rfl
  have z3 := HX.out.b2.cell 3 (v := .int .i64 0) rfl
  have z4 := HX.out.b2.cell 4 (v := .slice none 0 0) rfl
  have z5 := HX.out.b2.cell 5 (v := .int .i64 0) rfl
  have z6 := HX.out.b2.cell 6 (v := .int .i64 0) rfl
  have zf0 := HX.out.b2.free 0
  have zf1 := HX.out.b2.free 1
  have zf2 := HX.out.b2.free 2
  have zf3 := HX.out.b2.free 3
  have zf4 := HX.out.b2.free 4
  have zf5 := HX.out.b2.free 5
  have zf6 := HX.out.b2.free 6
  have l0 := HX.out.b0.lt
  have l1 := HX.out.b1.lt
  have l2 := HX.out.b2.lt
  have lw := HX.out.blw.size
  cases c0 : inB port 0 ((t.ports.length : Int) - 1) with
  | false =>
      clear hv
      go_wp2_with (go_at_call 24; refine (in_c _ _ _ _).mono ?_; rintro e wq ⟨rfl, rfl⟩)
      obtain ⟨W9, hW9, hB9, hO9⟩ := fill7 HX.out.b2 (.int .i64 t.node) (.int .i64 t.inc) (.int .i64 t.every) (.int .i64 t.dead) (.slice A t.ports.length k) (.int .i64 t.ticks) (.int .i64 t.version)
      rw [← hW9]
      have s0 := hB9.cell 0 (v := .int .i64 t.node) rfl
      have s1 := hB9.cell 1 (v := .int .i64 t.inc) rfl
      have s2 := hB9.cell 2 (v := .int .i64 t.every) rfl
      have s3 := hB9.cell 3 (v := .int .i64 t.dead) rfl
      have s4 := hB9.cell 4 (v := .slice A t.ports.length k) rfl
      have s5 := hB9.cell 5 (v := .int .i64 t.ticks) rfl
      have s6 := hB9.cell 6 (v := .int .i64 t.version) rfl
      have HL9 := Kept.mk (low HX.out.blw hO9 (by omega))
      clear hB9 hO9 hW9
      exact bodyPost_ret (v := .tuple #[.agg #[.int .i64 t.node, .int .i64 t.inc, .int .i64 t.every, .int .i64 t.dead, .slice A t.ports.length k, .int .i64 t.ticks, .int .i64 t.version], .int .i64 2]) (by simp [results, Try.results18, go_sem, s0, s1, s2, s3, s4, s5, s6]) rfl ⟨rfl, HRT.out.new_ HL9.out, HL9.out⟩
  | true =>
    cases c1 : inB m.node 0 15 with
    | false =>
        clear hv
        go_wp2_with (go_at_call 24; refine (in_c _ _ _ _).mono ?_; rintro e wq ⟨rfl, rfl⟩)
        obtain ⟨W9, hW9, hB9, hO9⟩ := fill7 HX.out.b2 (.int .i64 t.node) (.int .i64 t.inc) (.int .i64 t.every) (.int .i64 t.dead) (.slice A t.ports.length k) (.int .i64 t.ticks) (.int .i64 t.version)
        rw [← hW9]
        have s0 := hB9.cell 0 (v := .int .i64 t.node) rfl
        have s1 := hB9.cell 1 (v := .int .i64 t.inc) rfl
        have s2 := hB9.cell 2 (v := .int .i64 t.every) rfl
        have s3 := hB9.cell 3 (v := .int .i64 t.dead) rfl
        have s4 := hB9.cell 4 (v := .slice A t.ports.length k) rfl
        have s5 := hB9.cell 5 (v := .int .i64 t.ticks) rfl
        have s6 := hB9.cell 6 (v := .int .i64 t.version) rfl
        have HL9 := Kept.mk (low HX.out.blw hO9 (by omega))
        clear hB9 hO9 hW9
        exact bodyPost_ret (v := .tuple #[.agg #[.int .i64 t.node, .int .i64 t.inc, .int .i64 t.every, .int .i64 t.dead, .slice A t.ports.length k, .int .i64 t.ticks, .int .i64 t.version], .int .i64 2]) (by simp [results, Try.results18, go_sem, s0, s1, s2, s3, s4, s5, s6]) rfl ⟨rfl, HRT.out.new_ HL9.out, HL9.out⟩
    | true =>
      cases c2 : inB m.inc 1 1099511627775 with
      | false =>
          clear hv
          go_wp2_with (go_at_call 24; refine (in_c _ _ _ _).mono ?_; rintro e wq ⟨rfl, rfl⟩)
          obtain ⟨W9, hW9, hB9, hO9⟩ := fill7 HX.out.b2 (.int .i64 t.node) (.int .i64 t.inc) (.int .i64 t.every) (.int .i64 t.dead) (.slice A t.ports.length k) (.int .i64 t.ticks) (.int .i64 t.version)
          rw [← hW9]
          have s0 := hB9.cell 0 (v := .int .i64 t.node) rfl
          have s1 := hB9.cell 1 (v := .int .i64 t.inc) rfl
          have s2 := hB9.cell 2 (v := .int .i64 t.every) rfl
          have s3 := hB9.cell 3 (v := .int .i64 t.dead) rfl
          have s4 := hB9.cell 4 (v := .slice A t.ports.length k) rfl
          have s5 := hB9.cell 5 (v := .int .i64 t.ticks) rfl
          have s6 := hB9.cell 6 (v := .int .i64 t.version) rfl
          have HL9 := Kept.mk (low HX.out.blw hO9 (by omega))
          clear hB9 hO9 hW9
          exact bodyPost_ret (v := .tuple #[.agg #[.int .i64 t.node, .int .i64 t.inc, .int .i64 t.every, .int .i64 t.dead, .slice A t.ports.length k, .int .i64 t.ticks, .int .i64 t.version], .int .i64 2]) (by simp [results, Try.results18, go_sem, s0, s1, s2, s3, s4, s5, s6]) rfl ⟨rfl, HRT.out.new_ HL9.out, HL9.out⟩
      | true =>
        cases c3 : inB m.port 0 7 with
        | false =>
            clear hv
            go_wp2_with (go_at_call 24; refine (in_c _ _ _ _).mono ?_; rintro e wq ⟨rfl, rfl⟩)
            obtain ⟨W9, hW9, hB9, hO9⟩ := fill7 HX.out.b2 (.int .i64 t.node) (.int .i64 t.inc) (.int .i64 t.every) (.int .i64 t.dead) (.slice A t.ports.length k) (.int .i64 t.ticks) (.int .i64 t.version)
            rw [← hW9]
            have s0 := hB9.cell 0 (v := .int .i64 t.node) rfl
            have s1 := hB9.cell 1 (v := .int .i64 t.inc) rfl
            have s2 := hB9.cell 2 (v := .int .i64 t.every) rfl
            have s3 := hB9.cell 3 (v := .int .i64 t.dead) rfl
            have s4 := hB9.cell 4 (v := .slice A t.ports.length k) rfl
            have s5 := hB9.cell 5 (v := .int .i64 t.ticks) rfl
            have s6 := hB9.cell 6 (v := .int .i64 t.version) rfl
            have HL9 := Kept.mk (low HX.out.blw hO9 (by omega))
            clear hB9 hO9 hW9
            exact bodyPost_ret (v := .tuple #[.agg #[.int .i64 t.node, .int .i64 t.inc, .int .i64 t.every, .int .i64 t.dead, .slice A t.ports.length k, .int .i64 t.ticks, .int .i64 t.version], .int .i64 2]) (by simp [results, Try.results18, go_sem, s0, s1, s2, s3, s4, s5, s6]) rfl ⟨rfl, HRT.out.new_ HL9.out, HL9.out⟩
        | true =>
          cases c4 : inB m.heard 0 1099511627775 with
          | false =>
              clear hv
              go_wp2_with (go_at_call 24; refine (in_c _ _ _ _).mono ?_; rintro e wq ⟨rfl, rfl⟩)
              obtain ⟨W9, hW9, hB9, hO9⟩ := fill7 HX.out.b2 (.int .i64 t.node) (.int .i64 t.inc) (.int .i64 t.every) (.int .i64 t.dead) (.slice A t.ports.length k) (.int .i64 t.ticks) (.int .i64 t.version)
              rw [← hW9]
              have s0 := hB9.cell 0 (v := .int .i64 t.node) rfl
              have s1 := hB9.cell 1 (v := .int .i64 t.inc) rfl
              have s2 := hB9.cell 2 (v := .int .i64 t.every) rfl
              have s3 := hB9.cell 3 (v := .int .i64 t.dead) rfl
              have s4 := hB9.cell 4 (v := .slice A t.ports.length k) rfl
              have s5 := hB9.cell 5 (v := .int .i64 t.ticks) rfl
              have s6 := hB9.cell 6 (v := .int .i64 t.version) rfl
              have HL9 := Kept.mk (low HX.out.blw hO9 (by omega))
              clear hB9 hO9 hW9
              exact bodyPost_ret (v := .tuple #[.agg #[.int .i64 t.node, .int .i64 t.inc, .int .i64 t.every, .int .i64 t.dead, .slice A t.ports.length k, .int .i64 t.ticks, .int .i64 t.version], .int .i64 2]) (by simp [results, Try.results18, go_sem, s0, s1, s2, s3, s4, s5, s6]) rfl ⟨rfl, HRT.out.new_ HL9.out, HL9.out⟩
          | true =>
            exact absurd ⟨(inB_iff.1 c0).1, by have := inB_iff.1 c0; omega, by simp [msgB, c1, c2, c3, c4]⟩ hv
end Go.Proofs.Ytkbnacboianjkaa
