/- Setup: the reference's Receive at messages of the kind 4 (printed by gen_ref2.py). -/
import Derived.Test.YtnmgnggchgckoaaRefG
namespace Go.Proofs.Ytnmgnggchgckoaa
set_option linter.unusedVariables false
set_option linter.unusedSimpArgs false
open Go.RowKit
section
variable {c : Ch} {gA k gD m : Nat} {w : World}
set_option maxRecDepth 100000 in
set_option maxHeartbeats 16000000 in
theorem rrecv_4 (d : Int) (h : RefV w c (at4 gA k gD m)) :
    Calls Try.prog 26 #[.agg #[.int .i64 c.conn, .int .i64 c.need, .slice (some ⟨gA, 0, none⟩) c.n k, .slice (some ⟨gD, 0, none⟩) c.n m], .agg #[.int .i64 4, .int .i64 c.conn, .int .i64 d]] w (RRx w gA gD (recvP c ⟨4, c.conn, d⟩)) := by
  have hn := h.ok.n2
  have hn1 := h.ok.n1
  by_cases hd0 : d < 0
  · rw [recv_bad (by decide) (Or.inl (by simp [Ch.hasB]; omega))]
    obtain ⟨W0, hW0, hX, hM⟩ := RX.startM h (4) (c.conn) (d)
    have HX := Kept.mk hX
    have HM := Kept.mk hM
    obtain ⟨k0, k1, k2, k3, r0, r1, r2, r3, fp, fq, zp, zq, zA, zD, st, -⟩ := hX.cells
    have p0 := fp 0
    have p1 := fp 1
    have p2 := fp 2
    have p3 := fp 3
    have f0 := fq 0
    have f1 := fq 1
    have f2 := fq 2
    have f3 := fq 3
    have m0 := hM.cell 0 (v := .int .i64 4) rfl
    have m1 := hM.cell 1 (v := .int .i64 c.conn) rfl
    have m2 := hM.cell 2 (v := .int .i64 d) rfl
    have mz := hM.lt
    clear hX hM h
    go_enter Try.func26, Try.ntmps26
    go_upto_region 1 with fail
    rw [← hW0]
    clear hW0
    go_wp2_with fail
    go_quiet (fail)
    obtain ⟨W1, hW1⟩ : ∃ W1, W1 = W0.drewN nq := ⟨_, rfl⟩
    have hb1 : Below W0.heap.size W0 W1 := by rw [hW1]; exact dN (Below.refl _ _) _
    have HX1 := Kept.mk (HX.out.new_ hb1)
    have HM1 := Kept.mk (HM.out.new_ hb1)
    rw [← hW1]
    clear hb1 hW1 k0 k1 k2 k3 r0 r1 r2 r3 fp fq zp zq zA zD st p0 p1 p2 p3 f0 f1 f2 f3 m0 m1 m2 mz
    obtain ⟨k0, k1, k2, k3, r0, r1, r2, r3, fp, fq, zp, zq, zA, zD, st, -⟩ := HX1.out.cells
    have p0 := fp 0
    have p1 := fp 1
    have p2 := fp 2
    have p3 := fp 3
    have f0 := fq 0
    have f1 := fq 1
    have f2 := fq 2
    have f3 := fq 3
    have m0 := HM1.out.cell 0 (v := .int .i64 4) rfl
    have m1 := HM1.out.cell 1 (v := .int .i64 c.conn) rfl
    have m2 := HM1.out.cell 2 (v := .int .i64 d) rfl
    have mz := HM1.out.lt
    go_wp2_with fail
    clear k0 k1 k2 k3
    obtain ⟨WF, hWF⟩ : ∃ WF, WF = ((((W1).setCell ⟨w.heap.size + 2, 0, none⟩ (.int .i64 c.conn)).setCell ⟨w.heap.size + 2, 1, none⟩ (.int .i64 c.need)).setCell ⟨w.heap.size + 2, 2, none⟩ (.slice (some ⟨gA, 0, none⟩) c.n k)).setCell ⟨w.heap.size + 2, 3, none⟩ (.slice (some ⟨gD, 0, none⟩) c.n m) := ⟨_, rfl⟩
    obtain ⟨q1, q2, q3, q4⟩ := RX.fin HX1.out.v HX1.out.rx HX1.out.bel HX1.out.q0 (World.ownsRow_nil _ w.heap.size 58 3) (Nat.le_refl _) hWF
    rw [← hWF]
    clear hWF r0 r1 r2 r3 f0 f1 f2 f3
    have k0 := q1.cell 0 (v := .int .i64 c.conn) rfl
    have k1 := q1.cell 1 (v := .int .i64 c.need) rfl
    have k2 := q1.cell 2 (v := .slice (some ⟨gA, 0, none⟩) c.n k) rfl
    have k3 := q1.cell 3 (v := .slice (some ⟨gD, 0, none⟩) c.n m) rfl
    have kz := q1.lt
    refine bodyPost_ret (v := .tuple #[.agg #[.int .i64 c.conn, .int .i64 c.need, .slice (some ⟨gA, 0, none⟩) c.n k, .slice (some ⟨gD, 0, none⟩) c.n m], .slice none 0 0, .int .i64 2]) (by simp [results, Try.results26, go_sem, k0, k1, k2, k3, kz]) rfl ?_
    exact ⟨gA, k, gD, m, .slice none 0 0, rfl, q2, q3, q4, Fx.refl _ _ _⟩
  by_cases hdn : (c.n : Int) ≤ d
  · rw [recv_bad (by decide) (Or.inl (by simp [Ch.hasB]; omega))]
    have hdn2 : (c.n : Int) - 1 < d := by omega
    obtain ⟨W0, hW0, hX, hM⟩ := RX.startM h (4) (c.conn) (d)
    have HX := Kept.mk hX
    have HM := Kept.mk hM
    obtain ⟨k0, k1, k2, k3, r0, r1, r2, r3, fp, fq, zp, zq, zA, zD, st, -⟩ := hX.cells
    have p0 := fp 0
    have p1 := fp 1
    have p2 := fp 2
    have p3 := fp 3
    have f0 := fq 0
    have f1 := fq 1
    have f2 := fq 2
    have f3 := fq 3
    have m0 := hM.cell 0 (v := .int .i64 4) rfl
    have m1 := hM.cell 1 (v := .int .i64 c.conn) rfl
    have m2 := hM.cell 2 (v := .int .i64 d) rfl
    have mz := hM.lt
    clear hX hM h
    go_enter Try.func26, Try.ntmps26
    go_upto_region 1 with fail
    rw [← hW0]
    clear hW0
    go_wp2_with fail
    go_quiet (fail)
    obtain ⟨W1, hW1⟩ : ∃ W1, W1 = W0.drewN nq := ⟨_, rfl⟩
    have hb1 : Below W0.heap.size W0 W1 := by rw [hW1]; exact dN (Below.refl _ _) _
    have HX1 := Kept.mk (HX.out.new_ hb1)
    have HM1 := Kept.mk (HM.out.new_ hb1)
    rw [← hW1]
    clear hb1 hW1 k0 k1 k2 k3 r0 r1 r2 r3 fp fq zp zq zA zD st p0 p1 p2 p3 f0 f1 f2 f3 m0 m1 m2 mz
    obtain ⟨k0, k1, k2, k3, r0, r1, r2, r3, fp, fq, zp, zq, zA, zD, st, -⟩ := HX1.out.cells
    have p0 := fp 0
    have p1 := fp 1
    have p2 := fp 2
    have p3 := fp 3
    have f0 := fq 0
    have f1 := fq 1
    have f2 := fq 2
    have f3 := fq 3
    have m0 := HM1.out.cell 0 (v := .int .i64 4) rfl
    have m1 := HM1.out.cell 1 (v := .int .i64 c.conn) rfl
    have m2 := HM1.out.cell 2 (v := .int .i64 d) rfl
    have mz := HM1.out.lt
    go_wp2_with fail
    clear k0 k1 k2 k3
    obtain ⟨WF, hWF⟩ : ∃ WF, WF = ((((W1).setCell ⟨w.heap.size + 2, 0, none⟩ (.int .i64 c.conn)).setCell ⟨w.heap.size + 2, 1, none⟩ (.int .i64 c.need)).setCell ⟨w.heap.size + 2, 2, none⟩ (.slice (some ⟨gA, 0, none⟩) c.n k)).setCell ⟨w.heap.size + 2, 3, none⟩ (.slice (some ⟨gD, 0, none⟩) c.n m) := ⟨_, rfl⟩
    obtain ⟨q1, q2, q3, q4⟩ := RX.fin HX1.out.v HX1.out.rx HX1.out.bel HX1.out.q0 (World.ownsRow_nil _ w.heap.size 58 3) (Nat.le_refl _) hWF
    rw [← hWF]
    clear hWF r0 r1 r2 r3 f0 f1 f2 f3
    have k0 := q1.cell 0 (v := .int .i64 c.conn) rfl
    have k1 := q1.cell 1 (v := .int .i64 c.need) rfl
    have k2 := q1.cell 2 (v := .slice (some ⟨gA, 0, none⟩) c.n k) rfl
    have k3 := q1.cell 3 (v := .slice (some ⟨gD, 0, none⟩) c.n m) rfl
    have kz := q1.lt
    refine bodyPost_ret (v := .tuple #[.agg #[.int .i64 c.conn, .int .i64 c.need, .slice (some ⟨gA, 0, none⟩) c.n k, .slice (some ⟨gD, 0, none⟩) c.n m], .slice none 0 0, .int .i64 2]) (by simp [results, Try.results26, go_sem, k0, k1, k2, k3, kz]) rfl ?_
    exact ⟨gA, k, gD, m, .slice none 0 0, rfl, q2, q3, q4, Fx.refl _ _ _⟩
  obtain ⟨i, rfl⟩ : ∃ i : Nat, d = i := ⟨d.toNat, by omega⟩
  have hi : i < c.n := by omega
  have hil : (i : Int) ≤ (c.n : Int) - 1 := by omega
  by_cases he : i = 0
  · have he2 : ((i : Int) == 0) = true := by simp; omega
    rw [recv_bad (by decide) (Or.inr (by simp [Ch.hasB, fromP, wayP]; omega))]
    clear he
    obtain ⟨W0, hW0, hX, hM⟩ := RX.startM h (4) (c.conn) ((i : Int))
    have HX := Kept.mk hX
    have HM := Kept.mk hM
    obtain ⟨k0, k1, k2, k3, r0, r1, r2, r3, fp, fq, zp, zq, zA, zD, st, -⟩ := hX.cells
    have p0 := fp 0
    have p1 := fp 1
    have p2 := fp 2
    have p3 := fp 3
    have f0 := fq 0
    have f1 := fq 1
    have f2 := fq 2
    have f3 := fq 3
    have m0 := hM.cell 0 (v := .int .i64 4) rfl
    have m1 := hM.cell 1 (v := .int .i64 c.conn) rfl
    have m2 := hM.cell 2 (v := .int .i64 (i : Int)) rfl
    have mz := hM.lt
    clear hX hM h
    go_enter Try.func26, Try.ntmps26
    go_upto_region 1 with fail
    rw [← hW0]
    clear hW0
    go_wp2_with fail
    go_quiet (fail)
    obtain ⟨W1, hW1⟩ : ∃ W1, W1 = W0.drewN nq := ⟨_, rfl⟩
    have hb1 : Below W0.heap.size W0 W1 := by rw [hW1]; exact dN (Below.refl _ _) _
    have HX1 := Kept.mk (HX.out.new_ hb1)
    have HM1 := Kept.mk (HM.out.new_ hb1)
    rw [← hW1]
    clear hb1 hW1 k0 k1 k2 k3 r0 r1 r2 r3 fp fq zp zq zA zD st p0 p1 p2 p3 f0 f1 f2 f3 m0 m1 m2 mz
    obtain ⟨k0, k1, k2, k3, r0, r1, r2, r3, fp, fq, zp, zq, zA, zD, st, -⟩ := HX1.out.cells
    have p0 := fp 0
    have p1 := fp 1
    have p2 := fp 2
    have p3 := fp 3
    have f0 := fq 0
    have f1 := fq 1
    have f2 := fq 2
    have f3 := fq 3
    have m0 := HM1.out.cell 0 (v := .int .i64 4) rfl
    have m1 := HM1.out.cell 1 (v := .int .i64 c.conn) rfl
    have m2 := HM1.out.cell 2 (v := .int .i64 (i : Int)) rfl
    have mz := HM1.out.lt
    go_wp2_with fail
    clear k0 k1 k2 k3
    obtain ⟨WF, hWF⟩ : ∃ WF, WF = ((((W1).setCell ⟨w.heap.size + 2, 0, none⟩ (.int .i64 c.conn)).setCell ⟨w.heap.size + 2, 1, none⟩ (.int .i64 c.need)).setCell ⟨w.heap.size + 2, 2, none⟩ (.slice (some ⟨gA, 0, none⟩) c.n k)).setCell ⟨w.heap.size + 2, 3, none⟩ (.slice (some ⟨gD, 0, none⟩) c.n m) := ⟨_, rfl⟩
    obtain ⟨q1, q2, q3, q4⟩ := RX.fin HX1.out.v HX1.out.rx HX1.out.bel HX1.out.q0 (World.ownsRow_nil _ w.heap.size 58 3) (Nat.le_refl _) hWF
    rw [← hWF]
    clear hWF r0 r1 r2 r3 f0 f1 f2 f3
    have k0 := q1.cell 0 (v := .int .i64 c.conn) rfl
    have k1 := q1.cell 1 (v := .int .i64 c.need) rfl
    have k2 := q1.cell 2 (v := .slice (some ⟨gA, 0, none⟩) c.n k) rfl
    have k3 := q1.cell 3 (v := .slice (some ⟨gD, 0, none⟩) c.n m) rfl
    have kz := q1.lt
    refine bodyPost_ret (v := .tuple #[.agg #[.int .i64 c.conn, .int .i64 c.need, .slice (some ⟨gA, 0, none⟩) c.n k, .slice (some ⟨gD, 0, none⟩) c.n m], .slice none 0 0, .int .i64 2]) (by simp [results, Try.results26, go_sem, k0, k1, k2, k3, kz]) rfl ?_
    exact ⟨gA, k, gD, m, .slice none 0 0, rfl, q2, q3, q4, Fx.refl _ _ _⟩
  have he1 : ((i : Int) == 0) = false := by simp; omega
  have hf : c.hasB (fromP ⟨4, c.conn, i⟩) = true := by simp [Ch.hasB, fromP, wayP]; omega
  have hs5 := h.ok.st i hi
  obtain ⟨s, hs⟩ : ∃ s, c.st i = s := ⟨_, rfl⟩
  rw [hs] at hs5
  have HS := Kept.mk hs
  rw [recv_ok (by decide) hi hf]
  clear hf he
  obtain ⟨W0, hW0, hX, hM⟩ := RX.startM h (4) (c.conn) ((i : Int))
  have HX := Kept.mk hX
  have HM := Kept.mk hM
  obtain ⟨k0, k1, k2, k3, r0, r1, r2, r3, fp, fq, zp, zq, zA, zD, st, -⟩ := hX.cells
  have p0 := fp 0
  have p1 := fp 1
  have p2 := fp 2
  have p3 := fp 3
  have f0 := fq 0
  have f1 := fq 1
  have f2 := fq 2
  have f3 := fq 3
  have m0 := hM.cell 0 (v := .int .i64 4) rfl
  have m1 := hM.cell 1 (v := .int .i64 c.conn) rfl
  have m2 := hM.cell 2 (v := .int .i64 (i : Int)) rfl
  have mz := hM.lt
  clear hX hM h
  have s0 := st i hi
  rw [hs] at s0
  clear hs
  have hsc : s = 0 ∨ s = 1 ∨ s = 2 ∨ s = 3 ∨ s = 4 ∨ s = 5 := by omega
  rcases hsc with rfl | rfl | rfl | rfl | rfl | rfl
  · have HT : Kept (ruleP c ⟨4, c.conn, i⟩ = (c.put i 5, sendP c 5 ((i : Int) - 1))) := ⟨by simp [ruleP, openP, closeP, turnP, opensP, shutP, HS.out]⟩
    rw [HT.out]
    go_enter Try.func26, Try.ntmps26
    go_upto_region 1 with fail
    rw [← hW0]
    clear hW0
    go_wp2_with fail
    go_quiet (fail)
    obtain ⟨W1, hW1⟩ : ∃ W1, W1 = W0.drewN nq := ⟨_, rfl⟩
    have hb1 : Below W0.heap.size W0 W1 := by rw [hW1]; exact dN (Below.refl _ _) _
    have HX1 := Kept.mk (HX.out.new_ hb1)
    have HM1 := Kept.mk (HM.out.new_ hb1)
    rw [← hW1]
    clear hb1 hW1 s0 k0 k1 k2 k3 r0 r1 r2 r3 fp fq zp zq zA zD st p0 p1 p2 p3 f0 f1 f2 f3 m0 m1 m2 mz
    obtain ⟨k0, k1, k2, k3, r0, r1, r2, r3, fp, fq, zp, zq, zA, zD, st, -⟩ := HX1.out.cells
    have p0 := fp 0
    have p1 := fp 1
    have p2 := fp 2
    have p3 := fp 3
    have f0 := fq 0
    have f1 := fq 1
    have f2 := fq 2
    have f3 := fq 3
    have m0 := HM1.out.cell 0 (v := .int .i64 4) rfl
    have m1 := HM1.out.cell 1 (v := .int .i64 c.conn) rfl
    have m2 := HM1.out.cell 2 (v := .int .i64 (i : Int)) rfl
    have mz := HM1.out.lt
    have s0 := st i hi
    rw [HS.out] at s0
    clear st
    have st : True := trivial
    go_wp2_with (go_at_call 40; refine (set_x (i := i) 5 5 ((i : Int) - 1) i rfl HX1.out.v hi (by omega) (by omega)).mono ?_; rintro e w2 ⟨gA2, kk2, gD2, mm2, v2, rfl, hr2, ho2, hb2, hf2⟩; have F2 := Kept.mk (hf2.of (w := w) HX1.out.bel.size); clear hf2; have X2 := HX1.out.new_ hb2; clear k0 k1 k2 k3 r0 r1 r2 r3 fp fq zp zq zA zD st p0 p1 p2 p3 f0 f1 f2 f3 m0 m1 m2 mz; obtain ⟨k0, k1, k2, k3, r0, r1, r2, r3, fp, fq, zp, zq, -, -, -, -⟩ := X2.cells; have p0 := fp 0; have p1 := fp 1; have p2 := fp 2; have p3 := fp 3; have f0 := fq 0; have f1 := fq 1; have f2 := fq 2; have f3 := fq 3; have B2 := Kept.mk hb2; have R2 := Kept.mk hr2; have O2 := Kept.mk ho2; have hz2 := hb2.size; clear X2 hr2 ho2 hb2 fp fq)
    try dsimp only
    generalize sendP c 5 ((i : Int) - 1) = ms at *
    generalize c.put i 5 = c2 at *
    obtain ⟨WP, hWP⟩ : ∃ WP, WP = ((((w2).setCell ⟨w.heap.size, 0, none⟩ (.int .i64 c2.conn)).setCell ⟨w.heap.size, 1, none⟩ (.int .i64 c2.need)).setCell ⟨w.heap.size, 2, none⟩ (.slice (some ⟨gA2, 0, none⟩) c2.n kk2)).setCell ⟨w.heap.size, 3, none⟩ (.slice (some ⟨gD2, 0, none⟩) c2.n mm2) := ⟨_, rfl⟩
    obtain ⟨hX3, hO3⟩ := RX.put HX1.out B2.out R2.out O2.out HX1.out.bel.size hWP
    rw [← hWP]
    clear hWP k0 k1 k2 k3 p0 p1 p2 p3
    obtain ⟨WF, hWF⟩ : ∃ WF, WF = ((((WP).setCell ⟨w.heap.size + 2, 0, none⟩ (.int .i64 c2.conn)).setCell ⟨w.heap.size + 2, 1, none⟩ (.int .i64 c2.need)).setCell ⟨w.heap.size + 2, 2, none⟩ (.slice (some ⟨gA2, 0, none⟩) c2.n kk2)).setCell ⟨w.heap.size + 2, 3, none⟩ (.slice (some ⟨gD2, 0, none⟩) c2.n mm2) := ⟨_, rfl⟩
    obtain ⟨q1, q2, q3, q4⟩ := RX.fin hX3.v hX3.rx hX3.bel hX3.q0 hO3 (Nat.le_refl _) hWF
    rw [← hWF]
    clear hWF r0 r1 r2 r3 f0 f1 f2 f3
    have k0 := q1.cell 0 (v := .int .i64 c2.conn) rfl
    have k1 := q1.cell 1 (v := .int .i64 c2.need) rfl
    have k2 := q1.cell 2 (v := .slice (some ⟨gA2, 0, none⟩) c2.n kk2) rfl
    have k3 := q1.cell 3 (v := .slice (some ⟨gD2, 0, none⟩) c2.n mm2) rfl
    have kz := q1.lt
    refine bodyPost_ret (v := .tuple #[.agg #[.int .i64 c2.conn, .int .i64 c2.need, .slice (some ⟨gA2, 0, none⟩) c2.n kk2, .slice (some ⟨gD2, 0, none⟩) c2.n mm2], v2, .int .i64 0]) (by simp [results, Try.results26, go_sem, k0, k1, k2, k3, kz]) rfl ?_
    exact ⟨gA2, kk2, gD2, mm2, v2, rfl, q2, q3, q4, F2.out⟩
  · have HT : Kept (ruleP c ⟨4, c.conn, i⟩ = shutP c i) := ⟨by simp [ruleP, openP, closeP, turnP, opensP, shutP, HS.out]⟩
    rw [HT.out]
    go_enter Try.func26, Try.ntmps26
    go_upto_region 1 with fail
    rw [← hW0]
    clear hW0
    go_wp2_with fail
    go_quiet (fail)
    obtain ⟨W1, hW1⟩ : ∃ W1, W1 = W0.drewN nq := ⟨_, rfl⟩
    have hb1 : Below W0.heap.size W0 W1 := by rw [hW1]; exact dN (Below.refl _ _) _
    have HX1 := Kept.mk (HX.out.new_ hb1)
    have HM1 := Kept.mk (HM.out.new_ hb1)
    rw [← hW1]
    clear hb1 hW1 s0 k0 k1 k2 k3 r0 r1 r2 r3 fp fq zp zq zA zD st p0 p1 p2 p3 f0 f1 f2 f3 m0 m1 m2 mz
    obtain ⟨k0, k1, k2, k3, r0, r1, r2, r3, fp, fq, zp, zq, zA, zD, st, -⟩ := HX1.out.cells
    have p0 := fp 0
    have p1 := fp 1
    have p2 := fp 2
    have p3 := fp 3
    have f0 := fq 0
    have f1 := fq 1
    have f2 := fq 2
    have f3 := fq 3
    have m0 := HM1.out.cell 0 (v := .int .i64 4) rfl
    have m1 := HM1.out.cell 1 (v := .int .i64 c.conn) rfl
    have m2 := HM1.out.cell 2 (v := .int .i64 (i : Int)) rfl
    have mz := HM1.out.lt
    have s0 := st i hi
    rw [HS.out] at s0
    clear st
    have st : True := trivial
    go_wp2_with (go_at_call 41; refine (shut_x (i := i) i rfl HX1.out.v hi).mono ?_; rintro e w2 ⟨gA2, kk2, gD2, mm2, v2, rfl, hr2, ho2, hb2, hf2⟩; have F2 := Kept.mk (hf2.of (w := w) HX1.out.bel.size); clear hf2; have X2 := HX1.out.new_ hb2; clear k0 k1 k2 k3 r0 r1 r2 r3 fp fq zp zq zA zD st p0 p1 p2 p3 f0 f1 f2 f3 m0 m1 m2 mz; obtain ⟨k0, k1, k2, k3, r0, r1, r2, r3, fp, fq, zp, zq, -, -, -, -⟩ := X2.cells; have p0 := fp 0; have p1 := fp 1; have p2 := fp 2; have p3 := fp 3; have f0 := fq 0; have f1 := fq 1; have f2 := fq 2; have f3 := fq 3; have B2 := Kept.mk hb2; have R2 := Kept.mk hr2; have O2 := Kept.mk ho2; have hz2 := hb2.size; clear X2 hr2 ho2 hb2 fp fq)
    generalize (shutP c i).2 = ms at *
    generalize (shutP c i).1 = c2 at *
    obtain ⟨WP, hWP⟩ : ∃ WP, WP = ((((w2).setCell ⟨w.heap.size, 0, none⟩ (.int .i64 c2.conn)).setCell ⟨w.heap.size, 1, none⟩ (.int .i64 c2.need)).setCell ⟨w.heap.size, 2, none⟩ (.slice (some ⟨gA2, 0, none⟩) c2.n kk2)).setCell ⟨w.heap.size, 3, none⟩ (.slice (some ⟨gD2, 0, none⟩) c2.n mm2) := ⟨_, rfl⟩
    obtain ⟨hX3, hO3⟩ := RX.put HX1.out B2.out R2.out O2.out HX1.out.bel.size hWP
    rw [← hWP]
    clear hWP k0 k1 k2 k3 p0 p1 p2 p3
    obtain ⟨WF, hWF⟩ : ∃ WF, WF = ((((WP).setCell ⟨w.heap.size + 2, 0, none⟩ (.int .i64 c2.conn)).setCell ⟨w.heap.size + 2, 1, none⟩ (.int .i64 c2.need)).setCell ⟨w.heap.size + 2, 2, none⟩ (.slice (some ⟨gA2, 0, none⟩) c2.n kk2)).setCell ⟨w.heap.size + 2, 3, none⟩ (.slice (some ⟨gD2, 0, none⟩) c2.n mm2) := ⟨_, rfl⟩
    obtain ⟨q1, q2, q3, q4⟩ := RX.fin hX3.v hX3.rx hX3.bel hX3.q0 hO3 (Nat.le_refl _) hWF
    rw [← hWF]
    clear hWF r0 r1 r2 r3 f0 f1 f2 f3
    have k0 := q1.cell 0 (v := .int .i64 c2.conn) rfl
    have k1 := q1.cell 1 (v := .int .i64 c2.need) rfl
    have k2 := q1.cell 2 (v := .slice (some ⟨gA2, 0, none⟩) c2.n kk2) rfl
    have k3 := q1.cell 3 (v := .slice (some ⟨gD2, 0, none⟩) c2.n mm2) rfl
    have kz := q1.lt
    refine bodyPost_ret (v := .tuple #[.agg #[.int .i64 c2.conn, .int .i64 c2.need, .slice (some ⟨gA2, 0, none⟩) c2.n kk2, .slice (some ⟨gD2, 0, none⟩) c2.n mm2], v2, .int .i64 0]) (by simp [results, Try.results26, go_sem, k0, k1, k2, k3, kz]) rfl ?_
    exact ⟨gA2, kk2, gD2, mm2, v2, rfl, q2, q3, q4, F2.out⟩
  · have HT : Kept (ruleP c ⟨4, c.conn, i⟩ = shutP c i) := ⟨by simp [ruleP, openP, closeP, turnP, opensP, shutP, HS.out]⟩
    rw [HT.out]
    go_enter Try.func26, Try.ntmps26
    go_upto_region 1 with fail
    rw [← hW0]
    clear hW0
    go_wp2_with fail
    go_quiet (fail)
    obtain ⟨W1, hW1⟩ : ∃ W1, W1 = W0.drewN nq := ⟨_, rfl⟩
    have hb1 : Below W0.heap.size W0 W1 := by rw [hW1]; exact dN (Below.refl _ _) _
    have HX1 := Kept.mk (HX.out.new_ hb1)
    have HM1 := Kept.mk (HM.out.new_ hb1)
    rw [← hW1]
    clear hb1 hW1 s0 k0 k1 k2 k3 r0 r1 r2 r3 fp fq zp zq zA zD st p0 p1 p2 p3 f0 f1 f2 f3 m0 m1 m2 mz
    obtain ⟨k0, k1, k2, k3, r0, r1, r2, r3, fp, fq, zp, zq, zA, zD, st, -⟩ := HX1.out.cells
    have p0 := fp 0
    have p1 := fp 1
    have p2 := fp 2
    have p3 := fp 3
    have f0 := fq 0
    have f1 := fq 1
    have f2 := fq 2
    have f3 := fq 3
    have m0 := HM1.out.cell 0 (v := .int .i64 4) rfl
    have m1 := HM1.out.cell 1 (v := .int .i64 c.conn) rfl
    have m2 := HM1.out.cell 2 (v := .int .i64 (i : Int)) rfl
    have mz := HM1.out.lt
    have s0 := st i hi
    rw [HS.out] at s0
    clear st
    have st : True := trivial
    go_wp2_with (go_at_call 41; refine (shut_x (i := i) i rfl HX1.out.v hi).mono ?_; rintro e w2 ⟨gA2, kk2, gD2, mm2, v2, rfl, hr2, ho2, hb2, hf2⟩; have F2 := Kept.mk (hf2.of (w := w) HX1.out.bel.size); clear hf2; have X2 := HX1.out.new_ hb2; clear k0 k1 k2 k3 r0 r1 r2 r3 fp fq zp zq zA zD st p0 p1 p2 p3 f0 f1 f2 f3 m0 m1 m2 mz; obtain ⟨k0, k1, k2, k3, r0, r1, r2, r3, fp, fq, zp, zq, -, -, -, -⟩ := X2.cells; have p0 := fp 0; have p1 := fp 1; have p2 := fp 2; have p3 := fp 3; have f0 := fq 0; have f1 := fq 1; have f2 := fq 2; have f3 := fq 3; have B2 := Kept.mk hb2; have R2 := Kept.mk hr2; have O2 := Kept.mk ho2; have hz2 := hb2.size; clear X2 hr2 ho2 hb2 fp fq)
    generalize (shutP c i).2 = ms at *
    generalize (shutP c i).1 = c2 at *
    obtain ⟨WP, hWP⟩ : ∃ WP, WP = ((((w2).setCell ⟨w.heap.size, 0, none⟩ (.int .i64 c2.conn)).setCell ⟨w.heap.size, 1, none⟩ (.int .i64 c2.need)).setCell ⟨w.heap.size, 2, none⟩ (.slice (some ⟨gA2, 0, none⟩) c2.n kk2)).setCell ⟨w.heap.size, 3, none⟩ (.slice (some ⟨gD2, 0, none⟩) c2.n mm2) := ⟨_, rfl⟩
    obtain ⟨hX3, hO3⟩ := RX.put HX1.out B2.out R2.out O2.out HX1.out.bel.size hWP
    rw [← hWP]
    clear hWP k0 k1 k2 k3 p0 p1 p2 p3
    obtain ⟨WF, hWF⟩ : ∃ WF, WF = ((((WP).setCell ⟨w.heap.size + 2, 0, none⟩ (.int .i64 c2.conn)).setCell ⟨w.heap.size + 2, 1, none⟩ (.int .i64 c2.need)).setCell ⟨w.heap.size + 2, 2, none⟩ (.slice (some ⟨gA2, 0, none⟩) c2.n kk2)).setCell ⟨w.heap.size + 2, 3, none⟩ (.slice (some ⟨gD2, 0, none⟩) c2.n mm2) := ⟨_, rfl⟩
    obtain ⟨q1, q2, q3, q4⟩ := RX.fin hX3.v hX3.rx hX3.bel hX3.q0 hO3 (Nat.le_refl _) hWF
    rw [← hWF]
    clear hWF r0 r1 r2 r3 f0 f1 f2 f3
    have k0 := q1.cell 0 (v := .int .i64 c2.conn) rfl
    have k1 := q1.cell 1 (v := .int .i64 c2.need) rfl
    have k2 := q1.cell 2 (v := .slice (some ⟨gA2, 0, none⟩) c2.n kk2) rfl
    have k3 := q1.cell 3 (v := .slice (some ⟨gD2, 0, none⟩) c2.n mm2) rfl
    have kz := q1.lt
    refine bodyPost_ret (v := .tuple #[.agg #[.int .i64 c2.conn, .int .i64 c2.need, .slice (some ⟨gA2, 0, none⟩) c2.n kk2, .slice (some ⟨gD2, 0, none⟩) c2.n mm2], v2, .int .i64 0]) (by simp [results, Try.results26, go_sem, k0, k1, k2, k3, kz]) rfl ?_
    exact ⟨gA2, kk2, gD2, mm2, v2, rfl, q2, q3, q4, F2.out⟩
  · have HT : Kept (ruleP c ⟨4, c.conn, i⟩ = (c.put i 3, sendP c 5 ((i : Int) - 1))) := ⟨by have hp := put_st_same c hi; rw [HS.out] at hp; rw [hp]; simp [ruleP, openP, closeP, turnP, HS.out]⟩
    rw [HT.out]
    go_enter Try.func26, Try.ntmps26
    go_upto_region 1 with fail
    rw [← hW0]
    clear hW0
    go_wp2_with fail
    go_quiet (fail)
    obtain ⟨W1, hW1⟩ : ∃ W1, W1 = W0.drewN nq := ⟨_, rfl⟩
    have hb1 : Below W0.heap.size W0 W1 := by rw [hW1]; exact dN (Below.refl _ _) _
    have HX1 := Kept.mk (HX.out.new_ hb1)
    have HM1 := Kept.mk (HM.out.new_ hb1)
    rw [← hW1]
    clear hb1 hW1 s0 k0 k1 k2 k3 r0 r1 r2 r3 fp fq zp zq zA zD st p0 p1 p2 p3 f0 f1 f2 f3 m0 m1 m2 mz
    obtain ⟨k0, k1, k2, k3, r0, r1, r2, r3, fp, fq, zp, zq, zA, zD, st, -⟩ := HX1.out.cells
    have p0 := fp 0
    have p1 := fp 1
    have p2 := fp 2
    have p3 := fp 3
    have f0 := fq 0
    have f1 := fq 1
    have f2 := fq 2
    have f3 := fq 3
    have m0 := HM1.out.cell 0 (v := .int .i64 4) rfl
    have m1 := HM1.out.cell 1 (v := .int .i64 c.conn) rfl
    have m2 := HM1.out.cell 2 (v := .int .i64 (i : Int)) rfl
    have mz := HM1.out.lt
    have s0 := st i hi
    rw [HS.out] at s0
    clear st
    have st : True := trivial
    go_wp2_with (go_at_call 40; refine (set_x (i := i) 3 5 ((i : Int) - 1) i rfl HX1.out.v hi (by omega) (by omega)).mono ?_; rintro e w2 ⟨gA2, kk2, gD2, mm2, v2, rfl, hr2, ho2, hb2, hf2⟩; have F2 := Kept.mk (hf2.of (w := w) HX1.out.bel.size); clear hf2; have X2 := HX1.out.new_ hb2; clear k0 k1 k2 k3 r0 r1 r2 r3 fp fq zp zq zA zD st p0 p1 p2 p3 f0 f1 f2 f3 m0 m1 m2 mz; obtain ⟨k0, k1, k2, k3, r0, r1, r2, r3, fp, fq, zp, zq, -, -, -, -⟩ := X2.cells; have p0 := fp 0; have p1 := fp 1; have p2 := fp 2; have p3 := fp 3; have f0 := fq 0; have f1 := fq 1; have f2 := fq 2; have f3 := fq 3; have B2 := Kept.mk hb2; have R2 := Kept.mk hr2; have O2 := Kept.mk ho2; have hz2 := hb2.size; clear X2 hr2 ho2 hb2 fp fq)
    try dsimp only
    generalize sendP c 5 ((i : Int) - 1) = ms at *
    generalize c.put i 3 = c2 at *
    obtain ⟨WP, hWP⟩ : ∃ WP, WP = ((((w2).setCell ⟨w.heap.size, 0, none⟩ (.int .i64 c2.conn)).setCell ⟨w.heap.size, 1, none⟩ (.int .i64 c2.need)).setCell ⟨w.heap.size, 2, none⟩ (.slice (some ⟨gA2, 0, none⟩) c2.n kk2)).setCell ⟨w.heap.size, 3, none⟩ (.slice (some ⟨gD2, 0, none⟩) c2.n mm2) := ⟨_, rfl⟩
    obtain ⟨hX3, hO3⟩ := RX.put HX1.out B2.out R2.out O2.out HX1.out.bel.size hWP
    rw [← hWP]
    clear hWP k0 k1 k2 k3 p0 p1 p2 p3
    obtain ⟨WF, hWF⟩ : ∃ WF, WF = ((((WP).setCell ⟨w.heap.size + 2, 0, none⟩ (.int .i64 c2.conn)).setCell ⟨w.heap.size + 2, 1, none⟩ (.int .i64 c2.need)).setCell ⟨w.heap.size + 2, 2, none⟩ (.slice (some ⟨gA2, 0, none⟩) c2.n kk2)).setCell ⟨w.heap.size + 2, 3, none⟩ (.slice (some ⟨gD2, 0, none⟩) c2.n mm2) := ⟨_, rfl⟩
    obtain ⟨q1, q2, q3, q4⟩ := RX.fin hX3.v hX3.rx hX3.bel hX3.q0 hO3 (Nat.le_refl _) hWF
    rw [← hWF]
    clear hWF r0 r1 r2 r3 f0 f1 f2 f3
    have k0 := q1.cell 0 (v := .int .i64 c2.conn) rfl
    have k1 := q1.cell 1 (v := .int .i64 c2.need) rfl
    have k2 := q1.cell 2 (v := .slice (some ⟨gA2, 0, none⟩) c2.n kk2) rfl
    have k3 := q1.cell 3 (v := .slice (some ⟨gD2, 0, none⟩) c2.n mm2) rfl
    have kz := q1.lt
    refine bodyPost_ret (v := .tuple #[.agg #[.int .i64 c2.conn, .int .i64 c2.need, .slice (some ⟨gA2, 0, none⟩) c2.n kk2, .slice (some ⟨gD2, 0, none⟩) c2.n mm2], v2, .int .i64 0]) (by simp [results, Try.results26, go_sem, k0, k1, k2, k3, kz]) rfl ?_
    exact ⟨gA2, kk2, gD2, mm2, v2, rfl, q2, q3, q4, F2.out⟩
  · have HT : Kept (ruleP c ⟨4, c.conn, i⟩ = (c, [])) := ⟨by simp [ruleP, openP, closeP, turnP, opensP, shutP, HS.out]⟩
    rw [HT.out]
    go_enter Try.func26, Try.ntmps26
    go_upto_region 1 with fail
    rw [← hW0]
    clear hW0
    go_wp2_with fail
    go_quiet (fail)
    obtain ⟨W1, hW1⟩ : ∃ W1, W1 = W0.drewN nq := ⟨_, rfl⟩
    have hb1 : Below W0.heap.size W0 W1 := by rw [hW1]; exact dN (Below.refl _ _) _
    have HX1 := Kept.mk (HX.out.new_ hb1)
    have HM1 := Kept.mk (HM.out.new_ hb1)
    rw [← hW1]
    clear hb1 hW1 s0 k0 k1 k2 k3 r0 r1 r2 r3 fp fq zp zq zA zD st p0 p1 p2 p3 f0 f1 f2 f3 m0 m1 m2 mz
    obtain ⟨k0, k1, k2, k3, r0, r1, r2, r3, fp, fq, zp, zq, zA, zD, st, -⟩ := HX1.out.cells
    have p0 := fp 0
    have p1 := fp 1
    have p2 := fp 2
    have p3 := fp 3
    have f0 := fq 0
    have f1 := fq 1
    have f2 := fq 2
    have f3 := fq 3
    have m0 := HM1.out.cell 0 (v := .int .i64 4) rfl
    have m1 := HM1.out.cell 1 (v := .int .i64 c.conn) rfl
    have m2 := HM1.out.cell 2 (v := .int .i64 (i : Int)) rfl
    have mz := HM1.out.lt
    have s0 := st i hi
    rw [HS.out] at s0
    clear st
    have st : True := trivial
    go_wp2_with fail
    clear k0 k1 k2 k3
    obtain ⟨WF, hWF⟩ : ∃ WF, WF = ((((W1).setCell ⟨w.heap.size + 2, 0, none⟩ (.int .i64 c.conn)).setCell ⟨w.heap.size + 2, 1, none⟩ (.int .i64 c.need)).setCell ⟨w.heap.size + 2, 2, none⟩ (.slice (some ⟨gA, 0, none⟩) c.n k)).setCell ⟨w.heap.size + 2, 3, none⟩ (.slice (some ⟨gD, 0, none⟩) c.n m) := ⟨_, rfl⟩
    obtain ⟨q1, q2, q3, q4⟩ := RX.fin HX1.out.v HX1.out.rx HX1.out.bel HX1.out.q0 (World.ownsRow_nil _ w.heap.size 58 3) (Nat.le_refl _) hWF
    rw [← hWF]
    clear hWF r0 r1 r2 r3 f0 f1 f2 f3
    have k0 := q1.cell 0 (v := .int .i64 c.conn) rfl
    have k1 := q1.cell 1 (v := .int .i64 c.need) rfl
    have k2 := q1.cell 2 (v := .slice (some ⟨gA, 0, none⟩) c.n k) rfl
    have k3 := q1.cell 3 (v := .slice (some ⟨gD, 0, none⟩) c.n m) rfl
    have kz := q1.lt
    refine bodyPost_ret (v := .tuple #[.agg #[.int .i64 c.conn, .int .i64 c.need, .slice (some ⟨gA, 0, none⟩) c.n k, .slice (some ⟨gD, 0, none⟩) c.n m], .slice none 0 0, .int .i64 0]) (by simp [results, Try.results26, go_sem, k0, k1, k2, k3, kz]) rfl ?_
    exact ⟨gA, k, gD, m, .slice none 0 0, rfl, q2, q3, q4, Fx.refl _ _ _⟩
  · have HT : Kept (ruleP c ⟨4, c.conn, i⟩ = (c.put i 5, sendP c 5 ((i : Int) - 1))) := ⟨by have hp := put_st_same c hi; rw [HS.out] at hp; rw [hp]; simp [ruleP, openP, closeP, turnP, HS.out]⟩
    rw [HT.out]
    go_enter Try.func26, Try.ntmps26
    go_upto_region 1 with fail
    rw [← hW0]
    clear hW0
    go_wp2_with fail
    go_quiet (fail)
    obtain ⟨W1, hW1⟩ : ∃ W1, W1 = W0.drewN nq := ⟨_, rfl⟩
    have hb1 : Below W0.heap.size W0 W1 := by rw [hW1]; exact dN (Below.refl _ _) _
    have HX1 := Kept.mk (HX.out.new_ hb1)
    have HM1 := Kept.mk (HM.out.new_ hb1)
    rw [← hW1]
    clear hb1 hW1 s0 k0 k1 k2 k3 r0 r1 r2 r3 fp fq zp zq zA zD st p0 p1 p2 p3 f0 f1 f2 f3 m0 m1 m2 mz
    obtain ⟨k0, k1, k2, k3, r0, r1, r2, r3, fp, fq, zp, zq, zA, zD, st, -⟩ := HX1.out.cells
    have p0 := fp 0
    have p1 := fp 1
    have p2 := fp 2
    have p3 := fp 3
    have f0 := fq 0
    have f1 := fq 1
    have f2 := fq 2
    have f3 := fq 3
    have m0 := HM1.out.cell 0 (v := .int .i64 4) rfl
    have m1 := HM1.out.cell 1 (v := .int .i64 c.conn) rfl
    have m2 := HM1.out.cell 2 (v := .int .i64 (i : Int)) rfl
    have mz := HM1.out.lt
    have s0 := st i hi
    rw [HS.out] at s0
    clear st
    have st : True := trivial
    go_wp2_with (go_at_call 40; refine (set_x (i := i) 5 5 ((i : Int) - 1) i rfl HX1.out.v hi (by omega) (by omega)).mono ?_; rintro e w2 ⟨gA2, kk2, gD2, mm2, v2, rfl, hr2, ho2, hb2, hf2⟩; have F2 := Kept.mk (hf2.of (w := w) HX1.out.bel.size); clear hf2; have X2 := HX1.out.new_ hb2; clear k0 k1 k2 k3 r0 r1 r2 r3 fp fq zp zq zA zD st p0 p1 p2 p3 f0 f1 f2 f3 m0 m1 m2 mz; obtain ⟨k0, k1, k2, k3, r0, r1, r2, r3, fp, fq, zp, zq, -, -, -, -⟩ := X2.cells; have p0 := fp 0; have p1 := fp 1; have p2 := fp 2; have p3 := fp 3; have f0 := fq 0; have f1 := fq 1; have f2 := fq 2; have f3 := fq 3; have B2 := Kept.mk hb2; have R2 := Kept.mk hr2; have O2 := Kept.mk ho2; have hz2 := hb2.size; clear X2 hr2 ho2 hb2 fp fq)
    try dsimp only
    generalize sendP c 5 ((i : Int) - 1) = ms at *
    generalize c.put i 5 = c2 at *
    obtain ⟨WP, hWP⟩ : ∃ WP, WP = ((((w2).setCell ⟨w.heap.size, 0, none⟩ (.int .i64 c2.conn)).setCell ⟨w.heap.size, 1, none⟩ (.int .i64 c2.need)).setCell ⟨w.heap.size, 2, none⟩ (.slice (some ⟨gA2, 0, none⟩) c2.n kk2)).setCell ⟨w.heap.size, 3, none⟩ (.slice (some ⟨gD2, 0, none⟩) c2.n mm2) := ⟨_, rfl⟩
    obtain ⟨hX3, hO3⟩ := RX.put HX1.out B2.out R2.out O2.out HX1.out.bel.size hWP
    rw [← hWP]
    clear hWP k0 k1 k2 k3 p0 p1 p2 p3
    obtain ⟨WF, hWF⟩ : ∃ WF, WF = ((((WP).setCell ⟨w.heap.size + 2, 0, none⟩ (.int .i64 c2.conn)).setCell ⟨w.heap.size + 2, 1, none⟩ (.int .i64 c2.need)).setCell ⟨w.heap.size + 2, 2, none⟩ (.slice (some ⟨gA2, 0, none⟩) c2.n kk2)).setCell ⟨w.heap.size + 2, 3, none⟩ (.slice (some ⟨gD2, 0, none⟩) c2.n mm2) := ⟨_, rfl⟩
    obtain ⟨q1, q2, q3, q4⟩ := RX.fin hX3.v hX3.rx hX3.bel hX3.q0 hO3 (Nat.le_refl _) hWF
    rw [← hWF]
    clear hWF r0 r1 r2 r3 f0 f1 f2 f3
    have k0 := q1.cell 0 (v := .int .i64 c2.conn) rfl
    have k1 := q1.cell 1 (v := .int .i64 c2.need) rfl
    have k2 := q1.cell 2 (v := .slice (some ⟨gA2, 0, none⟩) c2.n kk2) rfl
    have k3 := q1.cell 3 (v := .slice (some ⟨gD2, 0, none⟩) c2.n mm2) rfl
    have kz := q1.lt
    refine bodyPost_ret (v := .tuple #[.agg #[.int .i64 c2.conn, .int .i64 c2.need, .slice (some ⟨gA2, 0, none⟩) c2.n kk2, .slice (some ⟨gD2, 0, none⟩) c2.n mm2], v2, .int .i64 0]) (by simp [results, Try.results26, go_sem, k0, k1, k2, k3, kz]) rfl ?_
    exact ⟨gA2, kk2, gD2, mm2, v2, rfl, q2, q3, q4, F2.out⟩
end
end Go.Proofs.Ytnmgnggchgckoaa
