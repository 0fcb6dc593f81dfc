/- Setup: the reference's Stop and Start (printed by gen_ref2.py). -/
import Derived.Test.YtnmgnggchgckoaaRefE
namespace Go.Proofs.Ytnmgnggchgckoaa
set_option linter.unusedVariables false
set_option linter.unusedSimpArgs false
open Go.RowKit
theorem RX.start' {w : World} {c : Ch} {gA k gD m : Nat} (h : RefV w c (at4 gA k gD m)) : ∃ W, W = ((w.alloc (.cells #[.int .i64 c.conn, .int .i64 c.need, .slice (some ⟨gA, 0, none⟩) c.n k, .slice (some ⟨gD, 0, none⟩) c.n m] 51)).alloc (.cells #[.int .i64 0, .int .i64 0, .slice none 0 0, .slice none 0 0] 51)) ∧ RX w c gA k gD m w.heap.size (w.heap.size + 1) W := ⟨_, rfl, RX.start h⟩
section
variable {c : Ch} {gA k gD m : Nat} {w : World}
set_option maxHeartbeats 4000000 in
theorem rstop_c (h : RefV w c (at4 gA k gD m)) :
    Calls Try.prog 27 #[.agg #[.int .i64 c.conn, .int .i64 c.need, .slice (some ⟨gA, 0, none⟩) c.n k, .slice (some ⟨gD, 0, none⟩) c.n m]] w (RRx w gA gD (stopP c)) := by
  have hn := h.ok.n2
  have hn1 := h.ok.n1
  have hs5 := h.ok.st 0 (by omega)
  obtain ⟨W0, hW0, hX⟩ := RX.start' h
  have HX := Kept.mk hX
  obtain ⟨k0, k1, k2, k3, r0, r1, r2, r3, fp, fq, zp, zq, zA, zD, st, -⟩ := hX.cells
  have s0 := st 0 (by omega)
  have f0 := fq 0
  have f1 := fq 1
  have f2 := fq 2
  have f3 := fq 3
  obtain ⟨s, hs⟩ : ∃ s, c.st 0 = s := ⟨_, rfl⟩
  rw [hs] at s0 hs5
  clear fp fq st hX h
  have hsc : s = 0 ∨ s = 1 ∨ s = 2 ∨ s = 3 ∨ s = 4 ∨ s = 5 := by omega
  rcases hsc with rfl | rfl | rfl | rfl | rfl | rfl
  rotate_left
  iterate 2
    · have HT : Kept (stopP c = ((shutP c 0).1, (shutP c 0).2, 0)) := ⟨by unfold stopP closeP shutP; rw [hs]; simp⟩
      rw [HT.out]
      clear hs
      go_enter Try.func27, Try.ntmps27
      go_upto_region 1 with fail
      rw [← hW0]
      clear hW0
      go_wp2_with (go_at_call 41; refine (shut_x (i := 0) 0 rfl HX.out.v (by omega)).mono ?_; rintro e w2 ⟨gA2, kk2, gD2, mm2, v2, rfl, hr2, ho2, hb2, hf2⟩; have F2 := Kept.mk (hf2.of (w := w) HX.out.bel.size); clear hf2; have X2 := HX.out.new_ hb2; clear k0 k1 k2 k3 r0 r1 r2 r3 f0 f1 f2 f3 zp zq zA zD s0; obtain ⟨-, -, -, -, r0, r1, r2, r3, -, fq, -, zq, -, -, -, -⟩ := X2.cells; have f0 := fq 0; have f1 := fq 1; have f2 := fq 2; have f3 := fq 3; have XX := Kept.mk X2; have R2 := Kept.mk hr2; have O2 := Kept.mk ho2; have hz2 := hb2.size; clear X2 hr2 ho2 hb2 fq)
      generalize (shutP c 0).2 = ms at *
      generalize (shutP c 0).1 = c2 at *
      obtain ⟨WF, hWF⟩ : ∃ WF, WF = ((((w2).setCell ⟨w.heap.size + 1, 0, none⟩ (.int .i64 c2.conn)).setCell ⟨w.heap.size + 1, 1, none⟩ (.int .i64 c2.need)).setCell ⟨w.heap.size + 1, 2, none⟩ (.slice (some ⟨gA2, 0, none⟩) c2.n kk2)).setCell ⟨w.heap.size + 1, 3, none⟩ (.slice (some ⟨gD2, 0, none⟩) c2.n mm2) := ⟨_, rfl⟩
      obtain ⟨q1, q2, q3, q4⟩ := RX.fin R2.out XX.out.rx XX.out.bel XX.out.q0 O2.out (by have := HX.out.bel.size; omega) hWF
      rw [← hWF]
      clear hWF r0 r1 r2 r3 f0 f1 f2 f3
      have k0 := q1.cell 0 (v := .int .i64 c2.conn) rfl
      have k1 := q1.cell 1 (v := .int .i64 c2.need) rfl
      have k2 := q1.cell 2 (v := .slice (some ⟨gA2, 0, none⟩) c2.n kk2) rfl
      have k3 := q1.cell 3 (v := .slice (some ⟨gD2, 0, none⟩) c2.n mm2) rfl
      have kz := q1.lt
      refine bodyPost_ret (v := .tuple #[.agg #[.int .i64 c2.conn, .int .i64 c2.need, .slice (some ⟨gA2, 0, none⟩) c2.n kk2, .slice (some ⟨gD2, 0, none⟩) c2.n mm2], v2, .int .i64 0]) (by simp [results, Try.results27, go_sem, k0, k1, k2, k3, kz]) rfl ?_
      exact ⟨gA2, kk2, gD2, mm2, v2, rfl, q2.alloc _, q3.alloc _, q4.alloc q4.size _, F2.out⟩
  all_goals
    have HT : Kept (stopP c = (c, [], 6)) := ⟨by unfold stopP; rw [hs]; rfl⟩
    rw [HT.out]
    clear hs
    go_enter Try.func27, Try.ntmps27
    go_upto_region 1 with fail
    rw [← hW0]
    clear hW0
    go_wp2_with fail
    obtain ⟨WF, hWF⟩ : ∃ WF, WF = ((((W0).setCell ⟨w.heap.size + 1, 0, none⟩ (.int .i64 c.conn)).setCell ⟨w.heap.size + 1, 1, none⟩ (.int .i64 c.need)).setCell ⟨w.heap.size + 1, 2, none⟩ (.slice (some ⟨gA, 0, none⟩) c.n k)).setCell ⟨w.heap.size + 1, 3, none⟩ (.slice (some ⟨gD, 0, none⟩) c.n m) := ⟨_, rfl⟩
    obtain ⟨q1, q2, q3, q4⟩ := RX.fin HX.out.v HX.out.rx HX.out.bel HX.out.q0 (World.ownsRow_nil _ w.heap.size 58 3) (Nat.le_refl _) hWF
    rw [← hWF]
    clear hWF r0 r1 r2 r3 f0 f1 f2 f3
    have k0 := q1.cell 0 (v := .int .i64 c.conn) rfl
    have k1 := q1.cell 1 (v := .int .i64 c.need) rfl
    have k2 := q1.cell 2 (v := .slice (some ⟨gA, 0, none⟩) c.n k) rfl
    have k3 := q1.cell 3 (v := .slice (some ⟨gD, 0, none⟩) c.n m) rfl
    have kz := q1.lt
    refine bodyPost_ret (v := .tuple #[.agg #[.int .i64 c.conn, .int .i64 c.need, .slice (some ⟨gA, 0, none⟩) c.n k, .slice (some ⟨gD, 0, none⟩) c.n m], .slice none 0 0, .int .i64 6]) (by simp [results, Try.results27, go_sem, k0, k1, k2, k3, kz]) rfl ?_
    exact ⟨gA, k, gD, m, .slice none 0 0, rfl, q2, q3, q4, Fx.refl _ _ _⟩
set_option maxHeartbeats 4000000 in
theorem rstart_c (h : RefV w c (at4 gA k gD m)) :
    Calls Try.prog 25 #[.agg #[.int .i64 c.conn, .int .i64 c.need, .slice (some ⟨gA, 0, none⟩) c.n k, .slice (some ⟨gD, 0, none⟩) c.n m]] w (RRx w gA gD (startP c)) := by
  have hn := h.ok.n2
  have hn1 := h.ok.n1
  have hs5 := h.ok.st 0 (by omega)
  obtain ⟨W0, hW0, hX⟩ := RX.start' h
  have HX := Kept.mk hX
  obtain ⟨k0, k1, k2, k3, r0, r1, r2, r3, fp, fq, zp, zq, zA, zD, st, -⟩ := hX.cells
  have s0 := st 0 (by omega)
  have f0 := fq 0
  have f1 := fq 1
  have f2 := fq 2
  have f3 := fq 3
  obtain ⟨s, hs⟩ : ∃ s, c.st 0 = s := ⟨_, rfl⟩
  rw [hs] at s0 hs5
  clear fp fq st hX h
  have hsc : s = 0 ∨ s = 1 ∨ s = 2 ∨ s = 3 ∨ s = 4 ∨ s = 5 := by omega
  by_cases hs0 : s = 0
  · subst hs0
    have HT : Kept (startP c = ((opensP c 0).1, (opensP c 0).2, if (opensP c 0).1.st 0 = 3 then 5 else 0)) := ⟨by unfold startP openP opensP; rw [hs]; simp⟩
    have HN2 : Kept (1 ≤ (opensP c 0).1.n) := ⟨by unfold opensP; repeat' split
                                                  all_goals (rw [put_n]; exact hn1)⟩
    rw [HT.out]
    clear hs
    generalize hoo : opensP c 0 = oo at *
    obtain ⟨c2, ms⟩ := oo
    have HOO := Kept.mk hoo
    simp only at HN2 ⊢
    have hn8 : 1 ≤ c2.n := HN2.out
    have hn9 : 0 < c2.n := hn8
    clear hoo HT
    by_cases h3 : c2.st 0 = 3
    · rw [if_pos h3]
      go_enter Try.func25, Try.ntmps25
      go_upto_region 1 with fail
      rw [← hW0]
      clear hW0
      go_wp2_with (go_at_call 39; refine (open_x (i := 0) 0 rfl HX.out.v (by omega)).mono ?_; rw [HOO.out]; dsimp only; rintro e w2 ⟨gA2, kk2, gD2, mm2, v2, rfl, hr2, ho2, hb2, hf2⟩; have F2 := Kept.mk (hf2.of (w := w) HX.out.bel.size); clear hf2; have X2 := HX.out.new_ hb2; clear k0 k1 k2 k3 r0 r1 r2 r3 f0 f1 f2 f3 zp zq zA zD s0; obtain ⟨-, -, -, -, r0, r1, r2, r3, -, fq, -, zq, -, -, -, -⟩ := X2.cells; have f0 := fq 0; have f1 := fq 1; have f2 := fq 2; have f3 := fq 3; have XX := Kept.mk X2; have R2 := Kept.mk hr2; have O2 := Kept.mk ho2; have hz2 := hb2.size; have zD2 := RefV.zD hr2; have s9 := RefV.cD hr2 (i := 0) (by have := HN2.out; omega); simp only [h3] at s9; clear X2 hr2 ho2 hb2 fq)
      obtain ⟨WF, hWF⟩ : ∃ WF, WF = ((((w2).setCell ⟨w.heap.size + 1, 0, none⟩ (.int .i64 c2.conn)).setCell ⟨w.heap.size + 1, 1, none⟩ (.int .i64 c2.need)).setCell ⟨w.heap.size + 1, 2, none⟩ (.slice (some ⟨gA2, 0, none⟩) c2.n kk2)).setCell ⟨w.heap.size + 1, 3, none⟩ (.slice (some ⟨gD2, 0, none⟩) c2.n mm2) := ⟨_, rfl⟩
      obtain ⟨q1, q2, q3, q4⟩ := RX.fin R2.out XX.out.rx XX.out.bel XX.out.q0 O2.out (by have := HX.out.bel.size; omega) hWF
      rw [← hWF]
      clear hWF r0 r1 r2 r3 f0 f1 f2 f3
      have k0 := q1.cell 0 (v := .int .i64 c2.conn) rfl
      have k1 := q1.cell 1 (v := .int .i64 c2.need) rfl
      have k2 := q1.cell 2 (v := .slice (some ⟨gA2, 0, none⟩) c2.n kk2) rfl
      have k3 := q1.cell 3 (v := .slice (some ⟨gD2, 0, none⟩) c2.n mm2) rfl
      have kz := q1.lt
      refine bodyPost_ret (v := .tuple #[.agg #[.int .i64 c2.conn, .int .i64 c2.need, .slice (some ⟨gA2, 0, none⟩) c2.n kk2, .slice (some ⟨gD2, 0, none⟩) c2.n mm2], v2, .int .i64 5]) (by simp [results, Try.results25, go_sem, k0, k1, k2, k3, kz]) rfl ?_
      exact ⟨gA2, kk2, gD2, mm2, v2, rfl, q2.alloc _, q3.alloc _, q4.alloc q4.size _, F2.out⟩
    · rw [if_neg h3]
      have h3' : (c2.st 0 == 3) = false := by simpa using h3
      go_enter Try.func25, Try.ntmps25
      go_upto_region 1 with fail
      rw [← hW0]
      clear hW0
      go_wp2_with (go_at_call 39; refine (open_x (i := 0) 0 rfl HX.out.v (by omega)).mono ?_; rw [HOO.out]; dsimp only; rintro e w2 ⟨gA2, kk2, gD2, mm2, v2, rfl, hr2, ho2, hb2, hf2⟩; have F2 := Kept.mk (hf2.of (w := w) HX.out.bel.size); clear hf2; have X2 := HX.out.new_ hb2; clear k0 k1 k2 k3 r0 r1 r2 r3 f0 f1 f2 f3 zp zq zA zD s0; obtain ⟨-, -, -, -, r0, r1, r2, r3, -, fq, -, zq, -, -, -, -⟩ := X2.cells; have f0 := fq 0; have f1 := fq 1; have f2 := fq 2; have f3 := fq 3; have XX := Kept.mk X2; have R2 := Kept.mk hr2; have O2 := Kept.mk ho2; have hz2 := hb2.size; have zD2 := RefV.zD hr2; have s9 := RefV.cD hr2 (i := 0) (by have := HN2.out; omega); clear X2 hr2 ho2 hb2 fq)
      obtain ⟨WF, hWF⟩ : ∃ WF, WF = ((((w2).setCell ⟨w.heap.size + 1, 0, none⟩ (.int .i64 c2.conn)).setCell ⟨w.heap.size + 1, 1, none⟩ (.int .i64 c2.need)).setCell ⟨w.heap.size + 1, 2, none⟩ (.slice (some ⟨gA2, 0, none⟩) c2.n kk2)).setCell ⟨w.heap.size + 1, 3, none⟩ (.slice (some ⟨gD2, 0, none⟩) c2.n mm2) := ⟨_, rfl⟩
      obtain ⟨q1, q2, q3, q4⟩ := RX.fin R2.out XX.out.rx XX.out.bel XX.out.q0 O2.out (by have := HX.out.bel.size; omega) hWF
      rw [← hWF]
      clear hWF r0 r1 r2 r3 f0 f1 f2 f3
      have k0 := q1.cell 0 (v := .int .i64 c2.conn) rfl
      have k1 := q1.cell 1 (v := .int .i64 c2.need) rfl
      have k2 := q1.cell 2 (v := .slice (some ⟨gA2, 0, none⟩) c2.n kk2) rfl
      have k3 := q1.cell 3 (v := .slice (some ⟨gD2, 0, none⟩) c2.n mm2) rfl
      have kz := q1.lt
      refine bodyPost_ret (v := .tuple #[.agg #[.int .i64 c2.conn, .int .i64 c2.need, .slice (some ⟨gA2, 0, none⟩) c2.n kk2, .slice (some ⟨gD2, 0, none⟩) c2.n mm2], v2, .int .i64 0]) (by simp [results, Try.results25, go_sem, k0, k1, k2, k3, kz]) rfl ?_
      exact ⟨gA2, kk2, gD2, mm2, v2, rfl, q2.alloc _, q3.alloc _, q4.alloc q4.size _, F2.out⟩
  · have hs1 : (s != 0) = true := by simpa using hs0
    have HT : Kept (startP c = (c, [], 6)) := ⟨by unfold startP; rw [hs, if_neg hs0]⟩
    rw [HT.out]
    clear hs hs0
    go_enter Try.func25, Try.ntmps25
    go_upto_region 1 with fail
    rw [← hW0]
    clear hW0
    go_wp2_with fail
    obtain ⟨WF, hWF⟩ : ∃ WF, WF = ((((W0).setCell ⟨w.heap.size + 1, 0, none⟩ (.int .i64 c.conn)).setCell ⟨w.heap.size + 1, 1, none⟩ (.int .i64 c.need)).setCell ⟨w.heap.size + 1, 2, none⟩ (.slice (some ⟨gA, 0, none⟩) c.n k)).setCell ⟨w.heap.size + 1, 3, none⟩ (.slice (some ⟨gD, 0, none⟩) c.n m) := ⟨_, rfl⟩
    obtain ⟨q1, q2, q3, q4⟩ := RX.fin HX.out.v HX.out.rx HX.out.bel HX.out.q0 (World.ownsRow_nil _ w.heap.size 58 3) (Nat.le_refl _) hWF
    rw [← hWF]
    clear hWF r0 r1 r2 r3 f0 f1 f2 f3
    have k0 := q1.cell 0 (v := .int .i64 c.conn) rfl
    have k1 := q1.cell 1 (v := .int .i64 c.need) rfl
    have k2 := q1.cell 2 (v := .slice (some ⟨gA, 0, none⟩) c.n k) rfl
    have k3 := q1.cell 3 (v := .slice (some ⟨gD, 0, none⟩) c.n m) rfl
    have kz := q1.lt
    refine bodyPost_ret (v := .tuple #[.agg #[.int .i64 c.conn, .int .i64 c.need, .slice (some ⟨gA, 0, none⟩) c.n k, .slice (some ⟨gD, 0, none⟩) c.n m], .slice none 0 0, .int .i64 6]) (by simp [results, Try.results25, go_sem, k0, k1, k2, k3, kz]) rfl ?_
    exact ⟨gA, k, gD, m, .slice none 0 0, rfl, q2, q3, q4, Fx.refl _ _ _⟩
end
end Go.Proofs.Ytnmgnggchgckoaa
