/- Setup: the reference's Receive: where it refuses (printed by gen_ref2.py). -/
import Derived.Test.YtnmgnggchgckoaaRefF
namespace Go.Proofs.Ytnmgnggchgckoaa
set_option linter.unusedVariables false
set_option linter.unusedSimpArgs false
open Go.RowKit
theorem RX.startM {w : World} {c : Ch} {gA k gD m : Nat} (h : RefV w c (at4 gA k gD m)) (kd cn d : Int) : ∃ W, W = (((w.alloc (.cells #[.int .i64 c.conn, .int .i64 c.need, .slice (some ⟨gA, 0, none⟩) c.n k, .slice (some ⟨gD, 0, none⟩) c.n m] 51)).alloc (.cells #[.int .i64 kd, .int .i64 cn, .int .i64 d] 58)).alloc (.cells #[.int .i64 0, .int .i64 0, .slice none 0 0, .slice none 0 0] 51)) ∧ RX w c gA k gD m w.heap.size (w.heap.size + 2) W ∧ Blk W (w.heap.size + 1) 58 #[.int .i64 kd, .int .i64 cn, .int .i64 d] := by
  have hm := (Blk.new (w.alloc (.cells #[.int .i64 c.conn, .int .i64 c.need, .slice (some ⟨gA, 0, none⟩) c.n k, .slice (some ⟨gD, 0, none⟩) c.n m] 51)) 58 #[.int .i64 kd, .int .i64 cn, .int .i64 d])
  have hn := Blk.new ((w.alloc (.cells #[.int .i64 c.conn, .int .i64 c.need, .slice (some ⟨gA, 0, none⟩) c.n k, .slice (some ⟨gD, 0, none⟩) c.n m] 51)).alloc (.cells #[.int .i64 kd, .int .i64 cn, .int .i64 d] 58)) 51 #[.int .i64 0, .int .i64 0, .slice none 0 0, .slice none 0 0]
  rw [World.size_alloc] at hm
  rw [World.size_alloc, World.size_alloc] at hn
  exact ⟨_, rfl, ⟨((h.alloc _).alloc _).alloc _, ((Blk.new _ _ _).alloc _).alloc _, hn, (((Below.refl _ _).alloc (Nat.le_refl _) _).alloc (by simp) _).alloc (by simp; omega) _, Nat.le_refl _, by omega, by omega⟩, hm.alloc _⟩
theorem recv_ok {c : Ch} {kd : Int} {i : Nat} (hk : ¬ (kd < 1 ∨ 5 < kd)) (hi : i < c.n) (hf : c.hasB (fromP ⟨kd, c.conn, i⟩) = true) : recvP c ⟨kd, c.conn, i⟩ = ((ruleP c ⟨kd, c.conn, i⟩).1, (ruleP c ⟨kd, c.conn, i⟩).2, 0) := by
  unfold recvP
  have h1 : c.hasB (i : Int) = true := by simp [Ch.hasB, hi]
  rw [if_neg hk, if_neg (by simp), if_pos (by simp only [h1, hf]; rfl)]
theorem recv_bad {c : Ch} {kd d : Int} (hk : ¬ (kd < 1 ∨ 5 < kd)) (h : c.hasB d = false ∨ c.hasB (fromP ⟨kd, c.conn, d⟩) = false) : recvP c ⟨kd, c.conn, d⟩ = (c, [], 2) := by
  unfold recvP
  rw [if_neg hk, if_neg (by simp), if_neg (by rcases h with h | h <;> simp [h])]
section
variable {c : Ch} {gA k gD m : Nat} {w : World}
set_option maxRecDepth 100000 in
set_option maxHeartbeats 4000000 in
theorem rrecv_kind (q : Msg) (h : RefV w c (at4 gA k gD m)) (hk : q.kind < 1 ∨ 5 < q.kind) :
    Calls Try.prog 26 #[.agg #[.int .i64 c.conn, .int .i64 c.need, .slice (some ⟨gA, 0, none⟩) c.n k, .slice (some ⟨gD, 0, none⟩) c.n m], .agg #[.int .i64 q.kind, .int .i64 q.conn, .int .i64 q.dest]] w (RRx w gA gD (recvP c q)) := by
  have HT : recvP c q = (c, [], 16) := by unfold recvP; rw [if_pos hk]
  rw [HT]
  clear HT
  obtain ⟨W0, hW0, hX, hM⟩ := RX.startM h (q.kind) (q.conn) (q.dest)
  have HX := Kept.mk hX
  have HM := Kept.mk hM
  obtain ⟨k0, k1, k2, k3, r0, r1, r2, r3, fp, fq, zp, zq, zA, zD, st, -⟩ := hX.cells
  have p0 := fp 0
  have p1 := fp 1
  have p2 := fp 2
  have p3 := fp 3
  have f0 := fq 0
  have f1 := fq 1
  have f2 := fq 2
  have f3 := fq 3
  have m0 := hM.cell 0 (v := .int .i64 q.kind) rfl
  have m1 := hM.cell 1 (v := .int .i64 q.conn) rfl
  have m2 := hM.cell 2 (v := .int .i64 q.dest) rfl
  have mz := hM.lt
  clear hX hM h
  rcases hk with hk | hk
  all_goals
    go_enter Try.func26, Try.ntmps26
    go_upto_region 1 with fail
    rw [← hW0]
    clear hW0
    go_wp2_with fail
    clear k0 k1 k2 k3
    obtain ⟨WF, hWF⟩ : ∃ WF, WF = ((((W0).setCell ⟨w.heap.size + 2, 0, none⟩ (.int .i64 c.conn)).setCell ⟨w.heap.size + 2, 1, none⟩ (.int .i64 c.need)).setCell ⟨w.heap.size + 2, 2, none⟩ (.slice (some ⟨gA, 0, none⟩) c.n k)).setCell ⟨w.heap.size + 2, 3, none⟩ (.slice (some ⟨gD, 0, none⟩) c.n m) := ⟨_, rfl⟩
    obtain ⟨q1, q2, q3, q4⟩ := RX.fin HX.out.v HX.out.rx HX.out.bel HX.out.q0 (World.ownsRow_nil _ w.heap.size 58 3) (Nat.le_refl _) hWF
    rw [← hWF]
    clear hWF r0 r1 r2 r3 f0 f1 f2 f3
    have k0 := q1.cell 0 (v := .int .i64 c.conn) rfl
    have k1 := q1.cell 1 (v := .int .i64 c.need) rfl
    have k2 := q1.cell 2 (v := .slice (some ⟨gA, 0, none⟩) c.n k) rfl
    have k3 := q1.cell 3 (v := .slice (some ⟨gD, 0, none⟩) c.n m) rfl
    have kz := q1.lt
    refine bodyPost_ret (v := .tuple #[.agg #[.int .i64 c.conn, .int .i64 c.need, .slice (some ⟨gA, 0, none⟩) c.n k, .slice (some ⟨gD, 0, none⟩) c.n m], .slice none 0 0, .int .i64 16]) (by simp [results, Try.results26, go_sem, k0, k1, k2, k3, kz]) rfl ?_
    exact ⟨gA, k, gD, m, .slice none 0 0, rfl, q2, q3, q4, Fx.refl _ _ _⟩
set_option maxRecDepth 100000 in
set_option maxHeartbeats 4000000 in
theorem rrecv_conn (q : Msg) (h : RefV w c (at4 gA k gD m)) (hk : ¬ (q.kind < 1 ∨ 5 < q.kind)) (hc : q.conn ≠ c.conn) :
    Calls Try.prog 26 #[.agg #[.int .i64 c.conn, .int .i64 c.need, .slice (some ⟨gA, 0, none⟩) c.n k, .slice (some ⟨gD, 0, none⟩) c.n m], .agg #[.int .i64 q.kind, .int .i64 q.conn, .int .i64 q.dest]] w (RRx w gA gD (recvP c q)) := by
  have HT : recvP c q = (c, [], 7) := by unfold recvP; rw [if_neg hk, if_pos hc]
  rw [HT]
  have hk1 : ¬ q.kind < 1 := by omega
  have hk2 : ¬ 5 < q.kind := by omega
  have hc2 : (q.conn != c.conn) = true := by simpa using hc
  clear HT hk hc
  obtain ⟨W0, hW0, hX, hM⟩ := RX.startM h (q.kind) (q.conn) (q.dest)
  have HX := Kept.mk hX
  have HM := Kept.mk hM
  obtain ⟨k0, k1, k2, k3, r0, r1, r2, r3, fp, fq, zp, zq, zA, zD, st, -⟩ := hX.cells
  have p0 := fp 0
  have p1 := fp 1
  have p2 := fp 2
  have p3 := fp 3
  have f0 := fq 0
  have f1 := fq 1
  have f2 := fq 2
  have f3 := fq 3
  have m0 := hM.cell 0 (v := .int .i64 q.kind) rfl
  have m1 := hM.cell 1 (v := .int .i64 q.conn) rfl
  have m2 := hM.cell 2 (v := .int .i64 q.dest) rfl
  have mz := hM.lt
  clear hX hM h
  go_enter Try.func26, Try.ntmps26
  go_upto_region 1 with fail
  rw [← hW0]
  clear hW0
  go_wp2_with fail
  clear k0 k1 k2 k3
  obtain ⟨WF, hWF⟩ : ∃ WF, WF = ((((W0).setCell ⟨w.heap.size + 2, 0, none⟩ (.int .i64 c.conn)).setCell ⟨w.heap.size + 2, 1, none⟩ (.int .i64 c.need)).setCell ⟨w.heap.size + 2, 2, none⟩ (.slice (some ⟨gA, 0, none⟩) c.n k)).setCell ⟨w.heap.size + 2, 3, none⟩ (.slice (some ⟨gD, 0, none⟩) c.n m) := ⟨_, rfl⟩
  obtain ⟨q1, q2, q3, q4⟩ := RX.fin HX.out.v HX.out.rx HX.out.bel HX.out.q0 (World.ownsRow_nil _ w.heap.size 58 3) (Nat.le_refl _) hWF
  rw [← hWF]
  clear hWF r0 r1 r2 r3 f0 f1 f2 f3
  have k0 := q1.cell 0 (v := .int .i64 c.conn) rfl
  have k1 := q1.cell 1 (v := .int .i64 c.need) rfl
  have k2 := q1.cell 2 (v := .slice (some ⟨gA, 0, none⟩) c.n k) rfl
  have k3 := q1.cell 3 (v := .slice (some ⟨gD, 0, none⟩) c.n m) rfl
  have kz := q1.lt
  refine bodyPost_ret (v := .tuple #[.agg #[.int .i64 c.conn, .int .i64 c.need, .slice (some ⟨gA, 0, none⟩) c.n k, .slice (some ⟨gD, 0, none⟩) c.n m], .slice none 0 0, .int .i64 7]) (by simp [results, Try.results26, go_sem, k0, k1, k2, k3, kz]) rfl ?_
  exact ⟨gA, k, gD, m, .slice none 0 0, rfl, q2, q3, q4, Fx.refl _ _ _⟩
end
end Go.Proofs.Ytnmgnggchgckoaa
