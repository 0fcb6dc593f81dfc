/- Linkup: Tick of a side that is one block of seven cells. -/
import Derived.Test.YtaonnglopajkcaaWalksB
namespace Go.Proofs.Ytaonnglopajkcaa
set_option linter.unusedVariables false
open Go.RowKit
set_option maxHeartbeats 1000000 in
theorem tick0_c (s : Sd) (w : World) (b : Nat) (h : Side w b s) (hp : s.peer = 0) :
    Calls Try.prog 15 #[.pointer (some ⟨b, 0, none⟩)] w fun e w' => e = .returned (.agg #[.int .i64 s.mine, .int .i64 s.peer]) ∧ Side w' b s ∧ Only b w w' := by
  obtain ⟨h0, h1, h2, h3, h4, h5, h6⟩ := h.all
  have hlt := h.lt
  have H := hid h; clear h
  have e1 : (s.peer != 0) = false := by simpa using hp
  have e2 := hid hp
  clear hp
  go_enter Try.func15, Try.ntmps15
  go_wp2_with fail
  go_region
  go_wp2_with fail
  go_returns
  exact ⟨rfl, (H.out.alloc _).drew, ((Only.refl _ _).alloc _).drew⟩
set_option maxHeartbeats 1000000 in
theorem tick1_c (s : Sd) (w : World) (b : Nat) (h : Side w b s) (hp : ¬ s.peer = 0) (hd : s.silent + 1 < s.dead) (hq : 0 ≤ s.silent) (hq2 : s.silent < 4611686018427387904) :
    Calls Try.prog 15 #[.pointer (some ⟨b, 0, none⟩)] w fun e w' => e = .returned (.agg #[.int .i64 s.mine, .int .i64 s.peer]) ∧ Side w' b { s with silent := s.silent + 1 } ∧ Only b w w' := by
  obtain ⟨h0, h1, h2, h3, h4, h5, h6⟩ := h.all
  have f5 := h.free 5
  have hlt := h.lt
  have H := hid h; clear h
  have e1 : (s.peer != 0) = true := by simpa using hp
  clear hp
  go_enter Try.func15, Try.ntmps15
  go_wp2_with fail
  go_quiet (fail)
  go_wp2_with fail
  go_region
  go_wp2_with fail
  go_returns
  exact ⟨rfl, ((((H.out.to 5 _ rfl).alloc _).drewN _).far (Nat.ne_of_lt hlt) _).far (Nat.ne_of_lt hlt) _, (((((Only.refl b w).set 5 _).alloc _).drewN _).setNew (Nat.le_refl _) _).setNew (Nat.le_refl _) _⟩
set_option maxHeartbeats 2000000 in
theorem tick2_c (s : Sd) (w : World) (b : Nat) (h : Side w b s) (hp : ¬ s.peer = 0) (hd : s.dead ≤ s.silent + 1) (hq : 0 ≤ s.silent) (hq2 : s.silent < 4611686018427387904) (hc : 0 ≤ s.changes) (hc2 : s.changes < 4611686018427387904) (t : Sd) (ht : bec { s with silent := s.silent + 1 } 0 0 = t) :
    Calls Try.prog 15 #[.pointer (some ⟨b, 0, none⟩)] w fun e w' => e = .returned (.agg #[.int .i64 s.mine, .int .i64 t.peer]) ∧ Side w' b { t with silent := 0 } ∧ Only b w w' := by
  obtain ⟨h0, h1, h2, h3, h4, h5, h6⟩ := h.all
  have f5 := h.free 5
  have hlt := h.lt
  have H := hid h; clear h
  have e1 : (s.peer != 0) = true := by simpa using hp
  clear hp
  have hm : t.mine = s.mine := by rw [← ht]; unfold bec; split <;> rfl
  have HM := hid hm; clear hm
  have HT := hid ht; clear ht
  go_enter Try.func15, Try.ntmps15
  go_wp2_with fail
  go_quiet (fail)
  go_wp2_with fail
  refine (bec_c { s with silent := s.silent + 1 } 0 0 _ b (((H.out.to 5 _ rfl).alloc _).drewN _) hc hc2).mono ?_
  rintro e w1 ⟨rfl, hS, hO⟩
  have hO' := ((((Only.refl b w).set 5 _).alloc _).drewN _).trans hO
  have hR := ((Blk.new (w.setCell ⟨b, 5, none⟩ (.int .i64 (s.silent + 1))) 30 #[.int .i64 0, .int .i64 0]).drewN nq).only hO (by simp; omega)
  simp only [World.size_setCell] at hR
  have k0 := hR.cell 0 (v := .int .i64 0) rfl
  have k1 := hR.cell 1 (v := .int .i64 0) rfl
  have hz : w.heap.size < w1.heap.size := hR.lt
  have k2 := hR.free 0
  have k3 := hR.free 1
  have HR := hid hR; clear hO hR
  rw [HT.out] at hS
  have hne : b ≠ w.heap.size := Nat.ne_of_lt hlt
  obtain ⟨g0, g1, g2, g3, g4, g5, g6⟩ := hS.all
  have i5 := hS.free 5
  have hlt' := hS.lt
  have HS := hid hS; clear hS
  clear h0 h1 h2 h3 h4 h5 h6 f5
  go_wp2_with fail
  go_region
  go_wp2_with fail
  have hE := (((HR.out.far hne.symm (p := ⟨b, 5, none⟩) (.int .i64 0)).set_ 0 (.int .i64 t.mine)).to 1 (.int .i64 t.peer) (cs' := #[.int .i64 t.mine, .int .i64 t.peer]) rfl).drew
  have q0 := hE.cell 0 (v := .int .i64 t.mine) rfl
  have q1 := hE.cell 1 (v := .int .i64 t.peer) rfl
  refine bodyPost_ret (v := .agg #[.int .i64 t.mine, .int .i64 t.peer]) (by simp [results, Try.results15, go_sem, q0, q1]) rfl ?_
  exact ⟨by rw [← HM.out], (((HS.out.to 5 _ rfl).far hne _).far hne _).drew, (((hO'.set 5 _).setNew (Nat.le_refl _) _).setNew (Nat.le_refl _) _).drew⟩
theorem tick_c (s : Sd) (w : World) (b : Nat) (h : Side w b s) (hc : 0 ≤ s.changes) (hc2 : s.changes < 4611686018427387904) (hq : 0 ≤ s.silent) (hq2 : s.silent < 4611686018427387904) :
    Calls Try.prog 15 #[.pointer (some ⟨b, 0, none⟩)] w fun e w' => e = .returned (.agg #[.int .i64 s.mine, .int .i64 (tick s).peer]) ∧ Side w' b (tick s) ∧ Only b w w' := by
  by_cases hp : s.peer = 0
  · have := tick0_c s w b h hp
    simpa [tick, hp] using this
  · by_cases hd : s.dead ≤ s.silent + 1
    · have := tick2_c s w b h hp hd hq hq2 hc hc2 _ rfl
      simpa [tick, hp, hd] using this
    · have := tick1_c s w b h hp (by omega) hq hq2
      simpa [tick, hp, hd] using this
end Go.Proofs.Ytaonnglopajkcaa
