/- Reconfig: the reference's Receive: its boxes, and the refusals. -/
import Derived.Test.YtibmbhnpmfgclaaRZK
namespace Go.Proofs.Ytibmbhnpmfgclaa
set_option linter.unusedVariables false
set_option linter.unusedSimpArgs false
open Go.RowKit Go.Maps
/-- The boxes of Receive and the state that lies in the parameter's. -/
structure RvW (w W : World) (P : List Int) (S : RSt) (m : Mg) : Prop where
  at_ : RAt W P S
  bx : Blk W w.heap.size 53 #[.slice (some ⟨S.gp, 0, none⟩) P.length S.kp, .slice (some ⟨S.g, 0, none⟩) P.length S.kn]
  mx : Blk W (w.heap.size + 1) 62 #[.int .i64 m.kind, .int .i64 m.frm, .int .i64 m.to_, .int .i64 m.ep]
  rx : Blk W (w.heap.size + 2) 53 #[.slice none 0 0, .slice none 0 0]
  bel : Below w.heap.size w W
section
variable {w W W' : World} {P : List Int} {S S' : RSt} {m : Mg}
theorem RvW.start (h : RAt w P S) (m : Mg) : ∃ W, W = ((w.alloc (.cells #[.slice (some ⟨S.gp, 0, none⟩) P.length S.kp, .slice (some ⟨S.g, 0, none⟩) P.length S.kn] 53)).alloc (.cells #[.int .i64 m.kind, .int .i64 m.frm, .int .i64 m.to_, .int .i64 m.ep] 62)).alloc (.cells #[.slice none 0 0, .slice none 0 0] 53) ∧ RvW w W P S m ∧ W.heap.size = w.heap.size + 3 := by
  have hb : Below w.heap.size w (((w.alloc (.cells #[.slice (some ⟨S.gp, 0, none⟩) P.length S.kp, .slice (some ⟨S.g, 0, none⟩) P.length S.kn] 53)).alloc (.cells #[.int .i64 m.kind, .int .i64 m.frm, .int .i64 m.to_, .int .i64 m.ep] 62)).alloc (.cells #[.slice none 0 0, .slice none 0 0] 53)) := (((Below.refl _ _).alloc (Nat.le_refl _) _).alloc (by simp) _).alloc (by simp; omega) _
  refine ⟨_, rfl, ⟨h.new_ hb, ((Blk.new _ _ _).alloc _).alloc _, ?_, ?_, hb⟩, by simp⟩
  · simpa using (Blk.new (w.alloc (.cells #[.slice (some ⟨S.gp, 0, none⟩) P.length S.kp, .slice (some ⟨S.g, 0, none⟩) P.length S.kn] 53)) 62 #[.int .i64 m.kind, .int .i64 m.frm, .int .i64 m.to_, .int .i64 m.ep]).alloc _
  · simpa using Blk.new ((w.alloc (.cells #[.slice (some ⟨S.gp, 0, none⟩) P.length S.kp, .slice (some ⟨S.g, 0, none⟩) P.length S.kn] 53)).alloc (.cells #[.int .i64 m.kind, .int .i64 m.frm, .int .i64 m.to_, .int .i64 m.ep] 62)) 53 #[.slice none 0 0, .slice none 0 0]
theorem RvW.new_ (h : RvW w W P S m) (hb : Below W.heap.size W W') : RvW w W' P S m :=
  ⟨h.at_.new_ hb, h.bx.new_ hb, h.mx.new_ hb, h.rx.new_ hb, join h.bel hb⟩
/-- Another state is written into the parameter's box. -/
theorem RvW.put {w5 : World} (hb : Blk w5 w.heap.size 53 #[.slice (some ⟨S.gp, 0, none⟩) P.length S.kp, .slice (some ⟨S.g, 0, none⟩) P.length S.kn]) (hA : RAt w5 P S') (hm : Blk w5 (w.heap.size + 1) 62 #[.int .i64 m.kind, .int .i64 m.frm, .int .i64 m.to_, .int .i64 m.ep])
    (hr : Blk w5 (w.heap.size + 2) 53 #[.slice none 0 0, .slice none 0 0]) (hD : Below w.heap.size w w5) : RvW w ((w5.setCell ⟨w.heap.size, 0, none⟩ (.slice (some ⟨S'.gp, 0, none⟩) P.length S'.kp)).setCell ⟨w.heap.size, 1, none⟩ (.slice (some ⟨S'.g, 0, none⟩) P.length S'.kn)) P S' m :=
  ⟨hA.box hb _ _, (hb.set_ 0 _).set_ 1 _, (hm.far (by show w.heap.size + 1 ≠ w.heap.size; omega) _).far (by show w.heap.size + 1 ≠ w.heap.size; omega) _, (hr.far (by show w.heap.size + 2 ≠ w.heap.size; omega) _).far (by show w.heap.size + 2 ≠ w.heap.size; omega) _,
    (hD.setCell (Nat.le_refl _) _).setCell (Nat.le_refl _) _⟩
/-- The result is written. -/
theorem RvW.fin {A : Option Addr} {kap : Nat} {l : List Mg} (h : RvW w W P S m) (ho : W.ownsRow w.heap.size 62 4 (.slice A l.length kap) l.length (l.flatMap mcell))
    (hW : W' = (W.setCell ⟨w.heap.size + 2, 0, none⟩ (.slice (some ⟨S.gp, 0, none⟩) P.length S.kp)).setCell ⟨w.heap.size + 2, 1, none⟩ (.slice (some ⟨S.g, 0, none⟩) P.length S.kn)) :
    W'.cell? ⟨w.heap.size + 2, 0, none⟩ = some (.slice (some ⟨S.gp, 0, none⟩) P.length S.kp) ∧ W'.cell? ⟨w.heap.size + 2, 1, none⟩ = some (.slice (some ⟨S.g, 0, none⟩) P.length S.kn) ∧
    RAt W' P S ∧ W'.ownsRow w.heap.size 62 4 (.slice A l.length kap) l.length (l.flatMap mcell) ∧ Below w.heap.size w W' := by
  have hs := (h.rx.set_ 0 (.slice (some ⟨S.gp, 0, none⟩) P.length S.kp)).set_ 1 (.slice (some ⟨S.g, 0, none⟩) P.length S.kn)
  have hne := own_blk_ne ho h.rx (by decide)
  subst hW
  exact ⟨hs.cell 0 rfl, hs.cell 1 rfl, h.at_.box h.rx _ _, ownsRow_setCell_other (ownsRow_setCell_other ho (a := ⟨w.heap.size + 2, 0, none⟩) hne _) (a := ⟨w.heap.size + 2, 1, none⟩) hne _, (h.bel.setCell (by show w.heap.size ≤ w.heap.size + 2; omega) _).setCell (by show w.heap.size ≤ w.heap.size + 2; omega) _⟩
end
section
variable (w : World) (P : List Int) (S : RSt)
set_option maxRecDepth 100000 in
set_option maxHeartbeats 4000000 in
theorem rRecv_kind (m : Mg) (h : RAt w P S) (hk : m.kind < 1 ∨ 4 < m.kind) : Calls Try.prog 27 #[.agg #[.slice (some ⟨S.gp, 0, none⟩) P.length S.kp, .slice (some ⟨S.g, 0, none⟩) P.length S.kn], mv m] w (ZRes w P (rps S, []) 16) := by
  have sm := h.sm
  obtain ⟨W0, hW0, HV0, hs⟩ := RvW.start h m
  have HV := Kept.mk HV0
  have k0 := HV0.bx.cell 0 (v := .slice (some ⟨S.gp, 0, none⟩) P.length S.kp) rfl
  have k1 := HV0.bx.cell 1 (v := .slice (some ⟨S.g, 0, none⟩) P.length S.kn) rfl
  have m0 := HV0.mx.cell 0 (v := .int .i64 m.kind) rfl
  have r0 := HV0.rx.cell 0 (v := .slice none 0 0) rfl
  have r1 := HV0.rx.cell 1 (v := .slice none 0 0) rfl
  have r2 := HV0.rx.free 0
  have r3 := HV0.rx.free 1
  have r4 := HV0.rx.lt
  clear h HV0
  unfold mv
  rcases hk with hk | hk
  all_goals
    go_enter Try.func27, Try.ntmps27
    go_upto_region 1 with fail
    rw [← hW0]
    clear hW0
    go_wp2_with fail
    obtain ⟨W6, hW6⟩ : ∃ W6, W6 = (W0.setCell ⟨w.heap.size + 2, 0, none⟩ (.slice (some ⟨S.gp, 0, none⟩) P.length S.kp)).setCell ⟨w.heap.size + 2, 1, none⟩ (.slice (some ⟨S.g, 0, none⟩) P.length S.kn) := ⟨_, rfl⟩
    obtain ⟨s0, s1, hA6, hM6, hb6⟩ := HV.out.fin (A := none) (kap := 0) (l := []) (World.ownsRow_nil _ _ _ _) hW6
    rw [← hW6]
    clear hW6 r0 r1 r2 r3
    refine bodyPost_ret (v := .tuple #[.agg #[.slice (some ⟨S.gp, 0, none⟩) P.length S.kp, .slice (some ⟨S.g, 0, none⟩) P.length S.kn], .slice none 0 0, .int .i64 16]) (by simp [results, Try.results27, go_sem, s0, s1]) rfl ?_
    exact ⟨S, none, 0, rfl, rfl, hA6, hM6, hb6⟩
set_option maxRecDepth 100000 in
set_option maxHeartbeats 4000000 in
theorem rRecv_node (m : Mg) (h : RAt w P S) (hk : ¬ (m.kind < 1 ∨ 4 < m.kind)) (hn : m.frm < 0 ∨ P.length ≤ m.frm ∨ m.to_ < 0 ∨ P.length ≤ m.to_) : Calls Try.prog 27 #[.agg #[.slice (some ⟨S.gp, 0, none⟩) P.length S.kp, .slice (some ⟨S.g, 0, none⟩) P.length S.kn], mv m] w (ZRes w P (rps S, []) 2) := by
  have sm := h.sm
  have hk1 : ¬ m.kind < 1 := by omega
  have hk2 : ¬ 4 < m.kind := by omega
  obtain ⟨W0, hW0, HV0, hs⟩ := RvW.start h m
  have HV := Kept.mk HV0
  have k0 := HV0.bx.cell 0 (v := .slice (some ⟨S.gp, 0, none⟩) P.length S.kp) rfl
  have k1 := HV0.bx.cell 1 (v := .slice (some ⟨S.g, 0, none⟩) P.length S.kn) rfl
  have m0 := HV0.mx.cell 0 (v := .int .i64 m.kind) rfl
  have m1 := HV0.mx.cell 1 (v := .int .i64 m.frm) rfl
  have m2 := HV0.mx.cell 2 (v := .int .i64 m.to_) rfl
  have r0 := HV0.rx.cell 0 (v := .slice none 0 0) rfl
  have r1 := HV0.rx.cell 1 (v := .slice none 0 0) rfl
  have r2 := HV0.rx.free 0
  have r3 := HV0.rx.free 1
  have r4 := HV0.rx.lt
  clear h HV0 hk
  unfold mv
  generalize m.kind = mk at *
  generalize m.frm = mf at *
  generalize m.to_ = mt at *
  rcases (by omega : mf < 0 ∨ (0 ≤ mf ∧ (P.length : Int) ≤ mf) ∨ (0 ≤ mf ∧ mf < (P.length : Int) ∧ mt < 0) ∨ (0 ≤ mf ∧ mf < (P.length : Int) ∧ 0 ≤ mt ∧ (P.length : Int) ≤ mt)) with hn | ⟨h1, h2⟩ | ⟨h1, h2, h3⟩ | ⟨h1, h2, h3, h4⟩
  all_goals
    go_enter Try.func27, Try.ntmps27
    go_upto_region 1 with fail
    rw [← hW0]
    clear hW0
    go_wp2_with fail
    obtain ⟨W6, hW6⟩ : ∃ W6, W6 = (W0.setCell ⟨w.heap.size + 2, 0, none⟩ (.slice (some ⟨S.gp, 0, none⟩) P.length S.kp)).setCell ⟨w.heap.size + 2, 1, none⟩ (.slice (some ⟨S.g, 0, none⟩) P.length S.kn) := ⟨_, rfl⟩
    obtain ⟨s0, s1, hA6, hM6, hb6⟩ := HV.out.fin (A := none) (kap := 0) (l := []) (World.ownsRow_nil _ _ _ _) hW6
    rw [← hW6]
    clear hW6 r0 r1 r2 r3
    refine bodyPost_ret (v := .tuple #[.agg #[.slice (some ⟨S.gp, 0, none⟩) P.length S.kp, .slice (some ⟨S.g, 0, none⟩) P.length S.kn], .slice none 0 0, .int .i64 2]) (by simp [results, Try.results27, go_sem, s0, s1]) rfl ?_
    exact ⟨S, none, 0, rfl, rfl, hA6, hM6, hb6⟩
end
end Go.Proofs.Ytibmbhnpmfgclaa
