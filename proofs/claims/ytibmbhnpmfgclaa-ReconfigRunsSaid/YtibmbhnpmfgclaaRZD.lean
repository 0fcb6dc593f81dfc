/- Reconfig: the reference's prepared, rest and begin. -/
import Derived.Test.YtibmbhnpmfgclaaRZC
namespace Go.Proofs.Ytibmbhnpmfgclaa
set_option linter.unusedVariables false
set_option linter.unusedSimpArgs false
open Go.RowKit Go.Maps
theorem RAt.putp {w : World} {P : List Int} {S : RSt} {v : Nat} {n : Rn} (h : RAt w P S) (hv : S.N[v]? = some n) (p : Nat) :
    RAt (w.setCell ⟨S.g, v * 4 + 1, none⟩ (.int .i64 p)) P { S with N := S.N.set v ⟨{ n.x with ph := p }, n.A, n.k⟩ } ∧ OnlyP (fun b => b = S.g) w (w.setCell ⟨S.g, v * 4 + 1, none⟩ (.int .i64 p)) := by
  have hO : OnlyP (fun b => b = S.g) w (w.setCell ⟨S.g, v * 4 + 1, none⟩ (.int .i64 p)) := (OnlyP.refl (fun b => b = S.g) w).set (p := ⟨S.g, v * 4 + 1, none⟩) (.inl rfl) _
  exact ⟨h.put hv hO (h.nodes.setj (y := ⟨{ n.x with ph := p }, n.A, n.k⟩) (j := 1) (a := .int .i64 p) hv (by omega) rfl) (h.lle n (List.mem_of_getElem? hv)) (.inl ⟨rfl, rfl⟩), hO⟩
theorem RAt.puta {w W : World} {P : List Int} {S : RSt} {v : Nat} {n : Rn} (h : RAt w P S) (hv : S.N[v]? = some n) {W2 : World}
    (hW : W = w.alloc (.cells ((List.replicate P.length false).flatMap ycell).toArray 4)) (hW2 : W2 = (W.setCell ⟨S.g, v * 4 + 3, none⟩ (.slice (some ⟨w.heap.size, 0, none⟩) P.length P.length)).drew) :
    RAt W2 P { S with N := S.N.set v ⟨{ n.x with L := List.replicate P.length false }, some ⟨w.heap.size, 0, none⟩, P.length⟩ } ∧ OnlyP (fun b => b = S.g) w W2 := by
  have hA : OwnAt W w.heap.size 4 1 ycell (List.replicate P.length false) := by rw [hW]; exact new_answers w _
  have hbW : Below w.heap.size w W := by rw [hW]; exact (Below.refl _ _).alloc (Nat.le_refl _) _
  have o0 := h.nodes.new_ hbW
  have o4 := o0.setj (y := ⟨{ n.x with L := List.replicate P.length false }, some ⟨w.heap.size, 0, none⟩, P.length⟩) (j := 3) (a := .slice (some ⟨w.heap.size, 0, none⟩) P.length P.length) hv (by omega) (by simp [rcell])
  have hne := h.nodes.lt
  have hO : OnlyP (fun b => b = S.g) w W2 := by
    rw [hW2]
    exact (((OnlyP.of_below hbW (fun b => b = S.g)).set (p := ⟨S.g, v * 4 + 3, none⟩) (.inl rfl) _)).drew
  refine ⟨h.put hv hO (by rw [hW2]; exact o4.drew) (by simp) (.inr fun _ => ⟨w.heap.size, rfl, Nat.le_refl _, ?_⟩), hO⟩
  rw [hW2]
  exact (hA.far (by show w.heap.size ≠ S.g; omega) _).drew
theorem z_rise {w W : World} {P : List Int} {S S' : RSt} {m : Mg} (hA : RAt W P S') (hR : Blk W (w.heap.size + 1) 53 #[.slice none 0 0, .slice none 0 0]) (hO : OnlyP (fun b => b = S.g) w W) {W' : World}
    (hW : W' = (((W.setCell ⟨w.heap.size + 1, 0, none⟩ (.slice (some ⟨S'.gp, 0, none⟩) P.length S'.kp)).setCell ⟨w.heap.size + 1, 1, none⟩ (.slice (some ⟨S'.g, 0, none⟩) P.length S'.kn)).alloc (.cells #[.int .i64 m.kind, .int .i64 m.frm, .int .i64 m.to_, .int .i64 m.ep] 62)).drew) :
    W'.cell? ⟨w.heap.size + 1, 0, none⟩ = some (.slice (some ⟨S'.gp, 0, none⟩) P.length S'.kp) ∧ W'.cell? ⟨w.heap.size + 1, 1, none⟩ = some (.slice (some ⟨S'.g, 0, none⟩) P.length S'.kn) ∧
    RAt W' P S' ∧ W'.ownsRow w.heap.size 62 4 (.slice (some ⟨W.heap.size, 0, none⟩) 1 1) 1 ([m].flatMap mcell) ∧ OnlyP (fun b => b = S.g) w W' := by
  obtain ⟨W6, hW6⟩ : ∃ W6, W6 = (W.setCell ⟨w.heap.size + 1, 0, none⟩ (.slice (some ⟨S'.gp, 0, none⟩) P.length S'.kp)).setCell ⟨w.heap.size + 1, 1, none⟩ (.slice (some ⟨S'.g, 0, none⟩) P.length S'.kn) := ⟨_, rfl⟩
  have hs : W6.heap.size = W.heap.size := by rw [hW6, size_set', size_set']
  have hlt := hR.lt
  obtain ⟨s0, s1, hA6, -, hO6⟩ := z_end (A := none) (kap := 0) (l := []) hA hR (World.ownsRow_nil _ _ _ _) hO hW6
  rw [← hW6] at hW
  have hb : Below W6.heap.size W6 W' := by rw [hW]; exact bdrew ((Below.refl _ _).alloc (Nat.le_refl _) _)
  refine ⟨((bcell hb).1 _ _ (by omega)).trans s0, ((bcell hb).1 _ _ (by omega)).trans s1, hA6.new_ hb, ?_, hO6.new hb⟩
  rw [hW, ← hs]
  have : (W6.alloc (.cells #[.int .i64 m.kind, .int .i64 m.frm, .int .i64 m.to_, .int .i64 m.ep] 62)).ownsRow w.heap.size 62 4 (.slice (some ⟨W6.heap.size, 0, none⟩) 1 1) 1 ([m].flatMap mcell) :=
    ⟨by simp [mcell], .inr ⟨W6.heap.size, 1, _, rfl, by have := hO6.size; omega, heap_alloc_new W6 _, Nat.le_refl _, by unfold maxLen; omega, by simp, by simp [mcell]⟩⟩
  exact this
section
variable (w : World) (P : List Int) (S : RSt)
set_option maxRecDepth 100000 in
set_option maxHeartbeats 4000000 in
theorem rprepared_c (v : Nat) (n : Rn) (h : RAt w P S) (hv : S.N[v]? = some n) (he : n.x.ep ≤ 1000000) : Calls Try.prog 54 #[.agg #[.slice (some ⟨S.gp, 0, none⟩) P.length S.kp, .slice (some ⟨S.g, 0, none⟩) P.length S.kn], .int .i64 v] w (ZUpd w P S (rPrepared P (rps S) v)) := by
  have HH := Kept.mk h
  have HV := Kept.mk hv
  have sm := h.sm
  obtain ⟨W0, hW0, hb, hr, hd, hs⟩ := two_boxes w 53 #[.slice (some ⟨S.gp, 0, none⟩) P.length S.kp, .slice (some ⟨S.g, 0, none⟩) P.length S.kn] #[.slice none 0 0, .slice none 0 0]
  have HB := Kept.mk hb
  have HR := Kept.mk hr
  have HD := Kept.mk hd
  have HH0 := Kept.mk (h.new_ hd)
  obtain ⟨n0, n1, n2, n3, vl, zg, zp, fr⟩ := HH0.out.node hv
  obtain ⟨x, hx, hxc⟩ := HH0.out.par.int vl
  have hpx : parI P v = x := by simp [parI, hx]
  have k0 := hb.cell 0 (v := .slice (some ⟨S.gp, 0, none⟩) P.length S.kp) rfl
  have k1 := hb.cell 1 (v := .slice (some ⟨S.g, 0, none⟩) P.length S.kn) rfl
  have zW := hb.lt
  have HX := Kept.mk (rps_get hv)
  have HNG : Kept (S.g ≠ w.heap.size + 1) := ⟨fun e => Blk.ne_ HR.out HH0.out.nodes.blk.choose_spec (by decide) e.symm⟩
  have HNB : Kept (w.heap.size ≠ S.g) := ⟨fun e => Blk.ne_ HB.out HH0.out.nodes.blk.choose_spec (by decide) e⟩
  have f1 := fr (v * 4 + 1)
  clear h hv hb hr hd hx fr
  unfold rPrepared
  rw [hpx]
  by_cases h0 : x < 0
  · rw [if_pos h0]
    have r0 := HR.out.lt
    go_enter Try.func54, Try.ntmps54
    go_upto_region 1 with fail
    rw [← hW0]
    clear hW0
    go_wp2_with ((go_at_call 55; refine (rcommit_c _ P S v n HH0.out HV.out he).mono ?_; rintro e w1 ⟨S1, A, kap, rfl, hps, hA, hM, hO, hg⟩; have HP1 := Kept.mk hps; have HA1 := Kept.mk hA; have HG1 := Kept.mk hg; have HM1 := Kept.mk hM; have HO1 := Kept.mk hO; have HR1 := Kept.mk (HR.out.only hO (fun e => HNG.out e.symm)); clear hps hA hM hO hg; have q0 := HR1.out.cell 0 (v := .slice none 0 0) rfl; have q1 := HR1.out.cell 1 (v := .slice none 0 0) rfl; have q2 := HR1.out.free 0; have q3 := HR1.out.free 1; have q4 := HR1.out.lt))
    obtain ⟨W6, hW6⟩ : ∃ W6, W6 = (w1.setCell ⟨w.heap.size + 1, 0, none⟩ (.slice (some ⟨S1.gp, 0, none⟩) P.length S1.kp)).setCell ⟨w.heap.size + 1, 1, none⟩ (.slice (some ⟨S1.g, 0, none⟩) P.length S1.kn) := ⟨_, rfl⟩
    obtain ⟨s0, s1, hA6, hM6, hO6⟩ := z_end HA1.out HR1.out (own_base HM1.out (by omega)) ((OnlyP.of_below HD.out _).trans HO1.out) hW6
    rw [← hW6]
    clear hW6 q0 q1 q2 q3
    refine bodyPost_ret (v := .tuple #[.agg #[.slice (some ⟨S1.gp, 0, none⟩) P.length S1.kp, .slice (some ⟨S1.g, 0, none⟩) P.length S1.kn], .slice A (rCommit P (rps S) v).2.length kap]) (by simp [results, Try.results54, go_sem, s0, s1]) rfl ?_
    exact ⟨S1, A, kap, rfl, HP1.out, hA6, hM6, hO6, HG1.out⟩
  · rw [if_neg h0]
    obtain ⟨hA1, hO1⟩ := HH0.out.putp HV.out 2
    rw [show ((2 : Nat) : Int) = 2 from rfl] at hA1 hO1
    obtain ⟨W1, hW1⟩ : ∃ W1, W1 = W0.setCell ⟨S.g, v * 4 + 1, none⟩ (.int .i64 2) := ⟨_, rfl⟩
    rw [← hW1] at hA1 hO1
    have HA1 := Kept.mk hA1
    have HO1 := Kept.mk ((OnlyP.of_below HD.out _).trans hO1)
    have hB1 := HB.out.only hO1 HNB.out
    have hR1 := HR.out.only hO1 (fun e => HNG.out e.symm)
    have HR1 := Kept.mk hR1
    have hN1 := hA1.node (v := v) (List.getElem?_set_self (by rw [HH.out.len]; exact vl))
    have m0 := hN1.n0
    have mg := hN1.zg
    obtain ⟨x', hx', mx⟩ := hA1.par.int vl
    obtain rfl : x' = x := by have : parI P v = x' := by simp [parI, hx']
                              rw [← this, hpx]
    have mp := hA1.par.lt
    have b0 := hB1.cell 0 (v := .slice (some ⟨S.gp, 0, none⟩) P.length S.kp) rfl
    have b1 := hB1.cell 1 (v := .slice (some ⟨S.g, 0, none⟩) P.length S.kn) rfl
    have b2 := hB1.lt
    have a0 := hR1.cell 0 (v := .slice none 0 0) rfl
    have a1 := hR1.cell 1 (v := .slice none 0 0) rfl
    have a2 := hR1.free 0
    have a3 := hR1.free 1
    have a4 := hR1.lt
    clear hA1 hO1 hB1 hR1 hN1 hx'
    go_enter Try.func54, Try.ntmps54
    go_upto_region 1 with fail
    rw [← hW0]
    clear hW0
    go_upto_region 4 with fail
    rw [← hW1]
    clear hW1 n0 n1 n2 n3 k0 k1 zW f1 zg zp hxc
    have zg0 := HH.out.nodes.lt
    have zp0 := HH.out.par.lt
    go_region
    obtain ⟨W6, hW6⟩ : ∃ W6, W6 = (((W1.setCell ⟨w.heap.size + 1, 0, none⟩ (.slice (some ⟨S.gp, 0, none⟩) P.length S.kp)).setCell ⟨w.heap.size + 1, 1, none⟩ (.slice (some ⟨S.g, 0, none⟩) P.length S.kn)).alloc (.cells #[.int .i64 2, .int .i64 v, .int .i64 x', .int .i64 ((n.x.ep : Int) + 1)] 62)).drew := ⟨_, rfl⟩
    obtain ⟨s0, s1, hA6, hM6, hO6⟩ := z_rise (m := ⟨2, v, x', (n.x.ep : Int) + 1⟩) HA1.out HR1.out HO1.out hW6
    rw [← hW6]
    have HP6 := Kept.mk (rps_set (S := S) (v := v) (n := ⟨{ n.x with ph := 2 }, n.A, n.k⟩))
    have HA6 := Kept.mk hA6
    have HM6 := Kept.mk hM6
    have HO6 := Kept.mk hO6
    clear hW6 a0 a1 a2 a3 b0 b1 m0 mx hA6 hM6 hO6
    generalize W6.heap.size = zz
    go_wp2_with fail
    refine bodyPost_ret (v := .tuple #[.agg #[.slice (some ⟨S.gp, 0, none⟩) P.length S.kp, .slice (some ⟨S.g, 0, none⟩) P.length S.kn], .slice (some ⟨W1.heap.size, 0, none⟩) 1 1]) (by simp [results, Try.results54, go_sem, s0, s1]) rfl ?_
    refine ⟨{ S with N := S.N.set v ⟨{ n.x with ph := 2 }, n.A, n.k⟩ }, some ⟨W1.heap.size, 0, none⟩, 1, rfl, ?_, HA6.out, ?_, HO6.out, rfl⟩
    · rw [HP6.out, HX.out]
    · rw [HX.out]; unfold riseP; rw [hpx]; exact HM6.out
end
end Go.Proofs.Ytibmbhnpmfgclaa
