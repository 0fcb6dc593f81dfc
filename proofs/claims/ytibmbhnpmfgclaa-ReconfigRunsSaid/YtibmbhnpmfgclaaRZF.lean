/- Reconfig: the reference's rest. -/
import Derived.Test.YtibmbhnpmfgclaaRZE
namespace Go.Proofs.Ytibmbhnpmfgclaa
set_option linter.unusedVariables false
set_option linter.unusedSimpArgs false
open Go.RowKit Go.Maps
section
variable (w : World) (P : List Int) (S : RSt)
set_option maxRecDepth 100000 in
set_option maxHeartbeats 4000000 in
theorem rrest_c (v : Nat) (n : Rn) (h : RAt w P S) (hv : S.N[v]? = some n) (hL : n.x.L.length = P.length) : Calls Try.prog 56 #[.agg #[.slice (some ⟨S.gp, 0, none⟩) P.length S.kp, .slice (some ⟨S.g, 0, none⟩) P.length S.kn], .int .i64 v] w (ZUpd w P S (rRest P (rps S) v)) := by
  have HH := Kept.mk h
  have HV := Kept.mk hv
  have HL := Kept.mk hL
  have sm := h.sm
  obtain ⟨W0, hW0, hb, hr, hd, hs⟩ := two_boxes w 53 #[.slice (some ⟨S.gp, 0, none⟩) P.length S.kp, .slice (some ⟨S.g, 0, none⟩) P.length S.kn] #[.slice none 0 0, .slice none 0 0]
  have HB := Kept.mk hb
  have HR := Kept.mk hr
  have HD := Kept.mk hd
  have HH0 := Kept.mk (h.new_ hd)
  obtain ⟨n0, n1, n2, n3, vl, zg, zp, fr⟩ := HH0.out.node hv
  have k0 := hb.cell 0 (v := .slice (some ⟨S.gp, 0, none⟩) P.length S.kp) rfl
  have k1 := hb.cell 1 (v := .slice (some ⟨S.g, 0, none⟩) P.length S.kn) rfl
  have zW := hb.lt
  have r0 := hr.cell 0 (v := .slice none 0 0) rfl
  have r1 := hr.cell 1 (v := .slice none 0 0) rfl
  have r2 := hr.free 0
  have r3 := hr.free 1
  have r4 := hr.lt
  have HX := Kept.mk (rps_get hv)
  have HNG : Kept (S.g ≠ w.heap.size + 1) := ⟨fun e => Blk.ne_ HR.out HH0.out.nodes.blk.choose_spec (by decide) e.symm⟩
  have HNB : Kept (w.heap.size ≠ S.g) := ⟨fun e => Blk.ne_ HB.out HH0.out.nodes.blk.choose_spec (by decide) e⟩
  clear h hv hb hr hd fr hL n0 n1 n3
  unfold rRest
  rw [HX.out]
  cases hdr : n.x.dr with
  | false =>
    rw [hdr] at n2
    rw [Bool.false_and, if_neg (by simp)]
    go_enter Try.func56, Try.ntmps56
    go_upto_region 1 with fail
    rw [← hW0]
    clear hW0
    go_wp2_with fail
    obtain ⟨W6, hW6⟩ : ∃ W6, W6 = (W0.setCell ⟨w.heap.size + 1, 0, none⟩ (.slice (some ⟨S.gp, 0, none⟩) P.length S.kp)).setCell ⟨w.heap.size + 1, 1, none⟩ (.slice (some ⟨S.g, 0, none⟩) P.length S.kn) := ⟨_, rfl⟩
    obtain ⟨s0, s1, hA6, hM6, hO6⟩ := z_end (A := none) (kap := 0) (l := []) HH0.out HR.out (World.ownsRow_nil _ _ _ _) (OnlyP.of_below HD.out (fun b => b = S.g)) hW6
    rw [← hW6]
    clear hW6
    refine bodyPost_ret (v := .tuple #[.agg #[.slice (some ⟨S.gp, 0, none⟩) P.length S.kp, .slice (some ⟨S.g, 0, none⟩) P.length S.kn], .slice none 0 0]) (by simp [results, Try.results56, go_sem, s0, s1]) rfl ?_
    exact ⟨S, none, 0, rfl, rfl, hA6, hM6, hO6, rfl⟩
  | true =>
    rw [hdr] at n2
    rw [Bool.true_and]
    have HALL := Kept.mk (rall_c W0 P S v n HH0.out HV.out HL.out)
    cases hal : rAll P n.x v with
    | false =>
      have HAL := Kept.mk hal
      clear hal
      rw [if_neg (by simp)]
      go_enter Try.func56, Try.ntmps56
      go_upto_region 1 with fail
      rw [← hW0]
      clear hW0
      go_wp2_with ((go_at_call 53; refine HALL.out.mono ?_; rintro e w1 ⟨rfl, hb⟩; rw [HAL.out]; have HA1 := Kept.mk (HH0.out.new_ hb); have HR1 := Kept.mk (HR.out.new_ hb); have HB1 := Kept.mk (HB.out.new_ hb); have HD1 := Kept.mk (join HD.out hb); clear hb; have k0 := HB1.out.cell 0 (v := .slice (some ⟨S.gp, 0, none⟩) P.length S.kp) rfl; have k1 := HB1.out.cell 1 (v := .slice (some ⟨S.g, 0, none⟩) P.length S.kn) rfl; have zW := HB1.out.lt; have r0 := HR1.out.cell 0 (v := .slice none 0 0) rfl; have r1 := HR1.out.cell 1 (v := .slice none 0 0) rfl; have r2 := HR1.out.free 0; have r3 := HR1.out.free 1; have r4 := HR1.out.lt))
      obtain ⟨W6, hW6⟩ : ∃ W6, W6 = (w1.setCell ⟨w.heap.size + 1, 0, none⟩ (.slice (some ⟨S.gp, 0, none⟩) P.length S.kp)).setCell ⟨w.heap.size + 1, 1, none⟩ (.slice (some ⟨S.g, 0, none⟩) P.length S.kn) := ⟨_, rfl⟩
      obtain ⟨s0, s1, hA6, hM6, hO6⟩ := z_end (A := none) (kap := 0) (l := []) HA1.out HR1.out (World.ownsRow_nil _ _ _ _) (OnlyP.of_below HD1.out (fun b => b = S.g)) hW6
      rw [← hW6]
      clear hW6
      refine bodyPost_ret (v := .tuple #[.agg #[.slice (some ⟨S.gp, 0, none⟩) P.length S.kp, .slice (some ⟨S.g, 0, none⟩) P.length S.kn], .slice none 0 0]) (by simp [results, Try.results56, go_sem, s0, s1]) rfl ?_
      exact ⟨S, none, 0, rfl, rfl, hA6, hM6, hO6, rfl⟩
    | true =>
      have HAL := Kept.mk hal
      clear hal
      rw [if_pos rfl]
      obtain ⟨x, hx, -⟩ := HH0.out.par.int vl
      have hpx : parI P v = x := by simp [parI, hx]
      have HPX := Kept.mk hpx
      have HXX := Kept.mk hx
      rw [hpx]
      have zg0 := HH.out.nodes.lt
      have zp0 := HH.out.par.lt
      have HP4 := Kept.mk (rps_set (S := S) (v := v) (n := ⟨{ n.x with ph := 0 }, n.A, n.k⟩))
      clear hx
      go_enter Try.func56, Try.ntmps56
      go_upto_region 1 with fail
      rw [← hW0]
      clear hW0
      go_upto_region 4 with ((go_at_call 53; refine HALL.out.mono ?_; rintro e w1 ⟨rfl, hb⟩; rw [HAL.out]; have HA1 := Kept.mk (HH0.out.new_ hb); have HR1 := Kept.mk (HR.out.new_ hb); have HB1 := Kept.mk (HB.out.new_ hb); have HD1 := Kept.mk (join HD.out hb); clear hb; have k0 := HB1.out.cell 0 (v := .slice (some ⟨S.gp, 0, none⟩) P.length S.kp) rfl; have k1 := HB1.out.cell 1 (v := .slice (some ⟨S.g, 0, none⟩) P.length S.kn) rfl; have zW := HB1.out.lt; have n1 := (RNode.n1 (HA1.out.node HV.out)); have zg := (HA1.out.node HV.out).zg; have f1 := RNode.fr (HA1.out.node HV.out) (v * 4 + 1)))
      obtain ⟨hA4, hO4⟩ := HA1.out.putp HV.out 0
      rw [show ((0 : Nat) : Int) = 0 from rfl] at hA4 hO4
      obtain ⟨W4, hW4⟩ : ∃ W4, W4 = w1.setCell ⟨S.g, v * 4 + 1, none⟩ (.int .i64 0) := ⟨_, rfl⟩
      rw [← hW4] at hA4 hO4
      have HA4 := Kept.mk hA4
      have HO4 := Kept.mk ((OnlyP.of_below HD1.out _).trans hO4)
      have hB4 := HB1.out.only hO4 HNB.out
      have hR4 := HR1.out.only hO4 (fun e => HNG.out e.symm)
      have HR4 := Kept.mk hR4
      have hN4 := hA4.node (v := v) (List.getElem?_set_self (by rw [HH.out.len]; exact vl))
      have m0 := hN4.n0
      have mg := hN4.zg
      obtain ⟨x', hx', mx⟩ := hA4.par.int vl
      obtain rfl : x' = x := by rw [HXX.out] at hx'; injection hx' with hx'; exact hx'.symm
      have mp := hA4.par.lt
      have b0 := hB4.cell 0 (v := .slice (some ⟨S.gp, 0, none⟩) P.length S.kp) rfl
      have b1 := hB4.cell 1 (v := .slice (some ⟨S.g, 0, none⟩) P.length S.kn) rfl
      have b2 := hB4.lt
      have a0 := hR4.cell 0 (v := .slice none 0 0) rfl
      have a1 := hR4.cell 1 (v := .slice none 0 0) rfl
      have a2 := hR4.free 0
      have a3 := hR4.free 1
      have a4 := hR4.lt
      rw [← hW4]
      clear hA4 hO4 hB4 hR4 hN4 hx' hW4 n1 n2 k0 k1 zW f1 zg zp r0 r1 r2 r3 r4
      by_cases h0 : x' < 0
      · rw [if_pos h0]
        go_wp2_with fail
        obtain ⟨W6, hW6⟩ : ∃ W6, W6 = (W4.setCell ⟨w.heap.size + 1, 0, none⟩ (.slice (some ⟨S.gp, 0, none⟩) P.length S.kp)).setCell ⟨w.heap.size + 1, 1, none⟩ (.slice (some ⟨S.g, 0, none⟩) P.length S.kn) := ⟨_, rfl⟩
        obtain ⟨s0, s1, hA6, hM6, hO6⟩ := z_end (A := none) (kap := 0) (l := []) HA4.out HR4.out (World.ownsRow_nil _ _ _ _) HO4.out hW6
        rw [← hW6]
        clear hW6
        refine bodyPost_ret (v := .tuple #[.agg #[.slice (some ⟨S.gp, 0, none⟩) P.length S.kp, .slice (some ⟨S.g, 0, none⟩) P.length S.kn], .slice none 0 0]) (by simp [results, Try.results56, go_sem, s0, s1]) rfl ?_
        exact ⟨{ S with N := S.N.set v ⟨{ n.x with ph := 0 }, n.A, n.k⟩ }, none, 0, rfl, by rw [HP4.out, hdr], hA6, hM6, hO6, rfl⟩
      · rw [if_neg h0]
        go_upto_region 6 with fail
        go_region
        obtain ⟨W6, hW6⟩ : ∃ W6, W6 = (((W4.setCell ⟨w.heap.size + 1, 0, none⟩ (.slice (some ⟨S.gp, 0, none⟩) P.length S.kp)).setCell ⟨w.heap.size + 1, 1, none⟩ (.slice (some ⟨S.g, 0, none⟩) P.length S.kn)).alloc (.cells #[.int .i64 4, .int .i64 v, .int .i64 x', .int .i64 n.x.ep] 62)).drew := ⟨_, rfl⟩
        obtain ⟨s0, s1, hA6, hM6, hO6⟩ := z_rise (m := ⟨4, v, x', (n.x.ep : Int)⟩) HA4.out HR4.out HO4.out hW6
        rw [← hW6]
        have HA6 := Kept.mk hA6
        have HM6 := Kept.mk hM6
        have HO6 := Kept.mk hO6
        clear hW6 a0 a1 a2 a3 b0 b1 m0 mx hA6 hM6 hO6
        go_wp2_with fail
        refine bodyPost_ret (v := .tuple #[.agg #[.slice (some ⟨S.gp, 0, none⟩) P.length S.kp, .slice (some ⟨S.g, 0, none⟩) P.length S.kn], .slice (some ⟨W4.heap.size, 0, none⟩) 1 1]) (by simp [results, Try.results56, go_sem, s0, s1]) rfl ?_
        refine ⟨{ S with N := S.N.set v ⟨{ n.x with ph := 0 }, n.A, n.k⟩ }, some ⟨W4.heap.size, 0, none⟩, 1, rfl, ?_, HA6.out, ?_, HO6.out, rfl⟩
        · rw [HP4.out, hdr]
        · unfold riseP; rw [HPX.out]; exact HM6.out
end
end Go.Proofs.Ytibmbhnpmfgclaa
