/- Reconfig: the reference's begin. -/
import Derived.Test.YtibmbhnpmfgclaaRZD
namespace Go.Proofs.Ytibmbhnpmfgclaa
set_option linter.unusedVariables false
set_option linter.unusedSimpArgs false
open Go.RowKit Go.Maps
section
variable (w : World) (P : List Int) (S : RSt)
set_option maxRecDepth 100000 in
set_option maxHeartbeats 4000000 in
theorem rbegin_c (v : Nat) (n : Rn) (h : RAt w P S) (hv : S.N[v]? = some n) (he : n.x.ep ≤ 1000000) : Calls Try.prog 51 #[.agg #[.slice (some ⟨S.gp, 0, none⟩) P.length S.kp, .slice (some ⟨S.g, 0, none⟩) P.length S.kn], .int .i64 v] w (ZUpd w P S (rBegin P (rps S) v)) := by
  have HH := Kept.mk h
  have HV := Kept.mk hv
  have sm := h.sm
  have hmk := fun w => run_make_flat (P := Try.prog) ycell_len (by omega) false 66 4 _ 1 Try.underlying66 infoBo rfl P.length (by omega) (by omega) w
  obtain ⟨W0, hW0, hb, hr, hd, hs⟩ := two_boxes w 53 #[.slice (some ⟨S.gp, 0, none⟩) P.length S.kp, .slice (some ⟨S.g, 0, none⟩) P.length S.kn] #[.slice none 0 0, .slice none 0 0]
  have HB := Kept.mk hb
  have HR := Kept.mk hr
  have HD := Kept.mk hd
  have HH0 := Kept.mk (h.new_ hd)
  obtain ⟨n0, n1, n2, n3, vl, zg, zp, fr⟩ := HH0.out.node hv
  have k0 := hb.cell 0 (v := .slice (some ⟨S.gp, 0, none⟩) P.length S.kp) rfl
  have k1 := hb.cell 1 (v := .slice (some ⟨S.g, 0, none⟩) P.length S.kn) rfl
  have zW := hb.lt
  have HX := Kept.mk (rps_get hv)
  have HNG : Kept (S.g ≠ w.heap.size + 1) := ⟨fun e => Blk.ne_ HR.out HH0.out.nodes.blk.choose_spec (by decide) e.symm⟩
  have HNB : Kept (w.heap.size ≠ S.g) := ⟨fun e => Blk.ne_ HB.out HH0.out.nodes.blk.choose_spec (by decide) e⟩
  have f1 := fr (v * 4 + 1)
  have hvN : v < S.N.length := by rw [h.len]; exact vl
  obtain ⟨hA1, hO1⟩ := HH0.out.putp HV.out 1
  rw [show ((1 : Nat) : Int) = 1 from rfl] at hA1 hO1
  obtain ⟨W1, hW1⟩ : ∃ W1, W1 = W0.setCell ⟨S.g, v * 4 + 1, none⟩ (.int .i64 1) := ⟨_, rfl⟩
  rw [← hW1] at hA1 hO1
  have hs1 : W1.heap.size = W0.heap.size := by rw [hW1, size_set']
  obtain ⟨W2, hW2⟩ : ∃ W2, W2 = ((W1.alloc (.cells ((List.replicate P.length false).flatMap ycell).toArray 4)).setCell ⟨S.g, v * 4 + 3, none⟩ (.slice (some ⟨W1.heap.size, 0, none⟩) P.length P.length)).drew := ⟨_, rfl⟩
  obtain ⟨hA2, hO2⟩ := hA1.puta (v := v) (n := ⟨{ n.x with ph := 1 }, n.A, n.k⟩) (by simpa using List.getElem?_set_self hvN) rfl hW2
  simp only [List.set_set] at hA2
  obtain ⟨N2, hN2⟩ : ∃ N2, N2 = S.N.set v ⟨⟨n.x.ep, 1, n.x.dr, List.replicate P.length false⟩, some ⟨W1.heap.size, 0, none⟩, P.length⟩ := ⟨_, rfl⟩
  have hv2 : N2[v]? = some ⟨⟨n.x.ep, 1, n.x.dr, List.replicate P.length false⟩, some ⟨W1.heap.size, 0, none⟩, P.length⟩ := by rw [hN2]; exact List.getElem?_set_self hvN
  have HP2 : Kept (rps ⟨S.gp, S.kp, S.g, S.kn, N2⟩ = (rps S).set v ⟨n.x.ep, 1, n.x.dr, List.replicate P.length false⟩) := ⟨by rw [hN2]; exact rps_set⟩
  have HA2 : Kept (RAt W2 P ⟨S.gp, S.kp, S.g, S.kn, N2⟩) := ⟨by rw [hN2]; exact hA2⟩
  have HV2 := Kept.mk hv2
  have HO2 := Kept.mk (((OnlyP.of_below HD.out _).trans hO1).trans hO2)
  have hB1 := HB.out.only hO1 HNB.out
  have hR1 := HR.out.only hO1 (fun e => HNG.out e.symm)
  have HB2 := Kept.mk (hB1.only hO2 HNB.out)
  have HR2 := Kept.mk (hR1.only hO2 (fun e => HNG.out e.symm))
  have k11 := hB1.cell 1 (v := .slice (some ⟨S.g, 0, none⟩) P.length S.kn) rfl
  have zW1 := hB1.lt
  have zg1 := hA1.nodes.lt
  have hbW : Below W1.heap.size W1 (W1.alloc (.cells ((List.replicate P.length false).flatMap ycell).toArray 4)) := (Below.refl _ _).alloc (Nat.le_refl _) _
  have ee := (hA1.new_ hbW).node (v := v) (n := ⟨{ n.x with ph := 1 }, n.A, n.k⟩) (by simpa using List.getElem?_set_self hvN)
  have e3 := ee.n3
  have eg := ee.zg
  have g3 := ee.fr (v * 4 + 3)
  have b0 := HB2.out.cell 0 (v := .slice (some ⟨S.gp, 0, none⟩) P.length S.kp) rfl
  have b1 := HB2.out.cell 1 (v := .slice (some ⟨S.g, 0, none⟩) P.length S.kn) rfl
  have b2 := HB2.out.lt
  have hkl := kids_len P v
  have hz2 := HO2.out.size
  clear h hv hb hr hd fr ee hA1 hO1 hA2 hO2 hv2 hN2 hB1 hR1
  unfold rBegin
  rw [HX.out, ← HP2.out]
  by_cases hk : kids P v = []
  · rw [if_pos hk]
    have HK : Kept ((kids P v).length = 0) := ⟨by rw [hk]; rfl⟩
    clear hk
    go_enter Try.func51, Try.ntmps51
    go_upto_region 1 with fail
    rw [← hW0]
    clear hW0
    go_upto_region 2 with fail
    rw [← hW1]
    clear hW1 n0 n1 n2 n3 k0 k1 zW f1 zg zp
    go_region
    rw [hs1, hs] at hW2
    rw [← hW2]
    clear hW2 e3 eg g3 hmk
    go_upto_region 4 with ((go_at_call 57; refine (kids_c _ P _ v HA2.out).mono ?_; rintro e w3 ⟨Ak, kk, rfl, ho, hb⟩; rw [HK.out]; have HA3 := Kept.mk (HA2.out.new_ hb); have HR3 := Kept.mk (HR2.out.new_ hb); have HO3 := Kept.mk (HO2.out.new hb); have hB3 := HB2.out.new_ hb; clear ho hb; have c0 := hB3.cell 0 (v := .slice (some ⟨S.gp, 0, none⟩) P.length S.kp) rfl; have c1 := hB3.cell 1 (v := .slice (some ⟨S.g, 0, none⟩) P.length S.kn) rfl; have c2 := hB3.lt; clear hB3))
    go_wp2_with ((go_at_call 54; refine (rprepared_c _ P _ v _ HA3.out HV2.out he).mono ?_; rintro e w4 ⟨S1, A, kap, rfl, hps, hA, hM, hO, hg⟩; have HP4 := Kept.mk hps; have HA4 := Kept.mk hA; have HM4 := Kept.mk hM; have HO4 := Kept.mk hO; have HG4 := Kept.mk hg; have HR4 := Kept.mk (HR3.out.only hO (fun e => HNG.out e.symm)); clear hps hA hM hO hg; have q0 := HR4.out.cell 0 (v := .slice none 0 0) rfl; have q1 := HR4.out.cell 1 (v := .slice none 0 0) rfl; have q2 := HR4.out.free 0; have q3 := HR4.out.free 1; have q4 := HR4.out.lt))
    obtain ⟨W6, hW6⟩ : ∃ W6, W6 = (w4.setCell ⟨w.heap.size + 1, 0, none⟩ (.slice (some ⟨S1.gp, 0, none⟩) P.length S1.kp)).setCell ⟨w.heap.size + 1, 1, none⟩ (.slice (some ⟨S1.g, 0, none⟩) P.length S1.kn) := ⟨_, rfl⟩
    obtain ⟨s0, s1, hA6, hM6, hO6⟩ := z_end HA4.out HR4.out (own_base HM4.out HO3.out.size) (HO3.out.trans HO4.out) hW6
    rw [← hW6]
    clear hW6 q0 q1 q2 q3
    refine bodyPost_ret (v := .tuple #[.agg #[.slice (some ⟨S1.gp, 0, none⟩) P.length S1.kp, .slice (some ⟨S1.g, 0, none⟩) P.length S1.kn], .slice A (rPrepared P (rps ⟨S.gp, S.kp, S.g, S.kn, N2⟩) v).2.length kap]) (by simp [results, Try.results51, go_sem, s0, s1]) rfl ?_
    exact ⟨S1, A, kap, rfl, HP4.out, hA6, hM6, hO6, HG4.out⟩
  · rw [if_neg hk]
    have HK : Kept ((kids P v).length ≠ 0) := ⟨fun e => hk (List.eq_nil_of_length_eq_zero e)⟩
    obtain ⟨kl, hkl2⟩ : ∃ kl, (kids P v).length = kl := ⟨_, rfl⟩
    have hk0 : kl ≠ 0 := by rw [← hkl2]; exact HK.out
    replace hkl2 := Kept.mk hkl2
    clear hk
    go_enter Try.func51, Try.ntmps51
    go_upto_region 1 with fail
    rw [← hW0]
    clear hW0
    go_upto_region 2 with fail
    rw [← hW1]
    clear hW1 n0 n1 n2 n3 k0 k1 zW f1 zg zp
    go_region
    rw [hs1, hs] at hW2
    rw [← hW2]
    clear hW2 e3 eg g3 hmk
    go_upto_region 5 with ((go_at_call 57; refine (kids_c _ P _ v HA2.out).mono ?_; rintro e w3 ⟨Ak, kk, rfl, ho, hb⟩; rw [hkl2.out]; have HA3 := Kept.mk (HA2.out.new_ hb); have HR3 := Kept.mk (HR2.out.new_ hb); have HO3 := Kept.mk (HO2.out.new hb); have hB3 := HB2.out.new_ hb; have HB3 := Kept.mk hB3; clear ho hb; have c0 := hB3.cell 0 (v := .slice (some ⟨S.gp, 0, none⟩) P.length S.kp) rfl; have c1 := hB3.cell 1 (v := .slice (some ⟨S.g, 0, none⟩) P.length S.kn) rfl; have c2 := hB3.lt; clear hB3))
    have HWR : Kept (IntKind.i64.wrap ((n.x.ep : Int) + 1) = (n.x.ep : Int) + 1) := ⟨by rw [IntKind.wrap_i64]; omega⟩
    clear b0 b1 b2 hz2 k11 zW1 zg1 hbW hs1 hkl
    have m0 := (HA3.out.node HV2.out).n0
    have m1 := HA3.out.nodes.lt
    simp only at m0 m1
    have HA3d := Kept.mk (HA3.out.new_ (bdrew (Below.refl _ _)))
    have HB3d := Kept.mk (HB3.out.drew)
    have HR3d := Kept.mk (HR3.out.drew)
    have HO3d := Kept.mk (HO3.out.drew)
    go_region_held3 (fun w' => w'.cell? ⟨w.heap.size, 0, none⟩ = some (.slice (some ⟨S.gp, 0, none⟩) P.length S.kp) ∧ w'.cell? ⟨w.heap.size, 1, none⟩ = some (.slice (some ⟨S.g, 0, none⟩) P.length S.kn) ∧ w'.cell? ⟨S.g, v * 4, none⟩ = some (.int .i64 n.x.ep)) (first | exact ⟨c0, c1, m0⟩ | exact ⟨HB5.out.cell 0 rfl, HB5.out.cell 1 rfl, HQ5.out⟩ | exact ⟨HB6.out.cell 0 rfl, HB6.out.cell 1 rfl, HQ6.out⟩) ((go_at_call 66; refine (rdown_c _ P ⟨S.gp, S.kp, S.g, S.kn, N2⟩ 1 v _ HA3d.out).mono ?_; rintro e w5 ⟨A, kap, rfl, ho, hb⟩; rw [HWR.out] at ho; have HM5 := Kept.mk ho; have HA5 := Kept.mk (HA3d.out.new_ hb); have HB5 := Kept.mk (HB3d.out.new_ hb); have HR5 := Kept.mk (HR3d.out.new_ hb); have HO5 := Kept.mk (HO3d.out.new hb); have HQ5 := Kept.mk (((bcell hb).1 S.g (v * 4) m1).trans m0); clear ho hb; have r0 := HR5.out.cell 0 (v := .slice none 0 0) rfl; have r1 := HR5.out.cell 1 (v := .slice none 0 0) rfl; have f0 := HR5.out.free 0; have f1 := HR5.out.free 1; have yy := HR5.out.lt; have HB6 := Kept.mk ((HB5.out.far (p := ⟨w.heap.size + 1, 0, none⟩) (by show w.heap.size ≠ w.heap.size + 1; omega) (.slice (some ⟨S.gp, 0, none⟩) P.length S.kp)).far (p := ⟨w.heap.size + 1, 1, none⟩) (by show w.heap.size ≠ w.heap.size + 1; omega) (.slice (some ⟨S.g, 0, none⟩) P.length S.kn)); have HQ6 := Kept.mk (far2 HQ5.out HNG.out (.slice (some ⟨S.gp, 0, none⟩) P.length S.kp) (.slice (some ⟨S.g, 0, none⟩) P.length S.kn))))
    rw [HWR.out]
    obtain ⟨W6, hW6⟩ : ∃ W6, W6 = (w5.setCell ⟨w.heap.size + 1, 0, none⟩ (.slice (some ⟨S.gp, 0, none⟩) P.length S.kp)).setCell ⟨w.heap.size + 1, 1, none⟩ (.slice (some ⟨S.g, 0, none⟩) P.length S.kn) := ⟨_, rfl⟩
    obtain ⟨s0, s1, hA6, hM6, hO6⟩ := z_end HA5.out HR5.out (own_base HM5.out (by simpa using HO3.out.size)) HO5.out hW6
    rw [← hW6]
    clear hW6 c0 c1 m0 r0 r1 f0 f1 HB6 HQ6 HB5 HR5
    go_wp2_with fail
    refine bodyPost_ret (v := .tuple #[.agg #[.slice (some ⟨S.gp, 0, none⟩) P.length S.kp, .slice (some ⟨S.g, 0, none⟩) P.length S.kn], .slice A (rDown P 1 v ((n.x.ep : Int) + 1)).length kap]) (by simp [results, Try.results51, go_sem, s0, s1]) rfl ?_
    exact ⟨⟨S.gp, S.kp, S.g, S.kn, N2⟩, A, kap, rfl, rfl, hA6, hM6, hO6, rfl⟩
end
end Go.Proofs.Ytibmbhnpmfgclaa
