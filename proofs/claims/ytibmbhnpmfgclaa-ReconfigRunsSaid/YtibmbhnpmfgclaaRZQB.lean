/- Reconfig: the reference's Receive at a message of kind 2 (printed by gen_rzo.py). -/
import Derived.Test.YtibmbhnpmfgclaaRZO
namespace Go.Proofs.Ytibmbhnpmfgclaa
set_option linter.unusedVariables false
set_option linter.unusedSimpArgs false
open Go.RowKit Go.Maps
section
variable (w : World) (P : List Int) (S : RSt)
set_option maxRecDepth 100000 in
set_option maxHeartbeats 8000000 in
theorem rRecv_2 (f t : Nat) (ep : Int) (n : Rn) (h : RAt w P S) (hf : f < P.length) (ht : t < P.length) (hx : parI P f = t) (hv : S.N[t]? = some n) (he : n.x.ep ≤ 1000000) (hL : n.x.ph = 1 ∨ n.x.ph = 3 → n.x.L.length = P.length) : Calls Try.prog 27 #[.agg #[.slice (some ⟨S.gp, 0, none⟩) P.length S.kp, .slice (some ⟨S.g, 0, none⟩) P.length S.kn], mv ⟨2, f, t, ep⟩] w (ZRes w P (rGo P (rps S) ⟨2, f, t, ep⟩) 0) := by
  have sm := h.sm
  obtain ⟨W0, hW0, HV0, hs⟩ := RvW.start h ⟨2, f, t, ep⟩
  have HV := Kept.mk HV0
  have k0 := HV0.bx.cell 0 (v := .slice (some ⟨S.gp, 0, none⟩) P.length S.kp) rfl
  have k1 := HV0.bx.cell 1 (v := .slice (some ⟨S.g, 0, none⟩) P.length S.kn) rfl
  have m0 := HV0.mx.cell 0 (v := .int .i64 2) rfl
  have m1 := HV0.mx.cell 1 (v := .int .i64 f) rfl
  have m2 := HV0.mx.cell 2 (v := .int .i64 t) rfl
  have m3 := HV0.mx.cell 3 (v := .int .i64 ep) rfl
  have r0 := HV0.rx.cell 0 (v := .slice none 0 0) rfl
  have r1 := HV0.rx.cell 1 (v := .slice none 0 0) rfl
  have r2 := HV0.rx.free 0
  have r3 := HV0.rx.free 1
  have r4 := HV0.rx.lt
  have zb := HV0.bx.lt
  have zm := HV0.mx.lt
  obtain ⟨x, hpx, hxc⟩ := HV0.at_.par.int hf
  have hxx : parI P f = x := by simp [parI, hpx]
  rw [hxx] at hx
  obtain ⟨x1, x2⟩ := z_yes hx
  have zp := HV0.at_.par.lt
  clear h hpx hxx hx
  obtain ⟨n0, n1, n2, n3, vl, zg, -, -⟩ := HV0.at_.node hv
  have HX := Kept.mk (rps_get hv)
  have HL := Kept.mk hL
  have hwr : IntKind.i64.wrap ((n.x.ep : Int) + 1) = (n.x.ep : Int) + 1 := (by rw [IntKind.wrap_i64]; omega)
  have HN := Kept.mk hv
  clear HV0 hv hL
  unfold mv
  go_enter Try.func27, Try.ntmps27
  go_upto_region 1 with fail
  rw [← hW0]
  clear hW0
  go_wp2_with fail
  go_quiet (fail)
  obtain ⟨W1, hW1⟩ : ∃ W1, W1 = W0.drewN nq := ⟨_, rfl⟩
  have hb1 : Below W0.heap.size W0 W1 := by rw [hW1]; exact dN (Below.refl _ _) _
  have hz1 := hb1.size
  replace HV := Kept.mk (HV.out.new_ hb1)
  rw [← hW1]
  clear hb1 hW1 k0 k1 m0 m1 m2 m3 r0 r1 r2 r3 r4 zb zm hxc zp n0 n1 n2 n3 zg
  have k0 := HV.out.bx.cell 0 (v := .slice (some ⟨S.gp, 0, none⟩) P.length S.kp) rfl
  have k1 := HV.out.bx.cell 1 (v := .slice (some ⟨S.g, 0, none⟩) P.length S.kn) rfl
  have m2 := HV.out.mx.cell 2 (v := .int .i64 t) rfl
  have n0 := RNode.n0 (HV.out.at_.node HN.out)
  have n1 := RNode.n1 (HV.out.at_.node HN.out)
  have zg := RNode.zg (HV.out.at_.node HN.out)
  have zb := HV.out.bx.lt
  have zm := HV.out.mx.lt
  go_wp2_with fail
  go_quiet (fail)
  obtain ⟨W2, hW2⟩ : ∃ W2, W2 = W1.drewN nq := ⟨_, rfl⟩
  have hb1 : Below W1.heap.size W1 W2 := by rw [hW2]; exact dN (Below.refl _ _) _
  have hz2 := hb1.size
  replace HV := Kept.mk (HV.out.new_ hb1)
  rw [← hW2]
  clear hb1 hW2 k0 k1 m2 n0 n1 zg zb zm
  have k0 := HV.out.bx.cell 0 (v := .slice (some ⟨S.gp, 0, none⟩) P.length S.kp) rfl
  have k1 := HV.out.bx.cell 1 (v := .slice (some ⟨S.g, 0, none⟩) P.length S.kn) rfl
  have zb := HV.out.bx.lt
  go_upto_region 11 with ((go_at_call 52; refine (copied_c _ P S HV.out.at_).mono ?_; rintro e w2 ⟨S2, rfl, hps, hA, hg, hgl, hb⟩; obtain ⟨n2, hn2⟩ := get_some (l := S2.N) (k := t) (by rw [hA.len]; exact ht); have HNX : Kept (n2.x = n.x) := ⟨by rw [← rps_get hn2, hps, HX.out]⟩; have HPS := Kept.mk hps; have HA2 := Kept.mk hA; have HG2 : Kept (w.heap.size + 3 ≤ S2.g) := ⟨by omega⟩; have HGL : Kept (∀ g, n2.A = some ⟨g, 0, none⟩ → n2.x.L ≠ [] → w.heap.size + 3 ≤ g) := ⟨fun g e hne => by have := hgl n2 (List.mem_of_getElem? hn2) hne g e; omega⟩; have HN2 := Kept.mk hn2; have HB2 := Kept.mk (HV.out.bx.new_ hb); have HM2 := Kept.mk (HV.out.mx.new_ hb); have HR2 := Kept.mk (HV.out.rx.new_ hb); have HD2 := Kept.mk (join HV.out.bel hb); clear hps hA hg hgl hn2 hb; have c0 := HB2.out.cell 0 (v := .slice (some ⟨S.gp, 0, none⟩) P.length S.kp) rfl; have c1 := HB2.out.cell 1 (v := .slice (some ⟨S.g, 0, none⟩) P.length S.kn) rfl; have c2 := HB2.out.free 0; have c3 := HB2.out.free 1; have c4 := HB2.out.lt))
  have HV3 := Kept.mk (RvW.put (m := ⟨2, f, t, ep⟩) HB2.out HA2.out HM2.out HR2.out HD2.out)
  obtain ⟨W3, hW3⟩ : ∃ W3, W3 = (w2.setCell ⟨w.heap.size, 0, none⟩ (.slice (some ⟨S2.gp, 0, none⟩) P.length S2.kp)).setCell ⟨w.heap.size, 1, none⟩ (.slice (some ⟨S2.g, 0, none⟩) P.length S2.kn) := ⟨_, rfl⟩
  rw [← hW3] at HV3 ⊢
  clear hW3 c0 c1 c2 c3 c4 k0 k1 zb HV HB2 HM2 HR2 HD2 HA2
  have c0 := HV3.out.bx.cell 0 (v := .slice (some ⟨S2.gp, 0, none⟩) P.length S2.kp) rfl
  have c1 := HV3.out.bx.cell 1 (v := .slice (some ⟨S2.g, 0, none⟩) P.length S2.kn) rfl
  have m0 := HV3.out.mx.cell 0 (v := .int .i64 2) rfl
  have m1 := HV3.out.mx.cell 1 (v := .int .i64 f) rfl
  have m3 := HV3.out.mx.cell 3 (v := .int .i64 ep) rfl
  have zb := HV3.out.bx.lt
  have zm := HV3.out.mx.lt
  by_cases e1 : ep = (n.x.ep : Int) + 1
  · obtain ⟨qa, -⟩ := z_yes e1
    obtain ⟨qb, -⟩ := z_no (show ep ≠ (n.x.ep : Int) by omega)
    have e0 : ¬ ep = (n.x.ep : Int) := by omega
    by_cases p1 : n.x.ph = 1
    · skip
      obtain ⟨q1, -⟩ := z_yes (show (n.x.ph : Int) = 1 by omega)
      have hLn : n2.x.L.length = P.length := by rw [HNX.out]; exact HL.out (.inl p1)
      have hne : n2.x.L ≠ [] := fun e => by rw [e] at hLn; simp at hLn; omega
      obtain ⟨gl, hgl, ho⟩ := HV3.out.at_.ans n2 (List.mem_of_getElem? HN2.out) hne
      have hg3 := HGL.out gl hgl hne
      obtain ⟨y, hy⟩ := get_some (l := n2.x.L) (k := f) (by rw [hLn]; exact hf)
      have hyc := ho.cell hy (j := 0) rfl
      simp only [Nat.add_zero, Nat.mul_one] at hyc
      have fl := ho.free f
      have zl := ho.lt
      have m4 := RNode.n3 (HV3.out.at_.node HN2.out)
      have zg := RNode.zg (HV3.out.at_.node HN2.out)
      obtain ⟨hA4, hO4⟩ := HV3.out.at_.putl HN2.out hgl (by rw [hLn]; exact hf)
      have HA4 := Kept.mk hA4
      have HO4 := Kept.mk hO4
      rw [hgl, hLn] at m4
      have HLN := Kept.mk hLn
      have HRA : Kept (rps { S2 with N := S2.N.set t ⟨{ n2.x with L := n2.x.L.set f true }, n2.A, n2.k⟩ } = rAns (rps S) t f) := ⟨by rw [rps_set, HPS.out]; unfold rAns; rw [HX.out, HNX.out]⟩
      have HV4n : Kept ((S2.N.set t ⟨{ n2.x with L := n2.x.L.set f true }, n2.A, n2.k⟩)[t]? = some ⟨{ n2.x with L := n2.x.L.set f true }, n2.A, n2.k⟩) := ⟨List.getElem?_set_self (by rw [HV3.out.at_.len]; exact ht)⟩
      have HRD : Kept (rd (rAns (rps S) t f) t = { n2.x with L := n2.x.L.set f true }) := ⟨by rw [← HRA.out, rps_get HV4n.out]⟩
      have HL4 : Kept ((n2.x.L.set f true).length = P.length) := ⟨by rw [List.length_set]; exact HLN.out⟩
      clear ho hy hgl hA4 hO4 hne hLn
      go_upto_region 17 with fail
      go_region
      obtain ⟨W4, hW4⟩ : ∃ W4, W4 = (W3.setCell ⟨gl, f, none⟩ (.bool true)).drew := ⟨_, rfl⟩
      have hbd : Below (W3.setCell ⟨gl, f, none⟩ (.bool true)).heap.size (W3.setCell ⟨gl, f, none⟩ (.bool true)) W4 := by rw [hW4]; exact bdrew (Below.refl _ _)
      have HV4 : Kept (RvW w W4 P { S2 with N := S2.N.set t ⟨{ n2.x with L := n2.x.L.set f true }, n2.A, n2.k⟩ } ⟨2, f, t, ep⟩) := ⟨RvW.new_ ⟨HA4.out, HV3.out.bx.only HO4.out (fun e => by omega), HV3.out.mx.only HO4.out (fun e => by omega), HV3.out.rx.only HO4.out (fun e => by omega), HV3.out.bel.setCell (by show w.heap.size ≤ gl; omega) _⟩ hbd⟩
      rw [← hW4]
      clear hW4 hbd c0 c1 m0 m1 m3 zb zm hyc fl zl m4 zg HV3 HA4 HO4
      have c0 := HV4.out.bx.cell 0 (v := .slice (some ⟨S2.gp, 0, none⟩) P.length S2.kp) rfl
      have c1 := HV4.out.bx.cell 1 (v := .slice (some ⟨S2.g, 0, none⟩) P.length S2.kn) rfl
      have m0 := HV4.out.mx.cell 0 (v := .int .i64 2) rfl
      have m1 := HV4.out.mx.cell 1 (v := .int .i64 f) rfl
      have m3 := HV4.out.mx.cell 3 (v := .int .i64 ep) rfl
      have zb := HV4.out.bx.lt
      have zm := HV4.out.mx.lt
      cases hal : rAll P { n2.x with L := n2.x.L.set f true } t with
      | true =>
        have HAL := Kept.mk hal
        have hgo : rGo P (rps S) ⟨2, f, t, ep⟩ = rPrepared P (rAns (rps S) t f) t := by rw [rGo2, HX.out, if_pos ⟨e1, p1⟩, HRD.out, if_pos hal]
        have HGO := Kept.mk hgo
        clear hgo e1 e0 p1 hal
        go_upto_region 29 with (first | (go_at_call 53; refine (rall_c _ P _ t _ HV4.out.at_ HV4n.out HL4.out).mono ?_; rintro e wa ⟨rfl, hb⟩; rw [HAL.out]; have HV5 := Kept.mk (HV4.out.new_ hb); clear hb; have c0 := HV5.out.bx.cell 0 (v := .slice (some ⟨S2.gp, 0, none⟩) P.length S2.kp) rfl; have c1 := HV5.out.bx.cell 1 (v := .slice (some ⟨S2.g, 0, none⟩) P.length S2.kn) rfl; have zb := HV5.out.bx.lt) | (go_at_call 54; refine (rprepared_c _ P { S2 with N := S2.N.set t ⟨{ n2.x with L := n2.x.L.set f true }, n2.A, n2.k⟩ } t _ HV5.out.at_ HV4n.out (by show n2.x.ep ≤ 1000000; rw [HNX.out]; exact he)).mono ?_; rw [HRA.out]; rintro e w5 ⟨S5, A, kap, rfl, hps, hA, hM, hO, hg⟩; have HP5 := Kept.mk hps; have HA5 := Kept.mk hA; have HM5 := Kept.mk (own_base hM HV5.out.bel.size); have hgw := HG2.out; have HB5 := Kept.mk (HV5.out.bx.only hO (fun e => by first | omega | (simp only at e; omega))); have HX5 := Kept.mk (HV5.out.mx.only hO (fun e => by first | omega | (simp only at e; omega))); have HR5 := Kept.mk (HV5.out.rx.only hO (fun e => by first | omega | (simp only at e; omega))); have HD5 : Kept (Below w.heap.size w w5) := ⟨((OnlyP.of_below HV5.out.bel (fun b => b = S2.g)).trans hO).below (B := w.heap.size) (fun k hk => by first | omega | (simp only at hk; omega)) (Nat.le_refl _)⟩; clear hps hA hM hO hg; have c0 := HB5.out.cell 0 (v := .slice (some ⟨S2.gp, 0, none⟩) P.length S2.kp) rfl; have c1 := HB5.out.cell 1 (v := .slice (some ⟨S2.g, 0, none⟩) P.length S2.kn) rfl; have c2 := HB5.out.free 0; have c3 := HB5.out.free 1; have c4 := HB5.out.lt))
        have HV7 := Kept.mk (RvW.put (m := ⟨2, f, t, ep⟩) HB5.out HA5.out HX5.out HR5.out HD5.out)
        have HM7 := Kept.mk (own_box HM5.out HB5.out (.slice (some ⟨S5.gp, 0, none⟩) P.length S5.kp) (.slice (some ⟨S5.g, 0, none⟩) P.length S5.kn))
        obtain ⟨l, hl⟩ : ∃ l, rPrepared P (rAns (rps S) t f) t = l := ⟨_, rfl⟩
        rw [hl] at HM7 HP5 HGO ⊢
        obtain ⟨W7, hW7⟩ : ∃ W7, W7 = (w5.setCell ⟨w.heap.size, 0, none⟩ (.slice (some ⟨S5.gp, 0, none⟩) P.length S5.kp)).setCell ⟨w.heap.size, 1, none⟩ (.slice (some ⟨S5.g, 0, none⟩) P.length S5.kn) := ⟨_, rfl⟩
        rw [← hW7] at HV7 HM7 ⊢
        clear hW7 c0 c1 c2 c3 c4 m0 m1 m3 zb zm HB5 HX5 HR5 HD5
        have b0 := HV7.out.bx.cell 0 (v := .slice (some ⟨S5.gp, 0, none⟩) P.length S5.kp) rfl
        have b1 := HV7.out.bx.cell 1 (v := .slice (some ⟨S5.g, 0, none⟩) P.length S5.kn) rfl
        have b4 := HV7.out.bx.lt
        have r0 := HV7.out.rx.cell 0 (v := .slice none 0 0) rfl
        have r1 := HV7.out.rx.cell 1 (v := .slice none 0 0) rfl
        have r2 := HV7.out.rx.free 0
        have r3 := HV7.out.rx.free 1
        have r4 := HV7.out.rx.lt
        go_wp2_with fail
        obtain ⟨W8, hW8⟩ : ∃ W8, W8 = (W7.setCell ⟨w.heap.size + 2, 0, none⟩ (.slice (some ⟨S5.gp, 0, none⟩) P.length S5.kp)).setCell ⟨w.heap.size + 2, 1, none⟩ (.slice (some ⟨S5.g, 0, none⟩) P.length S5.kn) := ⟨_, rfl⟩
        obtain ⟨s0, s1, hA8, hM8, hb8⟩ := HV7.out.fin HM7.out hW8
        rw [← hW8]
        clear hW8 b0 b1 b4 r0 r1 r2 r3 r4
        refine bodyPost_ret (v := .tuple #[.agg #[.slice (some ⟨S5.gp, 0, none⟩) P.length S5.kp, .slice (some ⟨S5.g, 0, none⟩) P.length S5.kn], .slice A l.2.length kap, .int .i64 0]) (by simp [results, Try.results27, go_sem, s0, s1]) rfl ?_
        rw [HGO.out]
        exact ⟨S5, A, kap, rfl, HP5.out, hA8, hM8, hb8⟩
      | false =>
        have HAL := Kept.mk hal
        have hgo : rGo P (rps S) ⟨2, f, t, ep⟩ = (rAns (rps S) t f, []) := by rw [rGo2, HX.out, if_pos ⟨e1, p1⟩, HRD.out, if_neg (by rw [hal]; decide)]
        have HGO := Kept.mk hgo
        clear hgo e1 e0 p1 hal
        go_upto_region 29 with ((go_at_call 53; refine (rall_c _ P _ t _ HV4.out.at_ HV4n.out HL4.out).mono ?_; rintro e wa ⟨rfl, hb⟩; rw [HAL.out]; have HV5 := Kept.mk (HV4.out.new_ hb); clear hb; have c0 := HV5.out.bx.cell 0 (v := .slice (some ⟨S2.gp, 0, none⟩) P.length S2.kp) rfl; have c1 := HV5.out.bx.cell 1 (v := .slice (some ⟨S2.g, 0, none⟩) P.length S2.kn) rfl; have zb := HV5.out.bx.lt))
        have b0 := HV5.out.bx.cell 0 (v := .slice (some ⟨{ S2 with N := S2.N.set t ⟨{ n2.x with L := n2.x.L.set f true }, n2.A, n2.k⟩ }.gp, 0, none⟩) P.length { S2 with N := S2.N.set t ⟨{ n2.x with L := n2.x.L.set f true }, n2.A, n2.k⟩ }.kp) rfl
        have b1 := HV5.out.bx.cell 1 (v := .slice (some ⟨{ S2 with N := S2.N.set t ⟨{ n2.x with L := n2.x.L.set f true }, n2.A, n2.k⟩ }.g, 0, none⟩) P.length { S2 with N := S2.N.set t ⟨{ n2.x with L := n2.x.L.set f true }, n2.A, n2.k⟩ }.kn) rfl
        have b4 := HV5.out.bx.lt
        have r0 := HV5.out.rx.cell 0 (v := .slice none 0 0) rfl
        have r1 := HV5.out.rx.cell 1 (v := .slice none 0 0) rfl
        have r2 := HV5.out.rx.free 0
        have r3 := HV5.out.rx.free 1
        have r4 := HV5.out.rx.lt
        go_wp2_with fail
        obtain ⟨W8, hW8⟩ : ∃ W8, W8 = (wa.setCell ⟨w.heap.size + 2, 0, none⟩ (.slice (some ⟨{ S2 with N := S2.N.set t ⟨{ n2.x with L := n2.x.L.set f true }, n2.A, n2.k⟩ }.gp, 0, none⟩) P.length { S2 with N := S2.N.set t ⟨{ n2.x with L := n2.x.L.set f true }, n2.A, n2.k⟩ }.kp)).setCell ⟨w.heap.size + 2, 1, none⟩ (.slice (some ⟨{ S2 with N := S2.N.set t ⟨{ n2.x with L := n2.x.L.set f true }, n2.A, n2.k⟩ }.g, 0, none⟩) P.length { S2 with N := S2.N.set t ⟨{ n2.x with L := n2.x.L.set f true }, n2.A, n2.k⟩ }.kn) := ⟨_, rfl⟩
        obtain ⟨s0, s1, hA8, hM8, hb8⟩ := HV5.out.fin (A := none) (kap := 0) (l := []) (World.ownsRow_nil _ _ _ _) hW8
        rw [← hW8]
        clear hW8 b0 b1 b4 r0 r1 r2 r3 r4
        refine bodyPost_ret (v := .tuple #[.agg #[.slice (some ⟨{ S2 with N := S2.N.set t ⟨{ n2.x with L := n2.x.L.set f true }, n2.A, n2.k⟩ }.gp, 0, none⟩) P.length { S2 with N := S2.N.set t ⟨{ n2.x with L := n2.x.L.set f true }, n2.A, n2.k⟩ }.kp, .slice (some ⟨{ S2 with N := S2.N.set t ⟨{ n2.x with L := n2.x.L.set f true }, n2.A, n2.k⟩ }.g, 0, none⟩) P.length { S2 with N := S2.N.set t ⟨{ n2.x with L := n2.x.L.set f true }, n2.A, n2.k⟩ }.kn], .slice none 0 0, .int .i64 0]) (by simp [results, Try.results27, go_sem, s0, s1]) rfl ?_
        rw [HGO.out]
        exact ⟨{ S2 with N := S2.N.set t ⟨{ n2.x with L := n2.x.L.set f true }, n2.A, n2.k⟩ }, none, 0, rfl, HRA.out, hA8, hM8, hb8⟩
    · skip
      obtain ⟨q1, -⟩ := z_no (show (n.x.ph : Int) ≠ 1 by omega)
      have hgo : rGo P (rps S) ⟨2, f, t, ep⟩ = (rps S, []) := by rw [rGo2, HX.out, if_neg (fun h => p1 h.2), if_neg (fun h => e0 h.1)]
      have HGO := Kept.mk hgo
      clear hgo e1 e0 p1
      go_upto_region 29 with fail
      have b0 := HV3.out.bx.cell 0 (v := .slice (some ⟨S2.gp, 0, none⟩) P.length S2.kp) rfl
      have b1 := HV3.out.bx.cell 1 (v := .slice (some ⟨S2.g, 0, none⟩) P.length S2.kn) rfl
      have b4 := HV3.out.bx.lt
      have r0 := HV3.out.rx.cell 0 (v := .slice none 0 0) rfl
      have r1 := HV3.out.rx.cell 1 (v := .slice none 0 0) rfl
      have r2 := HV3.out.rx.free 0
      have r3 := HV3.out.rx.free 1
      have r4 := HV3.out.rx.lt
      go_wp2_with fail
      obtain ⟨W8, hW8⟩ : ∃ W8, W8 = (W3.setCell ⟨w.heap.size + 2, 0, none⟩ (.slice (some ⟨S2.gp, 0, none⟩) P.length S2.kp)).setCell ⟨w.heap.size + 2, 1, none⟩ (.slice (some ⟨S2.g, 0, none⟩) P.length S2.kn) := ⟨_, rfl⟩
      obtain ⟨s0, s1, hA8, hM8, hb8⟩ := HV3.out.fin (A := none) (kap := 0) (l := []) (World.ownsRow_nil _ _ _ _) hW8
      rw [← hW8]
      clear hW8 b0 b1 b4 r0 r1 r2 r3 r4
      refine bodyPost_ret (v := .tuple #[.agg #[.slice (some ⟨S2.gp, 0, none⟩) P.length S2.kp, .slice (some ⟨S2.g, 0, none⟩) P.length S2.kn], .slice none 0 0, .int .i64 0]) (by simp [results, Try.results27, go_sem, s0, s1]) rfl ?_
      rw [HGO.out]
      exact ⟨S2, none, 0, rfl, HPS.out, hA8, hM8, hb8⟩
  · obtain ⟨qa, -⟩ := z_no e1
    by_cases e0 : ep = (n.x.ep : Int)
    · obtain ⟨qb, -⟩ := z_yes e0
      by_cases p3 : n.x.ph = 3
      · skip
        obtain ⟨q3, -⟩ := z_yes (show (n.x.ph : Int) = 3 by omega)
        have hgo : rGo P (rps S) ⟨2, f, t, ep⟩ = (rps S, [⟨3, t, f, (n.x.ep : Int)⟩]) := by rw [rGo2, HX.out, if_neg (fun h => e1 h.1), if_pos ⟨e0, p3⟩]
        have HGO := Kept.mk hgo
        clear hgo e1 e0 p3
        go_upto_region 29 with fail
        obtain ⟨W7, hW7⟩ : ∃ W7, W7 = W3.alloc (.cells #[.int .i64 3, .int .i64 t, .int .i64 f, .int .i64 (n.x.ep : Int)] 62) := ⟨_, rfl⟩
        have HV7 := Kept.mk (HV3.out.new_ (W' := W7) (by rw [hW7]; exact (Below.refl _ _).alloc (Nat.le_refl _) _))
        have hm7 : W7.ownsRow w.heap.size 62 4 (.slice (some ⟨W3.heap.size, 0, none⟩) [(⟨3, t, f, (n.x.ep : Int)⟩ : Mg)].length 1) [(⟨3, t, f, (n.x.ep : Int)⟩ : Mg)].length ([(⟨3, t, f, (n.x.ep : Int)⟩ : Mg)].flatMap mcell) := by
          rw [hW7]
          exact ⟨by simp [mcell], .inr ⟨W3.heap.size, 1, _, rfl, HV3.out.bel.size, heap_alloc_new W3 _, Nat.le_refl _, by unfold maxLen; omega, by simp, by simp [mcell]⟩⟩
        rw [← hW7]
        clear hW7 c0 c1 m0 m1 m3 zb zm
        generalize W3.heap.size = gm at *
        have b0 := HV7.out.bx.cell 0 (v := .slice (some ⟨S2.gp, 0, none⟩) P.length S2.kp) rfl
        have b1 := HV7.out.bx.cell 1 (v := .slice (some ⟨S2.g, 0, none⟩) P.length S2.kn) rfl
        have b4 := HV7.out.bx.lt
        have r0 := HV7.out.rx.cell 0 (v := .slice none 0 0) rfl
        have r1 := HV7.out.rx.cell 1 (v := .slice none 0 0) rfl
        have r2 := HV7.out.rx.free 0
        have r3 := HV7.out.rx.free 1
        have r4 := HV7.out.rx.lt
        go_wp2_with fail
        obtain ⟨W8, hW8⟩ : ∃ W8, W8 = (W7.setCell ⟨w.heap.size + 2, 0, none⟩ (.slice (some ⟨S2.gp, 0, none⟩) P.length S2.kp)).setCell ⟨w.heap.size + 2, 1, none⟩ (.slice (some ⟨S2.g, 0, none⟩) P.length S2.kn) := ⟨_, rfl⟩
        obtain ⟨s0, s1, hA8, hM8, hb8⟩ := HV7.out.fin hm7 hW8
        rw [← hW8]
        clear hW8 b0 b1 b4 r0 r1 r2 r3 r4
        refine bodyPost_ret (v := .tuple #[.agg #[.slice (some ⟨S2.gp, 0, none⟩) P.length S2.kp, .slice (some ⟨S2.g, 0, none⟩) P.length S2.kn], .slice (some ⟨gm, 0, none⟩) 1 1, .int .i64 0]) (by simp [results, Try.results27, go_sem, s0, s1]) rfl ?_
        rw [HGO.out]
        exact ⟨S2, (some ⟨gm, 0, none⟩), 1, rfl, HPS.out, hA8, hM8, hb8⟩
      · skip
        obtain ⟨q3, -⟩ := z_no (show (n.x.ph : Int) ≠ 3 by omega)
        have hgo : rGo P (rps S) ⟨2, f, t, ep⟩ = (rps S, []) := by rw [rGo2, HX.out, if_neg (fun h => e1 h.1), if_neg (fun h => p3 h.2)]
        have HGO := Kept.mk hgo
        clear hgo e1 e0 p3
        go_upto_region 29 with fail
        have b0 := HV3.out.bx.cell 0 (v := .slice (some ⟨S2.gp, 0, none⟩) P.length S2.kp) rfl
        have b1 := HV3.out.bx.cell 1 (v := .slice (some ⟨S2.g, 0, none⟩) P.length S2.kn) rfl
        have b4 := HV3.out.bx.lt
        have r0 := HV3.out.rx.cell 0 (v := .slice none 0 0) rfl
        have r1 := HV3.out.rx.cell 1 (v := .slice none 0 0) rfl
        have r2 := HV3.out.rx.free 0
        have r3 := HV3.out.rx.free 1
        have r4 := HV3.out.rx.lt
        go_wp2_with fail
        obtain ⟨W8, hW8⟩ : ∃ W8, W8 = (W3.setCell ⟨w.heap.size + 2, 0, none⟩ (.slice (some ⟨S2.gp, 0, none⟩) P.length S2.kp)).setCell ⟨w.heap.size + 2, 1, none⟩ (.slice (some ⟨S2.g, 0, none⟩) P.length S2.kn) := ⟨_, rfl⟩
        obtain ⟨s0, s1, hA8, hM8, hb8⟩ := HV3.out.fin (A := none) (kap := 0) (l := []) (World.ownsRow_nil _ _ _ _) hW8
        rw [← hW8]
        clear hW8 b0 b1 b4 r0 r1 r2 r3 r4
        refine bodyPost_ret (v := .tuple #[.agg #[.slice (some ⟨S2.gp, 0, none⟩) P.length S2.kp, .slice (some ⟨S2.g, 0, none⟩) P.length S2.kn], .slice none 0 0, .int .i64 0]) (by simp [results, Try.results27, go_sem, s0, s1]) rfl ?_
        rw [HGO.out]
        exact ⟨S2, none, 0, rfl, HPS.out, hA8, hM8, hb8⟩
    · obtain ⟨qb, -⟩ := z_no e0
      have hgo : rGo P (rps S) ⟨2, f, t, ep⟩ = (rps S, []) := by rw [rGo2, HX.out, if_neg (fun h => e1 h.1), if_neg (fun h => e0 h.1)]
      have HGO := Kept.mk hgo
      clear hgo e1 e0
      go_upto_region 29 with fail
      have b0 := HV3.out.bx.cell 0 (v := .slice (some ⟨S2.gp, 0, none⟩) P.length S2.kp) rfl
      have b1 := HV3.out.bx.cell 1 (v := .slice (some ⟨S2.g, 0, none⟩) P.length S2.kn) rfl
      have b4 := HV3.out.bx.lt
      have r0 := HV3.out.rx.cell 0 (v := .slice none 0 0) rfl
      have r1 := HV3.out.rx.cell 1 (v := .slice none 0 0) rfl
      have r2 := HV3.out.rx.free 0
      have r3 := HV3.out.rx.free 1
      have r4 := HV3.out.rx.lt
      go_wp2_with fail
      obtain ⟨W8, hW8⟩ : ∃ W8, W8 = (W3.setCell ⟨w.heap.size + 2, 0, none⟩ (.slice (some ⟨S2.gp, 0, none⟩) P.length S2.kp)).setCell ⟨w.heap.size + 2, 1, none⟩ (.slice (some ⟨S2.g, 0, none⟩) P.length S2.kn) := ⟨_, rfl⟩
      obtain ⟨s0, s1, hA8, hM8, hb8⟩ := HV3.out.fin (A := none) (kap := 0) (l := []) (World.ownsRow_nil _ _ _ _) hW8
      rw [← hW8]
      clear hW8 b0 b1 b4 r0 r1 r2 r3 r4
      refine bodyPost_ret (v := .tuple #[.agg #[.slice (some ⟨S2.gp, 0, none⟩) P.length S2.kp, .slice (some ⟨S2.g, 0, none⟩) P.length S2.kn], .slice none 0 0, .int .i64 0]) (by simp [results, Try.results27, go_sem, s0, s1]) rfl ?_
      rw [HGO.out]
      exact ⟨S2, none, 0, rfl, HPS.out, hA8, hM8, hb8⟩

end
end Go.Proofs.Ytibmbhnpmfgclaa
