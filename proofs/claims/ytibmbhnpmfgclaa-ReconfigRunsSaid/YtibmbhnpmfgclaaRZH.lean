/- Reconfig: the reference's Drained: the refusals. -/
import Derived.Test.YtibmbhnpmfgclaaRZG
namespace Go.Proofs.Ytibmbhnpmfgclaa
set_option linter.unusedVariables false
set_option linter.unusedSimpArgs false
open Go.RowKit Go.Maps
theorem z_keep {w W : World} {P : List Int} {S' : RSt} (hA : RAt W P S') (hR : Blk W (w.heap.size + 1) 53 #[.slice none 0 0, .slice none 0 0]) (hD : Below w.heap.size w W) {W' : World}
    (hW : W' = (W.setCell ⟨w.heap.size + 1, 0, none⟩ (.slice (some ⟨S'.gp, 0, none⟩) P.length S'.kp)).setCell ⟨w.heap.size + 1, 1, none⟩ (.slice (some ⟨S'.g, 0, none⟩) P.length S'.kn)) :
    W'.cell? ⟨w.heap.size + 1, 0, none⟩ = some (.slice (some ⟨S'.gp, 0, none⟩) P.length S'.kp) ∧ W'.cell? ⟨w.heap.size + 1, 1, none⟩ = some (.slice (some ⟨S'.g, 0, none⟩) P.length S'.kn) ∧ RAt W' P S' ∧ Below w.heap.size w W' := by
  obtain ⟨s0, s1, hA6, -, -⟩ := z_end (S := S') (A := none) (kap := 0) (l := []) hA hR (World.ownsRow_nil _ _ _ _) (OnlyP.of_below hD _) hW
  refine ⟨s0, s1, hA6, ?_⟩
  rw [hW]
  exact (hD.setCell (by show w.heap.size ≤ w.heap.size + 1; omega) _).setCell (by show w.heap.size ≤ w.heap.size + 1; omega) _
theorem RAt.putd {w : World} {P : List Int} {S : RSt} {v : Nat} {n : Rn} (h : RAt w P S) (hv : S.N[v]? = some n) (d : Bool) :
    RAt (w.setCell ⟨S.g, v * 4 + 2, none⟩ (.bool d)) P { S with N := S.N.set v ⟨{ n.x with dr := d }, n.A, n.k⟩ } ∧ OnlyP (fun b => b = S.g) w (w.setCell ⟨S.g, v * 4 + 2, none⟩ (.bool d)) := by
  have hO : OnlyP (fun b => b = S.g) w (w.setCell ⟨S.g, v * 4 + 2, none⟩ (.bool d)) := (OnlyP.refl (fun b => b = S.g) w).set (p := ⟨S.g, v * 4 + 2, none⟩) (.inl rfl) _
  exact ⟨h.put hv hO (h.nodes.setj (y := ⟨{ n.x with dr := d }, n.A, n.k⟩) (j := 2) (a := .bool d) hv (by omega) rfl) (h.lle n (List.mem_of_getElem? hv)) (.inl ⟨rfl, rfl⟩), hO⟩
/-- The state's box is written anew: nothing of the state is touched. -/
theorem RAt.box {w : World} {P : List Int} {S : RSt} {b : Nat} {cs : Array Value} (h : RAt w P S) (hb : Blk w b 53 cs) (u u' : Value) : RAt ((w.setCell ⟨b, 0, none⟩ u).setCell ⟨b, 1, none⟩ u') P S :=
  h.only (T := fun k => k = b) (((OnlyP.refl (fun k => k = b) w).set (p := ⟨b, 0, none⟩) (.inl rfl) _).set (p := ⟨b, 1, none⟩) (.inl rfl) _) (fun k hk _ => by subst hk; exact ⟨_, _, hb, by decide, by decide, by decide⟩)
def drainedE (P : List Int) (rs : List Rp) (z : Int) : Int := if z < 0 ∨ P.length ≤ z then 2 else if (rd rs z.toNat).ph ≠ 3 then 6 else 0
def drainedR (P : List Int) (rs : List Rp) (z : Int) : OutR := if drainedE P rs z = 0 then rRest P (rs.set z.toNat { rd rs z.toNat with dr := true }) z.toNat else (rs, [])
section
variable (w : World) (P : List Int) (S : RSt)
set_option maxRecDepth 100000 in
set_option maxHeartbeats 4000000 in
theorem rDrained_no (z : Int) (h : RAt w P S) (hz : z < 0 ∨ P.length ≤ z) : Calls Try.prog 28 #[.agg #[.slice (some ⟨S.gp, 0, none⟩) P.length S.kp, .slice (some ⟨S.g, 0, none⟩) P.length S.kn], .int .i64 z] w (ZRes w P (drainedR P (rps S) z) (drainedE P (rps S) z)) := by
  have HH := Kept.mk h
  have sm := h.sm
  have hE : drainedE P (rps S) z = 2 := by unfold drainedE; rw [if_pos hz]
  have hR : drainedR P (rps S) z = (rps S, []) := by unfold drainedR; rw [hE, if_neg (by decide)]
  rw [hE, hR]
  obtain ⟨W0, hW0, hb, hr, hd, hs⟩ := two_boxes w 53 #[.slice (some ⟨S.gp, 0, none⟩) P.length S.kp, .slice (some ⟨S.g, 0, none⟩) P.length S.kn] #[.slice none 0 0, .slice none 0 0]
  have HB := Kept.mk hb
  have HR := Kept.mk hr
  have HD := Kept.mk hd
  have HH0 := Kept.mk (h.new_ hd)
  have k0 := hb.cell 0 (v := .slice (some ⟨S.gp, 0, none⟩) P.length S.kp) rfl
  have k1 := hb.cell 1 (v := .slice (some ⟨S.g, 0, none⟩) P.length S.kn) rfl
  have zW := hb.lt
  have r0 := hr.cell 0 (v := .slice none 0 0) rfl
  have r1 := hr.cell 1 (v := .slice none 0 0) rfl
  have r2 := hr.free 0
  have r3 := hr.free 1
  have r4 := hr.lt
  clear h hb hr hd hE hR
  rcases hz with h0 | h0
  all_goals
    go_enter Try.func28, Try.ntmps28
    go_upto_region 1 with fail
    rw [← hW0]
    clear hW0
    go_wp2_with fail
    obtain ⟨W6, hW6⟩ : ∃ W6, W6 = (W0.setCell ⟨w.heap.size + 1, 0, none⟩ (.slice (some ⟨S.gp, 0, none⟩) P.length S.kp)).setCell ⟨w.heap.size + 1, 1, none⟩ (.slice (some ⟨S.g, 0, none⟩) P.length S.kn) := ⟨_, rfl⟩
    obtain ⟨s0, s1, hA6, hb6⟩ := z_keep HH0.out HR.out HD.out hW6
    rw [← hW6]
    clear hW6 r0 r1 r2 r3
    refine bodyPost_ret (v := .tuple #[.agg #[.slice (some ⟨S.gp, 0, none⟩) P.length S.kp, .slice (some ⟨S.g, 0, none⟩) P.length S.kn], .slice none 0 0, .int .i64 2]) (by simp [results, Try.results28, go_sem, s0, s1]) rfl ?_
    exact ⟨S, none, 0, rfl, rfl, hA6, World.ownsRow_nil _ _ _ _, hb6⟩
set_option maxRecDepth 100000 in
set_option maxHeartbeats 4000000 in
theorem rDrained_ph (v : Nat) (n : Rn) (h : RAt w P S) (hv : S.N[v]? = some n) (hp : n.x.ph ≠ 3) : Calls Try.prog 28 #[.agg #[.slice (some ⟨S.gp, 0, none⟩) P.length S.kp, .slice (some ⟨S.g, 0, none⟩) P.length S.kn], .int .i64 v] w (ZRes w P (drainedR P (rps S) v) (drainedE P (rps S) v)) := by
  have HH := Kept.mk h
  have sm := h.sm
  have hE : drainedE P (rps S) v = 6 := by unfold drainedE; rw [if_neg (by have := (List.getElem?_eq_some_iff.1 hv).1; rw [h.len] at this; omega), Int.toNat_natCast, rps_get hv, if_pos hp]
  have hR : drainedR P (rps S) v = (rps S, []) := by unfold drainedR; rw [hE, if_neg (by decide)]
  rw [hE, hR]
  obtain ⟨W0, hW0, hb, hr, hd, hs⟩ := two_boxes w 53 #[.slice (some ⟨S.gp, 0, none⟩) P.length S.kp, .slice (some ⟨S.g, 0, none⟩) P.length S.kn] #[.slice none 0 0, .slice none 0 0]
  have HB := Kept.mk hb
  have HR := Kept.mk hr
  have HD := Kept.mk hd
  have HH0 := Kept.mk (h.new_ hd)
  have k0 := hb.cell 0 (v := .slice (some ⟨S.gp, 0, none⟩) P.length S.kp) rfl
  have k1 := hb.cell 1 (v := .slice (some ⟨S.g, 0, none⟩) P.length S.kn) rfl
  have zW := hb.lt
  have r0 := hr.cell 0 (v := .slice none 0 0) rfl
  have r1 := hr.cell 1 (v := .slice none 0 0) rfl
  have r2 := hr.free 0
  have r3 := hr.free 1
  have r4 := hr.lt
  have n1 := RNode.n1 (HH0.out.node hv)
  have vl := RNode.vl (HH0.out.node hv)
  have zg := RNode.zg (HH0.out.node hv)
  obtain ⟨q1, q2⟩ := z_no (show (n.x.ph : Int) ≠ 3 by omega)
  clear h hb hr hd hE hR hv hp
  go_enter Try.func28, Try.ntmps28
  go_upto_region 1 with fail
  rw [← hW0]
  clear hW0
  go_wp2_with fail
  obtain ⟨W6, hW6⟩ : ∃ W6, W6 = (W0.setCell ⟨w.heap.size + 1, 0, none⟩ (.slice (some ⟨S.gp, 0, none⟩) P.length S.kp)).setCell ⟨w.heap.size + 1, 1, none⟩ (.slice (some ⟨S.g, 0, none⟩) P.length S.kn) := ⟨_, rfl⟩
  obtain ⟨s0, s1, hA6, hb6⟩ := z_keep HH0.out HR.out HD.out hW6
  rw [← hW6]
  clear hW6 r0 r1 r2 r3
  refine bodyPost_ret (v := .tuple #[.agg #[.slice (some ⟨S.gp, 0, none⟩) P.length S.kp, .slice (some ⟨S.g, 0, none⟩) P.length S.kn], .slice none 0 0, .int .i64 6]) (by simp [results, Try.results28, go_sem, s0, s1]) rfl ?_
  exact ⟨S, none, 0, rfl, rfl, hA6, World.ownsRow_nil _ _ _ _, hb6⟩
end
section
variable (w : World) (P : List Int) (S : RSt)
set_option maxRecDepth 100000 in
set_option maxHeartbeats 4000000 in
theorem rDrained_yes (v : Nat) (n : Rn) (h : RAt w P S) (hv : S.N[v]? = some n) (hp : n.x.ph = 3) (hL : n.x.L.length = P.length) : Calls Try.prog 28 #[.agg #[.slice (some ⟨S.gp, 0, none⟩) P.length S.kp, .slice (some ⟨S.g, 0, none⟩) P.length S.kn], .int .i64 v] w (ZRes w P (rRest P ((rps S).set v { rd (rps S) v with dr := true }) v) 0) := by
  have HH := Kept.mk h
  have sm := h.sm
  have hx := rps_get hv
  have HX := Kept.mk hx
  have HV := Kept.mk hv
  have HL := Kept.mk hL
  obtain ⟨W0, hW0, hb, hr, hd, hs⟩ := two_boxes w 53 #[.slice (some ⟨S.gp, 0, none⟩) P.length S.kp, .slice (some ⟨S.g, 0, none⟩) P.length S.kn] #[.slice none 0 0, .slice none 0 0]
  have HB := Kept.mk hb
  have HR := Kept.mk hr
  have HD := Kept.mk hd
  have HH0 := Kept.mk (h.new_ hd)
  have k0 := hb.cell 0 (v := .slice (some ⟨S.gp, 0, none⟩) P.length S.kp) rfl
  have k1 := hb.cell 1 (v := .slice (some ⟨S.g, 0, none⟩) P.length S.kn) rfl
  have zW := hb.lt
  have n1 := RNode.n1 (HH0.out.node hv)
  have vl := RNode.vl (HH0.out.node hv)
  have zg := RNode.zg (HH0.out.node hv)
  obtain ⟨q1, q2⟩ := z_yes (show (n.x.ph : Int) = 3 by omega)
  clear h hb hr hd hv hp hx hL
  go_enter Try.func28, Try.ntmps28
  go_upto_region 1 with fail
  rw [← hW0]
  clear hW0
  go_upto_region 6 with ((go_at_call 52; refine (copied_c _ P S HH0.out).mono ?_; rintro e w2 ⟨S2, rfl, hps, hA, hg, -, hb⟩; obtain ⟨n2, hn2⟩ := get_some (l := S2.N) (k := v) (by rw [hA.len]; exact vl); have HNX : Kept (n2.x = n.x) := ⟨by rw [← rps_get hn2, hps, HX.out]⟩; have HPS := Kept.mk hps; have HA2 := Kept.mk hA; have HG2 := Kept.mk hg; have HN2 := Kept.mk hn2; have HB2 := Kept.mk (HB.out.new_ hb); have HR2 := Kept.mk (HR.out.new_ hb); have HD2 := Kept.mk (join HD.out hb); clear hps hA hg hn2 hb; have c0 := HB2.out.cell 0 (v := .slice (some ⟨S.gp, 0, none⟩) P.length S.kp) rfl; have c1 := HB2.out.cell 1 (v := .slice (some ⟨S.g, 0, none⟩) P.length S.kn) rfl; have c2 := HB2.out.free 0; have c3 := HB2.out.free 1; have c4 := HB2.out.lt))
  obtain ⟨W3, hW3⟩ : ∃ W3, W3 = (w2.setCell ⟨w.heap.size, 0, none⟩ (.slice (some ⟨S2.gp, 0, none⟩) P.length S2.kp)).setCell ⟨w.heap.size, 1, none⟩ (.slice (some ⟨S2.g, 0, none⟩) P.length S2.kn) := ⟨_, rfl⟩
  rw [← hW3]
  have HA3 : Kept (RAt W3 P S2) := ⟨by rw [hW3]; exact HA2.out.box HB2.out _ _⟩
  have HB3 : Kept (Blk W3 w.heap.size 53 #[.slice (some ⟨S2.gp, 0, none⟩) P.length S2.kp, .slice (some ⟨S2.g, 0, none⟩) P.length S2.kn]) := ⟨by rw [hW3]; exact (HB2.out.set_ 0 _).set_ 1 _⟩
  have HR3 : Kept (Blk W3 (w.heap.size + 1) 53 #[.slice none 0 0, .slice none 0 0]) := ⟨by rw [hW3]; exact (HR2.out.far (by show w.heap.size + 1 ≠ w.heap.size; omega) _).far (by show w.heap.size + 1 ≠ w.heap.size; omega) _⟩
  have HD3 : Kept (Below w.heap.size w W3) := ⟨by rw [hW3]; exact (HD2.out.setCell (Nat.le_refl _) _).setCell (Nat.le_refl _) _⟩
  clear hW3 c0 c1 c2 c3 c4
  have c0 := HB3.out.cell 0 (v := .slice (some ⟨S2.gp, 0, none⟩) P.length S2.kp) rfl
  have c1 := HB3.out.cell 1 (v := .slice (some ⟨S2.g, 0, none⟩) P.length S2.kn) rfl
  have c4 := HB3.out.lt
  have m2 := RNode.n2 (HA3.out.node HN2.out)
  have mg := RNode.zg (HA3.out.node HN2.out)
  have mf := RNode.fr (HA3.out.node HN2.out) (v * 4 + 2)
  go_upto_region 7 with fail
  obtain ⟨hA4, hO4⟩ := HA3.out.putd HN2.out true
  obtain ⟨W4, hW4⟩ : ∃ W4, W4 = W3.setCell ⟨S2.g, v * 4 + 2, none⟩ (.bool true) := ⟨_, rfl⟩
  rw [← hW4] at hA4 hO4 ⊢
  have hgw := HG2.out
  have hzw := HD.out.size
  have HA4 := Kept.mk hA4
  have HB4 := Kept.mk (HB3.out.only hO4 (fun e => by omega))
  have HR4 := Kept.mk (HR3.out.only hO4 (fun e => by omega))
  have HO4 := Kept.mk ((OnlyP.of_below HD3.out (fun b => b = S2.g)).trans hO4)
  have HV4 : Kept ((S2.N.set v ⟨{ n2.x with dr := true }, n2.A, n2.k⟩)[v]? = some ⟨{ n2.x with dr := true }, n2.A, n2.k⟩) := ⟨List.getElem?_set_self (by rw [HA3.out.len]; exact vl)⟩
  have HP4 : Kept (rps { S2 with N := S2.N.set v ⟨{ n2.x with dr := true }, n2.A, n2.k⟩ } = (rps S).set v { rd (rps S) v with dr := true }) := ⟨by rw [rps_set, HPS.out, HX.out, HNX.out]⟩
  have hL4 : n2.x.L.length = P.length := by rw [HNX.out, HL.out]
  clear hW4 hA4 hO4 c0 c1 c4 m2 mf
  have c0 := HB4.out.cell 0 (v := .slice (some ⟨S2.gp, 0, none⟩) P.length S2.kp) rfl
  have c1 := HB4.out.cell 1 (v := .slice (some ⟨S2.g, 0, none⟩) P.length S2.kn) rfl
  have c4 := HB4.out.lt
  go_wp2_with ((go_at_call 56; refine (rrest_c _ P { S2 with N := S2.N.set v ⟨{ n2.x with dr := true }, n2.A, n2.k⟩ } v _ HA4.out HV4.out hL4).mono ?_; rw [HP4.out]; rintro e w3 ⟨S3, A, kap, rfl, hps, hA, hM, hO, hg⟩; have HP3 := Kept.mk hps; have HA5 := Kept.mk hA; have HM3 := Kept.mk hM; have HO3 := Kept.mk (HO4.out.trans hO); have HR5 := Kept.mk (HR4.out.only hO (fun e => by simp only at e; omega)); clear hps hA hM hO hg; have r0 := HR5.out.cell 0 (v := .slice none 0 0) rfl; have r1 := HR5.out.cell 1 (v := .slice none 0 0) rfl; have r2 := HR5.out.free 0; have r3 := HR5.out.free 1; have r4 := HR5.out.lt))
  have HD6 : Kept (Below w.heap.size w w3) := ⟨HO3.out.below (B := w.heap.size) (fun k hk => by omega) (Nat.le_refl _)⟩
  obtain ⟨l, hl⟩ : ∃ l, (rRest P ((rps S).set v { rd (rps S) v with dr := true }) v) = l := ⟨_, rfl⟩
  rw [hl] at HM3 HP3 ⊢
  obtain ⟨W6, hW6⟩ : ∃ W6, W6 = (w3.setCell ⟨w.heap.size + 1, 0, none⟩ (.slice (some ⟨S3.gp, 0, none⟩) P.length S3.kp)).setCell ⟨w.heap.size + 1, 1, none⟩ (.slice (some ⟨S3.g, 0, none⟩) P.length S3.kn) := ⟨_, rfl⟩
  obtain ⟨s0, s1, hA6, hM6, hO6⟩ := z_end HA5.out HR5.out (own_base HM3.out (by omega)) (OnlyP.of_below HD6.out (fun b => b = S.g)) hW6
  have hb6 : Below w.heap.size w W6 := by rw [hW6]; exact (HD6.out.setCell (by show w.heap.size ≤ w.heap.size + 1; omega) _).setCell (by show w.heap.size ≤ w.heap.size + 1; omega) _
  have hz6 : w.heap.size + 1 < W6.heap.size := by rw [hW6, size_set', size_set']; exact r4
  obtain ⟨W7, hW7⟩ : ∃ W7, W7 = W6.alloc (.cells #[.slice (some ⟨S3.gp, 0, none⟩) P.length S3.kp, .slice (some ⟨S3.g, 0, none⟩) P.length S3.kn] 53) := ⟨_, rfl⟩
  have hb7 : Below W6.heap.size W6 W7 := by rw [hW7]; exact (Below.refl _ _).alloc (Nat.le_refl _) _
  rw [← hW6, ← hW7]
  have t0 := ((bcell hb7).1 _ 0 hz6).trans s0
  have t1 := ((bcell hb7).1 _ 1 hz6).trans s1
  clear hW6 hW7 r0 r1 r2 r3 s0 s1
  refine bodyPost_ret (v := .tuple #[.agg #[.slice (some ⟨S3.gp, 0, none⟩) P.length S3.kp, .slice (some ⟨S3.g, 0, none⟩) P.length S3.kn], .slice A l.2.length kap, .int .i64 0]) (by simp [results, Try.results28, go_sem, t0, t1]) rfl ?_
  exact ⟨S3, A, kap, rfl, HP3.out, hA6.new_ hb7, own_new hM6 hb7, join hb6 hb7⟩
end
end Go.Proofs.Ytibmbhnpmfgclaa
