/- Reconfig: the reference's commit, prepared, rest and begin. -/
import Derived.Test.YtibmbhnpmfgclaaRZB
namespace Go.Proofs.Ytibmbhnpmfgclaa
set_option linter.unusedVariables false
set_option linter.unusedSimpArgs false
open Go.RowKit Go.Maps
/-- What a step of the reference leaves. -/
def ZUpd (w : World) (P : List Int) (S : RSt) (o : OutR) (e : Ending) (w' : World) : Prop :=
  ∃ (S' : RSt) (A : Option Addr) (kap : Nat), e = .returned (.tuple #[.agg #[.slice (some ⟨S'.gp, 0, none⟩) P.length S'.kp, .slice (some ⟨S'.g, 0, none⟩) P.length S'.kn], .slice A o.2.length kap]) ∧ rps S' = o.1 ∧ RAt w' P S' ∧
    w'.ownsRow w.heap.size 62 4 (.slice A o.2.length kap) o.2.length (o.2.flatMap mcell) ∧ OnlyP (fun b => b = S.g) w w' ∧ S'.g = S.g
theorem two_boxes (w : World) (t : TypeId) (cs cs' : Array Value) : ∃ W, W = (w.alloc (.cells cs t)).alloc (.cells cs' t) ∧ Blk W w.heap.size t cs ∧ Blk W (w.heap.size + 1) t cs' ∧ Below w.heap.size w W ∧ W.heap.size = w.heap.size + 2 :=
  ⟨_, rfl, (Blk.new _ _ _).alloc _, by simpa using Blk.new (w.alloc (.cells cs t)) t cs', ((Below.refl _ _).alloc (Nat.le_refl _) _).alloc (by simp) _, by simp⟩
theorem z_end {w W : World} {P : List Int} {S S' : RSt} {A : Option Addr} {kap : Nat} {l : List Mg} (hA : RAt W P S') (hR : Blk W (w.heap.size + 1) 53 #[.slice none 0 0, .slice none 0 0])
    (ho : W.ownsRow w.heap.size 62 4 (.slice A l.length kap) l.length (l.flatMap mcell)) (hO : OnlyP (fun b => b = S.g) w W) {W' : World}
    (hW : W' = (W.setCell ⟨w.heap.size + 1, 0, none⟩ (.slice (some ⟨S'.gp, 0, none⟩) P.length S'.kp)).setCell ⟨w.heap.size + 1, 1, none⟩ (.slice (some ⟨S'.g, 0, none⟩) P.length S'.kn)) :
    W'.cell? ⟨w.heap.size + 1, 0, none⟩ = some (.slice (some ⟨S'.gp, 0, none⟩) P.length S'.kp) ∧ W'.cell? ⟨w.heap.size + 1, 1, none⟩ = some (.slice (some ⟨S'.g, 0, none⟩) P.length S'.kn) ∧
    RAt W' P S' ∧ W'.ownsRow w.heap.size 62 4 (.slice A l.length kap) l.length (l.flatMap mcell) ∧ OnlyP (fun b => b = S.g) w W' := by
  have hs := (hR.set_ 0 (.slice (some ⟨S'.gp, 0, none⟩) P.length S'.kp)).set_ 1 (.slice (some ⟨S'.g, 0, none⟩) P.length S'.kn)
  have hne := own_blk_ne ho hR (by decide)
  subst hW
  refine ⟨hs.cell 0 rfl, hs.cell 1 rfl, hA.only (T := fun b => b = w.heap.size + 1) (((OnlyP.refl (fun b => b = w.heap.size + 1) W).set (p := ⟨w.heap.size + 1, 0, none⟩) (.inl rfl) _).set (p := ⟨w.heap.size + 1, 1, none⟩) (.inl rfl) _) (fun b hb _ => by subst hb; exact ⟨_, _, hR, by decide, by decide, by decide⟩),
    ownsRow_setCell_other (ownsRow_setCell_other ho (a := ⟨w.heap.size + 1, 0, none⟩) hne _) (a := ⟨w.heap.size + 1, 1, none⟩) hne _, (hO.set (p := ⟨w.heap.size + 1, 0, none⟩) (.inr (Nat.le_succ _)) _).set (p := ⟨w.heap.size + 1, 1, none⟩) (.inr (Nat.le_succ _)) _⟩
theorem far2 {w : World} {g i b : Nat} {v : Value} (h : w.cell? ⟨g, i, none⟩ = some v) (hne : g ≠ b) (u u' : Value) : ((w.setCell ⟨b, 0, none⟩ u).setCell ⟨b, 1, none⟩ u').cell? ⟨g, i, none⟩ = some v := by
  rw [World.cell?_setCell_other (h := fun e => hne (by injection e with e; exact e.symm)), World.cell?_setCell_other (h := fun e => hne (by injection e with e; exact e.symm))]; exact h
theorem rep_nil {n : Nat} (h : List.replicate n false ≠ []) : 0 < n := by
  rcases Nat.eq_zero_or_pos n with h0 | h0
  · subst h0; exact absurd rfl h
  · exact h0
/-- A new row of answers. -/
theorem new_answers (w : World) (n : Nat) : OwnAt (w.alloc (.cells ((List.replicate n false).flatMap ycell).toArray 4)) w.heap.size 4 1 ycell (List.replicate n false) := by
  refine ⟨⟨by omega, ycell_len, ?_⟩, _, Blk.new _ _ _⟩
  have h := reads_made w ((List.replicate n false).flatMap ycell).toArray 4 1 n (by rw [List.size_toArray, flat_len ycell_len, List.length_replicate])
  rw [List.length_replicate]
  exact h
theorem RAt.put4 {w W : World} {P : List Int} {S : RSt} {v : Nat} {n : Rn} (h : RAt w P S) (hv : S.N[v]? = some n) (e p : Nat) (d : Bool) {W2 : World}
    (hW : W = w.alloc (.cells ((List.replicate P.length false).flatMap ycell).toArray 4)) (hW2 : W2 = ((((W.setCell ⟨S.g, v * 4, none⟩ (.int .i64 e)).setCell ⟨S.g, v * 4 + 1, none⟩ (.int .i64 p)).setCell ⟨S.g, v * 4 + 2, none⟩ (.bool d)).setCell ⟨S.g, v * 4 + 3, none⟩ (.slice (some ⟨w.heap.size, 0, none⟩) P.length P.length)).drew) :
    RAt W2 P { S with N := S.N.set v ⟨⟨e, p, d, List.replicate P.length false⟩, some ⟨w.heap.size, 0, none⟩, P.length⟩ } ∧ OnlyP (fun b => b = S.g) w W2 := by
  have hvl : v < S.N.length := (List.getElem?_eq_some_iff.1 hv).1
  have hA : OwnAt W w.heap.size 4 1 ycell (List.replicate P.length false) := by rw [hW]; exact new_answers w _
  have hbW : Below w.heap.size w W := by rw [hW]; exact (Below.refl _ _).alloc (Nat.le_refl _) _
  have o0 := h.nodes.new_ hbW
  have o1 := o0.setj (y := ⟨{ n.x with ep := e }, n.A, n.k⟩) (j := 0) (a := .int .i64 e) hv (by omega) rfl
  have o2 := o1.setj (y := ⟨{ n.x with ep := e, ph := p }, n.A, n.k⟩) (j := 1) (a := .int .i64 p) (List.getElem?_set_self hvl) (by omega) rfl
  have o3 := o2.setj (y := ⟨{ n.x with ep := e, ph := p, dr := d }, n.A, n.k⟩) (j := 2) (a := .bool d) (List.getElem?_set_self (by simpa using hvl)) (by omega) rfl
  have o4 := o3.setj (y := ⟨⟨e, p, d, List.replicate P.length false⟩, some ⟨w.heap.size, 0, none⟩, P.length⟩) (j := 3) (a := .slice (some ⟨w.heap.size, 0, none⟩) P.length P.length) (List.getElem?_set_self (by simpa using hvl)) (by omega) (by simp [rcell])
  simp only [List.set_set] at o4
  have hne := h.nodes.lt
  have hO : OnlyP (fun b => b = S.g) w W2 := by
    rw [hW2]
    exact (((((OnlyP.of_below hbW (fun b => b = S.g)).set (p := ⟨S.g, v * 4, none⟩) (.inl rfl) _).set (p := ⟨S.g, v * 4 + 1, none⟩) (.inl rfl) _).set (p := ⟨S.g, v * 4 + 2, none⟩) (.inl rfl) _).set (p := ⟨S.g, v * 4 + 3, none⟩) (.inl rfl) _).drew
  have hfar : ∀ (W : World) i u, OwnAt W w.heap.size 4 1 ycell (List.replicate P.length false) → OwnAt (W.setCell ⟨S.g, i, none⟩ u) w.heap.size 4 1 ycell (List.replicate P.length false) := fun W i u ho => ho.far (by show w.heap.size ≠ S.g; omega) u
  refine ⟨h.put hv hO (by rw [hW2]; exact o4.drew) (by simp) (.inr fun _ => ⟨w.heap.size, rfl, Nat.le_refl _, ?_⟩), hO⟩
  rw [hW2]
  exact (hfar _ _ _ (hfar _ _ _ (hfar _ _ _ (hfar _ _ _ hA)))).drew
section
variable (w : World) (P : List Int) (S : RSt)
set_option maxRecDepth 100000 in
set_option maxHeartbeats 4000000 in
theorem rcommit_c (v : Nat) (n : Rn) (h : RAt w P S) (hv : S.N[v]? = some n) (he : n.x.ep ≤ 1000000) : Calls Try.prog 55 #[.agg #[.slice (some ⟨S.gp, 0, none⟩) P.length S.kp, .slice (some ⟨S.g, 0, none⟩) P.length S.kn], .int .i64 v] w (ZUpd w P S (rCommit P (rps S) v)) := by
  have HH := Kept.mk h
  have HV := Kept.mk hv
  have sm := h.sm
  have hmk := fun w => run_make_flat (P := Try.prog) ycell_len (by omega) false 66 4 _ 1 Try.underlying66 infoBo rfl P.length (by omega) (by omega) w
  obtain ⟨W0, hW0, hb, hr, hd, hs⟩ := two_boxes w 53 #[.slice (some ⟨S.gp, 0, none⟩) P.length S.kp, .slice (some ⟨S.g, 0, none⟩) P.length S.kn] #[.slice none 0 0, .slice none 0 0]
  have HB := Kept.mk hb
  have HR := Kept.mk hr
  have HD := Kept.mk hd
  have HH0 := Kept.mk (h.new_ hd)
  have hN := HH0.out.node hv
  obtain ⟨n0, n1, n2, n3, vl, zg, zp, fr⟩ := hN
  have k1 := hb.cell 1 (v := .slice (some ⟨S.g, 0, none⟩) P.length S.kn) rfl
  have zW := hb.lt
  clear h hv hb hr hd
  go_enter Try.func55, Try.ntmps55
  go_wp2_with fail
  rw [← hW0]
  clear hW0
  obtain ⟨W1, hW1⟩ : ∃ W1, W1 = W0.alloc (.cells ((List.replicate P.length false).flatMap ycell).toArray 4) := ⟨_, rfl⟩
  have hbW : Below W0.heap.size W0 W1 := by rw [hW1]; exact (Below.refl _ _).alloc (Nat.le_refl _) _
  obtain ⟨e0, e1, e2, e3, -, eg, -, ef⟩ := (HH0.out.new_ hbW).node HV.out
  have g0 := ef (v * 4)
  have g1 := ef (v * 4 + 1)
  have g2 := ef (v * 4 + 2)
  have g3 := ef (v * 4 + 3)
  rw [hW1] at e0 e1 e2 e3 eg g0 g1 g2 g3
  clear ef fr hbW hW1
  go_region
  obtain ⟨W2, hW2⟩ : ∃ W2, W2 = (((((W0.alloc (.cells ((List.replicate P.length false).flatMap ycell).toArray 4)).setCell ⟨S.g, v * 4, none⟩ (.int .i64 ((n.x.ep + 1 : Nat) : Int))).setCell ⟨S.g, v * 4 + 1, none⟩ (.int .i64 ((3 : Nat) : Int))).setCell ⟨S.g, v * 4 + 2, none⟩ (.bool false)).setCell ⟨S.g, v * 4 + 3, none⟩ (.slice (some ⟨W0.heap.size, 0, none⟩) P.length P.length)).drew := ⟨_, rfl⟩
  obtain ⟨hA2, hO2⟩ := HH0.out.put4 HV.out (n.x.ep + 1) 3 false rfl hW2
  have HX := Kept.mk (rps_get HV.out)
  have hpe : rps { S with N := S.N.set v ⟨⟨n.x.ep + 1, 3, false, List.replicate P.length false⟩, some ⟨W0.heap.size, 0, none⟩, P.length⟩ } = (rCommit P (rps S) v).1 := by unfold rCommit; rw [rps_set, HX.out]
  have hle : (rCommit P (rps S) v).2 = rDown P 3 v ((n.x.ep : Int) + 1) := by unfold rCommit; rw [HX.out]
  have HPE := Kept.mk hpe
  have HLE := Kept.mk hle
  have HA2 := Kept.mk hA2
  have HO2 : Kept (OnlyP (fun b => b = S.g) w W2) := ⟨(OnlyP.of_below HD.out _).trans hO2⟩
  have hN2 := hA2.node (v := v) (List.getElem?_set_self (by rw [HH.out.len]; exact vl))
  have q0 := hN2.n0
  have y0 := hN2.zg
  push_cast at q0
  have hB2 := HB.out.only hO2 (fun e => Blk.ne_ HB.out HH0.out.nodes.blk.choose_spec (by decide) e)
  have hR2 := HR.out.only hO2 (fun e => Blk.ne_ HR.out HH0.out.nodes.blk.choose_spec (by decide) e)
  have HB2 := Kept.mk hB2
  have HR2 := Kept.mk hR2
  have p0 := hB2.cell 0 (v := .slice (some ⟨S.gp, 0, none⟩) P.length S.kp) rfl
  have p1 := hB2.cell 1 (v := .slice (some ⟨S.g, 0, none⟩) P.length S.kn) rfl
  have y1 := hB2.lt
  rw [hs, show ((3 : Nat) : Int) = 3 from rfl, show ((n.x.ep + 1 : Nat) : Int) = (n.x.ep : Int) + 1 by push_cast; rfl] at hW2
  rw [← hW2]
  have HA2d := Kept.mk (HA2.out.new_ (bdrew (Below.refl _ _)))
  have HB2d := Kept.mk (HB2.out.drew)
  have HR2d := Kept.mk (HR2.out.drew)
  have HO2d := Kept.mk (HO2.out.drew)
  have hz2 := HO2.out.size
  have HNG : Kept (S.g ≠ w.heap.size + 1) := ⟨fun e => Blk.ne_ HR.out HH0.out.nodes.blk.choose_spec (by decide) e.symm⟩
  clear hW2 hB2 hR2 hN2 hle hpe hA2 hO2 e0 e1 e2 e3 eg g0 g1 g2 g3 n0 n1 n2 n3 k1 hmk zg zp
  go_wp2_with fail
  go_region_held3 (fun w' => w'.cell? ⟨w.heap.size, 0, none⟩ = some (.slice (some ⟨S.gp, 0, none⟩) P.length S.kp) ∧ w'.cell? ⟨w.heap.size, 1, none⟩ = some (.slice (some ⟨S.g, 0, none⟩) P.length S.kn) ∧ w'.cell? ⟨S.g, v * 4, none⟩ = some (.int .i64 ((n.x.ep : Int) + 1))) (first | exact ⟨p0, p1, q0⟩ | exact ⟨HB5.out.cell 0 rfl, HB5.out.cell 1 rfl, HQ5.out⟩ | exact ⟨HB6.out.cell 0 rfl, HB6.out.cell 1 rfl, HQ6.out⟩) ((go_at_call 66; refine (rdown_c _ P _ 3 v ((n.x.ep : Int) + 1) HA2d.out).mono ?_; rintro e w5 ⟨A, kap, rfl, ho, hb⟩; have HM5 := Kept.mk ho; have HA5 := Kept.mk (HA2d.out.new_ hb); have HB5 := Kept.mk (HB2d.out.new_ hb); have HR5 := Kept.mk (HR2d.out.new_ hb); have HO5 := Kept.mk (HO2d.out.new hb); have HQ5 := Kept.mk (((bcell hb).1 S.g (v * 4) y0).trans q0); clear ho hb; have r0 := HR5.out.cell 0 (v := .slice none 0 0) rfl; have r1 := HR5.out.cell 1 (v := .slice none 0 0) rfl; have f0 := HR5.out.free 0; have f1 := HR5.out.free 1; have yy := HR5.out.lt; have HB6 := Kept.mk ((HB5.out.far (p := ⟨w.heap.size + 1, 0, none⟩) (by show w.heap.size ≠ w.heap.size + 1; omega) (.slice (some ⟨S.gp, 0, none⟩) P.length S.kp)).far (p := ⟨w.heap.size + 1, 1, none⟩) (by show w.heap.size ≠ w.heap.size + 1; omega) (.slice (some ⟨S.g, 0, none⟩) P.length S.kn)); have HQ6 := Kept.mk (far2 HQ5.out HNG.out (.slice (some ⟨S.gp, 0, none⟩) P.length S.kp) (.slice (some ⟨S.g, 0, none⟩) P.length S.kn))))
  obtain ⟨W6, hW6⟩ : ∃ W6, W6 = (w5.setCell ⟨w.heap.size + 1, 0, none⟩ (.slice (some ⟨S.gp, 0, none⟩) P.length S.kp)).setCell ⟨w.heap.size + 1, 1, none⟩ (.slice (some ⟨S.g, 0, none⟩) P.length S.kn) := ⟨_, rfl⟩
  obtain ⟨s0, s1, hA6, hM6, hO6⟩ := z_end HA5.out HR5.out (own_base HM5.out (by simpa using hz2)) HO5.out hW6
  rw [← hW6]
  clear hW6 p0 p1 q0 r0 r1 f0 f1 HB6 HQ6 HB5 HR5
  go_wp2_with fail
  refine bodyPost_ret (v := .tuple #[.agg #[.slice (some ⟨S.gp, 0, none⟩) P.length S.kp, .slice (some ⟨S.g, 0, none⟩) P.length S.kn], .slice A (rDown P 3 v ((n.x.ep : Int) + 1)).length kap]) (by simp [results, Try.results55, go_sem, s0, s1]) rfl ?_
  refine ⟨_, A, kap, ?_, HPE.out, hA6, by rw [HLE.out]; exact hM6, hO6, rfl⟩
  rw [HLE.out]
end
end Go.Proofs.Ytibmbhnpmfgclaa
