/- Reconfig: the reference's Begin. -/
import Derived.Test.YtibmbhnpmfgclaaRZF
namespace Go.Proofs.Ytibmbhnpmfgclaa
set_option linter.unusedVariables false
set_option linter.unusedSimpArgs false
open Go.RowKit Go.Maps
/-- What an operation of the reference leaves. -/
def ZRes (w : World) (P : List Int) (o : OutR) (err : Int) (e : Ending) (w' : World) : Prop :=
  ∃ (S' : RSt) (A : Option Addr) (kap : Nat), e = .returned (.tuple #[.agg #[.slice (some ⟨S'.gp, 0, none⟩) P.length S'.kp, .slice (some ⟨S'.g, 0, none⟩) P.length S'.kn], .slice A o.2.length kap, .int .i64 err]) ∧ rps S' = o.1 ∧ RAt w' P S' ∧
    w'.ownsRow w.heap.size 62 4 (.slice A o.2.length kap) o.2.length (o.2.flatMap mcell) ∧ Below w.heap.size w w'
theorem rotK_lt {P : List Int} (h : 0 < P.length) : rotK P < P.length := by
  unfold rotK
  cases hf : P.findIdx? (fun x => decide (x < 0)) with
  | none => simpa using h
  | some k => have := List.findIdx?_eq_some_iff_getElem.1 hf; simpa using this.choose
def beginR (P : List Int) (rs : List Rp) : OutR := if (rd rs (rotK P)).ph = 0 then rBegin P rs (rotK P) else (rs, [])
def beginE (P : List Int) (rs : List Rp) : Int := if (rd rs (rotK P)).ph = 0 then 0 else 6
section
variable (w : World) (P : List Int) (S : RSt)
set_option maxRecDepth 100000 in
set_option maxHeartbeats 4000000 in
theorem rBegin_c (h : RAt w P S) (he : (rd (rps S) (rotK P)).ep ≤ 1000000) : Calls Try.prog 26 #[.agg #[.slice (some ⟨S.gp, 0, none⟩) P.length S.kp, .slice (some ⟨S.g, 0, none⟩) P.length S.kn]] w (ZRes w P (beginR P (rps S)) (beginE P (rps S))) := by
  have HH := Kept.mk h
  have sm := h.sm
  have hrl := rotK_lt h.pos
  obtain ⟨n, hn⟩ := get_some (l := S.N) (k := rotK P) (by rw [h.len]; exact hrl)
  have hx := rps_get hn
  rw [hx] at he
  have HX := Kept.mk hx
  have HV := Kept.mk hn
  obtain ⟨W0, hW0, hb, hr, hd, hs⟩ := two_boxes w 53 #[.slice (some ⟨S.gp, 0, none⟩) P.length S.kp, .slice (some ⟨S.g, 0, none⟩) P.length S.kn] #[.slice none 0 0, .slice none 0 0]
  have HB := Kept.mk hb
  have HR := Kept.mk hr
  have HD := Kept.mk hd
  have HH0 := Kept.mk (h.new_ hd)
  have k0 := hb.cell 0 (v := .slice (some ⟨S.gp, 0, none⟩) P.length S.kp) rfl
  have k1 := hb.cell 1 (v := .slice (some ⟨S.g, 0, none⟩) P.length S.kn) rfl
  have zW := hb.lt
  have HROT : Kept (beginR P (rps S) = (if n.x.ph = 0 then rBegin P (rps S) (rotK P) else (rps S, [])) ∧ beginE P (rps S) = (if n.x.ph = 0 then 0 else 6)) := ⟨by unfold beginR beginE; rw [hx]; exact ⟨rfl, rfl⟩⟩
  rw [HROT.out.1, HROT.out.2]
  clear h hn hb hr hd hx HROT
  obtain ⟨r, hrr⟩ : ∃ r, rotK P = r := ⟨_, rfl⟩
  rw [hrr] at HX HV hrl ⊢
  have HRR := Kept.mk hrr
  clear hrr
  by_cases h0 : n.x.ph = 0
  · rw [if_pos h0, if_pos h0]
    obtain ⟨q1, q2⟩ := z_yes (show (n.x.ph : Int) = 0 by omega)
    clear h0
    go_enter Try.func26, Try.ntmps26
    go_upto_region 1 with fail
    rw [← hW0]
    clear hW0
    go_upto_region 4 with ((go_at_call 50; refine (root_c _ P S HH0.out).mono ?_; rintro e w1 ⟨rfl, hb⟩; rw [HRR.out]; have HA1 := Kept.mk (HH0.out.new_ hb); have HR1 := Kept.mk (HR.out.new_ hb); have HB1 := Kept.mk (HB.out.new_ hb); have HD1 := Kept.mk (join HD.out hb); clear hb; have k0 := HB1.out.cell 0 (v := .slice (some ⟨S.gp, 0, none⟩) P.length S.kp) rfl; have k1 := HB1.out.cell 1 (v := .slice (some ⟨S.g, 0, none⟩) P.length S.kn) rfl; have zW := HB1.out.lt; have n1 := RNode.n1 (HA1.out.node HV.out); have zg := RNode.zg (HA1.out.node HV.out)))
    go_wp2_with (first | (go_at_call 52; refine (copied_c _ P S HA1.out).mono ?_; rintro e w2 ⟨S2, rfl, hps, hA, hg, -, hb⟩; obtain ⟨n2, hn2⟩ := get_some (l := S2.N) (k := r) (by rw [hA.len]; exact hrl); have hnx : n2.x = n.x := (by rw [← rps_get hn2, hps, HX.out]); have he2 : n2.x.ep ≤ 1000000 := (by rw [hnx]; exact he); have HPS := Kept.mk hps; have HA2 := Kept.mk hA; have HG2 := Kept.mk hg; have HN2 := Kept.mk hn2; have HB2 := Kept.mk (HB1.out.new_ hb); have HR2 := Kept.mk (HR1.out.new_ hb); have HD2 := Kept.mk (join HD1.out hb); clear hps hA hg hn2 hnx hb) | (go_at_call 51; refine (rbegin_c _ P S2 r n2 HA2.out HN2.out he2).mono ?_; rw [HPS.out]; rintro e w3 ⟨S3, A, kap, rfl, hps, hA, hM, hO, hg⟩; have HP3 := Kept.mk hps; have HA3 := Kept.mk hA; have HM3 := Kept.mk hM; have hz2 := HD1.out.size; have HD3 : Kept (Below w.heap.size w w3) := ⟨((OnlyP.of_below HD2.out (fun b => b = S2.g)).trans hO).below (B := w.heap.size) (fun k hk => by have := HG2.out; omega) (Nat.le_refl _)⟩; have HR3 := Kept.mk (HR2.out.only hO (fun e => by have := HG2.out; have := HR1.out.lt; omega)); have r0 := HR3.out.cell 0 (v := .slice none 0 0) rfl; have r1 := HR3.out.cell 1 (v := .slice none 0 0) rfl; have r2 := HR3.out.free 0; have r3 := HR3.out.free 1; have r4 := HR3.out.lt; clear hps hA hM hO hg))
    obtain ⟨W6, hW6⟩ : ∃ W6, W6 = (w3.setCell ⟨w.heap.size + 1, 0, none⟩ (.slice (some ⟨S3.gp, 0, none⟩) P.length S3.kp)).setCell ⟨w.heap.size + 1, 1, none⟩ (.slice (some ⟨S3.g, 0, none⟩) P.length S3.kn) := ⟨_, rfl⟩
    obtain ⟨s0, s1, hA6, hM6, hO6⟩ := z_end HA3.out HR3.out (own_base HM3.out HD2.out.size) (OnlyP.of_below HD3.out (fun b => b = S.g)) hW6
    have hb6 : Below w.heap.size w W6 := by rw [hW6]; exact (HD3.out.setCell (by show w.heap.size ≤ w.heap.size + 1; omega) _).setCell (by show w.heap.size ≤ w.heap.size + 1; omega) _
    have hz6 : w.heap.size + 1 < W6.heap.size := by rw [hW6, size_set', size_set']; exact r4
    obtain ⟨W7, hW7⟩ : ∃ W7, W7 = W6.alloc (.cells #[.slice (some ⟨S3.gp, 0, none⟩) P.length S3.kp, .slice (some ⟨S3.g, 0, none⟩) P.length S3.kn] 53) := ⟨_, rfl⟩
    have hb7 : Below W6.heap.size W6 W7 := by rw [hW7]; exact (Below.refl _ _).alloc (Nat.le_refl _) _
    rw [← hW6, ← hW7]
    have t0 := ((bcell hb7).1 _ 0 hz6).trans s0
    have t1 := ((bcell hb7).1 _ 1 hz6).trans s1
    clear hW6 hW7 r0 r1 r2 r3 s0 s1
    refine bodyPost_ret (v := .tuple #[.agg #[.slice (some ⟨S3.gp, 0, none⟩) P.length S3.kp, .slice (some ⟨S3.g, 0, none⟩) P.length S3.kn], .slice A (rBegin P (rps S) r).2.length kap, .int .i64 0]) (by simp [results, Try.results26, go_sem, t0, t1]) rfl ?_
    exact ⟨S3, A, kap, rfl, HP3.out, hA6.new_ hb7, own_new hM6 hb7, join hb6 hb7⟩
  · rw [if_neg h0, if_neg h0]
    obtain ⟨q1, q2⟩ := z_no (show (n.x.ph : Int) ≠ 0 by omega)
    clear h0
    go_enter Try.func26, Try.ntmps26
    go_upto_region 1 with fail
    rw [← hW0]
    clear hW0
    go_wp2_with ((go_at_call 50; refine (root_c _ P S HH0.out).mono ?_; rintro e w1 ⟨rfl, hb⟩; rw [HRR.out]; have HA1 := Kept.mk (HH0.out.new_ hb); have HR1 := Kept.mk (HR.out.new_ hb); have HB1 := Kept.mk (HB.out.new_ hb); have HD1 := Kept.mk (join HD.out hb); clear hb; have k0 := HB1.out.cell 0 (v := .slice (some ⟨S.gp, 0, none⟩) P.length S.kp) rfl; have k1 := HB1.out.cell 1 (v := .slice (some ⟨S.g, 0, none⟩) P.length S.kn) rfl; have zW := HB1.out.lt; have n1 := RNode.n1 (HA1.out.node HV.out); have zg := RNode.zg (HA1.out.node HV.out); have r0 := HR1.out.cell 0 (v := .slice none 0 0) rfl; have r1 := HR1.out.cell 1 (v := .slice none 0 0) rfl; have r2 := HR1.out.free 0; have r3 := HR1.out.free 1; have r4 := HR1.out.lt))
    obtain ⟨W6, hW6⟩ : ∃ W6, W6 = (w1.setCell ⟨w.heap.size + 1, 0, none⟩ (.slice (some ⟨S.gp, 0, none⟩) P.length S.kp)).setCell ⟨w.heap.size + 1, 1, none⟩ (.slice (some ⟨S.g, 0, none⟩) P.length S.kn) := ⟨_, rfl⟩
    obtain ⟨s0, s1, hA6, hM6, hO6⟩ := z_end (A := none) (kap := 0) (l := []) HA1.out HR1.out (World.ownsRow_nil _ _ _ _) (OnlyP.of_below HD1.out (fun b => b = S.g)) hW6
    have hb6 : Below w.heap.size w W6 := by rw [hW6]; exact (HD1.out.setCell (by show w.heap.size ≤ w.heap.size + 1; omega) _).setCell (by show w.heap.size ≤ w.heap.size + 1; omega) _
    rw [← hW6]
    clear hW6
    refine bodyPost_ret (v := .tuple #[.agg #[.slice (some ⟨S.gp, 0, none⟩) P.length S.kp, .slice (some ⟨S.g, 0, none⟩) P.length S.kn], .slice none 0 0, .int .i64 6]) (by simp [results, Try.results26, go_sem, s0, s1]) rfl ?_
    exact ⟨S, none, 0, rfl, rfl, hA6, hM6, hb6⟩
end
end Go.Proofs.Ytibmbhnpmfgclaa
