/- Reconfig: the walks of down, rise and complete. -/
import Derived.Test.YtibmbhnpmfgclaaRMem
namespace Go.Proofs.Ytibmbhnpmfgclaa
set_option linter.unusedVariables false
set_option linter.unusedSimpArgs false
open Go.RowKit Go.Maps
def downK (K : List Nat) (x : Sn) (kind : Int) (v : Nat) (ep : Int) : List Mg := (K.filter fun c => !(x.an.contains c)).map fun (c : Nat) => ⟨kind, v, c, ep⟩
theorem down_is (P : List Int) (x : Sn) (kind : Int) (v : Nat) (ep : Int) : downP P x kind v ep = downK (kids P v) x kind v ep := rfl
theorem downK_len (K : List Nat) (x : Sn) (kind : Int) (v : Nat) (ep : Int) : (downK K x kind v ep).length ≤ K.length := by
  unfold downK; rw [List.length_map]; exact List.length_filter_le _ _
theorem downK_yes {K : List Nat} {x : Sn} {kind ep : Int} {v k c : Nat} (hc : K[k]? = some c) (h : c ∈ x.an) : downK (K.take (k + 1)) x kind v ep = downK (K.take k) x kind v ep := by
  unfold downK; rw [take_next hc, List.filter_append, List.filter_cons_of_neg (by simpa using h)]; simp
theorem downK_no {K : List Nat} {x : Sn} {kind ep : Int} {v k c : Nat} (hc : K[k]? = some c) (h : c ∉ x.an) : downK (K.take (k + 1)) x kind v ep = downK (K.take k) x kind v ep ++ [⟨kind, v, c, ep⟩] := by
  unfold downK; rw [take_next hc, List.filter_append, List.filter_cons_of_pos (by simpa using h)]; simp
theorem wfN {k : Nat} (h : k ≤ 1000000) : (Lit.int .i64 (k : Int)).wf = true := WalkArith.wf_i64 ⟨by omega, by omega⟩
/-- What the walks need of node v. -/
structure NodeAt (w : World) (L : Lay) (M : List Nm) (v : Nat) (m : Nm) (pt : Pt) : Prop where
  b0 : w.cell? ⟨L.b, 0, none⟩ = some (.slice L.Ap L.P.length L.kp)
  b1 : w.cell? ⟨L.b, 1, none⟩ = some (.slice (some ⟨L.gC, 0, none⟩) L.P.length L.P.length)
  b2 : w.cell? ⟨L.b, 2, none⟩ = some (.int .i64 L.root)
  b3 : w.cell? ⟨L.b, 3, none⟩ = some (.slice (some ⟨L.gN, 0, none⟩) L.P.length L.P.length)
  c0 : w.cell? ⟨L.gC, v, none⟩ = some (.slice pt.A pt.L.length pt.cap)
  n0 : w.cell? ⟨L.gN, v * 4, none⟩ = some (.int .i64 m.x.ep)
  n1 : w.cell? ⟨L.gN, v * 4 + 1, none⟩ = some (.int .i64 m.x.ph)
  n2 : w.cell? ⟨L.gN, v * 4 + 2, none⟩ = some (.map m.mb)
  n3 : w.cell? ⟨L.gN, v * 4 + 3, none⟩ = some (.bool m.x.dr)
  f : ∀ i, w.frozen? ⟨L.gN, i, none⟩ = false
  vl : v < L.P.length
  sm : L.P.length ≤ 1000000
  zb : L.b < w.heap.size
  zC : L.gC < w.heap.size
  zN : L.gN < w.heap.size
  pl : pt.L.length ≤ L.P.length
  nb : L.b ≠ L.gN
  nc : L.gC ≠ L.gN
theorem ChAt.node {w : World} {L : Lay} {M : List Nm} (h : ChAt w L M) {v : Nat} {m : Nm} (hv : M[v]? = some m) : ∃ pt, L.pts[v]? = some pt ∧ NodeAt w L M v m pt := by
  have hvl : v < M.length := (List.getElem?_eq_some_iff.1 hv).1
  obtain ⟨pt, hpt⟩ := get_some (l := L.pts) (k := v) (by rw [h.fix.chl, ← h.len]; exact hvl)
  have hk := (h.fix.chk v pt hpt).2
  refine ⟨pt, hpt, h.fix.box.cell 0 rfl, h.fix.box.cell 1 rfl, h.fix.box.cell 2 rfl, h.fix.box.cell 3 rfl, by have := h.fix.ch.cell pcell_len hpt (j := 0) rfl; simpa using this, by have := h.nodes.cell smcell_len hv (j := 0) rfl; simpa using this, h.nodes.cell smcell_len hv (j := 1) rfl, h.nodes.cell smcell_len hv (j := 2) rfl, h.nodes.cell smcell_len hv (j := 3) rfl, fun i => h.nodes.free i, by rw [← h.len]; exact hvl, h.fix.sm, h.fix.box.lt, h.fix.ch.lt, h.nodes.lt, by rw [hk, List.length_map]; exact kids_len _ _, Blk.ne_ h.fix.box h.nodes (by decide), Blk.ne_ h.fix.ch h.nodes (by decide)⟩
theorem kid_at {w : World} {L : Lay} {M : List Nm} (h : ChAt w L M) {v : Nat} {pt : Pt} (hpt : L.pts[v]? = some pt) {k : Nat} (hk : k < pt.L.length) : ∃ c b off, (kids L.P v)[k]? = some c ∧ pt.A = some ⟨b, off, none⟩ ∧ b < w.heap.size ∧ w.cell? ⟨b, off + k, none⟩ = some (.int .i64 (c : Nat)) ∧ c < L.P.length := by
  obtain ⟨ho, hK⟩ := h.fix.chk v pt hpt
  obtain ⟨x, b, off, hx, hA, -, hb, hc⟩ := (RowsAt.of_own ho icell_len (by omega) rfl).at_ hk
  rw [hK, List.getElem?_map] at hx
  obtain ⟨c, hc1, hc2⟩ := Option.map_eq_some_iff.1 hx
  have := hc 0 _ rfl
  refine ⟨c, b, off, hc1, hA, hb, by rw [hc2]; simpa using this, ?_⟩
  exact (mem_kids.1 (List.mem_of_getElem? hc1)).1
set_option maxHeartbeats 4000000 in
theorem down_c (w : World) (L : Lay) (M : List Nm) (v : Nat) (m : Nm) (kind ep : Int) (h : ChAt w L M) (hv : M[v]? = some m) (hp : m.x.ph = 1 ∨ m.x.ph = 3) :
    Calls Try.prog 48 #[.pointer (some ⟨L.b, 0, none⟩), .int .i64 kind, .int .i64 v, .int .i64 ep] w fun e w' => ∃ A kap, e = .returned (.slice A (downP L.P m.x kind v ep).length kap) ∧ w'.ownsRow w.heap.size 39 4 (.slice A (downP L.P m.x kind v ep).length kap) (downP L.P m.x kind v ep).length ((downP L.P m.x kind v ep).flatMap mcell) ∧ Below w.heap.size w w' := by
  obtain ⟨g, hg, hmap⟩ := h.maps m (List.mem_of_getElem? hv) hp
  obtain ⟨pt, hpt, hN⟩ := h.node hv
  have hkl := (h.fix.chk v pt hpt).2
  have HC := Kept.mk h
  have HM := Kept.mk hmap
  have HPT := Kept.mk hpt
  have HKL : Kept ((kids L.P v).length = pt.L.length) := ⟨by rw [hkl, List.length_map]⟩
  obtain ⟨b0, b1, b2, b3, c0, n0, n1, n2, n3, -, vl, sm, zb, zC, zN, pl, nb, nc⟩ := hN
  rw [hg] at n2
  obtain ⟨jj, hjj, hy0, hy1, hy2⟩ := info_parts infoM
  clear h hmap hpt hkl hg hv n0 n1 n3 b0 b2
  rw [down_is]
  go_enter Try.func48, Try.ntmps48
  go_wp2_with fail
  go_loopw [9, 20] (fun v9 v20 wr => ∃ k : Nat, k ≤ pt.L.length ∧ v20 = .int .i64 k ∧ Kept (wr.ownsRow w.heap.size 39 4 v9 (downK ((kids L.P v).take k) m.x kind v ep).length ((downK ((kids L.P v).take k) m.x kind v ep).flatMap mcell)) ∧ Kept (Below w.heap.size w wr)) (fun _ v20 _ => pt.L.length - (intOf v20).toNat)
  case atStart => exact ⟨0, Nat.zero_le _, rfl, ⟨World.ownsRow_nil _ _ _ _⟩, ⟨Below.refl _ _⟩⟩
  case round =>
    obtain ⟨k, hk, rfl, HO, HD⟩ := hrel
    have hz := HD.out.size
    by_cases hlt : k < pt.L.length
    · obtain ⟨c, b, off, hc, hA, hb, hcell, hcl⟩ := kid_at (HC.out.new_ HD.out) HPT.out hlt
      have HCK := Kept.mk hc
      have HA := Kept.mk hA
      obtain ⟨c1, c2⟩ := bcell HD.out
      have hwf := wfN (k := c) (by omega)
      rw [hA]
      have hln := downK_len ((kids L.P v).take k) m.x kind v ep
      have hln2 := List.length_take_le k (kids L.P v)
      have HMW := Kept.mk (MapAt.new_ HM.out HD.out)
      clear hc hA
      by_cases hin : c ∈ m.x.an
      · have HF : Kept (anF m.x.an (c : Nat) = some (.bool true)) := ⟨by rw [anF_nat, if_pos hin]⟩
        have HE := Kept.mk (downK_yes (kind := kind) (ep := ep) (v := v) HCK.out hin)
        clear hin
        go_wp2_with (at_lookup; refine wpList_lookI rfl _ _ 87 rfl 3 4 Try.underlying3 Try.underlying87 (zeroB_ _) g _ (anF m.x.an) rfl HMW.out (c : Int) rfl hwf ?_; rw [HF.out])
        go_roundw
        case rel => exact ⟨k + 1, by omega, by go_num, ⟨by rw [HE.out]; exact HO.out⟩, HD⟩
        case measure => simp [intOf]; omega
      · have HF : Kept (anF m.x.an (c : Nat) = none) := ⟨by rw [anF_nat, if_neg hin]⟩
        have HE := Kept.mk (downK_no (kind := kind) (ep := ep) (v := v) HCK.out hin)
        have HMS := Kept.mk (reads_made wr #[.int .i64 kind, .int .i64 v, .int .i64 c, .int .i64 ep] 39 4 1 rfl)
        have HO6 := Kept.mk (HO.out.alloc (.cells #[.int .i64 kind, .int .i64 v, .int .i64 c, .int .i64 ep] 39))
        have h1 : ∀ u ∈ (#[Value.int .i64 kind, .int .i64 v, .int .i64 c, .int .i64 ep]).toList, u.oneCell' = true := (by intro u hu; simp at hu; rcases hu with rfl | rfl | rfl | rfl <;> rfl)
        clear hin
        go_wp2_with (first | (at_lookup; refine wpList_lookI rfl _ _ 87 rfl 3 4 Try.underlying3 Try.underlying87 (zeroB_ _) g _ (anF m.x.an) rfl HMW.out (c : Int) rfl hwf ?_; rw [HF.out]) | (at_builtin; refine wpList_append_any _ rfl _ _ _ rfl w.heap.size 39 jj _ 4 32 Try.underlying40 hjj hy0 hy1 hy2 rfl (by omega) _ (downK ((kids L.P v).take k) m.x kind v ep).length _ rfl HO6.out _ _ 1 1 _ rfl HMS.out h1 (by unfold maxLen; omega) (by omega) (by simp; omega) ?_; intro v' w4 ho hgw hat; have HO7 := Kept.mk ho; have HGW := Kept.mk hgw; clear ho hgw hat))
        go_roundw
        case rel => exact ⟨k + 1, by omega, by go_num, ⟨by rw [HE.out, List.length_append, List.flatMap_append]; simpa [mcell] using HO7.out⟩, ⟨(HD.out.alloc hz _).grown HGW.out (by simp; omega) (fun j hj => (HO6.out.lt j hj).1)⟩⟩
        case measure => simp [intOf]; omega
    · obtain rfl : k = pt.L.length := by omega
      have HO2 := HO.out
      rw [List.take_of_length_le (by rw [HKL.out]; exact Nat.le_refl _)] at HO2
      replace HO2 := Kept.mk HO2
      obtain ⟨A, kap, hv9⟩ := own_slice HO2.out
      subst hv9
      clear hlt
      go_wp2_with fail
      go_ret
      exact ⟨A, kap, rfl, HO2.out, HD.out⟩
set_option maxHeartbeats 4000000 in
theorem rise_c (w : World) (L : Lay) (M : List Nm) (v : Nat) (m : Nm) (kind ep : Int) (h : ChAt w L M) (hv : M[v]? = some m) :
    Calls Try.prog 49 #[.pointer (some ⟨L.b, 0, none⟩), .int .i64 kind, .int .i64 v, .int .i64 ep] w fun e w' => ∃ A kap, e = .returned (.slice A (riseP L.P kind v ep).length kap) ∧ w'.ownsRow w.heap.size 39 4 (.slice A (riseP L.P kind v ep).length kap) (riseP L.P kind v ep).length ((riseP L.P kind v ep).flatMap mcell) ∧ Below w.heap.size w w' := by
  obtain ⟨pt, hpt, hN⟩ := h.node hv
  have hvl := hN.vl
  obtain ⟨x, b, off, hx, hA, -, hb, hc⟩ := (RowsAt.of_own h.fix.par icell_len (by omega) rfl).at_ hvl
  have hpar : parI L.P v = x := by simp [parI, hx]
  have c0 := hc 0 _ rfl
  simp only [Nat.add_zero, Nat.mul_one] at c0
  have HA := Kept.mk hA
  have b0 := hN.b0
  rw [hA] at b0
  have sm := hN.sm
  have zb := hN.zb
  clear h hv hpt hN hx hA hc
  unfold riseP
  rw [hpar]
  have HO : Kept ((w.alloc (.cells #[.int .i64 kind, .int .i64 v, .int .i64 x, .int .i64 ep] 39)).ownsRow w.heap.size 39 4 (.slice (some ⟨w.heap.size, 0, none⟩) 1 1) 1 ([⟨kind, v, x, ep⟩].flatMap mcell)) :=
    ⟨⟨by simp [mcell], .inr ⟨w.heap.size, 1, _, rfl, Nat.le_refl _, heap_alloc_new w _, Nat.le_refl _, by unfold maxLen; omega, by simp, by simp [mcell]⟩⟩⟩
  clear hpar
  go_enter Try.func49, Try.ntmps49
  go_wp2_with fail
  go_ret
  exact ⟨_, _, rfl, HO.out, (Below.refl _ _).alloc (Nat.le_refl _) _⟩
theorem full_run {w : World} {g s : Nat} {f : Int → Option Value} (h : MapI Try.prog 3 w g s f) (ty : TypeId) (n : Nat) : (Builtin.len_ #[87] ty #[.map (some g)]).run Try.prog (w.drewN n) = .ok (.int .i64 s) (w.drewN n) := by
  obtain ⟨D, h1, h2, h3, h4⟩ := (MapAt.drewN h n : MapI Try.prog 3 (w.drewN n) g s f)
  have := h1.len (t := 87) Try.underlying87 ty
  rw [this, h3]
set_option maxHeartbeats 4000000 in
theorem complete_c (w : World) (L : Lay) (M : List Nm) (v : Nat) (m : Nm) (h : ChAt w L M) (hv : M[v]? = some m) (hp : m.x.ph = 1 ∨ m.x.ph = 3) :
    Calls Try.prog 63 #[.pointer (some ⟨L.b, 0, none⟩), .int .i64 v] w fun e w' => e = .returned (.bool (fullB L.P m.x v)) ∧ ∃ n, w' = w.drewN n := by
  obtain ⟨g, hg, hmap⟩ := h.maps m (List.mem_of_getElem? hv) hp
  obtain ⟨pt, hpt, hN⟩ := h.node hv
  have hkl := (h.fix.chk v pt hpt).2
  have HKL : Kept ((kids L.P v).length = pt.L.length) := ⟨by rw [hkl, List.length_map]⟩
  obtain ⟨b0, b1, b2, b3, c0, n0, n1, n2, n3, -, vl, sm, zb, zC, zN, pl, nb, nc⟩ := hN
  rw [hg] at n2
  have hlen := full_run hmap
  have HB : Kept (fullB L.P m.x v = ((m.x.an.length : Int) == (pt.L.length : Int))) := ⟨by unfold fullB; rw [HKL.out, Bool.eq_iff_iff]; simp; omega⟩
  clear h hmap hpt hkl hg hv n0 n1 n3 b0 b2
  rw [HB.out]
  go_enter Try.func63, Try.ntmps63
  go_wp2_with fail
  go_quiet (fail)
  go_wp2_with fail
  go_ret
  exact ⟨rfl, _, rfl⟩
end Go.Proofs.Ytibmbhnpmfgclaa
