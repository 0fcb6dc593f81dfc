/- Reconfig: the walk of Repeat. -/
import Derived.Test.YtibmbhnpmfgclaaRApi
namespace Go.Proofs.Ytibmbhnpmfgclaa
set_option linter.unusedVariables false
set_option linter.unusedSimpArgs false
open Go.RowKit Go.Maps
theorem m_one (l : List Mg) : ∀ u ∈ l.flatMap mcell, u.oneCell' = true := by
  intro u hu
  obtain ⟨m, _, hm⟩ := List.mem_flatMap.1 hu
  simp only [mcell, List.mem_cons, List.not_mem_nil, or_false] at hm
  rcases hm with rfl | rfl | rfl | rfl <;> rfl
def repK (P : List Int) (ns : List Sn) (k : Nat) : List Mg := (List.range k).flatMap fun v => sendP P (nd ns v) v
theorem repK_succ (P : List Int) (ns : List Sn) (k : Nat) : repK P ns (k + 1) = repK P ns k ++ sendP P (nd ns k) k := by
  unfold repK; rw [List.range_succ, List.flatMap_append]; simp
theorem sendP_len (P : List Int) (x : Sn) (v : Nat) : (sendP P x v).length ≤ P.length + 1 := by
  unfold sendP
  have := down_len P x 1 v (x.ep + 1)
  have := down_len P x 3 v x.ep
  split
  · omega
  · split
    · simp [riseP]
    · split
      · omega
      · simp
theorem repK_len (P : List Int) (ns : List Sn) (k : Nat) : (repK P ns k).length ≤ k * (P.length + 1) := by
  induction k with
  | zero => simp [repK]
  | succ k ih => rw [repK_succ, List.length_append, Nat.succ_mul]; have := sendP_len P (nd ns k) k; omega
set_option maxRecDepth 100000 in
set_option maxHeartbeats 8000000 in
theorem Repeat_c (w : World) (L : Lay) (M : List Nm) (h : ChAt w L M) (hf : Fit (sns M)) :
    Calls Try.prog 23 #[.pointer (some ⟨L.b, 0, none⟩)] w fun e w' => ∃ A kap, e = .returned (.slice A (repeatP L.P (sns M)).length kap) ∧ w'.ownsRow w.heap.size 39 4 (.slice A (repeatP L.P (sns M)).length kap) (repeatP L.P (sns M)).length ((repeatP L.P (sns M)).flatMap mcell) ∧ Below w.heap.size w w' := by
  have HH := Kept.mk h
  have HFI := Kept.mk hf
  have b3 := b3_at h
  have zb := h.fix.box.lt
  have sm := h.fix.sm
  have HL := Kept.mk (sl_len h)
  have hrep : repeatP L.P (sns M) = repK L.P (sns M) L.P.length := by unfold repeatP repK; rw [sl_len h]
  obtain ⟨jj, hjj, hy0, hy1, hy2⟩ := info_parts infoM
  rw [hrep]
  clear h hf hrep
  go_enter Try.func23, Try.ntmps23
  go_wp2_with fail
  go_loopw [3, 13] (fun v3 v13 wr => ∃ k : Nat, k ≤ L.P.length ∧ v13 = .int .i64 k ∧ Kept (wr.ownsRow w.heap.size 39 4 v3 (repK L.P (sns M) k).length ((repK L.P (sns M) k).flatMap mcell)) ∧ Kept (Below w.heap.size w wr)) (fun _ v13 _ => L.P.length - (intOf v13).toNat)
  case atStart => exact ⟨0, Nat.zero_le _, rfl, ⟨World.ownsRow_nil _ _ _ _⟩, ⟨Below.refl _ _⟩⟩
  case round =>
    obtain ⟨k, hk, rfl, HO, HD⟩ := hrel
    have hz := HD.out.size
    by_cases hlt : k < L.P.length
    · have hC := HH.out.new_ HD.out
      obtain ⟨m, hv, hx⟩ := m_at hC hlt
      obtain ⟨pt, hpt, hN⟩ := hC.node hv
      have hE := HFI.out.ep k (by rw [HL.out]; exact hlt)
      have hP := HFI.out.ph k (by rw [HL.out]; exact hlt)
      rw [hx] at hE hP
      unfold MaxEp at hE
      have HV := Kept.mk hv
      obtain ⟨b0, b1, b2, b3', c0, n0, n1, n2, n3, -, vl, sm', zb', zC, zN, pl, nb, nc⟩ := hN
      have HSX : Kept (repK L.P (sns M) (k + 1) = repK L.P (sns M) k ++ sendP L.P m.x k) := ⟨by rw [repK_succ, hx]⟩
      have hb0 := repK_len L.P (sns M) k
      have hb1 := sendP_len L.P m.x k
      have hb2 : k * (L.P.length + 1) ≤ 1000000 * 1000001 := Nat.mul_le_mul (by omega) (by omega)
      have HBX : Kept (Below w.heap.size w (wr.alloc (.cells #[.int .i64 m.x.ep, .int .i64 m.x.ph, .map m.mb, .bool m.x.dr] 89))) := ⟨HD.out.alloc hz _⟩
      have HCX := Kept.mk (HH.out.new_ HBX.out)
      have HOX := Kept.mk (HO.out.alloc (.cells #[.int .i64 m.x.ep, .int .i64 m.x.ph, .map m.mb, .bool m.x.dr] 89))
      rcases (by omega : m.x.ph = 1 ∨ m.x.ph = 2 ∨ m.x.ph = 3 ∨ m.x.ph = 0) with hp | hp | hp | hp
      · have hs : sendP L.P m.x k = downP L.P m.x 1 k ((m.x.ep : Int) + 1) := by unfold sendP; rw [if_pos hp]
        rw [hs] at HSX hb1
        have HP := Kept.mk hp
        obtain ⟨q1, -⟩ := z_yes (show (m.x.ph : Int) = 1 by omega)
        clear hx hv hpt hC hs hp c0 b0 b1 b2
        go_wp2_with (first | (go_at_call 48; refine (down_c _ L M k m 1 ((m.x.ep : Int) + 1) HCX.out HV.out (.inl HP.out)).mono ?_; rintro e w1 ⟨A, kap, rfl, ho, hb⟩; have HR1 := Kept.mk (Reads.of_own ho); have HO1 := Kept.mk (own_new HOX.out hb); have HD1 := Kept.mk (join HBX.out hb); have hz1 := HD1.out.size; clear ho hb) | (at_builtin; refine wpList_append_any _ rfl _ _ _ rfl w.heap.size 39 jj _ 4 32 Try.underlying40 hjj hy0 hy1 hy2 rfl (by omega) _ _ _ rfl HO1.out _ A (downP L.P m.x 1 k ((m.x.ep : Int) + 1)).length kap _ rfl HR1.out (m_one _) (by unfold maxLen; omega) (by omega) hz1 ?_; intro v' w4 ho hgw hat; have HO7 := Kept.mk ho; have HD7 := Kept.mk (HD1.out.grown hgw hz1 (fun j hj => (HO1.out.lt j hj).1)); clear ho hgw hat))
        go_roundw
        case rel => exact ⟨k + 1, by omega, by go_num, ⟨by rw [HSX.out, List.length_append, List.flatMap_append]; exact HO7.out⟩, HD7⟩
        case measure => simp [intOf]; omega
      · have hs : sendP L.P m.x k = riseP L.P 2 k ((m.x.ep : Int) + 1) := by unfold sendP; rw [if_neg (by omega), if_pos hp]
        rw [hs] at HSX hb1
        obtain ⟨q1, -⟩ := z_no (show (m.x.ph : Int) ≠ 1 by omega)
        obtain ⟨q2, -⟩ := z_yes (show (m.x.ph : Int) = 2 by omega)
        clear hx hv hpt hC hs hp c0 b0 b1 b2
        go_wp2_with (first | (go_at_call 49; refine (rise_c _ L M k m 2 ((m.x.ep : Int) + 1) HCX.out HV.out).mono ?_; rintro e w1 ⟨A, kap, rfl, ho, hb⟩; have HR1 := Kept.mk (Reads.of_own ho); have HO1 := Kept.mk (own_new HOX.out hb); have HD1 := Kept.mk (join HBX.out hb); have hz1 := HD1.out.size; clear ho hb) | (at_builtin; refine wpList_append_any _ rfl _ _ _ rfl w.heap.size 39 jj _ 4 32 Try.underlying40 hjj hy0 hy1 hy2 rfl (by omega) _ _ _ rfl HO1.out _ A (riseP L.P 2 k ((m.x.ep : Int) + 1)).length kap _ rfl HR1.out (m_one _) (by unfold maxLen; omega) (by omega) hz1 ?_; intro v' w4 ho hgw hat; have HO7 := Kept.mk ho; have HD7 := Kept.mk (HD1.out.grown hgw hz1 (fun j hj => (HO1.out.lt j hj).1)); clear ho hgw hat))
        go_roundw
        case rel => exact ⟨k + 1, by omega, by go_num, ⟨by rw [HSX.out, List.length_append, List.flatMap_append]; exact HO7.out⟩, HD7⟩
        case measure => simp [intOf]; omega
      · have hs : sendP L.P m.x k = downP L.P m.x 3 k (m.x.ep : Int) := by unfold sendP; rw [if_neg (by omega), if_neg (by omega), if_pos hp]
        rw [hs] at HSX hb1
        have HP := Kept.mk hp
        obtain ⟨q1, -⟩ := z_no (show (m.x.ph : Int) ≠ 1 by omega)
        obtain ⟨q2, -⟩ := z_no (show (m.x.ph : Int) ≠ 2 by omega)
        obtain ⟨q3, -⟩ := z_yes (show (m.x.ph : Int) = 3 by omega)
        clear hx hv hpt hC hs hp c0 b0 b1 b2
        go_wp2_with (first | (go_at_call 48; refine (down_c _ L M k m 3 (m.x.ep : Int) HCX.out HV.out (.inr HP.out)).mono ?_; rintro e w1 ⟨A, kap, rfl, ho, hb⟩; have HR1 := Kept.mk (Reads.of_own ho); have HO1 := Kept.mk (own_new HOX.out hb); have HD1 := Kept.mk (join HBX.out hb); have hz1 := HD1.out.size; clear ho hb) | (at_builtin; refine wpList_append_any _ rfl _ _ _ rfl w.heap.size 39 jj _ 4 32 Try.underlying40 hjj hy0 hy1 hy2 rfl (by omega) _ _ _ rfl HO1.out _ A (downP L.P m.x 3 k (m.x.ep : Int)).length kap _ rfl HR1.out (m_one _) (by unfold maxLen; omega) (by omega) hz1 ?_; intro v' w4 ho hgw hat; have HO7 := Kept.mk ho; have HD7 := Kept.mk (HD1.out.grown hgw hz1 (fun j hj => (HO1.out.lt j hj).1)); clear ho hgw hat))
        go_roundw
        case rel => exact ⟨k + 1, by omega, by go_num, ⟨by rw [HSX.out, List.length_append, List.flatMap_append]; exact HO7.out⟩, HD7⟩
        case measure => simp [intOf]; omega
      · have hs : sendP L.P m.x k = [] := by unfold sendP; rw [if_neg (by omega), if_neg (by omega), if_neg (by omega)]
        rw [hs, List.append_nil] at HSX
        obtain ⟨q1, -⟩ := z_no (show (m.x.ph : Int) ≠ 1 by omega)
        obtain ⟨q2, -⟩ := z_no (show (m.x.ph : Int) ≠ 2 by omega)
        obtain ⟨q3, -⟩ := z_no (show (m.x.ph : Int) ≠ 3 by omega)
        clear hx hv hpt hC hs hp c0 b0 b1 b2
        go_wp2_with fail
        go_roundw
        case rel => exact ⟨k + 1, by omega, by go_num, ⟨by rw [HSX.out]; exact HOX.out⟩, HBX⟩
        case measure => simp [intOf]; omega
    · obtain rfl : k = L.P.length := by omega
      obtain ⟨A, kap, hv3⟩ := own_slice HO.out
      subst hv3
      clear hlt
      go_wp2_with fail
      go_ret
      exact ⟨A, kap, rfl, HO.out, HD.out⟩
end Go.Proofs.Ytibmbhnpmfgclaa
