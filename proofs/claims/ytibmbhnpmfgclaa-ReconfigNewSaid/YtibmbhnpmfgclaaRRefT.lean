/- Reconfig: the reference's Tree. -/
import Derived.Test.YtibmbhnpmfgclaaRTree
namespace Go.Proofs.Ytibmbhnpmfgclaa
set_option linter.unusedVariables false
set_option linter.unusedSimpArgs false
open Go.RowKit Go.Maps
set_option maxHeartbeats 4000000 in
theorem refTree_c (P : List Int) (A : Option Addr) (B cap : Nat) (w : World) (hr : RowsAt w B 1 icell A P) (hb : InR P) (hl : P.length ≤ 1000000) :
    Calls Try.prog 16 #[.slice A P.length cap] w fun e w' => e = .returned (.bool (leadsB P)) ∧ w = w' := by
  have HR := Kept.mk hr
  have HB := Kept.mk hb
  clear hr hb
  go_enter Try.func16, Try.ntmps16
  go_wp2_with fail
  go_loop [3, 4] (fun v3 v4 => ∃ k : Nat, k ≤ P.length ∧ v4 = .int .i64 k ∧ v3 = .int .i64 (cntR P k : Nat) ∧ Kept (∀ v, v < k → stepA P v P.length < 0)) (fun _ v4 => P.length - (intOf v4).toNat)
  case atStart => exact ⟨0, Nat.zero_le _, rfl, rfl, ⟨fun v hv => absurd hv (by omega)⟩⟩
  case round =>
    obtain ⟨k, hk, rfl, rfl, HK⟩ := hrel
    have hcl := cntR_le P k
    by_cases hlt : k < P.length
    · obtain ⟨x, b, off, hx, hA, hb, c0⟩ := p_at HR.out hlt
      have hxr := HB.out x (List.mem_of_getElem? hx)
      have HC := Kept.mk (cntR_succ hx)
      have HA := Kept.mk hA
      rw [hA]
      clear hx hA
      generalize cntR P k = c at *
      by_cases h1 : x < 0
      all_goals
        obtain ⟨c2, hc2⟩ : ∃ c2 : Nat, c2 = if x < 0 then c + 1 else c := ⟨_, rfl⟩
        have HC2 : Kept (cntR P (k + 1) = c2) := ⟨by
          have e1 : (if x = -1 then 1 else 0) = if x < 0 then 1 else 0 := by
            by_cases e : x = -1
            · rw [if_pos e, if_pos (by omega)]
            · rw [if_neg e, if_neg (by omega)]
          rw [HC.out, e1, hc2]; split <;> rfl⟩
        have hc3 : (c2 : Int) = if x < 0 then (c : Int) + 1 else c := by rw [hc2]; split <;> simp
        clear hc2
        first | rw [if_pos h1] at hc3 | rw [if_neg h1] at hc3
        have HC3 := Kept.mk hc3
        clear hc3
        go_wp2_with fail
        first | rw [← HC3.out] | skip
        go_loop [5, 6] (fun v5 v6 => ∃ j : Nat, j ≤ P.length ∧ v6 = .int .i64 j ∧ v5 = .int .i64 (stepA P k j)) (fun _ v6 => P.length - (intOf v6).toNat)
        case atStart => exact ⟨0, Nat.zero_le _, rfl, rfl⟩
        case round =>
          obtain ⟨j, hj, rfl, rfl⟩ := hrel
          have hbd := stepA_bd HB.out hlt j
          by_cases hs : 0 ≤ stepA P k j
          · by_cases hjl : j < P.length
            · obtain ⟨z, hz⟩ : ∃ z : Nat, stepA P k j = z := ⟨(stepA P k j).toNat, by omega⟩
              have hzl : z < P.length := by omega
              obtain ⟨y, b', off', hy, hA', hb', c0'⟩ := p_at HR.out hzl
              have HN := Kept.mk (step_next hz hy)
              rw [HA.out] at hA'
              injection hA' with hA'
              injection hA' with e1 e2
              subst e1 e2
              rw [hz]
              clear hz hy hbd hs
              go_wp2_with fail
              go_round
              case rel => exact ⟨j + 1, by omega, by go_num, by rw [HN.out]⟩
              case measure => simp [intOf]; omega
            · obtain rfl : j = P.length := by omega
              have HF := Kept.mk (leads_no hlt (by omega))
              generalize stepA P k P.length = s at *
              clear hjl
              go_wp2_with fail
              go_ret
              exact ⟨ret_bool HF.out.symm, rfl⟩
          · have HN : Kept (stepA P k P.length < 0) := ⟨by rw [stepA_neg (k := j) (by omega) hj]; omega⟩
            have HK2 : Kept (∀ v : Nat, v < k + 1 → stepA P v P.length < 0) := ⟨fun v hv => by
              by_cases e : v = k
              · subst e; exact HN.out
              · exact HK.out v (by omega)⟩
            generalize stepA P k j = s at *
            by_cases hjl : j < P.length
            all_goals
              go_wp2_with fail
              go_round
              case rel => exact ⟨k + 1, by omega, by go_num, by rw [HC2.out], HK2⟩
              case measure => simp [intOf]; omega
    · obtain rfl : k = P.length := by omega
      have HF : Kept (leadsB P = decide (cntR P P.length = 1)) := ⟨leads_is HK.out⟩
      generalize cntR P P.length = c at *
      clear hlt HK
      go_wp2_with fail
      go_ret
      refine ⟨ret_bool ?_, rfl⟩
      rw [HF.out, Bool.eq_iff_iff]; simp; omega
end Go.Proofs.Ytibmbhnpmfgclaa
