/- Linecode: Same of the reference. -/
import Derived.Test.YtkpnggnanacaaaaDoorRd
namespace Go.Proofs.YtkpnggnanacaaaaDoor
set_option linter.unusedVariables false
set_option linter.unusedSimpArgs false
open Go.RowKit
def sameB (xs ys : List Int) : Bool := decide (xs = ys)
theorem same_yes {xs ys : List Int} (h : xs.length = ys.length) (hk : ∀ j, j < xs.length → xs.getD j 0 = ys.getD j 0) : sameB xs ys = true := by
  simp only [sameB, decide_eq_true_eq]
  exact ext_getD h hk
theorem same_no {xs ys : List Int} {k : Nat} (h : xs.getD k 0 ≠ ys.getD k 0) : sameB xs ys = false := by
  simp only [sameB, decide_eq_false_iff_not]
  rintro rfl
  exact h rfl
theorem bool_int (a b : Int) : ((a == b) = true ∧ (a != b) = false) ∨ ((a == b) = false ∧ (a != b) = true) := by
  by_cases h : a = b <;> simp [h]
set_option maxHeartbeats 1000000 in
theorem same_c (v u : Value) (xs ys : List Int) (w : World) (hv : Rd w v xs) (hu : Rd w u ys) :
    Calls Tryd.prog 22 #[v, u] w fun e w' => e = .returned (.bool (sameB xs ys)) ∧ Below w.heap.size w w' := by
  obtain ⟨A, cap, rfl, hcap, hmax, hc⟩ := hv
  obtain ⟨B, cap2, rfl, hcap2, hmax2, hc2⟩ := hu
  unfold maxLen at hmax hmax2
  rcases bool_int (xs.length : Int) (ys.length : Int) with ⟨q1, q2⟩ | ⟨q1, q2⟩
  · have hl : xs.length = ys.length := by have := of_decide_eq_true q1; omega
    have HC := hid hc
    have HC2 := hid hc2
    have HL := hid hl
    rw [← hl]
    rw [← hl] at hc2
    clear hc q1 q2
    generalize hn : xs.length = n at *
    have HC2 := hid hc2
    have HN := hid hn
    clear hn hc2 hl
    go_enter Tryd.func22, Tryd.ntmps22
    go_wp2_with fail
    go_loopw [5] (fun v5 wr => ∃ k j : Nat, k ≤ n ∧ v5 = .int .i64 k ∧ Hid (∀ i, i < k → xs.getD i 0 = ys.getD i 0) ∧ wr = w.drewN j) (fun v5 _ => n - (intOf v5).toNat)
    case atStart => exact ⟨0, 0, by omega, rfl, fun i hi => by omega, rfl⟩
    case round =>
      obtain ⟨k, j, hk, rfl, HE, rfl⟩ := hrel
      by_cases hlt : k < n
      · obtain ⟨b, off, rfl, hbl, hcell⟩ := HC.out (by omega)
        obtain ⟨b2, off2, rfl, hbl2, hcell2⟩ := HC2.out (by omega)
        have c1 := hcell k hlt
        have c2 := hcell2 k hlt
        have hd := bool_int (xs.getD k 0) (ys.getD k 0)
        have HD := hid hd
        clear hcell hcell2 hd
        rcases HD.out with ⟨q1, q2⟩ | ⟨q1, q2⟩
        · have HE2 : Hid (∀ i, i < k + 1 → xs.getD i 0 = ys.getD i 0) := fun i hi => by
            rcases Nat.lt_or_eq_of_le (Nat.le_of_lt_succ hi) with h | rfl
            · exact HE.out i h
            · simpa using q1
          clear q1
          generalize xs.getD k 0 = x at *
          generalize ys.getD k 0 = y at *
          go_wp2_with fail
          go_quiet (fail)
          go_wp2_with fail
          go_roundw
          case rel => exact ⟨k + 1, j + nq, by omega, by go_num, HE2, by first | rfl | rw [World.drewN_drewN]⟩
          case measure => simp [intOf]; omega
        · have HR := hid (same_no (xs := xs) (ys := ys) (k := k) (by simpa using q2))
          clear q1
          generalize xs.getD k 0 = x at *
          generalize ys.getD k 0 = y at *
          go_wp2_with fail
          go_quiet (fail)
          go_wp2_with fail
          go_ret
          exact ⟨by rw [HR.out] <;> rfl, by first | exact dN (Below.refl _ _) _ | exact dN (dN (Below.refl _ _) _) _⟩
      · have hk' : k = n := by omega
        have HR := hid (same_yes (xs := xs) (ys := ys) (by rw [HN.out, ← HL.out]) (fun i hi => HE.out i (by have := HN.out; omega)))
        go_wp2_with fail
        go_ret
        exact ⟨by rw [HR.out] <;> rfl, dN (Below.refl _ _) _⟩
  · have HR := hid (show sameB xs ys = false by simp only [sameB, decide_eq_false_iff_not]; rintro rfl; simp at q1)
    generalize xs.length = n at *
    generalize ys.length = m at *
    clear hc hc2
    go_enter Tryd.func22, Tryd.ntmps22
    go_wp2_with fail
    go_ret
    exact ⟨by rw [HR.out] <;> rfl, Below.refl _ _⟩
end Go.Proofs.YtkpnggnanacaaaaDoor
