/- Linecode: what one inverted bit does to a list of valid symbols. No program in sight. -/
import Derived.Test.YtkpnggnanacaaaaDoorPlainB
namespace Go.Proofs.YtkpnggnanacaaaaDoor
set_option linter.unusedVariables false
set_option linter.unusedSimpArgs false
/-- All symbols are valid. -/
def Vld (xs : List Int) : Prop := ∀ i, i < xs.length → idx (xs.getD i 0) < 20
theorem flip_sym (x : Int) (j : Nat) (h : idx x < 20) (hj : j < 6) : idx (flipI x j) = 20 ∧ flipI (flipI x j) j = x ∧ flipI x j ≠ x ∧ 0 ≤ flipI x j ∧ flipI x j ≤ 63 := by
  have := flip_T ⟨idx x, h⟩ ⟨j, hj⟩
  simp only [idx_get x h] at this
  exact this
theorem flipB_at (xs : List Int) (n : Nat) (h : n / 6 < xs.length) : (flipB xs n).getD (n / 6) 0 = flipI (xs.getD (n / 6) 0) (5 - n % 6) := by
  unfold flipB
  rw [List.getD_eq_getElem?_getD, List.getElem?_set_self h]; rfl
theorem flipB_far (xs : List Int) (n i : Nat) (h : i ≠ n / 6) : (flipB xs n).getD i 0 = xs.getD i 0 := by
  unfold flipB
  rw [List.getD_eq_getElem?_getD, List.getElem?_set_ne (Ne.symm h), ← List.getD_eq_getElem?_getD]
theorem flip_idx {xs : List Int} (hv : Vld xs) {n : Nat} (h : n < 6 * xs.length) : idx ((flipB xs n).getD (n / 6) 0) = 20 := by
  rw [flipB_at xs n (by omega)]
  exact (flip_sym _ _ (hv _ (by omega)) (by omega)).1
theorem flip_ne {xs : List Int} (hv : Vld xs) {n : Nat} (h : n < 6 * xs.length) : (flipB xs n).getD (n / 6) 0 ≠ xs.getD (n / 6) 0 := by
  rw [flipB_at xs n (by omega)]
  exact (flip_sym _ _ (hv _ (by omega)) (by omega)).2.2.1
theorem flip_back {xs : List Int} (hv : Vld xs) {n : Nat} (h : n < 6 * xs.length) : flipB (flipB xs n) n = xs := by
  refine ext_getD (by rw [flipB_len, flipB_len]) fun i hi => ?_
  rw [flipB_len, flipB_len] at hi
  by_cases he : i = n / 6
  · subst he
    rw [flipB_at _ _ (by rw [flipB_len]; omega), flipB_at xs n (by omega)]
    exact (flip_sym _ _ (hv _ (by omega)) (by omega)).2.1
  · rw [flipB_far _ _ _ he, flipB_far _ _ _ he]
theorem flip_bad {xs : List Int} (hb : badD xs = xs.length) {n : Nat} (h : n < 6 * xs.length) : badD (flipB xs n) = n / 6 := by
  have hv : Vld xs := fun i hi => by have := badD_at (xs := xs) (k := i) (by omega); omega
  refine badD_eq ?_ (by rw [flipB_len]; omega) (by rw [flip_idx hv h]; decide)
  rcases Nat.lt_or_ge (badD (flipB xs n)) (n / 6) with hl | hl
  · exfalso
    have hlen : badD (flipB xs n) < (flipB xs n).length := by rw [flipB_len]; omega
    have h1 : decide (16 ≤ idx (flipB xs n)[badD (flipB xs n)]) = true := List.findIdx_getElem (w := hlen)
    have h2 := of_decide_eq_true h1
    have he : (flipB xs n)[badD (flipB xs n)] = (flipB xs n).getD (badD (flipB xs n)) 0 := by rw [List.getD_eq_getElem?_getD, List.getElem?_eq_getElem hlen]; rfl
    rw [he, flipB_far _ _ _ (by omega)] at h2
    have := badD_at (xs := xs) (k := badD (flipB xs n)) (by omega)
    omega
  · exact hl
theorem encB_vld (xs : List Int) (hx : Byt xs) : Vld (encB xs) := fun i hi => by
  have := badD_at (xs := encB xs) (k := i) (by rw [encB_badD xs hx]; exact hi)
  omega
end Go.Proofs.YtkpnggnanacaaaaDoor
