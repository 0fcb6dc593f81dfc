/- Names of nodes: the program's validName and the reference's Name. -/
import Derived.Test.YtibmbhnpmfgclaaProg
import Derived.Test.YtibmbhnpmfgclaaGPlain
namespace Go.Proofs.Ytibmbhnpmfgclaa
set_option linter.unusedVariables false
set_option linter.unusedSimpArgs false
open Go.RowKit
theorem chr_letter {i : Nat} {c : UInt8} (h1 : (97 : Int) ≤ c.toNat) (h2 : (c.toNat : Int) ≤ 122) : chrB i c = true := by
  unfold chrB
  rw [decide_eq_true (by omega : 97 ≤ c.toNat), decide_eq_true (by omega : c.toNat ≤ 122)]; rfl
theorem chr_digit {i : Nat} {c : UInt8} (h0 : 0 < i) (h1 : (48 : Int) ≤ c.toNat) (h2 : (c.toNat : Int) ≤ 57) : chrB i c = true := by
  unfold chrB
  rw [decide_eq_true (by omega : 48 ≤ c.toNat), decide_eq_true (by omega : c.toNat ≤ 57), beq_false_of_ne (by omega : i ≠ 0)]; simp
theorem chr_not {i : Nat} {c : UInt8} (h1 : ¬ ((97 : Int) ≤ c.toNat ∧ (c.toNat : Int) ≤ 122)) (h2 : i = 0 ∨ ¬ ((48 : Int) ≤ c.toNat ∧ (c.toNat : Int) ≤ 57)) : chrB i c = false := by
  unfold chrB
  have e1 : (decide (97 ≤ c.toNat) && decide (c.toNat ≤ 122)) = false := by
    simp only [Bool.and_eq_false_iff, decide_eq_false_iff_not]; omega
  rw [e1, Bool.false_or]
  rcases h2 with rfl | h2
  · rfl
  · have e2 : (decide (48 ≤ c.toNat) && decide (c.toNat ≤ 57)) = false := by
      simp only [Bool.and_eq_false_iff, decide_eq_false_iff_not]; omega
    rw [e2, Bool.and_false]
set_option maxHeartbeats 2000000 in
theorem validName_c (s : ByteArray) (w : World) (hs : s.size ≤ maxLen) :
    Calls Try.prog 62 #[.string s] w fun e w' => e = .returned (.bool (nameB s)) ∧ w = w' := by
  unfold maxLen at hs
  by_cases h1 : s.size < 1
  · have HN := Kept.mk (name_size (s := s) (.inl h1))
    rw [HN.out]
    go_enter Try.func62, Try.ntmps62
    go_wp2_with fail
    go_ret
    exact ⟨rfl, rfl⟩
  by_cases h2 : 20 < s.size
  · have HN := Kept.mk (name_size (s := s) (.inr h2))
    rw [HN.out]
    go_enter Try.func62, Try.ntmps62
    go_wp2_with fail
    go_ret
    exact ⟨rfl, rfl⟩
  have HG := fun h => Kept.mk (name_good (s := s) (by omega) (by omega) h)
  go_enter Try.func62, Try.ntmps62
  go_wp2_with fail
  go_loop [16] (fun i => ∃ k : Nat, k ≤ s.size ∧ i = .int .i64 k ∧ Kept (goodTo s k = true)) (fun i => s.size - (intOf i).toNat)
  case atStart => exact ⟨0, Nat.zero_le _, rfl, ⟨rfl⟩⟩
  case round =>
    obtain ⟨k, hk, rfl, HK⟩ := hrel
    by_cases hlt : k < s.size
    · have hcase : ((97 : Int) ≤ s[k].toNat ∧ (s[k].toNat : Int) ≤ 122) ∨ ((0 : Int) < k ∧ (48 : Int) ≤ s[k].toNat ∧ (s[k].toNat : Int) ≤ 57) ∨ (k = 0 ∧ (48 : Int) ≤ s[k].toNat ∧ (s[k].toNat : Int) ≤ 57) ∨ (s[k].toNat : Int) < 48 ∨ ((57 : Int) < s[k].toNat ∧ (s[k].toNat : Int) < 97) ∨ (122 : Int) < s[k].toNat := by omega
      rcases hcase with ⟨c1, c2⟩ | ⟨c0, c1, c2⟩ | ⟨c0, c1, c2⟩ | c1 | ⟨c1, c2⟩ | c1
      · have HS : Kept (goodTo s (k + 1) = true) := ⟨by rw [goodTo_succ s k hlt, HK.out, chr_letter c1 c2]; rfl⟩
        go_wp2_with fail
        all_goals
          go_round
          case rel => exact ⟨k + 1, by omega, by go_num, HS⟩
          case measure => simp [intOf]; omega
      · have HS : Kept (goodTo s (k + 1) = true) := ⟨by rw [goodTo_succ s k hlt, HK.out, chr_digit (by omega) c1 c2]; rfl⟩
        have c3 : ((k : Int) == 0) = false := beq_false_of_ne (by omega)
        go_wp2_with fail
        all_goals
          go_round
          case rel => exact ⟨k + 1, by omega, by go_num, HS⟩
          case measure => simp [intOf]; omega
      · have HS := Kept.mk (name_bad hlt (chr_not (by omega) (.inl c0)))
        have c3 : ((k : Int) == 0) = true := by rw [c0]; rfl
        clear c0
        go_wp2_with fail
        all_goals go_ret
        all_goals exact ⟨ret_bool HS.out.symm, rfl⟩
      · have HS := Kept.mk (name_bad hlt (chr_not (by omega) (.inr (by omega))))
        have d1 : decide ((48 : Int) ≤ s[k].toNat) = false := decide_eq_false (by omega)
        have d2 : decide ((97 : Int) ≤ s[k].toNat) = false := decide_eq_false (by omega)
        go_wp2_with fail
        all_goals go_ret
        all_goals exact ⟨ret_bool HS.out.symm, rfl⟩
      · have HS := Kept.mk (name_bad hlt (chr_not (by omega) (.inr (by omega))))
        have d1 : decide ((s[k].toNat : Int) ≤ 57) = false := decide_eq_false (by omega)
        have d2 : decide ((97 : Int) ≤ s[k].toNat) = false := decide_eq_false (by omega)
        go_wp2_with fail
        all_goals go_ret
        all_goals exact ⟨ret_bool HS.out.symm, rfl⟩
      · have HS := Kept.mk (name_bad hlt (chr_not (by omega) (.inr (by omega))))
        have d1 : decide ((s[k].toNat : Int) ≤ 57) = false := decide_eq_false (by omega)
        have d2 : decide ((s[k].toNat : Int) ≤ 122) = false := decide_eq_false (by omega)
        go_wp2_with fail
        all_goals go_ret
        all_goals exact ⟨ret_bool HS.out.symm, rfl⟩
    · obtain rfl : k = s.size := by omega
      have HN := HG HK.out
      clear HG
      go_wp2_with fail
      go_ret
      exact ⟨ret_bool HN.out.symm, rfl⟩
end Go.Proofs.Ytibmbhnpmfgclaa
