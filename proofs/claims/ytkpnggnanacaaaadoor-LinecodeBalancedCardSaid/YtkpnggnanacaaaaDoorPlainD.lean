/- Linecode: lists of valid symbols are balanced and have short runs; constant stretches of bits and the longest run. No program in sight. -/
import Derived.Test.YtkpnggnanacaaaaDoorPlainC
namespace Go.Proofs.YtkpnggnanacaaaaDoor
set_option linter.unusedVariables false
set_option linter.unusedSimpArgs false
theorem bitAt_in (xs : List Int) (q j : Nat) (h : j < 6) : bitAt xs (6 * q + j) = bitI (xs.getD q 0) (5 - j) := by
  unfold bitAt
  rw [show (6 * q + j) / 6 = q by omega, show 5 - (6 * q + j) % 6 = 5 - j by omega]
def psum (x : Int) : Nat → Int
  | 0 => 0
  | j + 1 => psum x j + (2 * bitI x (5 - j) - 1)
theorem sum_in (xs : List Int) (q : Nat) : ∀ j, j ≤ 6 → sumTo xs (6 * q + j) = sumTo xs (6 * q) + psum (xs.getD q 0) j
  | 0, _ => by simp [psum]
  | j + 1, h => by
    rw [show 6 * q + (j + 1) = (6 * q + j) + 1 by omega, sumTo, sum_in xs q j (by omega), psum, bitAt_in xs q j (by omega)]
    omega
theorem psum_T : ∀ i : Fin 20, ∀ j : Fin 7, -3 ≤ psum (T.getD i 0) j ∧ psum (T.getD i 0) j ≤ 3 ∧ psum (T.getD i 0) 6 = 0 := by decide +kernel
theorem vld_get {xs : List Int} (hv : Vld xs) {q : Nat} (h : q < xs.length) : ∃ i : Fin 20, xs.getD q 0 = T.getD i 0 := ⟨⟨idx (xs.getD q 0), hv q h⟩, (idx_get _ (hv q h)).symm⟩
theorem ok_in {xs : List Int} {q : Nat} {i : Fin 20} (hx : xs.getD q 0 = T.getD i 0) (h0 : okTo xs (6 * q) = true) (hs : sumTo xs (6 * q) = 0) : ∀ j, j ≤ 6 → okTo xs (6 * q + j) = true
  | 0, _ => h0
  | j + 1, h => by
    have h1 := ok_in hx h0 hs j (by omega)
    have h2 := sum_in xs q (j + 1) h
    have h3 := psum_T i ⟨j + 1, by omega⟩
    rw [hx] at h2
    rw [show 6 * q + (j + 1) = (6 * q + j) + 1 by omega] at h2 ⊢
    simp only at h3
    rw [okTo, h1, h2, hs, decide_eq_true (show -3 ≤ 0 + psum (T.getD i 0) (j + 1) by omega), decide_eq_true (show 0 + psum (T.getD i 0) (j + 1) ≤ 3 by omega)]
    rfl
theorem vld_ok {xs : List Int} (hv : Vld xs) : ∀ q, q ≤ xs.length → okTo xs (6 * q) = true ∧ sumTo xs (6 * q) = 0
  | 0, _ => ⟨rfl, rfl⟩
  | q + 1, h => by
    obtain ⟨h1, h2⟩ := vld_ok hv q (by omega)
    obtain ⟨i, hi⟩ := vld_get hv (q := q) (by omega)
    have h3 := ok_in hi h1 h2 6 (by omega)
    have h4 := sum_in xs q 6 (by omega)
    have h5 := (psum_T i 0).2.2
    rw [hi, h2, h5] at h4
    rw [show 6 * (q + 1) = 6 * q + 6 by omega]
    exact ⟨h3, by rw [h4]; rfl⟩
theorem vld_plain {xs : List Int} (hv : Vld xs) : plainB xs = true := by
  unfold plainB
  rw [List.all_eq_true]
  intro x hx
  obtain ⟨k, hk, rfl⟩ := List.getElem_of_mem hx
  obtain ⟨i, hi⟩ := vld_get hv hk
  rw [List.getD_eq_getElem?_getD, List.getElem?_eq_getElem hk] at hi
  have := (T_bd i).2
  simp at hi ⊢
  have e : T.getD i 0 = T[i.val]?.getD 0 := List.getD_eq_getElem?_getD ..
  rw [e] at this
  omega
theorem vld_bal {xs : List Int} (hv : Vld xs) : balB xs = true := by
  unfold balB; rw [vld_plain hv, (vld_ok hv xs.length (Nat.le_refl _)).1]; rfl
/-- The run behind j bits of x, after a bit b and a run r. -/
def rr (b : Int) (r : Nat) (x : Int) : Nat → Nat
  | 0 => r
  | j + 1 => if bitI x (5 - j) = (if j = 0 then b else bitI x (6 - j)) then rr b r x j + 1 else 1
theorem rr_T : ∀ i : Fin 20, ∀ b : Fin 3, ∀ r : Fin 4, ∀ j : Fin 7, rr ((b.val : Int)) r (T.getD i 0) j ≤ 6 ∧ rr ((b.val : Int)) r (T.getD i 0) 6 ≤ 3 := by decide +kernel
def prev (xs : List Int) (q : Nat) : Int := if q = 0 then 2 else bitAt xs (6 * q - 1)
theorem prev_fin (xs : List Int) (q : Nat) : ∃ b : Fin 3, prev xs q = (b.val : Int) := by
  unfold prev
  split
  · exact ⟨2, rfl⟩
  · have := bitAt_01 xs (6 * q - 1)
    rcases (by omega : bitAt xs (6 * q - 1) = 0 ∨ bitAt xs (6 * q - 1) = 1) with h | h
    · exact ⟨0, h⟩
    · exact ⟨1, h⟩
theorem run_in (xs : List Int) (q : Nat) : ∀ j, j ≤ 6 → runTo xs (6 * q + j) = rr (prev xs q) (runTo xs (6 * q)) (xs.getD q 0) j
  | 0, _ => rfl
  | j + 1, h => by
    have ih := run_in xs q j (by omega)
    rw [show 6 * q + (j + 1) = (6 * q + j) + 1 by omega, runTo, rr, ih, bitAt_in xs q j (by omega)]
    have hb := bitI_01 (xs.getD q 0) (5 - j)
    by_cases hj : j = 0
    · subst hj
      unfold prev
      by_cases hq : q = 0
      · subst hq
        rw [if_neg (by omega), if_neg (by rw [if_pos rfl, if_pos rfl]; omega)]
      · rw [if_neg hq, if_pos rfl, show 6 * q + 0 - 1 = 6 * q - 1 by omega]
        by_cases he : bitI (xs.getD q 0) (5 - 0) = bitAt xs (6 * q - 1)
        · rw [if_pos ⟨by omega, he⟩, if_pos he]
        · rw [if_neg (fun h => he h.2), if_neg he]
    · have hp : bitAt xs (6 * q + j - 1) = bitI (xs.getD q 0) (6 - j) := by
        rw [show 6 * q + j - 1 = 6 * q + (j - 1) by omega, bitAt_in xs q (j - 1) (by omega), show 5 - (j - 1) = 6 - j by omega]
      rw [hp, if_neg hj]
      by_cases he : bitI (xs.getD q 0) (5 - j) = bitI (xs.getD q 0) (6 - j)
      · rw [if_pos ⟨by omega, he⟩, if_pos he]
      · rw [if_neg (fun h => he h.2), if_neg he]
theorem long_in {xs : List Int} {q : Nat} {i : Fin 20} (hx : xs.getD q 0 = T.getD i 0) (h0 : longTo xs (6 * q) ≤ 6) (hr : runTo xs (6 * q) ≤ 3) : ∀ j, j ≤ 6 → longTo xs (6 * q + j) ≤ 6
  | 0, _ => h0
  | j + 1, h => by
    have ih := long_in hx h0 hr j (by omega)
    have h1 := run_in xs q (j + 1) h
    obtain ⟨b, hb⟩ := prev_fin xs q
    have h2 := (rr_T i b ⟨runTo xs (6 * q), by omega⟩ ⟨j + 1, by omega⟩).1
    rw [hx, hb] at h1
    simp only at h2
    rw [show 6 * q + (j + 1) = (6 * q + j) + 1 by omega] at h1 ⊢
    rw [longTo, h1]
    omega
theorem vld_run {xs : List Int} (hv : Vld xs) : ∀ q, q ≤ xs.length → longTo xs (6 * q) ≤ 6 ∧ runTo xs (6 * q) ≤ 3
  | 0, _ => ⟨by simp [longTo], by simp [runTo]⟩
  | q + 1, h => by
    obtain ⟨h1, h2⟩ := vld_run hv q (by omega)
    obtain ⟨i, hi⟩ := vld_get hv (q := q) (by omega)
    obtain ⟨b, hb⟩ := prev_fin xs q
    have h3 := run_in xs q 6 (by omega)
    have h4 := (rr_T i b ⟨runTo xs (6 * q), by omega⟩ 0).2
    rw [hi, hb] at h3
    rw [show 6 * (q + 1) = 6 * q + 6 by omega]
    exact ⟨long_in hi h1 h2 6 (by omega), by rw [h3]; exact h4⟩
theorem runTo_pos (xs : List Int) (k : Nat) (h : 0 < k) : 1 ≤ runTo xs k := by
  obtain ⟨k, rfl⟩ : ∃ j, k = j + 1 := ⟨k - 1, by omega⟩
  rw [runTo]; split <;> omega
theorem longTo_pos (xs : List Int) (k : Nat) (h : 0 < k) : 1 ≤ longTo xs k := by
  have := runTo_pos xs k h
  obtain ⟨k, rfl⟩ : ∃ j, k = j + 1 := ⟨k - 1, by omega⟩
  rw [longTo]; omega
theorem vld_runB {xs : List Int} (hv : Vld xs) : runB xs ≤ 6 ∧ (0 < xs.length → 1 ≤ runB xs) := by
  unfold runB
  rw [vld_plain hv, if_pos rfl]
  exact ⟨(vld_run hv xs.length (Nat.le_refl _)).1, fun h => longTo_pos xs _ (by omega)⟩
/-- From bit s on there are n equal bits, all below N. -/
def Seg (xs : List Int) (s n N : Nat) : Prop := s + n ≤ N ∧ ∀ d, d < n → bitAt xs (s + d) = bitAt xs s
theorem seg_run (xs : List Int) (k : Nat) : Seg xs (k - runTo xs k) (runTo xs k) k := by
  induction k with
  | zero => exact ⟨by simp [runTo], fun d hd => by simp [runTo] at hd⟩
  | succ k ih =>
    have hr := runTo_le xs k
    rw [runTo]
    split
    · rename_i h
      have hp := runTo_pos xs k h.1
      have hlast := ih.2 (runTo xs k - 1) (by omega)
      rw [show k - runTo xs k + (runTo xs k - 1) = k - 1 by omega] at hlast
      refine ⟨by omega, fun d hd => ?_⟩
      rw [show k + 1 - (runTo xs k + 1) = k - runTo xs k by omega]
      rcases Nat.lt_or_eq_of_le (Nat.le_of_lt_succ hd) with h1 | rfl
      · exact ih.2 d h1
      · rw [show k - runTo xs k + runTo xs k = k by omega, h.2, hlast]
    · exact ⟨by omega, fun d hd => by rw [show d = 0 by omega]; rfl⟩
theorem run_seg (xs : List Int) (k : Nat) : ∀ s n, 0 < n → s + n = k → Seg xs s n k → n ≤ runTo xs k := by
  induction k with
  | zero => intro s n hn he _; omega
  | succ k ih =>
    intro s n hn he hs
    rw [runTo]
    by_cases h1 : n = 1
    · subst h1; split <;> omega
    · have e1 := hs.2 (n - 1) (by omega)
      have e2 := hs.2 (n - 2) (by omega)
      rw [show s + (n - 1) = k by omega] at e1
      rw [show s + (n - 2) = k - 1 by omega] at e2
      rw [if_pos ⟨by omega, by rw [e1, e2]⟩]
      have := ih s (n - 1) (by omega) (by omega) ⟨by omega, fun d hd => hs.2 d (by omega)⟩
      omega
theorem long_ge (xs : List Int) (k : Nat) : ∀ s n, Seg xs s n k → n ≤ longTo xs k := by
  induction k with
  | zero => intro s n hs; have := hs.1; omega
  | succ k ih =>
    intro s n hs
    rw [longTo]
    rcases Nat.lt_or_eq_of_le hs.1 with h | h
    · have := ih s n ⟨by omega, hs.2⟩; omega
    · rcases Nat.eq_zero_or_pos n with h0 | h0
      · omega
      · have := run_seg xs (k + 1) s n h0 h hs; omega
theorem long_seg (xs : List Int) (k : Nat) : longTo xs k = 0 ∨ ∃ s, Seg xs s (longTo xs k) k := by
  induction k with
  | zero => exact .inl rfl
  | succ k ih =>
    right
    rw [longTo]
    by_cases h : longTo xs k ≤ runTo xs (k + 1)
    · rw [Nat.max_eq_right h]; exact ⟨_, seg_run xs (k + 1)⟩
    · rw [Nat.max_eq_left (by omega)]
      rcases ih with h0 | ⟨s, hs⟩
      · omega
      · exact ⟨s, by have := hs.1; omega, hs.2⟩
/-- b is the length of the longest stretch that begins below i. -/
structure Best (xs : List Int) (N i b : Nat) : Prop where
  ge : ∀ s n, s < i → Seg xs s n N → n ≤ b
  at_ : b = 0 ∧ i = 0 ∨ ∃ s, Seg xs s b N
theorem best_end {xs : List Int} {N b : Nat} (h : Best xs N N b) : b = longTo xs N := by
  apply Nat.le_antisymm
  · rcases h.at_ with ⟨h0, _⟩ | ⟨s, hs⟩
    · omega
    · exact long_ge xs N s b hs
  · rcases long_seg xs N with h0 | ⟨s, hs⟩
    · omega
    · rcases Nat.eq_zero_or_pos (longTo xs N) with h0 | h0
      · omega
      · exact h.ge s _ (by have := hs.1; omega) hs
theorem best_next {xs : List Int} {N i b n : Nat} (h : Best xs N i b) (hs : Seg xs i n N) (he : i + n = N ∨ bitAt xs (i + n) ≠ bitAt xs i) (hn : 0 < n) : Best xs N (i + 1) (max b n) := by
  refine ⟨fun s m hsi hm => ?_, ?_⟩
  · rcases Nat.lt_or_eq_of_le (Nat.le_of_lt_succ hsi) with h1 | rfl
    · have := h.ge s m h1 hm; omega
    · have : m ≤ n := by
        rcases Nat.lt_or_ge n m with h1 | h1
        · exfalso
          rcases he with he | he
          · have := hm.1; omega
          · exact he (hm.2 n h1)
        · exact h1
      omega
  · right
    by_cases h1 : b ≤ n
    · rw [Nat.max_eq_right h1]; exact ⟨i, hs⟩
    · rw [Nat.max_eq_left (by omega)]
      rcases h.at_ with ⟨h0, _⟩ | h2
      · omega
      · exact h2
end Go.Proofs.YtkpnggnanacaaaaDoor
