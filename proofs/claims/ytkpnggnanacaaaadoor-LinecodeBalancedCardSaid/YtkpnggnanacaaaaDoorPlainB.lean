/- Linecode: what Encode, Decode, Flip, Balanced and Run compute, as plain functions of lists of numbers. No program in sight. -/
import Derived.Test.YtkpnggnanacaaaaDoorPlain
namespace Go.Proofs.YtkpnggnanacaaaaDoor
set_option linter.unusedVariables false
set_option linter.unusedSimpArgs false
/-- Every number is a byte. -/
def Byt (xs : List Int) : Prop := ∀ x ∈ xs, 0 ≤ x ∧ x ≤ 255
theorem Byt.at_ {xs : List Int} (h : Byt xs) (k : Nat) : 0 ≤ xs.getD k 0 ∧ xs.getD k 0 ≤ 255 := by
  rcases Nat.lt_or_ge k xs.length with hk | hk
  · rw [List.getD_eq_getElem?_getD, List.getElem?_eq_getElem hk]
    exact h _ (List.getElem_mem hk)
  · rw [List.getD_eq_getElem?_getD, List.getElem?_eq_none hk]
    exact ⟨by decide, by decide⟩
theorem Byt.app {xs ys : List Int} (h : Byt xs) (k : Byt ys) : Byt (xs ++ ys) := fun x hx => by
  rcases List.mem_append.1 hx with hx | hx
  · exact h x hx
  · exact k x hx
theorem take_snoc (xs : List Int) (k : Nat) (h : k < xs.length) : xs.take (k + 1) = xs.take k ++ [xs.getD k 0] := by
  rw [List.take_succ_eq_append_getElem h, List.getD_eq_getElem?_getD, List.getElem?_eq_getElem h]; rfl
theorem getD_at {xs : List Int} {k : Nat} (h : k < xs.length) : xs[k]? = some (xs.getD k 0) := by
  rw [List.getD_eq_getElem?_getD, List.getElem?_eq_getElem h]; rfl
/-- Encode. -/
def enc1 (x : Int) : List Int := [T.getD (x / 16).toNat 0, T.getD (x % 16).toNat 0]
def encB : List Int → List Int
  | [] => []
  | x :: xs => enc1 x ++ encB xs
theorem encB_app (xs ys : List Int) : encB (xs ++ ys) = encB xs ++ encB ys := by
  induction xs with
  | nil => rfl
  | cons x xs ih => simp [encB, ih]
theorem encB_len (xs : List Int) : (encB xs).length = 2 * xs.length := by
  induction xs with
  | nil => rfl
  | cons x xs ih => simp [encB, enc1, ih]; omega
theorem encB_snoc (xs : List Int) (k : Nat) (h : k < xs.length) : encB (xs.take (k + 1)) = encB (xs.take k) ++ enc1 (xs.getD k 0) := by
  rw [take_snoc xs k h, encB_app]; simp [encB]
theorem T_byt (i : Nat) : 0 ≤ T.getD i 0 ∧ T.getD i 0 ≤ 255 := by have := T_bd i; omega
theorem encB_byt (xs : List Int) : Byt (encB xs) := by
  induction xs with
  | nil => intro x hx; simp [encB] at hx
  | cons x xs ih =>
    refine Byt.app ?_ ih
    intro y hy
    simp only [enc1, List.mem_cons, List.not_mem_nil, or_false] at hy
    rcases hy with rfl | rfl
    · exact T_byt _
    · exact T_byt _
/-- The first symbol that is no data symbol. -/
def badD (xs : List Int) : Nat := xs.findIdx fun x => decide (16 ≤ idx x)
theorem badD_le (xs : List Int) : badD xs ≤ xs.length := List.findIdx_le_length
theorem badD_at {xs : List Int} {k : Nat} (h : k < badD xs) : idx (xs.getD k 0) < 16 := by
  have hl := badD_le xs
  have := List.not_of_lt_findIdx h
  rw [List.getD_eq_getElem?_getD, List.getElem?_eq_getElem (by omega)]
  simpa using this
theorem badD_eq {xs : List Int} {k : Nat} (h : k ≤ badD xs) (hk : k < xs.length) (hb : 16 ≤ idx (xs.getD k 0)) : badD xs = k := by
  rcases Nat.lt_or_eq_of_le h with h | h
  · have := badD_at h; omega
  · exact h.symm
theorem badD_lt {xs : List Int} {k : Nat} (h : k ≤ badD xs) (hk : k < xs.length) (hb : idx (xs.getD k 0) < 16) : k < badD xs := by
  rcases Nat.lt_or_eq_of_le h with h | h
  · exact h
  · exfalso
    have hlt : badD xs < xs.length := by omega
    have := List.findIdx_getElem (w := hlt)
    rw [h, List.getD_eq_getElem?_getD, List.getElem?_eq_getElem hlt] at hb
    simp at this
    simp at hb
    unfold badD at hb
    omega
/-- The bytes of the first 2 j symbols. -/
def pr (xs : List Int) : Nat → List Int
  | 0 => []
  | j + 1 => pr xs j ++ [16 * (idx (xs.getD (2 * j) 0) : Int) + (idx (xs.getD (2 * j + 1) 0) : Int)]
theorem pr_len (xs : List Int) (j : Nat) : (pr xs j).length = j := by
  induction j with
  | zero => rfl
  | succ j ih => simp [pr, ih]
theorem pr_get (xs : List Int) (j n : Nat) (h : j < n) : (pr xs n).getD j 0 = 16 * (idx (xs.getD (2 * j) 0) : Int) + (idx (xs.getD (2 * j + 1) 0) : Int) := by
  induction n with
  | zero => omega
  | succ n ih =>
    rw [pr]
    rcases Nat.lt_or_ge j n with hj | hj
    · rw [List.getD_eq_getElem?_getD, List.getElem?_append_left (by rw [pr_len]; exact hj), ← List.getD_eq_getElem?_getD, ih hj]
    · obtain rfl : j = n := by omega
      rw [List.getD_eq_getElem?_getD, List.getElem?_append_right (by rw [pr_len]; exact Nat.le_refl _), pr_len]; simp
theorem pr_byt (xs : List Int) (j : Nat) (h : 2 * j ≤ badD xs) : Byt (pr xs j) := by
  induction j with
  | zero => intro x hx; simp [pr] at hx
  | succ j ih =>
    refine Byt.app (ih (by omega)) ?_
    intro y hy
    simp only [List.mem_cons, List.not_mem_nil, or_false] at hy
    subst hy
    have h1 := badD_at (xs := xs) (k := 2 * j) (by omega)
    have h2 := badD_at (xs := xs) (k := 2 * j + 1) (by omega)
    omega
def decV (xs : List Int) : List Int := if badD xs < xs.length then [] else if xs.length % 2 = 1 then [] else pr xs (xs.length / 2)
def decI (xs : List Int) : Int := if badD xs < xs.length then badD xs else if xs.length % 2 = 1 then xs.length else -1
def decE (xs : List Int) : Int := if badD xs < xs.length then 3 else if xs.length % 2 = 1 then 4 else 0
theorem ext_getD {xs ys : List Int} (hl : xs.length = ys.length) (h : ∀ i, i < xs.length → xs.getD i 0 = ys.getD i 0) : xs = ys := by
  apply List.ext_getElem hl
  intro i h1 h2
  have := h i h1
  rw [List.getD_eq_getElem?_getD, List.getD_eq_getElem?_getD, List.getElem?_eq_getElem h1, List.getElem?_eq_getElem h2] at this
  simpa using this
theorem encB_get (xs : List Int) (k : Nat) (h : k < xs.length) : (encB xs).getD (2 * k) 0 = T.getD (xs.getD k 0 / 16).toNat 0 ∧ (encB xs).getD (2 * k + 1) 0 = T.getD (xs.getD k 0 % 16).toNat 0 := by
  induction xs generalizing k with
  | nil => simp at h
  | cons x xs ih =>
    cases k with
    | zero => simp [encB, enc1]
    | succ k =>
      have := ih k (by simpa using h)
      simp only [encB, enc1]
      rw [show 2 * (k + 1) = 2 * k + 2 by omega, show 2 * k + 2 + 1 = 2 * k + 1 + 2 by omega]
      simpa using this
theorem encB_badD (xs : List Int) (hx : Byt xs) : badD (encB xs) = (encB xs).length := by
  rcases Nat.lt_or_eq_of_le (badD_le (encB xs)) with h | h
  · exfalso
    have h1 : decide (16 ≤ idx (encB xs)[badD (encB xs)]) = true := List.findIdx_getElem (w := h)
    have hk : badD (encB xs) / 2 < xs.length := by have := encB_len xs; omega
    have hg := encB_get xs _ hk
    have hb := hx.at_ (badD (encB xs) / 2)
    have he : (encB xs)[badD (encB xs)] = (encB xs).getD (badD (encB xs)) 0 := by rw [List.getD_eq_getElem?_getD, List.getElem?_eq_getElem h]; rfl
    rw [he] at h1
    have h1' := of_decide_eq_true h1
    rcases Nat.mod_two_eq_zero_or_one (badD (encB xs)) with h2 | h2
    · have e : badD (encB xs) = 2 * (badD (encB xs) / 2) := by omega
      rw [e, hg.1, idx_T _ (by omega)] at h1'
      omega
    · have e : badD (encB xs) = 2 * (badD (encB xs) / 2) + 1 := by omega
      rw [e, hg.2, idx_T _ (by omega)] at h1'
      omega
  · exact h
theorem dec_enc (xs : List Int) (hx : Byt xs) : decV (encB xs) = xs ∧ decI (encB xs) = -1 ∧ decE (encB xs) = 0 := by
  have hb := encB_badD xs hx
  have hl := encB_len xs
  refine ⟨?_, ?_, ?_⟩
  · unfold decV
    rw [if_neg (by omega), if_neg (by omega)]
    rw [show (encB xs).length / 2 = xs.length by omega]
    refine ext_getD (pr_len _ _) fun i hi => ?_
    rw [pr_len] at hi
    rw [pr_get _ _ _ hi]
    obtain ⟨g1, g2⟩ := encB_get xs i hi
    have hb := hx.at_ i
    rw [g1, g2, idx_T _ (by omega), idx_T _ (by omega)]
    omega
  · unfold decI; rw [if_neg (by omega), if_neg (by omega)]
  · unfold decE; rw [if_neg (by omega), if_neg (by omega)]
theorem enc_dec (xs : List Int) (h : decE xs = 0) : encB (decV xs) = xs := by
  unfold decE at h
  split at h
  · omega
  · split at h
    · omega
    · rename_i h1 h2
      have hl := badD_le xs
      unfold decV
      rw [if_neg h1, if_neg h2]
      refine ext_getD (by rw [encB_len, pr_len]; omega) fun i hi => ?_
      rw [encB_len, pr_len] at hi
      have hk : i / 2 < (pr xs (xs.length / 2)).length := by rw [pr_len]; omega
      obtain ⟨g1, g2⟩ := encB_get _ _ hk
      rw [pr_get _ _ _ (by omega)] at g1 g2
      have b1 := badD_at (xs := xs) (k := 2 * (i / 2)) (by omega)
      have b2 := badD_at (xs := xs) (k := 2 * (i / 2) + 1) (by omega)
      rcases Nat.mod_two_eq_zero_or_one i with h3 | h3
      · have e : i = 2 * (i / 2) := by omega
        rw [e, g1, show ((16 * (idx (xs.getD (2 * (i / 2)) 0) : Int) + (idx (xs.getD (2 * (i / 2) + 1) 0) : Int)) / 16).toNat = idx (xs.getD (2 * (i / 2)) 0) by omega]
        exact idx_get _ (by omega)
      · have e : i = 2 * (i / 2) + 1 := by omega
        rw [e, g2, show ((16 * (idx (xs.getD (2 * (i / 2)) 0) : Int) + (idx (xs.getD (2 * (i / 2) + 1) 0) : Int)) % 16).toNat = idx (xs.getD (2 * (i / 2) + 1) 0) by omega]
        exact idx_get _ (by omega)
/-- One bit of a number. -/
def bitI (x : Int) (j : Nat) : Int := x / 2 ^ j % 2
theorem bitI_01 (x : Int) (j : Nat) : 0 ≤ bitI x j ∧ bitI x j ≤ 1 := by unfold bitI; omega
/-- One bit inverted. -/
def flipI (x : Int) (j : Nat) : Int := if bitI x j = 1 then x - 2 ^ j else x + 2 ^ j
theorem flip_T : ∀ i : Fin 20, ∀ j : Fin 6, idx (flipI (T.getD i 0) j) = 20 ∧ flipI (flipI (T.getD i 0) j) j = T.getD i 0 ∧ flipI (T.getD i 0) j ≠ T.getD i 0 ∧ 0 ≤ flipI (T.getD i 0) j ∧ flipI (T.getD i 0) j ≤ 63 := by decide +kernel
/-- The list with its bit number n inverted. -/
def flipB (xs : List Int) (n : Nat) : List Int := xs.set (n / 6) (flipI (xs.getD (n / 6) 0) (5 - n % 6))
theorem flipB_len (xs : List Int) (n : Nat) : (flipB xs n).length = xs.length := by simp [flipB]
/-- All symbols have six bits. -/
def plainB (xs : List Int) : Bool := xs.all fun x => decide (x ≤ 63)
def bitAt (xs : List Int) (i : Nat) : Int := bitI (xs.getD (i / 6) 0) (5 - i % 6)
theorem bitAt_01 (xs : List Int) (i : Nat) : 0 ≤ bitAt xs i ∧ bitAt xs i ≤ 1 := bitI_01 _ _
/-- The sum of the first k bits. -/
def sumTo (xs : List Int) : Nat → Int
  | 0 => 0
  | k + 1 => sumTo xs k + (2 * bitAt xs k - 1)
/-- The first k sums are within bounds. -/
def okTo (xs : List Int) : Nat → Bool
  | 0 => true
  | k + 1 => okTo xs k && decide (-3 ≤ sumTo xs (k + 1)) && decide (sumTo xs (k + 1) ≤ 3)
def balB (xs : List Int) : Bool := plainB xs && okTo xs (6 * xs.length)
theorem okTo_false {xs : List Int} {k n : Nat} (h : okTo xs k = false) (hk : k ≤ n) : okTo xs n = false := by
  induction n with
  | zero => obtain rfl : k = 0 := by omega
            exact h
  | succ n ih =>
    rcases Nat.lt_or_eq_of_le hk with hk | rfl
    · rw [okTo, ih (by omega)]; rfl
    · exact h
theorem sumTo_bd {xs : List Int} {k : Nat} (h : okTo xs k = true) : -3 ≤ sumTo xs k ∧ sumTo xs k ≤ 3 := by
  cases k with
  | zero => simp [sumTo]
  | succ k => simp only [okTo, Bool.and_eq_true, decide_eq_true_eq] at h; omega
/-- The run that ends at bit k - 1, and the longest of the first k bits. -/
def runTo (xs : List Int) : Nat → Nat
  | 0 => 0
  | k + 1 => if 0 < k ∧ bitAt xs k = bitAt xs (k - 1) then runTo xs k + 1 else 1
def longTo (xs : List Int) : Nat → Nat
  | 0 => 0
  | k + 1 => max (longTo xs k) (runTo xs (k + 1))
theorem runTo_le (xs : List Int) (k : Nat) : runTo xs k ≤ k := by
  induction k with
  | zero => simp [runTo]
  | succ k ih => simp only [runTo]; split <;> omega
theorem longTo_le (xs : List Int) (k : Nat) : longTo xs k ≤ k := by
  induction k with
  | zero => simp [longTo]
  | succ k ih => simp only [longTo]; have := runTo_le xs (k + 1); omega
def runB (xs : List Int) : Nat := if plainB xs then longTo xs (6 * xs.length) else 0
end Go.Proofs.YtkpnggnanacaaaaDoor
