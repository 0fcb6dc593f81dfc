/- Linecode: the twenty valid symbols as plain numbers, the place of a symbol among them, the count of ones. No program in sight. -/
namespace Go.Proofs.YtkpnggnanacaaaaDoor
set_option linter.unusedVariables false
def T : List Int := [7, 11, 13, 14, 19, 21, 22, 25, 26, 28, 35, 37, 38, 41, 42, 44, 49, 50, 52, 56]
/-- The place of a number among the symbols; 20: it is none. -/
def idx (x : Int) : Nat := T.idxOf x
theorem idx_le (x : Int) : idx x ≤ 20 := List.idxOf_le_length
theorem T_len : T.length = 20 := rfl
theorem T_bd (i : Nat) : 0 ≤ T.getD i 0 ∧ T.getD i 0 ≤ 56 := by
  rcases Nat.lt_or_ge i 20 with h | h
  · have : ∀ j : Fin 20, 0 ≤ T.getD j 0 ∧ T.getD j 0 ≤ 56 := by decide
    exact this ⟨i, h⟩
  · rw [List.getD_eq_getElem?_getD, List.getElem?_eq_none (by rw [T_len]; omega)]; simp
theorem idx_T (i : Nat) (h : i < 20) : idx (T.getD i 0) = i := by
  have : ∀ j : Fin 20, idx (T.getD j 0) = j := by decide
  exact this ⟨i, h⟩
theorem idx_get (x : Int) (h : idx x < 20) : T.getD (idx x) 0 = x := by
  have h' : T.idxOf x < T.length := h
  rw [List.getD_eq_getElem?_getD]
  show (T[T.idxOf x]?).getD 0 = x
  rw [List.getElem?_eq_getElem h', List.getElem_idxOf]; rfl
theorem idx_ne {x : Int} {i : Nat} (h : i < 20) (hl : i < idx x) : T.getD i 0 ≠ x := by
  intro e
  have := idx_T i h
  rw [e] at this
  omega
/-- The count of the six lowest ones. -/
def popI (k : Int) : Int := k % 2 + k / 2 % 2 + k / 4 % 2 + k / 8 % 2 + k / 16 % 2 + k / 32 % 2
/-- The symbols below k, in ascending order. -/
def S : Nat → List Int
  | 0 => []
  | k + 1 => S k ++ (if popI k = 3 then [(k : Int)] else [])
theorem S_64 : S 64 = T := by decide +kernel
theorem S_yes {k : Nat} (h : popI k = 3) : S (k + 1) = S k ++ [(k : Int)] := by simp [S, h]
theorem S_no {k : Nat} (h : ¬ popI k = 3) : S (k + 1) = S k := by simp [S, h]
theorem S_len (k : Nat) : (S k).length ≤ k := by
  induction k with
  | zero => simp [S]
  | succ k ih => rw [S]; split <;> simp <;> omega
end Go.Proofs.YtkpnggnanacaaaaDoor
