/- Segment: the pieces of data are joined to the data. -/
import Derived.Test.YtdhajibegkkeiaaSplit
import Derived.Test.YtdhajibegkkeiaaPlainK
namespace Go.Proofs.Ytdhajibegkkeiaa
set_option linter.unusedVariables false
set_option linter.unusedSimpArgs false
theorem nP_le {n m k : Nat} {last : Bool} (hm : 0 < m) (hk : k < nP n m last) : k * m ≤ n := by
  unfold nP at hk
  split at hk
  · obtain rfl : k = 0 := by omega
    omega
  · exact Nat.le_of_lt (pieces_lo hm hk)
theorem nP_hi (n : Nat) {m : Nat} (last : Bool) (hm : 0 < m) : n ≤ nP n m last * m := by
  have := pieces_hi n hm
  unfold nP
  split
  · rename_i h; rw [h.1] at this; omega
  · exact this
section
variable {d : List Int} {off : Int} {m : Nat} {last : Bool} {n i : Nat}
theorem segI_fin (hi : i * m ≤ d.length) : (segI d off m last n i).fin = off + (min ((i + 1) * m) d.length : Nat) := by
  have hg : (i + 1) * m = i * m + m := Nat.succ_mul _ _
  simp only [Seg.fin, segI, List.length_drop, List.length_take]
  omega
theorem segI_at {o x : Int} (hi : i * m ≤ d.length) (h : (segI d off m last n i).at? o = some x) : off ≤ o ∧ d.getD (o - off).toNat 0 = x := by
  obtain ⟨h1, h2, h3⟩ := at_iff.1 h
  rw [segI_fin hi] at h2
  have h4 : (segI d off m last n i).off = off + (i * m : Nat) := rfl
  rw [h4] at h1 h3
  refine ⟨by omega, ?_⟩
  rw [← h3]
  simp only [segI, List.getD_eq_getElem?_getD, List.getElem?_drop]
  rw [List.getElem?_take_of_lt (by omega)]
  congr 2
  omega
theorem segI_has {j : Nat} (hi : i * m ≤ j) (hj : j < (i + 1) * m) (hd : j < d.length) : (segI d off m last n i).at? (off + j) = some (d.getD j 0) := by
  have hg : (i + 1) * m = i * m + m := Nat.succ_mul _ _
  refine at_iff.2 ⟨?_, ?_, ?_⟩
  · show off + ((i * m : Nat) : Int) ≤ _
    omega
  · rw [segI_fin (by omega)]; omega
  · have h4 : (segI d off m last n i).off = off + (i * m : Nat) := rfl
    rw [h4]
    simp only [segI, List.getD_eq_getElem?_getD, List.getElem?_drop]
    rw [List.getElem?_take_of_lt (by omega)]
    congr 2
    omega
end
theorem mem_splitK {d : List Int} {off : Int} {m : Nat} {last : Bool} {n k : Nat} {s : Seg} : s ∈ splitK d off m last n k ↔ ∃ i, i < k ∧ segI d off m last n i = s := by simp [splitK]
theorem split_valid {d : List Int} {off : Int} {m : Nat} {last : Bool} (h : badB d.length off m = false) : AllV (splitK d off m last (nP d.length m last) (nP d.length m last)) := by
  have hc : 1 ≤ m ∧ m ≤ 64 ∧ 0 ≤ off ∧ off ≤ 1099511627776 - (d.length : Int) := by
    simp only [badB, Bool.or_eq_false_iff, decide_eq_false_iff_not] at h
    omega
  obtain ⟨h1, h2, h3, h4⟩ := hc
  intro s hs
  obtain ⟨i, hi, rfl⟩ := mem_splitK.1 hs
  have hl := nP_le h1 hi
  have hg : (i + 1) * m = i * m + m := Nat.succ_mul _ _
  have hlen : (segI d off m last (nP d.length m last) i).data.length = min ((i + 1) * m) d.length - i * m := by
    simp only [segI, List.length_drop, List.length_take]
    omega
  rw [valid_iff, hlen]
  refine ⟨?_, by omega, ?_⟩
  · show 0 ≤ off + ((i * m : Nat) : Int)
    omega
  · show off + ((i * m : Nat) : Int) ≤ _
    omega
theorem split_join {d : List Int} {off : Int} {m : Nat} {last : Bool} {n : Nat} (hn : n = nP d.length m last) (h : badB d.length off m = false) (h0 : 0 < n) (hm : n ≤ 1000) :
    JoinIs (splitK d off m last n n) ⟨d, off, last, 0⟩ := by
  have hc : 1 ≤ m ∧ m ≤ 64 ∧ 0 ≤ off ∧ off ≤ 1099511627776 - (d.length : Int) := by
    simp only [badB, Bool.or_eq_false_iff, decide_eq_false_iff_not] at h
    omega
  obtain ⟨h1, h2, h3, h4⟩ := hc
  have hlo : ∀ i, i < n → i * m ≤ d.length := fun i hi => nP_le h1 (by rw [← hn]; exact hi)
  have hhi : d.length ≤ n * m := by rw [hn]; exact nP_hi _ _ h1
  have hv : AllV (splitK d off m last n n) := by rw [hn]; exact split_valid h
  have ha : Agree (splitK d off m last n n) := by
    rintro o x y ⟨s, hs, hx⟩ ⟨t, ht, hy⟩
    obtain ⟨i, hi, rfl⟩ := mem_splitK.1 hs
    obtain ⟨j, hj, rfl⟩ := mem_splitK.1 ht
    rw [← (segI_at (hlo i hi) hx).2, ← (segI_at (hlo j hj) hy).2]
  have hlast : min ((n - 1 + 1) * m) d.length = d.length := by rw [Nat.sub_add_cancel h0]; omega
  have hfl : (segI d off m last n (n - 1)).fin = off + d.length := by rw [segI_fin (hlo _ (by omega)), hlast]
  have hfle : ∀ s ∈ splitK d off m last n n, s.fin ≤ off + d.length := by
    intro s hs
    obtain ⟨i, hi, rfl⟩ := mem_splitK.1 hs
    rw [segI_fin (hlo i hi)]
    omega
  have hany : anyL (splitK d off m last n n) = last := by
    rw [Bool.eq_iff_iff, anyL_iff]
    constructor
    · rintro ⟨s, hs, hl⟩
      obtain ⟨i, hi, rfl⟩ := mem_splitK.1 hs
      simp only [segI, Bool.and_eq_true] at hl
      exact hl.1
    · intro hl
      exact ⟨_, mem_splitK.2 ⟨n - 1, by omega, rfl⟩, by simp only [segI, Bool.and_eq_true, decide_eq_true_eq]; exact ⟨hl, by omega⟩⟩
  have hj : JoinIs (splitK d off m last n n) ⟨d, off, anyL (splitK d off m last n n), 0⟩ := by
    refine .ok (hi := off + d.length) (by rw [splitK_len]; exact hm) hv (fun e => by have := congrArg List.length e; rw [splitK_len] at this; simp at this; omega) ?_ ⟨⟨_, mem_splitK.2 ⟨0, h0, rfl⟩, by simp [segI]⟩, fun s hs => ?_⟩ ⟨⟨_, mem_splitK.2 ⟨n - 1, by omega, rfl⟩, hfl⟩, hfle⟩ (by omega) fun i hi => ?_
    · rintro (hc | ⟨s, hs, hl, t, ht, hlt⟩)
      · exact hc ha
      · have := hfle t ht
        obtain ⟨i, hi, rfl⟩ := mem_splitK.1 hs
        simp only [segI, Bool.and_eq_true, decide_eq_true_eq] at hl
        have hi1 : i = n - 1 := by omega
        rw [hi1, hfl] at hlt
        omega
    · obtain ⟨i, hi, rfl⟩ := mem_splitK.1 hs
      show off ≤ off + ((i * m : Nat) : Int)
      omega
    · refine kn_agree ha ⟨_, mem_splitK.2 ⟨i / m, ?_, rfl⟩, segI_has ?_ ?_ hi⟩
      · exact (Nat.div_lt_iff_lt_mul h1).2 (by omega)
      · have := Nat.div_mul_le_self i m; exact this
      · have := Nat.lt_div_mul_add h1 (a := i)
        rw [Nat.succ_mul]; exact this
  rw [hany] at hj
  exact hj
end Go.Proofs.Ytdhajibegkkeiaa
