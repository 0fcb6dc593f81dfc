/- Slices of bytes that read as lists of numbers, whether they came in or were made by a call; small words on new blocks. No program's function in sight. -/
import Derived.Test.YtkpnggnanacaaaaDoorWalksB
import Derived.Test.YtkpnggnanacaaaaDoorPlainB
import Derived.Deep.RegionHeld3
import Derived.Deep.AppendLies
import Derived.Deep.DeepCutAuto
namespace Go.Proofs.YtkpnggnanacaaaaDoor
set_option linter.unusedVariables false
set_option linter.unusedSimpArgs false
open Go.RowKit
/-- The slice v reads the bytes xs. -/
def Rd (w : World) (v : Value) (xs : List Int) : Prop :=
  ∃ A cap, v = .slice A xs.length cap ∧ xs.length ≤ cap ∧ cap ≤ maxLen ∧
    (0 < xs.length → ∃ b off, A = some ⟨b, off, none⟩ ∧ b < w.heap.size ∧ ∀ i, i < xs.length → w.cell? ⟨b, off + i, none⟩ = some (.int .u8 (xs.getD i 0)))
theorem Rd.below {w w' : World} {v : Value} {xs : List Int} (h : Rd w v xs) (hb : Below w.heap.size w w') : Rd w' v xs := by
  obtain ⟨A, cap, hv, h1, h2, h3⟩ := h
  refine ⟨A, cap, hv, h1, h2, fun hl => ?_⟩
  obtain ⟨b, off, hA, hlt, hc⟩ := h3 hl
  exact ⟨b, off, hA, Nat.lt_of_lt_of_le hlt hb.size, fun i hi => (hb.cell (p := ⟨b, off + i, none⟩) hlt).trans (hc i hi)⟩
theorem Rd.drewN {w : World} {v : Value} {xs : List Int} (h : Rd w v xs) (n : Nat) : Rd (w.drewN n) v xs := h
theorem Rd.alloc {w : World} {v : Value} {xs : List Int} (h : Rd w v xs) (o : Obj) : Rd (w.alloc o) v xs := h.below ((Below.refl _ _).alloc (Nat.le_refl _) o)
theorem own_rd {w' : World} {base n : Nat} {v : Value} {xs : List Int} (h : w'.ownsRow base 5 1 v n (xs.map (Value.int .u8))) : Rd w' v xs := by
  obtain ⟨hl, h⟩ := h
  have hn : n = xs.length := by rw [List.length_map] at hl; omega
  subst hn
  rcases h with ⟨rfl, h0⟩ | ⟨g, cap, cur, rfl, _, hg, hc, hm, _, ht⟩
  · exact ⟨none, 0, by rw [h0], by omega, by unfold maxLen; omega, fun h => by omega⟩
  · refine ⟨_, cap, rfl, hc, hm, fun hp => ⟨g, 0, rfl, ?_, fun i hi => ?_⟩⟩
    · rcases Nat.lt_or_ge g w'.heap.size with h | h
      · exact h
      · rw [Array.getElem?_eq_none h] at hg; cases hg
    · rw [Nat.zero_add, cell_of_row w' g i cur 5 (0, 0) hg]
      have : cur.toList[i]? = (cur.toList.take (xs.length * 1))[i]? := by rw [List.getElem?_take_of_lt (by omega)]
      rw [← Array.getElem?_toList, this, ht, List.getElem?_map, getD_at hi]; rfl
theorem Owns.rd {w w' : World} {v : Value} {xs : List Int} (h : Owns w w' v xs) : Rd w' v xs := own_rd h.1
theorem Owns.below {w w' : World} {v : Value} {xs : List Int} (h : Owns w w' v xs) : Below w.heap.size w w' := h.2
theorem Tab.alloc {w : World} (h : Tab w) (o : Obj) : Tab (w.alloc o) := h.below ((Below.refl _ _).alloc (Nat.le_refl _) o)
theorem owns_nil (w : World) : Owns w w (.slice none 0 0) [] := ⟨⟨rfl, .inl ⟨rfl, rfl⟩⟩, Below.refl _ _⟩
theorem news_at {w : World} {b off : Nat} {xs : List Int} (hc : ∀ i, i < xs.length → w.cell? ⟨b, off + i, none⟩ = some (.int .u8 (xs.getD i 0))) :
    ∀ j u, (xs.map (Value.int .u8))[j]? = some u → w.cell? ((⟨b, off, none⟩ : Addr).add j) = some u := fun j u hu => by
  have hj : j < xs.length := by
    rcases Nat.lt_or_ge j xs.length with h | h
    · exact h
    · rw [List.getElem?_eq_none (by simpa using h)] at hu; cases hu
  have hadd : (⟨b, off, none⟩ : Addr).add j = ⟨b, off + j, none⟩ := by unfold Addr.add; split <;> simp_all
  rw [List.getElem?_map, getD_at hj] at hu
  rw [hadd, hc j hj]
  exact hu
theorem dr {B : Nat} {w w1 : World} (h : Below B w w1) : Below B w w1.drew := ⟨h.os, h.tape, h.output, h.size, h.block⟩
theorem one_map (xs : List Int) : ∀ u ∈ xs.map (Value.int .u8), u.oneCell' = true := by
  intro u hu
  obtain ⟨x, _, rfl⟩ := List.mem_map.1 hu
  rfl
end Go.Proofs.YtkpnggnanacaaaaDoor
