/- A slice of whatever element type that came in: its elements' cells, one by one. No program in sight. -/
import Derived.Test.YtjalegdfofogcaaKit
import Derived.ProofKit
import Derived.OpenShut
import Derived.Lib.SmallJoins
import Derived.ChangeOld
import Derived.Deep.Slices
namespace Go.Proofs.Ytjalegdfofogcaa
set_option linter.unusedVariables false
set_option linter.unusedSimpArgs false
open Go.RowKit Go.ChangeShapes Go.WideShapes Go.Deep
/-- The slice's elements lie in memory, each in sz cells of which Q holds. -/
def IsRows (w : World) (sz : Nat) (Q : List Value → Prop) (a : Option Addr) (len cap : Nat) : Prop :=
  len ≤ cap ∧ cap ≤ maxLen ∧ (0 < len → ∃ b off, a = some ⟨b, off, none⟩ ∧ b < w.heap.size ∧
    ∀ i, i < len → ∃ cs, Q cs ∧ ∀ j v, cs[j]? = some v → w.cell? ⟨b, off + i * sz + j, none⟩ = some v)
theorem IsRows.below {w w' : World} {sz : Nat} {Q : List Value → Prop} {a : Option Addr} {len cap : Nat} (h : IsRows w sz Q a len cap) (hb : Below w.heap.size w w') : IsRows w' sz Q a len cap := by
  refine ⟨h.1, h.2.1, fun hl => ?_⟩
  obtain ⟨b, off, ha, hlt, hc⟩ := h.2.2 hl
  refine ⟨b, off, ha, Nat.lt_of_lt_of_le hlt hb.size, fun i hi => ?_⟩
  obtain ⟨cs, hq, hcell⟩ := hc i hi
  exact ⟨cs, hq, fun j v hv => (hb.cell (p := ⟨b, off + i * sz + j, none⟩) hlt).trans (hcell j v hv)⟩
theorem open_rows {H : Type} {enc : TypeId × Value → H} {P : Program} {w : World} {spare : Nat → Bool} {held : Bool} {t e : TypeId} {sz : Nat} {Q : List Value → Prop} {a : Option Addr} {len cap : Nat} {d : DataW H} {p : List MemPlace}
    (ht : P.underlying t = some (.slice e)) (hC : P.cellsOf e = sz) (hsz : 0 < sz)
    (hQ : ∀ n cs y, cs.length = sz → DataW.trod enc P w 0 spare held n e cs = some y → Q cs)
    (h : DataW.Trod enc P w 0 spare held t (.slice a len cap) d p) : IsRows w sz Q a len cap := by
  obtain ⟨fuel, hf⟩ := h
  rcases open_slice ht hf with ⟨hcs, _⟩ | ⟨x, l, c, m, n, D, Pl, hcs, hb, hl, hm, hmm, hx, hel⟩
  · simp [Value.cells] at hcs
    obtain ⟨rfl, rfl, rfl⟩ := hcs
    exact ⟨Nat.le_refl _, by unfold maxLen; omega, fun h => absurd h (by omega)⟩
  · simp [Value.cells] at hcs
    obtain ⟨rfl, rfl, rfl⟩ := hcs
    refine ⟨hl, hm, fun h0 => ?_⟩
    have hlm : len ≤ m := by subst hmm; split <;> omega
    rw [hC] at hel
    obtain ⟨c0, hc0, ht0⟩ := hel 0 (by omega)
    obtain ⟨_, hlen0, hat0⟩ := World.cells?_some hc0
    have h00 := hat0 0 hsz
    have hv0 : ∃ v, c0[0]? = some v := ⟨c0[0]'(by omega), List.getElem?_eq_getElem (by omega)⟩
    obtain ⟨v0, hv0⟩ := hv0
    rw [hv0] at h00
    obtain ⟨b, off, spot⟩ := x
    rw [show ((Addr.add ⟨b, off, spot⟩ (0 * sz)).add 0) = ⟨b, off, spot⟩ by simp [Addr.add]] at h00
    have hs : spot = none := World.cell?_spot h00
    subst hs
    have hlt : b < w.heap.size := by
      rcases Nat.lt_or_ge b w.heap.size with hlt | hge
      · exact hlt
      · simp [World.cell?, Array.getElem?_eq_none hge] at h00
    refine ⟨b, off, rfl, hlt, fun i hi => ?_⟩
    obtain ⟨cs, hc, ht⟩ := hel i (by omega)
    obtain ⟨_, hlen, hat⟩ := World.cells?_some hc
    refine ⟨cs, hQ n cs _ hlen ht, fun j v hv => ?_⟩
    have hj : j < sz := by
      rw [← hlen]
      exact (List.getElem?_eq_some_iff.1 hv).1
    have := hat j hj
    rw [hv, Go.Deep.add_add] at this
    rw [← this]
    congr 1
    unfold Addr.add
    split
    · rename_i h; simp [Nat.add_assoc] <;> omega
    · simp [Nat.add_assoc]
end Go.Proofs.Ytjalegdfofogcaa
