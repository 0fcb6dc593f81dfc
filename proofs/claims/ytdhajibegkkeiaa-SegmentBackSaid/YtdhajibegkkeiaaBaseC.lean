/- Segment: how lists of numbers that come in lie in memory. -/
import Derived.Test.YtdhajibegkkeiaaBase
namespace Go.Proofs.Ytdhajibegkkeiaa
set_option linter.unusedVariables false
set_option linter.unusedSimpArgs false
open Go.RowKit Go.ChangeShapes Go.WideShapes Go.Deep
def IsInt (cs : List Value) : Prop := ∃ x : Int, cs = [.int .i64 x] ∧ -9223372036854775808 ≤ x ∧ x ≤ 9223372036854775807
theorem isInt {H : Type} {enc : TypeId × Value → H} {w : World} {base : Nat} {spare : Nat → Bool} {held : Bool} (n : Nat) (cs : List Value) (y : DataW H × List MemPlace) (hl : cs.length = 1)
    (h : DataW.trod enc Try.prog w base spare held n 3 cs = some y) : IsInt cs := by
  match cs, hl with
  | [c0], _ =>
    obtain ⟨x, e0, _, w0⟩ := DataW.trod_int Try.underlying3 h
    simp at e0
    subst e0
    exact ⟨x, rfl, bounds_i64 w0⟩
def kv (l : List Int) : List Value := l.map (Value.int .i64)
theorem kv_get {l : List Int} {i : Nat} (hi : i < l.length) : (kv l)[i]? = some (.int .i64 (l.getD i 0)) := by
  simp [kv, List.getD_eq_getElem?_getD, List.getElem?_eq_getElem hi]
theorem open_nums {H : Type} {enc : TypeId × Value → H} {w : World} {spare : Nat → Bool} {held : Bool} {v : Value} {d : DataW H} {p : List MemPlace} {r : Reach} {b0 : Nat} (hv : Value.okWide Try.prog w r b0 49 v) (h : DataW.Trod enc Try.prog w 0 spare held 49 v d p) :
    ∃ (A : Option Addr) (kap : Nat) (l : List Int), v = .slice A l.length kap ∧ Reads w w.heap.size 1 A l.length (kv l) ∧ (∀ i, i < l.length → -9223372036854775808 ≤ l.getD i 0 ∧ l.getD i 0 ≤ 9223372036854775807) ∧ l.length ≤ 9223372036854775807 := by
  obtain ⟨a, len, cap, rfl⟩ := okWide_slice Try.underlying49 hv
  obtain ⟨h1, h2, h3⟩ := open_rows (Q := IsInt) Try.underlying49 (show Try.prog.cellsOf 3 = 1 by kernel_rfl) (by decide) isInt h
  have hmx : len ≤ 9223372036854775807 := by unfold maxLen at h2; omega
  rcases Nat.eq_zero_or_pos len with h0 | h0
  · subst h0
    exact ⟨a, cap, [], rfl, ⟨rfl, fun hn => absurd hn (by simp)⟩, fun i hi => absurd hi (by simp), by simp⟩
  · obtain ⟨b, off, rfl, hb, hc⟩ := h3 h0
    obtain ⟨l, hl, hp⟩ := list_of (fun i x => (-9223372036854775808 ≤ x ∧ x ≤ 9223372036854775807) ∧ w.cell? ⟨b, off + i, none⟩ = some (.int .i64 x)) len fun i hi => by
      obtain ⟨cs, ⟨x, rfl, x0, x1⟩, hcell⟩ := hc i hi
      exact ⟨x, ⟨x0, x1⟩, by have := hcell 0 _ rfl; simpa using this⟩
    subst hl
    refine ⟨_, cap, l, rfl, ⟨by simp [kv], fun _ => ⟨_, rfl, hb, fun j u hu => ?_⟩⟩, fun i hi => (hp i hi).1, hmx⟩
    have hj : j < l.length := by
      have := (List.getElem?_eq_some_iff.1 hu).1; simpa [kv] using this
    rw [kv_get hj] at hu
    injection hu with hu
    subst hu
    have := (hp j hj).2
    unfold Addr.add
    split
    · rename_i h; subst h; simpa using this
    · exact this
end Go.Proofs.Ytdhajibegkkeiaa
