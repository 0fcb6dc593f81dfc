/- The closed facts of the program that every frame of this seat asks, and how the elements of its slices lie in memory. -/
import Derived.Test.YtnmgnggchgckoaaRows
import Derived.Test.YtnmgnggchgckoaaOpen
import Derived.Test.YtnmgnggchgckoaaAwake
namespace Go.Proofs.Ytnmgnggchgckoaa
set_option linter.unusedVariables false
set_option linter.unusedSimpArgs false
open Go.RowKit Go.ChangeShapes Go.WideShapes
theorem own : ownKnob Try.prog.godebug = none := by kernel_rfl
theorem laidOut : laidOutB Try.prog = true := by kernel_rfl
def IsByte (cs : List Value) : Prop := ∃ x : Int, cs = [.int .u8 x] ∧ 0 ≤ x ∧ x ≤ 255
theorem isByte {H : Type} {enc : TypeId × Value → H} {w : World} {base : Nat} {spare : Nat → Bool} {held : Bool} (n : Nat) (cs : List Value) (y : DataW H × List MemPlace) (hl : cs.length = 1)
    (h : DataW.trod enc Try.prog w base spare held n 5 cs = some y) : IsByte cs := by
  match cs, hl with
  | [c0], _ =>
    obtain ⟨x, e0, _, w0⟩ := DataW.trod_int Try.underlying5 h
    simp at e0
    subst e0
    exact ⟨x, rfl, bounds_u8 w0⟩
def IsInt (cs : List Value) : Prop := ∃ x : Int, cs = [.int .i64 x]
theorem isInt {H : Type} {enc : TypeId × Value → H} {w : World} {base : Nat} {spare : Nat → Bool} {held : Bool} (n : Nat) (cs : List Value) (y : DataW H × List MemPlace) (hl : cs.length = 1)
    (h : DataW.trod enc Try.prog w base spare held n 3 cs = some y) : IsInt cs := by
  match cs, hl with
  | [c0], _ =>
    obtain ⟨x, e0, _, w0⟩ := DataW.trod_int Try.underlying3 h
    simp at e0
    subst e0
    exact ⟨x, rfl⟩
/-- A list out of facts on each place. -/
theorem list_of (P : Nat → Int → Prop) (n : Nat) (h : ∀ i, i < n → ∃ x, P i x) : ∃ l : List Int, l.length = n ∧ ∀ i, i < n → P i (l.getD i 0) := by
  induction n with
  | zero => exact ⟨[], rfl, fun i hi => absurd hi (by omega)⟩
  | succ n ih =>
    obtain ⟨l, hl, hp⟩ := ih fun i hi => h i (by omega)
    obtain ⟨x, hx⟩ := h n (by omega)
    refine ⟨l ++ [x], by simp [hl], fun i hi => ?_⟩
    rcases Nat.lt_or_ge i n with h1 | h1
    · have := hp i h1
      simpa [List.getD_eq_getElem?_getD, List.getElem?_append_left (show i < l.length by omega)] using this
    · obtain rfl : i = n := by omega
      simpa [List.getD_eq_getElem?_getD, ← hl] using hx
/-- A slice of ints as a list. -/
theorem rows_ints {w : World} {a : Option Addr} {len cap : Nat} (h : IsRows w 1 IsInt a len cap) : ∃ l : List Int, l.length = len ∧ Reads w w.heap.size 1 a len (iv l) := by
  obtain ⟨h1, h2, h3⟩ := h
  rcases Nat.eq_zero_or_pos len with h0 | h0
  · subst h0; exact ⟨[], rfl, by simp [iv], fun h => absurd h (by omega)⟩
  · obtain ⟨b, off, rfl, hb, hc⟩ := h3 h0
    obtain ⟨l, hl, hp⟩ := list_of (fun i x => w.cell? ⟨b, off + i, none⟩ = some (.int .i64 x)) len fun i hi => by
      obtain ⟨cs, ⟨x, rfl⟩, hcell⟩ := hc i hi
      exact ⟨x, by have := hcell 0 _ rfl; simpa using this⟩
    refine ⟨l, hl, by simp [iv, hl], fun _ => ⟨_, rfl, hb, fun j u hu => ?_⟩⟩
    have hj : j < l.length := by
      have := (List.getElem?_eq_some_iff.1 hu).1; simpa [iv] using this
    rw [iv_get hj] at hu
    injection hu with hu
    subst hu
    have := hp j (by omega)
    unfold Addr.add
    split
    · rename_i h; subst h; simpa using this
    · exact this
end Go.Proofs.Ytnmgnggchgckoaa
