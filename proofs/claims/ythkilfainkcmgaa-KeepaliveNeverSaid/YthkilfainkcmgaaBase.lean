/- The closed facts of the program that every frame of this seat asks, and how the elements of its slices lie in memory. -/
import Derived.Test.YthkilfainkcmgaaRows
import Derived.Test.YthkilfainkcmgaaOpen
import Derived.Test.YthkilfainkcmgaaSafe
namespace Go.Proofs.Ythkilfainkcmgaa
set_option linter.unusedVariables false
set_option linter.unusedSimpArgs false
open Go.RowKit Go.ChangeShapes Go.WideShapes
theorem own : ownKnob Try.prog.godebug = none := by kernel_rfl
theorem laidOut : laidOutB Try.prog = true := by kernel_rfl
def IsByte (cs : List Value) : Prop := ∃ x : Int, cs = [.int .u8 x] ∧ 0 ≤ x ∧ x ≤ 255
theorem cells3 : Try.prog.cellsOf 3 = 1 := by kernel_rfl
theorem isByte {H : Type} {enc : TypeId × Value → H} {w : World} {base : Nat} {spare : Nat → Bool} {held : Bool} (n : Nat) (cs : List Value) (y : DataW H × List MemPlace) (hl : cs.length = 1)
    (h : DataW.trod enc Try.prog w base spare held n 5 cs = some y) : IsByte cs := by
  match cs, hl with
  | [c0], _ =>
    obtain ⟨x, e0, _, w0⟩ := DataW.trod_int Try.underlying5 h
    simp at e0
    subst e0
    exact ⟨x, rfl, bounds_u8 w0⟩
theorem isOp {H : Type} {enc : TypeId × Value → H} {w : World} {base : Nat} {spare : Nat → Bool} {held : Bool} (n : Nat) (cs : List Value) (y : DataW H × List MemPlace) (hl : cs.length = 2)
    (h : DataW.trod enc Try.prog w base spare held n 31 cs = some y) : ∃ kind now : Int, cs = [.int .i64 kind, .int .i64 now] := by
  match cs, hl with
  | [c0, c1], _ =>
    obtain ⟨ys, m, _, _, _, hyl, hf⟩ := DataW.trod_struct Try.underlying31 h
    have f0 := hf 0 _ rfl
    have f1 := hf 1 _ rfl
    simp [cells3] at f0 f1 hyl
    rw [List.getElem?_eq_getElem (by omega)] at f0 f1
    obtain ⟨x0, e0, _, w0⟩ := DataW.trod_int Try.underlying3 f0
    obtain ⟨x1, e1, _, w1⟩ := DataW.trod_int Try.underlying3 f1
    simp at e0 e1
    subst e0 e1
    exact ⟨x0, x1, rfl⟩
end Go.Proofs.Ythkilfainkcmgaa
