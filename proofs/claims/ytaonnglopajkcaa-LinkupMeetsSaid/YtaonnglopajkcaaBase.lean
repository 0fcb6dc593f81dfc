/- The closed facts of the program that every frame of this seat asks, and how the elements of the two element types of its slices lie in memory. -/
import Derived.Test.YtaonnglopajkcaaRows
import Derived.Test.YtaonnglopajkcaaOpen
namespace Go.Proofs.Ytaonnglopajkcaa
set_option linter.unusedVariables false
open Go.RowKit Go.ChangeShapes Go.WideShapes
theorem own : ownKnob Try.prog.godebug = none := by kernel_rfl
theorem laidOut : laidOutB Try.prog = true := by kernel_rfl
/-- A greeting: two numbers that fit. -/
def IsGreet (cs : List Value) : Prop := ∃ x y : Int, cs = [.int .i64 x, .int .i64 y] ∧ (Lit.int .i64 x).wf = true ∧ (Lit.int .i64 y).wf = true
/-- An act: a bool and a greeting. -/
def IsAct (cs : List Value) : Prop := ∃ (g : Bool) (x y : Int), cs = [.bool g, .int .i64 x, .int .i64 y] ∧ (Lit.int .i64 x).wf = true ∧ (Lit.int .i64 y).wf = true
theorem cells3 : Try.prog.cellsOf 3 = 1 := by kernel_rfl
theorem cells4 : Try.prog.cellsOf 4 = 1 := by kernel_rfl
theorem cells30 : Try.prog.cellsOf 30 = 2 := by kernel_rfl
theorem isGreet {H : Type} {enc : TypeId × Value → H} {w : World} {base : Nat} {spare : Nat → Bool} {held : Bool} (n : Nat) (cs : List Value) (y : DataW H × List MemPlace) (hl : cs.length = 2)
    (h : DataW.trod enc Try.prog w base spare held n 30 cs = some y) : IsGreet cs := by
  match cs, hl with
  | [c0, c1], _ =>
    obtain ⟨ys, m, _, _, _, hyl, hf⟩ := DataW.trod_struct Try.underlying30 h
    have f0 := hf 0 _ rfl
    have f1 := hf 1 _ rfl
    simp [cells3] at f0 f1 hyl
    rw [List.getElem?_eq_getElem (by omega)] at f0 f1
    obtain ⟨x, e0, _, w0⟩ := DataW.trod_int Try.underlying3 f0
    obtain ⟨z, e1, _, w1⟩ := DataW.trod_int Try.underlying3 f1
    simp at e0 e1
    subst e0 e1
    exact ⟨x, z, rfl, w0, w1⟩
theorem isAct {H : Type} {enc : TypeId × Value → H} {w : World} {base : Nat} {spare : Nat → Bool} {held : Bool} (n : Nat) (cs : List Value) (y : DataW H × List MemPlace) (hl : cs.length = 3)
    (h : DataW.trod enc Try.prog w base spare held n 45 cs = some y) : IsAct cs := by
  match cs, hl with
  | [c0, c1, c2], _ =>
    obtain ⟨ys, m, _, _, _, hyl, hf⟩ := DataW.trod_struct Try.underlying45 h
    have f0 := hf 0 _ rfl
    have f1 := hf 1 _ rfl
    simp [cells30, cells4] at f0 f1 hyl
    rw [List.getElem?_eq_getElem (by omega)] at f0 f1
    obtain ⟨g, e0, _⟩ := DataW.trod_bool Try.underlying4 f0
    obtain ⟨x, z, e1, w0, w1⟩ := isGreet _ _ _ rfl f1
    simp at e0 e1
    obtain ⟨rfl, rfl⟩ := e1
    subst e0
    exact ⟨g, x, z, rfl, w0, w1⟩
end Go.Proofs.Ytaonnglopajkcaa
