/- Hello: how an act of the statements lies in memory: six numbers. -/
import Derived.Test.YtkbnacboianjkaaBase
import Derived.Test.YtkbnacboianjkaaOpen
namespace Go.Proofs.Ytkbnacboianjkaa
set_option linter.unusedVariables false
set_option linter.unusedSimpArgs false
open Go.RowKit Go.ChangeShapes Go.WideShapes
def IsAct (cs : List Value) : Prop := ∃ kind port node inc mp heard : Int, cs = [.int .i64 kind, .int .i64 port, .int .i64 node, .int .i64 inc, .int .i64 mp, .int .i64 heard]
theorem cells3 : Try.prog.cellsOf 3 = 1 := by kernel_rfl
theorem cells39 : Try.prog.cellsOf 39 = 4 := by kernel_rfl
theorem isMsg {H : Type} {enc : TypeId × Value → H} {w : World} {base : Nat} {spare : Nat → Bool} {held : Bool} (n : Nat) (cs : List Value) (y : DataW H × List MemPlace) (hl : cs.length = 4)
    (h : DataW.trod enc Try.prog w base spare held n 39 cs = some y) : ∃ node inc mp heard : Int, cs = [.int .i64 node, .int .i64 inc, .int .i64 mp, .int .i64 heard] := by
  match cs, hl with
  | [c0, c1, c2, c3], _ =>
    obtain ⟨ys, m, _, _, _, hyl, hf⟩ := DataW.trod_struct Try.underlying39 h
    have f0 := hf 0 _ rfl
    have f1 := hf 1 _ rfl
    have f2 := hf 2 _ rfl
    have f3 := hf 3 _ rfl
    simp [cells3] at f0 f1 f2 f3 hyl
    rw [List.getElem?_eq_getElem (by omega)] at f0 f1 f2 f3
    obtain ⟨x0, e0, _, w0⟩ := DataW.trod_int Try.underlying3 f0
    obtain ⟨x1, e1, _, w1⟩ := DataW.trod_int Try.underlying3 f1
    obtain ⟨x2, e2, _, w2⟩ := DataW.trod_int Try.underlying3 f2
    obtain ⟨x3, e3, _, w3⟩ := DataW.trod_int Try.underlying3 f3
    simp at e0 e1 e2 e3
    subst e0 e1 e2 e3
    exact ⟨x0, x1, x2, x3, rfl⟩
theorem isAct {H : Type} {enc : TypeId × Value → H} {w : World} {base : Nat} {spare : Nat → Bool} {held : Bool} (n : Nat) (cs : List Value) (y : DataW H × List MemPlace) (hl : cs.length = 6)
    (h : DataW.trod enc Try.prog w base spare held n 41 cs = some y) : IsAct cs := by
  match cs, hl with
  | [c0, c1, c2, c3, c4, c5], _ =>
    obtain ⟨ys, m, _, _, _, hyl, hf⟩ := DataW.trod_struct Try.underlying41 h
    have f0 := hf 0 _ rfl
    have f1 := hf 1 _ rfl
    have f2 := hf 2 _ rfl
    simp [cells3, cells39] at f0 f1 f2 hyl
    rw [List.getElem?_eq_getElem (by omega)] at f0 f1 f2
    obtain ⟨x0, e0, _, w0⟩ := DataW.trod_int Try.underlying3 f0
    obtain ⟨x1, e1, _, w1⟩ := DataW.trod_int Try.underlying3 f1
    obtain ⟨a, b, c, d, e2⟩ := isMsg _ _ _ rfl f2
    simp at e0 e1 e2
    obtain ⟨rfl, rfl, rfl, rfl⟩ := e2
    subst e0 e1
    exact ⟨x0, x1, a, b, c, d, rfl⟩
end Go.Proofs.Ytkbnacboianjkaa
