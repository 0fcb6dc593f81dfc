/- The closed facts of the program that every frame of this seat asks, and how plans, lists of bools and votes that come in lie in memory. -/
import Derived.Test.YtckigonkcjceeaaRows
import Derived.Test.YtckigonkcjceeaaEGreat
import Derived.Deep.Strs
namespace Go.Proofs.Ytckigonkcjceeaa
set_option linter.unusedVariables false
set_option linter.unusedSimpArgs false
open Go.RowKit Go.ChangeShapes Go.WideShapes Go.Deep
theorem own : ownKnob Try.prog.godebug = none := by kernel_rfl
theorem laidOut : laidOutB Try.prog = true := by kernel_rfl
theorem I64.of {x : Int} (h : (Lit.int .i64 x).wf = true) : I64 x := bounds_i64 h
theorem c3 : Try.prog.cellsOf 3 = 1 := by kernel_rfl
theorem c4 : Try.prog.cellsOf 4 = 1 := by kernel_rfl
theorem c9 : Try.prog.cellsOf 9 = 1 := by kernel_rfl
def VtOk (v : Vt) : Prop := I64 v.root ∧ I64 v.dist ∧ I64 v.port
section
variable {H : Type} {enc : TypeId × Value → H} {w : World} {base : Nat} {spare : Nat → Bool} {held : Bool}
theorem isBool (n : Nat) (cs : List Value) (y : DataW H × List MemPlace) (hl : cs.length = 1) (h : DataW.trod enc Try.prog w base spare held n 4 cs = some y) : ∃ x : Bool, cs = bcell1 x ∧ True := by
  match cs, hl with
  | [c0], _ =>
    obtain ⟨x, e0, _⟩ := DataW.trod_bool Try.underlying4 h
    simp at e0
    subst e0
    exact ⟨x, rfl, trivial⟩
theorem isVote (n : Nat) (cs : List Value) (y : DataW H × List MemPlace) (hl : cs.length = 3) (h : DataW.trod enc Try.prog w base spare held n 23 cs = some y) : ∃ x : Vt, cs = vcell x ∧ VtOk x := by
  match cs, hl with
  | [k0, k1, k2], _ =>
    obtain ⟨ys, m, _, _, _, hyl, hf⟩ := DataW.trod_struct Try.underlying23 h
    have f0 := hf 0 _ rfl
    have f1 := hf 1 _ rfl
    have f2 := hf 2 _ rfl
    simp [c3] at f0 f1 f2 hyl
    rw [List.getElem?_eq_getElem (by omega)] at f0 f1 f2
    obtain ⟨a, e0, _, w0⟩ := DataW.trod_int Try.underlying3 f0
    obtain ⟨b, e1, _, w1⟩ := DataW.trod_int Try.underlying3 f1
    obtain ⟨c, e2, _, w2⟩ := DataW.trod_int Try.underlying3 f2
    simp at e0 e1 e2
    subst e0; subst e1; subst e2
    exact ⟨⟨a, b, c⟩, rfl, I64.of w0, I64.of w1, I64.of w2⟩
theorem isNode (n : Nat) (cs : List Value) (y : DataW H × List MemPlace) (hl : cs.length = 3) (h : DataW.trod enc Try.prog w base spare held n 74 cs = some y) : ∃ x : Nd, cs = ncell x ∧ NdOk x := by
  match cs, hl with
  | [k0, k1, k2], _ =>
    obtain ⟨ys, m, _, _, _, hyl, hf⟩ := DataW.trod_struct Try.underlying74 h
    have f0 := hf 0 _ rfl
    have f1 := hf 1 _ rfl
    have f2 := hf 2 _ rfl
    simp [c3, c4, c9] at f0 f1 f2 hyl
    rw [List.getElem?_eq_getElem (by omega)] at f0 f1 f2
    obtain ⟨a, e0, _, w0⟩ := DataW.trod_string Try.underlying9 f0
    obtain ⟨b, e1, _⟩ := DataW.trod_bool Try.underlying4 f1
    obtain ⟨c, e2, _, w2⟩ := DataW.trod_int Try.underlying3 f2
    simp at e0 e1 e2
    subst e0; subst e1; subst e2
    exact ⟨⟨a, b, c⟩, rfl, w0, I64.of w2⟩
theorem isCable (n : Nat) (cs : List Value) (y : DataW H × List MemPlace) (hl : cs.length = 6) (h : DataW.trod enc Try.prog w base spare held n 42 cs = some y) : ∃ x : Cb, cs = ccell x ∧ CbOk x := by
  match cs, hl with
  | [k0, k1, k2, k3, k4, k5], _ =>
    obtain ⟨ys, m, _, _, _, hyl, hf⟩ := DataW.trod_struct Try.underlying42 h
    have f0 := hf 0 _ rfl
    have f1 := hf 1 _ rfl
    have f2 := hf 2 _ rfl
    have f3 := hf 3 _ rfl
    have f4 := hf 4 _ rfl
    have f5 := hf 5 _ rfl
    simp [c3] at f0 f1 f2 f3 f4 f5 hyl
    rw [List.getElem?_eq_getElem (by omega)] at f0 f1 f2 f3 f4 f5
    obtain ⟨a0, e0, _, w0⟩ := DataW.trod_int Try.underlying3 f0
    obtain ⟨a1, e1, _, w1⟩ := DataW.trod_int Try.underlying3 f1
    obtain ⟨a2, e2, _, w2⟩ := DataW.trod_int Try.underlying3 f2
    obtain ⟨a3, e3, _, w3⟩ := DataW.trod_int Try.underlying3 f3
    obtain ⟨a4, e4, _, w4⟩ := DataW.trod_int Try.underlying3 f4
    obtain ⟨a5, e5, _, w5⟩ := DataW.trod_int Try.underlying3 f5
    simp at e0 e1 e2 e3 e4 e5
    subst e0; subst e1; subst e2; subst e3; subst e4; subst e5
    exact ⟨⟨a0, a1, a2, a3, a4, a5⟩, rfl, I64.of w0, I64.of w1, I64.of w2, I64.of w3, I64.of w4, I64.of w5⟩
end
section
variable {H : Type} {enc : TypeId × Value → H} {w : World} {spare : Nat → Bool} {held : Bool}
theorem open_up {v : Value} {d : DataW H} {p : List MemPlace} {r : Reach} {b0 : Nat} (hv : Value.okWide Try.prog w r b0 33 v) (h : DataW.Trod enc Try.prog w 0 spare held 33 v d p) :
    ∃ (A : Option Addr) (kap : Nat) (l : List Bool), v = .slice A l.length kap ∧ RowsAt w w.heap.size 1 bcell1 A l ∧ l.length ≤ kap ∧ kap ≤ maxLen := by
  obtain ⟨a, len, cap, rfl⟩ := okWide_slice Try.underlying33 hv
  obtain ⟨l, rfl, -, h2, h3, h4⟩ := rows_list (α := Bool) (by omega) bcell1_len (open_rows Try.underlying33 (show Try.prog.cellsOf 4 = 1 by kernel_rfl) (by decide) isBool h)
  exact ⟨a, cap, l, rfl, h2, h3, h4⟩
theorem open_votes {v : Value} {d : DataW H} {p : List MemPlace} {r : Reach} {b0 : Nat} (hv : Value.okWide Try.prog w r b0 37 v) (h : DataW.Trod enc Try.prog w 0 spare held 37 v d p) :
    ∃ (A : Option Addr) (kap : Nat) (l : List Vt), v = .slice A l.length kap ∧ RowsAt w w.heap.size 3 vcell A l ∧ (∀ x ∈ l, VtOk x) ∧ l.length ≤ kap ∧ kap ≤ maxLen := by
  obtain ⟨a, len, cap, rfl⟩ := okWide_slice Try.underlying37 hv
  obtain ⟨l, rfl, h1, h2, h3, h4⟩ := rows_list (by omega) vcell_len (open_rows Try.underlying37 (show Try.prog.cellsOf 23 = 3 by kernel_rfl) (by decide) isVote h)
  exact ⟨a, cap, l, rfl, h2, h1, h3, h4⟩
theorem cell_slice {c : Value} {n : Nat} {t e : TypeId} {y : DataW H × List MemPlace} (ht : Try.prog.underlying t = some (.slice e)) (h : DataW.trod enc Try.prog w 0 spare held n t [c] = some y) : ∃ a len cap, c = .slice a len cap ∧ DataW.Trod enc Try.prog w 0 spare held t c y.1 y.2 := by
  have hc : ∃ a len cap, c = .slice a len cap := by
    rcases open_slice ht h with ⟨hcs, _⟩ | ⟨x, l, c', m, k, D, Pl, hcs, _⟩
    · simp at hcs; exact ⟨_, _, _, hcs⟩
    · simp at hcs; exact ⟨_, _, _, hcs⟩
  obtain ⟨a, len, cap, rfl⟩ := hc
  exact ⟨a, len, cap, rfl, ⟨n, by simpa [Value.cells] using h⟩⟩
theorem open_plan {v : Value} {d : DataW H} {p : List MemPlace} {r : Reach} {b0 : Nat} (hv : Value.okWide Try.prog w r b0 32 v) (h : DataW.Trod enc Try.prog w 0 spare held 32 v d p) :
    ∃ q : Pl, v = pv q ∧ PlanAt w w.heap.size q := by
  obtain ⟨k0, k1, y0, y1, m, rfl, -, -, h0, h1⟩ := Joins.open_agg2 Try.underlying32 (by kernel_rfl) (show Try.prog.cellsOf 32 = 2 by kernel_rfl) hv h
  obtain ⟨a, len, cap, rfl, t0⟩ := cell_slice Try.underlying29 h0
  obtain ⟨a', len', cap', rfl, t1⟩ := cell_slice Try.underlying30 h1
  obtain ⟨N, rfl, n1, n2, n3, n4⟩ := rows_list (by omega) ncell_len (open_rows Try.underlying29 (show Try.prog.cellsOf 74 = 3 by kernel_rfl) (by decide) isNode t0)
  obtain ⟨C, rfl, m1, m2, m3, m4⟩ := rows_list (by omega) ccell_len (open_rows Try.underlying30 (show Try.prog.cellsOf 42 = 6 by kernel_rfl) (by decide) isCable t1)
  exact ⟨⟨N, C, a, cap, a', cap'⟩, rfl, n2, m2, n1, m1, n3, m3, n4, m4⟩
end
end Go.Proofs.Ytckigonkcjceeaa
