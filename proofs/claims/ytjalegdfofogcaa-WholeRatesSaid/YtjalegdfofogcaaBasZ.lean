/- The closed facts of the program that the frames ask, and how a net that comes in lies in memory. How the further arguments of WholeRates lie in memory: numbers, flags, a number. -/
import Derived.Test.YtjalegdfofogcaaRows
import Derived.Test.YtjalegdfofogcaaNetC
namespace Go.Proofs.Ytjalegdfofogcaa
set_option linter.unusedVariables false
set_option linter.unusedSimpArgs false
open Go.RowKit Go.ChangeShapes Go.WideShapes Go.Deep
theorem own : ownKnob Try.prog.godebug = none := by kernel_rfl
theorem laidOut : laidOutB Try.prog = true := by kernel_rfl
theorem isInt {H : Type} {enc : TypeId × Value → H} {w : World} {spare : Nat → Bool} {held : Bool} (n : Nat) (cs : List Value) (y : DataW H × List MemPlace) (hl : cs.length = 1)
    (h : DataW.trod enc Try.prog w 0 spare held n 3 cs = some y) : ∃ x : Int, cs = icell x ∧ True := by
  match cs, hl with
  | [c0], _ =>
    obtain ⟨x, e0, _, w0⟩ := DataW.trod_int Try.underlying3 h
    simp at e0
    subst e0
    exact ⟨x, rfl, trivial⟩
theorem isRat {H : Type} {enc : TypeId × Value → H} {w : World} {spare : Nat → Bool} {held : Bool} (n : Nat) (cs : List Value) (y : DataW H × List MemPlace) (hl : cs.length = 2)
    (h : DataW.trod enc Try.prog w 0 spare held n 32 cs = some y) : ∃ x : Rq, cs = ccell x ∧ (R64 x.n ∧ R64 x.d) := by
  match cs, hl with
  | [c0, c1], _ =>
    obtain ⟨y0, y1, m, -, -, h0, h1⟩ := trod_struct2 Try.underlying32 h
    have e0 : Try.prog.cellsOf 3 = 1 := by kernel_rfl
    simp [e0] at h0 h1
    obtain ⟨x, g0, _, w0⟩ := DataW.trod_int Try.underlying3 h0
    obtain ⟨z, g1, _, w1⟩ := DataW.trod_int Try.underlying3 h1
    simp only [List.cons.injEq, and_true] at g0 g1
    subst g0; subst g1
    exact ⟨⟨x, z⟩, rfl, bounds_i64 w0, bounds_i64 w1⟩
theorem isFlow {H : Type} {enc : TypeId × Value → H} {w : World} {spare : Nat → Bool} {held : Bool} (n : Nat) (cs : List Value) (y : DataW H × List MemPlace) (hl : cs.length = 4)
    (h : DataW.trod enc Try.prog w 0 spare held n 37 cs = some y) : ∃ p : PFlow, cs = fcell p ∧ FlowAt w w.heap.size p := by
  match cs, hl with
  | [c0, c1, c2, c3], _ =>
    obtain ⟨y0, y1, y2, m, -, -, h0, h1, h2⟩ := trod_struct3 Try.underlying37 h
    have e0 : Try.prog.cellsOf 35 = 1 := by kernel_rfl
    have e1 : Try.prog.cellsOf 4 = 1 := by kernel_rfl
    have e2 : Try.prog.cellsOf 32 = 2 := by kernel_rfl
    simp [e0, e1, e2] at h0 h1 h2
    obtain ⟨b, g1, _⟩ := DataW.trod_bool Try.underlying4 h1
    obtain ⟨d, g2, hd⟩ := isRat m [c2, c3] y2 rfl h2
    have hc : ∃ a len cap, c0 = .slice a len cap := by
      rcases open_slice Try.underlying35 h0 with ⟨hcs, _⟩ | ⟨x, l, c', m, k, D, Pl, hcs, _⟩
      · simp at hcs; exact ⟨_, _, _, hcs⟩
      · simp at hcs; exact ⟨_, _, _, hcs⟩
    obtain ⟨a, len, cap, rfl⟩ := hc
    have ht : DataW.Trod enc Try.prog w 0 spare held 35 (.slice a len cap) y0.1 y0.2 := ⟨m, by simpa [Value.cells] using h0⟩
    obtain ⟨l, rfl, -, h3, h4, h5⟩ := rows_list (by omega) icell_len (open_rows (Q := fun cs => ∃ x, cs = icell x ∧ True) Try.underlying35 (show Try.prog.cellsOf 3 = 1 by kernel_rfl) (by decide) isInt ht)
    simp only [List.cons.injEq, and_true] at g1
    subst g1
    injection g2 with g2 g3
    injection g3 with g3
    subst g2; subst g3
    exact ⟨⟨l, a, cap, b, d⟩, rfl, ⟨h3, h4, h5, hd⟩⟩
section
variable {H : Type} {enc : TypeId × Value → H} {w : World} {spare : Nat → Bool} {held : Bool}
set_option maxRecDepth 100000 in
theorem open_net {v : Value} {d : DataW H} {p : List MemPlace} {r : Reach} {b0 : Nat} (hv : Value.okWide Try.prog w r b0 25 v) (h : DataW.Trod enc Try.prog w 0 spare held 25 v d p) :
    ∃ n : PNet, v = nval n ∧ NetAt w w.heap.size n := by
  obtain ⟨c0, c1, y0, y1, m, rfl, -, -, h0, h1⟩ := Joins.open_agg2 Try.underlying25 (by kernel_rfl) (show Try.prog.cellsOf 25 = 2 by kernel_rfl) hv h
  have hc0 : ∃ a len cap, c0 = .slice a len cap := by
    rcases open_slice Try.underlying22 h0 with ⟨hcs, _⟩ | ⟨x, l, c', m, k, D, Pl, hcs, _⟩
    · simp at hcs; exact ⟨_, _, _, hcs⟩
    · simp at hcs; exact ⟨_, _, _, hcs⟩
  have hc1 : ∃ a len cap, c1 = .slice a len cap := by
    rcases open_slice Try.underlying23 h1 with ⟨hcs, _⟩ | ⟨x, l, c', m, k, D, Pl, hcs, _⟩
    · simp at hcs; exact ⟨_, _, _, hcs⟩
    · simp at hcs; exact ⟨_, _, _, hcs⟩
  obtain ⟨a, len, cap, rfl⟩ := hc0
  obtain ⟨a', len', cap', rfl⟩ := hc1
  have ht0 : DataW.Trod enc Try.prog w 0 spare held 22 (.slice a len cap) y0.1 y0.2 := ⟨m, by simpa [Value.cells] using h0⟩
  have ht1 : DataW.Trod enc Try.prog w 0 spare held 23 (.slice a' len' cap') y1.1 y1.2 := ⟨m, by simpa [Value.cells] using h1⟩
  obtain ⟨l, rfl, g1, g2, g3, g4⟩ := rows_list (by omega) ccell_len (open_rows (Q := fun cs => ∃ x, cs = ccell x ∧ (R64 x.n ∧ R64 x.d)) Try.underlying22 (show Try.prog.cellsOf 32 = 2 by kernel_rfl) (by decide) isRat ht0)
  obtain ⟨l', rfl, k1, k2, k3, k4⟩ := rows_list (by omega) fcell_len (open_rows (Q := fun cs => ∃ x, cs = fcell x ∧ FlowAt w w.heap.size x) Try.underlying23 (show Try.prog.cellsOf 37 = 4 by kernel_rfl) (by decide) isFlow ht1)
  exact ⟨⟨l, a, cap, l', a', cap'⟩, rfl, ⟨g2, k2, k1, g1, ⟨g3, g4⟩, ⟨k3, k4⟩⟩⟩
end
end Go.Proofs.Ytjalegdfofogcaa
namespace Go.Proofs.Ytjalegdfofogcaa
set_option linter.unusedVariables false
set_option linter.unusedSimpArgs false
open Go.RowKit Go.ChangeShapes Go.WideShapes Go.Deep
theorem isFlag {H : Type} {enc : TypeId × Value → H} {w : World} {spare : Nat → Bool} {held : Bool} (n : Nat) (cs : List Value) (y : DataW H × List MemPlace) (hl : cs.length = 1)
    (h : DataW.trod enc Try.prog w 0 spare held n 4 cs = some y) : ∃ x : Bool, cs = boolc x ∧ True := by
  match cs, hl with
  | [c0], _ =>
    obtain ⟨x, e0, _⟩ := DataW.trod_bool Try.underlying4 h
    simp at e0
    subst e0
    exact ⟨x, rfl, trivial⟩
section
variable {H : Type} {enc : TypeId × Value → H} {w : World} {spare : Nat → Bool} {held : Bool}
set_option maxRecDepth 100000 in
theorem open_rats {v : Value} {d : DataW H} {p : List MemPlace} {r : Reach} {b0 : Nat} (hv : Value.okWide Try.prog w r b0 22 v) (h : DataW.Trod enc Try.prog w 0 spare held 22 v d p) :
    ∃ (l : List Rq) (A : Option Addr) (kap : Nat), v = .slice A l.length kap ∧ (RowsAt w w.heap.size 2 ccell A l ∧ ∀ x ∈ l, R64 x.n ∧ R64 x.d) := by
  obtain ⟨a, len, cap, rfl⟩ := okWide_slice Try.underlying22 hv
  obtain ⟨l, rfl, g1, g2, g3, g4⟩ := rows_list (by omega) ccell_len (open_rows (Q := fun cs => ∃ x, cs = ccell x ∧ (R64 x.n ∧ R64 x.d)) Try.underlying22 (show Try.prog.cellsOf 32 = 2 by kernel_rfl) (by decide) isRat h)
  exact ⟨l, a, cap, rfl, g2, g1⟩
set_option maxRecDepth 100000 in
theorem open_flags {v : Value} {d : DataW H} {p : List MemPlace} {r : Reach} {b0 : Nat} (hv : Value.okWide Try.prog w r b0 47 v) (h : DataW.Trod enc Try.prog w 0 spare held 47 v d p) :
    ∃ (l : List Bool) (A : Option Addr) (kap : Nat), v = .slice A l.length kap ∧ RowsAt w w.heap.size 1 boolc A l := by
  obtain ⟨a, len, cap, rfl⟩ := okWide_slice Try.underlying47 hv
  obtain ⟨l, rfl, g1, g2, g3, g4⟩ := rows_list (by omega) boolc_len (open_rows (Q := fun cs => ∃ x, cs = boolc x ∧ True) Try.underlying47 (show Try.prog.cellsOf 4 = 1 by kernel_rfl) (by decide) isFlag h)
  exact ⟨l, a, cap, rfl, g2⟩
set_option maxRecDepth 100000 in
theorem open_rat {v : Value} {d : DataW H} {p : List MemPlace} {r : Reach} {b0 : Nat} (hv : Value.okWide Try.prog w r b0 32 v) (h : DataW.Trod enc Try.prog w 0 spare held 32 v d p) :
    ∃ x : Rq, v = rqv x ∧ (R64 x.n ∧ R64 x.d) := by
  obtain ⟨c0, c1, y0, y1, m, rfl, -, -, h0, h1⟩ := Joins.open_agg2 Try.underlying32 (by kernel_rfl) (show Try.prog.cellsOf 32 = 2 by kernel_rfl) hv h
  obtain ⟨x, g0, _, w0⟩ := DataW.trod_int Try.underlying3 h0
  obtain ⟨z, g1, _, w1⟩ := DataW.trod_int Try.underlying3 h1
  simp only [List.cons.injEq, and_true] at g0 g1
  subst g0; subst g1
  exact ⟨⟨x, z⟩, rfl, bounds_i64 w0, bounds_i64 w1⟩
end
end Go.Proofs.Ytjalegdfofogcaa
