/- The closed facts of the program that every frame of this seat asks, and how what comes in lies in memory. -/
import Derived.Test.YtibmbhnpmfgclaaRows
import Derived.Test.YtibmbhnpmfgclaaRAwake
import Derived.Deep.Strs
namespace Go.Proofs.Ytibmbhnpmfgclaa
set_option linter.unusedVariables false
set_option linter.unusedSimpArgs false
open Go.RowKit Go.ChangeShapes Go.WideShapes Go.Deep
theorem own : ownKnob Try.prog.godebug = none := by kernel_rfl
theorem laidOut : laidOutB Try.prog = true := by kernel_rfl
theorem I64.of {x : Int} (h : (Lit.int .i64 x).wf = true) : I64 x := bounds_i64 h
theorem cM : Try.prog.cellsOf 39 = 4 := by kernel_rfl
/-- An operation. -/
structure Opn where
  kind : Int
  n : Int
  m : Mg
deriving Inhabited
def ocell (o : Opn) : List Value := [.int .i64 o.kind, .int .i64 o.n, .int .i64 o.m.kind, .int .i64 o.m.frm, .int .i64 o.m.to_, .int .i64 o.m.ep]
theorem ocell_len (o : Opn) : (ocell o).length = 6 := rfl
def MgOk (m : Mg) : Prop := I64 m.kind ∧ I64 m.frm ∧ I64 m.to_ ∧ I64 m.ep
def OpOk (o : Opn) : Prop := I64 o.kind ∧ I64 o.n ∧ MgOk o.m
section
variable {H : Type} {enc : TypeId × Value → H} {w : World} {base : Nat} {spare : Nat → Bool} {held : Bool}
theorem isInt (n : Nat) (cs : List Value) (y : DataW H × List MemPlace) (hl : cs.length = 1) (h : DataW.trod enc Try.prog w base spare held n 3 cs = some y) : ∃ x : Int, cs = icell x ∧ I64 x := by
  match cs, hl with
  | [c0], _ =>
    obtain ⟨x, e0, _, w0⟩ := DataW.trod_int Try.underlying3 h
    simp at e0
    subst e0
    exact ⟨x, rfl, I64.of w0⟩
theorem isByte (n : Nat) (cs : List Value) (y : DataW H × List MemPlace) (hl : cs.length = 1) (h : DataW.trod enc Try.prog w base spare held n 5 cs = some y) : ∃ x : Nat, cs = ucell x ∧ x ≤ 255 := by
  match cs, hl with
  | [c0], _ =>
    obtain ⟨x, e0, _, w0⟩ := DataW.trod_int Try.underlying5 h
    have hb := bounds_u8 w0
    obtain ⟨k, rfl⟩ : ∃ k : Nat, x = k := ⟨x.toNat, by omega⟩
    simp at e0
    subst e0
    exact ⟨k, rfl, by omega⟩
theorem isMg (n : Nat) (cs : List Value) (y : DataW H × List MemPlace) (hl : cs.length = 4) (h : DataW.trod enc Try.prog w base spare held n 39 cs = some y) : ∃ x : Mg, cs = mcell x ∧ MgOk x := by
  match cs, hl with
  | [k0, k1, k2, k3], _ =>
    obtain ⟨ys, m, _, _, _, hyl, hf⟩ := DataW.trod_struct Try.underlying39 h
    have f0 := hf 0 _ rfl
    have f1 := hf 1 _ rfl
    have f2 := hf 2 _ rfl
    have f3 := hf 3 _ rfl
    simp [cells3] at f0 f1 f2 f3 hyl
    rw [List.getElem?_eq_getElem (by omega)] at f0 f1 f2 f3
    obtain ⟨a, e0, _, w0⟩ := DataW.trod_int Try.underlying3 f0
    obtain ⟨b, e1, _, w1⟩ := DataW.trod_int Try.underlying3 f1
    obtain ⟨c, e2, _, w2⟩ := DataW.trod_int Try.underlying3 f2
    obtain ⟨d, e3, _, w3⟩ := DataW.trod_int Try.underlying3 f3
    simp at e0 e1 e2 e3
    subst e0 e1 e2 e3
    exact ⟨⟨a, b, c, d⟩, rfl, I64.of w0, I64.of w1, I64.of w2, I64.of w3⟩
theorem isOp (n : Nat) (cs : List Value) (y : DataW H × List MemPlace) (hl : cs.length = 6) (h : DataW.trod enc Try.prog w base spare held n 56 cs = some y) : ∃ x : Opn, cs = ocell x ∧ OpOk x := by
  match cs, hl with
  | [k0, k1, k2, k3, k4, k5], _ =>
    obtain ⟨ys, m, _, _, _, hyl, hf⟩ := DataW.trod_struct Try.underlying56 h
    have f0 := hf 0 _ rfl
    have f1 := hf 1 _ rfl
    have f2 := hf 2 _ rfl
    simp [cells3, cM] at f0 f1 f2 hyl
    rw [List.getElem?_eq_getElem (by omega)] at f0 f1 f2
    obtain ⟨a, e0, _, w0⟩ := DataW.trod_int Try.underlying3 f0
    obtain ⟨b, e1, _, w1⟩ := DataW.trod_int Try.underlying3 f1
    obtain ⟨x, e2, w2⟩ := isMg _ _ _ rfl f2
    simp [mcell] at e0 e1 e2
    obtain ⟨e2, e3, e4, e5⟩ := e2
    subst e0 e1 e2 e3 e4 e5
    exact ⟨⟨a, b, x⟩, rfl, I64.of w0, I64.of w1, w2⟩
end
section
variable {H : Type} {enc : TypeId × Value → H} {w : World} {spare : Nat → Bool} {held : Bool}
set_option maxRecDepth 100000 in
theorem open_ints_ {v : Value} {d : DataW H} {p : List MemPlace} {r : Reach} {b0 : Nat} (hv : Value.okWide Try.prog w r b0 22 v) (h : DataW.Trod enc Try.prog w 0 spare held 22 v d p) :
    ∃ (A : Option Addr) (kap : Nat) (l : List Int), v = .slice A l.length kap ∧ RowsAt w w.heap.size 1 icell A l ∧ (∀ x ∈ l, I64 x) ∧ l.length ≤ kap ∧ kap ≤ maxLen := by
  obtain ⟨a, len, cap, rfl⟩ := okWide_slice Try.underlying22 hv
  obtain ⟨l, rfl, h1, h2, h3, h4⟩ := rows_list (sz := 1) (Nat.zero_lt_succ 0) icell_len (open_rows Try.underlying22 cells3 (by decide) isInt h)
  exact ⟨a, cap, l, rfl, h2, h1, h3, h4⟩
set_option maxRecDepth 100000 in
theorem open_bytes_ {v : Value} {d : DataW H} {p : List MemPlace} {r : Reach} {b0 : Nat} (hv : Value.okWide Try.prog w r b0 48 v) (h : DataW.Trod enc Try.prog w 0 spare held 48 v d p) :
    ∃ (A : Option Addr) (kap : Nat) (l : List Nat), v = .slice A l.length kap ∧ RowsAt w w.heap.size 1 ucell A l ∧ (∀ x ∈ l, x ≤ 255) ∧ l.length ≤ kap ∧ kap ≤ maxLen := by
  obtain ⟨a, len, cap, rfl⟩ := okWide_slice Try.underlying48 hv
  obtain ⟨l, rfl, h1, h2, h3, h4⟩ := rows_list (sz := 1) (Nat.zero_lt_succ 0) ucell_len (open_rows Try.underlying48 (show Try.prog.cellsOf 5 = 1 by kernel_rfl) (by decide) isByte h)
  exact ⟨a, cap, l, rfl, h2, h1, h3, h4⟩
set_option maxRecDepth 100000 in
theorem open_ops_ {v : Value} {d : DataW H} {p : List MemPlace} {r : Reach} {b0 : Nat} (hv : Value.okWide Try.prog w r b0 49 v) (h : DataW.Trod enc Try.prog w 0 spare held 49 v d p) :
    ∃ (A : Option Addr) (kap : Nat) (l : List Opn), v = .slice A l.length kap ∧ RowsAt w w.heap.size 6 ocell A l ∧ (∀ x ∈ l, OpOk x) ∧ l.length ≤ kap ∧ kap ≤ maxLen := by
  obtain ⟨a, len, cap, rfl⟩ := okWide_slice Try.underlying49 hv
  obtain ⟨l, rfl, h1, h2, h3, h4⟩ := rows_list (sz := 6) (Nat.zero_lt_succ 5) ocell_len (open_rows Try.underlying49 (show Try.prog.cellsOf 56 = 6 by kernel_rfl) (by decide) isOp h)
  exact ⟨a, cap, l, rfl, h2, h1, h3, h4⟩
end
end Go.Proofs.Ytibmbhnpmfgclaa
