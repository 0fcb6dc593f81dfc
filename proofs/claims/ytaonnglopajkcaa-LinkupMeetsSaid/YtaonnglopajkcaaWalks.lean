/- Linkup: what each method of a side does, over a side that is one block of seven cells; nothing else that was there is written. Counts of changes are below 2^62, counts of silent ticks too. -/
import Derived.Test.YtaonnglopajkcaaProg
import Derived.Test.YtaonnglopajkcaaPlain
import Derived.Test.YtaonnglopajkcaaKit
namespace Go.Proofs.Ytaonnglopajkcaa
set_option linter.unusedVariables false
open Go.RowKit
def cells (s : Sd) : Array Value := #[.int .i64 s.mine, .int .i64 s.dead, .int .i64 s.peer, .int .i64 s.seen, .int .i64 s.state, .int .i64 s.silent, .int .i64 s.changes]
abbrev Side (w : World) (b : Nat) (s : Sd) : Prop := Blk w b 56 (cells s)
theorem Side.all {w : World} {b : Nat} {s : Sd} (h : Side w b s) : w.cell? ⟨b, 0, none⟩ = some (.int .i64 s.mine) ∧ w.cell? ⟨b, 1, none⟩ = some (.int .i64 s.dead) ∧ w.cell? ⟨b, 2, none⟩ = some (.int .i64 s.peer) ∧ w.cell? ⟨b, 3, none⟩ = some (.int .i64 s.seen) ∧ w.cell? ⟨b, 4, none⟩ = some (.int .i64 s.state) ∧ w.cell? ⟨b, 5, none⟩ = some (.int .i64 s.silent) ∧ w.cell? ⟨b, 6, none⟩ = some (.int .i64 s.changes) :=
  ⟨h.cell 0 rfl, h.cell 1 rfl, h.cell 2 rfl, h.cell 3 rfl, h.cell 4 rfl, h.cell 5 rfl, h.cell 6 rfl⟩
theorem ok_c (n : Int) (w : World) : Calls Try.prog 22 #[.int .i64 n] w fun e w' => e = .returned (.bool (okB n)) ∧ w = w' := by
  go_enter Try.func22, Try.ntmps22
  go_wp2
  all_goals go_ret
  all_goals exact ⟨ret_bool (by simp [okB]; omega), rfl⟩
/-- become changes something. -/
theorem bec_yes (s : Sd) (st p : Int) (w : World) (b : Nat) (h : Side w b s) (hc : 0 ≤ s.changes) (hc2 : s.changes < 4611686018427387904) (hb : becB s st p = true) :
    Calls Try.prog 23 #[.pointer (some ⟨b, 0, none⟩), .int .i64 st, .int .i64 p] w fun e w' => e = .returned (.bool true) ∧ Side w' b { s with state := st, peer := p, changes := s.changes + 1 } ∧ Only b w w' := by
  obtain ⟨h0, h1, h2, h3, h4, h5, h6⟩ := h.all
  have f4 := h.free 4
  have f2 := h.free 2
  have f6 := h.free 6
  have hlt := h.lt
  have hB : ∀ W, Side W b s → Side (((W.setCell ⟨b, 4, none⟩ (.int .i64 st)).setCell ⟨b, 2, none⟩ (.int .i64 p)).setCell ⟨b, 6, none⟩ (.int .i64 (s.changes + 1))) b { s with state := st, peer := p, changes := s.changes + 1 } :=
    fun W hW => ((hW.set_ 4 _).set_ 2 _).to 6 _ rfl
  have HB := hid hB; clear hB
  have H := hid h; clear h
  by_cases e1 : s.state = st
  · have e2 : (s.peer == p) = false := by simpa [becB, e1] using hb
    have e1' : (s.state == st) = true := by simpa using e1
    clear hb e1
    go_enter Try.func23, Try.ntmps23
    go_wp2
    go_ret
    exact ⟨rfl, HB.out _ H.out, (((Only.refl _ _).set _ _).set _ _).set _ _⟩
  · have e1' : (s.state == st) = false := by simpa using e1
    clear hb e1
    go_enter Try.func23, Try.ntmps23
    go_wp2
    go_ret
    exact ⟨rfl, HB.out _ H.out, (((Only.refl _ _).set _ _).set _ _).set _ _⟩
theorem bec_no (s : Sd) (st p : Int) (w : World) (b : Nat) (h : Side w b s) (hb : becB s st p = false) :
    Calls Try.prog 23 #[.pointer (some ⟨b, 0, none⟩), .int .i64 st, .int .i64 p] w fun e w' => e = .returned (.bool false) ∧ w = w' := by
  obtain ⟨h0, h1, h2, h3, h4, h5, h6⟩ := h.all
  have hlt := h.lt
  obtain ⟨e1, e2⟩ : s.state = st ∧ s.peer = p := by simpa [becB] using hb
  have e1' : (s.state == st) = true := by simpa using e1
  have e2' : (s.peer == p) = true := by simpa using e2
  clear hb e1 e2
  go_enter Try.func23, Try.ntmps23
  go_wp2
  go_ret
  exact ⟨rfl, rfl⟩
theorem bec_c (s : Sd) (st p : Int) (w : World) (b : Nat) (h : Side w b s) (hc : 0 ≤ s.changes) (hc2 : s.changes < 4611686018427387904) :
    Calls Try.prog 23 #[.pointer (some ⟨b, 0, none⟩), .int .i64 st, .int .i64 p] w fun e w' => e = .returned (.bool (becB s st p)) ∧ Side w' b (bec s st p) ∧ Only b w w' := by
  cases hb : becB s st p with
  | true => simpa [bec, hb] using bec_yes s st p w b h hc hc2 hb
  | false =>
    refine (bec_no s st p w b h hb).mono ?_
    rintro e w' ⟨rfl, rfl⟩
    exact ⟨rfl, by simpa [bec, hb] using h, Only.refl _ _⟩
end Go.Proofs.Ytaonnglopajkcaa
