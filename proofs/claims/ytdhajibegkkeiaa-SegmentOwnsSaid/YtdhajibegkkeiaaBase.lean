/- The closed facts of the program that every frame of this seat asks, and how segments that come in lie in memory. -/
import Derived.Test.YtdhajibegkkeiaaRows
import Derived.Test.YtdhajibegkkeiaaOpen
import Derived.Test.YtdhajibegkkeiaaAwake
namespace Go.Proofs.Ytdhajibegkkeiaa
set_option linter.unusedVariables false
set_option linter.unusedSimpArgs false
open Go.RowKit Go.ChangeShapes Go.WideShapes Go.Deep
theorem own : ownKnob Try.prog.godebug = none := by kernel_rfl
theorem laidOut : laidOutB Try.prog = true := by kernel_rfl
def IsByte (cs : List Value) : Prop := ∃ x : Int, cs = [.int .u8 x] ∧ 0 ≤ x ∧ x ≤ 255
theorem isByte {H : Type} {enc : TypeId × Value → H} {w : World} {base : Nat} {spare : Nat → Bool} {held : Bool} (n : Nat) (cs : List Value) (y : DataW H × List MemPlace) (hl : cs.length = 1)
    (h : DataW.trod enc Try.prog w base spare held n 5 cs = some y) : IsByte cs := by
  match cs, hl with
  | [c0], _ =>
    obtain ⟨x, e0, _, w0⟩ := DataW.trod_int Try.underlying5 h
    simp at e0
    subst e0
    exact ⟨x, rfl, bounds_u8 w0⟩
theorem list_of (P : Nat → Int → Prop) (n : Nat) (h : ∀ i, i < n → ∃ x, P i x) : ∃ l : List Int, l.length = n ∧ ∀ i, i < n → P i (l.getD i 0) := by
  induction n with
  | zero => exact ⟨[], rfl, fun i hi => absurd hi (by omega)⟩
  | succ n ih =>
    obtain ⟨l, hl, hp⟩ := ih fun i hi => h i (by omega)
    obtain ⟨x, hx⟩ := h n (by omega)
    refine ⟨l ++ [x], by simp [hl], fun i hi => ?_⟩
    by_cases e : i < n
    · have := hp i e
      rwa [List.getD_eq_getElem?_getD, List.getElem?_append_left (by omega), ← List.getD_eq_getElem?_getD]
    · obtain rfl : i = n := by omega
      rw [List.getD_eq_getElem?_getD, List.getElem?_append_right (by omega), hl]; simpa using hx
theorem rows_bytes {w : World} {a : Option Addr} {len cap : Nat} (h : IsRows w 1 IsByte a len cap) : ∃ l : List Int, l.length = len ∧ Bytes l ∧ Reads w w.heap.size 1 a len (bv l) ∧ len ≤ cap ∧ cap ≤ maxLen := by
  obtain ⟨h1, h2, h3⟩ := h
  rcases Nat.eq_zero_or_pos len with h0 | h0
  · subst h0; exact ⟨[], rfl, fun x hx => by simp at hx, ⟨by simp [bv], fun h => absurd h (by omega)⟩, h1, h2⟩
  · obtain ⟨b, off, rfl, hb, hc⟩ := h3 h0
    obtain ⟨l, hl, hp⟩ := list_of (fun i x => (0 ≤ x ∧ x ≤ 255) ∧ w.cell? ⟨b, off + i, none⟩ = some (.int .u8 x)) len fun i hi => by
      obtain ⟨cs, ⟨x, rfl, x0, x1⟩, hcell⟩ := hc i hi
      exact ⟨x, ⟨x0, x1⟩, by have := hcell 0 _ rfl; simpa using this⟩
    refine ⟨l, hl, fun x hx => ?_, ⟨by simp [bv, hl], fun _ => ⟨_, rfl, hb, fun j u hu => ?_⟩⟩, h1, h2⟩
    · obtain ⟨i, hi, rfl⟩ := List.getElem_of_mem hx
      have := (hp i (by omega)).1
      rwa [List.getD_eq_getElem?_getD, List.getElem?_eq_getElem hi] at this
    · have hj : j < l.length := by
        have := (List.getElem?_eq_some_iff.1 hu).1; simpa [bv] using this
      rw [bv_get hj] at hu
      injection hu with hu
      subst hu
      have := (hp j (by omega)).2
      unfold Addr.add
      split
      · rename_i h; subst h; simpa using this
      · exact this
section
variable {H : Type} {enc : TypeId × Value → H} {w : World} {spare : Nat → Bool} {held : Bool}
theorem open_bytes {v : Value} {d : DataW H} {p : List MemPlace} {r : Reach} {b0 : Nat} (hv : Value.okWide Try.prog w r b0 22 v) (h : DataW.Trod enc Try.prog w 0 spare held 22 v d p) :
    ∃ (A : Option Addr) (kap : Nat) (l : List Int), v = .slice A l.length kap ∧ Bytes l ∧ Reads w w.heap.size 1 A l.length (bv l) ∧ l.length ≤ kap ∧ kap ≤ maxLen := by
  obtain ⟨a, len, cap, rfl⟩ := okWide_slice Try.underlying22 hv
  obtain ⟨l, rfl, h1, h2, h3, h4⟩ := rows_bytes (open_rows Try.underlying22 (show Try.prog.cellsOf 5 = 1 by kernel_rfl) (by decide) isByte h)
  exact ⟨a, cap, l, rfl, h1, h2, h3, h4⟩
theorem open_cell {c : Value} {n : Nat} {y : DataW H × List MemPlace} (h : DataW.trod enc Try.prog w 0 spare held n 22 [c] = some y) :
    ∃ (A : Option Addr) (kap : Nat) (l : List Int), c = .slice A l.length kap ∧ Bytes l ∧ Reads w w.heap.size 1 A l.length (bv l) ∧ l.length ≤ kap ∧ kap ≤ maxLen := by
  have hc : ∃ a len cap, c = .slice a len cap := by
    rcases open_slice Try.underlying22 h with ⟨hcs, _⟩ | ⟨x, l, c', m, k, D, Pl, hcs, _⟩
    · simp at hcs; exact ⟨_, _, _, hcs⟩
    · simp at hcs; exact ⟨_, _, _, hcs⟩
  obtain ⟨a, len, cap, rfl⟩ := hc
  have ht : DataW.Trod enc Try.prog w 0 spare held 22 (.slice a len cap) y.1 y.2 := ⟨n, by simpa [Value.cells] using h⟩
  obtain ⟨l, rfl, h1, h2, h3, h4⟩ := rows_bytes (open_rows Try.underlying22 (show Try.prog.cellsOf 5 = 1 by kernel_rfl) (by decide) isByte ht)
  exact ⟨a, cap, l, rfl, h1, h2, h3, h4⟩
theorem open_seg {v : Value} {d : DataW H} {p : List MemPlace} {r : Reach} {b0 : Nat} (hv : Value.okWide Try.prog w r b0 24 v) (h : DataW.Trod enc Try.prog w 0 spare held 24 v d p) :
    ∃ q : PSeg, v = pval q ∧ SegAt w w.heap.size q.s q.A q.kap ∧ (-9223372036854775808 ≤ q.s.off ∧ q.s.off ≤ 9223372036854775807) := by
  obtain ⟨c0, c1, c2, y0, y1, y2, m, rfl, -, -, h0, h1, h2⟩ := Joins.open_agg3 Try.underlying24 (by kernel_rfl) (show Try.prog.cellsOf 24 = 3 by kernel_rfl) hv h
  obtain ⟨x, e0, _, w0⟩ := DataW.trod_int Try.underlying3 h0
  obtain ⟨b, e2, _⟩ := DataW.trod_bool Try.underlying4 h2
  obtain ⟨A, kap, l, rfl, l1, l2, l3, l4⟩ := open_cell h1
  simp only [List.cons.injEq, and_true] at e0 e2
  subst e0; subst e2
  exact ⟨⟨⟨x, l, b⟩, A, kap⟩, rfl, ⟨l2, l1, l3, l4⟩, bounds_i64 w0⟩
end
end Go.Proofs.Ytdhajibegkkeiaa
