/- Segment: how lists of segments that come in lie in memory. -/
import Derived.Test.YtdhajibegkkeiaaBase
import Derived.Deep.Strs
namespace Go.Proofs.Ytdhajibegkkeiaa
set_option linter.unusedVariables false
set_option linter.unusedSimpArgs false
open Go.RowKit Go.ChangeShapes Go.WideShapes Go.Deep
def IsSeg (w : World) (cs : List Value) : Prop := ∃ q : PSeg, cs = [.int .i64 q.s.off, .slice q.A q.s.data.length q.kap, .bool q.s.last] ∧ SegAt w w.heap.size q.s q.A q.kap
theorem isSeg {H : Type} {enc : TypeId × Value → H} {w : World} {spare : Nat → Bool} {held : Bool} (n : Nat) (cs : List Value) (y : DataW H × List MemPlace) (hl : cs.length = 3)
    (h : DataW.trod enc Try.prog w 0 spare held n 24 cs = some y) : IsSeg w cs := by
  match cs, hl with
  | [c0, c1, c2], _ =>
    obtain ⟨y0, y1, y2, m, -, -, h0, h1, h2⟩ := trod_struct3 Try.underlying24 h
    have e0 : Try.prog.cellsOf 3 = 1 := by kernel_rfl
    have e1 : Try.prog.cellsOf 22 = 1 := by kernel_rfl
    have e2 : Try.prog.cellsOf 4 = 1 := by kernel_rfl
    simp [e0, e1, e2] at h0 h1 h2
    obtain ⟨x, g0, _, _⟩ := DataW.trod_int Try.underlying3 h0
    obtain ⟨b, g2, _⟩ := DataW.trod_bool Try.underlying4 h2
    obtain ⟨A, kap, l, rfl, l1, l2, l3, l4⟩ := open_cell h1
    simp only [List.cons.injEq, and_true] at g0 g2
    subst g0; subst g2
    exact ⟨⟨⟨x, l, b⟩, A, kap⟩, rfl, ⟨l2, l1, l3, l4⟩⟩
theorem plist_of (P : Nat → PSeg → Prop) (n : Nat) (h : ∀ i, i < n → ∃ x, P i x) : ∃ l : List PSeg, l.length = n ∧ ∀ i p, l[i]? = some p → P i p := by
  induction n with
  | zero => exact ⟨[], rfl, fun i p hp => by simp at hp⟩
  | succ n ih =>
    obtain ⟨l, hl, hp⟩ := ih fun i hi => h i (by omega)
    obtain ⟨x, hx⟩ := h n (by omega)
    refine ⟨l ++ [x], by simp [hl], fun i p hq => ?_⟩
    by_cases e : i < n
    · rw [List.getElem?_append_left (by omega)] at hq
      exact hp i p hq
    · rw [List.getElem?_append_right (by omega), hl] at hq
      have : i - n = 0 := by
        have := (List.getElem?_eq_some_iff.1 hq).1
        simp at this; omega
      rw [this] at hq
      simp at hq
      subst hq
      obtain rfl : i = n := by omega
      exact hx
theorem open_segs {H : Type} {enc : TypeId × Value → H} {w : World} {spare : Nat → Bool} {held : Bool} {v : Value} {d : DataW H} {p : List MemPlace} {r : Reach} {b0 : Nat} (hv : Value.okWide Try.prog w r b0 34 v) (h : DataW.Trod enc Try.prog w 0 spare held 34 v d p) :
    ∃ (A : Option Addr) (kap : Nat) (l : List PSeg), v = .slice A l.length kap ∧ SegsAt w w.heap.size A l ∧ l.length ≤ kap ∧ kap ≤ maxLen := by
  obtain ⟨a, len, cap, rfl⟩ := okWide_slice Try.underlying34 hv
  obtain ⟨h1, h2, h3⟩ := open_rows (Q := IsSeg w) Try.underlying34 (show Try.prog.cellsOf 24 = 3 by kernel_rfl) (by decide) isSeg h
  rcases Nat.eq_zero_or_pos len with h0 | h0
  · subst h0
    exact ⟨a, cap, [], rfl, ⟨⟨rfl, fun hn => absurd hn (by simp)⟩, fun p hp => by simp at hp⟩, h1, h2⟩
  · obtain ⟨b, off, rfl, hb, hc⟩ := h3 h0
    obtain ⟨l, hl, hp⟩ := plist_of (fun i q => SegAt w w.heap.size q.s q.A q.kap ∧ w.cell? ⟨b, off + i * 3 + 0, none⟩ = some (.int .i64 q.s.off) ∧ w.cell? ⟨b, off + i * 3 + 1, none⟩ = some (.slice q.A q.s.data.length q.kap) ∧ w.cell? ⟨b, off + i * 3 + 2, none⟩ = some (.bool q.s.last)) len fun i hi => by
      obtain ⟨cs, ⟨q, rfl, hq⟩, hcell⟩ := hc i hi
      exact ⟨q, hq, hcell 0 _ rfl, hcell 1 _ rfl, hcell 2 _ rfl⟩
    subst hl
    refine ⟨_, cap, l, rfl, ⟨⟨scells_len l, fun _ => ⟨_, rfl, hb, fun j u hu => ?_⟩⟩, fun p hpm => ?_⟩, h1, h2⟩
    · have hj : j < l.length * 3 := by have := (List.getElem?_eq_some_iff.1 hu).1; rwa [scells_len] at this
      obtain ⟨q, hq⟩ := get_some (l := l) (k := j / 3) (by omega)
      obtain ⟨g1, g2, g3⟩ := scells_get hq
      obtain ⟨-, k1, k2, k3⟩ := hp _ _ hq
      have hadd : (⟨b, off, none⟩ : Addr).add j = ⟨b, off + j, none⟩ := by unfold Addr.add; split <;> simp_all
      rw [hadd]
      have hj3 : j = j / 3 * 3 ∨ j = j / 3 * 3 + 1 ∨ j = j / 3 * 3 + 2 := by omega
      rcases hj3 with e | e | e
      · rw [e] at hu; rw [hu] at g1; injection g1 with g1; subst g1
        rw [e]; exact k1
      · rw [e] at hu; rw [hu] at g2; injection g2 with g2; subst g2
        rw [e, ← Nat.add_assoc]; exact k2
      · rw [e] at hu; rw [hu] at g3; injection g3 with g3; subst g3
        rw [e, ← Nat.add_assoc]; exact k3
    · obtain ⟨i, hi⟩ := List.getElem?_of_mem hpm
      exact (hp i p hi).1
end Go.Proofs.Ytdhajibegkkeiaa
