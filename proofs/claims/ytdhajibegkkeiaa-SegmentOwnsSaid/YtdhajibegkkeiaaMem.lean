/- Segment: lists of segments in memory. No program in sight. -/
import Derived.Test.YtdhajibegkkeiaaPlainJ
namespace Go.Proofs.Ytdhajibegkkeiaa
set_option linter.unusedVariables false
set_option linter.unusedSimpArgs false
open Go.RowKit
/-- A segment and where its bytes lie. -/
structure PSeg where
  s : Seg
  A : Option Addr
  kap : Nat
def segs (l : List PSeg) : List Seg := l.map (·.s)
def scells (l : List PSeg) : List Value := l.flatMap fun p => [.int .i64 p.s.off, .slice p.A p.s.data.length p.kap, .bool p.s.last]
theorem segs_len (l : List PSeg) : (segs l).length = l.length := by simp [segs]
theorem segs_app (l m : List PSeg) : segs (l ++ m) = segs l ++ segs m := by simp [segs]
theorem segs_get {l : List PSeg} {i : Nat} {p : PSeg} (h : l[i]? = some p) : (segs l)[i]? = some p.s := by simp [segs, h]
theorem segs_take (l : List PSeg) (k : Nat) : segs (l.take k) = (segs l).take k := by simp [segs, List.map_take]
theorem scells_cons (p : PSeg) (l : List PSeg) : scells (p :: l) = .int .i64 p.s.off :: .slice p.A p.s.data.length p.kap :: .bool p.s.last :: scells l := rfl
theorem scells_app (l m : List PSeg) : scells (l ++ m) = scells l ++ scells m := by simp [scells]
theorem scells_len (l : List PSeg) : (scells l).length = l.length * 3 := by
  induction l with
  | nil => rfl
  | cons m l ih => simp [scells_cons, ih]; omega
theorem scells_get {l : List PSeg} {i : Nat} {p : PSeg} (h : l[i]? = some p) : (scells l)[i * 3]? = some (.int .i64 p.s.off) ∧ (scells l)[i * 3 + 1]? = some (.slice p.A p.s.data.length p.kap) ∧ (scells l)[i * 3 + 2]? = some (.bool p.s.last) := by
  induction l generalizing i with
  | nil => simp at h
  | cons a l ih =>
    cases i with
    | zero => simp at h; subst h; simp [scells_cons]
    | succ i =>
      have := ih (i := i) (by simpa using h)
      rw [show (i + 1) * 3 = i * 3 + 3 by omega]
      simpa [scells_cons] using this
theorem scells_one {l : List PSeg} : ∀ u ∈ scells l, u.oneCell' = true := by
  intro u hu
  simp only [scells, List.mem_flatMap] at hu
  obtain ⟨m, _, hm⟩ := hu
  simp at hm
  rcases hm with rfl | rfl | rfl <;> rfl
theorem get_some {α : Type} {l : List α} {k : Nat} (h : k < l.length) : ∃ x, l[k]? = some x := ⟨l[k], List.getElem?_eq_getElem h⟩
theorem take_next {α : Type} {l : List α} {k : Nat} {x : α} (h : l[k]? = some x) : l.take (k + 1) = l.take k ++ [x] := by
  rw [List.take_add_one, h]; rfl
structure SegsAt (w : World) (B : Nat) (A : Option Addr) (l : List PSeg) : Prop where
  rd : Reads w B 3 A l.length (scells l)
  seg : ∀ p ∈ l, SegAt w B p.s p.A p.kap
section
variable {w w' : World} {B B' : Nat} {A : Option Addr} {l : List PSeg}
theorem SegsAt.keep (h : SegsAt w B A l) (hk : ∀ p : Addr, p.block < B → w'.cell? p = w.cell? p) : SegsAt w' B A l := ⟨h.rd.keep hk, fun p hp => ⟨(h.seg p hp).rd.keep hk, (h.seg p hp).by_, (h.seg p hp).le, (h.seg p hp).max⟩⟩
theorem SegsAt.below (h : SegsAt w B A l) (hb : Below B w w') : SegsAt w' B A l := h.keep fun _ hp => hb.cell hp
theorem SegsAt.more (h : SegsAt w B A l) (hB : B ≤ B') : SegsAt w B' A l := ⟨h.rd.more hB, fun p hp => (h.seg p hp).more hB⟩
theorem SegsAt.at_ (h : SegsAt w B A l) {k : Nat} (hk : k < l.length) : ∃ p b off, l[k]? = some p ∧ A = some ⟨b, off, none⟩ ∧ b < B ∧ b < w.heap.size ∧
    w.cell? ⟨b, off + k * 3, none⟩ = some (.int .i64 p.s.off) ∧ w.cell? ⟨b, off + k * 3 + 1, none⟩ = some (.slice p.A p.s.data.length p.kap) ∧ w.cell? ⟨b, off + k * 3 + 2, none⟩ = some (.bool p.s.last) ∧ SegAt w B p.s p.A p.kap := by
  obtain ⟨p, hp⟩ := get_some hk
  obtain ⟨b, off, e, h1, h2, hc⟩ := h.rd.spot (by omega) (by omega)
  obtain ⟨g1, g2, g3⟩ := scells_get hp
  exact ⟨p, b, off, hp, e, h1, h2, hc _ _ g1, by have := hc _ _ g2; rwa [← Nat.add_assoc] at this, by have := hc _ _ g3; rwa [← Nat.add_assoc] at this, h.seg p (List.mem_of_getElem? hp)⟩
end
theorem SegAt.byte {w : World} {B : Nat} {s : Seg} {A : Option Addr} {kap : Nat} (h : SegAt w B s A kap) {i : Nat} (hi : i < s.data.length) : ∃ b off, A = some ⟨b, off, none⟩ ∧ b < B ∧ b < w.heap.size ∧ w.cell? ⟨b, off + i, none⟩ = some (.int .u8 (s.data.getD i 0)) ∧ 0 ≤ s.data.getD i 0 ∧ s.data.getD i 0 ≤ 255 := by
  obtain ⟨b, off, e, h1, h2, hc⟩ := h.rd.spot (by omega) (by omega)
  exact ⟨b, off, e, h1, h2, hc _ _ (bv_get hi), h.by_.at_ hi⟩
end Go.Proofs.Ytdhajibegkkeiaa
