/- Segment: the walks of the reference's Byte and Contradict. -/
import Derived.Test.YtdhajibegkkeiaaSplit
import Derived.Test.YtdhajibegkkeiaaPlainK
namespace Go.Proofs.Ytdhajibegkkeiaa
set_option linter.unusedVariables false
set_option linter.unusedSimpArgs false
open Go.RowKit
def byteP (s : Seg) (o : Int) : Int := (s.at? o).getD (-1)
theorem byteP_out {s : Seg} {o : Int} (h : o < s.off ∨ s.fin ≤ o) : byteP s o = -1 := by unfold byteP; rw [at_none.2 h]; rfl
theorem byteP_in {s : Seg} {o : Int} (h1 : s.off ≤ o) (h2 : o < s.fin) : byteP s o = s.data.getD (o - s.off).toNat 0 := by
  unfold byteP; rw [at_iff.2 ⟨h1, h2, rfl⟩]; rfl
set_option maxHeartbeats 4000000 in
theorem byte_c (p : PSeg) (o : Int) (w : World) (h : SegAt w w.heap.size p.s p.A p.kap) (hv : validB p.s = true) (o1 : -9223372036854775808 ≤ o) (o2 : o ≤ 9223372036854775807) :
    Calls Try.prog 31 #[pval p, .int .i64 o] w fun e w' => e = .returned (.int .i64 (byteP p.s o)) ∧ Below w.heap.size w w' := by
  obtain ⟨x1, x2, x3⟩ := valid_iff.1 hv
  have x4 : (p.s.data.length : Int) ≤ 64 := by omega
  have x5 : (0 : Int) ≤ p.s.data.length := by omega
  have HS := Kept.mk h
  clear h hv
  unfold pval
  have hcase : o < p.s.off ∨ (¬ o < p.s.off ∧ p.s.off + p.s.data.length ≤ o) ∨ (p.s.off ≤ o ∧ ¬ o < p.s.off ∧ o < p.s.off + p.s.data.length ∧ ¬ p.s.off + p.s.data.length ≤ o) := by omega
  rcases hcase with y1 | ⟨y1, y2⟩ | ⟨y1, y2, y3, y4⟩
  · have HO := Kept.mk (byteP_out (s := p.s) (.inl y1))
    go_enter Try.func31, Try.ntmps31
    go_wp2_with fail
    go_ret
    exact ⟨ret_int HO.out.symm, by go_grown⟩
  · have HO := Kept.mk (byteP_out (s := p.s) (o := o) (.inr y2))
    go_enter Try.func31, Try.ntmps31
    go_wp2_with fail
    go_ret
    exact ⟨ret_int HO.out.symm, by go_grown⟩
  · have HO := Kept.mk (byteP_in (s := p.s) y1 y3)
    obtain ⟨i, hi⟩ : ∃ i : Nat, o = p.s.off + i := ⟨(o - p.s.off).toNat, by omega⟩
    have hil : i < p.s.data.length := by omega
    obtain ⟨b, off, e, -, hb, c1, c2, c3⟩ := HS.out.byte hil
    obtain ⟨x, HX⟩ : ∃ x, Kept (p.s.data.getD i 0 = x) := ⟨_, ⟨rfl⟩⟩
    rw [HX.out] at c1 c2 c3
    have HE := Kept.mk e
    have HG : Kept (p.s.data.getD (o - p.s.off).toNat 0 = p.s.data.getD i 0) := ⟨by rw [show (o - p.s.off).toNat = i by omega]⟩
    rw [e]
    subst hi
    have hi1 : (i : Int) < p.s.data.length := by omega
    have hi0 : (0 : Int) ≤ i := by omega
    have e1 : p.s.off + (i : Int) - p.s.off = i := by omega
    clear e
    go_enter Try.func31, Try.ntmps31
    go_wp2_with fail
    go_ret
    exact ⟨ret_int (by rw [HO.out, HG.out, HX.out]), by go_grown⟩
theorem getD_in {l : List Int} {i : Nat} (h : i < l.length) : ∃ x, l.getD i 0 = x := ⟨_, rfl⟩
/-- Two segments contradict each other. -/
def Contra (a b : Seg) : Prop := (a.last = true ∧ a.fin < b.fin) ∨ (b.last = true ∧ b.fin < a.fin) ∨ ∃ o x y, a.at? o = some x ∧ b.at? o = some y ∧ x ≠ y
/-- No byte so far stands against b. -/
def Peace (a b : Seg) (i : Nat) : Prop := ∀ j, j < i → byteP b (a.off + j) = -1 ∨ byteP b (a.off + j) = a.data.getD j 0
theorem byteP_range {s : Seg} (h : Bytes s.data) (o : Int) : byteP s o = -1 ∨ (0 ≤ byteP s o ∧ byteP s o ≤ 255 ∧ s.at? o = some (byteP s o)) := by
  unfold byteP
  cases hk : s.at? o with
  | none => left; rfl
  | some x =>
    right
    obtain ⟨h1, h2, h3⟩ := at_iff.1 hk
    have := h.at_ (i := (o - s.off).toNat) (by unfold Seg.fin at h2; omega)
    rw [h3] at this
    exact ⟨this.1, this.2, rfl⟩
theorem contra_at {a b : Seg} {i : Nat} (hb : Bytes b.data) (hi : i < a.data.length) (h1 : byteP b (a.off + i) ≠ -1) (h2 : byteP b (a.off + i) ≠ a.data.getD i 0) : Contra a b := by
  rcases byteP_range hb (a.off + i) with h | ⟨_, _, h⟩
  · exact absurd h h1
  · exact .inr (.inr ⟨a.off + i, a.data.getD i 0, byteP b (a.off + i), at_iff.2 ⟨by omega, by unfold Seg.fin; omega, by rw [show (a.off + (i : Int) - a.off).toNat = i by omega]⟩, h, fun e => h2 e.symm⟩)
theorem not_contra {a b : Seg} (h1 : ¬ (a.last = true ∧ a.fin < b.fin)) (h2 : ¬ (b.last = true ∧ b.fin < a.fin)) (hp : Peace a b a.data.length) (hb : Bytes b.data) : ¬ Contra a b := by
  rintro (h | h | ⟨o, x, y, hx, hy, hne⟩)
  · exact h1 h
  · exact h2 h
  · obtain ⟨g1, g2, g3⟩ := at_iff.1 hx
    have hj := hp (o - a.off).toNat (by unfold Seg.fin at g2; omega)
    rw [show a.off + ((o - a.off).toNat : Int) = o by omega] at hj
    have hby : byteP b o = y := by unfold byteP; rw [hy]; rfl
    obtain ⟨k1, k2, k3⟩ := at_iff.1 hy
    have := hb.at_ (i := (o - b.off).toNat) (by unfold Seg.fin at k2; omega)
    rw [k3] at this
    rw [hby, g3] at hj
    rcases hj with hj | hj
    · omega
    · exact hne hj.symm
end Go.Proofs.Ytdhajibegkkeiaa
