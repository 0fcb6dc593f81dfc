/- Segment: the walk of Cut where it refuses; the whole contract. -/
import Derived.Test.YtdhajibegkkeiaaCut
namespace Go.Proofs.Ytdhajibegkkeiaa
set_option linter.unusedVariables false
set_option linter.unusedSimpArgs false
open Go.RowKit
theorem fill6z {w W : World} {b c : Nat} {t : TypeId} {cs ds : Array Value} (hb : Blk W b t cs) (hc : Blk W c t ds) (hs : cs.size = 3) (hs2 : ds.size = 3) (hne : b ≠ c) (h1 : w.heap.size ≤ b) (h2 : w.heap.size ≤ c) (h : Below w.heap.size w W) {x y z x' y' z' : Value} :
    Blk ((((((W.setCell ⟨b, 0, none⟩ x).setCell ⟨b, 1, none⟩ y).setCell ⟨b, 2, none⟩ z).setCell ⟨c, 0, none⟩ x').setCell ⟨c, 1, none⟩ y').setCell ⟨c, 2, none⟩ z') b t #[x, y, z] ∧
    Blk ((((((W.setCell ⟨b, 0, none⟩ x).setCell ⟨b, 1, none⟩ y).setCell ⟨b, 2, none⟩ z).setCell ⟨c, 0, none⟩ x').setCell ⟨c, 1, none⟩ y').setCell ⟨c, 2, none⟩ z') c t #[x', y', z'] ∧
    Below w.heap.size w ((((((W.setCell ⟨b, 0, none⟩ x).setCell ⟨b, 1, none⟩ y).setCell ⟨b, 2, none⟩ z).setCell ⟨c, 0, none⟩ x').setCell ⟨c, 1, none⟩ y').setCell ⟨c, 2, none⟩ z') := by
  obtain ⟨l⟩ := cs
  obtain ⟨m⟩ := ds
  match l, hs, m, hs2 with
  | [a0, a1, a2], _, [b0, b1, b2], _ =>
    obtain ⟨f1, f2, f3, f4⟩ := fill6 (w := w) (x := x) (y := y) (z := z) (x' := x') (y' := y') (z' := z') hb hc hne
    exact ⟨f1, f2, f4 h1 h2 h⟩
theorem cutE_bad {s : Seg} {i : Int} (h : validB s = false) : cutE s i = 1 := by unfold cutE; rw [h]; simp
theorem cutE_out {s : Seg} {i : Int} (h : validB s = true) (hi : i < 0 ∨ (s.data.length : Int) < i) : cutE s i = 2 := by unfold cutE; rw [if_pos h, if_pos hi]
set_option maxHeartbeats 4000000 in
theorem cut_none (p : PSeg) (i : Int) (x : Int) (w : World) (B : Nat) (h : SegAt w B p.s p.A p.kap) (hB : B ≤ w.heap.size) (hx : (validB p.s = false ∧ x = 1) ∨ (validB p.s = true ∧ (i < 0 ∨ (p.s.data.length : Int) < i) ∧ x = 2)) :
    Calls Try.prog 28 #[pval p, .int .i64 i] w (Cuts w p.s i) := by
  have hm := Nat.le_trans h.le h.max
  have hmx := hm
  unfold maxLen at hmx
  clear h
  unfold pval
  rcases hx with ⟨hv, rfl⟩ | ⟨hv, hi, rfl⟩
  · have HE := Kept.mk (cutE_bad (i := i) hv)
    have HV := Kept.mk hv
    clear hv
    go_enter Try.func28, Try.ntmps28
    go_wp2_with (go_at_call 14; refine (valid_c p.s p.A p.kap _ hm).mono ?_; rintro e w1 ⟨rfl, hb1⟩; rw [HV.out]; have HJ := Kept.mk (join (w := w) (by go_grown) hb1); have HB := Kept.mk (boxes3 hb1); have HZ := Kept.mk (size3 hb1); clear hb1; have c0 := HB.out.2.1.cell 0 (v := .int .i64 0) rfl; have c1 := HB.out.2.1.cell 1 (v := .slice none 0 0) rfl; have c2 := HB.out.2.1.cell 2 (v := .bool false) rfl; have f0 := HB.out.2.1.free 0; have f1 := HB.out.2.1.free 1; have f2 := HB.out.2.1.free 2; have d0 := HB.out.2.2.cell 0 (v := .int .i64 0) rfl; have d1 := HB.out.2.2.cell 1 (v := .slice none 0 0) rfl; have d2 := HB.out.2.2.cell 2 (v := .bool false) rfl; have g0 := HB.out.2.2.free 0; have g1 := HB.out.2.2.free 1; have g2 := HB.out.2.2.free 2; have n5 : w.heap.size + 1 ≠ w.heap.size + 1 + 1 := (by omega); have n6 : w.heap.size + 1 + 1 ≠ w.heap.size + 1 := (by omega))
    obtain ⟨f1, f2, bb⟩ := fill6z (w := w) (x := .int .i64 0) (y := .slice none 0 0) (z := .bool false) (x' := .int .i64 0) (y' := .slice none 0 0) (z' := .bool false) HB.out.2.1 HB.out.2.2 rfl rfl n5 (by omega) (by omega) HJ.out
    generalize World.setCell _ _ _ = WF at *
    have v0 := f1.cell 0 (v := .int .i64 0) rfl
    have v1 := f1.cell 1 (v := .slice none 0 0) rfl
    have v2 := f1.cell 2 (v := .bool false) rfl
    have u0 := f2.cell 0 (v := .int .i64 0) rfl
    have u1 := f2.cell 1 (v := .slice none 0 0) rfl
    have u2 := f2.cell 2 (v := .bool false) rfl
    exact bodyPost_ret (v := .tuple #[.agg #[.int .i64 0, .slice none 0 0, .bool false], .agg #[.int .i64 0, .slice none 0 0, .bool false], .int .i64 1]) (by simp [results, Try.results28, go_sem, v0, v1, v2, u0, u1, u2]) rfl (cuts_zero HE.out (by decide) bb)
  · have HE := Kept.mk (cutE_out hv hi)
    have HV := Kept.mk hv
    clear hv
    have hi' : i < 0 ∨ (0 ≤ i ∧ ¬ i < 0 ∧ (p.s.data.length : Int) < i) := by omega
    clear hi
    rcases hi' with hi | ⟨hi0, hi1, hi2⟩
    · have e0 : decide (i < 0) = true := by simpa using hi
      have e0' : (!decide (i < 0)) = false := by simpa using hi
      go_enter Try.func28, Try.ntmps28
      go_wp2_with (go_at_call 14; refine (valid_c p.s p.A p.kap _ hm).mono ?_; rintro e w1 ⟨rfl, hb1⟩; rw [HV.out]; have HJ := Kept.mk (join (w := w) (by go_grown) hb1); have HB := Kept.mk (boxes3 hb1); have HZ := Kept.mk (size3 hb1); clear hb1; have k1 := HB.out.1.cell 1 (v := .slice p.A p.s.data.length p.kap) rfl; have c0 := HB.out.2.1.cell 0 (v := .int .i64 0) rfl; have c1 := HB.out.2.1.cell 1 (v := .slice none 0 0) rfl; have c2 := HB.out.2.1.cell 2 (v := .bool false) rfl; have f0 := HB.out.2.1.free 0; have f1 := HB.out.2.1.free 1; have f2 := HB.out.2.1.free 2; have d0 := HB.out.2.2.cell 0 (v := .int .i64 0) rfl; have d1 := HB.out.2.2.cell 1 (v := .slice none 0 0) rfl; have d2 := HB.out.2.2.cell 2 (v := .bool false) rfl; have g0 := HB.out.2.2.free 0; have g1 := HB.out.2.2.free 1; have g2 := HB.out.2.2.free 2; have n5 : w.heap.size + 1 ≠ w.heap.size + 1 + 1 := (by omega); have n6 : w.heap.size + 1 + 1 ≠ w.heap.size + 1 := (by omega))
      obtain ⟨f1, f2, bb⟩ := fill6z (w := w) (x := .int .i64 0) (y := .slice none 0 0) (z := .bool false) (x' := .int .i64 0) (y' := .slice none 0 0) (z' := .bool false) HB.out.2.1 HB.out.2.2 rfl rfl n5 (by omega) (by omega) HJ.out
      generalize World.setCell _ _ _ = WF at *
      have v0 := f1.cell 0 (v := .int .i64 0) rfl
      have v1 := f1.cell 1 (v := .slice none 0 0) rfl
      have v2 := f1.cell 2 (v := .bool false) rfl
      have u0 := f2.cell 0 (v := .int .i64 0) rfl
      have u1 := f2.cell 1 (v := .slice none 0 0) rfl
      have u2 := f2.cell 2 (v := .bool false) rfl
      exact bodyPost_ret (v := .tuple #[.agg #[.int .i64 0, .slice none 0 0, .bool false], .agg #[.int .i64 0, .slice none 0 0, .bool false], .int .i64 2]) (by simp [results, Try.results28, go_sem, v0, v1, v2, u0, u1, u2]) rfl (cuts_zero HE.out (by decide) bb)
    · have e0 : decide (i < 0) = false := by simpa using hi1
      go_enter Try.func28, Try.ntmps28
      go_wp2_with (go_at_call 14; refine (valid_c p.s p.A p.kap _ hm).mono ?_; rintro e w1 ⟨rfl, hb1⟩; rw [HV.out]; have HJ := Kept.mk (join (w := w) (by go_grown) hb1); have HB := Kept.mk (boxes3 hb1); have HZ := Kept.mk (size3 hb1); clear hb1; have k1 := HB.out.1.cell 1 (v := .slice p.A p.s.data.length p.kap) rfl; have c0 := HB.out.2.1.cell 0 (v := .int .i64 0) rfl; have c1 := HB.out.2.1.cell 1 (v := .slice none 0 0) rfl; have c2 := HB.out.2.1.cell 2 (v := .bool false) rfl; have f0 := HB.out.2.1.free 0; have f1 := HB.out.2.1.free 1; have f2 := HB.out.2.1.free 2; have d0 := HB.out.2.2.cell 0 (v := .int .i64 0) rfl; have d1 := HB.out.2.2.cell 1 (v := .slice none 0 0) rfl; have d2 := HB.out.2.2.cell 2 (v := .bool false) rfl; have g0 := HB.out.2.2.free 0; have g1 := HB.out.2.2.free 1; have g2 := HB.out.2.2.free 2; have n5 : w.heap.size + 1 ≠ w.heap.size + 1 + 1 := (by omega); have n6 : w.heap.size + 1 + 1 ≠ w.heap.size + 1 := (by omega))
      obtain ⟨f1, f2, bb⟩ := fill6z (w := w) (x := .int .i64 0) (y := .slice none 0 0) (z := .bool false) (x' := .int .i64 0) (y' := .slice none 0 0) (z' := .bool false) HB.out.2.1 HB.out.2.2 rfl rfl n5 (by omega) (by omega) HJ.out
      generalize World.setCell _ _ _ = WF at *
      have v0 := f1.cell 0 (v := .int .i64 0) rfl
      have v1 := f1.cell 1 (v := .slice none 0 0) rfl
      have v2 := f1.cell 2 (v := .bool false) rfl
      have u0 := f2.cell 0 (v := .int .i64 0) rfl
      have u1 := f2.cell 1 (v := .slice none 0 0) rfl
      have u2 := f2.cell 2 (v := .bool false) rfl
      exact bodyPost_ret (v := .tuple #[.agg #[.int .i64 0, .slice none 0 0, .bool false], .agg #[.int .i64 0, .slice none 0 0, .bool false], .int .i64 2]) (by simp [results, Try.results28, go_sem, v0, v1, v2, u0, u1, u2]) rfl (cuts_zero HE.out (by decide) bb)
theorem cut_c (p : PSeg) (i : Int) (w : World) (B : Nat) (h : SegAt w B p.s p.A p.kap) (hB : B ≤ w.heap.size) :
    Calls Try.prog 28 #[pval p, .int .i64 i] w (Cuts w p.s i) := by
  cases hv : validB p.s with
  | false => exact cut_none p i 1 w B h hB (.inl ⟨hv, rfl⟩)
  | true =>
    by_cases hi : i < 0 ∨ (p.s.data.length : Int) < i
    · exact cut_none p i 2 w B h hB (.inr ⟨hv, hi, rfl⟩)
    · have := cut_some p i.toNat w B h hB hv (by omega)
      rwa [show (i.toNat : Int) = i by omega] at this
end Go.Proofs.Ytdhajibegkkeiaa
