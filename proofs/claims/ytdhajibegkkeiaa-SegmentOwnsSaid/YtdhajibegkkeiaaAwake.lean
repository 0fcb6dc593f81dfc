/- Segment: the walk of the statements' awake. -/
import Derived.Test.YtdhajibegkkeiaaSplit
import Derived.Test.YtdhajibegkkeiaaEnc
import Derived.Lib.SlBytesConst
namespace Go.Proofs.Ytdhajibegkkeiaa
set_option linter.unusedVariables false
set_option linter.unusedSimpArgs false
open Go.RowKit
theorem segs3 {ps : List PSeg} {a b c : Seg} (h : segs ps = [a, b, c]) : ∃ A0 k0 A1 k1 A2 k2, ps = [⟨a, A0, k0⟩, ⟨b, A1, k1⟩, ⟨c, A2, k2⟩] := by
  match ps, h with
  | [p0, p1, p2], h =>
    simp only [segs, List.map_cons, List.map_nil, List.cons.injEq, and_true] at h
    obtain ⟨rfl, rfl, rfl⟩ := h
    exact ⟨_, _, _, _, _, _, rfl⟩
theorem reads_marked (w : World) (l : List Int) (r : Nat × Nat) : Reads (w.alloc (.cells (bv l).toArray 5 r)) (w.heap.size + 1) 1 (some ⟨w.heap.size, 0, none⟩) l.length (bv l) :=
  ⟨by rw [bv_len]; simp, fun _ => ⟨_, rfl, Nat.lt_succ_self _, fun j u hu => by
    have hadd : (⟨w.heap.size, 0, none⟩ : Addr).add j = ⟨w.heap.size, j, none⟩ := by unfold Addr.add; split <;> simp_all
    have hh : (w.alloc (.cells (bv l).toArray 5 r)).heap[w.heap.size]? = some (.cells (bv l).toArray 5 r) := heap_alloc_new w _
    rw [hadd, cell_of_row _ _ j _ _ _ hh]
    simpa using hu⟩⟩
set_option maxRecDepth 100000 in
set_option maxHeartbeats 4000000 in
theorem awake_c (w : World) : Calls Try.prog 11 #[] w fun e w' => e = .returned (.bool true) ∧ Below w.heap.size w w' := by
  have HL : Kept (Reads (w.alloc (.cells #[.int .u8 104, .int .u8 101, .int .u8 108, .int .u8 108, .int .u8 111] 5 (5, 6))) (w.heap.size + 1) 1 (some ⟨w.heap.size, 0, none⟩) 5 (bv [104, 101, 108, 108, 111])) := ⟨reads_marked w [104, 101, 108, 108, 111] (5, 6)⟩
  have HB : Kept (Bytes [104, 101, 108, 108, 111]) := ⟨by intro x hx; simp at hx; omega⟩
  have HP : Kept (splitP [104, 101, 108, 108, 111] 10 2 true = [⟨10, [104, 101], false⟩, ⟨12, [108, 108], false⟩, ⟨14, [111], true⟩]) := ⟨by decide⟩
  have HE : Kept (splitE ([104, 101, 108, 108, 111] : List Int).length 10 2 true = 0) := ⟨by decide⟩
  have hs : strOfNums [108, 108] = { data := #[108, 108] } := rfl
  have hs2 : strOfNums [1, 0, 0, 0, 0, 0, 14, 1, 111] = { data := #[1, 0, 0, 0, 0, 0, 14, 1, 111] } := rfl
  have hcv := fun (w : World) (C : Array Value) (n c : Nat) => Lib.run_convert_bytes_const (P := Try.prog) w 22 5 C n c Try.underlying22 Try.underlying5
  go_enter Try.func11, Try.ntmps11
  have EV : Kept ((if validB (⟨14, [111], true⟩ : Seg) = true then (0 : Int) else 1) = 0) := ⟨by decide⟩
  have EP : Kept (encP ⟨14, [111], true⟩ = [1, 0, 0, 0, 0, 0, 14, 1, 111]) := ⟨by decide⟩
  go_wp2_with (first | (go_at_call 18; go_must (refine (split_c [104, 101, 108, 108, 111] _ 5 10 2 true _ (w.heap.size + 1) HL.out HB.out (by decide) (by unfold maxLen; omega) (by simp) (by decide)).mono ?_); rintro e w1 ⟨v, ps, rfl, ho1, hb1⟩; rw [HE.out]; rw [HP.out] at ho1; obtain ⟨A0, k0, A1, k1, A2, k2, rfl⟩ := segs3 ho1.eq; obtain ⟨A, kk, rfl⟩ := own_slice ho1.row; have HO1 := Kept.mk ho1; have HJ := Kept.mk (join (w := w) ((Below.refl _ _).alloc (Nat.le_refl _) _) hb1); obtain ⟨-, SA⟩ := ho1.at_; obtain ⟨q1, b1, f1, e1, rfl, hb1', hl1, c1, c2, c3, g1⟩ := SA.at_ (k := 1) (by simp); obtain ⟨q2, b2, f2, e2, e3, hb2', hl2, d1, d2, d3, g2⟩ := SA.at_ (k := 2) (by simp); cases e1; cases e2; cases e3; have kv : (convert 22 9 (.slice A1 2 k1)).run Try.prog w1 = .ok (.string { data := #[108, 108] }) w1 := conv_reads (P := Try.prog) (kap := k1) (xs := [108, 108]) 22 5 9 Try.underlying22 Try.underlying5 Try.underlying9 g1.rd; have G2 := Kept.mk g2; clear ho1 hb1 SA g1 g2) | (go_at_call 12; go_must (refine (encode_c ⟨⟨14, [111], true⟩, A2, k2⟩ _ _ G2.out (Nat.le_refl _)).mono ?_); rintro e w2 ⟨v2, rfl, hby2, ho2, hb2⟩; rw [EV.out]; rw [EP.out] at ho2; obtain ⟨A3, m3, rfl⟩ := own_slice ho2; have kv2 : (convert 22 9 (.slice A3 9 m3)).run Try.prog w2 = .ok (.string { data := #[1, 0, 0, 0, 0, 0, 14, 1, 111] }) w2 := conv_reads (P := Try.prog) (kap := m3) (xs := [1, 0, 0, 0, 0, 0, 14, 1, 111]) 22 5 9 Try.underlying22 Try.underlying5 Try.underlying9 (Reads.of_own ho2); have HJ2 := Kept.mk (join HJ.out hb2); clear ho2 hb2 hby2))
  go_ret
  exact ⟨rfl, HJ2.out⟩
end Go.Proofs.Ytdhajibegkkeiaa
