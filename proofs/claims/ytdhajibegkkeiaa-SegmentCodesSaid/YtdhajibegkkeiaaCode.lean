/- Segment: the walk of the reference's Code (printed by gen_code.py). -/
import Derived.Test.YtdhajibegkkeiaaSplit
import Derived.Test.YtdhajibegkkeiaaEnc
namespace Go.Proofs.Ytdhajibegkkeiaa
set_option linter.unusedVariables false
set_option linter.unusedSimpArgs false
open Go.RowKit
theorem Blk.grown_ {w w' : World} {g : Nat} {t : TypeId} {cs : Array Value} {row : Option Nat} (h : Blk w g t cs) (hb : w.grownBy w' row) (hg : some g ≠ row) : Blk w' g t cs := (hb.block g h.lt hg).trans h
/-- The world of a round. -/
structure CodeW (w : World) (p : PSeg) (n : Nat) (v : Value) (wr : World) : Prop where
  box : Blk wr w.heap.size 24 #[.int .i64 p.s.off, .slice p.A p.s.data.length p.kap, .bool p.s.last]
  row : wr.ownsRow (w.heap.size + 1) 5 1 v n (bv ((headP p.s).take n))
  below : Below w.heap.size w wr
theorem CodeW.add {w wr w3 : World} {p : PSeg} {n : Nat} {v v3 : Value} {x : Int} (h : CodeW w p n v wr) (hx : (headP p.s).take (n + 1) = (headP p.s).take n ++ [x]) (o : Obj) (hg : (wr.alloc o).grownBy w3 v.ownBlock) (ho : w3.ownsRow (w.heap.size + 1) 5 1 v3 (n + 1) (bv ((headP p.s).take n) ++ bv [x])) : CodeW w p (n + 1) v3 w3 := by
  have hl := h.box.lt
  refine ⟨(h.box.alloc o).grown_ hg (fun e => ?_), by rw [hx, bv_app]; exact ho, (h.below.alloc h.below.size o).grown hg (by have := h.below.size; simp only [World.size_alloc]; omega) (fun g hg' => ?_)⟩
  · have := (h.row.lt _ e.symm).1
    omega
  · have := (h.row.lt _ hg').1
    omega
set_option maxRecDepth 100000 in
set_option maxHeartbeats 8000000 in
theorem refCode_c (p : PSeg) (w : World) (B : Nat) (h : SegAt w B p.s p.A p.kap) (hB : B ≤ w.heap.size) (hv : validB p.s = true) :
    Calls Try.prog 16 #[pval p] w fun e w' => ∃ v, e = .returned v ∧ w'.ownsRow w.heap.size 5 1 v (8 + p.s.data.length) (bv (codeP p.s)) ∧ Below w.heap.size w w' := by
  obtain ⟨ii, hii, hz0, hz1, hz2⟩ := info_parts info5
  obtain ⟨x1, x2, x3⟩ := valid_iff.1 hv
  have x4 : (p.s.data.length : Int) ≤ 64 := by omega
  have x5 : (0 : Int) ≤ p.s.data.length := by omega
  have x6 : p.s.off ≤ 1099511627776 := by omega
  have HS := Kept.mk h
  clear h hv
  unfold pval
  rcases hls : p.s.last with _ | _
  · have HH : Kept (headP p.s = [0, p.s.off / 1099511627776, p.s.off / 4294967296 % 256, p.s.off / 16777216 % 256, p.s.off / 65536 % 256, p.s.off / 256 % 256, p.s.off % 256, p.s.data.length]) := ⟨by unfold headP; rw [hls]; rfl⟩
    have HLS := Kept.mk hls
    have HW0 : Kept (CodeW w p 0 (.slice none 0 0) (w.alloc (.cells #[.int .i64 p.s.off, .slice p.A p.s.data.length p.kap, .bool false] 24))) := ⟨⟨by rw [hls]; exact Blk.new _ _ _, World.ownsRow_nil _ _ _ _, (Below.refl _ _).alloc (Nat.le_refl _) _⟩⟩
    clear hls
    have hz9 := HW0.out.below.size
    go_enter Try.func16, Try.ntmps16
    go_wp2_with (at_builtin; go_must (refine wpList_append_any _ rfl (.tmp 10) (.tmp 11) 22 rfl (w.heap.size + 1) 5 ii _ 1 1 Try.underlying22 hii hz0 hz1 hz2 rfl (by omega) _ 0 _ rfl (HW0.out.row.alloc _) _ (some ⟨w.heap.size + 1, 0, none⟩) 1 1 (bv [0]) rfl (by have hh := lit8_reads (w.alloc (.cells #[.int .i64 p.s.off, .slice p.A p.s.data.length p.kap, .bool false] 24)) [0] (by simp); rw [World.size_alloc w] at hh; exact hh) (bv_one _) (by unfold maxLen; omega) (by omega) (by have := HW0.out.box.lt; simp only [World.size_alloc]; omega) ?_); intro v1 w1 ho1 hg1 _; have HW1 := Kept.mk (HW0.out.add (x := 0) (by rw [HH.out]; rfl) _ hg1 (by simpa using ho1)); clear ho1 hg1)
    go_loopw [3, 4] (fun v3 v4 wr => ∃ i : Nat, i ≤ 6 ∧ Kept (v4 = .int .i64 (5 - (i : Int))) ∧ Kept (CodeW w p (1 + i) v3 wr)) (fun _ v4 _ => (intOf v4 + 1).toNat)
    case atStart => exact ⟨0, by omega, ⟨rfl⟩, HW1⟩
    case round =>
      clear HW1 HW0
      obtain ⟨i, hi, H4, HW⟩ := hrel
      have hcase : i = 0 ∨ i = 1 ∨ i = 2 ∨ i = 3 ∨ i = 4 ∨ i = 5 ∨ i = 6 := by omega
      have k0 := HW.out.box.cell 0 (v := .int .i64 p.s.off) rfl
      have k1 := HW.out.box.cell 1 (v := .slice p.A p.s.data.length p.kap) rfl
      have hlt := HW.out.box.lt
      rcases hcase with rfl | rfl | rfl | rfl | rfl | rfl | rfl
      · obtain rfl := H4.out.trans (show _ = Value.int .i64 5 from rfl)
        clear H4
        go_wp2_with (at_builtin; go_must (refine wpList_append_any _ rfl (.tmp 17) (.tmp 24) 22 rfl (w.heap.size + 1) 5 ii _ 1 1 Try.underlying22 hii hz0 hz1 hz2 rfl (by omega) _ (1 + 0) _ rfl (HW.out.row.alloc _) _ (some ⟨wr.heap.size, 0, none⟩) 1 1 (bv [p.s.off / 1099511627776]) rfl (lit8_reads wr [p.s.off / 1099511627776] (by simp)) (bv_one _) (by unfold maxLen; omega) (by omega) (by have := HW.out.box.lt; simp only [World.size_alloc]; omega) ?_); intro v2 w2 ho2 hg2 _; have HW2 := Kept.mk (HW.out.add (x := p.s.off / 1099511627776) (by rw [HH.out]; rfl) _ hg2 ho2); clear ho2 hg2)
        go_roundw
        case rel => exact ⟨1, by omega, ⟨rfl⟩, HW2⟩
        case measure => simp [intOf]
      · obtain rfl := H4.out.trans (show _ = Value.int .i64 4 from rfl)
        clear H4
        go_wp2_with (at_builtin; go_must (refine wpList_append_any _ rfl (.tmp 17) (.tmp 24) 22 rfl (w.heap.size + 1) 5 ii _ 1 1 Try.underlying22 hii hz0 hz1 hz2 rfl (by omega) _ (1 + 1) _ rfl (HW.out.row.alloc _) _ (some ⟨wr.heap.size, 0, none⟩) 1 1 (bv [p.s.off / 4294967296 % 256]) rfl (lit8_reads wr [p.s.off / 4294967296 % 256] (by simp)) (bv_one _) (by unfold maxLen; omega) (by omega) (by have := HW.out.box.lt; simp only [World.size_alloc]; omega) ?_); intro v2 w2 ho2 hg2 _; have HW2 := Kept.mk (HW.out.add (x := p.s.off / 4294967296 % 256) (by rw [HH.out]; rfl) _ hg2 ho2); clear ho2 hg2)
        go_roundw
        case rel => exact ⟨2, by omega, ⟨rfl⟩, HW2⟩
        case measure => simp [intOf]
      · obtain rfl := H4.out.trans (show _ = Value.int .i64 3 from rfl)
        clear H4
        go_wp2_with (at_builtin; go_must (refine wpList_append_any _ rfl (.tmp 17) (.tmp 24) 22 rfl (w.heap.size + 1) 5 ii _ 1 1 Try.underlying22 hii hz0 hz1 hz2 rfl (by omega) _ (1 + 2) _ rfl (HW.out.row.alloc _) _ (some ⟨wr.heap.size, 0, none⟩) 1 1 (bv [p.s.off / 16777216 % 256]) rfl (lit8_reads wr [p.s.off / 16777216 % 256] (by simp)) (bv_one _) (by unfold maxLen; omega) (by omega) (by have := HW.out.box.lt; simp only [World.size_alloc]; omega) ?_); intro v2 w2 ho2 hg2 _; have HW2 := Kept.mk (HW.out.add (x := p.s.off / 16777216 % 256) (by rw [HH.out]; rfl) _ hg2 ho2); clear ho2 hg2)
        go_roundw
        case rel => exact ⟨3, by omega, ⟨rfl⟩, HW2⟩
        case measure => simp [intOf]
      · obtain rfl := H4.out.trans (show _ = Value.int .i64 2 from rfl)
        clear H4
        go_wp2_with (at_builtin; go_must (refine wpList_append_any _ rfl (.tmp 17) (.tmp 24) 22 rfl (w.heap.size + 1) 5 ii _ 1 1 Try.underlying22 hii hz0 hz1 hz2 rfl (by omega) _ (1 + 3) _ rfl (HW.out.row.alloc _) _ (some ⟨wr.heap.size, 0, none⟩) 1 1 (bv [p.s.off / 65536 % 256]) rfl (lit8_reads wr [p.s.off / 65536 % 256] (by simp)) (bv_one _) (by unfold maxLen; omega) (by omega) (by have := HW.out.box.lt; simp only [World.size_alloc]; omega) ?_); intro v2 w2 ho2 hg2 _; have HW2 := Kept.mk (HW.out.add (x := p.s.off / 65536 % 256) (by rw [HH.out]; rfl) _ hg2 ho2); clear ho2 hg2)
        go_roundw
        case rel => exact ⟨4, by omega, ⟨rfl⟩, HW2⟩
        case measure => simp [intOf]
      · obtain rfl := H4.out.trans (show _ = Value.int .i64 1 from rfl)
        clear H4
        go_wp2_with (at_builtin; go_must (refine wpList_append_any _ rfl (.tmp 17) (.tmp 24) 22 rfl (w.heap.size + 1) 5 ii _ 1 1 Try.underlying22 hii hz0 hz1 hz2 rfl (by omega) _ (1 + 4) _ rfl (HW.out.row.alloc _) _ (some ⟨wr.heap.size, 0, none⟩) 1 1 (bv [p.s.off / 256 % 256]) rfl (lit8_reads wr [p.s.off / 256 % 256] (by simp)) (bv_one _) (by unfold maxLen; omega) (by omega) (by have := HW.out.box.lt; simp only [World.size_alloc]; omega) ?_); intro v2 w2 ho2 hg2 _; have HW2 := Kept.mk (HW.out.add (x := p.s.off / 256 % 256) (by rw [HH.out]; rfl) _ hg2 ho2); clear ho2 hg2)
        go_roundw
        case rel => exact ⟨5, by omega, ⟨rfl⟩, HW2⟩
        case measure => simp [intOf]
      · obtain rfl := H4.out.trans (show _ = Value.int .i64 0 from rfl)
        clear H4
        go_wp2_with (at_builtin; go_must (refine wpList_append_any _ rfl (.tmp 17) (.tmp 24) 22 rfl (w.heap.size + 1) 5 ii _ 1 1 Try.underlying22 hii hz0 hz1 hz2 rfl (by omega) _ (1 + 5) _ rfl (HW.out.row.alloc _) _ (some ⟨wr.heap.size, 0, none⟩) 1 1 (bv [p.s.off % 256]) rfl (lit8_reads wr [p.s.off % 256] (by simp)) (bv_one _) (by unfold maxLen; omega) (by omega) (by have := HW.out.box.lt; simp only [World.size_alloc]; omega) ?_); intro v2 w2 ho2 hg2 _; have HW2 := Kept.mk (HW.out.add (x := p.s.off % 256) (by rw [HH.out]; rfl) _ hg2 ho2); clear ho2 hg2)
        go_roundw
        case rel => exact ⟨6, by omega, ⟨rfl⟩, HW2⟩
        case measure => simp [intOf]
      · obtain rfl := H4.out.trans (show _ = Value.int .i64 (-1) from rfl)
        clear H4
        have HRD := fun (W : World) (hb : Below w.heap.size w W) => HS.out.rd.below (hb.mono hB)
        go_wp2_with (first | (at_builtin; have _t := HW; (refine wpList_append_any _ rfl (.tmp 26) (.tmp 31) 22 rfl (w.heap.size + 1) 5 ii _ 1 1 Try.underlying22 hii hz0 hz1 hz2 rfl (by omega) _ (1 + 6) _ rfl (HW.out.row.alloc _) _ (some ⟨wr.heap.size, 0, none⟩) 1 1 (bv [(p.s.data.length : Int)]) rfl (lit8_reads wr [(p.s.data.length : Int)] (by simp)) (bv_one _) (by unfold maxLen; omega) (by omega) (by have := HW.out.box.lt; simp only [World.size_alloc]; omega) ?_); intro v2 w2 ho2 hg2 _; have HW2 := Kept.mk (HW.out.add (x := p.s.data.length) (by rw [HH.out]; rfl) _ hg2 ho2); clear ho2 hg2; have j1 := HW2.out.box.cell 1 (v := .slice p.A p.s.data.length p.kap) rfl) | (at_builtin; go_must (refine wpList_append_any _ rfl (.tmp 33) (.tmp 35) 22 rfl (w.heap.size + 1) 5 ii _ 1 1 Try.underlying22 hii hz0 hz1 hz2 rfl (by omega) _ (1 + 6 + 1) _ rfl HW2.out.row B p.A p.s.data.length p.kap (bv p.s.data) rfl (HRD _ HW2.out.below) (bv_one _) (by unfold maxLen; omega) (by omega) (HW2.out.box.lt) ?_); intro v3 w3 ho3 hg3 _; have HO3 := Kept.mk ho3; have HJ3 : Kept (Below w.heap.size w w3) := ⟨HW2.out.below.grown hg3 HW2.out.below.size (fun g hg => by have := (HW2.out.row.lt g hg).1; omega)⟩; clear ho3 hg3))
        go_ret
        exact ⟨v3, rfl, by unfold codeP; rw [bv_app]; have e : headP p.s = (headP p.s).take (1 + 6 + 1) := (by rw [HH.out]; rfl); rw [e]; exact own_base HO3.out (by omega), HJ3.out⟩
  · have HH : Kept (headP p.s = [1, p.s.off / 1099511627776, p.s.off / 4294967296 % 256, p.s.off / 16777216 % 256, p.s.off / 65536 % 256, p.s.off / 256 % 256, p.s.off % 256, p.s.data.length]) := ⟨by unfold headP; rw [hls]; rfl⟩
    have HLS := Kept.mk hls
    have HW0 : Kept (CodeW w p 0 (.slice none 0 0) (w.alloc (.cells #[.int .i64 p.s.off, .slice p.A p.s.data.length p.kap, .bool true] 24))) := ⟨⟨by rw [hls]; exact Blk.new _ _ _, World.ownsRow_nil _ _ _ _, (Below.refl _ _).alloc (Nat.le_refl _) _⟩⟩
    clear hls
    have hz9 := HW0.out.below.size
    go_enter Try.func16, Try.ntmps16
    go_wp2_with (at_builtin; go_must (refine wpList_append_any _ rfl (.tmp 7) (.tmp 8) 22 rfl (w.heap.size + 1) 5 ii _ 1 1 Try.underlying22 hii hz0 hz1 hz2 rfl (by omega) _ 0 _ rfl (HW0.out.row.alloc _) _ (some ⟨w.heap.size + 1, 0, none⟩) 1 1 (bv [1]) rfl (by have hh := lit8_reads (w.alloc (.cells #[.int .i64 p.s.off, .slice p.A p.s.data.length p.kap, .bool true] 24)) [1] (by simp); rw [World.size_alloc w] at hh; exact hh) (bv_one _) (by unfold maxLen; omega) (by omega) (by have := HW0.out.box.lt; simp only [World.size_alloc]; omega) ?_); intro v1 w1 ho1 hg1 _; have HW1 := Kept.mk (HW0.out.add (x := 1) (by rw [HH.out]; rfl) _ hg1 (by simpa using ho1)); clear ho1 hg1)
    go_loopw [3, 4] (fun v3 v4 wr => ∃ i : Nat, i ≤ 6 ∧ Kept (v4 = .int .i64 (5 - (i : Int))) ∧ Kept (CodeW w p (1 + i) v3 wr)) (fun _ v4 _ => (intOf v4 + 1).toNat)
    case atStart => exact ⟨0, by omega, ⟨rfl⟩, HW1⟩
    case round =>
      clear HW1 HW0
      obtain ⟨i, hi, H4, HW⟩ := hrel
      have hcase : i = 0 ∨ i = 1 ∨ i = 2 ∨ i = 3 ∨ i = 4 ∨ i = 5 ∨ i = 6 := by omega
      have k0 := HW.out.box.cell 0 (v := .int .i64 p.s.off) rfl
      have k1 := HW.out.box.cell 1 (v := .slice p.A p.s.data.length p.kap) rfl
      have hlt := HW.out.box.lt
      rcases hcase with rfl | rfl | rfl | rfl | rfl | rfl | rfl
      · obtain rfl := H4.out.trans (show _ = Value.int .i64 5 from rfl)
        clear H4
        go_wp2_with (at_builtin; go_must (refine wpList_append_any _ rfl (.tmp 17) (.tmp 24) 22 rfl (w.heap.size + 1) 5 ii _ 1 1 Try.underlying22 hii hz0 hz1 hz2 rfl (by omega) _ (1 + 0) _ rfl (HW.out.row.alloc _) _ (some ⟨wr.heap.size, 0, none⟩) 1 1 (bv [p.s.off / 1099511627776]) rfl (lit8_reads wr [p.s.off / 1099511627776] (by simp)) (bv_one _) (by unfold maxLen; omega) (by omega) (by have := HW.out.box.lt; simp only [World.size_alloc]; omega) ?_); intro v2 w2 ho2 hg2 _; have HW2 := Kept.mk (HW.out.add (x := p.s.off / 1099511627776) (by rw [HH.out]; rfl) _ hg2 ho2); clear ho2 hg2)
        go_roundw
        case rel => exact ⟨1, by omega, ⟨rfl⟩, HW2⟩
        case measure => simp [intOf]
      · obtain rfl := H4.out.trans (show _ = Value.int .i64 4 from rfl)
        clear H4
        go_wp2_with (at_builtin; go_must (refine wpList_append_any _ rfl (.tmp 17) (.tmp 24) 22 rfl (w.heap.size + 1) 5 ii _ 1 1 Try.underlying22 hii hz0 hz1 hz2 rfl (by omega) _ (1 + 1) _ rfl (HW.out.row.alloc _) _ (some ⟨wr.heap.size, 0, none⟩) 1 1 (bv [p.s.off / 4294967296 % 256]) rfl (lit8_reads wr [p.s.off / 4294967296 % 256] (by simp)) (bv_one _) (by unfold maxLen; omega) (by omega) (by have := HW.out.box.lt; simp only [World.size_alloc]; omega) ?_); intro v2 w2 ho2 hg2 _; have HW2 := Kept.mk (HW.out.add (x := p.s.off / 4294967296 % 256) (by rw [HH.out]; rfl) _ hg2 ho2); clear ho2 hg2)
        go_roundw
        case rel => exact ⟨2, by omega, ⟨rfl⟩, HW2⟩
        case measure => simp [intOf]
      · obtain rfl := H4.out.trans (show _ = Value.int .i64 3 from rfl)
        clear H4
        go_wp2_with (at_builtin; go_must (refine wpList_append_any _ rfl (.tmp 17) (.tmp 24) 22 rfl (w.heap.size + 1) 5 ii _ 1 1 Try.underlying22 hii hz0 hz1 hz2 rfl (by omega) _ (1 + 2) _ rfl (HW.out.row.alloc _) _ (some ⟨wr.heap.size, 0, none⟩) 1 1 (bv [p.s.off / 16777216 % 256]) rfl (lit8_reads wr [p.s.off / 16777216 % 256] (by simp)) (bv_one _) (by unfold maxLen; omega) (by omega) (by have := HW.out.box.lt; simp only [World.size_alloc]; omega) ?_); intro v2 w2 ho2 hg2 _; have HW2 := Kept.mk (HW.out.add (x := p.s.off / 16777216 % 256) (by rw [HH.out]; rfl) _ hg2 ho2); clear ho2 hg2)
        go_roundw
        case rel => exact ⟨3, by omega, ⟨rfl⟩, HW2⟩
        case measure => simp [intOf]
      · obtain rfl := H4.out.trans (show _ = Value.int .i64 2 from rfl)
        clear H4
        go_wp2_with (at_builtin; go_must (refine wpList_append_any _ rfl (.tmp 17) (.tmp 24) 22 rfl (w.heap.size + 1) 5 ii _ 1 1 Try.underlying22 hii hz0 hz1 hz2 rfl (by omega) _ (1 + 3) _ rfl (HW.out.row.alloc _) _ (some ⟨wr.heap.size, 0, none⟩) 1 1 (bv [p.s.off / 65536 % 256]) rfl (lit8_reads wr [p.s.off / 65536 % 256] (by simp)) (bv_one _) (by unfold maxLen; omega) (by omega) (by have := HW.out.box.lt; simp only [World.size_alloc]; omega) ?_); intro v2 w2 ho2 hg2 _; have HW2 := Kept.mk (HW.out.add (x := p.s.off / 65536 % 256) (by rw [HH.out]; rfl) _ hg2 ho2); clear ho2 hg2)
        go_roundw
        case rel => exact ⟨4, by omega, ⟨rfl⟩, HW2⟩
        case measure => simp [intOf]
      · obtain rfl := H4.out.trans (show _ = Value.int .i64 1 from rfl)
        clear H4
        go_wp2_with (at_builtin; go_must (refine wpList_append_any _ rfl (.tmp 17) (.tmp 24) 22 rfl (w.heap.size + 1) 5 ii _ 1 1 Try.underlying22 hii hz0 hz1 hz2 rfl (by omega) _ (1 + 4) _ rfl (HW.out.row.alloc _) _ (some ⟨wr.heap.size, 0, none⟩) 1 1 (bv [p.s.off / 256 % 256]) rfl (lit8_reads wr [p.s.off / 256 % 256] (by simp)) (bv_one _) (by unfold maxLen; omega) (by omega) (by have := HW.out.box.lt; simp only [World.size_alloc]; omega) ?_); intro v2 w2 ho2 hg2 _; have HW2 := Kept.mk (HW.out.add (x := p.s.off / 256 % 256) (by rw [HH.out]; rfl) _ hg2 ho2); clear ho2 hg2)
        go_roundw
        case rel => exact ⟨5, by omega, ⟨rfl⟩, HW2⟩
        case measure => simp [intOf]
      · obtain rfl := H4.out.trans (show _ = Value.int .i64 0 from rfl)
        clear H4
        go_wp2_with (at_builtin; go_must (refine wpList_append_any _ rfl (.tmp 17) (.tmp 24) 22 rfl (w.heap.size + 1) 5 ii _ 1 1 Try.underlying22 hii hz0 hz1 hz2 rfl (by omega) _ (1 + 5) _ rfl (HW.out.row.alloc _) _ (some ⟨wr.heap.size, 0, none⟩) 1 1 (bv [p.s.off % 256]) rfl (lit8_reads wr [p.s.off % 256] (by simp)) (bv_one _) (by unfold maxLen; omega) (by omega) (by have := HW.out.box.lt; simp only [World.size_alloc]; omega) ?_); intro v2 w2 ho2 hg2 _; have HW2 := Kept.mk (HW.out.add (x := p.s.off % 256) (by rw [HH.out]; rfl) _ hg2 ho2); clear ho2 hg2)
        go_roundw
        case rel => exact ⟨6, by omega, ⟨rfl⟩, HW2⟩
        case measure => simp [intOf]
      · obtain rfl := H4.out.trans (show _ = Value.int .i64 (-1) from rfl)
        clear H4
        have HRD := fun (W : World) (hb : Below w.heap.size w W) => HS.out.rd.below (hb.mono hB)
        go_wp2_with (first | (at_builtin; have _t := HW; (refine wpList_append_any _ rfl (.tmp 26) (.tmp 31) 22 rfl (w.heap.size + 1) 5 ii _ 1 1 Try.underlying22 hii hz0 hz1 hz2 rfl (by omega) _ (1 + 6) _ rfl (HW.out.row.alloc _) _ (some ⟨wr.heap.size, 0, none⟩) 1 1 (bv [(p.s.data.length : Int)]) rfl (lit8_reads wr [(p.s.data.length : Int)] (by simp)) (bv_one _) (by unfold maxLen; omega) (by omega) (by have := HW.out.box.lt; simp only [World.size_alloc]; omega) ?_); intro v2 w2 ho2 hg2 _; have HW2 := Kept.mk (HW.out.add (x := p.s.data.length) (by rw [HH.out]; rfl) _ hg2 ho2); clear ho2 hg2; have j1 := HW2.out.box.cell 1 (v := .slice p.A p.s.data.length p.kap) rfl) | (at_builtin; go_must (refine wpList_append_any _ rfl (.tmp 33) (.tmp 35) 22 rfl (w.heap.size + 1) 5 ii _ 1 1 Try.underlying22 hii hz0 hz1 hz2 rfl (by omega) _ (1 + 6 + 1) _ rfl HW2.out.row B p.A p.s.data.length p.kap (bv p.s.data) rfl (HRD _ HW2.out.below) (bv_one _) (by unfold maxLen; omega) (by omega) (HW2.out.box.lt) ?_); intro v3 w3 ho3 hg3 _; have HO3 := Kept.mk ho3; have HJ3 : Kept (Below w.heap.size w w3) := ⟨HW2.out.below.grown hg3 HW2.out.below.size (fun g hg => by have := (HW2.out.row.lt g hg).1; omega)⟩; clear ho3 hg3))
        go_ret
        exact ⟨v3, rfl, by unfold codeP; rw [bv_app]; have e : headP p.s = (headP p.s).take (1 + 6 + 1) := (by rw [HH.out]; rfl); rw [e]; exact own_base HO3.out (by omega), HJ3.out⟩
end Go.Proofs.Ytdhajibegkkeiaa
