/- For all segments the statement SegmentSpoils returns true: changed copies and bytes behind the end contradict each other. No condition. -/
import Derived.Test.YtdhajibegkkeiaaBase
import Derived.Test.YtdhajibegkkeiaaCutB
import Derived.Test.YtdhajibegkkeiaaJoin
import Derived.Test.YtdhajibegkkeiaaPlainK
import Derived.Test.YtdhajibegkkeiaaLits
import Derived.Laws.BitsLemmas
import Derived.Laws.BitsAllLaws
namespace Go.Proofs.Ytdhajibegkkeiaa
open Go.ChangeShapes Go.WideShapes Go.ChangeAt Go.RowKit
set_option linter.unusedVariables false
set_option linter.unusedSimpArgs false
theorem xor_nat : ∀ x : Fin 256, ∀ j : Fin 8, (x.val ^^^ 2 ^ j.val) < 256 ∧ (x.val ^^^ 2 ^ j.val) ≠ x.val := by decide +kernel
theorem xor_ne (x : Int) (j : Nat) (b : Int) (hb : b = (2 ^ j : Nat)) (h0 : 0 ≤ x) (h1 : x ≤ 255) (hj : j < 8) : ∃ y : Int, bits BinOp.xor IntKind.u8 x b = y ∧ 0 ≤ y ∧ y ≤ 255 ∧ y ≠ x := by
  obtain ⟨n, rfl⟩ := Int.eq_ofNat_of_zero_le h0
  obtain ⟨h2, h3⟩ := xor_nat ⟨n, by omega⟩ ⟨j, hj⟩
  have h4 : 2 ^ j < 256 := by
    have : 2 ^ j ≤ 2 ^ 7 := Nat.pow_le_pow_right (by decide) (by omega)
    omega
  subst hb
  refine ⟨_, u8_xor_nat n (2 ^ j) (by omega) h4, by omega, ?_, ?_⟩
  · show ((n ^^^ 2 ^ j : Nat) : Int) ≤ 255
    have : (n ^^^ 2 ^ j) < 256 := h2
    omega
  · intro e
    exact h3 (by show n ^^^ 2 ^ j = n; omega)
theorem own_at {w : World} {B n k : Nat} {A : Option Addr} {xs : List Value} (h : w.ownsRow B 5 1 (.slice A n k) n xs) (hn : 0 < n) : ∃ g, A = some ⟨g, 0, none⟩ ∧ B ≤ g ∧ g < w.heap.size := by
  rcases h.2 with ⟨_, h2⟩ | ⟨g, cap, cur, h1, h2, h3, _⟩
  · omega
  · injection h1 with h1
    exact ⟨g, h1, h2, lt_of_some h3⟩
theorem spoil_bad {s : Seg} {d : List Int} {i : Nat} {y : Int} {r : Res} (hv : validB s = true) (hi : i < s.data.length) (hd : d = s.data.set i y) (hy : y ≠ s.data.getD i 0) (h : JoinIs [s, ⟨s.off, d, s.last⟩] r) : r = errR 3 := by
  have hl : d.length = s.data.length := by rw [hd]; simp
  refine joinIs_uniq h (.conf (by simp) (fun t ht => ?_) (by simp) (.inl fun ha => hy ?_))
  · simp at ht
    rcases ht with rfl | rfl
    · exact hv
    · rw [valid_iff] at hv ⊢
      rw [hl]; exact hv
  · have h1 : HasL [s, ⟨s.off, d, s.last⟩] (s.off + i) (s.data.getD i 0) := ⟨s, by simp, at_iff.2 ⟨by omega, by unfold Seg.fin; omega, by rw [show (s.off + (i : Int) - s.off).toNat = i by omega]⟩⟩
    have h2 : HasL [s, ⟨s.off, d, s.last⟩] (s.off + i) y := ⟨⟨s.off, d, s.last⟩, by simp, at_iff.2 ⟨by show s.off ≤ s.off + i; omega, by unfold Seg.fin; show s.off + (i : Int) < s.off + d.length; omega, by
      show d.getD (s.off + (i : Int) - s.off).toNat 0 = y
      rw [show (s.off + (i : Int) - s.off).toNat = i by omega, hd]
      simp [List.getD_eq_getElem?_getD, hi]⟩⟩
    exact ha _ _ _ h2 h1
theorem spoil_end {s : Seg} {b : Int} {r : Res} (hv : validB s = true) (ho : s.off ≤ 1099511627576) (h : JoinIs [⟨s.off, s.data, true⟩, ⟨s.off + s.data.length, [b], false⟩] r) : r = errR 3 := by
  obtain ⟨x1, x2, x3⟩ := valid_iff.1 hv
  refine joinIs_uniq h (.conf (by simp) (fun t ht => ?_) (by simp) (.inr ⟨⟨s.off, s.data, true⟩, by simp, rfl, ⟨s.off + s.data.length, [b], false⟩, by simp, ?_⟩))
  · simp at ht
    rcases ht with rfl | rfl
    · exact hv
    · exact valid_iff.2 ⟨by show 0 ≤ s.off + (s.data.length : Int); omega, by simp, by show s.off + (s.data.length : Int) ≤ 1099511627776 - (1 : Nat); omega⟩
  · show s.off + (s.data.length : Int) < s.off + s.data.length + (1 : Nat)
    omega
theorem own_ne {w : World} {B n k g : Nat} {A : Addr} {cs : Array Value} {xs : List Value} (h : w.ownsRow B 5 1 (.slice (some A) n k) n xs) (hb : Blk w g 24 cs) : g ≠ A.block := by
  rintro rfl
  rcases h.2 with ⟨h1, _⟩ | ⟨g1, c1, u1, h1, _, h3, _⟩
  · cases h1
  · injection h1 with h1
    injection h1 with h1
    subst h1
    unfold Blk at hb
    rw [hb] at h3
    injection h3 with h3
    injection h3 with _ h4
    cases h4
theorem spoil_lits {w6 : World} {p : PSeg} {b : Int} (h : SegAt w6 w6.heap.size p.s p.A p.kap) (hb : 0 ≤ b ∧ b ≤ 255) :
    SegsAt ((((w6.alloc (.cells #[.int .i64 p.s.off, .slice p.A p.s.data.length p.kap, .bool true] 24)).alloc (.cells #[.int .u8 b] 5)).alloc (.cells #[.int .i64 (p.s.off + p.s.data.length), .slice (some ⟨w6.heap.size + 1, 0, none⟩) 1 1, .bool false] 24)).alloc (.cells #[.int .i64 p.s.off, .slice p.A p.s.data.length p.kap, .bool true, .int .i64 (p.s.off + p.s.data.length), .slice (some ⟨w6.heap.size + 1, 0, none⟩) 1 1, .bool false] 24)) (w6.heap.size + 1 + 1 + 1 + 1) (some ⟨w6.heap.size + 1 + 1 + 1, 0, none⟩) [⟨⟨p.s.off, p.s.data, true⟩, p.A, p.kap⟩, ⟨⟨p.s.off + p.s.data.length, [b], false⟩, some ⟨w6.heap.size + 1, 0, none⟩, 1⟩] := by
  have g1 : SegAt (((w6.alloc (.cells #[.int .i64 p.s.off, .slice p.A p.s.data.length p.kap, .bool true] 24)).alloc (.cells #[.int .u8 b] 5)).alloc (.cells #[.int .i64 (p.s.off + p.s.data.length), .slice (some ⟨w6.heap.size + 1, 0, none⟩) 1 1, .bool false] 24)) (((w6.alloc (.cells #[.int .i64 p.s.off, .slice p.A p.s.data.length p.kap, .bool true] 24)).alloc (.cells #[.int .u8 b] 5)).alloc (.cells #[.int .i64 (p.s.off + p.s.data.length), .slice (some ⟨w6.heap.size + 1, 0, none⟩) 1 1, .bool false] 24)).heap.size ⟨p.s.off, p.s.data, true⟩ p.A p.kap := by
    have := h.new_ ((((Below.refl w6.heap.size w6).alloc (Nat.le_refl _) (.cells #[.int .i64 p.s.off, .slice p.A p.s.data.length p.kap, .bool true] 24)).alloc (by simp) (.cells #[.int .u8 b] 5)).alloc (by simp; omega) (.cells #[.int .i64 (p.s.off + p.s.data.length), .slice (some ⟨w6.heap.size + 1, 0, none⟩) 1 1, .bool false] 24))
    exact ⟨this.rd, this.by_, this.le, this.max⟩
  have g2 : SegAt (((w6.alloc (.cells #[.int .i64 p.s.off, .slice p.A p.s.data.length p.kap, .bool true] 24)).alloc (.cells #[.int .u8 b] 5)).alloc (.cells #[.int .i64 (p.s.off + p.s.data.length), .slice (some ⟨w6.heap.size + 1, 0, none⟩) 1 1, .bool false] 24)) (((w6.alloc (.cells #[.int .i64 p.s.off, .slice p.A p.s.data.length p.kap, .bool true] 24)).alloc (.cells #[.int .u8 b] 5)).alloc (.cells #[.int .i64 (p.s.off + p.s.data.length), .slice (some ⟨w6.heap.size + 1, 0, none⟩) 1 1, .bool false] 24)).heap.size ⟨p.s.off + p.s.data.length, [b], false⟩ (some ⟨w6.heap.size + 1, 0, none⟩) 1 := by
    have hl := lit8 (w6.alloc (.cells #[.int .i64 p.s.off, .slice p.A p.s.data.length p.kap, .bool true] 24)) [b] (by simp)
    have hl2 := hl.alloc (.cells #[.int .i64 (p.s.off + p.s.data.length), .slice (some ⟨w6.heap.size + 1, 0, none⟩) 1 1, .bool false] 24)
    rw [World.size_alloc] at hl2
    exact own_seg hl2 (fun x hx => by simp at hx; subst hx; exact hb)
  have hh := lit_segs (w := (((w6.alloc (.cells #[.int .i64 p.s.off, .slice p.A p.s.data.length p.kap, .bool true] 24)).alloc (.cells #[.int .u8 b] 5)).alloc (.cells #[.int .i64 (p.s.off + p.s.data.length), .slice (some ⟨w6.heap.size + 1, 0, none⟩) 1 1, .bool false] 24))) (ps := [⟨⟨p.s.off, p.s.data, true⟩, p.A, p.kap⟩, ⟨⟨p.s.off + p.s.data.length, [b], false⟩, some ⟨w6.heap.size + 1, 0, none⟩, 1⟩]) (fun x hx => by rcases List.mem_cons.1 hx with rfl | hx; exact g1; rcases List.mem_cons.1 hx with rfl | hx; exact g2; cases hx)
  simp only [World.size_alloc] at hh
  exact hh
set_option maxRecDepth 100000 in
set_option maxHeartbeats 8000000 in
theorem walkSegmentSpoils (p : PSeg) (a b : Int) (w : World) (h : SegAt w w.heap.size p.s p.A p.kap) (ho : -9223372036854775808 ≤ p.s.off ∧ p.s.off ≤ 9223372036854775807) (ha : 0 ≤ a ∧ a ≤ 255) (hb : 0 ≤ b ∧ b ≤ 255) :
    Calls Try.prog 7 #[pval p, .int .u8 a, .int .u8 b] w fun e w' => e = .returned (.bool true) ∧ Below w.heap.size w w' := by
  have hm := Nat.le_trans h.le h.max
  have hmx := hm
  unfold maxLen at hmx
  have HS := Kept.mk h
  obtain ⟨o1, o2⟩ := ho
  obtain ⟨a1, a2⟩ := ha
  obtain ⟨b1, b2⟩ := hb
  clear h
  have z0 : (0 : Int) ≤ p.s.data.length := by omega
  have hcase : (validB p.s = false) ∨ (validB p.s = true ∧ ((p.s.data.length : Int) == 0) = true) ∨ (validB p.s = true ∧ ((p.s.data.length : Int) == 0) = false ∧ (1099511627576 : Int) < p.s.off) ∨ (validB p.s = true ∧ ((p.s.data.length : Int) == 0) = false ∧ p.s.off ≤ 1099511627576 ∧ ¬ (1099511627576 : Int) < p.s.off ∧ 0 < p.s.data.length) := by
    cases validB p.s with
    | false => exact .inl rfl
    | true =>
      right
      by_cases h1 : p.s.data.length = 0
      · left; exact ⟨rfl, by simp [h1]⟩
      · right
        by_cases h2 : (1099511627576 : Int) < p.s.off
        · left; exact ⟨rfl, beq_false_of_ne (by omega), h2⟩
        · right; exact ⟨rfl, beq_false_of_ne (by omega), by omega, h2, by omega⟩
  unfold pval
  rcases hcase with hv | ⟨hv, y1⟩ | ⟨hv, y1, y2⟩ | ⟨hv, y1, y2, y3, y4⟩
  · have HV := Kept.mk hv
    clear hv
    go_enter Try.func7, Try.ntmps7
    go_wp2_with (first | (go_at_call 11; refine (awake_c _).mono ?_; rintro e w1 ⟨rfl, hb1⟩; have HB := Kept.mk ((Blk.new w 24 #[.int .i64 p.s.off, .slice p.A p.s.data.length p.kap, .bool p.s.last]).new_ hb1); have k0 := HB.out.cell 0 (v := .int .i64 p.s.off) rfl; have k1 := HB.out.cell 1 (v := .slice p.A p.s.data.length p.kap) rfl; have k2 := HB.out.cell 2 (v := .bool p.s.last) rfl; have HJ := Kept.mk (join (w := w) (by go_grown) hb1); clear hb1) | (go_at_call 14; go_must (refine (valid_c p.s p.A p.kap _ hm).mono ?_); rintro e w2 ⟨rfl, hb2⟩; rw [HV.out]; have HB2 := Kept.mk (HB.out.new_ hb2); have HJ2 := Kept.mk (join HJ.out hb2); clear k0 k1 k2 hb2; have k0 := HB2.out.cell 0 (v := .int .i64 p.s.off) rfl; have k1 := HB2.out.cell 1 (v := .slice p.A p.s.data.length p.kap) rfl; have k2 := HB2.out.cell 2 (v := .bool p.s.last) rfl))
    go_ret
    exact ⟨rfl, HJ2.out⟩
  · have HV := Kept.mk hv
    clear hv
    go_enter Try.func7, Try.ntmps7
    go_wp2_with (first | (go_at_call 11; refine (awake_c _).mono ?_; rintro e w1 ⟨rfl, hb1⟩; have HB := Kept.mk ((Blk.new w 24 #[.int .i64 p.s.off, .slice p.A p.s.data.length p.kap, .bool p.s.last]).new_ hb1); have k0 := HB.out.cell 0 (v := .int .i64 p.s.off) rfl; have k1 := HB.out.cell 1 (v := .slice p.A p.s.data.length p.kap) rfl; have k2 := HB.out.cell 2 (v := .bool p.s.last) rfl; have HJ := Kept.mk (join (w := w) (by go_grown) hb1); clear hb1) | (go_at_call 14; go_must (refine (valid_c p.s p.A p.kap _ hm).mono ?_); rintro e w2 ⟨rfl, hb2⟩; rw [HV.out]; have HB2 := Kept.mk (HB.out.new_ hb2); have HJ2 := Kept.mk (join HJ.out hb2); clear k0 k1 k2 hb2; have k0 := HB2.out.cell 0 (v := .int .i64 p.s.off) rfl; have k1 := HB2.out.cell 1 (v := .slice p.A p.s.data.length p.kap) rfl; have k2 := HB2.out.cell 2 (v := .bool p.s.last) rfl))
    go_ret
    exact ⟨rfl, HJ2.out⟩
  · have HV := Kept.mk hv
    clear hv
    go_enter Try.func7, Try.ntmps7
    go_wp2_with (first | (go_at_call 11; refine (awake_c _).mono ?_; rintro e w1 ⟨rfl, hb1⟩; have HB := Kept.mk ((Blk.new w 24 #[.int .i64 p.s.off, .slice p.A p.s.data.length p.kap, .bool p.s.last]).new_ hb1); have k0 := HB.out.cell 0 (v := .int .i64 p.s.off) rfl; have k1 := HB.out.cell 1 (v := .slice p.A p.s.data.length p.kap) rfl; have k2 := HB.out.cell 2 (v := .bool p.s.last) rfl; have HJ := Kept.mk (join (w := w) (by go_grown) hb1); clear hb1) | (go_at_call 14; go_must (refine (valid_c p.s p.A p.kap _ hm).mono ?_); rintro e w2 ⟨rfl, hb2⟩; rw [HV.out]; have HB2 := Kept.mk (HB.out.new_ hb2); have HJ2 := Kept.mk (join HJ.out hb2); clear k0 k1 k2 hb2; have k0 := HB2.out.cell 0 (v := .int .i64 p.s.off) rfl; have k1 := HB2.out.cell 1 (v := .slice p.A p.s.data.length p.kap) rfl; have k2 := HB2.out.cell 2 (v := .bool p.s.last) rfl))
    go_ret
    exact ⟨rfl, HJ2.out⟩
  · have HV := Kept.mk hv
    obtain ⟨x1, x2, x3⟩ := valid_iff.1 hv
    have HSB := fun d i y r => spoil_bad (d := d) (i := i) (y := y) (r := r) hv
    have HSE := fun r => spoil_end (b := b) (r := r) hv y2
    have x4 : (p.s.data.length : Int) ≤ 64 := by omega
    clear hv
    go_enter Try.func7, Try.ntmps7
    go_upto_region 5 with (first | (go_at_call 11; refine (awake_c _).mono ?_; rintro e w1 ⟨rfl, hb1⟩; have HB := Kept.mk ((Blk.new w 24 #[.int .i64 p.s.off, .slice p.A p.s.data.length p.kap, .bool p.s.last]).new_ hb1); have k0 := HB.out.cell 0 (v := .int .i64 p.s.off) rfl; have k1 := HB.out.cell 1 (v := .slice p.A p.s.data.length p.kap) rfl; have k2 := HB.out.cell 2 (v := .bool p.s.last) rfl; have HJ := Kept.mk (join (w := w) (by go_grown) hb1); clear hb1) | (go_at_call 14; go_must (refine (valid_c p.s p.A p.kap _ hm).mono ?_); rintro e w2 ⟨rfl, hb2⟩; rw [HV.out]; have HB2 := Kept.mk (HB.out.new_ hb2); have HJ2 := Kept.mk (join HJ.out hb2); clear k0 k1 k2 hb2; have k0 := HB2.out.cell 0 (v := .int .i64 p.s.off) rfl; have k1 := HB2.out.cell 1 (v := .slice p.A p.s.data.length p.kap) rfl; have k2 := HB2.out.cell 2 (v := .bool p.s.last) rfl))
    have hzc : w.heap.size < w2.heap.size := HB2.out.lt
    have hne1 : w.heap.size ≠ w2.heap.size := Nat.ne_of_lt hzc
    have HB1 : Kept (w.heap.size ≤ w2.heap.size) := ⟨Nat.le_of_lt hzc⟩
    have HRW := Kept.mk (HS.out.rd.below HJ2.out)
    go_cut [7] (fun s7 wx => ∃ (g7 : Nat) (A2 : Option Addr) (m2 : Nat), s7 = .pointer (some ⟨g7, 0, none⟩) ∧ Kept (Blk wx g7 24 #[.int .i64 p.s.off, .slice A2 p.s.data.length m2, .bool p.s.last]) ∧ Kept (wx.ownsRow w2.heap.size 5 1 (.slice A2 p.s.data.length m2) p.s.data.length (bv p.s.data)) ∧ Kept (Below w2.heap.size w2 wx) ∧ w2.heap.size ≤ g7)
    case first =>
      go_region_held3 (fun w' => w'.cell? ⟨w.heap.size, 0, none⟩ = some (.int .i64 p.s.off) ∧ w'.cell? ⟨w.heap.size, 1, none⟩ = some (.slice p.A p.s.data.length p.kap) ∧ w'.cell? ⟨w.heap.size, 2, none⟩ = some (.bool p.s.last)) (first | (go_keep; done) | exact ⟨kk0, kk1, kk2⟩ | (simp [World.cell?_setCell_other, kk0, kk1, kk2, hne1]; done)) (first | (go_at_call 27; go_must (refine (clone_n p.A p.kap p.s.data.length p.s.data _ w.heap.size rfl (by first | exact HRW.out | exact HRW.out.alloc HB1.out _) (by first | exact HB1.out | (have := HB1.out; simp; omega)) (by omega)).mono ?_); rintro e w3 ⟨v3, rfl, ho3, hb3⟩; obtain ⟨hc3, hf3⟩ := bcell hb3; obtain ⟨A2, m2, rfl⟩ := own_slice ho3; have kk0 : w3.cell? ⟨w.heap.size, 0, none⟩ = some (.int .i64 p.s.off) := (by first | exact (hb3.cell (p := ⟨w.heap.size, 0, none⟩) hzc).trans k0 | exact (hb3.cell (p := ⟨w.heap.size, 0, none⟩) (Nat.lt_of_lt_of_le hzc (by simp))).trans ((World.cell?_alloc_lt _ _ _ hzc).trans k0)); have kk1 : w3.cell? ⟨w.heap.size, 1, none⟩ = some (.slice p.A p.s.data.length p.kap) := (by first | exact (hb3.cell (p := ⟨w.heap.size, 1, none⟩) hzc).trans k1 | exact (hb3.cell (p := ⟨w.heap.size, 1, none⟩) (Nat.lt_of_lt_of_le hzc (by simp))).trans ((World.cell?_alloc_lt _ _ _ hzc).trans k1)); have kk2 : w3.cell? ⟨w.heap.size, 2, none⟩ = some (.bool p.s.last) := (by first | exact (hb3.cell (p := ⟨w.heap.size, 2, none⟩) hzc).trans k2 | exact (hb3.cell (p := ⟨w.heap.size, 2, none⟩) (Nat.lt_of_lt_of_le hzc (by simp))).trans ((World.cell?_alloc_lt _ _ _ hzc).trans k2)); have HO3 := Kept.mk ho3; have HB3 := Kept.mk hb3; clear ho3 hb3))
      · (try go_wp2_with fail)
        go_meet
        obtain ⟨t1, t2, t3, t4⟩ := box_after (cs := #[.int .i64 p.s.off, .slice A2 p.s.data.length m2, .bool p.s.last]) (t := 24) HB3.out HO3.out
        exact ⟨_, A2, m2, rfl, ⟨t1⟩, ⟨t2⟩, ⟨t3⟩, t4⟩
      · (try go_wp2_with fail)
        go_meet
        obtain ⟨t1, t2, t3⟩ := box_before (x := .int .i64 p.s.off) (y := .slice A2 p.s.data.length m2) (z := .bool p.s.last) HB3.out HO3.out
        exact ⟨_, A2, m2, rfl, ⟨t1⟩, ⟨t2⟩, ⟨t3⟩, Nat.le_refl _⟩
    case rest =>
      obtain ⟨g7, A2, m2, rfl, HX7, HX5, HXB, hg7⟩ := hcut
      obtain ⟨wa, rfl⟩ : ∃ wa, wa = wc := ⟨_, rfl⟩
      obtain ⟨gr, rfl, hgr, HRB⟩ := own_at HX5.out y4
      obtain ⟨k, hk⟩ : ∃ k : Nat, (k : Int) = a % (p.s.data.length : Int) := ⟨(a % (p.s.data.length : Int)).toNat, by have := Int.emod_nonneg a (show (p.s.data.length : Int) ≠ 0 by omega); omega⟩
      have hkl : k < p.s.data.length := by have := Int.emod_lt_of_pos a (show (0 : Int) < p.s.data.length by omega); omega
      obtain ⟨x, HX⟩ : ∃ x, Kept (p.s.data.getD k 0 = x) := ⟨_, ⟨rfl⟩⟩
      have hcx : wa.cell? ⟨gr, k, none⟩ = some (.int .u8 x) := by
        rw [World.ownsRow.cellAt HX5.out k (by omega), bv_get hkl, HX.out]
      have hfx : wa.frozen? ⟨gr, k, none⟩ = false := World.ownsRow.frozenAt HX5.out k
      have hxb : 0 ≤ x ∧ x ≤ 255 := by rw [← HX.out]; exact HS.out.by_.at_ hkl
      obtain ⟨xb1, xb2⟩ := hxb
      have e1 : a.tmod (p.s.data.length : Int) = k := by rw [Int.tmod_eq_emod_of_nonneg a1, hk]
      have r1 := HX7.out.cell 1 (v := .slice (some ⟨gr, 0, none⟩) p.s.data.length m2) rfl
      have hl7 := HX7.out.lt
      have hk1 : (k : Int) < p.s.data.length := by omega
      have hk0 : (0 : Int) ≤ k := by omega
      clear hk HRB
      go_upto_region 6 with fail
      go_cut [6] (fun s6 wx => s6 = .bool false ∧ ∃ y, y ≠ x ∧ 0 ≤ y ∧ y ≤ 255 ∧ Kept (wx = (wa.setCell ⟨gr, k, none⟩ (.int .u8 y)).drew))
      case first =>
        obtain ⟨c, hc1, hc2⟩ : ∃ c : Nat, c < 8 ∧ b.tmod 8 = c := ⟨(b % 8).toNat, by omega, by rw [Int.tmod_eq_emod_of_nonneg b1]; omega⟩
        obtain ⟨y, hy1, hy2, hy3, hy4⟩ := xor_ne x c ((2 ^ c : Nat) : Int) rfl xb1 xb2 hc1
        have hcc : c = 0 ∨ c = 1 ∨ c = 2 ∨ c = 3 ∨ c = 4 ∨ c = 5 ∨ c = 6 ∨ c = 7 := by omega
        rcases hcc with rfl | rfl | rfl | rfl | rfl | rfl | rfl | rfl
        · have hy5 : bits BinOp.xor IntKind.u8 x 1 = y := hy1
          have hc5 : b.tmod 8 = 0 := hc2
          clear hy1 hc2 hc1
          go_region
          all_goals
            (try go_wp2_with fail)
            go_meet
            exact ⟨rfl, y, hy4, hy2, hy3, ⟨rfl⟩⟩
        · have hy5 : bits BinOp.xor IntKind.u8 x 2 = y := hy1
          have hc5 : b.tmod 8 = 1 := hc2
          clear hy1 hc2 hc1
          go_region
          all_goals
            (try go_wp2_with fail)
            go_meet
            exact ⟨rfl, y, hy4, hy2, hy3, ⟨rfl⟩⟩
        · have hy5 : bits BinOp.xor IntKind.u8 x 4 = y := hy1
          have hc5 : b.tmod 8 = 2 := hc2
          clear hy1 hc2 hc1
          go_region
          all_goals
            (try go_wp2_with fail)
            go_meet
            exact ⟨rfl, y, hy4, hy2, hy3, ⟨rfl⟩⟩
        · have hy5 : bits BinOp.xor IntKind.u8 x 8 = y := hy1
          have hc5 : b.tmod 8 = 3 := hc2
          clear hy1 hc2 hc1
          go_region
          all_goals
            (try go_wp2_with fail)
            go_meet
            exact ⟨rfl, y, hy4, hy2, hy3, ⟨rfl⟩⟩
        · have hy5 : bits BinOp.xor IntKind.u8 x 16 = y := hy1
          have hc5 : b.tmod 8 = 4 := hc2
          clear hy1 hc2 hc1
          go_region
          all_goals
            (try go_wp2_with fail)
            go_meet
            exact ⟨rfl, y, hy4, hy2, hy3, ⟨rfl⟩⟩
        · have hy5 : bits BinOp.xor IntKind.u8 x 32 = y := hy1
          have hc5 : b.tmod 8 = 5 := hc2
          clear hy1 hc2 hc1
          go_region
          all_goals
            (try go_wp2_with fail)
            go_meet
            exact ⟨rfl, y, hy4, hy2, hy3, ⟨rfl⟩⟩
        · have hy5 : bits BinOp.xor IntKind.u8 x 64 = y := hy1
          have hc5 : b.tmod 8 = 6 := hc2
          clear hy1 hc2 hc1
          go_region
          all_goals
            (try go_wp2_with fail)
            go_meet
            exact ⟨rfl, y, hy4, hy2, hy3, ⟨rfl⟩⟩
        · have hy5 : bits BinOp.xor IntKind.u8 x 128 = y := hy1
          have hc5 : b.tmod 8 = 7 := hc2
          clear hy1 hc2 hc1
          go_region
          all_goals
            (try go_wp2_with fail)
            go_meet
            exact ⟨rfl, y, hy4, hy2, hy3, ⟨rfl⟩⟩
      case rest =>
        obtain ⟨rfl, y, hy1, hy2, hy3, HWX⟩ := hcut
        have HXD : Kept (wc.ownsRow w2.heap.size 5 1 (.slice (some ⟨gr, 0, none⟩) p.s.data.length m2) p.s.data.length (bv (p.s.data.set k y))) := ⟨by
          rw [HWX.out]
          have := (World.ownsRow.stored HX5.out k (.int .u8 y)).1
          rw [show bv (p.s.data.set k y) = (bv p.s.data).set k (.int .u8 y) by simp [bv, List.map_set]]
          exact this⟩
        have HBY : Kept (Bytes (p.s.data.set k y)) := ⟨fun z hz => by
          rcases List.mem_or_eq_of_mem_set hz with hz | rfl
          · exact HS.out.by_ z hz
          · exact ⟨hy2, hy3⟩⟩
        have hwb := HB2.out.lt
        have HBC : Kept (Blk wc w.heap.size 24 #[.int .i64 p.s.off, .slice p.A p.s.data.length p.kap, .bool p.s.last]) := ⟨by
          rw [HWX.out]; exact ((HB2.out.new_ HXB.out).far (p := ⟨gr, k, none⟩) (by show w.heap.size ≠ gr; omega) _).drew⟩
        have HGN : Kept (g7 ≠ gr) := ⟨own_ne HX5.out HX7.out⟩
        have HBC7 : Kept (Blk wc g7 24 #[.int .i64 p.s.off, .slice (some ⟨gr, 0, none⟩) p.s.data.length m2, .bool p.s.last]) := ⟨by
          rw [HWX.out]; exact (HX7.out.far (p := ⟨gr, k, none⟩) HGN.out _).drew⟩
        have HJC : Kept (Below w.heap.size w wc) := ⟨by
          rw [HWX.out]; exact ((join HJ2.out HXB.out).setCell (p := ⟨gr, k, none⟩) (by show w.heap.size ≤ gr; omega) _).drew⟩
        have HSC : Kept (SegAt wc wc.heap.size p.s p.A p.kap) := ⟨HS.out.new_ HJC.out⟩
        obtain ⟨D, HD⟩ : ∃ D, Kept (D = p.s.data.set k y) := ⟨_, ⟨rfl⟩⟩
        have HDL : Kept (D.length = p.s.data.length) := ⟨by rw [HD.out]; simp⟩
        rw [← HD.out] at HXD HBY
        have HJ1 : Kept (∀ r, JoinIs [p.s, ⟨p.s.off, D, p.s.last⟩] r → r = ⟨[], 0, false, 3⟩) := ⟨fun r hr => HSB D k y r hkl HD.out (by rw [HX.out]; exact hy1) hr⟩
        have HSD : Kept (SegAt wc wc.heap.size ⟨p.s.off, D, p.s.last⟩ (some ⟨gr, 0, none⟩) m2) := ⟨own_seg (by show wc.ownsRow _ 5 1 (.slice _ D.length _) D.length (bv D); rw [HDL.out]; exact HXD.out) HBY.out⟩
        have LS : Kept (SegsAt (wc.alloc (.cells #[.int .i64 p.s.off, .slice p.A p.s.data.length p.kap, .bool p.s.last, .int .i64 p.s.off, .slice (some ⟨gr, 0, none⟩) p.s.data.length m2, .bool p.s.last] 24)) (wc.heap.size + 1) (some ⟨wc.heap.size, 0, none⟩) [p, ⟨⟨p.s.off, D, p.s.last⟩, some ⟨gr, 0, none⟩, m2⟩]) := ⟨by
          have h := lit_segs (w := wc) (ps := [p, ⟨⟨p.s.off, D, p.s.last⟩, some ⟨gr, 0, none⟩, m2⟩]) (fun x hx => by rcases List.mem_cons.1 hx with rfl | hx; exact HSC.out; rcases List.mem_cons.1 hx with rfl | hx; exact HSD.out; cases hx)
          have e : (scells [p, ⟨⟨p.s.off, D, p.s.last⟩, some ⟨gr, 0, none⟩, m2⟩]).toArray = #[.int .i64 p.s.off, .slice p.A p.s.data.length p.kap, .bool p.s.last, .int .i64 p.s.off, .slice (some ⟨gr, 0, none⟩) p.s.data.length m2, .bool p.s.last] := by simp [scells, HDL.out]
          rw [e] at h
          exact h⟩
        clear k0 k1 k2 r1 hcx hfx e1 hl7 hzc hne1 HSB
        have k0 := HBC.out.cell 0 (v := .int .i64 p.s.off) rfl
        have k1 := HBC.out.cell 1 (v := .slice p.A p.s.data.length p.kap) rfl
        have k2 := HBC.out.cell 2 (v := .bool p.s.last) rfl
        have l0 := HBC7.out.cell 0 (v := .int .i64 p.s.off) rfl
        have l1 := HBC7.out.cell 1 (v := .slice (some ⟨gr, 0, none⟩) p.s.data.length m2) rfl
        have l2 := HBC7.out.cell 2 (v := .bool p.s.last) rfl
        have tok1 : True := trivial
        go_wp2_with (first | (go_at_call 25; have _t := tok1; go_must (refine (join_c [p, ⟨⟨p.s.off, D, p.s.last⟩, some ⟨gr, 0, none⟩, m2⟩] (some ⟨wc.heap.size, 0, none⟩) 2 _ (wc.heap.size + 1) LS.out (by simp) (by simp)).mono ?_); rintro e w6 ⟨r, v, hj, hby, rfl, ho, hb6⟩; obtain rfl := HJ1.out r hj; have hbw := join ((Below.refl _ _).alloc (Nat.le_refl _) _) hb6; have HB6 := Kept.mk (HBC.out.new_ hbw); have HJ6 := Kept.mk (join HJC.out hbw); have hz6 : w.heap.size < w6.heap.size := HB6.out.lt; have HS6 := Kept.mk (HSC.out.new_ hbw); clear k0 k1 k2 l0 l1 l2 hj hby ho hb6 hbw tok1 _t; have k0 := HB6.out.cell 0 (v := .int .i64 p.s.off) rfl; have k1 := HB6.out.cell 1 (v := .slice p.A p.s.data.length p.kap) rfl; have LS2 := Kept.mk (spoil_lits (b := b) HS6.out ⟨b1, b2⟩)) | (go_at_call 25; have _t := LS2; go_must (refine (join_c [⟨⟨p.s.off, p.s.data, true⟩, p.A, p.kap⟩, ⟨⟨p.s.off + p.s.data.length, [b], false⟩, some ⟨w6.heap.size + 1, 0, none⟩, 1⟩] (some ⟨w6.heap.size + 1 + 1 + 1, 0, none⟩) 2 _ (w6.heap.size + 1 + 1 + 1 + 1) LS2.out (by simp) (by simp)).mono ?_); rintro e w7 ⟨r, v, hj, hby, rfl, ho, hb7⟩; obtain rfl : r = ⟨[], 0, false, 3⟩ := HSE r hj; have HJ7 := Kept.mk (join (w := w) ((((HJ6.out.alloc HJ6.out.size _).alloc (by have := HJ6.out.size; simp only [World.size_alloc]; omega) _).alloc (by have := HJ6.out.size; simp only [World.size_alloc]; omega) _).alloc (by have := HJ6.out.size; simp only [World.size_alloc]; omega) _) hb7); clear hj hby ho hb7))
        go_ret
        exact ⟨rfl, HJ7.out⟩

set_option maxRecDepth 100000 in
theorem liftedSegmentSpoils (os : Os) (started : os.Started) (H : Type) (enc : TypeId × Value → H) :
    ReturnsInHanded {} Try.checked os 7 .any (Rows.segmentSpoilsSpec.pre6 enc Try.prog Try.f7 Rows.segmentSpoilsRow.domain false) (Rows.segmentSpoilsSpec.post enc Try.prog Try.f7 false true false false) := by
  refine returnsInHanded_of_change (C := Try.checked) own started (by kernel_rfl) Try.func7
    (ChangeSpec.witness6 (enc := enc) (C := Try.checked) false ⟨#[], #[.agg #[.int .i64 0, .slice none 0 0, .bool false], .int .u8 0, .int .u8 0], []⟩ 8 (by kernel_rfl) (by kernel_rfl) (by kernel_rfl) (by kernel_rfl)) ?_
  intro W base args ds gs before hval0 hW hcnd _
  have hval : ∀ (j : Nat) t v, Try.f7.params[j]? = some t → args[j]? = some v → Value.okWide Try.prog W .any base t v := hval0
  have hW' := hW
  obtain ⟨p, q, hA0, hV, rfl, hfz, hnd⟩ := hW
  have hA : DataW.TrodAll enc Try.prog W 0 (fun _ => true) true Try.f7.params.toList args.toList ds p := hA0
  rw [Try.params7] at hA hval
  obtain ⟨v0, vs0, d0, ds0, p0, q0, hargs, rfl, rfl, h0, r0⟩ := trodAll_cons hA
  obtain ⟨v1, vs1, d1, ds1, p1, q1, rfl, rfl, rfl, h1, r1⟩ := trodAll_cons r0
  obtain ⟨v2, vs2, d2, ds2, p2, q2, rfl, rfl, rfl, h2, r2⟩ := trodAll_cons r1
  obtain ⟨rfl, rfl, rfl⟩ := trodAll_nil r2
  obtain rfl : args = #[v0, v1, v2] := by cases args; simp_all
  obtain ⟨rfl, rfl⟩ := trodVars_none hV
  have k0 := h0
  have lt0 : ∀ x ∈ p0, x.block < W.heap.size := by obtain ⟨m, hm⟩ := k0; exact DataW.trod_lt m _ _ _ hm
  have k1 := h1
  have lt1 : ∀ x ∈ p1, x.block < W.heap.size := by obtain ⟨m, hm⟩ := k1; exact DataW.trod_lt m _ _ _ hm
  have k2 := h2
  have lt2 : ∀ x ∈ p2, x.block < W.heap.size := by obtain ⟨m, hm⟩ := k2; exact DataW.trod_lt m _ _ _ hm
  obtain ⟨a0, rfl, s0, o0⟩ := open_seg (hval 0 24 v0 rfl rfl) h0
  obtain ⟨a1, rfl, -, -, ww1⟩ := open_int Try.underlying5 (hval 1 5 v1 rfl rfl) h1
  have w1 := bounds_u8 ww1
  obtain ⟨a2, rfl, -, -, ww2⟩ := open_int Try.underlying5 (hval 2 5 v2 rfl rfl) h2
  have w2 := bounds_u8 ww2
  clear hA0 hval0
  refine (walkSegmentSpoils a0 a1 a2 W s0 o0 w1 w2).mono fun e W' ⟨he, bel⟩ => ?_
  subst he
  exact ⟨_, rfl, _, _, _, [], _, [], hW', trodAll_mk1 (shut_bool Try.underlying4 _), (trodAll_cons_mk (Below.trod laidOut (by kernel_rfl) (of_decide_eq_true (by kernel_rfl)) k0 bel lt0) (trodAll_cons_mk (Below.trod laidOut (by kernel_rfl) (of_decide_eq_true (by kernel_rfl)) k1 bel lt1) (trodAll_cons_mk (Below.trod laidOut (by kernel_rfl) (of_decide_eq_true (by kernel_rfl)) k2 bel lt2) trodAll_mk0))), rfl, bel.frame _, fun h => by cases h⟩
/-- The given statement. -/
theorem segmentSpoils_holds : Rows.SegmentSpoilsSaid :=
  OpenClaim.holds_of_wide 7 Try.f7 rfl rfl rfl rfl rfl rfl rfl ⟨rfl, rfl, rfl, rfl, rfl⟩ rfl rfl rfl rfl rfl (by kernel_rfl) Try.func7 (by kernel_rfl)
    (of_decide_eq_true (by kernel_rfl)) (by unfold Func.isWrapper; first | (rw [if_pos (by decide +kernel)]; kernel_rfl) | (rw [if_neg (by decide +kernel)]; exact ⟨rfl, rfl⟩))
    (fun os started H enc _ => liftedSegmentSpoils os started H enc)
#print axioms segmentSpoils_holds
end Go.Proofs.Ytdhajibegkkeiaa
