/- For all segments and places the statement SegmentCuts returns true: Cut divides a segment into two that are joined to it again, or returns the error. No condition. -/
import Derived.Test.YtdhajibegkkeiaaBase
import Derived.Test.YtdhajibegkkeiaaCutB
import Derived.Test.YtdhajibegkkeiaaSame
import Derived.Test.YtdhajibegkkeiaaJoin
import Derived.Test.YtdhajibegkkeiaaPlainK
import Derived.Test.YtdhajibegkkeiaaLits
namespace Go.Proofs.Ytdhajibegkkeiaa
open Go.ChangeShapes Go.WideShapes Go.ChangeAt Go.RowKit
set_option linter.unusedVariables false
set_option linter.unusedSimpArgs false
set_option maxHeartbeats 400000 in
/-- The world while a cut segment and its pieces lie in boxes. -/
structure StC (w W : World) (p p1 q1 : PSeg) (b5 b6 : Nat) : Prop where
  b2 : Blk W w.heap.size 24 #[.int .i64 p.s.off, .slice p.A p.s.data.length p.kap, .bool p.s.last]
  b5 : Blk W b5 24 #[.int .i64 p1.s.off, .slice p1.A p1.s.data.length p1.kap, .bool p1.s.last]
  b6 : Blk W b6 24 #[.int .i64 q1.s.off, .slice q1.A q1.s.data.length q1.kap, .bool q1.s.last]
  s0 : SegAt W W.heap.size p.s p.A p.kap
  s1 : SegAt W W.heap.size p1.s p1.A p1.kap
  s2 : SegAt W W.heap.size q1.s q1.A q1.kap
  bel : Below w.heap.size w W
theorem StC.new_ {w W W' : World} {p p1 q1 : PSeg} {b5 b6 : Nat} (h : StC w W p p1 q1 b5 b6) (hb : Below W.heap.size W W') : StC w W' p p1 q1 b5 b6 :=
  ⟨h.b2.new_ hb, h.b5.new_ hb, h.b6.new_ hb, h.s0.new_ hb, h.s1.new_ hb, h.s2.new_ hb, join h.bel hb⟩
theorem StC.made {w W : World} {p p1 q1 : PSeg} (b2 : Blk W w.heap.size 24 #[.int .i64 p.s.off, .slice p.A p.s.data.length p.kap, .bool p.s.last]) (s0 : SegAt W W.heap.size p.s p.A p.kap) (s1 : SegAt W W.heap.size p1.s p1.A p1.kap) (s2 : SegAt W W.heap.size q1.s q1.A q1.kap) (hb : Below w.heap.size w W) :
    StC w ((W.alloc (.cells #[.int .i64 p1.s.off, .slice p1.A p1.s.data.length p1.kap, .bool p1.s.last] 24)).alloc (.cells #[.int .i64 q1.s.off, .slice q1.A q1.s.data.length q1.kap, .bool q1.s.last] 24)) p p1 q1 W.heap.size (W.heap.size + 1) := by
  have g : Below W.heap.size W ((W.alloc (.cells #[.int .i64 p1.s.off, .slice p1.A p1.s.data.length p1.kap, .bool p1.s.last] 24)).alloc (.cells #[.int .i64 q1.s.off, .slice q1.A q1.s.data.length q1.kap, .bool q1.s.last] 24)) := ((Below.refl _ _).alloc (Nat.le_refl _) _).alloc (by simp) _
  have b6 := Blk.new (W.alloc (.cells #[.int .i64 p1.s.off, .slice p1.A p1.s.data.length p1.kap, .bool p1.s.last] 24)) 24 #[.int .i64 q1.s.off, .slice q1.A q1.s.data.length q1.kap, .bool q1.s.last]
  rw [World.size_alloc] at b6
  exact ⟨b2.new_ g, (Blk.new _ _ _).alloc _, b6, s0.new_ g, s1.new_ g, s2.new_ g, join hb g⟩
theorem StC.cells {w W : World} {p p1 q1 : PSeg} {b5 b6 : Nat} (h : StC w W p p1 q1 b5 b6) :
    (W.cell? ⟨w.heap.size, 0, none⟩ = some (.int .i64 p.s.off) ∧ W.cell? ⟨w.heap.size, 1, none⟩ = some (.slice p.A p.s.data.length p.kap) ∧ W.cell? ⟨w.heap.size, 2, none⟩ = some (.bool p.s.last)) ∧
    (W.cell? ⟨b5, 0, none⟩ = some (.int .i64 p1.s.off) ∧ W.cell? ⟨b5, 1, none⟩ = some (.slice p1.A p1.s.data.length p1.kap) ∧ W.cell? ⟨b5, 2, none⟩ = some (.bool p1.s.last)) ∧
    (W.cell? ⟨b6, 0, none⟩ = some (.int .i64 q1.s.off) ∧ W.cell? ⟨b6, 1, none⟩ = some (.slice q1.A q1.s.data.length q1.kap) ∧ W.cell? ⟨b6, 2, none⟩ = some (.bool q1.s.last)) :=
  ⟨⟨h.b2.cell 0 rfl, h.b2.cell 1 rfl, h.b2.cell 2 rfl⟩, ⟨h.b5.cell 0 rfl, h.b5.cell 1 rfl, h.b5.cell 2 rfl⟩, ⟨h.b6.cell 0 rfl, h.b6.cell 1 rfl, h.b6.cell 2 rfl⟩⟩
theorem seg_zero (W : World) : SegAt W W.heap.size zeroS none 0 := ⟨Reads.none_, fun x hx => by simp [zeroS] at hx, Nat.le_refl _, by unfold maxLen; omega⟩
theorem same_t (p q : PSeg) (w : World) (hp : SegAt w w.heap.size p.s p.A p.kap) (hq : SegAt w w.heap.size q.s q.A q.kap) (h : p.s = q.s) :
    Calls Try.prog 17 #[pval p, pval q] w fun e w' => e = .returned (.bool true) ∧ Below w.heap.size w w' := by
  have := same_c p q w hp hq
  rw [show decide (p.s = q.s) = true by simpa using h] at this
  exact this
theorem ret_b {a b : Bool} (h : a = b) : Ending.returned (.bool a) = .returned (.bool b) := by rw [h]
set_option maxRecDepth 100000 in
set_option maxHeartbeats 2000000 in
theorem walkSegmentCuts (p : PSeg) (i : Int) (w : World) (h : SegAt w w.heap.size p.s p.A p.kap) (ho : -9223372036854775808 ≤ p.s.off ∧ p.s.off ≤ 9223372036854775807) (hi : -9223372036854775808 ≤ i ∧ i ≤ 9223372036854775807) :
    Calls Try.prog 8 #[pval p, .int .i64 i] w fun e w' => e = .returned (.bool true) ∧ Below w.heap.size w w' := by
  have hm := Nat.le_trans h.le h.max
  have hmx := hm
  unfold maxLen at hmx
  have HS := Kept.mk h
  obtain ⟨o1, o2⟩ := ho
  obtain ⟨i1, i2⟩ := hi
  clear h
  have z0 : (0 : Int) ≤ p.s.data.length := by omega
  unfold pval
  by_cases hbig : (100 : Int) < p.s.data.length
  · go_enter Try.func8, Try.ntmps8
    go_wp2_with (go_at_call 11; refine (awake_c _).mono ?_; rintro e w1 ⟨rfl, hb1⟩; have HB := Kept.mk ((Blk.new w 24 #[.int .i64 p.s.off, .slice p.A p.s.data.length p.kap, .bool p.s.last]).new_ hb1); have k0 := HB.out.cell 0 (v := .int .i64 p.s.off) rfl; have k1 := HB.out.cell 1 (v := .slice p.A p.s.data.length p.kap) rfl; have k2 := HB.out.cell 2 (v := .bool p.s.last) rfl; have HJ := Kept.mk (join (w := w) (by go_grown) hb1); clear hb1)
    go_ret
    exact ⟨rfl, HJ.out⟩
  · have hbig' : (p.s.data.length : Int) ≤ 100 := by omega
    cases hv : validB p.s with
    | false =>
      have HV := Kept.mk hv
      have HE := Kept.mk (cutE_bad (i := i) hv)
      have HP : Kept (cutP p.s i = (zeroS, zeroS)) := ⟨by unfold cutP; rw [HE.out, if_neg (by decide)]⟩
      clear hv
      have tok1 : True := trivial
      have tok2 : True := trivial
      go_enter Try.func8, Try.ntmps8
      go_wp2_with (first | (go_at_call 11; refine (awake_c _).mono ?_; rintro e w1 ⟨rfl, hb1⟩; have HB := Kept.mk ((Blk.new w 24 #[.int .i64 p.s.off, .slice p.A p.s.data.length p.kap, .bool p.s.last]).new_ hb1); have k0 := HB.out.cell 0 (v := .int .i64 p.s.off) rfl; have k1 := HB.out.cell 1 (v := .slice p.A p.s.data.length p.kap) rfl; have k2 := HB.out.cell 2 (v := .bool p.s.last) rfl; have HJ := Kept.mk (join (w := w) (by go_grown) hb1); clear hb1) | (go_at_call 28; go_must (refine (cut_c p i _ _ (HS.out.new_ HJ.out) (Nat.le_refl _)).mono ?_); rintro e w2 ⟨p1, q1, rfl, hp1, hq1, hop, hoq, hb2⟩; rw [HE.out]; rw [HP.out] at hp1 hq1; obtain ⟨⟨o1, d1, la1⟩, A1, k1x⟩ := p1; obtain ⟨⟨o2, d2, la2⟩, A2, k2x⟩ := q1; simp only [zeroS, Seg.mk.injEq] at hp1 hq1; obtain ⟨rfl, rfl, rfl⟩ := hp1; obtain ⟨rfl, rfl, rfl⟩ := hq1; have ST : Kept (StC w ((w2.alloc (.cells #[.int .i64 0, .slice A1 0 k1x, .bool false] 24)).alloc (.cells #[.int .i64 0, .slice A2 0 k2x, .bool false] 24)) p ⟨⟨0, [], false⟩, A1, k1x⟩ ⟨⟨0, [], false⟩, A2, k2x⟩ w2.heap.size (w2.heap.size + 1)) := Kept.mk (StC.made (p1 := ⟨⟨0, [], false⟩, A1, k1x⟩) (q1 := ⟨⟨0, [], false⟩, A2, k2x⟩) (HB.out.new_ hb2) ((HS.out.new_ HJ.out).new_ hb2) hop.at_ hoq.at_ (join HJ.out hb2)); have HB2 := Kept.mk (HB.out.new_ hb2); clear k0 k1 k2 hop hoq hb2 HB HJ; have k0 := HB2.out.cell 0 (v := .int .i64 p.s.off) rfl; have k1 := HB2.out.cell 1 (v := .slice p.A p.s.data.length p.kap) rfl; have k2 := HB2.out.cell 2 (v := .bool p.s.last) rfl; have hz : w.heap.size < w2.heap.size := HB2.out.lt; unfold pval) | (go_at_call 14; go_must (refine (valid_c p.s p.A p.kap _ hm).mono ?_); rintro e wn ⟨rfl, hbn⟩; rw [HV.out]; replace ST := Kept.mk (ST.out.new_ hbn); clear k0 k1 k2 hbn; (try clear l0 l1 l2 m0 m1 m2); obtain ⟨⟨k0, k1, k2⟩, ⟨l0, l1, l2⟩, ⟨m0, m1, m2⟩⟩ := ST.out.cells) | (go_at_call 17; have _t := tok1; go_must (refine (same_t ⟨⟨0, [], false⟩, A1, k1x⟩ ⟨zeroS, none, 0⟩ _ ST.out.s1 (seg_zero _) rfl).mono ?_); rintro e wn ⟨rfl, hbn⟩; replace ST := Kept.mk (ST.out.new_ hbn); clear k0 k1 k2 hbn; (try clear l0 l1 l2 m0 m1 m2); clear tok1 _t; obtain ⟨⟨k0, k1, k2⟩, ⟨l0, l1, l2⟩, ⟨m0, m1, m2⟩⟩ := ST.out.cells))
      go_wp2_with (go_at_call 17; have _t := tok2; go_must (refine (same_t ⟨⟨0, [], false⟩, A2, k2x⟩ ⟨zeroS, none, 0⟩ _ ST.out.s2 (seg_zero _) rfl).mono ?_); rintro e wn ⟨rfl, hbn⟩; replace ST := Kept.mk (ST.out.new_ hbn); clear k0 k1 k2 hbn; (try clear l0 l1 l2 m0 m1 m2); clear tok2 _t; obtain ⟨⟨k0, k1, k2⟩, ⟨l0, l1, l2⟩, ⟨m0, m1, m2⟩⟩ := ST.out.cells)
      go_ret
      exact ⟨rfl, ST.out.bel⟩
    | true =>
      have HV := Kept.mk hv
      obtain ⟨x1, x2, x3⟩ := valid_iff.1 hv
      have hcase : i < 0 ∨ (0 ≤ i ∧ ¬ i < 0 ∧ (p.s.data.length : Int) < i) ∨ (0 ≤ i ∧ ¬ i < 0 ∧ i ≤ p.s.data.length) := by omega
      rcases hcase with y1 | ⟨y1, y2, y3⟩ | ⟨y1, y2, y3⟩
      · have HE := Kept.mk (cutE_out hv (.inl y1))
        have HP : Kept (cutP p.s i = (zeroS, zeroS)) := ⟨by unfold cutP; rw [HE.out, if_neg (by decide)]⟩
        have e0 : decide (i < 0) = true := by simpa using y1
        clear hv
        have tok1 : True := trivial
        have tok2 : True := trivial
        go_enter Try.func8, Try.ntmps8
        go_wp2_with (first | (go_at_call 11; refine (awake_c _).mono ?_; rintro e w1 ⟨rfl, hb1⟩; have HB := Kept.mk ((Blk.new w 24 #[.int .i64 p.s.off, .slice p.A p.s.data.length p.kap, .bool p.s.last]).new_ hb1); have k0 := HB.out.cell 0 (v := .int .i64 p.s.off) rfl; have k1 := HB.out.cell 1 (v := .slice p.A p.s.data.length p.kap) rfl; have k2 := HB.out.cell 2 (v := .bool p.s.last) rfl; have HJ := Kept.mk (join (w := w) (by go_grown) hb1); clear hb1) | (go_at_call 28; go_must (refine (cut_c p i _ _ (HS.out.new_ HJ.out) (Nat.le_refl _)).mono ?_); rintro e w2 ⟨p1, q1, rfl, hp1, hq1, hop, hoq, hb2⟩; rw [HE.out]; rw [HP.out] at hp1 hq1; obtain ⟨⟨o1, d1, la1⟩, A1, k1x⟩ := p1; obtain ⟨⟨o2, d2, la2⟩, A2, k2x⟩ := q1; simp only [zeroS, Seg.mk.injEq] at hp1 hq1; obtain ⟨rfl, rfl, rfl⟩ := hp1; obtain ⟨rfl, rfl, rfl⟩ := hq1; have ST : Kept (StC w ((w2.alloc (.cells #[.int .i64 0, .slice A1 0 k1x, .bool false] 24)).alloc (.cells #[.int .i64 0, .slice A2 0 k2x, .bool false] 24)) p ⟨⟨0, [], false⟩, A1, k1x⟩ ⟨⟨0, [], false⟩, A2, k2x⟩ w2.heap.size (w2.heap.size + 1)) := Kept.mk (StC.made (p1 := ⟨⟨0, [], false⟩, A1, k1x⟩) (q1 := ⟨⟨0, [], false⟩, A2, k2x⟩) (HB.out.new_ hb2) ((HS.out.new_ HJ.out).new_ hb2) hop.at_ hoq.at_ (join HJ.out hb2)); have HB2 := Kept.mk (HB.out.new_ hb2); clear k0 k1 k2 hop hoq hb2 HB HJ; have k0 := HB2.out.cell 0 (v := .int .i64 p.s.off) rfl; have k1 := HB2.out.cell 1 (v := .slice p.A p.s.data.length p.kap) rfl; have k2 := HB2.out.cell 2 (v := .bool p.s.last) rfl; have hz : w.heap.size < w2.heap.size := HB2.out.lt; unfold pval) | (go_at_call 14; go_must (refine (valid_c p.s p.A p.kap _ hm).mono ?_); rintro e wn ⟨rfl, hbn⟩; rw [HV.out]; replace ST := Kept.mk (ST.out.new_ hbn); clear k0 k1 k2 hbn; (try clear l0 l1 l2 m0 m1 m2); obtain ⟨⟨k0, k1, k2⟩, ⟨l0, l1, l2⟩, ⟨m0, m1, m2⟩⟩ := ST.out.cells) | (go_at_call 17; have _t := tok1; go_must (refine (same_t ⟨⟨0, [], false⟩, A1, k1x⟩ ⟨zeroS, none, 0⟩ _ ST.out.s1 (seg_zero _) rfl).mono ?_); rintro e wn ⟨rfl, hbn⟩; replace ST := Kept.mk (ST.out.new_ hbn); clear k0 k1 k2 hbn; (try clear l0 l1 l2 m0 m1 m2); clear tok1 _t; obtain ⟨⟨k0, k1, k2⟩, ⟨l0, l1, l2⟩, ⟨m0, m1, m2⟩⟩ := ST.out.cells))
        go_wp2_with (go_at_call 17; have _t := tok2; go_must (refine (same_t ⟨⟨0, [], false⟩, A2, k2x⟩ ⟨zeroS, none, 0⟩ _ ST.out.s2 (seg_zero _) rfl).mono ?_); rintro e wn ⟨rfl, hbn⟩; replace ST := Kept.mk (ST.out.new_ hbn); clear k0 k1 k2 hbn; (try clear l0 l1 l2 m0 m1 m2); clear tok2 _t; obtain ⟨⟨k0, k1, k2⟩, ⟨l0, l1, l2⟩, ⟨m0, m1, m2⟩⟩ := ST.out.cells)
        go_ret
        exact ⟨rfl, ST.out.bel⟩
      · have HE := Kept.mk (cutE_out hv (.inr y3))
        have HP : Kept (cutP p.s i = (zeroS, zeroS)) := ⟨by unfold cutP; rw [HE.out, if_neg (by decide)]⟩
        have e0 : decide (i < 0) = false := by simpa using y2
        clear hv
        have tok1 : True := trivial
        have tok2 : True := trivial
        go_enter Try.func8, Try.ntmps8
        go_wp2_with (first | (go_at_call 11; refine (awake_c _).mono ?_; rintro e w1 ⟨rfl, hb1⟩; have HB := Kept.mk ((Blk.new w 24 #[.int .i64 p.s.off, .slice p.A p.s.data.length p.kap, .bool p.s.last]).new_ hb1); have k0 := HB.out.cell 0 (v := .int .i64 p.s.off) rfl; have k1 := HB.out.cell 1 (v := .slice p.A p.s.data.length p.kap) rfl; have k2 := HB.out.cell 2 (v := .bool p.s.last) rfl; have HJ := Kept.mk (join (w := w) (by go_grown) hb1); clear hb1) | (go_at_call 28; go_must (refine (cut_c p i _ _ (HS.out.new_ HJ.out) (Nat.le_refl _)).mono ?_); rintro e w2 ⟨p1, q1, rfl, hp1, hq1, hop, hoq, hb2⟩; rw [HE.out]; rw [HP.out] at hp1 hq1; obtain ⟨⟨o1, d1, la1⟩, A1, k1x⟩ := p1; obtain ⟨⟨o2, d2, la2⟩, A2, k2x⟩ := q1; simp only [zeroS, Seg.mk.injEq] at hp1 hq1; obtain ⟨rfl, rfl, rfl⟩ := hp1; obtain ⟨rfl, rfl, rfl⟩ := hq1; have ST : Kept (StC w ((w2.alloc (.cells #[.int .i64 0, .slice A1 0 k1x, .bool false] 24)).alloc (.cells #[.int .i64 0, .slice A2 0 k2x, .bool false] 24)) p ⟨⟨0, [], false⟩, A1, k1x⟩ ⟨⟨0, [], false⟩, A2, k2x⟩ w2.heap.size (w2.heap.size + 1)) := Kept.mk (StC.made (p1 := ⟨⟨0, [], false⟩, A1, k1x⟩) (q1 := ⟨⟨0, [], false⟩, A2, k2x⟩) (HB.out.new_ hb2) ((HS.out.new_ HJ.out).new_ hb2) hop.at_ hoq.at_ (join HJ.out hb2)); have HB2 := Kept.mk (HB.out.new_ hb2); clear k0 k1 k2 hop hoq hb2 HB HJ; have k0 := HB2.out.cell 0 (v := .int .i64 p.s.off) rfl; have k1 := HB2.out.cell 1 (v := .slice p.A p.s.data.length p.kap) rfl; have k2 := HB2.out.cell 2 (v := .bool p.s.last) rfl; have hz : w.heap.size < w2.heap.size := HB2.out.lt; unfold pval) | (go_at_call 14; go_must (refine (valid_c p.s p.A p.kap _ hm).mono ?_); rintro e wn ⟨rfl, hbn⟩; rw [HV.out]; replace ST := Kept.mk (ST.out.new_ hbn); clear k0 k1 k2 hbn; (try clear l0 l1 l2 m0 m1 m2); obtain ⟨⟨k0, k1, k2⟩, ⟨l0, l1, l2⟩, ⟨m0, m1, m2⟩⟩ := ST.out.cells) | (go_at_call 17; have _t := tok1; go_must (refine (same_t ⟨⟨0, [], false⟩, A1, k1x⟩ ⟨zeroS, none, 0⟩ _ ST.out.s1 (seg_zero _) rfl).mono ?_); rintro e wn ⟨rfl, hbn⟩; replace ST := Kept.mk (ST.out.new_ hbn); clear k0 k1 k2 hbn; (try clear l0 l1 l2 m0 m1 m2); clear tok1 _t; obtain ⟨⟨k0, k1, k2⟩, ⟨l0, l1, l2⟩, ⟨m0, m1, m2⟩⟩ := ST.out.cells))
        go_wp2_with (go_at_call 17; have _t := tok2; go_must (refine (same_t ⟨⟨0, [], false⟩, A2, k2x⟩ ⟨zeroS, none, 0⟩ _ ST.out.s2 (seg_zero _) rfl).mono ?_); rintro e wn ⟨rfl, hbn⟩; replace ST := Kept.mk (ST.out.new_ hbn); clear k0 k1 k2 hbn; (try clear l0 l1 l2 m0 m1 m2); clear tok2 _t; obtain ⟨⟨k0, k1, k2⟩, ⟨l0, l1, l2⟩, ⟨m0, m1, m2⟩⟩ := ST.out.cells)
        go_ret
        exact ⟨rfl, ST.out.bel⟩
      · obtain ⟨n, rfl⟩ : ∃ n : Nat, i = n := ⟨i.toNat, by omega⟩
        have hn : n ≤ p.s.data.length := by omega
        have HE := Kept.mk (cutE_zero hv hn)
        have HP := Kept.mk (cutP_zero hv hn)
        have HVP := Kept.mk (valid_pieces hv hn)
        have HCJ := fun r h => cut_join (r := r) hv hn h
        have e0 : decide ((n : Int) < 0) = false := by simp
        clear hv
        have tok1 : True := trivial
        go_enter Try.func8, Try.ntmps8
        go_wp2_with (first | (go_at_call 11; refine (awake_c _).mono ?_; rintro e w1 ⟨rfl, hb1⟩; have HB := Kept.mk ((Blk.new w 24 #[.int .i64 p.s.off, .slice p.A p.s.data.length p.kap, .bool p.s.last]).new_ hb1); have k0 := HB.out.cell 0 (v := .int .i64 p.s.off) rfl; have k1 := HB.out.cell 1 (v := .slice p.A p.s.data.length p.kap) rfl; have k2 := HB.out.cell 2 (v := .bool p.s.last) rfl; have HJ := Kept.mk (join (w := w) (by go_grown) hb1); clear hb1) | (go_at_call 28; go_must (refine (cut_c p n _ _ (HS.out.new_ HJ.out) (Nat.le_refl _)).mono ?_); rintro e w2 ⟨p1, q1, rfl, hp1, hq1, hop, hoq, hb2⟩; rw [HE.out]; rw [HP.out] at hp1 hq1; obtain ⟨⟨o1, d1, la1⟩, A1, k1x⟩ := p1; obtain ⟨⟨o2, d2, la2⟩, A2, k2x⟩ := q1; simp only [Seg.mk.injEq] at hp1 hq1; obtain ⟨rfl, hd1, rfl⟩ := hp1; obtain ⟨rfl, hd2, rfl⟩ := hq1; have HD1 := Kept.mk hd1; have HD2 := Kept.mk hd2; have t1 : ((d1.length : Int) != n) = false := (by rw [hd1, List.length_take, Nat.min_eq_left hn]; simp); clear hd1 hd2; have ST : Kept (StC w ((w2.alloc (.cells #[.int .i64 p.s.off, .slice A1 d1.length k1x, .bool false] 24)).alloc (.cells #[.int .i64 (p.s.off + n), .slice A2 d2.length k2x, .bool p.s.last] 24)) p ⟨⟨p.s.off, d1, false⟩, A1, k1x⟩ ⟨⟨p.s.off + n, d2, p.s.last⟩, A2, k2x⟩ w2.heap.size (w2.heap.size + 1)) := Kept.mk (StC.made (p1 := ⟨⟨p.s.off, d1, false⟩, A1, k1x⟩) (q1 := ⟨⟨p.s.off + n, d2, p.s.last⟩, A2, k2x⟩) (HB.out.new_ hb2) ((HS.out.new_ HJ.out).new_ hb2) hop.at_ hoq.at_ (join HJ.out hb2)); have HB2 := Kept.mk (HB.out.new_ hb2); clear k0 k1 k2 hop hoq hb2 HB HJ; have k0 := HB2.out.cell 0 (v := .int .i64 p.s.off) rfl; have k1 := HB2.out.cell 1 (v := .slice p.A p.s.data.length p.kap) rfl; have k2 := HB2.out.cell 2 (v := .bool p.s.last) rfl; have hz : w.heap.size < w2.heap.size := HB2.out.lt; unfold pval) | (go_at_call 14; have _t := tok1; go_must (refine (valid_c p.s p.A p.kap _ hm).mono ?_); rintro e wn ⟨rfl, hbn⟩; rw [HV.out]; replace ST := Kept.mk (ST.out.new_ hbn); clear k0 k1 k2 hbn tok1 _t; obtain ⟨⟨k0, k1, k2⟩, ⟨l0, l1, l2⟩, ⟨m0, m1, m2⟩⟩ := ST.out.cells; have LS : Kept (SegsAt (wn.alloc (.cells #[.int .i64 (p.s.off + n), .slice A2 d2.length k2x, .bool p.s.last, .int .i64 p.s.off, .slice A1 d1.length k1x, .bool false] 24)) (wn.heap.size + 1) (some ⟨wn.heap.size, 0, none⟩) [⟨⟨p.s.off + n, d2, p.s.last⟩, A2, k2x⟩, ⟨⟨p.s.off, d1, false⟩, A1, k1x⟩]) := ⟨lit_segs (ps := [⟨⟨p.s.off + n, d2, p.s.last⟩, A2, k2x⟩, ⟨⟨p.s.off, d1, false⟩, A1, k1x⟩]) (fun x hx => by rcases List.mem_cons.1 hx with rfl | hx; exact ST.out.s2; rcases List.mem_cons.1 hx with rfl | hx; exact ST.out.s1; cases hx)⟩) | (go_at_call 25; go_must (refine (join_c [⟨⟨p.s.off + n, d2, p.s.last⟩, A2, k2x⟩, ⟨⟨p.s.off, d1, false⟩, A1, k1x⟩] (some ⟨wn.heap.size, 0, none⟩) 2 _ (wn.heap.size + 1) LS.out (by simp) (by simp)).mono ?_); rintro e w4 ⟨r, v, hj, hby, rfl, ho, hb4⟩; obtain rfl := HCJ r (by rw [← HD1.out, ← HD2.out]; exact hj); obtain ⟨A3, k3, rfl⟩ := own_slice ho; replace ST := Kept.mk (ST.out.new_ (join ((Below.refl _ _).alloc (Nat.le_refl _) _) hb4)); have kv := conv_reads (P := Try.prog) (kap := k3) 22 5 9 Try.underlying22 Try.underlying5 Try.underlying9 (Reads.of_own ho); have kw := conv_reads (P := Try.prog) (kap := p.kap) 22 5 9 Try.underlying22 Try.underlying5 Try.underlying9 ST.out.s0.rd; clear k0 k1 k2 hb4 ho hj hby; (try clear l0 l1 l2 m0 m1 m2); obtain ⟨⟨k0, k1, k2⟩, ⟨l0, l1, l2⟩, ⟨m0, m1, m2⟩⟩ := ST.out.cells))
        go_ret
        exact ⟨rfl, ST.out.bel⟩

set_option maxRecDepth 100000 in
theorem liftedSegmentCuts (os : Os) (started : os.Started) (H : Type) (enc : TypeId × Value → H) :
    ReturnsInHanded {} Try.checked os 8 .any (Rows.segmentCutsSpec.pre6 enc Try.prog Try.f8 Rows.segmentCutsRow.domain false) (Rows.segmentCutsSpec.post enc Try.prog Try.f8 false true false false) := by
  refine returnsInHanded_of_change (C := Try.checked) own started (by kernel_rfl) Try.func8
    (ChangeSpec.witness6 (enc := enc) (C := Try.checked) false ⟨#[], #[.agg #[.int .i64 0, .slice none 0 0, .bool false], .int .i64 0], []⟩ 8 (by kernel_rfl) (by kernel_rfl) (by kernel_rfl) (by kernel_rfl)) ?_
  intro W base args ds gs before hval0 hW hcnd _
  have hval : ∀ (j : Nat) t v, Try.f8.params[j]? = some t → args[j]? = some v → Value.okWide Try.prog W .any base t v := hval0
  have hW' := hW
  obtain ⟨p, q, hA0, hV, rfl, hfz, hnd⟩ := hW
  have hA : DataW.TrodAll enc Try.prog W 0 (fun _ => true) true Try.f8.params.toList args.toList ds p := hA0
  rw [Try.params8] at hA hval
  obtain ⟨v0, vs0, d0, ds0, p0, q0, hargs, rfl, rfl, h0, r0⟩ := trodAll_cons hA
  obtain ⟨v1, vs1, d1, ds1, p1, q1, rfl, rfl, rfl, h1, r1⟩ := trodAll_cons r0
  obtain ⟨rfl, rfl, rfl⟩ := trodAll_nil r1
  obtain rfl : args = #[v0, v1] := by cases args; simp_all
  obtain ⟨rfl, rfl⟩ := trodVars_none hV
  have k0 := h0
  have lt0 : ∀ x ∈ p0, x.block < W.heap.size := by obtain ⟨m, hm⟩ := k0; exact DataW.trod_lt m _ _ _ hm
  have k1 := h1
  have lt1 : ∀ x ∈ p1, x.block < W.heap.size := by obtain ⟨m, hm⟩ := k1; exact DataW.trod_lt m _ _ _ hm
  obtain ⟨a0, rfl, s0, o0⟩ := open_seg (hval 0 24 v0 rfl rfl) h0
  obtain ⟨a1, rfl, -, -, ww1⟩ := open_int Try.underlying3 (hval 1 3 v1 rfl rfl) h1
  have w1 := bounds_i64 ww1
  clear hA0 hval0
  refine (walkSegmentCuts a0 a1 W s0 o0 w1).mono fun e W' ⟨he, bel⟩ => ?_
  subst he
  exact ⟨_, rfl, _, _, _, [], _, [], hW', trodAll_mk1 (shut_bool Try.underlying4 _), (trodAll_cons_mk (Below.trod laidOut (by kernel_rfl) (of_decide_eq_true (by kernel_rfl)) k0 bel lt0) (trodAll_cons_mk (Below.trod laidOut (by kernel_rfl) (of_decide_eq_true (by kernel_rfl)) k1 bel lt1) trodAll_mk0)), rfl, bel.frame _, fun h => by cases h⟩
/-- The given statement. -/
theorem segmentCuts_holds : Rows.SegmentCutsSaid :=
  OpenClaim.holds_of_wide 8 Try.f8 rfl rfl rfl rfl rfl rfl rfl ⟨rfl, rfl, rfl, rfl, rfl⟩ rfl rfl rfl rfl rfl (by kernel_rfl) Try.func8 (by kernel_rfl)
    (of_decide_eq_true (by kernel_rfl)) (by unfold Func.isWrapper; first | (rw [if_pos (by decide +kernel)]; kernel_rfl) | (rw [if_neg (by decide +kernel)]; exact ⟨rfl, rfl⟩))
    (fun os started H enc _ => liftedSegmentCuts os started H enc)
#print axioms segmentCuts_holds
end Go.Proofs.Ytdhajibegkkeiaa
