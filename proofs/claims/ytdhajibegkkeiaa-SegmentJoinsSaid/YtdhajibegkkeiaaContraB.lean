/- Segment: the walk of the reference's Contradict (printed by gen_contrab.py). -/
import Derived.Test.YtdhajibegkkeiaaContra
namespace Go.Proofs.Ytdhajibegkkeiaa
set_option linter.unusedVariables false
set_option linter.unusedSimpArgs false
open Go.RowKit
/-- The world while two segments lie in boxes. -/
structure TwoB (w W : World) (p q : PSeg) : Prop where
  b1 : Blk W w.heap.size 24 #[.int .i64 p.s.off, .slice p.A p.s.data.length p.kap, .bool p.s.last]
  b2 : Blk W (w.heap.size + 1) 24 #[.int .i64 q.s.off, .slice q.A q.s.data.length q.kap, .bool q.s.last]
  bel : Below w.heap.size w W
theorem TwoB.new_ {w W W' : World} {p q : PSeg} (h : TwoB w W p q) (hb : Below W.heap.size W W') : TwoB w W' p q := ⟨h.b1.new_ hb, h.b2.new_ hb, join h.bel hb⟩
theorem TwoB.made (w : World) (p q : PSeg) : TwoB w ((w.alloc (.cells #[.int .i64 p.s.off, .slice p.A p.s.data.length p.kap, .bool p.s.last] 24)).alloc (.cells #[.int .i64 q.s.off, .slice q.A q.s.data.length q.kap, .bool q.s.last] 24)) p q := by
  refine ⟨(Blk.new _ _ _).alloc _, ?_, ((Below.refl _ _).alloc (Nat.le_refl _) _).alloc (by simp) _⟩
  have := Blk.new (w.alloc (.cells #[.int .i64 p.s.off, .slice p.A p.s.data.length p.kap, .bool p.s.last] 24)) 24 #[.int .i64 q.s.off, .slice q.A q.s.data.length q.kap, .bool q.s.last]
  rw [World.size_alloc] at this
  exact this
def Contras (w : World) (a b : Seg) (e : Ending) (w' : World) : Prop := ∃ c, e = .returned (.bool c) ∧ (c = true ↔ Contra a b) ∧ Below w.heap.size w w'
theorem peace_zero (a b : Seg) : Peace a b 0 := fun j hj => absurd hj (by omega)
theorem peace_next {a b : Seg} {i : Nat} (h : Peace a b i) (hx : byteP b (a.off + i) = -1 ∨ byteP b (a.off + i) = a.data.getD i 0) : Peace a b (i + 1) := fun j hj => by
  by_cases e : j = i
  · subst e; exact hx
  · exact h j (by omega)
set_option maxRecDepth 100000 in
set_option maxHeartbeats 8000000 in
theorem contra_c (p q : PSeg) (w : World) (hp : SegAt w w.heap.size p.s p.A p.kap) (hq : SegAt w w.heap.size q.s q.A q.kap) (hvp : validB p.s = true) (hvq : validB q.s = true) :
    Calls Try.prog 30 #[pval p, pval q] w (Contras w p.s q.s) := by
  obtain ⟨x1, x2, x3⟩ := valid_iff.1 hvp
  obtain ⟨y1, y2, y3⟩ := valid_iff.1 hvq
  have x4 : (p.s.data.length : Int) ≤ 64 := by omega
  have x5 : (0 : Int) ≤ p.s.data.length := by omega
  have y4 : (q.s.data.length : Int) ≤ 64 := by omega
  have y5 : (0 : Int) ≤ q.s.data.length := by omega
  have HP := Kept.mk hp
  have HQ := Kept.mk hq
  have HVQ := Kept.mk hvq
  have HT0 := Kept.mk (TwoB.made w p q)
  clear hp hq hvp hvq
  obtain ⟨la, HLA⟩ : ∃ la, Kept (p.s.last = la) := ⟨_, ⟨rfl⟩⟩
  obtain ⟨lb, HLB⟩ : ∃ lb, Kept (q.s.last = lb) := ⟨_, ⟨rfl⟩⟩
  obtain ⟨c, HC⟩ : ∃ c, Kept (c = ((la && decide (p.s.off + p.s.data.length < q.s.off + q.s.data.length)) || (lb && decide (q.s.off + q.s.data.length < p.s.off + p.s.data.length)))) := ⟨_, ⟨rfl⟩⟩
  unfold pval
  rw [HLA.out, HLB.out] at HT0 ⊢
  go_enter Try.func30, Try.ntmps30
  go_upto_region 1 with fail
  go_cut [42] (fun s42 wx => s42 = .bool c ∧ wx = ((w.alloc (.cells #[.int .i64 p.s.off, .slice p.A p.s.data.length p.kap, .bool la] 24)).alloc (.cells #[.int .i64 q.s.off, .slice q.A q.s.data.length q.kap, .bool lb] 24)))
  case first =>
    by_cases h1 : p.s.off + p.s.data.length < q.s.off + q.s.data.length
    · have d1 : decide (p.s.off + (p.s.data.length : Int) < q.s.off + q.s.data.length) = true := by simpa using h1
      have h2 : ¬ q.s.off + (q.s.data.length : Int) < p.s.off + p.s.data.length := by omega
      have d2 : decide (q.s.off + (q.s.data.length : Int) < p.s.off + p.s.data.length) = false := by simpa using h2
      cases la <;> cases lb
      all_goals
        have C := HC.out
        rw [d1, d2] at C
        simp only [Bool.false_and, Bool.and_false, Bool.true_and, Bool.and_true, Bool.or_false, Bool.or_true, Bool.false_or, Bool.true_or] at C
        have CK := Kept.mk C
        clear C
        go_wp2_with fail
        go_meet
        exact ⟨by rw [CK.out], rfl⟩
    · have d1 : decide (p.s.off + (p.s.data.length : Int) < q.s.off + q.s.data.length) = false := by simpa using h1
      by_cases h2 : q.s.off + (q.s.data.length : Int) < p.s.off + p.s.data.length
      · have d2 : decide (q.s.off + (q.s.data.length : Int) < p.s.off + p.s.data.length) = true := by simpa using h2
        cases la <;> cases lb
        all_goals
          have C := HC.out
          rw [d1, d2] at C
          simp only [Bool.false_and, Bool.and_false, Bool.true_and, Bool.and_true, Bool.or_false, Bool.or_true, Bool.false_or, Bool.true_or] at C
          have CK := Kept.mk C
          clear C
          go_wp2_with fail
          go_meet
          exact ⟨by rw [CK.out], rfl⟩
      · have d2 : decide (q.s.off + (q.s.data.length : Int) < p.s.off + p.s.data.length) = false := by simpa using h2
        cases la <;> cases lb
        all_goals
          have C := HC.out
          rw [d1, d2] at C
          simp only [Bool.false_and, Bool.and_false, Bool.true_and, Bool.and_true, Bool.or_false, Bool.or_true, Bool.false_or, Bool.true_or] at C
          have CK := Kept.mk C
          clear C
          go_wp2_with fail
          go_meet
          exact ⟨by rw [CK.out], rfl⟩
  case rest =>
    obtain ⟨rfl, rfl⟩ := hcut
    cases c
    · have HN1 : Kept (¬ (p.s.last = true ∧ p.s.fin < q.s.fin) ∧ ¬ (q.s.last = true ∧ q.s.fin < p.s.fin)) := ⟨by
        have h := HC.out
        rw [HLA.out, HLB.out]
        unfold Seg.fin
        constructor
        · rintro ⟨rfl, h1⟩
          rw [decide_eq_true h1] at h; simp at h
        · rintro ⟨rfl, h1⟩
          rw [decide_eq_true h1] at h; simp at h⟩
      rw [← HLA.out, ← HLB.out]
      rw [← HLA.out, ← HLB.out] at HT0
      clear HLA HLB HC
      go_wp2_with fail
      go_loopw [5] (fun v5 wr => ∃ i : Nat, i ≤ p.s.data.length ∧ v5 = .int .i64 i ∧ Kept (Peace p.s q.s i) ∧ Kept (TwoB w wr p q)) (fun v5 _ => p.s.data.length - (intOf v5).toNat)
      case atStart => exact ⟨0, by omega, rfl, ⟨peace_zero _ _⟩, HT0⟩
      case round =>
        clear HT0
        obtain ⟨i, hi, rfl, HPE, HT⟩ := hrel
        have k0 := HT.out.b1.cell 0 (v := .int .i64 p.s.off) rfl
        have k1 := HT.out.b1.cell 1 (v := .slice p.A p.s.data.length p.kap) rfl
        have l0 := HT.out.b2.cell 0 (v := .int .i64 q.s.off) rfl
        have l1 := HT.out.b2.cell 1 (v := .slice q.A q.s.data.length q.kap) rfl
        have l2 := HT.out.b2.cell 2 (v := .bool q.s.last) rfl
        by_cases hlt : i < p.s.data.length
        · obtain ⟨b, off, e, -, hb, d1, d2, d3⟩ := HP.out.byte hlt
          obtain ⟨x, HX⟩ : ∃ x, Kept (p.s.data.getD i 0 = x) := ⟨_, ⟨rfl⟩⟩
          rw [HX.out] at d1 d2 d3
          have D1 := Kept.mk d1
          have HB := Kept.mk hb
          obtain ⟨y, HY⟩ : ∃ y, Kept (byteP q.s (p.s.off + i) = y) := ⟨_, ⟨rfl⟩⟩
          have HPA := Kept.mk e
          have HQN := Kept.mk ((HQ.out.rd.below HT.out.bel))
          have HQS : Kept (SegAt wr wr.heap.size q.s q.A q.kap) := ⟨⟨HQN.out.more HT.out.bel.size, HQ.out.by_, HQ.out.le, HQ.out.max⟩⟩
          have hyc : y = -1 ∨ ((0 ≤ y ∧ y ≤ 255) ∧ (y = x ∨ (y ≠ x ∧ (y != x) = true))) := by
            have h := byteP_range HQ.out.by_ (p.s.off + i)
            rw [HY.out] at h
            rcases h with h | ⟨h1, h2, _⟩
            · exact .inl h
            · right
              refine ⟨⟨h1, h2⟩, ?_⟩
              by_cases h3 : y = x
              · exact .inl h3
              · exact .inr ⟨h3, by simpa using h3⟩
          have hi1 : (i : Int) < p.s.data.length := by omega
          clear d1 hb e
          rcases hyc with rfl | ⟨⟨yb1, yb2⟩, rfl | ⟨hne, hne2⟩⟩
          · have HN := Kept.mk (peace_next HPE.out (.inl HY.out))
            go_wp2_with (go_at_call 31; go_must (refine (byte_c q (p.s.off + i) _ HQS.out HVQ.out (by omega) (by omega)).mono ?_); rintro e w1 ⟨rfl, hb1⟩; rw [HY.out]; have HT1 := Kept.mk (HT.out.new_ hb1); have m1 := HT1.out.b1.cell 1 (v := .slice p.A p.s.data.length p.kap) rfl; have m2 : w1.cell? ⟨b, off + i, none⟩ = some (.int .u8 x) := (HT1.out.bel.cell (p := ⟨b, off + i, none⟩) HB.out).trans D1.out; rw [HPA.out] at m1; clear hb1)
            go_roundw
            case rel => exact ⟨i + 1, by omega, by go_num, HN, HT1⟩
            case measure => simp [intOf]; omega
          · have HN := Kept.mk (peace_next HPE.out (.inr (by rw [HY.out, HX.out])))
            go_wp2_with (go_at_call 31; go_must (refine (byte_c q (p.s.off + i) _ HQS.out HVQ.out (by omega) (by omega)).mono ?_); rintro e w1 ⟨rfl, hb1⟩; rw [HY.out]; have HT1 := Kept.mk (HT.out.new_ hb1); have m1 := HT1.out.b1.cell 1 (v := .slice p.A p.s.data.length p.kap) rfl; have m2 : w1.cell? ⟨b, off + i, none⟩ = some (.int .u8 y) := (HT1.out.bel.cell (p := ⟨b, off + i, none⟩) HB.out).trans D1.out; rw [HPA.out] at m1; clear hb1)
            go_roundw
            case rel => exact ⟨i + 1, by omega, by go_num, HN, HT1⟩
            case measure => simp [intOf]; omega
          · have HCO := Kept.mk (contra_at HQ.out.by_ hlt (by rw [HY.out]; omega) (by rw [HY.out, HX.out]; exact hne))
            go_wp2_with (go_at_call 31; go_must (refine (byte_c q (p.s.off + i) _ HQS.out HVQ.out (by omega) (by omega)).mono ?_); rintro e w1 ⟨rfl, hb1⟩; rw [HY.out]; have HT1 := Kept.mk (HT.out.new_ hb1); have m1 := HT1.out.b1.cell 1 (v := .slice p.A p.s.data.length p.kap) rfl; have m2 : w1.cell? ⟨b, off + i, none⟩ = some (.int .u8 x) := (HT1.out.bel.cell (p := ⟨b, off + i, none⟩) HB.out).trans D1.out; rw [HPA.out] at m1; clear hb1)
            go_ret
            exact ⟨true, rfl, ⟨fun _ => HCO.out, fun _ => rfl⟩, HT1.out.bel⟩
        · obtain rfl : i = p.s.data.length := by omega
          have HNC := Kept.mk (not_contra HN1.out.1 HN1.out.2 HPE.out HQ.out.by_)
          clear hlt
          go_wp2_with fail
          go_ret
          exact ⟨false, rfl, ⟨(fun h => by cases h), fun h => absurd h HNC.out⟩, HT.out.bel⟩
    · have HCC : Kept (Contra p.s q.s) := ⟨by
        have h := HC.out.symm
        simp only [Bool.or_eq_true, Bool.and_eq_true, decide_eq_true_eq] at h
        rcases h with ⟨h1, h2⟩ | ⟨h1, h2⟩
        · exact .inl ⟨by rw [HLA.out]; exact h1, h2⟩
        · exact .inr (.inl ⟨by rw [HLB.out]; exact h1, h2⟩)⟩
      go_wp2_with fail
      go_ret
      exact ⟨true, rfl, ⟨fun _ => HCC.out, fun _ => rfl⟩, HT0.out.bel⟩
end Go.Proofs.Ytdhajibegkkeiaa
