/- For all segments the statement SegmentCodes returns true: Encode returns the specified code, and Decode the segment. No condition. -/
import Derived.Test.YtdhajibegkkeiaaBase
import Derived.Test.YtdhajibegkkeiaaSame
import Derived.Test.YtdhajibegkkeiaaDec
import Derived.Test.YtdhajibegkkeiaaCode
import Derived.Test.YtdhajibegkkeiaaLits
namespace Go.Proofs.Ytdhajibegkkeiaa
open Go.ChangeShapes Go.WideShapes Go.ChangeAt Go.RowKit
set_option linter.unusedVariables false
set_option linter.unusedSimpArgs false
structure StD (w W : World) (p q : PSeg) (b5 : Nat) (A3 : Option Addr) : Prop where
  b1 : Blk W w.heap.size 24 #[.int .i64 p.s.off, .slice p.A p.s.data.length p.kap, .bool p.s.last]
  b5 : Blk W b5 24 #[.int .i64 q.s.off, .slice q.A q.s.data.length q.kap, .bool q.s.last]
  rd : Reads W W.heap.size 1 A3 (codeP p.s).length (bv (codeP p.s))
  s0 : SegAt W W.heap.size p.s p.A p.kap
  s1 : SegAt W W.heap.size q.s q.A q.kap
  bel : Below w.heap.size w W
theorem StD.new_ {w W W' : World} {p q : PSeg} {b5 : Nat} {A3 : Option Addr} (h : StD w W p q b5 A3) (hb : Below W.heap.size W W') : StD w W' p q b5 A3 :=
  ⟨h.b1.new_ hb, h.b5.new_ hb, (h.rd.below hb).more hb.size, h.s0.new_ hb, h.s1.new_ hb, join h.bel hb⟩
theorem same_t (p q : PSeg) (w : World) (hp : SegAt w w.heap.size p.s p.A p.kap) (hq : SegAt w w.heap.size q.s q.A q.kap) (h : p.s = q.s) :
    Calls Try.prog 17 #[pval p, pval q] w fun e w' => e = .returned (.bool true) ∧ Below w.heap.size w w' := by
  have := same_c p q w hp hq
  rw [show decide (p.s = q.s) = true by simpa using h] at this
  exact this
theorem std_keep {w W : World} {p : PSeg} {A5 : Option Addr} {k5 b5 : Nat} {A3 : Option Addr} {n : Nat} (h : StD w W p ⟨p.s, A5, k5⟩ b5 A3) (hn : (codeP p.s).length = n) (k3 : Nat) :
    W.cell? ⟨w.heap.size, 0, none⟩ = some (.int .i64 p.s.off) ∧ W.cell? ⟨w.heap.size, 1, none⟩ = some (.slice p.A p.s.data.length p.kap) ∧ W.cell? ⟨w.heap.size, 2, none⟩ = some (.bool p.s.last) ∧ W.cell? ⟨b5, 0, none⟩ = some (.int .i64 p.s.off) ∧ W.cell? ⟨b5, 1, none⟩ = some (.slice A5 p.s.data.length k5) ∧ W.cell? ⟨b5, 2, none⟩ = some (.bool p.s.last) ∧ (convert 22 9 (.slice A3 n k3)).run Try.prog W = .ok (.string (strOfNums (codeP p.s))) W := by
  have hc := conv_reads (P := Try.prog) (kap := k3) 22 5 9 Try.underlying22 Try.underlying5 Try.underlying9 h.rd
  rw [hn] at hc
  exact ⟨h.b1.cell 0 rfl, h.b1.cell 1 rfl, h.b1.cell 2 rfl, h.b5.cell 0 rfl, h.b5.cell 1 rfl, h.b5.cell 2 rfl, hc⟩
set_option maxRecDepth 100000 in
set_option maxHeartbeats 8000000 in
theorem walkSegmentCodes (p : PSeg) (w : World) (h : SegAt w w.heap.size p.s p.A p.kap) (ho : -9223372036854775808 ≤ p.s.off ∧ p.s.off ≤ 9223372036854775807) :
    Calls Try.prog 3 #[pval p] w fun e w' => e = .returned (.bool true) ∧ Below w.heap.size w w' := by
  have hm := Nat.le_trans h.le h.max
  have hmx := hm
  unfold maxLen at hmx
  have HS := Kept.mk h
  obtain ⟨o1, o2⟩ := ho
  clear h
  have z0 : (0 : Int) ≤ p.s.data.length := by omega
  unfold pval
  by_cases hbig : (100 : Int) < p.s.data.length
  · go_enter Try.func3, Try.ntmps3
    go_wp2_with (go_at_call 11; refine (awake_c _).mono ?_; rintro e w1 ⟨rfl, hb1⟩; have HB := Kept.mk ((Blk.new w 24 #[.int .i64 p.s.off, .slice p.A p.s.data.length p.kap, .bool p.s.last]).new_ hb1); have k0 := HB.out.cell 0 (v := .int .i64 p.s.off) rfl; have k1 := HB.out.cell 1 (v := .slice p.A p.s.data.length p.kap) rfl; have k2 := HB.out.cell 2 (v := .bool p.s.last) rfl; have HJ := Kept.mk (join (w := w) (by go_grown) hb1); clear hb1)
    go_ret
    exact ⟨rfl, HJ.out⟩
  · have hbig' : (p.s.data.length : Int) ≤ 100 := by omega
    cases hv : validB p.s with
    | false =>
      have HV := Kept.mk hv
      have EV : Kept ((if validB p.s = true then (0 : Int) else 1) = 1) := ⟨by rw [hv]; rfl⟩
      have EP : Kept (encP p.s = []) := ⟨by unfold encP; rw [hv]; rfl⟩
      clear hv
      go_enter Try.func3, Try.ntmps3
      go_wp2_with (first | (go_at_call 11; refine (awake_c _).mono ?_; rintro e w1 ⟨rfl, hb1⟩; have HB := Kept.mk ((Blk.new w 24 #[.int .i64 p.s.off, .slice p.A p.s.data.length p.kap, .bool p.s.last]).new_ hb1); have k0 := HB.out.cell 0 (v := .int .i64 p.s.off) rfl; have k1 := HB.out.cell 1 (v := .slice p.A p.s.data.length p.kap) rfl; have k2 := HB.out.cell 2 (v := .bool p.s.last) rfl; have HJ := Kept.mk (join (w := w) (by go_grown) hb1); clear hb1) | (go_at_call 12; go_must (refine (encode_c p _ _ (HS.out.new_ HJ.out) (Nat.le_refl _)).mono ?_); rintro e wn ⟨v, rfl, hby, hown, hbn⟩; rw [EV.out]; rw [EP.out] at hown; obtain ⟨A3, k3, rfl⟩ := own_slice hown; clear hown hby; replace HB := Kept.mk (HB.out.new_ hbn); replace HJ := Kept.mk (join HJ.out hbn); clear k0 k1 k2 hbn; have k0 := HB.out.cell 0 (v := .int .i64 p.s.off) rfl; have k1 := HB.out.cell 1 (v := .slice p.A p.s.data.length p.kap) rfl; have k2 := HB.out.cell 2 (v := .bool p.s.last) rfl) | (go_at_call 13; go_must (refine (refValid_c p.s p.A p.kap _ hm).mono ?_); rintro e wn ⟨rfl, hbn⟩; rw [HV.out]; replace HB := Kept.mk (HB.out.new_ hbn); replace HJ := Kept.mk (join HJ.out hbn); clear k0 k1 k2 hbn; have k0 := HB.out.cell 0 (v := .int .i64 p.s.off) rfl; have k1 := HB.out.cell 1 (v := .slice p.A p.s.data.length p.kap) rfl; have k2 := HB.out.cell 2 (v := .bool p.s.last) rfl) | (go_at_call 14; go_must (refine (valid_c p.s p.A p.kap _ hm).mono ?_); rintro e wn ⟨rfl, hbn⟩; rw [HV.out]; replace HB := Kept.mk (HB.out.new_ hbn); replace HJ := Kept.mk (join HJ.out hbn); clear k0 k1 k2 hbn; have k0 := HB.out.cell 0 (v := .int .i64 p.s.off) rfl; have k1 := HB.out.cell 1 (v := .slice p.A p.s.data.length p.kap) rfl; have k2 := HB.out.cell 2 (v := .bool p.s.last) rfl))
      go_ret
      exact ⟨rfl, HJ.out⟩
    | true =>
      have HV := Kept.mk hv
      obtain ⟨x1, x2, x3⟩ := valid_iff.1 hv
      have EV : Kept ((if validB p.s = true then (0 : Int) else 1) = 0) := ⟨by rw [hv]; rfl⟩
      have EP : Kept (encP p.s = codeP p.s) := ⟨by unfold encP; rw [hv]; rfl⟩
      have HCL : Kept ((codeP p.s).length = 8 + p.s.data.length) := ⟨codeP_len p.s⟩
      clear hv
      go_enter Try.func3, Try.ntmps3
      go_upto_region 9 with (first | (go_at_call 11; refine (awake_c _).mono ?_; rintro e w1 ⟨rfl, hb1⟩; have HB := Kept.mk ((Blk.new w 24 #[.int .i64 p.s.off, .slice p.A p.s.data.length p.kap, .bool p.s.last]).new_ hb1); have k0 := HB.out.cell 0 (v := .int .i64 p.s.off) rfl; have k1 := HB.out.cell 1 (v := .slice p.A p.s.data.length p.kap) rfl; have k2 := HB.out.cell 2 (v := .bool p.s.last) rfl; have HJ := Kept.mk (join (w := w) (by go_grown) hb1); clear hb1) | (go_at_call 12; go_must (refine (encode_c p _ _ (HS.out.new_ HJ.out) (Nat.le_refl _)).mono ?_); rintro e w2 ⟨v, rfl, hby, hown, hbn⟩; rw [EV.out]; rw [EP.out, HCL.out] at hown; obtain ⟨A3, k3, rfl⟩ := own_slice hown; have HO3 := Kept.mk hown; clear hown hby; replace HB := Kept.mk (HB.out.new_ hbn); replace HJ := Kept.mk (join HJ.out hbn); clear k0 k1 k2 hbn; have k0 := HB.out.cell 0 (v := .int .i64 p.s.off) rfl; have k1 := HB.out.cell 1 (v := .slice p.A p.s.data.length p.kap) rfl; have k2 := HB.out.cell 2 (v := .bool p.s.last) rfl) | (go_at_call 13; go_must (refine (refValid_c p.s p.A p.kap _ hm).mono ?_); rintro e w4 ⟨rfl, hbn⟩; rw [HV.out]; have HO4 := Kept.mk (own_new HO3.out hbn); replace HB := Kept.mk (HB.out.new_ hbn); replace HJ := Kept.mk (join HJ.out hbn); clear k0 k1 k2 hbn; have k0 := HB.out.cell 0 (v := .int .i64 p.s.off) rfl; have k1 := HB.out.cell 1 (v := .slice p.A p.s.data.length p.kap) rfl; have k2 := HB.out.cell 2 (v := .bool p.s.last) rfl) | (go_at_call 15; go_must (refine (decode_c p.s A3 k3 _ _ (Reads.of_own HO4.out) (Nat.le_refl _) (own_cap HO4.out).1 (own_cap HO4.out).2 HV.out HS.out.by_).mono ?_); rintro e w5 ⟨⟨s5, A5, k5⟩, rfl, rfl, ho5, hb5⟩; have hs5 := Kept.mk ho5.at_; have HO5 := Kept.mk (own_new HO4.out hb5); have HBN := hb5; have hbn := hb5; clear ho5 hb5; replace HB := Kept.mk (HB.out.new_ hbn); replace HJ := Kept.mk (join HJ.out hbn); clear k0 k1 k2 hbn; have k0 := HB.out.cell 0 (v := .int .i64 p.s.off) rfl; have k1 := HB.out.cell 1 (v := .slice p.A p.s.data.length p.kap) rfl; have k2 := HB.out.cell 2 (v := .bool p.s.last) rfl; have hz5 := HB.out.lt; unfold pval))
      have SD : Kept (StD w (w5.alloc (.cells #[.int .i64 p.s.off, .slice A5 p.s.data.length k5, .bool p.s.last] 24)) p ⟨p.s, A5, k5⟩ w5.heap.size A3) := ⟨⟨HB.out.alloc _, Blk.new _ _ _, by rw [HCL.out]; exact (Reads.of_own HO5.out).alloc (Nat.le_refl _) _ |>.more (by simp), ((HS.out.new_ HJ.out).new_ ((Below.refl _ _).alloc (Nat.le_refl _) _)), (hs5.out.new_ ((Below.refl _ _).alloc (Nat.le_refl _) _)), HJ.out.alloc HJ.out.size _⟩⟩
      clear k0 k1 k2
      refine wp_region_held_drew (S := (fun w' => w'.cell? ⟨w.heap.size, 0, none⟩ = some (.int .i64 p.s.off) ∧ w'.cell? ⟨w.heap.size, 1, none⟩ = some (.slice p.A p.s.data.length p.kap) ∧ w'.cell? ⟨w.heap.size, 2, none⟩ = some (.bool p.s.last) ∧ w'.cell? ⟨w5.heap.size, 0, none⟩ = some (.int .i64 p.s.off) ∧ w'.cell? ⟨w5.heap.size, 1, none⟩ = some (.slice A5 p.s.data.length k5) ∧ w'.cell? ⟨w5.heap.size, 2, none⟩ = some (.bool p.s.last) ∧ (convert 22 9 (.slice A3 (8 + p.s.data.length) k3)).run Try.prog w' = .ok (.string (strOfNums (codeP p.s))) w')) (by kernel_rfl) (by (try dsimp only); (first | exact std_keep SD.out HCL.out k3 | exact std_keep (SD.out.new_ (Below.refl _ _).drew) HCL.out k3)) (fun hHeld => ?_)
      refine wpAnyH_take (i := 0) (v := ?_) rfl (by kernel_rfl) (by kernel_rfl) (by kernel_rfl) (fun _ _ _ h => h) (Or.inl ⟨by rfl, ?_⟩) (by assumption) ?_; rotate_left; (intro w hSw; (try dsimp only at hSw); go_simp; try (with_reducible rfl)); try simp only [Act.put, List.setIfInBounds_toArray, List.set_cons_zero, List.set_cons_succ, List.getElem_toArray, List.getElem_cons_succ, List.getElem_cons_zero]
      refine wpAnyH_take (i := 1) (v := ?_) rfl (by kernel_rfl) (by kernel_rfl) (by kernel_rfl) (fun _ _ _ h => h) (Or.inl ⟨by rfl, ?_⟩) (by assumption) ?_; rotate_left; (intro w hSw; (try dsimp only at hSw); go_simp; try (with_reducible rfl)); try simp only [Act.put, List.setIfInBounds_toArray, List.set_cons_zero, List.set_cons_succ, List.getElem_toArray, List.getElem_cons_succ, List.getElem_cons_zero]
      refine wpAnyH_take (i := 2) (v := ?_) rfl (by kernel_rfl) (by kernel_rfl) (by kernel_rfl) (fun _ _ _ h => h) (Or.inl ⟨by rfl, ?_⟩) (by assumption) ?_; rotate_left; (intro w hSw; (try dsimp only at hSw); go_simp; try (with_reducible rfl)); try simp only [Act.put, List.setIfInBounds_toArray, List.set_cons_zero, List.set_cons_succ, List.getElem_toArray, List.getElem_cons_succ, List.getElem_cons_zero]
      refine wpAnyH_take (i := 3) (v := ?_) rfl (by kernel_rfl) (by kernel_rfl) (by kernel_rfl) (fun _ _ _ h => h) (Or.inl ⟨by rfl, ?_⟩) (by assumption) ?_; rotate_left; (intro w hSw; (try dsimp only at hSw); go_simp; try (with_reducible rfl)); try simp only [Act.put, List.setIfInBounds_toArray, List.set_cons_zero, List.set_cons_succ, List.getElem_toArray, List.getElem_cons_succ, List.getElem_cons_zero]
      refine wpAnyH_take (i := 4) (v := ?_) rfl (by kernel_rfl) (by kernel_rfl) (by kernel_rfl) (fun _ _ _ h => h) (Or.inl ⟨by rfl, ?_⟩) (by assumption) ?_; rotate_left; (intro w hSw; (try dsimp only at hSw); go_simp; try (with_reducible rfl)); try simp only [Act.put, List.setIfInBounds_toArray, List.set_cons_zero, List.set_cons_succ, List.getElem_toArray, List.getElem_cons_succ, List.getElem_cons_zero]
      refine wpAnyH_take (i := 5) (v := ?_) rfl (by kernel_rfl) (by kernel_rfl) (by kernel_rfl) (fun _ _ _ h => h) (Or.inl ⟨by rfl, ?_⟩) (by assumption) ?_; rotate_left; (intro w hSw; (try dsimp only at hSw); go_simp; try (with_reducible rfl)); try simp only [Act.put, List.setIfInBounds_toArray, List.set_cons_zero, List.set_cons_succ, List.getElem_toArray, List.getElem_cons_succ, List.getElem_cons_zero]
      refine wpAnyH_take (i := 6) (v := ?_) rfl (by kernel_rfl) (by kernel_rfl) (by kernel_rfl) (fun _ _ _ h => h) (Or.inl ⟨by rfl, ?_⟩) (by assumption) ?_; rotate_left; (intro w hSw; (try dsimp only at hSw); go_simp; try (with_reducible rfl)); try simp only [Act.put, List.setIfInBounds_toArray, List.set_cons_zero, List.set_cons_succ, List.getElem_toArray, List.getElem_cons_succ, List.getElem_cons_zero]
      refine wpAnyH_take (i := 7) (v := ?_) rfl (by kernel_rfl) (by kernel_rfl) (by kernel_rfl) (fun _ _ _ h => h) (Or.inl ⟨by rfl, ?_⟩) (by assumption) ?_; rotate_left; (intro w hSw; (try dsimp only at hSw); go_simp; try (with_reducible rfl)); try simp only [Act.put, List.setIfInBounds_toArray, List.set_cons_zero, List.set_cons_succ, List.getElem_toArray, List.getElem_cons_succ, List.getElem_cons_zero]
      refine wpAnyH_ready (rs := [8]) (by kernel_rfl) (by simp) ?_; refine AllReadyH.cons rfl (fun K hK => ?_) AllReadyH.nil; go_simp
      refine (valid_c p.s p.A p.kap _ hm).mono ?_; rintro e w6 ⟨rfl, hb6⟩; rw [HV.out]; replace SD := Kept.mk (SD.out.new_ (undrew hb6)); clear hb6
      try go_wp2_with fail
      refine hK.out _ _ (by (try dsimp only); (first | exact std_keep SD.out HCL.out k3 | exact std_keep (SD.out.new_ (Below.refl _ _).drew) HCL.out k3)) (fun hHeld => ?_); clear hK K; try simp only [Act.put, List.setIfInBounds_toArray, List.set_cons_zero, List.set_cons_succ, List.getElem_toArray, List.getElem_cons_succ, List.getElem_cons_zero]
      refine wpAnyH_take (i := 9) (v := ?_) rfl (by kernel_rfl) (by kernel_rfl) (by kernel_rfl) (fun _ _ _ h => h) (Or.inl ⟨by rfl, ?_⟩) (by assumption) ?_; rotate_left; (intro w hSw; (try dsimp only at hSw); go_simp; try (with_reducible rfl)); try simp only [Act.put, List.setIfInBounds_toArray, List.set_cons_zero, List.set_cons_succ, List.getElem_toArray, List.getElem_cons_succ, List.getElem_cons_zero]
      refine wpAnyH_take (i := 10) (v := ?_) rfl (by kernel_rfl) (by kernel_rfl) (by kernel_rfl) (fun _ _ _ h => h) (Or.inl ⟨by rfl, ?_⟩) (by assumption) ?_; rotate_left; (intro w hSw; (try dsimp only at hSw); go_simp; try (with_reducible rfl)); try simp only [Act.put, List.setIfInBounds_toArray, List.set_cons_zero, List.set_cons_succ, List.getElem_toArray, List.getElem_cons_succ, List.getElem_cons_zero]
      refine wpAnyH_take (i := 11) (v := ?_) rfl (by kernel_rfl) (by kernel_rfl) (by kernel_rfl) (fun _ _ _ h => h) (Or.inl ⟨by rfl, ?_⟩) (by assumption) ?_; rotate_left; (intro w hSw; (try dsimp only at hSw); go_simp; try (with_reducible rfl)); try simp only [Act.put, List.setIfInBounds_toArray, List.set_cons_zero, List.set_cons_succ, List.getElem_toArray, List.getElem_cons_succ, List.getElem_cons_zero]
      refine wpAnyH_take (i := 12) (v := ?_) rfl (by kernel_rfl) (by kernel_rfl) (by kernel_rfl) (fun _ _ _ h => h) (Or.inl ⟨by rfl, ?_⟩) (by assumption) ?_; rotate_left; (intro w hSw; (try dsimp only at hSw); go_simp; try (with_reducible rfl)); try simp only [Act.put, List.setIfInBounds_toArray, List.set_cons_zero, List.set_cons_succ, List.getElem_toArray, List.getElem_cons_succ, List.getElem_cons_zero]
      refine wpAnyH_take (i := 13) (v := ?_) rfl (by kernel_rfl) (by kernel_rfl) (by kernel_rfl) (fun _ _ _ h => h) (Or.inl ⟨by rfl, ?_⟩) (by assumption) ?_; rotate_left; (intro w hSw; (try dsimp only at hSw); go_simp; try (with_reducible rfl)); try simp only [Act.put, List.setIfInBounds_toArray, List.set_cons_zero, List.set_cons_succ, List.getElem_toArray, List.getElem_cons_succ, List.getElem_cons_zero]
      refine wpAnyH_ready (rs := [14]) (by kernel_rfl) (by simp) ?_; refine AllReadyH.cons rfl (fun K hK => ?_) AllReadyH.nil; go_simp
      refine (refCode_c p _ _ SD.out.s0 (Nat.le_refl _) HV.out).mono ?_; rintro e w7 ⟨v7, rfl, ho7, hb7⟩; replace SD := Kept.mk (SD.out.new_ hb7); obtain ⟨A7, k7, rfl⟩ := own_slice ho7; have kv7 : (convert 22 9 (.slice A7 (8 + p.s.data.length) k7)).run Try.prog w7 = .ok (.string (strOfNums (codeP p.s))) w7 := (by have hc := conv_reads (P := Try.prog) (kap := k7) (xs := codeP p.s) 22 5 9 Try.underlying22 Try.underlying5 Try.underlying9 (by rw [HCL.out]; exact Reads.of_own ho7); rw [HCL.out] at hc; exact hc); clear hb7 ho7
      try go_wp2_with fail
      refine hK.out _ _ (by (try dsimp only); (first | exact std_keep SD.out HCL.out k3 | exact std_keep (SD.out.new_ (Below.refl _ _).drew) HCL.out k3)) (fun hHeld => ?_); clear hK K; try simp only [Act.put, List.setIfInBounds_toArray, List.set_cons_zero, List.set_cons_succ, List.getElem_toArray, List.getElem_cons_succ, List.getElem_cons_zero]
      refine wpAnyH_ready (rs := [15]) (by kernel_rfl) (by simp) ?_; refine AllReadyH.cons rfl (fun K hK => ?_) AllReadyH.nil; go_simp
      refine hK.out _ _ (by (try dsimp only); (first | exact std_keep SD.out HCL.out k3 | exact std_keep (SD.out.new_ (Below.refl _ _).drew) HCL.out k3)) (fun hHeld => ?_); clear hK K; try simp only [Act.put, List.setIfInBounds_toArray, List.set_cons_zero, List.set_cons_succ, List.getElem_toArray, List.getElem_cons_succ, List.getElem_cons_zero]
      refine wpAnyH_take (i := 16) (v := ?_) rfl (by kernel_rfl) (by kernel_rfl) (by kernel_rfl) (fun _ _ _ h => h) (Or.inl ⟨by rfl, ?_⟩) (by assumption) ?_; rotate_left; (intro w hSw; (try dsimp only at hSw); go_simp; try (with_reducible rfl)); try simp only [Act.put, List.setIfInBounds_toArray, List.set_cons_zero, List.set_cons_succ, List.getElem_toArray, List.getElem_cons_succ, List.getElem_cons_zero]
      refine wpAnyH_take (i := 17) (v := ?_) rfl (by kernel_rfl) (by kernel_rfl) (by kernel_rfl) (fun _ _ _ h => h) (Or.inl ⟨by rfl, ?_⟩) (by assumption) ?_; rotate_left; (intro w hSw; (try dsimp only at hSw); go_simp; try (with_reducible rfl)); try simp only [Act.put, List.setIfInBounds_toArray, List.set_cons_zero, List.set_cons_succ, List.getElem_toArray, List.getElem_cons_succ, List.getElem_cons_zero]
      refine wpAnyH_take (i := 18) (v := ?_) rfl (by kernel_rfl) (by kernel_rfl) (by kernel_rfl) (fun _ _ _ h => h) (Or.inl ⟨by rfl, ?_⟩) (by assumption) ?_; rotate_left; (intro w hSw; (try dsimp only at hSw); go_simp; try (with_reducible rfl)); try simp only [Act.put, List.setIfInBounds_toArray, List.set_cons_zero, List.set_cons_succ, List.getElem_toArray, List.getElem_cons_succ, List.getElem_cons_zero]
      refine wpAnyH_take (i := 19) (v := ?_) rfl (by kernel_rfl) (by kernel_rfl) (by kernel_rfl) (fun _ _ _ h => h) (Or.inl ⟨by rfl, ?_⟩) (by assumption) ?_; rotate_left; (intro w hSw; (try dsimp only at hSw); go_simp; try (with_reducible rfl)); try simp only [Act.put, List.setIfInBounds_toArray, List.set_cons_zero, List.set_cons_succ, List.getElem_toArray, List.getElem_cons_succ, List.getElem_cons_zero]
      refine wpAnyH_take (i := 20) (v := ?_) rfl (by kernel_rfl) (by kernel_rfl) (by kernel_rfl) (fun _ _ _ h => h) (Or.inl ⟨by rfl, ?_⟩) (by assumption) ?_; rotate_left; (intro w hSw; (try dsimp only at hSw); go_simp; try (with_reducible rfl)); try simp only [Act.put, List.setIfInBounds_toArray, List.set_cons_zero, List.set_cons_succ, List.getElem_toArray, List.getElem_cons_succ, List.getElem_cons_zero]
      refine wpAnyH_ready (rs := [21]) (by kernel_rfl) (by simp) ?_; refine AllReadyH.cons rfl (fun K hK => ?_) AllReadyH.nil; go_simp
      refine (same_t ⟨p.s, A5, k5⟩ p _ SD.out.s1 SD.out.s0 rfl).mono ?_; rintro e w8 ⟨rfl, hb8⟩; replace SD := Kept.mk (SD.out.new_ hb8); clear hb8
      try go_wp2_with fail
      refine hK.out _ _ (by (try dsimp only); (first | exact std_keep SD.out HCL.out k3 | exact std_keep (SD.out.new_ (Below.refl _ _).drew) HCL.out k3)) (fun hHeld => ?_); clear hK K; try simp only [Act.put, List.setIfInBounds_toArray, List.set_cons_zero, List.set_cons_succ, List.getElem_toArray, List.getElem_cons_succ, List.getElem_cons_zero]
      refine wpAnyH_take (i := 22) (v := ?_) rfl (by kernel_rfl) (by kernel_rfl) (by kernel_rfl) (fun _ _ _ h => h) (Or.inl ⟨by rfl, ?_⟩) (by assumption) ?_; rotate_left; (intro w hSw; (try dsimp only at hSw); go_simp; try (with_reducible rfl)); try simp only [Act.put, List.setIfInBounds_toArray, List.set_cons_zero, List.set_cons_succ, List.getElem_toArray, List.getElem_cons_succ, List.getElem_cons_zero]
      refine wpAnyH_take (i := 23) (v := ?_) rfl (by kernel_rfl) (by kernel_rfl) (by kernel_rfl) (fun _ _ _ h => h) (Or.inl ⟨by rfl, ?_⟩) (by assumption) ?_; rotate_left; (intro w hSw; (try dsimp only at hSw); go_simp; try (with_reducible rfl)); try simp only [Act.put, List.setIfInBounds_toArray, List.set_cons_zero, List.set_cons_succ, List.getElem_toArray, List.getElem_cons_succ, List.getElem_cons_zero]
      refine wpAnyH_done (by kernel_rfl) ?_ _
      go_wp2_with fail
      go_ret
      exact ⟨rfl, SD.out.bel⟩

set_option maxRecDepth 100000 in
theorem liftedSegmentCodes (os : Os) (started : os.Started) (H : Type) (enc : TypeId × Value → H) :
    ReturnsInHanded {} Try.checked os 3 .any (Rows.segmentCodesSpec.pre6 enc Try.prog Try.f3 Rows.segmentCodesRow.domain false) (Rows.segmentCodesSpec.post enc Try.prog Try.f3 false true false false) := by
  refine returnsInHanded_of_change (C := Try.checked) own started (by kernel_rfl) Try.func3
    (ChangeSpec.witness6 (enc := enc) (C := Try.checked) false ⟨#[], #[.agg #[.int .i64 0, .slice none 0 0, .bool false]], []⟩ 8 (by kernel_rfl) (by kernel_rfl) (by kernel_rfl) (by kernel_rfl)) ?_
  intro W base args ds gs before hval0 hW hcnd _
  have hval : ∀ (j : Nat) t v, Try.f3.params[j]? = some t → args[j]? = some v → Value.okWide Try.prog W .any base t v := hval0
  have hW' := hW
  obtain ⟨p, q, hA0, hV, rfl, hfz, hnd⟩ := hW
  have hA : DataW.TrodAll enc Try.prog W 0 (fun _ => true) true Try.f3.params.toList args.toList ds p := hA0
  rw [Try.params3] at hA hval
  obtain ⟨v0, vs0, d0, ds0, p0, q0, hargs, rfl, rfl, h0, r0⟩ := trodAll_cons hA
  obtain ⟨rfl, rfl, rfl⟩ := trodAll_nil r0
  obtain rfl : args = #[v0] := by cases args; simp_all
  obtain ⟨rfl, rfl⟩ := trodVars_none hV
  have k0 := h0
  have lt0 : ∀ x ∈ p0, x.block < W.heap.size := by obtain ⟨m, hm⟩ := k0; exact DataW.trod_lt m _ _ _ hm
  obtain ⟨a0, rfl, s0, o0⟩ := open_seg (hval 0 24 v0 rfl rfl) h0
  clear hA0 hval0
  refine (walkSegmentCodes a0 W s0 o0).mono fun e W' ⟨he, bel⟩ => ?_
  subst he
  exact ⟨_, rfl, _, _, _, [], _, [], hW', trodAll_mk1 (shut_bool Try.underlying4 _), (trodAll_cons_mk (Below.trod laidOut (by kernel_rfl) (of_decide_eq_true (by kernel_rfl)) k0 bel lt0) trodAll_mk0), rfl, bel.frame _, fun h => by cases h⟩
/-- The given statement. -/
theorem segmentCodes_holds : Rows.SegmentCodesSaid :=
  OpenClaim.holds_of_wide 3 Try.f3 rfl rfl rfl rfl rfl rfl rfl ⟨rfl, rfl, rfl, rfl, rfl⟩ rfl rfl rfl rfl rfl (by kernel_rfl) Try.func3 (by kernel_rfl)
    (of_decide_eq_true (by kernel_rfl)) (by unfold Func.isWrapper; first | (rw [if_pos (by decide +kernel)]; kernel_rfl) | (rw [if_neg (by decide +kernel)]; exact ⟨rfl, rfl⟩))
    (fun os started H enc _ => liftedSegmentCodes os started H enc)
#print axioms segmentCodes_holds
end Go.Proofs.Ytdhajibegkkeiaa
