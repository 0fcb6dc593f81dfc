/- For all lists of segments the statement SegmentPieces returns true: cutting one of several segments changes nothing about what they are joined to. No condition. -/
import Derived.Test.YtdhajibegkkeiaaBase
import Derived.Test.YtdhajibegkkeiaaPieces
import Derived.Test.YtdhajibegkkeiaaBaseB
namespace Go.Proofs.Ytdhajibegkkeiaa
open Go.ChangeShapes Go.WideShapes Go.ChangeAt Go.RowKit
set_option linter.unusedVariables false
set_option linter.unusedSimpArgs false
theorem segAt_drew {w : World} {B : Nat} {s : Seg} {A : Option Addr} {k : Nat} (h : SegAt w B s A k) : SegAt w.drew B s A k := ⟨h.rd, h.by_, h.le, h.max⟩
set_option maxRecDepth 100000 in
set_option maxHeartbeats 8000000 in
theorem walkSegmentPieces (A : Option Addr) (kap : Nat) (l : List PSeg) (a b : Int) (w : World) (hs : SegsAt w w.heap.size A l) (hkap : l.length ≤ kap) (hmax : kap ≤ maxLen) (ha : 0 ≤ a ∧ a ≤ 255) (hb : 0 ≤ b ∧ b ≤ 255) :
    Calls Try.prog 9 #[.slice A l.length kap, .int .u8 a, .int .u8 b] w fun e w' => e = .returned (.bool true) ∧ Below w.heap.size w w' := by
  have HS := Kept.mk hs
  have hmx : l.length ≤ 9223372036854775807 := by unfold maxLen at hmax; omega
  have HLE : Kept (∀ p ∈ l, p.s.data.length ≤ 9223372036854775807) := ⟨fun p hp => by
    have h1 := (hs.seg p hp).le
    have h2 := (hs.seg p hp).max
    unfold maxLen at h2
    omega⟩
  obtain ⟨a1, a2⟩ := ha
  obtain ⟨b1, b2⟩ := hb
  have hkap9 : l.length ≤ kap := hkap
  have hkap8 : kap ≤ 9223372036854775807 := by unfold maxLen at hmax; omega
  clear hs hkap hmax
  go_enter Try.func9, Try.ntmps9
  go_wp2_with (go_at_call 11; refine (awake_c _).mono ?_; rintro e w1 ⟨rfl, hb1⟩; have HJ := Kept.mk hb1; clear hb1)
  refine (great_c l A kap _ (segsAt_new HS.out HJ.out) hmx HLE.out).mono ?_
  rintro e w2 ⟨g, rfl, hgr, hb2⟩
  have HJ2 := Kept.mk (join HJ.out hb2)
  clear hb2
  cases g
  · have HMO : Kept (Modest l) := ⟨hgr rfl⟩
    clear hgr
    have hn := HMO.out.1
    by_cases h0 : l.length = 0
    · have q0 : ((l.length : Int) == 0) = true := by simp [h0]
      clear h0
      go_wp2_with fail
      go_ret
      exact ⟨rfl, HJ2.out⟩
    · have h1 : 0 < l.length := by omega
      have q0 : ((l.length : Int) == 0) = false := beq_false_of_ne (by omega)
      obtain ⟨k, hk⟩ : ∃ k : Nat, a % (l.length : Int) = k := ⟨(a % (l.length : Int)).toNat, by have := Int.emod_nonneg a (show (l.length : Int) ≠ 0 by omega); omega⟩
      have hkl : k < l.length := by have := Int.emod_lt_of_pos a (show (0 : Int) < l.length by omega); omega
      obtain ⟨p, b0, off, hp, rfl, -, hbw, c1, c2, c3, hsg⟩ := (segsAt_new HS.out HJ2.out).at_ hkl
      have HP := Kept.mk hp
      have HSP := Kept.mk hsg
      have hpl := HMO.out.2.1 p (List.mem_of_getElem? hp)
      have hk8 : (k : Int) < l.length := by omega
      have hk9 : (0 : Int) ≤ k := by omega
      have hpl8 : (p.s.data.length : Int) ≤ 100 := by omega
      have hpl9 : (0 : Int) ≤ p.s.data.length := by omega
      obtain ⟨t, ht⟩ : ∃ t : Int, b % ((p.s.data.length : Int) + 1) = t := ⟨_, rfl⟩
      have ht1 : 0 ≤ t ∧ t ≤ p.s.data.length := by
        have h3 := Int.emod_nonneg b (show (p.s.data.length : Int) + 1 ≠ 0 by omega)
        have h4 := Int.emod_lt_of_pos b (show (0 : Int) < (p.s.data.length : Int) + 1 by omega)
        omega
      have htm : b.tmod ((p.s.data.length : Int) + 1) = t := by rw [Int.tmod_eq_emod_of_nonneg b1]; exact ht
      have hwr : IntKind.i64.wrap ((p.s.data.length : Int) + 1) = p.s.data.length + 1 := IntWalk.i64_in _ (by omega)
      have hwb : IntKind.i64.wrap b = b := IntWalk.i64_in _ (by omega)
      clear hp hsg h0
      have hnz : ((p.s.data.length : Int) + 1 == 0) = false := beq_false_of_ne (by omega)
      have hnz2 : ¬ (p.s.data.length : Int) + 1 = 0 := by omega
      go_upto_region 6 with fail
      rw [hk]
      go_cut [8, 9, 10] (fun s8 s9 s10 wx => ∃ (b8 b9 : Nat) (p1 q1 : PSeg), s8 = .pointer (some ⟨b8, 0, none⟩) ∧ s9 = .pointer (some ⟨b9, 0, none⟩) ∧ s10 = .int .i64 (cutE p.s t) ∧ p1.s = (cutP p.s t).1 ∧ q1.s = (cutP p.s t).2 ∧ Kept (Pc w2 wx b8 b9 p1 q1))
      case first =>
        have C1 := Kept.mk c1
        have C2 := Kept.mk c2
        have C3 := Kept.mk c3
        refine wp_region_held_drew (S := fun w' => w'.cell? ⟨b0, off + k * 3, none⟩ = some (.int .i64 p.s.off) ∧ w'.cell? ⟨b0, off + k * 3 + 1, none⟩ = some (.slice p.A p.s.data.length p.kap) ∧ w'.cell? ⟨b0, off + k * 3 + 2, none⟩ = some (.bool p.s.last)) (by kernel_rfl) (by (try dsimp only); exact pc_keep (dN (Below.refl w2.heap.size w2) 1) hbw C1.out C2.out C3.out) (fun hHeld => ?_)
        obtain ⟨X0, hX0⟩ : ∃ X, X = w2.drew := ⟨_, rfl⟩
        rw [← hX0] at hHeld ⊢
        have HB : Kept (Below w2.heap.size w2 X0) := ⟨by rw [hX0]; exact dN (Below.refl w2.heap.size w2) 1⟩
        clear hX0
        refine wpAnyH_take (i := 0) (v := ?_) rfl (by kernel_rfl) (by kernel_rfl) (by kernel_rfl) (fun _ _ _ h => h) (Or.inl ⟨by rfl, ?_⟩) (by assumption) ?_; rotate_left; (intro w hSw; (try dsimp only at hSw); go_simp; try (with_reducible rfl)); try simp only [Act.put, List.setIfInBounds_toArray, List.set_cons_zero, List.set_cons_succ, List.getElem_toArray, List.getElem_cons_succ, List.getElem_cons_zero]
        refine wpAnyH_take (i := 1) (v := ?_) rfl (by kernel_rfl) (by kernel_rfl) (by kernel_rfl) (fun _ _ _ h => h) (Or.inl ⟨by rfl, ?_⟩) (by assumption) ?_; rotate_left; (intro w hSw; (try dsimp only at hSw); go_simp; try (with_reducible rfl)); try simp only [Act.put, List.setIfInBounds_toArray, List.set_cons_zero, List.set_cons_succ, List.getElem_toArray, List.getElem_cons_succ, List.getElem_cons_zero]
        refine wpAnyH_take (i := 2) (v := ?_) rfl (by kernel_rfl) (by kernel_rfl) (by kernel_rfl) (fun _ _ _ h => h) (Or.inl ⟨by rfl, ?_⟩) (by assumption) ?_; rotate_left; (intro w hSw; (try dsimp only at hSw); go_simp; try (with_reducible rfl)); try simp only [Act.put, List.setIfInBounds_toArray, List.set_cons_zero, List.set_cons_succ, List.getElem_toArray, List.getElem_cons_succ, List.getElem_cons_zero]
        refine wpAnyH_take (i := 3) (v := ?_) rfl (by kernel_rfl) (by kernel_rfl) (by kernel_rfl) (fun _ _ _ h => h) (Or.inl ⟨by rfl, ?_⟩) (by assumption) ?_; rotate_left; (intro w hSw; (try dsimp only at hSw); go_simp; try (with_reducible rfl)); try simp only [Act.put, List.setIfInBounds_toArray, List.set_cons_zero, List.set_cons_succ, List.getElem_toArray, List.getElem_cons_succ, List.getElem_cons_zero]
        refine wpAnyH_take (i := 4) (v := ?_) rfl (by kernel_rfl) (by kernel_rfl) (by kernel_rfl) (fun _ _ _ h => h) (Or.inl ⟨by rfl, ?_⟩) (by assumption) ?_; rotate_left; (intro w hSw; (try dsimp only at hSw); go_simp; try (with_reducible rfl)); try simp only [Act.put, List.setIfInBounds_toArray, List.set_cons_zero, List.set_cons_succ, List.getElem_toArray, List.getElem_cons_succ, List.getElem_cons_zero]
        refine wpAnyH_take (i := 5) (v := ?_) rfl (by kernel_rfl) (by kernel_rfl) (by kernel_rfl) (fun _ _ _ h => h) (Or.inl ⟨by rfl, ?_⟩) (by assumption) ?_; rotate_left; (intro w hSw; (try dsimp only at hSw); go_simp; try (with_reducible rfl)); try simp only [Act.put, List.setIfInBounds_toArray, List.set_cons_zero, List.set_cons_succ, List.getElem_toArray, List.getElem_cons_succ, List.getElem_cons_zero]
        refine wpAnyH_take (i := 6) (v := ?_) rfl (by kernel_rfl) (by kernel_rfl) (by kernel_rfl) (fun _ _ _ h => h) (Or.inl ⟨by rfl, ?_⟩) (by assumption) ?_; rotate_left; (intro w hSw; (try dsimp only at hSw); go_simp; try (with_reducible rfl)); try simp only [Act.put, List.setIfInBounds_toArray, List.set_cons_zero, List.set_cons_succ, List.getElem_toArray, List.getElem_cons_succ, List.getElem_cons_zero]
        refine wpAnyH_take (i := 7) (v := ?_) rfl (by kernel_rfl) (by kernel_rfl) (by kernel_rfl) (fun _ _ _ h => h) (Or.inl ⟨by rfl, ?_⟩) (by assumption) ?_; rotate_left; (intro w hSw; (try dsimp only at hSw); go_simp; try (with_reducible rfl)); try simp only [Act.put, List.setIfInBounds_toArray, List.set_cons_zero, List.set_cons_succ, List.getElem_toArray, List.getElem_cons_succ, List.getElem_cons_zero]
        refine wpAnyH_take (i := 8) (v := ?_) rfl (by kernel_rfl) (by kernel_rfl) (by kernel_rfl) (fun _ _ _ h => h) (Or.inl ⟨by rfl, ?_⟩) (by assumption) ?_; rotate_left; (intro w hSw; (try dsimp only at hSw); go_simp; try (with_reducible rfl)); try simp only [Act.put, List.setIfInBounds_toArray, List.set_cons_zero, List.set_cons_succ, List.getElem_toArray, List.getElem_cons_succ, List.getElem_cons_zero]
        refine wpAnyH_take (i := 9) (v := ?_) rfl (by kernel_rfl) (by kernel_rfl) (by kernel_rfl) (fun _ _ _ h => h) (Or.inl ⟨by rfl, ?_⟩) (by assumption) ?_; rotate_left; (intro w hSw; (try dsimp only at hSw); go_simp; try (with_reducible rfl)); try simp only [Act.put, List.setIfInBounds_toArray, List.set_cons_zero, List.set_cons_succ, List.getElem_toArray, List.getElem_cons_succ, List.getElem_cons_zero]
        refine wpAnyH_take (i := 10) (v := ?_) rfl (by kernel_rfl) (by kernel_rfl) (by kernel_rfl) (fun _ _ _ h => h) (Or.inl ⟨by rfl, ?_⟩) (by assumption) ?_; rotate_left; (intro w hSw; (try dsimp only at hSw); go_simp; try (with_reducible rfl)); try simp only [Act.put, List.setIfInBounds_toArray, List.set_cons_zero, List.set_cons_succ, List.getElem_toArray, List.getElem_cons_succ, List.getElem_cons_zero]
        refine wpAnyH_take (i := 11) (v := ?_) rfl (by kernel_rfl) (by kernel_rfl) (by kernel_rfl) (fun _ _ _ h => h) (Or.inl ⟨by rfl, ?_⟩) (by assumption) ?_; rotate_left; (intro w hSw; (try dsimp only at hSw); go_simp; try (with_reducible rfl)); try simp only [Act.put, List.setIfInBounds_toArray, List.set_cons_zero, List.set_cons_succ, List.getElem_toArray, List.getElem_cons_succ, List.getElem_cons_zero]
        refine wpAnyH_take (i := 12) (v := ?_) rfl (by kernel_rfl) (by kernel_rfl) (by kernel_rfl) (fun _ _ _ h => h) (Or.inl ⟨by rfl, ?_⟩) (by assumption) ?_; rotate_left; (intro w hSw; (try dsimp only at hSw); go_simp; try (with_reducible rfl)); try simp only [Act.put, List.setIfInBounds_toArray, List.set_cons_zero, List.set_cons_succ, List.getElem_toArray, List.getElem_cons_succ, List.getElem_cons_zero]
        refine wpAnyH_take (i := 13) (v := ?_) rfl (by kernel_rfl) (by kernel_rfl) (by kernel_rfl) (fun _ _ _ h => h) (Or.inl ⟨by rfl, ?_⟩) (by assumption) ?_; rotate_left; (intro w hSw; (try dsimp only at hSw); go_simp; try (with_reducible rfl)); try simp only [Act.put, List.setIfInBounds_toArray, List.set_cons_zero, List.set_cons_succ, List.getElem_toArray, List.getElem_cons_succ, List.getElem_cons_zero]
        refine wpAnyH_ready (rs := [14, 19, 20]) (by kernel_rfl) (by simp) ?_; refine AllReadyH.cons rfl (fun K hK => ?_) (AllReadyH.cons rfl (fun K hK => ?_) (AllReadyH.cons rfl (fun K hK => ?_) AllReadyH.nil))
        · go_simp
          refine (cut_c p t _ w2.heap.size (HSP.out.below HB.out) HB.out.size).mono ?_
          rintro e X1 ⟨p1, q1, rfl, hp1, hq1, hop, hoq, hb⟩
          have HP1 := Kept.mk hp1
          have HQ1 := Kept.mk hq1
          have HO8 := Kept.mk (hop.base HB.out.size)
          have HO9 := Kept.mk (hoq.base HB.out.size)
          replace HB := Kept.mk (join HB.out hb)
          clear hb hop hoq hp1 hq1
          try go_wp2_with fail
          try unfold pval
          refine hK.out _ _ (by (try dsimp only); exact pc_keep HB.out hbw C1.out C2.out C3.out) (fun hHeld => ?_); clear hK K; try simp only [Act.put, List.setIfInBounds_toArray, List.set_cons_zero, List.set_cons_succ, List.getElem_toArray, List.getElem_cons_succ, List.getElem_cons_zero]
          refine wpAnyH_take (i := 15) (v := ?_) rfl (by kernel_rfl) (by kernel_rfl) (by kernel_rfl) (fun _ _ _ h => h) (Or.inl ⟨by rfl, ?_⟩) (by assumption) ?_; rotate_left; (intro w hSw; (try dsimp only at hSw); go_simp; try (with_reducible rfl)); try simp only [Act.put, List.setIfInBounds_toArray, List.set_cons_zero, List.set_cons_succ, List.getElem_toArray, List.getElem_cons_succ, List.getElem_cons_zero]
          refine wpAnyH_take (i := 16) (v := ?_) rfl (by kernel_rfl) (by kernel_rfl) (by kernel_rfl) (fun _ _ _ h => h) (Or.inl ⟨by rfl, ?_⟩) (by assumption) ?_; rotate_left; (intro w hSw; (try dsimp only at hSw); go_simp; try (with_reducible rfl)); try simp only [Act.put, List.setIfInBounds_toArray, List.set_cons_zero, List.set_cons_succ, List.getElem_toArray, List.getElem_cons_succ, List.getElem_cons_zero]
          refine wpAnyH_take (i := 17) (v := ?_) rfl (by kernel_rfl) (by kernel_rfl) (by kernel_rfl) (fun _ _ _ h => h) (Or.inl ⟨by rfl, ?_⟩) (by assumption) ?_; rotate_left; (intro w hSw; (try dsimp only at hSw); go_simp; try (with_reducible rfl)); try simp only [Act.put, List.setIfInBounds_toArray, List.set_cons_zero, List.set_cons_succ, List.getElem_toArray, List.getElem_cons_succ, List.getElem_cons_zero]
          refine wpAnyH_take (i := 18) (v := ?_) rfl (by kernel_rfl) (by kernel_rfl) (by kernel_rfl) (fun _ _ _ h => h) (Or.inl ⟨by rfl, ?_⟩) (by assumption) ?_; rotate_left; (intro w hSw; (try dsimp only at hSw); go_simp; try (with_reducible rfl)); try simp only [Act.put, List.setIfInBounds_toArray, List.set_cons_zero, List.set_cons_succ, List.getElem_toArray, List.getElem_cons_succ, List.getElem_cons_zero]
          refine wpAnyH_ready (rs := [19, 20]) (by kernel_rfl) (by simp) ?_; refine AllReadyH.cons rfl (fun K hK => ?_) (AllReadyH.cons rfl (fun K hK => ?_) AllReadyH.nil)
          · go_simp
            obtain ⟨X2, b8, hX, hbv, hb, hbx⟩ := al_step X1 #[.int .i64 0, .slice none 0 0, .bool false]
            rw [← hX, ← hbv]
            have hle8 : w2.heap.size ≤ b8 := by rw [hbv]; exact HB.out.size
            replace HB := Kept.mk (join HB.out hb)
            replace HO8 := Kept.mk (HO8.out.new_ hb)
            replace HO9 := Kept.mk (HO9.out.new_ hb)
            have H8 := Kept.mk hbx
            clear hX hbv hb hbx
            refine hK.out _ _ (by (try dsimp only); exact pc_keep HB.out hbw C1.out C2.out C3.out) (fun hHeld => ?_); clear hK K; try simp only [Act.put, List.setIfInBounds_toArray, List.set_cons_zero, List.set_cons_succ, List.getElem_toArray, List.getElem_cons_succ, List.getElem_cons_zero]
            refine wpAnyH_ready (rs := [20]) (by kernel_rfl) (by simp) ?_; refine AllReadyH.cons rfl (fun K hK => ?_) AllReadyH.nil
            go_simp
            obtain ⟨X3, b9, hX, hbv, hb, hbx⟩ := al_step X2 #[.int .i64 0, .slice none 0 0, .bool false]
            rw [← hX, ← hbv]
            have hle9 : w2.heap.size ≤ b9 := by rw [hbv]; exact HB.out.size
            have hne9 : b8 ≠ b9 := by have h9 := H8.out.lt; omega
            replace HB := Kept.mk (join HB.out hb)
            replace H8 := Kept.mk (H8.out.new_ hb)
            replace HO8 := Kept.mk (HO8.out.new_ hb)
            replace HO9 := Kept.mk (HO9.out.new_ hb)
            have H9 := Kept.mk hbx
            clear hX hbv hb hbx
            refine hK.out _ _ (by (try dsimp only); exact pc_keep HB.out hbw C1.out C2.out C3.out) (fun hHeld => ?_); clear hK K; try simp only [Act.put, List.setIfInBounds_toArray, List.set_cons_zero, List.set_cons_succ, List.getElem_toArray, List.getElem_cons_succ, List.getElem_cons_zero]
            refine wpAnyH_ready (rs := [21]) (by kernel_rfl) (by simp) ?_; refine AllReadyH.cons rfl (fun K hK => ?_) AllReadyH.nil
            have y0 := H8.out.cell 0 (v := .int .i64 0) rfl
            have y1 := H8.out.cell 1 (v := .slice none 0 0) rfl
            have y2 := H8.out.cell 2 (v := .bool false) rfl
            have y3 := H8.out.free 0
            have y4 := H8.out.free 1
            have y5 := H8.out.free 2
            have y6 := H8.out.lt
            go_simp
            obtain ⟨X4, hX, hbx, hon⟩ := st_step H8.out (.int .i64 p1.s.off) (.slice p1.A p1.s.data.length p1.kap) (.bool p1.s.last)
            rw [← hX]
            replace HB := Kept.mk (HB.out.trans (hon.below (B := w2.heap.size) (by rintro g rfl; exact hle8) HB.out.size))
            replace H9 := Kept.mk (H9.out.only hon (fun e => hne9 e.symm))
            replace HO8 := Kept.mk (HO8.out.only hon H8.out)
            replace HO9 := Kept.mk (HO9.out.only hon H8.out)
            replace H8 := Kept.mk hbx
            clear hX hbx hon y0 y1 y2 y3 y4 y5 y6
            refine hK.out _ _ (by (try dsimp only); exact pc_keep HB.out hbw C1.out C2.out C3.out) (fun hHeld => ?_); clear hK K; try simp only [Act.put, List.setIfInBounds_toArray, List.set_cons_zero, List.set_cons_succ, List.getElem_toArray, List.getElem_cons_succ, List.getElem_cons_zero]
            refine wpAnyH_ready (rs := [22]) (by kernel_rfl) (by simp) ?_; refine AllReadyH.cons rfl (fun K hK => ?_) AllReadyH.nil
            have y0 := H9.out.cell 0 (v := .int .i64 0) rfl
            have y1 := H9.out.cell 1 (v := .slice none 0 0) rfl
            have y2 := H9.out.cell 2 (v := .bool false) rfl
            have y3 := H9.out.free 0
            have y4 := H9.out.free 1
            have y5 := H9.out.free 2
            have y6 := H9.out.lt
            go_simp
            obtain ⟨X5, hX, hbx, hon⟩ := st_step H9.out (.int .i64 q1.s.off) (.slice q1.A q1.s.data.length q1.kap) (.bool q1.s.last)
            rw [← hX]
            replace HB := Kept.mk (HB.out.trans (hon.below (B := w2.heap.size) (by rintro g rfl; exact hle9) HB.out.size))
            replace H8 := Kept.mk (H8.out.only hon hne9)
            replace HO8 := Kept.mk (HO8.out.only hon H9.out)
            replace HO9 := Kept.mk (HO9.out.only hon H9.out)
            replace H9 := Kept.mk hbx
            clear hX hbx hon y0 y1 y2 y3 y4 y5 y6
            refine hK.out _ _ (by (try dsimp only); exact pc_keep HB.out hbw C1.out C2.out C3.out) (fun hHeld => ?_); clear hK K; try simp only [Act.put, List.setIfInBounds_toArray, List.set_cons_zero, List.set_cons_succ, List.getElem_toArray, List.getElem_cons_succ, List.getElem_cons_zero]
            refine wpAnyH_take (i := 23) (v := ?_) rfl (by kernel_rfl) (by kernel_rfl) (by kernel_rfl) (fun _ _ _ h => h) (Or.inl ⟨by rfl, ?_⟩) (by assumption) ?_; rotate_left; (intro w hSw; (try dsimp only at hSw); go_simp; try (with_reducible rfl)); try simp only [Act.put, List.setIfInBounds_toArray, List.set_cons_zero, List.set_cons_succ, List.getElem_toArray, List.getElem_cons_succ, List.getElem_cons_zero]
            refine wpAnyH_done (by kernel_rfl) ?_ _
            go_wp2_with fail
            go_meet
            exact ⟨b8, b9, p1, q1, rfl, rfl, rfl, HP1.out, HQ1.out, ⟨⟨H8.out, H9.out, HO8.out, HO9.out, HB.out⟩⟩⟩
          · go_simp
            obtain ⟨X2, b9, hX, hbv, hb, hbx⟩ := al_step X1 #[.int .i64 0, .slice none 0 0, .bool false]
            rw [← hX, ← hbv]
            have hle9 : w2.heap.size ≤ b9 := by rw [hbv]; exact HB.out.size
            replace HB := Kept.mk (join HB.out hb)
            replace HO8 := Kept.mk (HO8.out.new_ hb)
            replace HO9 := Kept.mk (HO9.out.new_ hb)
            have H9 := Kept.mk hbx
            clear hX hbv hb hbx
            refine hK.out _ _ (by (try dsimp only); exact pc_keep HB.out hbw C1.out C2.out C3.out) (fun hHeld => ?_); clear hK K; try simp only [Act.put, List.setIfInBounds_toArray, List.set_cons_zero, List.set_cons_succ, List.getElem_toArray, List.getElem_cons_succ, List.getElem_cons_zero]
            refine wpAnyH_ready (rs := [19]) (by kernel_rfl) (by simp) ?_; refine AllReadyH.cons rfl (fun K hK => ?_) AllReadyH.nil
            go_simp
            obtain ⟨X3, b8, hX, hbv, hb, hbx⟩ := al_step X2 #[.int .i64 0, .slice none 0 0, .bool false]
            rw [← hX, ← hbv]
            have hle8 : w2.heap.size ≤ b8 := by rw [hbv]; exact HB.out.size
            have hne8 : b9 ≠ b8 := by have h9 := H9.out.lt; omega
            replace HB := Kept.mk (join HB.out hb)
            replace H9 := Kept.mk (H9.out.new_ hb)
            replace HO8 := Kept.mk (HO8.out.new_ hb)
            replace HO9 := Kept.mk (HO9.out.new_ hb)
            have H8 := Kept.mk hbx
            clear hX hbv hb hbx
            refine hK.out _ _ (by (try dsimp only); exact pc_keep HB.out hbw C1.out C2.out C3.out) (fun hHeld => ?_); clear hK K; try simp only [Act.put, List.setIfInBounds_toArray, List.set_cons_zero, List.set_cons_succ, List.getElem_toArray, List.getElem_cons_succ, List.getElem_cons_zero]
            refine wpAnyH_ready (rs := [21]) (by kernel_rfl) (by simp) ?_; refine AllReadyH.cons rfl (fun K hK => ?_) AllReadyH.nil
            have y0 := H8.out.cell 0 (v := .int .i64 0) rfl
            have y1 := H8.out.cell 1 (v := .slice none 0 0) rfl
            have y2 := H8.out.cell 2 (v := .bool false) rfl
            have y3 := H8.out.free 0
            have y4 := H8.out.free 1
            have y5 := H8.out.free 2
            have y6 := H8.out.lt
            go_simp
            obtain ⟨X4, hX, hbx, hon⟩ := st_step H8.out (.int .i64 p1.s.off) (.slice p1.A p1.s.data.length p1.kap) (.bool p1.s.last)
            rw [← hX]
            replace HB := Kept.mk (HB.out.trans (hon.below (B := w2.heap.size) (by rintro g rfl; exact hle8) HB.out.size))
            replace H9 := Kept.mk (H9.out.only hon hne8)
            replace HO8 := Kept.mk (HO8.out.only hon H8.out)
            replace HO9 := Kept.mk (HO9.out.only hon H8.out)
            replace H8 := Kept.mk hbx
            clear hX hbx hon y0 y1 y2 y3 y4 y5 y6
            refine hK.out _ _ (by (try dsimp only); exact pc_keep HB.out hbw C1.out C2.out C3.out) (fun hHeld => ?_); clear hK K; try simp only [Act.put, List.setIfInBounds_toArray, List.set_cons_zero, List.set_cons_succ, List.getElem_toArray, List.getElem_cons_succ, List.getElem_cons_zero]
            refine wpAnyH_ready (rs := [22]) (by kernel_rfl) (by simp) ?_; refine AllReadyH.cons rfl (fun K hK => ?_) AllReadyH.nil
            have y0 := H9.out.cell 0 (v := .int .i64 0) rfl
            have y1 := H9.out.cell 1 (v := .slice none 0 0) rfl
            have y2 := H9.out.cell 2 (v := .bool false) rfl
            have y3 := H9.out.free 0
            have y4 := H9.out.free 1
            have y5 := H9.out.free 2
            have y6 := H9.out.lt
            go_simp
            obtain ⟨X5, hX, hbx, hon⟩ := st_step H9.out (.int .i64 q1.s.off) (.slice q1.A q1.s.data.length q1.kap) (.bool q1.s.last)
            rw [← hX]
            replace HB := Kept.mk (HB.out.trans (hon.below (B := w2.heap.size) (by rintro g rfl; exact hle9) HB.out.size))
            replace H8 := Kept.mk (H8.out.only hon (fun e => hne8 e.symm))
            replace HO8 := Kept.mk (HO8.out.only hon H9.out)
            replace HO9 := Kept.mk (HO9.out.only hon H9.out)
            replace H9 := Kept.mk hbx
            clear hX hbx hon y0 y1 y2 y3 y4 y5 y6
            refine hK.out _ _ (by (try dsimp only); exact pc_keep HB.out hbw C1.out C2.out C3.out) (fun hHeld => ?_); clear hK K; try simp only [Act.put, List.setIfInBounds_toArray, List.set_cons_zero, List.set_cons_succ, List.getElem_toArray, List.getElem_cons_succ, List.getElem_cons_zero]
            refine wpAnyH_take (i := 23) (v := ?_) rfl (by kernel_rfl) (by kernel_rfl) (by kernel_rfl) (fun _ _ _ h => h) (Or.inl ⟨by rfl, ?_⟩) (by assumption) ?_; rotate_left; (intro w hSw; (try dsimp only at hSw); go_simp; try (with_reducible rfl)); try simp only [Act.put, List.setIfInBounds_toArray, List.set_cons_zero, List.set_cons_succ, List.getElem_toArray, List.getElem_cons_succ, List.getElem_cons_zero]
            refine wpAnyH_done (by kernel_rfl) ?_ _
            go_wp2_with fail
            go_meet
            exact ⟨b8, b9, p1, q1, rfl, rfl, rfl, HP1.out, HQ1.out, ⟨⟨H8.out, H9.out, HO8.out, HO9.out, HB.out⟩⟩⟩
        · go_simp
          obtain ⟨X1, b8, hX, hbv, hb, hbx⟩ := al_step X0 #[.int .i64 0, .slice none 0 0, .bool false]
          rw [← hX, ← hbv]
          have hle8 : w2.heap.size ≤ b8 := by rw [hbv]; exact HB.out.size
          replace HB := Kept.mk (join HB.out hb)
          have H8 := Kept.mk hbx
          clear hX hbv hb hbx
          refine hK.out _ _ (by (try dsimp only); exact pc_keep HB.out hbw C1.out C2.out C3.out) (fun hHeld => ?_); clear hK K; try simp only [Act.put, List.setIfInBounds_toArray, List.set_cons_zero, List.set_cons_succ, List.getElem_toArray, List.getElem_cons_succ, List.getElem_cons_zero]
          refine wpAnyH_ready (rs := [14, 20]) (by kernel_rfl) (by simp) ?_; refine AllReadyH.cons rfl (fun K hK => ?_) (AllReadyH.cons rfl (fun K hK => ?_) AllReadyH.nil)
          · go_simp
            refine (cut_c p t _ w2.heap.size (HSP.out.below HB.out) HB.out.size).mono ?_
            rintro e X2 ⟨p1, q1, rfl, hp1, hq1, hop, hoq, hb⟩
            have HP1 := Kept.mk hp1
            have HQ1 := Kept.mk hq1
            have HO8 := Kept.mk (hop.base HB.out.size)
            have HO9 := Kept.mk (hoq.base HB.out.size)
            replace HB := Kept.mk (join HB.out hb)
            replace H8 := Kept.mk (H8.out.new_ hb)
            clear hb hop hoq hp1 hq1
            try go_wp2_with fail
            try unfold pval
            refine hK.out _ _ (by (try dsimp only); exact pc_keep HB.out hbw C1.out C2.out C3.out) (fun hHeld => ?_); clear hK K; try simp only [Act.put, List.setIfInBounds_toArray, List.set_cons_zero, List.set_cons_succ, List.getElem_toArray, List.getElem_cons_succ, List.getElem_cons_zero]
            refine wpAnyH_take (i := 15) (v := ?_) rfl (by kernel_rfl) (by kernel_rfl) (by kernel_rfl) (fun _ _ _ h => h) (Or.inl ⟨by rfl, ?_⟩) (by assumption) ?_; rotate_left; (intro w hSw; (try dsimp only at hSw); go_simp; try (with_reducible rfl)); try simp only [Act.put, List.setIfInBounds_toArray, List.set_cons_zero, List.set_cons_succ, List.getElem_toArray, List.getElem_cons_succ, List.getElem_cons_zero]
            refine wpAnyH_take (i := 16) (v := ?_) rfl (by kernel_rfl) (by kernel_rfl) (by kernel_rfl) (fun _ _ _ h => h) (Or.inl ⟨by rfl, ?_⟩) (by assumption) ?_; rotate_left; (intro w hSw; (try dsimp only at hSw); go_simp; try (with_reducible rfl)); try simp only [Act.put, List.setIfInBounds_toArray, List.set_cons_zero, List.set_cons_succ, List.getElem_toArray, List.getElem_cons_succ, List.getElem_cons_zero]
            refine wpAnyH_take (i := 17) (v := ?_) rfl (by kernel_rfl) (by kernel_rfl) (by kernel_rfl) (fun _ _ _ h => h) (Or.inl ⟨by rfl, ?_⟩) (by assumption) ?_; rotate_left; (intro w hSw; (try dsimp only at hSw); go_simp; try (with_reducible rfl)); try simp only [Act.put, List.setIfInBounds_toArray, List.set_cons_zero, List.set_cons_succ, List.getElem_toArray, List.getElem_cons_succ, List.getElem_cons_zero]
            refine wpAnyH_take (i := 18) (v := ?_) rfl (by kernel_rfl) (by kernel_rfl) (by kernel_rfl) (fun _ _ _ h => h) (Or.inl ⟨by rfl, ?_⟩) (by assumption) ?_; rotate_left; (intro w hSw; (try dsimp only at hSw); go_simp; try (with_reducible rfl)); try simp only [Act.put, List.setIfInBounds_toArray, List.set_cons_zero, List.set_cons_succ, List.getElem_toArray, List.getElem_cons_succ, List.getElem_cons_zero]
            refine wpAnyH_ready (rs := [20]) (by kernel_rfl) (by simp) ?_; refine AllReadyH.cons rfl (fun K hK => ?_) AllReadyH.nil
            go_simp
            obtain ⟨X3, b9, hX, hbv, hb, hbx⟩ := al_step X2 #[.int .i64 0, .slice none 0 0, .bool false]
            rw [← hX, ← hbv]
            have hle9 : w2.heap.size ≤ b9 := by rw [hbv]; exact HB.out.size
            have hne9 : b8 ≠ b9 := by have h9 := H8.out.lt; omega
            replace HB := Kept.mk (join HB.out hb)
            replace H8 := Kept.mk (H8.out.new_ hb)
            replace HO8 := Kept.mk (HO8.out.new_ hb)
            replace HO9 := Kept.mk (HO9.out.new_ hb)
            have H9 := Kept.mk hbx
            clear hX hbv hb hbx
            refine hK.out _ _ (by (try dsimp only); exact pc_keep HB.out hbw C1.out C2.out C3.out) (fun hHeld => ?_); clear hK K; try simp only [Act.put, List.setIfInBounds_toArray, List.set_cons_zero, List.set_cons_succ, List.getElem_toArray, List.getElem_cons_succ, List.getElem_cons_zero]
            refine wpAnyH_ready (rs := [21]) (by kernel_rfl) (by simp) ?_; refine AllReadyH.cons rfl (fun K hK => ?_) AllReadyH.nil
            have y0 := H8.out.cell 0 (v := .int .i64 0) rfl
            have y1 := H8.out.cell 1 (v := .slice none 0 0) rfl
            have y2 := H8.out.cell 2 (v := .bool false) rfl
            have y3 := H8.out.free 0
            have y4 := H8.out.free 1
            have y5 := H8.out.free 2
            have y6 := H8.out.lt
            go_simp
            obtain ⟨X4, hX, hbx, hon⟩ := st_step H8.out (.int .i64 p1.s.off) (.slice p1.A p1.s.data.length p1.kap) (.bool p1.s.last)
            rw [← hX]
            replace HB := Kept.mk (HB.out.trans (hon.below (B := w2.heap.size) (by rintro g rfl; exact hle8) HB.out.size))
            replace H9 := Kept.mk (H9.out.only hon (fun e => hne9 e.symm))
            replace HO8 := Kept.mk (HO8.out.only hon H8.out)
            replace HO9 := Kept.mk (HO9.out.only hon H8.out)
            replace H8 := Kept.mk hbx
            clear hX hbx hon y0 y1 y2 y3 y4 y5 y6
            refine hK.out _ _ (by (try dsimp only); exact pc_keep HB.out hbw C1.out C2.out C3.out) (fun hHeld => ?_); clear hK K; try simp only [Act.put, List.setIfInBounds_toArray, List.set_cons_zero, List.set_cons_succ, List.getElem_toArray, List.getElem_cons_succ, List.getElem_cons_zero]
            refine wpAnyH_ready (rs := [22]) (by kernel_rfl) (by simp) ?_; refine AllReadyH.cons rfl (fun K hK => ?_) AllReadyH.nil
            have y0 := H9.out.cell 0 (v := .int .i64 0) rfl
            have y1 := H9.out.cell 1 (v := .slice none 0 0) rfl
            have y2 := H9.out.cell 2 (v := .bool false) rfl
            have y3 := H9.out.free 0
            have y4 := H9.out.free 1
            have y5 := H9.out.free 2
            have y6 := H9.out.lt
            go_simp
            obtain ⟨X5, hX, hbx, hon⟩ := st_step H9.out (.int .i64 q1.s.off) (.slice q1.A q1.s.data.length q1.kap) (.bool q1.s.last)
            rw [← hX]
            replace HB := Kept.mk (HB.out.trans (hon.below (B := w2.heap.size) (by rintro g rfl; exact hle9) HB.out.size))
            replace H8 := Kept.mk (H8.out.only hon hne9)
            replace HO8 := Kept.mk (HO8.out.only hon H9.out)
            replace HO9 := Kept.mk (HO9.out.only hon H9.out)
            replace H9 := Kept.mk hbx
            clear hX hbx hon y0 y1 y2 y3 y4 y5 y6
            refine hK.out _ _ (by (try dsimp only); exact pc_keep HB.out hbw C1.out C2.out C3.out) (fun hHeld => ?_); clear hK K; try simp only [Act.put, List.setIfInBounds_toArray, List.set_cons_zero, List.set_cons_succ, List.getElem_toArray, List.getElem_cons_succ, List.getElem_cons_zero]
            refine wpAnyH_take (i := 23) (v := ?_) rfl (by kernel_rfl) (by kernel_rfl) (by kernel_rfl) (fun _ _ _ h => h) (Or.inl ⟨by rfl, ?_⟩) (by assumption) ?_; rotate_left; (intro w hSw; (try dsimp only at hSw); go_simp; try (with_reducible rfl)); try simp only [Act.put, List.setIfInBounds_toArray, List.set_cons_zero, List.set_cons_succ, List.getElem_toArray, List.getElem_cons_succ, List.getElem_cons_zero]
            refine wpAnyH_done (by kernel_rfl) ?_ _
            go_wp2_with fail
            go_meet
            exact ⟨b8, b9, p1, q1, rfl, rfl, rfl, HP1.out, HQ1.out, ⟨⟨H8.out, H9.out, HO8.out, HO9.out, HB.out⟩⟩⟩
          · go_simp
            obtain ⟨X2, b9, hX, hbv, hb, hbx⟩ := al_step X1 #[.int .i64 0, .slice none 0 0, .bool false]
            rw [← hX, ← hbv]
            have hle9 : w2.heap.size ≤ b9 := by rw [hbv]; exact HB.out.size
            have hne9 : b8 ≠ b9 := by have h9 := H8.out.lt; omega
            replace HB := Kept.mk (join HB.out hb)
            replace H8 := Kept.mk (H8.out.new_ hb)
            have H9 := Kept.mk hbx
            clear hX hbv hb hbx
            refine hK.out _ _ (by (try dsimp only); exact pc_keep HB.out hbw C1.out C2.out C3.out) (fun hHeld => ?_); clear hK K; try simp only [Act.put, List.setIfInBounds_toArray, List.set_cons_zero, List.set_cons_succ, List.getElem_toArray, List.getElem_cons_succ, List.getElem_cons_zero]
            refine wpAnyH_ready (rs := [14]) (by kernel_rfl) (by simp) ?_; refine AllReadyH.cons rfl (fun K hK => ?_) AllReadyH.nil
            go_simp
            refine (cut_c p t _ w2.heap.size (HSP.out.below HB.out) HB.out.size).mono ?_
            rintro e X3 ⟨p1, q1, rfl, hp1, hq1, hop, hoq, hb⟩
            have HP1 := Kept.mk hp1
            have HQ1 := Kept.mk hq1
            have HO8 := Kept.mk (hop.base HB.out.size)
            have HO9 := Kept.mk (hoq.base HB.out.size)
            replace HB := Kept.mk (join HB.out hb)
            replace H8 := Kept.mk (H8.out.new_ hb)
            replace H9 := Kept.mk (H9.out.new_ hb)
            clear hb hop hoq hp1 hq1
            try go_wp2_with fail
            try unfold pval
            refine hK.out _ _ (by (try dsimp only); exact pc_keep HB.out hbw C1.out C2.out C3.out) (fun hHeld => ?_); clear hK K; try simp only [Act.put, List.setIfInBounds_toArray, List.set_cons_zero, List.set_cons_succ, List.getElem_toArray, List.getElem_cons_succ, List.getElem_cons_zero]
            refine wpAnyH_take (i := 15) (v := ?_) rfl (by kernel_rfl) (by kernel_rfl) (by kernel_rfl) (fun _ _ _ h => h) (Or.inl ⟨by rfl, ?_⟩) (by assumption) ?_; rotate_left; (intro w hSw; (try dsimp only at hSw); go_simp; try (with_reducible rfl)); try simp only [Act.put, List.setIfInBounds_toArray, List.set_cons_zero, List.set_cons_succ, List.getElem_toArray, List.getElem_cons_succ, List.getElem_cons_zero]
            refine wpAnyH_take (i := 16) (v := ?_) rfl (by kernel_rfl) (by kernel_rfl) (by kernel_rfl) (fun _ _ _ h => h) (Or.inl ⟨by rfl, ?_⟩) (by assumption) ?_; rotate_left; (intro w hSw; (try dsimp only at hSw); go_simp; try (with_reducible rfl)); try simp only [Act.put, List.setIfInBounds_toArray, List.set_cons_zero, List.set_cons_succ, List.getElem_toArray, List.getElem_cons_succ, List.getElem_cons_zero]
            refine wpAnyH_take (i := 17) (v := ?_) rfl (by kernel_rfl) (by kernel_rfl) (by kernel_rfl) (fun _ _ _ h => h) (Or.inl ⟨by rfl, ?_⟩) (by assumption) ?_; rotate_left; (intro w hSw; (try dsimp only at hSw); go_simp; try (with_reducible rfl)); try simp only [Act.put, List.setIfInBounds_toArray, List.set_cons_zero, List.set_cons_succ, List.getElem_toArray, List.getElem_cons_succ, List.getElem_cons_zero]
            refine wpAnyH_take (i := 18) (v := ?_) rfl (by kernel_rfl) (by kernel_rfl) (by kernel_rfl) (fun _ _ _ h => h) (Or.inl ⟨by rfl, ?_⟩) (by assumption) ?_; rotate_left; (intro w hSw; (try dsimp only at hSw); go_simp; try (with_reducible rfl)); try simp only [Act.put, List.setIfInBounds_toArray, List.set_cons_zero, List.set_cons_succ, List.getElem_toArray, List.getElem_cons_succ, List.getElem_cons_zero]
            refine wpAnyH_ready (rs := [21]) (by kernel_rfl) (by simp) ?_; refine AllReadyH.cons rfl (fun K hK => ?_) AllReadyH.nil
            have y0 := H8.out.cell 0 (v := .int .i64 0) rfl
            have y1 := H8.out.cell 1 (v := .slice none 0 0) rfl
            have y2 := H8.out.cell 2 (v := .bool false) rfl
            have y3 := H8.out.free 0
            have y4 := H8.out.free 1
            have y5 := H8.out.free 2
            have y6 := H8.out.lt
            go_simp
            obtain ⟨X4, hX, hbx, hon⟩ := st_step H8.out (.int .i64 p1.s.off) (.slice p1.A p1.s.data.length p1.kap) (.bool p1.s.last)
            rw [← hX]
            replace HB := Kept.mk (HB.out.trans (hon.below (B := w2.heap.size) (by rintro g rfl; exact hle8) HB.out.size))
            replace H9 := Kept.mk (H9.out.only hon (fun e => hne9 e.symm))
            replace HO8 := Kept.mk (HO8.out.only hon H8.out)
            replace HO9 := Kept.mk (HO9.out.only hon H8.out)
            replace H8 := Kept.mk hbx
            clear hX hbx hon y0 y1 y2 y3 y4 y5 y6
            refine hK.out _ _ (by (try dsimp only); exact pc_keep HB.out hbw C1.out C2.out C3.out) (fun hHeld => ?_); clear hK K; try simp only [Act.put, List.setIfInBounds_toArray, List.set_cons_zero, List.set_cons_succ, List.getElem_toArray, List.getElem_cons_succ, List.getElem_cons_zero]
            refine wpAnyH_ready (rs := [22]) (by kernel_rfl) (by simp) ?_; refine AllReadyH.cons rfl (fun K hK => ?_) AllReadyH.nil
            have y0 := H9.out.cell 0 (v := .int .i64 0) rfl
            have y1 := H9.out.cell 1 (v := .slice none 0 0) rfl
            have y2 := H9.out.cell 2 (v := .bool false) rfl
            have y3 := H9.out.free 0
            have y4 := H9.out.free 1
            have y5 := H9.out.free 2
            have y6 := H9.out.lt
            go_simp
            obtain ⟨X5, hX, hbx, hon⟩ := st_step H9.out (.int .i64 q1.s.off) (.slice q1.A q1.s.data.length q1.kap) (.bool q1.s.last)
            rw [← hX]
            replace HB := Kept.mk (HB.out.trans (hon.below (B := w2.heap.size) (by rintro g rfl; exact hle9) HB.out.size))
            replace H8 := Kept.mk (H8.out.only hon hne9)
            replace HO8 := Kept.mk (HO8.out.only hon H9.out)
            replace HO9 := Kept.mk (HO9.out.only hon H9.out)
            replace H9 := Kept.mk hbx
            clear hX hbx hon y0 y1 y2 y3 y4 y5 y6
            refine hK.out _ _ (by (try dsimp only); exact pc_keep HB.out hbw C1.out C2.out C3.out) (fun hHeld => ?_); clear hK K; try simp only [Act.put, List.setIfInBounds_toArray, List.set_cons_zero, List.set_cons_succ, List.getElem_toArray, List.getElem_cons_succ, List.getElem_cons_zero]
            refine wpAnyH_take (i := 23) (v := ?_) rfl (by kernel_rfl) (by kernel_rfl) (by kernel_rfl) (fun _ _ _ h => h) (Or.inl ⟨by rfl, ?_⟩) (by assumption) ?_; rotate_left; (intro w hSw; (try dsimp only at hSw); go_simp; try (with_reducible rfl)); try simp only [Act.put, List.setIfInBounds_toArray, List.set_cons_zero, List.set_cons_succ, List.getElem_toArray, List.getElem_cons_succ, List.getElem_cons_zero]
            refine wpAnyH_done (by kernel_rfl) ?_ _
            go_wp2_with fail
            go_meet
            exact ⟨b8, b9, p1, q1, rfl, rfl, rfl, HP1.out, HQ1.out, ⟨⟨H8.out, H9.out, HO8.out, HO9.out, HB.out⟩⟩⟩
        · go_simp
          obtain ⟨X1, b9, hX, hbv, hb, hbx⟩ := al_step X0 #[.int .i64 0, .slice none 0 0, .bool false]
          rw [← hX, ← hbv]
          have hle9 : w2.heap.size ≤ b9 := by rw [hbv]; exact HB.out.size
          replace HB := Kept.mk (join HB.out hb)
          have H9 := Kept.mk hbx
          clear hX hbv hb hbx
          refine hK.out _ _ (by (try dsimp only); exact pc_keep HB.out hbw C1.out C2.out C3.out) (fun hHeld => ?_); clear hK K; try simp only [Act.put, List.setIfInBounds_toArray, List.set_cons_zero, List.set_cons_succ, List.getElem_toArray, List.getElem_cons_succ, List.getElem_cons_zero]
          refine wpAnyH_ready (rs := [14, 19]) (by kernel_rfl) (by simp) ?_; refine AllReadyH.cons rfl (fun K hK => ?_) (AllReadyH.cons rfl (fun K hK => ?_) AllReadyH.nil)
          · go_simp
            refine (cut_c p t _ w2.heap.size (HSP.out.below HB.out) HB.out.size).mono ?_
            rintro e X2 ⟨p1, q1, rfl, hp1, hq1, hop, hoq, hb⟩
            have HP1 := Kept.mk hp1
            have HQ1 := Kept.mk hq1
            have HO8 := Kept.mk (hop.base HB.out.size)
            have HO9 := Kept.mk (hoq.base HB.out.size)
            replace HB := Kept.mk (join HB.out hb)
            replace H9 := Kept.mk (H9.out.new_ hb)
            clear hb hop hoq hp1 hq1
            try go_wp2_with fail
            try unfold pval
            refine hK.out _ _ (by (try dsimp only); exact pc_keep HB.out hbw C1.out C2.out C3.out) (fun hHeld => ?_); clear hK K; try simp only [Act.put, List.setIfInBounds_toArray, List.set_cons_zero, List.set_cons_succ, List.getElem_toArray, List.getElem_cons_succ, List.getElem_cons_zero]
            refine wpAnyH_take (i := 15) (v := ?_) rfl (by kernel_rfl) (by kernel_rfl) (by kernel_rfl) (fun _ _ _ h => h) (Or.inl ⟨by rfl, ?_⟩) (by assumption) ?_; rotate_left; (intro w hSw; (try dsimp only at hSw); go_simp; try (with_reducible rfl)); try simp only [Act.put, List.setIfInBounds_toArray, List.set_cons_zero, List.set_cons_succ, List.getElem_toArray, List.getElem_cons_succ, List.getElem_cons_zero]
            refine wpAnyH_take (i := 16) (v := ?_) rfl (by kernel_rfl) (by kernel_rfl) (by kernel_rfl) (fun _ _ _ h => h) (Or.inl ⟨by rfl, ?_⟩) (by assumption) ?_; rotate_left; (intro w hSw; (try dsimp only at hSw); go_simp; try (with_reducible rfl)); try simp only [Act.put, List.setIfInBounds_toArray, List.set_cons_zero, List.set_cons_succ, List.getElem_toArray, List.getElem_cons_succ, List.getElem_cons_zero]
            refine wpAnyH_take (i := 17) (v := ?_) rfl (by kernel_rfl) (by kernel_rfl) (by kernel_rfl) (fun _ _ _ h => h) (Or.inl ⟨by rfl, ?_⟩) (by assumption) ?_; rotate_left; (intro w hSw; (try dsimp only at hSw); go_simp; try (with_reducible rfl)); try simp only [Act.put, List.setIfInBounds_toArray, List.set_cons_zero, List.set_cons_succ, List.getElem_toArray, List.getElem_cons_succ, List.getElem_cons_zero]
            refine wpAnyH_take (i := 18) (v := ?_) rfl (by kernel_rfl) (by kernel_rfl) (by kernel_rfl) (fun _ _ _ h => h) (Or.inl ⟨by rfl, ?_⟩) (by assumption) ?_; rotate_left; (intro w hSw; (try dsimp only at hSw); go_simp; try (with_reducible rfl)); try simp only [Act.put, List.setIfInBounds_toArray, List.set_cons_zero, List.set_cons_succ, List.getElem_toArray, List.getElem_cons_succ, List.getElem_cons_zero]
            refine wpAnyH_ready (rs := [19]) (by kernel_rfl) (by simp) ?_; refine AllReadyH.cons rfl (fun K hK => ?_) AllReadyH.nil
            go_simp
            obtain ⟨X3, b8, hX, hbv, hb, hbx⟩ := al_step X2 #[.int .i64 0, .slice none 0 0, .bool false]
            rw [← hX, ← hbv]
            have hle8 : w2.heap.size ≤ b8 := by rw [hbv]; exact HB.out.size
            have hne8 : b9 ≠ b8 := by have h9 := H9.out.lt; omega
            replace HB := Kept.mk (join HB.out hb)
            replace H9 := Kept.mk (H9.out.new_ hb)
            replace HO8 := Kept.mk (HO8.out.new_ hb)
            replace HO9 := Kept.mk (HO9.out.new_ hb)
            have H8 := Kept.mk hbx
            clear hX hbv hb hbx
            refine hK.out _ _ (by (try dsimp only); exact pc_keep HB.out hbw C1.out C2.out C3.out) (fun hHeld => ?_); clear hK K; try simp only [Act.put, List.setIfInBounds_toArray, List.set_cons_zero, List.set_cons_succ, List.getElem_toArray, List.getElem_cons_succ, List.getElem_cons_zero]
            refine wpAnyH_ready (rs := [21]) (by kernel_rfl) (by simp) ?_; refine AllReadyH.cons rfl (fun K hK => ?_) AllReadyH.nil
            have y0 := H8.out.cell 0 (v := .int .i64 0) rfl
            have y1 := H8.out.cell 1 (v := .slice none 0 0) rfl
            have y2 := H8.out.cell 2 (v := .bool false) rfl
            have y3 := H8.out.free 0
            have y4 := H8.out.free 1
            have y5 := H8.out.free 2
            have y6 := H8.out.lt
            go_simp
            obtain ⟨X4, hX, hbx, hon⟩ := st_step H8.out (.int .i64 p1.s.off) (.slice p1.A p1.s.data.length p1.kap) (.bool p1.s.last)
            rw [← hX]
            replace HB := Kept.mk (HB.out.trans (hon.below (B := w2.heap.size) (by rintro g rfl; exact hle8) HB.out.size))
            replace H9 := Kept.mk (H9.out.only hon hne8)
            replace HO8 := Kept.mk (HO8.out.only hon H8.out)
            replace HO9 := Kept.mk (HO9.out.only hon H8.out)
            replace H8 := Kept.mk hbx
            clear hX hbx hon y0 y1 y2 y3 y4 y5 y6
            refine hK.out _ _ (by (try dsimp only); exact pc_keep HB.out hbw C1.out C2.out C3.out) (fun hHeld => ?_); clear hK K; try simp only [Act.put, List.setIfInBounds_toArray, List.set_cons_zero, List.set_cons_succ, List.getElem_toArray, List.getElem_cons_succ, List.getElem_cons_zero]
            refine wpAnyH_ready (rs := [22]) (by kernel_rfl) (by simp) ?_; refine AllReadyH.cons rfl (fun K hK => ?_) AllReadyH.nil
            have y0 := H9.out.cell 0 (v := .int .i64 0) rfl
            have y1 := H9.out.cell 1 (v := .slice none 0 0) rfl
            have y2 := H9.out.cell 2 (v := .bool false) rfl
            have y3 := H9.out.free 0
            have y4 := H9.out.free 1
            have y5 := H9.out.free 2
            have y6 := H9.out.lt
            go_simp
            obtain ⟨X5, hX, hbx, hon⟩ := st_step H9.out (.int .i64 q1.s.off) (.slice q1.A q1.s.data.length q1.kap) (.bool q1.s.last)
            rw [← hX]
            replace HB := Kept.mk (HB.out.trans (hon.below (B := w2.heap.size) (by rintro g rfl; exact hle9) HB.out.size))
            replace H8 := Kept.mk (H8.out.only hon (fun e => hne8 e.symm))
            replace HO8 := Kept.mk (HO8.out.only hon H9.out)
            replace HO9 := Kept.mk (HO9.out.only hon H9.out)
            replace H9 := Kept.mk hbx
            clear hX hbx hon y0 y1 y2 y3 y4 y5 y6
            refine hK.out _ _ (by (try dsimp only); exact pc_keep HB.out hbw C1.out C2.out C3.out) (fun hHeld => ?_); clear hK K; try simp only [Act.put, List.setIfInBounds_toArray, List.set_cons_zero, List.set_cons_succ, List.getElem_toArray, List.getElem_cons_succ, List.getElem_cons_zero]
            refine wpAnyH_take (i := 23) (v := ?_) rfl (by kernel_rfl) (by kernel_rfl) (by kernel_rfl) (fun _ _ _ h => h) (Or.inl ⟨by rfl, ?_⟩) (by assumption) ?_; rotate_left; (intro w hSw; (try dsimp only at hSw); go_simp; try (with_reducible rfl)); try simp only [Act.put, List.setIfInBounds_toArray, List.set_cons_zero, List.set_cons_succ, List.getElem_toArray, List.getElem_cons_succ, List.getElem_cons_zero]
            refine wpAnyH_done (by kernel_rfl) ?_ _
            go_wp2_with fail
            go_meet
            exact ⟨b8, b9, p1, q1, rfl, rfl, rfl, HP1.out, HQ1.out, ⟨⟨H8.out, H9.out, HO8.out, HO9.out, HB.out⟩⟩⟩
          · go_simp
            obtain ⟨X2, b8, hX, hbv, hb, hbx⟩ := al_step X1 #[.int .i64 0, .slice none 0 0, .bool false]
            rw [← hX, ← hbv]
            have hle8 : w2.heap.size ≤ b8 := by rw [hbv]; exact HB.out.size
            have hne8 : b9 ≠ b8 := by have h9 := H9.out.lt; omega
            replace HB := Kept.mk (join HB.out hb)
            replace H9 := Kept.mk (H9.out.new_ hb)
            have H8 := Kept.mk hbx
            clear hX hbv hb hbx
            refine hK.out _ _ (by (try dsimp only); exact pc_keep HB.out hbw C1.out C2.out C3.out) (fun hHeld => ?_); clear hK K; try simp only [Act.put, List.setIfInBounds_toArray, List.set_cons_zero, List.set_cons_succ, List.getElem_toArray, List.getElem_cons_succ, List.getElem_cons_zero]
            refine wpAnyH_ready (rs := [14]) (by kernel_rfl) (by simp) ?_; refine AllReadyH.cons rfl (fun K hK => ?_) AllReadyH.nil
            go_simp
            refine (cut_c p t _ w2.heap.size (HSP.out.below HB.out) HB.out.size).mono ?_
            rintro e X3 ⟨p1, q1, rfl, hp1, hq1, hop, hoq, hb⟩
            have HP1 := Kept.mk hp1
            have HQ1 := Kept.mk hq1
            have HO8 := Kept.mk (hop.base HB.out.size)
            have HO9 := Kept.mk (hoq.base HB.out.size)
            replace HB := Kept.mk (join HB.out hb)
            replace H8 := Kept.mk (H8.out.new_ hb)
            replace H9 := Kept.mk (H9.out.new_ hb)
            clear hb hop hoq hp1 hq1
            try go_wp2_with fail
            try unfold pval
            refine hK.out _ _ (by (try dsimp only); exact pc_keep HB.out hbw C1.out C2.out C3.out) (fun hHeld => ?_); clear hK K; try simp only [Act.put, List.setIfInBounds_toArray, List.set_cons_zero, List.set_cons_succ, List.getElem_toArray, List.getElem_cons_succ, List.getElem_cons_zero]
            refine wpAnyH_take (i := 15) (v := ?_) rfl (by kernel_rfl) (by kernel_rfl) (by kernel_rfl) (fun _ _ _ h => h) (Or.inl ⟨by rfl, ?_⟩) (by assumption) ?_; rotate_left; (intro w hSw; (try dsimp only at hSw); go_simp; try (with_reducible rfl)); try simp only [Act.put, List.setIfInBounds_toArray, List.set_cons_zero, List.set_cons_succ, List.getElem_toArray, List.getElem_cons_succ, List.getElem_cons_zero]
            refine wpAnyH_take (i := 16) (v := ?_) rfl (by kernel_rfl) (by kernel_rfl) (by kernel_rfl) (fun _ _ _ h => h) (Or.inl ⟨by rfl, ?_⟩) (by assumption) ?_; rotate_left; (intro w hSw; (try dsimp only at hSw); go_simp; try (with_reducible rfl)); try simp only [Act.put, List.setIfInBounds_toArray, List.set_cons_zero, List.set_cons_succ, List.getElem_toArray, List.getElem_cons_succ, List.getElem_cons_zero]
            refine wpAnyH_take (i := 17) (v := ?_) rfl (by kernel_rfl) (by kernel_rfl) (by kernel_rfl) (fun _ _ _ h => h) (Or.inl ⟨by rfl, ?_⟩) (by assumption) ?_; rotate_left; (intro w hSw; (try dsimp only at hSw); go_simp; try (with_reducible rfl)); try simp only [Act.put, List.setIfInBounds_toArray, List.set_cons_zero, List.set_cons_succ, List.getElem_toArray, List.getElem_cons_succ, List.getElem_cons_zero]
            refine wpAnyH_take (i := 18) (v := ?_) rfl (by kernel_rfl) (by kernel_rfl) (by kernel_rfl) (fun _ _ _ h => h) (Or.inl ⟨by rfl, ?_⟩) (by assumption) ?_; rotate_left; (intro w hSw; (try dsimp only at hSw); go_simp; try (with_reducible rfl)); try simp only [Act.put, List.setIfInBounds_toArray, List.set_cons_zero, List.set_cons_succ, List.getElem_toArray, List.getElem_cons_succ, List.getElem_cons_zero]
            refine wpAnyH_ready (rs := [21]) (by kernel_rfl) (by simp) ?_; refine AllReadyH.cons rfl (fun K hK => ?_) AllReadyH.nil
            have y0 := H8.out.cell 0 (v := .int .i64 0) rfl
            have y1 := H8.out.cell 1 (v := .slice none 0 0) rfl
            have y2 := H8.out.cell 2 (v := .bool false) rfl
            have y3 := H8.out.free 0
            have y4 := H8.out.free 1
            have y5 := H8.out.free 2
            have y6 := H8.out.lt
            go_simp
            obtain ⟨X4, hX, hbx, hon⟩ := st_step H8.out (.int .i64 p1.s.off) (.slice p1.A p1.s.data.length p1.kap) (.bool p1.s.last)
            rw [← hX]
            replace HB := Kept.mk (HB.out.trans (hon.below (B := w2.heap.size) (by rintro g rfl; exact hle8) HB.out.size))
            replace H9 := Kept.mk (H9.out.only hon hne8)
            replace HO8 := Kept.mk (HO8.out.only hon H8.out)
            replace HO9 := Kept.mk (HO9.out.only hon H8.out)
            replace H8 := Kept.mk hbx
            clear hX hbx hon y0 y1 y2 y3 y4 y5 y6
            refine hK.out _ _ (by (try dsimp only); exact pc_keep HB.out hbw C1.out C2.out C3.out) (fun hHeld => ?_); clear hK K; try simp only [Act.put, List.setIfInBounds_toArray, List.set_cons_zero, List.set_cons_succ, List.getElem_toArray, List.getElem_cons_succ, List.getElem_cons_zero]
            refine wpAnyH_ready (rs := [22]) (by kernel_rfl) (by simp) ?_; refine AllReadyH.cons rfl (fun K hK => ?_) AllReadyH.nil
            have y0 := H9.out.cell 0 (v := .int .i64 0) rfl
            have y1 := H9.out.cell 1 (v := .slice none 0 0) rfl
            have y2 := H9.out.cell 2 (v := .bool false) rfl
            have y3 := H9.out.free 0
            have y4 := H9.out.free 1
            have y5 := H9.out.free 2
            have y6 := H9.out.lt
            go_simp
            obtain ⟨X5, hX, hbx, hon⟩ := st_step H9.out (.int .i64 q1.s.off) (.slice q1.A q1.s.data.length q1.kap) (.bool q1.s.last)
            rw [← hX]
            replace HB := Kept.mk (HB.out.trans (hon.below (B := w2.heap.size) (by rintro g rfl; exact hle9) HB.out.size))
            replace H8 := Kept.mk (H8.out.only hon (fun e => hne8 e.symm))
            replace HO8 := Kept.mk (HO8.out.only hon H9.out)
            replace HO9 := Kept.mk (HO9.out.only hon H9.out)
            replace H9 := Kept.mk hbx
            clear hX hbx hon y0 y1 y2 y3 y4 y5 y6
            refine hK.out _ _ (by (try dsimp only); exact pc_keep HB.out hbw C1.out C2.out C3.out) (fun hHeld => ?_); clear hK K; try simp only [Act.put, List.setIfInBounds_toArray, List.set_cons_zero, List.set_cons_succ, List.getElem_toArray, List.getElem_cons_succ, List.getElem_cons_zero]
            refine wpAnyH_take (i := 23) (v := ?_) rfl (by kernel_rfl) (by kernel_rfl) (by kernel_rfl) (fun _ _ _ h => h) (Or.inl ⟨by rfl, ?_⟩) (by assumption) ?_; rotate_left; (intro w hSw; (try dsimp only at hSw); go_simp; try (with_reducible rfl)); try simp only [Act.put, List.setIfInBounds_toArray, List.set_cons_zero, List.set_cons_succ, List.getElem_toArray, List.getElem_cons_succ, List.getElem_cons_zero]
            refine wpAnyH_done (by kernel_rfl) ?_ _
            go_wp2_with fail
            go_meet
            exact ⟨b8, b9, p1, q1, rfl, rfl, rfl, HP1.out, HQ1.out, ⟨⟨H8.out, H9.out, HO8.out, HO9.out, HB.out⟩⟩⟩
      case rest =>
        obtain ⟨b8, b9, p1, q1, rfl, rfl, rfl, hp1, hq1, HPC⟩ := hcut
        have HP1 := Kept.mk hp1
        have HQ1 := Kept.mk hq1
        clear hp1 hq1
        cases hv : validB p.s with
        | false =>
          have q7 : (cutE p.s t != 0) = true := by rw [cutE_bad hv]; rfl
          clear hv
          go_wp2_with fail
          go_ret
          exact ⟨rfl, join HJ2.out HPC.out.bel⟩
        | true =>
          obtain ⟨n, hn9⟩ : ∃ n : Nat, t = n := ⟨t.toNat, by omega⟩
          have hnl : n ≤ p.s.data.length := by omega
          have HE : cutE p.s t = 0 := by rw [hn9]; exact cutE_zero hv hnl
          have HPP : Kept (cutP p.s t = (⟨p.s.off, p.s.data.take n, false⟩, ⟨p.s.off + n, p.s.data.drop n, p.s.last⟩)) := ⟨by rw [hn9]; exact cutP_zero hv hnl⟩
          have HNL := Kept.mk hnl
          have HVV := Kept.mk hv
          have q7 : (cutE p.s t != 0) = false := by rw [HE]; rfl
          clear hv hnl HE hn9
          have hkk : (k : Int) ≤ kap := by omega
          have hk1 : (k : Int) + 1 ≤ l.length := by omega
          obtain ⟨A', hA'⟩ : ∃ A', A' = if kap = k + 1 then some (⟨b0, off, none⟩ : Addr) else (some (⟨b0, off, none⟩ : Addr)).map fun x => x.add ((k + 1) * 3) := ⟨_, rfl⟩
          have HA' := Kept.mk hA'
          have hs1 := fun w => seg_head (A := some ⟨b0, off, none⟩) (n := l.length) (kap := kap) (i := k) w (by omega) (by omega)
          have hs2 := fun w => seg_tail (n := l.length) w hkl HA'.out
          have hwk : IntKind.i64.wrap ((k : Int) + 1) = (k : Int) + 1 := IntWalk.i64_in _ (by omega)
          clear hA'
          have hnm : l.length ≤ 40 := hn
          have HML : Kept ((l.take k ++ [p1, q1] ++ l.drop (k + 1)).length = k + 2 + (l.length - (k + 1))) := ⟨by simp; omega⟩
          have HSC : Kept (scells (l.take k) ++ scells [p1, q1] ++ scells (l.drop (k + 1)) = scells (l.take k ++ [p1, q1] ++ l.drop (k + 1))) := ⟨by rw [scells_app, scells_app]⟩
          have HS2 := Kept.mk (segsAt_new HS.out HJ2.out)
          obtain ⟨jj, hjj, hy0, hy1, hy2⟩ := info_parts info24
          go_upto_region 9 with fail
          go_cut [11] (fun s11 wx => ∃ (A9 : Option Addr) (k9 : Nat), s11 = .slice A9 (l.take k ++ [p1, q1] ++ l.drop (k + 1)).length k9 ∧ Kept (SegsAt wx wx.heap.size A9 (l.take k ++ [p1, q1] ++ l.drop (k + 1))) ∧ Kept (Below w2.heap.size w2 wx))
          case first =>
            refine wp_region_held_drew (S := fun w' => w'.cell? ⟨b8, 0, none⟩ = some (.int .i64 p1.s.off) ∧ w'.cell? ⟨b8, 1, none⟩ = some (.slice p1.A p1.s.data.length p1.kap) ∧ w'.cell? ⟨b8, 2, none⟩ = some (.bool p1.s.last) ∧ w'.cell? ⟨b9, 0, none⟩ = some (.int .i64 q1.s.off) ∧ w'.cell? ⟨b9, 1, none⟩ = some (.slice q1.A q1.s.data.length q1.kap) ∧ w'.cell? ⟨b9, 2, none⟩ = some (.bool q1.s.last)) (by kernel_rfl) (by (try dsimp only); exact (HPC.out.new_ (dN (Below.refl wc.heap.size wc) 1)).cells) (fun hHeld => ?_)
            obtain ⟨X0, hX0⟩ : ∃ X, X = wc.drew := ⟨_, rfl⟩
            rw [← hX0] at hHeld ⊢
            have PC : Kept (Pc w2 X0 b8 b9 p1 q1) := ⟨by rw [hX0]; exact HPC.out.new_ (dN (Below.refl wc.heap.size wc) 1)⟩
            clear hX0
            refine wpAnyH_take (i := 0) (v := ?_) rfl (by kernel_rfl) (by kernel_rfl) (by kernel_rfl) (fun _ _ _ h => h) (Or.inl ⟨by rfl, ?_⟩) (by assumption) ?_; rotate_left; (intro w hSw; (try dsimp only at hSw); go_simp; try (with_reducible rfl)); try simp only [Act.put, List.setIfInBounds_toArray, List.set_cons_zero, List.set_cons_succ, List.getElem_toArray, List.getElem_cons_succ, List.getElem_cons_zero]
            refine wpAnyH_take (i := 1) (v := ?_) rfl (by kernel_rfl) (by kernel_rfl) (by kernel_rfl) (fun _ _ _ h => h) (Or.inl ⟨by rfl, ?_⟩) (by assumption) ?_; rotate_left; (intro w hSw; (try dsimp only at hSw); go_simp; try (with_reducible rfl)); try simp only [Act.put, List.setIfInBounds_toArray, List.set_cons_zero, List.set_cons_succ, List.getElem_toArray, List.getElem_cons_succ, List.getElem_cons_zero]
            refine wpAnyH_take (i := 2) (v := ?_) rfl (by kernel_rfl) (by kernel_rfl) (by kernel_rfl) (fun _ _ _ h => h) (Or.inl ⟨by rfl, ?_⟩) (by assumption) ?_; rotate_left; (intro w hSw; (try dsimp only at hSw); go_simp; try (with_reducible rfl)); try simp only [Act.put, List.setIfInBounds_toArray, List.set_cons_zero, List.set_cons_succ, List.getElem_toArray, List.getElem_cons_succ, List.getElem_cons_zero]
            refine wpAnyH_take (i := 4) (v := ?_) rfl (by kernel_rfl) (by kernel_rfl) (by kernel_rfl) (fun _ _ _ h => h) (Or.inl ⟨by rfl, ?_⟩) (by assumption) ?_; rotate_left; (intro w hSw; (try dsimp only at hSw); go_simp; try (with_reducible rfl)); try simp only [Act.put, List.setIfInBounds_toArray, List.set_cons_zero, List.set_cons_succ, List.getElem_toArray, List.getElem_cons_succ, List.getElem_cons_zero]
            refine wpAnyH_take (i := 5) (v := ?_) rfl (by kernel_rfl) (by kernel_rfl) (by kernel_rfl) (fun _ _ _ h => h) (Or.inl ⟨by rfl, ?_⟩) (by assumption) ?_; rotate_left; (intro w hSw; (try dsimp only at hSw); go_simp; try (with_reducible rfl)); try simp only [Act.put, List.setIfInBounds_toArray, List.set_cons_zero, List.set_cons_succ, List.getElem_toArray, List.getElem_cons_succ, List.getElem_cons_zero]
            refine wpAnyH_take (i := 8) (v := ?_) rfl (by kernel_rfl) (by kernel_rfl) (by kernel_rfl) (fun _ _ _ h => h) (Or.inl ⟨by rfl, ?_⟩) (by assumption) ?_; rotate_left; (intro w hSw; (try dsimp only at hSw); go_simp; try (with_reducible rfl)); try simp only [Act.put, List.setIfInBounds_toArray, List.set_cons_zero, List.set_cons_succ, List.getElem_toArray, List.getElem_cons_succ, List.getElem_cons_zero]
            refine wpAnyH_take (i := 9) (v := ?_) rfl (by kernel_rfl) (by kernel_rfl) (by kernel_rfl) (fun _ _ _ h => h) (Or.inl ⟨by rfl, ?_⟩) (by assumption) ?_; rotate_left; (intro w hSw; (try dsimp only at hSw); go_simp; try (with_reducible rfl)); try simp only [Act.put, List.setIfInBounds_toArray, List.set_cons_zero, List.set_cons_succ, List.getElem_toArray, List.getElem_cons_succ, List.getElem_cons_zero]
            refine wpAnyH_take (i := 10) (v := ?_) rfl (by kernel_rfl) (by kernel_rfl) (by kernel_rfl) (fun _ _ _ h => h) (Or.inl ⟨by rfl, ?_⟩) (by assumption) ?_; rotate_left; (intro w hSw; (try dsimp only at hSw); go_simp; try (with_reducible rfl)); try simp only [Act.put, List.setIfInBounds_toArray, List.set_cons_zero, List.set_cons_succ, List.getElem_toArray, List.getElem_cons_succ, List.getElem_cons_zero]
            refine wpAnyH_take (i := 11) (v := ?_) rfl (by kernel_rfl) (by kernel_rfl) (by kernel_rfl) (fun _ _ _ h => h) (Or.inl ⟨by rfl, ?_⟩) (by assumption) ?_; rotate_left; (intro w hSw; (try dsimp only at hSw); go_simp; try (with_reducible rfl)); try simp only [Act.put, List.setIfInBounds_toArray, List.set_cons_zero, List.set_cons_succ, List.getElem_toArray, List.getElem_cons_succ, List.getElem_cons_zero]
            refine wpAnyH_ready (rs := [3, 6]) (by kernel_rfl) (by simp) ?_; refine AllReadyH.cons rfl (fun K hK => ?_) (AllReadyH.cons rfl (fun K hK => ?_) AllReadyH.nil)
            · go_simp
              refine (cloneS_c (some ⟨b0, off, none⟩) kap k (l.take k) _ w2.heap.size (by rw [List.length_take]; omega) ((HS2.out.below PC.out.bel).rd.take3 rfl (by omega)) PC.out.bel.size (by omega)).mono ?_
              rintro e X1 ⟨vc, rfl, hown, hb⟩
              obtain ⟨Bc, hBc⟩ : ∃ B, B = X0.heap.size := ⟨_, rfl⟩
              rw [← hBc] at hown
              have HC := Kept.mk hown
              have PQ : Kept (Pq w2 Bc b8 b9 p1 q1 X1) := ⟨by rw [hBc]; exact PC.out.q.new_ hb⟩
              have hBX : Bc ≤ X1.heap.size := by rw [hBc]; exact hb.size
              clear hBc hown hb
              try go_wp2_with fail
              refine hK.out _ _ (by (try dsimp only); (first | exact PQ.out.pc.cells | exact PC.out.cells)) (fun hHeld => ?_); clear hK K; try simp only [Act.put, List.setIfInBounds_toArray, List.set_cons_zero, List.set_cons_succ, List.getElem_toArray, List.getElem_cons_succ, List.getElem_cons_zero]
              refine wpAnyH_ready (rs := [6]) (by kernel_rfl) (by simp) ?_; refine AllReadyH.cons rfl (fun K hK => ?_) AllReadyH.nil
              go_simp
              obtain ⟨X2, bl, hX, hbl, hb, hbx⟩ := al_step X1 #[.int .i64 p1.s.off, .slice p1.A p1.s.data.length p1.kap, .bool p1.s.last, .int .i64 q1.s.off, .slice q1.A q1.s.data.length q1.kap, .bool q1.s.last]
              rw [← hX, ← hbl]
              have HM := Kept.mk (rd6 (ps := [p1, q1]) hbx rfl)
              replace HC := Kept.mk (own_new HC.out hb)
              replace PQ := Kept.mk (PQ.out.new_ hb)
              replace hBX := Nat.le_trans hBX hb.size
              clear hX hbl hb hbx
              refine hK.out _ _ (by (try dsimp only); (first | exact PQ.out.pc.cells | exact PC.out.cells)) (fun hHeld => ?_); clear hK K; try simp only [Act.put, List.setIfInBounds_toArray, List.set_cons_zero, List.set_cons_succ, List.getElem_toArray, List.getElem_cons_succ, List.getElem_cons_zero]
              refine wpAnyH_ready (rs := [7]) (by kernel_rfl) (by simp) ?_; refine AllReadyH.cons rfl (fun K hK => ?_) AllReadyH.nil
              refine step_append_any _ rfl (.tmp 58) (.tmp 61) 34 rfl Bc 24 jj _ 3 40 Try.underlying34 hjj hy0 hy1 hy2 rfl (by omega) _ k _ rfl HC.out _ _ 2 2 _ rfl HM.out scells_one (by unfold maxLen; omega) (by omega) hBX ?_; intro v7 X3 ho hgw hat
              replace PQ := Kept.mk (PQ.out.grown hgw (fun g hg => (HC.out.lt g hg).1))
              replace hBX := Nat.le_trans hBX hgw.size
              replace HC := Kept.mk ho
              clear ho hgw hat
              refine hK.out _ _ (by (try dsimp only); (first | exact PQ.out.pc.cells | exact PC.out.cells)) (fun hHeld => ?_); clear hK K; try simp only [Act.put, List.setIfInBounds_toArray, List.set_cons_zero, List.set_cons_succ, List.getElem_toArray, List.getElem_cons_succ, List.getElem_cons_zero]
              refine wpAnyH_ready (rs := [12]) (by kernel_rfl) (by simp) ?_; refine AllReadyH.cons rfl (fun K hK => ?_) AllReadyH.nil
              refine step_append_any _ rfl (.tmp 62) (.tmp 66) 34 rfl Bc 24 jj _ 3 40 Try.underlying34 hjj hy0 hy1 hy2 rfl (by omega) _ (k + 2) _ rfl HC.out w2.heap.size A' (l.length - (k + 1)) (kap - (k + 1)) _ rfl ((HS2.out.below PQ.out.pc.bel).rd.tail3 rfl hkl hkap9 HA'.out) scells_one (by unfold maxLen; omega) (by omega) hBX ?_; intro v8 X4 ho hgw hat
              replace PQ := Kept.mk (PQ.out.grown hgw (fun g hg => (HC.out.lt g hg).1))
              replace hBX := Nat.le_trans hBX hgw.size
              rw [HSC.out] at ho
              replace HC := Kept.mk ho
              clear ho hgw hat
              refine hK.out _ _ (by (try dsimp only); (first | exact PQ.out.pc.cells | exact PC.out.cells)) (fun hHeld => ?_); clear hK K; try simp only [Act.put, List.setIfInBounds_toArray, List.set_cons_zero, List.set_cons_succ, List.getElem_toArray, List.getElem_cons_succ, List.getElem_cons_zero]
              refine wpAnyH_take (i := 13) (v := ?_) rfl (by kernel_rfl) (by kernel_rfl) (by kernel_rfl) (fun _ _ _ h => h) (Or.inl ⟨by rfl, ?_⟩) (by assumption) ?_; rotate_left; (intro w hSw; (try dsimp only at hSw); go_simp; try (with_reducible rfl)); try simp only [Act.put, List.setIfInBounds_toArray, List.set_cons_zero, List.set_cons_succ, List.getElem_toArray, List.getElem_cons_succ, List.getElem_cons_zero]
              refine wpAnyH_done (by kernel_rfl) ?_ _
              go_wp2_with fail
              obtain ⟨A9, k9, rfl⟩ := own_slice HC.out
              go_meet
              refine ⟨A9, k9, by rw [HML.out], ⟨⟨by rw [HML.out]; exact Reads.of_own HC.out, fun pp hpp => ?_⟩⟩, ⟨PQ.out.pc.bel⟩⟩
              rcases List.mem_append.1 hpp with h9 | h9
              · rcases List.mem_append.1 h9 with h9 | h9
                · exact ((HS2.out.below PQ.out.pc.bel).seg pp (List.mem_of_mem_take h9)).more PQ.out.pc.bel.size
                · simp only [List.mem_cons, List.not_mem_nil, or_false] at h9
                  rcases h9 with rfl | rfl
                  · exact PQ.out.pc.o8.at_
                  · exact PQ.out.pc.o9.at_
              · exact ((HS2.out.below PQ.out.pc.bel).seg pp (List.mem_of_mem_drop h9)).more PQ.out.pc.bel.size
            · go_simp
              obtain ⟨X1, bl, hX, hbl, hb, hbx⟩ := al_step X0 #[.int .i64 p1.s.off, .slice p1.A p1.s.data.length p1.kap, .bool p1.s.last, .int .i64 q1.s.off, .slice q1.A q1.s.data.length q1.kap, .bool q1.s.last]
              rw [← hX, ← hbl]
              have HM := Kept.mk (rd6 (ps := [p1, q1]) hbx rfl)
              replace PC := Kept.mk (PC.out.new_ hb)
              clear hX hbl hb hbx
              refine hK.out _ _ (by (try dsimp only); (first | exact PQ.out.pc.cells | exact PC.out.cells)) (fun hHeld => ?_); clear hK K; try simp only [Act.put, List.setIfInBounds_toArray, List.set_cons_zero, List.set_cons_succ, List.getElem_toArray, List.getElem_cons_succ, List.getElem_cons_zero]
              refine wpAnyH_ready (rs := [3]) (by kernel_rfl) (by simp) ?_; refine AllReadyH.cons rfl (fun K hK => ?_) AllReadyH.nil
              go_simp
              refine (cloneS_c (some ⟨b0, off, none⟩) kap k (l.take k) _ w2.heap.size (by rw [List.length_take]; omega) ((HS2.out.below PC.out.bel).rd.take3 rfl (by omega)) PC.out.bel.size (by omega)).mono ?_
              rintro e X2 ⟨vc, rfl, hown, hb⟩
              obtain ⟨Bc, hBc⟩ : ∃ B, B = X1.heap.size := ⟨_, rfl⟩
              rw [← hBc] at hown
              have HC := Kept.mk hown
              have PQ : Kept (Pq w2 Bc b8 b9 p1 q1 X2) := ⟨by rw [hBc]; exact PC.out.q.new_ hb⟩
              have hBX : Bc ≤ X2.heap.size := by rw [hBc]; exact hb.size
              replace HM := Kept.mk ((HM.out.below hb).more hb.size)
              clear hBc hown hb
              try go_wp2_with fail
              refine hK.out _ _ (by (try dsimp only); (first | exact PQ.out.pc.cells | exact PC.out.cells)) (fun hHeld => ?_); clear hK K; try simp only [Act.put, List.setIfInBounds_toArray, List.set_cons_zero, List.set_cons_succ, List.getElem_toArray, List.getElem_cons_succ, List.getElem_cons_zero]
              refine wpAnyH_ready (rs := [7]) (by kernel_rfl) (by simp) ?_; refine AllReadyH.cons rfl (fun K hK => ?_) AllReadyH.nil
              refine step_append_any _ rfl (.tmp 58) (.tmp 61) 34 rfl Bc 24 jj _ 3 40 Try.underlying34 hjj hy0 hy1 hy2 rfl (by omega) _ k _ rfl HC.out _ _ 2 2 _ rfl HM.out scells_one (by unfold maxLen; omega) (by omega) hBX ?_; intro v7 X3 ho hgw hat
              replace PQ := Kept.mk (PQ.out.grown hgw (fun g hg => (HC.out.lt g hg).1))
              replace hBX := Nat.le_trans hBX hgw.size
              replace HC := Kept.mk ho
              clear ho hgw hat
              refine hK.out _ _ (by (try dsimp only); (first | exact PQ.out.pc.cells | exact PC.out.cells)) (fun hHeld => ?_); clear hK K; try simp only [Act.put, List.setIfInBounds_toArray, List.set_cons_zero, List.set_cons_succ, List.getElem_toArray, List.getElem_cons_succ, List.getElem_cons_zero]
              refine wpAnyH_ready (rs := [12]) (by kernel_rfl) (by simp) ?_; refine AllReadyH.cons rfl (fun K hK => ?_) AllReadyH.nil
              refine step_append_any _ rfl (.tmp 62) (.tmp 66) 34 rfl Bc 24 jj _ 3 40 Try.underlying34 hjj hy0 hy1 hy2 rfl (by omega) _ (k + 2) _ rfl HC.out w2.heap.size A' (l.length - (k + 1)) (kap - (k + 1)) _ rfl ((HS2.out.below PQ.out.pc.bel).rd.tail3 rfl hkl hkap9 HA'.out) scells_one (by unfold maxLen; omega) (by omega) hBX ?_; intro v8 X4 ho hgw hat
              replace PQ := Kept.mk (PQ.out.grown hgw (fun g hg => (HC.out.lt g hg).1))
              replace hBX := Nat.le_trans hBX hgw.size
              rw [HSC.out] at ho
              replace HC := Kept.mk ho
              clear ho hgw hat
              refine hK.out _ _ (by (try dsimp only); (first | exact PQ.out.pc.cells | exact PC.out.cells)) (fun hHeld => ?_); clear hK K; try simp only [Act.put, List.setIfInBounds_toArray, List.set_cons_zero, List.set_cons_succ, List.getElem_toArray, List.getElem_cons_succ, List.getElem_cons_zero]
              refine wpAnyH_take (i := 13) (v := ?_) rfl (by kernel_rfl) (by kernel_rfl) (by kernel_rfl) (fun _ _ _ h => h) (Or.inl ⟨by rfl, ?_⟩) (by assumption) ?_; rotate_left; (intro w hSw; (try dsimp only at hSw); go_simp; try (with_reducible rfl)); try simp only [Act.put, List.setIfInBounds_toArray, List.set_cons_zero, List.set_cons_succ, List.getElem_toArray, List.getElem_cons_succ, List.getElem_cons_zero]
              refine wpAnyH_done (by kernel_rfl) ?_ _
              go_wp2_with fail
              obtain ⟨A9, k9, rfl⟩ := own_slice HC.out
              go_meet
              refine ⟨A9, k9, by rw [HML.out], ⟨⟨by rw [HML.out]; exact Reads.of_own HC.out, fun pp hpp => ?_⟩⟩, ⟨PQ.out.pc.bel⟩⟩
              rcases List.mem_append.1 hpp with h9 | h9
              · rcases List.mem_append.1 h9 with h9 | h9
                · exact ((HS2.out.below PQ.out.pc.bel).seg pp (List.mem_of_mem_take h9)).more PQ.out.pc.bel.size
                · simp only [List.mem_cons, List.not_mem_nil, or_false] at h9
                  rcases h9 with rfl | rfl
                  · exact PQ.out.pc.o8.at_
                  · exact PQ.out.pc.o9.at_
              · exact ((HS2.out.below PQ.out.pc.bel).seg pp (List.mem_of_mem_drop h9)).more PQ.out.pc.bel.size
          case rest =>
            obtain ⟨A9, k9, rfl, HSM, HBX⟩ := hcut
            obtain ⟨M, hM⟩ : ∃ M : List PSeg, M = l.take k ++ [p1, q1] ++ l.drop (k + 1) := ⟨_, rfl⟩
            rw [← hM] at HSM HML ⊢
            have HMM := Kept.mk hM
            clear hM
            have tok1 : True := trivial
            clear hjj hy0 hy1 hy2 hs1 hs2
            go_upto_region 11 with (go_at_call 25; refine (join_c l _ kap _ w2.heap.size (HS2.out.below HBX.out) HBX.out.size (by omega)).mono ?_; rintro e w5 ⟨r1, v5, hj5, hby5, rfl, ho5, hb5⟩; obtain ⟨A5, k5, rfl⟩ := own_slice ho5; have HJ5 := Kept.mk hj5; have HO5 := Kept.mk ho5; have HB5 := Kept.mk hb5; clear hj5 hby5 ho5 hb5)
            go_wp2_with (go_at_call 25; refine (join_c M A9 k9 _ _ (HSM.out.below HB5.out) HB5.out.size (by rw [HML.out]; omega)).mono ?_; rintro e w6 ⟨r2, v6, hj6, hby6, rfl, ho6, hb6⟩; obtain ⟨A6, k6, rfl⟩ := own_slice ho6; obtain rfl := pieces_join HP.out hnm HVV.out HNL.out (by rw [HP1.out, HPP.out]) (by rw [HQ1.out, HPP.out]) HJ5.out (by rw [HMM.out] at hj6; exact hj6); have kv5 := conv_reads (P := Try.prog) (kap := k5) 22 5 9 Try.underlying22 Try.underlying5 Try.underlying9 (Reads.of_own (own_new HO5.out hb6)); have kv6 := conv_reads (P := Try.prog) (kap := k6) 22 5 9 Try.underlying22 Try.underlying5 Try.underlying9 (Reads.of_own ho6); have HB6 := Kept.mk hb6; clear hj6 hby6 ho6 hb6)
            go_ret
            exact ⟨rfl, join (join (join HJ2.out HBX.out) HB5.out) HB6.out⟩
  · go_wp2_with fail
    go_ret
    exact ⟨rfl, HJ2.out⟩

set_option maxRecDepth 100000 in
theorem liftedSegmentPieces (os : Os) (started : os.Started) (H : Type) (enc : TypeId × Value → H) :
    ReturnsInHanded {} Try.checked os 9 .any (Rows.segmentPiecesSpec.pre6 enc Try.prog Try.f9 Rows.segmentPiecesRow.domain false) (Rows.segmentPiecesSpec.post enc Try.prog Try.f9 false true false false) := by
  refine returnsInHanded_of_change (C := Try.checked) own started (by kernel_rfl) Try.func9
    (ChangeSpec.witness6 (enc := enc) (C := Try.checked) false ⟨#[], #[.slice none 0 0, .int .u8 0, .int .u8 0], []⟩ 8 (by kernel_rfl) (by kernel_rfl) (by kernel_rfl) (by kernel_rfl)) ?_
  intro W base args ds gs before hval0 hW hcnd _
  have hval : ∀ (j : Nat) t v, Try.f9.params[j]? = some t → args[j]? = some v → Value.okWide Try.prog W .any base t v := hval0
  have hW' := hW
  obtain ⟨p, q, hA0, hV, rfl, hfz, hnd⟩ := hW
  have hA : DataW.TrodAll enc Try.prog W 0 (fun _ => true) true Try.f9.params.toList args.toList ds p := hA0
  rw [Try.params9] at hA hval
  obtain ⟨v0, vs0, d0, ds0, p0, q0, hargs, rfl, rfl, h0, r0⟩ := trodAll_cons hA
  obtain ⟨v1, vs1, d1, ds1, p1, q1, rfl, rfl, rfl, h1, r1⟩ := trodAll_cons r0
  obtain ⟨v2, vs2, d2, ds2, p2, q2, rfl, rfl, rfl, h2, r2⟩ := trodAll_cons r1
  obtain ⟨rfl, rfl, rfl⟩ := trodAll_nil r2
  obtain rfl : args = #[v0, v1, v2] := by cases args; simp_all
  obtain ⟨rfl, rfl⟩ := trodVars_none hV
  have k0 := h0
  have lt0 : ∀ x ∈ p0, x.block < W.heap.size := by obtain ⟨m, hm⟩ := k0; exact DataW.trod_lt m _ _ _ hm
  have k1 := h1
  have lt1 : ∀ x ∈ p1, x.block < W.heap.size := by obtain ⟨m, hm⟩ := k1; exact DataW.trod_lt m _ _ _ hm
  have k2 := h2
  have lt2 : ∀ x ∈ p2, x.block < W.heap.size := by obtain ⟨m, hm⟩ := k2; exact DataW.trod_lt m _ _ _ hm
  obtain ⟨A0, kap0, l0, rfl, s0, le0, mx0⟩ := open_segs (hval 0 34 v0 rfl rfl) h0
  obtain ⟨a1, rfl, -, -, ww1⟩ := open_int Try.underlying5 (hval 1 5 v1 rfl rfl) h1
  have w1 := bounds_u8 ww1
  obtain ⟨a2, rfl, -, -, ww2⟩ := open_int Try.underlying5 (hval 2 5 v2 rfl rfl) h2
  have w2 := bounds_u8 ww2
  clear hA0 hval0
  refine (walkSegmentPieces A0 kap0 l0 a1 a2 W s0 le0 mx0 w1 w2).mono fun e W' ⟨he, bel⟩ => ?_
  subst he
  exact ⟨_, rfl, _, _, _, [], _, [], hW', trodAll_mk1 (shut_bool Try.underlying4 _), (trodAll_cons_mk (Below.trod laidOut (by kernel_rfl) (of_decide_eq_true (by kernel_rfl)) k0 bel lt0) (trodAll_cons_mk (Below.trod laidOut (by kernel_rfl) (of_decide_eq_true (by kernel_rfl)) k1 bel lt1) (trodAll_cons_mk (Below.trod laidOut (by kernel_rfl) (of_decide_eq_true (by kernel_rfl)) k2 bel lt2) trodAll_mk0))), rfl, bel.frame _, fun h => by cases h⟩
/-- The given statement. -/
theorem segmentPieces_holds : Rows.SegmentPiecesSaid :=
  OpenClaim.holds_of_wide 9 Try.f9 rfl rfl rfl rfl rfl rfl rfl ⟨rfl, rfl, rfl, rfl, rfl⟩ rfl rfl rfl rfl rfl (by kernel_rfl) Try.func9 (by kernel_rfl)
    (of_decide_eq_true (by kernel_rfl)) (by unfold Func.isWrapper; first | (rw [if_pos (by decide +kernel)]; kernel_rfl) | (rw [if_neg (by decide +kernel)]; exact ⟨rfl, rfl⟩))
    (fun os started H enc _ => liftedSegmentPieces os started H enc)
#print axioms segmentPieces_holds
end Go.Proofs.Ytdhajibegkkeiaa
