/- For all bytes the statement SegmentOwns returns true: results share no memory with arguments. No condition. -/
import Derived.Test.YtdhajibegkkeiaaBase
import Derived.Test.YtdhajibegkkeiaaOwns
namespace Go.Proofs.Ytdhajibegkkeiaa
open Go.ChangeShapes Go.WideShapes Go.ChangeAt Go.RowKit
set_option linter.unusedVariables false
set_option linter.unusedSimpArgs false
theorem str_size (l : List Int) : (strOfNums l).size = l.length := by simp [strOfNums, ByteArray.size]
theorem str_cut (l : List Int) (t : Nat) : strOfNums (l.take t) ++ strOfNums (l.drop t) = strOfNums l := by
  apply ByteArray.ext
  rw [ByteArray.data_append]
  unfold strOfNums
  simp [← List.map_append]
theorem own_at13 {w : World} {B n k : Nat} {A : Option Addr} {xs : List Value} (h : w.ownsRow B 5 1 (.slice A n k) n xs) (hn : 0 < n) : ∃ g, A = some ⟨g, 0, none⟩ ∧ B ≤ g ∧ g < w.heap.size := by
  obtain ⟨g, cap, hv, hge, hlt⟩ := h.form hn
  injection hv with hA
  exact ⟨g, hA, hge, hlt⟩
theorem split_box {W W' : World} {d : List Int} {v : Value} {ps : List PSeg} {S : Nat → Prop} (h : OwnL W' W.heap.size v [⟨5, d, false⟩] ps) (hS : ∀ g, S g → g < W.heap.size) :
    ∃ (A7 : Option Addr) (g7 k7 k7b : Nat), v = .slice (some ⟨g7, 0, none⟩) 1 k7 ∧ Bx W' S g7 A7 k7b d := by
  obtain ⟨p, rfl⟩ : ∃ p, ps = [p] := by
    have he : ps.length = 1 := by have := congrArg List.length h.eq; simpa [segs] using this
    exact List.length_eq_one_iff.1 he
  have hp : p.s = ⟨5, d, false⟩ := by have := h.eq; simpa [segs] using this
  obtain ⟨⟨o, d', la⟩, A7, k7b⟩ := p
  simp only [Seg.mk.injEq] at hp
  obtain ⟨rfl, rfl, rfl⟩ := hp
  obtain ⟨g, cap, hv, hge, hlt⟩ := h.row.form (by simp)
  subst hv
  have hc := h.row.cells (g := g) rfl 1 (.slice A7 d'.length k7b) rfl
  refine ⟨A7, g, cap, k7b, rfl, hc, fun x => by have := hS _ x; omega, hlt, Sp.of_own (h.seg _ (List.mem_singleton.2 rfl)).1 hS⟩
theorem decode_n8 (n8 : Nat) (s : Seg) (A : Option Addr) (kap : Nat) (w : World) (hn : n8 = 8 + s.data.length) (hr : Reads w w.heap.size 1 A n8 (bv (codeP s))) (hkap : n8 ≤ kap) (hmax : kap ≤ maxLen) (hv : validB s = true) (hby : Bytes s.data) :
    Calls Try.prog 15 #[.slice A n8 kap] w fun e w' => ∃ p : PSeg, e = .returned (.tuple #[pval p, .int .i64 0]) ∧ p.s = s ∧ OwnS w' w.heap.size p ∧ Below w.heap.size w w' := by
  subst hn
  exact decode_c s A kap w _ hr (Nat.le_refl _) hkap hmax hv hby
set_option maxRecDepth 100000 in
set_option maxHeartbeats 8000000 in
theorem walkSegmentOwns (A : Option Addr) (kap : Nat) (l : List Int) (a : Int) (w : World) (hby : Bytes l) (hr : Reads w w.heap.size 1 A l.length (bv l)) (hkap : l.length ≤ kap) (hmax : kap ≤ maxLen) (ha : 0 ≤ a ∧ a ≤ 255) :
    Calls Try.prog 10 #[.slice A l.length kap, .int .u8 a] w fun e w' => e = .returned (.bool true) ∧ Below w.heap.size w w' := by
  have HKP := Kept.mk hkap
  have HMX := Kept.mk hmax
  have HR := Kept.mk hr
  have HBY := Kept.mk hby
  have hmx : l.length ≤ 9223372036854775807 := by unfold maxLen at hmax; omega
  obtain ⟨a1, a2⟩ := ha
  clear hkap hmax hr hby
  have z0 : (0 : Int) ≤ l.length := by omega
  have hcase : (((l.length : Int) == 0) = true) ∨ (((l.length : Int) == 0) = false ∧ (64 : Int) < l.length) ∨ (((l.length : Int) == 0) = false ∧ (l.length : Int) ≤ 64 ∧ 0 < l.length) := by
    by_cases h1 : l.length = 0
    · left; simp [h1]
    · right
      by_cases h2 : (64 : Int) < l.length
      · left; exact ⟨beq_false_of_ne (by omega), h2⟩
      · right; exact ⟨beq_false_of_ne (by omega), by omega, by omega⟩
  rcases hcase with y1 | ⟨y1, y2⟩ | ⟨y1, y2, q1⟩
  · go_enter Try.func10, Try.ntmps10
    go_wp2_with (go_at_call 11; refine (awake_c _).mono ?_; rintro e w1 ⟨rfl, hb1⟩; have HJ := Kept.mk hb1; clear hb1)
    go_ret
    exact ⟨rfl, HJ.out⟩
  · go_enter Try.func10, Try.ntmps10
    go_wp2_with (go_at_call 11; refine (awake_c _).mono ?_; rintro e w1 ⟨rfl, hb1⟩; have HJ := Kept.mk hb1; clear hb1)
    go_ret
    exact ⟨rfl, HJ.out⟩
  · have y3 : l.length ≤ 64 := by omega
    have HV : Kept (validB ⟨5, l, false⟩ = true) := ⟨valid_iff.2 ⟨by show (0 : Int) ≤ 5; omega, y3, by show (5 : Int) ≤ 1099511627776 - (l.length : Int); omega⟩⟩
    have HV1 : Kept ((if validB (⟨5, l, false⟩ : Seg) = true then (0 : Int) else 1) = 0) := ⟨by rw [if_pos HV.out]⟩
    have HEP : Kept (encP ⟨5, l, false⟩ = codeP ⟨5, l, false⟩) := ⟨by unfold encP; rw [if_pos HV.out]⟩
    have HS0 := Kept.mk (splitP_one q1 y3)
    obtain ⟨t, ht⟩ : ∃ t : Nat, a % ((l.length : Int) + 1) = t := ⟨(a % ((l.length : Int) + 1)).toNat, by have := Int.emod_nonneg a (show (l.length : Int) + 1 ≠ 0 by omega); omega⟩
    have htl : t ≤ l.length := by have := Int.emod_lt_of_pos a (show (0 : Int) < (l.length : Int) + 1 by omega); omega
    have htm : a.tmod ((l.length : Int) + 1) = t := by rw [Int.tmod_eq_emod_of_nonneg a1]; exact ht
    have hwr : IntKind.i64.wrap ((l.length : Int) + 1) = l.length + 1 := IntWalk.i64_in _ (by omega)
    have hwb : IntKind.i64.wrap a = a := IntWalk.i64_in _ (by omega)
    have hnz : ((l.length : Int) + 1 == 0) = false := beq_false_of_ne (by omega)
    have hnz2 : ¬ (l.length : Int) + 1 = 0 := by omega
    go_enter Try.func10, Try.ntmps10
    go_upto_region 11 with (first | (go_at_call 11; refine (awake_c _).mono ?_; rintro e w1 ⟨rfl, hb1⟩; have HJ := Kept.mk hb1; clear hb1) | (go_at_call 27; go_must (refine (clone_c A kap l _ w.heap.size (HR.out.below HJ.out) HJ.out.size (by omega)).mono ?_); rintro e w2 ⟨v2, rfl, ho2, hb2⟩; obtain ⟨A2, m0, rfl⟩ := own_slice ho2; obtain ⟨g0, rfl, ht0⟩ := T0.made HR.out HBY.out HJ.out ho2 hb2 q1; have HT := Kept.mk ht0; have HM0 := Kept.mk (own_cap ho2); clear ho2 hb2 ht0 HJ) | (go_at_call 18; go_must (refine (split_c l (some ⟨g0, 0, none⟩) m0 5 64 false _ _ HT.out.seg.rd HBY.out HM0.out.1 HM0.out.2 (Nat.le_refl _) (by omega)).mono ?_); rintro e w3 ⟨v7, ps, rfl, hol, hb3⟩; rw [HS0.out.1]; rw [HS0.out.2] at hol; obtain ⟨A7, g7, k7, k7b, rfl, hl7⟩ := split_box hol (S := fun g => g = g0) (fun g hg => by have := HT.out.lt; subst hg; exact this); have HL := Kept.mk hl7; replace HT := Kept.mk (HT.out.new_ hb3); obtain ⟨c0, c1, c2⟩ := HT.out.cells; have tok1 : True := trivial; clear hol hl7 hb3) | (go_at_call 25; have _t := tok1; go_must (refine (join_c [⟨⟨5, l, false⟩, some ⟨g0, 0, none⟩, m0⟩] (some ⟨w3.heap.size, 0, none⟩) 1 _ _ (lit_segs (ps := [⟨⟨5, l, false⟩, some ⟨g0, 0, none⟩, m0⟩]) (fun x hx => by rcases List.mem_cons.1 hx with rfl | hx; exact HT.out.seg; cases hx)) (by simp) (by simp)).mono ?_); rintro e w4 ⟨r, v, hj, hby, rfl, ho, hb4⟩; obtain rfl := joinIs_uniq hj (join_one HV.out); obtain ⟨A9, k9, rfl⟩ := own_slice ho; have HK9 : Kept (Sp w4 (fun g => g = g0) 1 A9 l.length (bv l)) := ⟨Sp.of_own ho (fun g hg => by have := HT.out.lt; subst hg; simp only [World.size_alloc]; omega)⟩; have hbx := join ((Below.refl w3.heap.size w3).alloc (Nat.le_refl _) _) hb4; replace HT := Kept.mk (HT.out.new_ hbx); replace HL := Kept.mk (HL.out.new_ hbx); clear c0 c1 c2 hj hby ho hb4 hbx tok1 _t; obtain ⟨c0, c1, c2⟩ := HT.out.cells; have tok2 : True := trivial) | (go_at_call 12; have _t := tok2; go_must (refine (encode_c ⟨⟨5, l, false⟩, some ⟨g0, 0, none⟩, m0⟩ _ _ HT.out.seg (Nat.le_refl _)).mono ?_); rintro e w5 ⟨v13, rfl, hbc, hoc, hb5⟩; rw [HV1.out]; rw [HEP.out, codeP_len] at hoc; obtain ⟨n8, hn8⟩ : ∃ n8, n8 = 8 + l.length := ⟨_, rfl⟩; have HN8 := Kept.mk hn8; rw [show 8 + (⟨5, l, false⟩ : Seg).data.length = n8 from hn8.symm] at hoc; obtain ⟨A13, mc, rfl⟩ := own_slice hoc; obtain ⟨gc, rfl, hgc, hgl⟩ := own_at13 hoc (by omega); have HC := Kept.mk hoc; have HMC := Kept.mk (own_cap hoc); have HG : Kept (gc ≠ g0) := ⟨by have := HT.out.lt; omega⟩; have HLT5 : Kept (g0 < w5.heap.size) := ⟨Nat.lt_of_lt_of_le HT.out.lt hb5.size⟩; have HW4 : Kept (w.heap.size ≤ w4.heap.size) := ⟨HT.out.bel.size⟩; have HGC : Kept (w.heap.size ≤ gc) := ⟨by have := HT.out.bel.size; omega⟩; have HA1 : Kept (Sp w5 (fun g => g = g0 ∨ g = gc) 1 A l.length (bv l)) := ⟨(HT.out.arg.wide (S' := fun g => g = g0 ∨ g = gc) (fun g hg => by rcases hg with h | h; exact .inl h; right; omega)).new_ hb5⟩; replace HL : Kept (Bx w5 (fun g => g = g0 ∨ g = gc) g7 A7 k7b l) := ⟨(HL.out.wide (S' := fun g => g = g0 ∨ g = gc) (fun g hg => by rcases hg with h | h; exact .inl h; right; omega)).new_ hb5⟩; replace HK9 : Kept (Sp w5 (fun g => g = g0 ∨ g = gc) 1 A9 l.length (bv l)) := ⟨(HK9.out.wide (S' := fun g => g = g0 ∨ g = gc) (fun g hg => by rcases hg with h | h; exact .inl h; right; omega)).new_ hb5⟩; replace HT := Kept.mk (HT.out.new_ hb5); clear c0 c1 c2 hbc hoc hb5 hn8 hgc tok2 _t; obtain ⟨c0, c1, c2⟩ := HT.out.cells) | (go_at_call 15; go_must (refine (decode_n8 n8 ⟨5, l, false⟩ (some ⟨gc, 0, none⟩) mc _ HN8.out (Reads.of_own HC.out) HMC.out.1 HMC.out.2 HV.out HBY.out).mono ?_); rintro e w6 ⟨p15, rfl, hp, hos, hb6⟩; obtain ⟨⟨o15, d15, la15⟩, A15, k15⟩ := p15; simp only [Seg.mk.injEq] at hp; obtain ⟨rfl, hd15, rfl⟩ := hp; replace hd15 := hd15.symm; subst hd15; unfold pval; have H56 : Kept (w5.heap.size ≤ w6.heap.size) := ⟨hb6.size⟩; have HD15 := Kept.mk hos; replace HA1 := Kept.mk (HA1.out.new_ hb6); replace HL := Kept.mk (HL.out.new_ hb6); replace HK9 := Kept.mk (HK9.out.new_ hb6); replace HT := Kept.mk (HT.out.new_ hb6); replace HC := Kept.mk (own_new HC.out hb6); clear c0 c1 c2 hos hb6))
    obtain ⟨V, hV⟩ : ∃ V, V = w6.alloc (.cells #[.int .i64 5, .slice A15 l.length k15, .bool false] 24) := ⟨_, rfl⟩
    obtain ⟨b15, hb15⟩ : ∃ b, b = w6.heap.size := ⟨_, rfl⟩
    obtain ⟨b6, hb6⟩ : ∃ b, b = w2.heap.size := ⟨_, rfl⟩
    rw [← hV, ← hb15, ← hb6]
    have HPV : Kept (Pv w V l t g0 m0 gc mc n8 A A9 g7 A7 k7b b15 A15 k15 ∧ Blk V b6 24 #[.int .i64 5, .slice (some ⟨g0, 0, none⟩) l.length m0, .bool false] ∧ SegAt V V.heap.size ⟨5, l, false⟩ (some ⟨g0, 0, none⟩) m0) := ⟨by
      have hbv : Below w6.heap.size w6 V := by rw [hV]; exact (Below.refl _ _).alloc (Nat.le_refl _) _
      have hg5 : ∀ g, (g = g0 ∨ g = gc) → g < w5.heap.size := fun g hg => by rcases hg with rfl | rfl; exact Nat.lt_of_lt_of_le HLT5.out (Nat.le_refl _); exact hgl
      have h56 : w5.heap.size ≤ w6.heap.size := H56.out
      refine ⟨⟨join HT.out.bel hbv, own_new HT.out.own hbv, ⟨_, own_base (own_new HC.out hbv) HW4.out⟩, fun e => HG.out e.symm, HT.out.hg, HGC.out, HA1.out.new_ hbv, HK9.out.new_ hbv, HL.out.new_ hbv, ?_⟩, by rw [hb6]; exact HT.out.bx.new_ hbv, (HT.out.new_ hbv).seg⟩
      refine Bx.of_blk (B := w5.heap.size) (x := .int .i64 5) (z := .bool false) (by rw [hV, hb15]; exact Blk.new _ _ _) (own_new HD15.out.1 hbv) (fun h => ?_) hg5
      have := hg5 _ h
      omega⟩
    have HV6 := HPV.out.2.1.lt
    obtain ⟨c0, c1, c2⟩ : V.cell? ⟨b6, 0, none⟩ = some (.int .i64 5) ∧ V.cell? ⟨b6, 1, none⟩ = some (.slice (some ⟨g0, 0, none⟩) l.length m0) ∧ V.cell? ⟨b6, 2, none⟩ = some (.bool false) := ⟨HPV.out.2.1.cell 0 rfl, HPV.out.2.1.cell 1 rfl, HPV.out.2.1.cell 2 rfl⟩
    have C1 := Kept.mk c0
    have C2 := Kept.mk c1
    have C3 := Kept.mk c2
    have HE := Kept.mk (cutE_zero (s := ⟨5, l, false⟩) HV.out htl)
    have HPP := Kept.mk (cutP_zero (s := ⟨5, l, false⟩) HV.out htl)
    clear hV hb15 hb6 HT HL HK9 HA1 HC HD15 hgl HG HGC HMC HM0 HS0 HEP HV1 H56 HW4 HLT5
    go_cut [17, 18, 19] (fun s17 s18 s19 wx => ∃ (b8 b9 : Nat) (p1 q1 : PSeg), s17 = .pointer (some ⟨b8, 0, none⟩) ∧ s18 = .pointer (some ⟨b9, 0, none⟩) ∧ s19 = .int .i64 0 ∧ p1.s = (cutP ⟨5, l, false⟩ t).1 ∧ q1.s = (cutP ⟨5, l, false⟩ t).2 ∧ Kept (Pc V wx b8 b9 p1 q1))
    case first =>
      refine wp_region_held_drew (S := fun w' => w'.cell? ⟨b6, 0, none⟩ = some (.int .i64 5) ∧ w'.cell? ⟨b6, 1, none⟩ = some (.slice (some ⟨g0, 0, none⟩) l.length m0) ∧ w'.cell? ⟨b6, 2, none⟩ = some (.bool false)) (by kernel_rfl) (by (try dsimp only); exact pc_keep (o := 0) (dN (Below.refl V.heap.size V) 1) HV6 C1.out C2.out C3.out) (fun hHeld => ?_)
      obtain ⟨X0, hX0⟩ : ∃ X, X = V.drew := ⟨_, rfl⟩
      rw [← hX0] at hHeld ⊢
      have HB : Kept (Below V.heap.size V X0) := ⟨by rw [hX0]; exact dN (Below.refl V.heap.size V) 1⟩
      clear hX0
      refine wpAnyH_take (i := 0) (v := ?_) rfl (by kernel_rfl) (by kernel_rfl) (by kernel_rfl) (fun _ _ _ h => h) (Or.inl ⟨by rfl, ?_⟩) (by assumption) ?_; rotate_left; (intro w hSw; (try dsimp only at hSw); go_simp; try (with_reducible rfl)); try simp only [Act.put, List.setIfInBounds_toArray, List.set_cons_zero, List.set_cons_succ, List.getElem_toArray, List.getElem_cons_succ, List.getElem_cons_zero]
      refine wpAnyH_take (i := 1) (v := ?_) rfl (by kernel_rfl) (by kernel_rfl) (by kernel_rfl) (fun _ _ _ h => h) (Or.inl ⟨by rfl, ?_⟩) (by assumption) ?_; rotate_left; (intro w hSw; (try dsimp only at hSw); go_simp; try (with_reducible rfl)); try simp only [Act.put, List.setIfInBounds_toArray, List.set_cons_zero, List.set_cons_succ, List.getElem_toArray, List.getElem_cons_succ, List.getElem_cons_zero]
      refine wpAnyH_take (i := 2) (v := ?_) rfl (by kernel_rfl) (by kernel_rfl) (by kernel_rfl) (fun _ _ _ h => h) (Or.inl ⟨by rfl, ?_⟩) (by assumption) ?_; rotate_left; (intro w hSw; (try dsimp only at hSw); go_simp; try (with_reducible rfl)); try simp only [Act.put, List.setIfInBounds_toArray, List.set_cons_zero, List.set_cons_succ, List.getElem_toArray, List.getElem_cons_succ, List.getElem_cons_zero]
      refine wpAnyH_take (i := 3) (v := ?_) rfl (by kernel_rfl) (by kernel_rfl) (by kernel_rfl) (fun _ _ _ h => h) (Or.inl ⟨by rfl, ?_⟩) (by assumption) ?_; rotate_left; (intro w hSw; (try dsimp only at hSw); go_simp; try (with_reducible rfl)); try simp only [Act.put, List.setIfInBounds_toArray, List.set_cons_zero, List.set_cons_succ, List.getElem_toArray, List.getElem_cons_succ, List.getElem_cons_zero]
      refine wpAnyH_take (i := 4) (v := ?_) rfl (by kernel_rfl) (by kernel_rfl) (by kernel_rfl) (fun _ _ _ h => h) (Or.inl ⟨by rfl, ?_⟩) (by assumption) ?_; rotate_left; (intro w hSw; (try dsimp only at hSw); go_simp; try (with_reducible rfl)); try simp only [Act.put, List.setIfInBounds_toArray, List.set_cons_zero, List.set_cons_succ, List.getElem_toArray, List.getElem_cons_succ, List.getElem_cons_zero]
      refine wpAnyH_take (i := 5) (v := ?_) rfl (by kernel_rfl) (by kernel_rfl) (by kernel_rfl) (fun _ _ _ h => h) (Or.inl ⟨by rfl, ?_⟩) (by assumption) ?_; rotate_left; (intro w hSw; (try dsimp only at hSw); go_simp; try (with_reducible rfl)); try simp only [Act.put, List.setIfInBounds_toArray, List.set_cons_zero, List.set_cons_succ, List.getElem_toArray, List.getElem_cons_succ, List.getElem_cons_zero]
      refine wpAnyH_take (i := 6) (v := ?_) rfl (by kernel_rfl) (by kernel_rfl) (by kernel_rfl) (fun _ _ _ h => h) (Or.inl ⟨by rfl, ?_⟩) (by assumption) ?_; rotate_left; (intro w hSw; (try dsimp only at hSw); go_simp; try (with_reducible rfl)); try simp only [Act.put, List.setIfInBounds_toArray, List.set_cons_zero, List.set_cons_succ, List.getElem_toArray, List.getElem_cons_succ, List.getElem_cons_zero]
      refine wpAnyH_ready (rs := [7, 12, 13]) (by kernel_rfl) (by simp) ?_; refine AllReadyH.cons rfl (fun K hK => ?_) (AllReadyH.cons rfl (fun K hK => ?_) (AllReadyH.cons rfl (fun K hK => ?_) AllReadyH.nil))
      · go_simp
        refine (cut_c ⟨⟨5, l, false⟩, some ⟨g0, 0, none⟩, m0⟩ t _ V.heap.size (HPV.out.2.2.below HB.out) HB.out.size).mono ?_
        rintro e X1 ⟨p1, q1x, rfl, hp1, hq1, hop, hoq, hb⟩
        rw [HE.out]
        have HP1 := Kept.mk hp1
        have HQ1 := Kept.mk hq1
        have HO8 := Kept.mk (hop.base HB.out.size)
        have HO9 := Kept.mk (hoq.base HB.out.size)
        replace HB := Kept.mk (join HB.out hb)
        clear hb hop hoq hp1 hq1
        try go_wp2_with fail
        try unfold pval
        refine hK.out _ _ (by (try dsimp only); exact pc_keep (o := 0) HB.out HV6 C1.out C2.out C3.out) (fun hHeld => ?_); clear hK K; try simp only [Act.put, List.setIfInBounds_toArray, List.set_cons_zero, List.set_cons_succ, List.getElem_toArray, List.getElem_cons_succ, List.getElem_cons_zero]
        refine wpAnyH_take (i := 8) (v := ?_) rfl (by kernel_rfl) (by kernel_rfl) (by kernel_rfl) (fun _ _ _ h => h) (Or.inl ⟨by rfl, ?_⟩) (by assumption) ?_; rotate_left; (intro w hSw; (try dsimp only at hSw); go_simp; try (with_reducible rfl)); try simp only [Act.put, List.setIfInBounds_toArray, List.set_cons_zero, List.set_cons_succ, List.getElem_toArray, List.getElem_cons_succ, List.getElem_cons_zero]
        refine wpAnyH_take (i := 9) (v := ?_) rfl (by kernel_rfl) (by kernel_rfl) (by kernel_rfl) (fun _ _ _ h => h) (Or.inl ⟨by rfl, ?_⟩) (by assumption) ?_; rotate_left; (intro w hSw; (try dsimp only at hSw); go_simp; try (with_reducible rfl)); try simp only [Act.put, List.setIfInBounds_toArray, List.set_cons_zero, List.set_cons_succ, List.getElem_toArray, List.getElem_cons_succ, List.getElem_cons_zero]
        refine wpAnyH_take (i := 10) (v := ?_) rfl (by kernel_rfl) (by kernel_rfl) (by kernel_rfl) (fun _ _ _ h => h) (Or.inl ⟨by rfl, ?_⟩) (by assumption) ?_; rotate_left; (intro w hSw; (try dsimp only at hSw); go_simp; try (with_reducible rfl)); try simp only [Act.put, List.setIfInBounds_toArray, List.set_cons_zero, List.set_cons_succ, List.getElem_toArray, List.getElem_cons_succ, List.getElem_cons_zero]
        refine wpAnyH_take (i := 11) (v := ?_) rfl (by kernel_rfl) (by kernel_rfl) (by kernel_rfl) (fun _ _ _ h => h) (Or.inl ⟨by rfl, ?_⟩) (by assumption) ?_; rotate_left; (intro w hSw; (try dsimp only at hSw); go_simp; try (with_reducible rfl)); try simp only [Act.put, List.setIfInBounds_toArray, List.set_cons_zero, List.set_cons_succ, List.getElem_toArray, List.getElem_cons_succ, List.getElem_cons_zero]
        refine wpAnyH_ready (rs := [12, 13]) (by kernel_rfl) (by simp) ?_; refine AllReadyH.cons rfl (fun K hK => ?_) (AllReadyH.cons rfl (fun K hK => ?_) AllReadyH.nil)
        · go_simp
          obtain ⟨X2, b8, hX, hbv, hb, hbx⟩ := al_step X1 #[.int .i64 0, .slice none 0 0, .bool false]
          rw [← hX, ← hbv]
          have hle8 : V.heap.size ≤ b8 := by rw [hbv]; exact HB.out.size
          replace HB := Kept.mk (join HB.out hb)
          replace HO8 := Kept.mk (HO8.out.new_ hb)
          replace HO9 := Kept.mk (HO9.out.new_ hb)
          have H8 := Kept.mk hbx
          clear hX hbv hb hbx
          refine hK.out _ _ (by (try dsimp only); exact pc_keep (o := 0) HB.out HV6 C1.out C2.out C3.out) (fun hHeld => ?_); clear hK K; try simp only [Act.put, List.setIfInBounds_toArray, List.set_cons_zero, List.set_cons_succ, List.getElem_toArray, List.getElem_cons_succ, List.getElem_cons_zero]
          refine wpAnyH_ready (rs := [13]) (by kernel_rfl) (by simp) ?_; refine AllReadyH.cons rfl (fun K hK => ?_) AllReadyH.nil
          go_simp
          obtain ⟨X3, b9, hX, hbv, hb, hbx⟩ := al_step X2 #[.int .i64 0, .slice none 0 0, .bool false]
          rw [← hX, ← hbv]
          have hle9 : V.heap.size ≤ b9 := by rw [hbv]; exact HB.out.size
          have hne9 : b8 ≠ b9 := by have h9 := H8.out.lt; omega
          replace HB := Kept.mk (join HB.out hb)
          replace H8 := Kept.mk (H8.out.new_ hb)
          replace HO8 := Kept.mk (HO8.out.new_ hb)
          replace HO9 := Kept.mk (HO9.out.new_ hb)
          have H9 := Kept.mk hbx
          clear hX hbv hb hbx
          refine hK.out _ _ (by (try dsimp only); exact pc_keep (o := 0) HB.out HV6 C1.out C2.out C3.out) (fun hHeld => ?_); clear hK K; try simp only [Act.put, List.setIfInBounds_toArray, List.set_cons_zero, List.set_cons_succ, List.getElem_toArray, List.getElem_cons_succ, List.getElem_cons_zero]
          refine wpAnyH_ready (rs := [14]) (by kernel_rfl) (by simp) ?_; refine AllReadyH.cons rfl (fun K hK => ?_) AllReadyH.nil
          have y0 := H8.out.cell 0 (v := .int .i64 0) rfl
          have y1 := H8.out.cell 1 (v := .slice none 0 0) rfl
          have y2 := H8.out.cell 2 (v := .bool false) rfl
          have y3 := H8.out.free 0
          have y4 := H8.out.free 1
          have y5 := H8.out.free 2
          have y6 := H8.out.lt
          go_simp
          obtain ⟨X4, hX, hbx, hon⟩ := st_step H8.out (.int .i64 p1.s.off) (.slice p1.A p1.s.data.length p1.kap) (.bool p1.s.last)
          rw [← hX]
          replace HB := Kept.mk (HB.out.trans (hon.below (B := V.heap.size) (by rintro g rfl; exact hle8) HB.out.size))
          replace H9 := Kept.mk (H9.out.only hon (fun e => hne9 e.symm))
          replace HO8 := Kept.mk (HO8.out.only hon H8.out)
          replace HO9 := Kept.mk (HO9.out.only hon H8.out)
          replace H8 := Kept.mk hbx
          clear hX hbx hon y0 y1 y2 y3 y4 y5 y6
          refine hK.out _ _ (by (try dsimp only); exact pc_keep (o := 0) HB.out HV6 C1.out C2.out C3.out) (fun hHeld => ?_); clear hK K; try simp only [Act.put, List.setIfInBounds_toArray, List.set_cons_zero, List.set_cons_succ, List.getElem_toArray, List.getElem_cons_succ, List.getElem_cons_zero]
          refine wpAnyH_ready (rs := [15]) (by kernel_rfl) (by simp) ?_; refine AllReadyH.cons rfl (fun K hK => ?_) AllReadyH.nil
          have y0 := H9.out.cell 0 (v := .int .i64 0) rfl
          have y1 := H9.out.cell 1 (v := .slice none 0 0) rfl
          have y2 := H9.out.cell 2 (v := .bool false) rfl
          have y3 := H9.out.free 0
          have y4 := H9.out.free 1
          have y5 := H9.out.free 2
          have y6 := H9.out.lt
          go_simp
          obtain ⟨X5, hX, hbx, hon⟩ := st_step H9.out (.int .i64 q1x.s.off) (.slice q1x.A q1x.s.data.length q1x.kap) (.bool q1x.s.last)
          rw [← hX]
          replace HB := Kept.mk (HB.out.trans (hon.below (B := V.heap.size) (by rintro g rfl; exact hle9) HB.out.size))
          replace H8 := Kept.mk (H8.out.only hon hne9)
          replace HO8 := Kept.mk (HO8.out.only hon H9.out)
          replace HO9 := Kept.mk (HO9.out.only hon H9.out)
          replace H9 := Kept.mk hbx
          clear hX hbx hon y0 y1 y2 y3 y4 y5 y6
          refine hK.out _ _ (by (try dsimp only); exact pc_keep (o := 0) HB.out HV6 C1.out C2.out C3.out) (fun hHeld => ?_); clear hK K; try simp only [Act.put, List.setIfInBounds_toArray, List.set_cons_zero, List.set_cons_succ, List.getElem_toArray, List.getElem_cons_succ, List.getElem_cons_zero]
          refine wpAnyH_take (i := 16) (v := ?_) rfl (by kernel_rfl) (by kernel_rfl) (by kernel_rfl) (fun _ _ _ h => h) (Or.inl ⟨by rfl, ?_⟩) (by assumption) ?_; rotate_left; (intro w hSw; (try dsimp only at hSw); go_simp; try (with_reducible rfl)); try simp only [Act.put, List.setIfInBounds_toArray, List.set_cons_zero, List.set_cons_succ, List.getElem_toArray, List.getElem_cons_succ, List.getElem_cons_zero]
          refine wpAnyH_done (by kernel_rfl) ?_ _
          go_wp2_with fail
          go_meet
          exact ⟨b8, b9, p1, q1x, rfl, rfl, rfl, HP1.out, HQ1.out, ⟨⟨H8.out, H9.out, HO8.out, HO9.out, HB.out⟩⟩⟩
        · go_simp
          obtain ⟨X2, b9, hX, hbv, hb, hbx⟩ := al_step X1 #[.int .i64 0, .slice none 0 0, .bool false]
          rw [← hX, ← hbv]
          have hle9 : V.heap.size ≤ b9 := by rw [hbv]; exact HB.out.size
          replace HB := Kept.mk (join HB.out hb)
          replace HO8 := Kept.mk (HO8.out.new_ hb)
          replace HO9 := Kept.mk (HO9.out.new_ hb)
          have H9 := Kept.mk hbx
          clear hX hbv hb hbx
          refine hK.out _ _ (by (try dsimp only); exact pc_keep (o := 0) HB.out HV6 C1.out C2.out C3.out) (fun hHeld => ?_); clear hK K; try simp only [Act.put, List.setIfInBounds_toArray, List.set_cons_zero, List.set_cons_succ, List.getElem_toArray, List.getElem_cons_succ, List.getElem_cons_zero]
          refine wpAnyH_ready (rs := [12]) (by kernel_rfl) (by simp) ?_; refine AllReadyH.cons rfl (fun K hK => ?_) AllReadyH.nil
          go_simp
          obtain ⟨X3, b8, hX, hbv, hb, hbx⟩ := al_step X2 #[.int .i64 0, .slice none 0 0, .bool false]
          rw [← hX, ← hbv]
          have hle8 : V.heap.size ≤ b8 := by rw [hbv]; exact HB.out.size
          have hne8 : b9 ≠ b8 := by have h9 := H9.out.lt; omega
          replace HB := Kept.mk (join HB.out hb)
          replace H9 := Kept.mk (H9.out.new_ hb)
          replace HO8 := Kept.mk (HO8.out.new_ hb)
          replace HO9 := Kept.mk (HO9.out.new_ hb)
          have H8 := Kept.mk hbx
          clear hX hbv hb hbx
          refine hK.out _ _ (by (try dsimp only); exact pc_keep (o := 0) HB.out HV6 C1.out C2.out C3.out) (fun hHeld => ?_); clear hK K; try simp only [Act.put, List.setIfInBounds_toArray, List.set_cons_zero, List.set_cons_succ, List.getElem_toArray, List.getElem_cons_succ, List.getElem_cons_zero]
          refine wpAnyH_ready (rs := [14]) (by kernel_rfl) (by simp) ?_; refine AllReadyH.cons rfl (fun K hK => ?_) AllReadyH.nil
          have y0 := H8.out.cell 0 (v := .int .i64 0) rfl
          have y1 := H8.out.cell 1 (v := .slice none 0 0) rfl
          have y2 := H8.out.cell 2 (v := .bool false) rfl
          have y3 := H8.out.free 0
          have y4 := H8.out.free 1
          have y5 := H8.out.free 2
          have y6 := H8.out.lt
          go_simp
          obtain ⟨X4, hX, hbx, hon⟩ := st_step H8.out (.int .i64 p1.s.off) (.slice p1.A p1.s.data.length p1.kap) (.bool p1.s.last)
          rw [← hX]
          replace HB := Kept.mk (HB.out.trans (hon.below (B := V.heap.size) (by rintro g rfl; exact hle8) HB.out.size))
          replace H9 := Kept.mk (H9.out.only hon hne8)
          replace HO8 := Kept.mk (HO8.out.only hon H8.out)
          replace HO9 := Kept.mk (HO9.out.only hon H8.out)
          replace H8 := Kept.mk hbx
          clear hX hbx hon y0 y1 y2 y3 y4 y5 y6
          refine hK.out _ _ (by (try dsimp only); exact pc_keep (o := 0) HB.out HV6 C1.out C2.out C3.out) (fun hHeld => ?_); clear hK K; try simp only [Act.put, List.setIfInBounds_toArray, List.set_cons_zero, List.set_cons_succ, List.getElem_toArray, List.getElem_cons_succ, List.getElem_cons_zero]
          refine wpAnyH_ready (rs := [15]) (by kernel_rfl) (by simp) ?_; refine AllReadyH.cons rfl (fun K hK => ?_) AllReadyH.nil
          have y0 := H9.out.cell 0 (v := .int .i64 0) rfl
          have y1 := H9.out.cell 1 (v := .slice none 0 0) rfl
          have y2 := H9.out.cell 2 (v := .bool false) rfl
          have y3 := H9.out.free 0
          have y4 := H9.out.free 1
          have y5 := H9.out.free 2
          have y6 := H9.out.lt
          go_simp
          obtain ⟨X5, hX, hbx, hon⟩ := st_step H9.out (.int .i64 q1x.s.off) (.slice q1x.A q1x.s.data.length q1x.kap) (.bool q1x.s.last)
          rw [← hX]
          replace HB := Kept.mk (HB.out.trans (hon.below (B := V.heap.size) (by rintro g rfl; exact hle9) HB.out.size))
          replace H8 := Kept.mk (H8.out.only hon (fun e => hne8 e.symm))
          replace HO8 := Kept.mk (HO8.out.only hon H9.out)
          replace HO9 := Kept.mk (HO9.out.only hon H9.out)
          replace H9 := Kept.mk hbx
          clear hX hbx hon y0 y1 y2 y3 y4 y5 y6
          refine hK.out _ _ (by (try dsimp only); exact pc_keep (o := 0) HB.out HV6 C1.out C2.out C3.out) (fun hHeld => ?_); clear hK K; try simp only [Act.put, List.setIfInBounds_toArray, List.set_cons_zero, List.set_cons_succ, List.getElem_toArray, List.getElem_cons_succ, List.getElem_cons_zero]
          refine wpAnyH_take (i := 16) (v := ?_) rfl (by kernel_rfl) (by kernel_rfl) (by kernel_rfl) (fun _ _ _ h => h) (Or.inl ⟨by rfl, ?_⟩) (by assumption) ?_; rotate_left; (intro w hSw; (try dsimp only at hSw); go_simp; try (with_reducible rfl)); try simp only [Act.put, List.setIfInBounds_toArray, List.set_cons_zero, List.set_cons_succ, List.getElem_toArray, List.getElem_cons_succ, List.getElem_cons_zero]
          refine wpAnyH_done (by kernel_rfl) ?_ _
          go_wp2_with fail
          go_meet
          exact ⟨b8, b9, p1, q1x, rfl, rfl, rfl, HP1.out, HQ1.out, ⟨⟨H8.out, H9.out, HO8.out, HO9.out, HB.out⟩⟩⟩
      · go_simp
        obtain ⟨X1, b8, hX, hbv, hb, hbx⟩ := al_step X0 #[.int .i64 0, .slice none 0 0, .bool false]
        rw [← hX, ← hbv]
        have hle8 : V.heap.size ≤ b8 := by rw [hbv]; exact HB.out.size
        replace HB := Kept.mk (join HB.out hb)
        have H8 := Kept.mk hbx
        clear hX hbv hb hbx
        refine hK.out _ _ (by (try dsimp only); exact pc_keep (o := 0) HB.out HV6 C1.out C2.out C3.out) (fun hHeld => ?_); clear hK K; try simp only [Act.put, List.setIfInBounds_toArray, List.set_cons_zero, List.set_cons_succ, List.getElem_toArray, List.getElem_cons_succ, List.getElem_cons_zero]
        refine wpAnyH_ready (rs := [7, 13]) (by kernel_rfl) (by simp) ?_; refine AllReadyH.cons rfl (fun K hK => ?_) (AllReadyH.cons rfl (fun K hK => ?_) AllReadyH.nil)
        · go_simp
          refine (cut_c ⟨⟨5, l, false⟩, some ⟨g0, 0, none⟩, m0⟩ t _ V.heap.size (HPV.out.2.2.below HB.out) HB.out.size).mono ?_
          rintro e X2 ⟨p1, q1x, rfl, hp1, hq1, hop, hoq, hb⟩
          rw [HE.out]
          have HP1 := Kept.mk hp1
          have HQ1 := Kept.mk hq1
          have HO8 := Kept.mk (hop.base HB.out.size)
          have HO9 := Kept.mk (hoq.base HB.out.size)
          replace HB := Kept.mk (join HB.out hb)
          replace H8 := Kept.mk (H8.out.new_ hb)
          clear hb hop hoq hp1 hq1
          try go_wp2_with fail
          try unfold pval
          refine hK.out _ _ (by (try dsimp only); exact pc_keep (o := 0) HB.out HV6 C1.out C2.out C3.out) (fun hHeld => ?_); clear hK K; try simp only [Act.put, List.setIfInBounds_toArray, List.set_cons_zero, List.set_cons_succ, List.getElem_toArray, List.getElem_cons_succ, List.getElem_cons_zero]
          refine wpAnyH_take (i := 8) (v := ?_) rfl (by kernel_rfl) (by kernel_rfl) (by kernel_rfl) (fun _ _ _ h => h) (Or.inl ⟨by rfl, ?_⟩) (by assumption) ?_; rotate_left; (intro w hSw; (try dsimp only at hSw); go_simp; try (with_reducible rfl)); try simp only [Act.put, List.setIfInBounds_toArray, List.set_cons_zero, List.set_cons_succ, List.getElem_toArray, List.getElem_cons_succ, List.getElem_cons_zero]
          refine wpAnyH_take (i := 9) (v := ?_) rfl (by kernel_rfl) (by kernel_rfl) (by kernel_rfl) (fun _ _ _ h => h) (Or.inl ⟨by rfl, ?_⟩) (by assumption) ?_; rotate_left; (intro w hSw; (try dsimp only at hSw); go_simp; try (with_reducible rfl)); try simp only [Act.put, List.setIfInBounds_toArray, List.set_cons_zero, List.set_cons_succ, List.getElem_toArray, List.getElem_cons_succ, List.getElem_cons_zero]
          refine wpAnyH_take (i := 10) (v := ?_) rfl (by kernel_rfl) (by kernel_rfl) (by kernel_rfl) (fun _ _ _ h => h) (Or.inl ⟨by rfl, ?_⟩) (by assumption) ?_; rotate_left; (intro w hSw; (try dsimp only at hSw); go_simp; try (with_reducible rfl)); try simp only [Act.put, List.setIfInBounds_toArray, List.set_cons_zero, List.set_cons_succ, List.getElem_toArray, List.getElem_cons_succ, List.getElem_cons_zero]
          refine wpAnyH_take (i := 11) (v := ?_) rfl (by kernel_rfl) (by kernel_rfl) (by kernel_rfl) (fun _ _ _ h => h) (Or.inl ⟨by rfl, ?_⟩) (by assumption) ?_; rotate_left; (intro w hSw; (try dsimp only at hSw); go_simp; try (with_reducible rfl)); try simp only [Act.put, List.setIfInBounds_toArray, List.set_cons_zero, List.set_cons_succ, List.getElem_toArray, List.getElem_cons_succ, List.getElem_cons_zero]
          refine wpAnyH_ready (rs := [13]) (by kernel_rfl) (by simp) ?_; refine AllReadyH.cons rfl (fun K hK => ?_) AllReadyH.nil
          go_simp
          obtain ⟨X3, b9, hX, hbv, hb, hbx⟩ := al_step X2 #[.int .i64 0, .slice none 0 0, .bool false]
          rw [← hX, ← hbv]
          have hle9 : V.heap.size ≤ b9 := by rw [hbv]; exact HB.out.size
          have hne9 : b8 ≠ b9 := by have h9 := H8.out.lt; omega
          replace HB := Kept.mk (join HB.out hb)
          replace H8 := Kept.mk (H8.out.new_ hb)
          replace HO8 := Kept.mk (HO8.out.new_ hb)
          replace HO9 := Kept.mk (HO9.out.new_ hb)
          have H9 := Kept.mk hbx
          clear hX hbv hb hbx
          refine hK.out _ _ (by (try dsimp only); exact pc_keep (o := 0) HB.out HV6 C1.out C2.out C3.out) (fun hHeld => ?_); clear hK K; try simp only [Act.put, List.setIfInBounds_toArray, List.set_cons_zero, List.set_cons_succ, List.getElem_toArray, List.getElem_cons_succ, List.getElem_cons_zero]
          refine wpAnyH_ready (rs := [14]) (by kernel_rfl) (by simp) ?_; refine AllReadyH.cons rfl (fun K hK => ?_) AllReadyH.nil
          have y0 := H8.out.cell 0 (v := .int .i64 0) rfl
          have y1 := H8.out.cell 1 (v := .slice none 0 0) rfl
          have y2 := H8.out.cell 2 (v := .bool false) rfl
          have y3 := H8.out.free 0
          have y4 := H8.out.free 1
          have y5 := H8.out.free 2
          have y6 := H8.out.lt
          go_simp
          obtain ⟨X4, hX, hbx, hon⟩ := st_step H8.out (.int .i64 p1.s.off) (.slice p1.A p1.s.data.length p1.kap) (.bool p1.s.last)
          rw [← hX]
          replace HB := Kept.mk (HB.out.trans (hon.below (B := V.heap.size) (by rintro g rfl; exact hle8) HB.out.size))
          replace H9 := Kept.mk (H9.out.only hon (fun e => hne9 e.symm))
          replace HO8 := Kept.mk (HO8.out.only hon H8.out)
          replace HO9 := Kept.mk (HO9.out.only hon H8.out)
          replace H8 := Kept.mk hbx
          clear hX hbx hon y0 y1 y2 y3 y4 y5 y6
          refine hK.out _ _ (by (try dsimp only); exact pc_keep (o := 0) HB.out HV6 C1.out C2.out C3.out) (fun hHeld => ?_); clear hK K; try simp only [Act.put, List.setIfInBounds_toArray, List.set_cons_zero, List.set_cons_succ, List.getElem_toArray, List.getElem_cons_succ, List.getElem_cons_zero]
          refine wpAnyH_ready (rs := [15]) (by kernel_rfl) (by simp) ?_; refine AllReadyH.cons rfl (fun K hK => ?_) AllReadyH.nil
          have y0 := H9.out.cell 0 (v := .int .i64 0) rfl
          have y1 := H9.out.cell 1 (v := .slice none 0 0) rfl
          have y2 := H9.out.cell 2 (v := .bool false) rfl
          have y3 := H9.out.free 0
          have y4 := H9.out.free 1
          have y5 := H9.out.free 2
          have y6 := H9.out.lt
          go_simp
          obtain ⟨X5, hX, hbx, hon⟩ := st_step H9.out (.int .i64 q1x.s.off) (.slice q1x.A q1x.s.data.length q1x.kap) (.bool q1x.s.last)
          rw [← hX]
          replace HB := Kept.mk (HB.out.trans (hon.below (B := V.heap.size) (by rintro g rfl; exact hle9) HB.out.size))
          replace H8 := Kept.mk (H8.out.only hon hne9)
          replace HO8 := Kept.mk (HO8.out.only hon H9.out)
          replace HO9 := Kept.mk (HO9.out.only hon H9.out)
          replace H9 := Kept.mk hbx
          clear hX hbx hon y0 y1 y2 y3 y4 y5 y6
          refine hK.out _ _ (by (try dsimp only); exact pc_keep (o := 0) HB.out HV6 C1.out C2.out C3.out) (fun hHeld => ?_); clear hK K; try simp only [Act.put, List.setIfInBounds_toArray, List.set_cons_zero, List.set_cons_succ, List.getElem_toArray, List.getElem_cons_succ, List.getElem_cons_zero]
          refine wpAnyH_take (i := 16) (v := ?_) rfl (by kernel_rfl) (by kernel_rfl) (by kernel_rfl) (fun _ _ _ h => h) (Or.inl ⟨by rfl, ?_⟩) (by assumption) ?_; rotate_left; (intro w hSw; (try dsimp only at hSw); go_simp; try (with_reducible rfl)); try simp only [Act.put, List.setIfInBounds_toArray, List.set_cons_zero, List.set_cons_succ, List.getElem_toArray, List.getElem_cons_succ, List.getElem_cons_zero]
          refine wpAnyH_done (by kernel_rfl) ?_ _
          go_wp2_with fail
          go_meet
          exact ⟨b8, b9, p1, q1x, rfl, rfl, rfl, HP1.out, HQ1.out, ⟨⟨H8.out, H9.out, HO8.out, HO9.out, HB.out⟩⟩⟩
        · go_simp
          obtain ⟨X2, b9, hX, hbv, hb, hbx⟩ := al_step X1 #[.int .i64 0, .slice none 0 0, .bool false]
          rw [← hX, ← hbv]
          have hle9 : V.heap.size ≤ b9 := by rw [hbv]; exact HB.out.size
          have hne9 : b8 ≠ b9 := by have h9 := H8.out.lt; omega
          replace HB := Kept.mk (join HB.out hb)
          replace H8 := Kept.mk (H8.out.new_ hb)
          have H9 := Kept.mk hbx
          clear hX hbv hb hbx
          refine hK.out _ _ (by (try dsimp only); exact pc_keep (o := 0) HB.out HV6 C1.out C2.out C3.out) (fun hHeld => ?_); clear hK K; try simp only [Act.put, List.setIfInBounds_toArray, List.set_cons_zero, List.set_cons_succ, List.getElem_toArray, List.getElem_cons_succ, List.getElem_cons_zero]
          refine wpAnyH_ready (rs := [7]) (by kernel_rfl) (by simp) ?_; refine AllReadyH.cons rfl (fun K hK => ?_) AllReadyH.nil
          go_simp
          refine (cut_c ⟨⟨5, l, false⟩, some ⟨g0, 0, none⟩, m0⟩ t _ V.heap.size (HPV.out.2.2.below HB.out) HB.out.size).mono ?_
          rintro e X3 ⟨p1, q1x, rfl, hp1, hq1, hop, hoq, hb⟩
          rw [HE.out]
          have HP1 := Kept.mk hp1
          have HQ1 := Kept.mk hq1
          have HO8 := Kept.mk (hop.base HB.out.size)
          have HO9 := Kept.mk (hoq.base HB.out.size)
          replace HB := Kept.mk (join HB.out hb)
          replace H8 := Kept.mk (H8.out.new_ hb)
          replace H9 := Kept.mk (H9.out.new_ hb)
          clear hb hop hoq hp1 hq1
          try go_wp2_with fail
          try unfold pval
          refine hK.out _ _ (by (try dsimp only); exact pc_keep (o := 0) HB.out HV6 C1.out C2.out C3.out) (fun hHeld => ?_); clear hK K; try simp only [Act.put, List.setIfInBounds_toArray, List.set_cons_zero, List.set_cons_succ, List.getElem_toArray, List.getElem_cons_succ, List.getElem_cons_zero]
          refine wpAnyH_take (i := 8) (v := ?_) rfl (by kernel_rfl) (by kernel_rfl) (by kernel_rfl) (fun _ _ _ h => h) (Or.inl ⟨by rfl, ?_⟩) (by assumption) ?_; rotate_left; (intro w hSw; (try dsimp only at hSw); go_simp; try (with_reducible rfl)); try simp only [Act.put, List.setIfInBounds_toArray, List.set_cons_zero, List.set_cons_succ, List.getElem_toArray, List.getElem_cons_succ, List.getElem_cons_zero]
          refine wpAnyH_take (i := 9) (v := ?_) rfl (by kernel_rfl) (by kernel_rfl) (by kernel_rfl) (fun _ _ _ h => h) (Or.inl ⟨by rfl, ?_⟩) (by assumption) ?_; rotate_left; (intro w hSw; (try dsimp only at hSw); go_simp; try (with_reducible rfl)); try simp only [Act.put, List.setIfInBounds_toArray, List.set_cons_zero, List.set_cons_succ, List.getElem_toArray, List.getElem_cons_succ, List.getElem_cons_zero]
          refine wpAnyH_take (i := 10) (v := ?_) rfl (by kernel_rfl) (by kernel_rfl) (by kernel_rfl) (fun _ _ _ h => h) (Or.inl ⟨by rfl, ?_⟩) (by assumption) ?_; rotate_left; (intro w hSw; (try dsimp only at hSw); go_simp; try (with_reducible rfl)); try simp only [Act.put, List.setIfInBounds_toArray, List.set_cons_zero, List.set_cons_succ, List.getElem_toArray, List.getElem_cons_succ, List.getElem_cons_zero]
          refine wpAnyH_take (i := 11) (v := ?_) rfl (by kernel_rfl) (by kernel_rfl) (by kernel_rfl) (fun _ _ _ h => h) (Or.inl ⟨by rfl, ?_⟩) (by assumption) ?_; rotate_left; (intro w hSw; (try dsimp only at hSw); go_simp; try (with_reducible rfl)); try simp only [Act.put, List.setIfInBounds_toArray, List.set_cons_zero, List.set_cons_succ, List.getElem_toArray, List.getElem_cons_succ, List.getElem_cons_zero]
          refine wpAnyH_ready (rs := [14]) (by kernel_rfl) (by simp) ?_; refine AllReadyH.cons rfl (fun K hK => ?_) AllReadyH.nil
          have y0 := H8.out.cell 0 (v := .int .i64 0) rfl
          have y1 := H8.out.cell 1 (v := .slice none 0 0) rfl
          have y2 := H8.out.cell 2 (v := .bool false) rfl
          have y3 := H8.out.free 0
          have y4 := H8.out.free 1
          have y5 := H8.out.free 2
          have y6 := H8.out.lt
          go_simp
          obtain ⟨X4, hX, hbx, hon⟩ := st_step H8.out (.int .i64 p1.s.off) (.slice p1.A p1.s.data.length p1.kap) (.bool p1.s.last)
          rw [← hX]
          replace HB := Kept.mk (HB.out.trans (hon.below (B := V.heap.size) (by rintro g rfl; exact hle8) HB.out.size))
          replace H9 := Kept.mk (H9.out.only hon (fun e => hne9 e.symm))
          replace HO8 := Kept.mk (HO8.out.only hon H8.out)
          replace HO9 := Kept.mk (HO9.out.only hon H8.out)
          replace H8 := Kept.mk hbx
          clear hX hbx hon y0 y1 y2 y3 y4 y5 y6
          refine hK.out _ _ (by (try dsimp only); exact pc_keep (o := 0) HB.out HV6 C1.out C2.out C3.out) (fun hHeld => ?_); clear hK K; try simp only [Act.put, List.setIfInBounds_toArray, List.set_cons_zero, List.set_cons_succ, List.getElem_toArray, List.getElem_cons_succ, List.getElem_cons_zero]
          refine wpAnyH_ready (rs := [15]) (by kernel_rfl) (by simp) ?_; refine AllReadyH.cons rfl (fun K hK => ?_) AllReadyH.nil
          have y0 := H9.out.cell 0 (v := .int .i64 0) rfl
          have y1 := H9.out.cell 1 (v := .slice none 0 0) rfl
          have y2 := H9.out.cell 2 (v := .bool false) rfl
          have y3 := H9.out.free 0
          have y4 := H9.out.free 1
          have y5 := H9.out.free 2
          have y6 := H9.out.lt
          go_simp
          obtain ⟨X5, hX, hbx, hon⟩ := st_step H9.out (.int .i64 q1x.s.off) (.slice q1x.A q1x.s.data.length q1x.kap) (.bool q1x.s.last)
          rw [← hX]
          replace HB := Kept.mk (HB.out.trans (hon.below (B := V.heap.size) (by rintro g rfl; exact hle9) HB.out.size))
          replace H8 := Kept.mk (H8.out.only hon hne9)
          replace HO8 := Kept.mk (HO8.out.only hon H9.out)
          replace HO9 := Kept.mk (HO9.out.only hon H9.out)
          replace H9 := Kept.mk hbx
          clear hX hbx hon y0 y1 y2 y3 y4 y5 y6
          refine hK.out _ _ (by (try dsimp only); exact pc_keep (o := 0) HB.out HV6 C1.out C2.out C3.out) (fun hHeld => ?_); clear hK K; try simp only [Act.put, List.setIfInBounds_toArray, List.set_cons_zero, List.set_cons_succ, List.getElem_toArray, List.getElem_cons_succ, List.getElem_cons_zero]
          refine wpAnyH_take (i := 16) (v := ?_) rfl (by kernel_rfl) (by kernel_rfl) (by kernel_rfl) (fun _ _ _ h => h) (Or.inl ⟨by rfl, ?_⟩) (by assumption) ?_; rotate_left; (intro w hSw; (try dsimp only at hSw); go_simp; try (with_reducible rfl)); try simp only [Act.put, List.setIfInBounds_toArray, List.set_cons_zero, List.set_cons_succ, List.getElem_toArray, List.getElem_cons_succ, List.getElem_cons_zero]
          refine wpAnyH_done (by kernel_rfl) ?_ _
          go_wp2_with fail
          go_meet
          exact ⟨b8, b9, p1, q1x, rfl, rfl, rfl, HP1.out, HQ1.out, ⟨⟨H8.out, H9.out, HO8.out, HO9.out, HB.out⟩⟩⟩
      · go_simp
        obtain ⟨X1, b9, hX, hbv, hb, hbx⟩ := al_step X0 #[.int .i64 0, .slice none 0 0, .bool false]
        rw [← hX, ← hbv]
        have hle9 : V.heap.size ≤ b9 := by rw [hbv]; exact HB.out.size
        replace HB := Kept.mk (join HB.out hb)
        have H9 := Kept.mk hbx
        clear hX hbv hb hbx
        refine hK.out _ _ (by (try dsimp only); exact pc_keep (o := 0) HB.out HV6 C1.out C2.out C3.out) (fun hHeld => ?_); clear hK K; try simp only [Act.put, List.setIfInBounds_toArray, List.set_cons_zero, List.set_cons_succ, List.getElem_toArray, List.getElem_cons_succ, List.getElem_cons_zero]
        refine wpAnyH_ready (rs := [7, 12]) (by kernel_rfl) (by simp) ?_; refine AllReadyH.cons rfl (fun K hK => ?_) (AllReadyH.cons rfl (fun K hK => ?_) AllReadyH.nil)
        · go_simp
          refine (cut_c ⟨⟨5, l, false⟩, some ⟨g0, 0, none⟩, m0⟩ t _ V.heap.size (HPV.out.2.2.below HB.out) HB.out.size).mono ?_
          rintro e X2 ⟨p1, q1x, rfl, hp1, hq1, hop, hoq, hb⟩
          rw [HE.out]
          have HP1 := Kept.mk hp1
          have HQ1 := Kept.mk hq1
          have HO8 := Kept.mk (hop.base HB.out.size)
          have HO9 := Kept.mk (hoq.base HB.out.size)
          replace HB := Kept.mk (join HB.out hb)
          replace H9 := Kept.mk (H9.out.new_ hb)
          clear hb hop hoq hp1 hq1
          try go_wp2_with fail
          try unfold pval
          refine hK.out _ _ (by (try dsimp only); exact pc_keep (o := 0) HB.out HV6 C1.out C2.out C3.out) (fun hHeld => ?_); clear hK K; try simp only [Act.put, List.setIfInBounds_toArray, List.set_cons_zero, List.set_cons_succ, List.getElem_toArray, List.getElem_cons_succ, List.getElem_cons_zero]
          refine wpAnyH_take (i := 8) (v := ?_) rfl (by kernel_rfl) (by kernel_rfl) (by kernel_rfl) (fun _ _ _ h => h) (Or.inl ⟨by rfl, ?_⟩) (by assumption) ?_; rotate_left; (intro w hSw; (try dsimp only at hSw); go_simp; try (with_reducible rfl)); try simp only [Act.put, List.setIfInBounds_toArray, List.set_cons_zero, List.set_cons_succ, List.getElem_toArray, List.getElem_cons_succ, List.getElem_cons_zero]
          refine wpAnyH_take (i := 9) (v := ?_) rfl (by kernel_rfl) (by kernel_rfl) (by kernel_rfl) (fun _ _ _ h => h) (Or.inl ⟨by rfl, ?_⟩) (by assumption) ?_; rotate_left; (intro w hSw; (try dsimp only at hSw); go_simp; try (with_reducible rfl)); try simp only [Act.put, List.setIfInBounds_toArray, List.set_cons_zero, List.set_cons_succ, List.getElem_toArray, List.getElem_cons_succ, List.getElem_cons_zero]
          refine wpAnyH_take (i := 10) (v := ?_) rfl (by kernel_rfl) (by kernel_rfl) (by kernel_rfl) (fun _ _ _ h => h) (Or.inl ⟨by rfl, ?_⟩) (by assumption) ?_; rotate_left; (intro w hSw; (try dsimp only at hSw); go_simp; try (with_reducible rfl)); try simp only [Act.put, List.setIfInBounds_toArray, List.set_cons_zero, List.set_cons_succ, List.getElem_toArray, List.getElem_cons_succ, List.getElem_cons_zero]
          refine wpAnyH_take (i := 11) (v := ?_) rfl (by kernel_rfl) (by kernel_rfl) (by kernel_rfl) (fun _ _ _ h => h) (Or.inl ⟨by rfl, ?_⟩) (by assumption) ?_; rotate_left; (intro w hSw; (try dsimp only at hSw); go_simp; try (with_reducible rfl)); try simp only [Act.put, List.setIfInBounds_toArray, List.set_cons_zero, List.set_cons_succ, List.getElem_toArray, List.getElem_cons_succ, List.getElem_cons_zero]
          refine wpAnyH_ready (rs := [12]) (by kernel_rfl) (by simp) ?_; refine AllReadyH.cons rfl (fun K hK => ?_) AllReadyH.nil
          go_simp
          obtain ⟨X3, b8, hX, hbv, hb, hbx⟩ := al_step X2 #[.int .i64 0, .slice none 0 0, .bool false]
          rw [← hX, ← hbv]
          have hle8 : V.heap.size ≤ b8 := by rw [hbv]; exact HB.out.size
          have hne8 : b9 ≠ b8 := by have h9 := H9.out.lt; omega
          replace HB := Kept.mk (join HB.out hb)
          replace H9 := Kept.mk (H9.out.new_ hb)
          replace HO8 := Kept.mk (HO8.out.new_ hb)
          replace HO9 := Kept.mk (HO9.out.new_ hb)
          have H8 := Kept.mk hbx
          clear hX hbv hb hbx
          refine hK.out _ _ (by (try dsimp only); exact pc_keep (o := 0) HB.out HV6 C1.out C2.out C3.out) (fun hHeld => ?_); clear hK K; try simp only [Act.put, List.setIfInBounds_toArray, List.set_cons_zero, List.set_cons_succ, List.getElem_toArray, List.getElem_cons_succ, List.getElem_cons_zero]
          refine wpAnyH_ready (rs := [14]) (by kernel_rfl) (by simp) ?_; refine AllReadyH.cons rfl (fun K hK => ?_) AllReadyH.nil
          have y0 := H8.out.cell 0 (v := .int .i64 0) rfl
          have y1 := H8.out.cell 1 (v := .slice none 0 0) rfl
          have y2 := H8.out.cell 2 (v := .bool false) rfl
          have y3 := H8.out.free 0
          have y4 := H8.out.free 1
          have y5 := H8.out.free 2
          have y6 := H8.out.lt
          go_simp
          obtain ⟨X4, hX, hbx, hon⟩ := st_step H8.out (.int .i64 p1.s.off) (.slice p1.A p1.s.data.length p1.kap) (.bool p1.s.last)
          rw [← hX]
          replace HB := Kept.mk (HB.out.trans (hon.below (B := V.heap.size) (by rintro g rfl; exact hle8) HB.out.size))
          replace H9 := Kept.mk (H9.out.only hon hne8)
          replace HO8 := Kept.mk (HO8.out.only hon H8.out)
          replace HO9 := Kept.mk (HO9.out.only hon H8.out)
          replace H8 := Kept.mk hbx
          clear hX hbx hon y0 y1 y2 y3 y4 y5 y6
          refine hK.out _ _ (by (try dsimp only); exact pc_keep (o := 0) HB.out HV6 C1.out C2.out C3.out) (fun hHeld => ?_); clear hK K; try simp only [Act.put, List.setIfInBounds_toArray, List.set_cons_zero, List.set_cons_succ, List.getElem_toArray, List.getElem_cons_succ, List.getElem_cons_zero]
          refine wpAnyH_ready (rs := [15]) (by kernel_rfl) (by simp) ?_; refine AllReadyH.cons rfl (fun K hK => ?_) AllReadyH.nil
          have y0 := H9.out.cell 0 (v := .int .i64 0) rfl
          have y1 := H9.out.cell 1 (v := .slice none 0 0) rfl
          have y2 := H9.out.cell 2 (v := .bool false) rfl
          have y3 := H9.out.free 0
          have y4 := H9.out.free 1
          have y5 := H9.out.free 2
          have y6 := H9.out.lt
          go_simp
          obtain ⟨X5, hX, hbx, hon⟩ := st_step H9.out (.int .i64 q1x.s.off) (.slice q1x.A q1x.s.data.length q1x.kap) (.bool q1x.s.last)
          rw [← hX]
          replace HB := Kept.mk (HB.out.trans (hon.below (B := V.heap.size) (by rintro g rfl; exact hle9) HB.out.size))
          replace H8 := Kept.mk (H8.out.only hon (fun e => hne8 e.symm))
          replace HO8 := Kept.mk (HO8.out.only hon H9.out)
          replace HO9 := Kept.mk (HO9.out.only hon H9.out)
          replace H9 := Kept.mk hbx
          clear hX hbx hon y0 y1 y2 y3 y4 y5 y6
          refine hK.out _ _ (by (try dsimp only); exact pc_keep (o := 0) HB.out HV6 C1.out C2.out C3.out) (fun hHeld => ?_); clear hK K; try simp only [Act.put, List.setIfInBounds_toArray, List.set_cons_zero, List.set_cons_succ, List.getElem_toArray, List.getElem_cons_succ, List.getElem_cons_zero]
          refine wpAnyH_take (i := 16) (v := ?_) rfl (by kernel_rfl) (by kernel_rfl) (by kernel_rfl) (fun _ _ _ h => h) (Or.inl ⟨by rfl, ?_⟩) (by assumption) ?_; rotate_left; (intro w hSw; (try dsimp only at hSw); go_simp; try (with_reducible rfl)); try simp only [Act.put, List.setIfInBounds_toArray, List.set_cons_zero, List.set_cons_succ, List.getElem_toArray, List.getElem_cons_succ, List.getElem_cons_zero]
          refine wpAnyH_done (by kernel_rfl) ?_ _
          go_wp2_with fail
          go_meet
          exact ⟨b8, b9, p1, q1x, rfl, rfl, rfl, HP1.out, HQ1.out, ⟨⟨H8.out, H9.out, HO8.out, HO9.out, HB.out⟩⟩⟩
        · go_simp
          obtain ⟨X2, b8, hX, hbv, hb, hbx⟩ := al_step X1 #[.int .i64 0, .slice none 0 0, .bool false]
          rw [← hX, ← hbv]
          have hle8 : V.heap.size ≤ b8 := by rw [hbv]; exact HB.out.size
          have hne8 : b9 ≠ b8 := by have h9 := H9.out.lt; omega
          replace HB := Kept.mk (join HB.out hb)
          replace H9 := Kept.mk (H9.out.new_ hb)
          have H8 := Kept.mk hbx
          clear hX hbv hb hbx
          refine hK.out _ _ (by (try dsimp only); exact pc_keep (o := 0) HB.out HV6 C1.out C2.out C3.out) (fun hHeld => ?_); clear hK K; try simp only [Act.put, List.setIfInBounds_toArray, List.set_cons_zero, List.set_cons_succ, List.getElem_toArray, List.getElem_cons_succ, List.getElem_cons_zero]
          refine wpAnyH_ready (rs := [7]) (by kernel_rfl) (by simp) ?_; refine AllReadyH.cons rfl (fun K hK => ?_) AllReadyH.nil
          go_simp
          refine (cut_c ⟨⟨5, l, false⟩, some ⟨g0, 0, none⟩, m0⟩ t _ V.heap.size (HPV.out.2.2.below HB.out) HB.out.size).mono ?_
          rintro e X3 ⟨p1, q1x, rfl, hp1, hq1, hop, hoq, hb⟩
          rw [HE.out]
          have HP1 := Kept.mk hp1
          have HQ1 := Kept.mk hq1
          have HO8 := Kept.mk (hop.base HB.out.size)
          have HO9 := Kept.mk (hoq.base HB.out.size)
          replace HB := Kept.mk (join HB.out hb)
          replace H8 := Kept.mk (H8.out.new_ hb)
          replace H9 := Kept.mk (H9.out.new_ hb)
          clear hb hop hoq hp1 hq1
          try go_wp2_with fail
          try unfold pval
          refine hK.out _ _ (by (try dsimp only); exact pc_keep (o := 0) HB.out HV6 C1.out C2.out C3.out) (fun hHeld => ?_); clear hK K; try simp only [Act.put, List.setIfInBounds_toArray, List.set_cons_zero, List.set_cons_succ, List.getElem_toArray, List.getElem_cons_succ, List.getElem_cons_zero]
          refine wpAnyH_take (i := 8) (v := ?_) rfl (by kernel_rfl) (by kernel_rfl) (by kernel_rfl) (fun _ _ _ h => h) (Or.inl ⟨by rfl, ?_⟩) (by assumption) ?_; rotate_left; (intro w hSw; (try dsimp only at hSw); go_simp; try (with_reducible rfl)); try simp only [Act.put, List.setIfInBounds_toArray, List.set_cons_zero, List.set_cons_succ, List.getElem_toArray, List.getElem_cons_succ, List.getElem_cons_zero]
          refine wpAnyH_take (i := 9) (v := ?_) rfl (by kernel_rfl) (by kernel_rfl) (by kernel_rfl) (fun _ _ _ h => h) (Or.inl ⟨by rfl, ?_⟩) (by assumption) ?_; rotate_left; (intro w hSw; (try dsimp only at hSw); go_simp; try (with_reducible rfl)); try simp only [Act.put, List.setIfInBounds_toArray, List.set_cons_zero, List.set_cons_succ, List.getElem_toArray, List.getElem_cons_succ, List.getElem_cons_zero]
          refine wpAnyH_take (i := 10) (v := ?_) rfl (by kernel_rfl) (by kernel_rfl) (by kernel_rfl) (fun _ _ _ h => h) (Or.inl ⟨by rfl, ?_⟩) (by assumption) ?_; rotate_left; (intro w hSw; (try dsimp only at hSw); go_simp; try (with_reducible rfl)); try simp only [Act.put, List.setIfInBounds_toArray, List.set_cons_zero, List.set_cons_succ, List.getElem_toArray, List.getElem_cons_succ, List.getElem_cons_zero]
          refine wpAnyH_take (i := 11) (v := ?_) rfl (by kernel_rfl) (by kernel_rfl) (by kernel_rfl) (fun _ _ _ h => h) (Or.inl ⟨by rfl, ?_⟩) (by assumption) ?_; rotate_left; (intro w hSw; (try dsimp only at hSw); go_simp; try (with_reducible rfl)); try simp only [Act.put, List.setIfInBounds_toArray, List.set_cons_zero, List.set_cons_succ, List.getElem_toArray, List.getElem_cons_succ, List.getElem_cons_zero]
          refine wpAnyH_ready (rs := [14]) (by kernel_rfl) (by simp) ?_; refine AllReadyH.cons rfl (fun K hK => ?_) AllReadyH.nil
          have y0 := H8.out.cell 0 (v := .int .i64 0) rfl
          have y1 := H8.out.cell 1 (v := .slice none 0 0) rfl
          have y2 := H8.out.cell 2 (v := .bool false) rfl
          have y3 := H8.out.free 0
          have y4 := H8.out.free 1
          have y5 := H8.out.free 2
          have y6 := H8.out.lt
          go_simp
          obtain ⟨X4, hX, hbx, hon⟩ := st_step H8.out (.int .i64 p1.s.off) (.slice p1.A p1.s.data.length p1.kap) (.bool p1.s.last)
          rw [← hX]
          replace HB := Kept.mk (HB.out.trans (hon.below (B := V.heap.size) (by rintro g rfl; exact hle8) HB.out.size))
          replace H9 := Kept.mk (H9.out.only hon hne8)
          replace HO8 := Kept.mk (HO8.out.only hon H8.out)
          replace HO9 := Kept.mk (HO9.out.only hon H8.out)
          replace H8 := Kept.mk hbx
          clear hX hbx hon y0 y1 y2 y3 y4 y5 y6
          refine hK.out _ _ (by (try dsimp only); exact pc_keep (o := 0) HB.out HV6 C1.out C2.out C3.out) (fun hHeld => ?_); clear hK K; try simp only [Act.put, List.setIfInBounds_toArray, List.set_cons_zero, List.set_cons_succ, List.getElem_toArray, List.getElem_cons_succ, List.getElem_cons_zero]
          refine wpAnyH_ready (rs := [15]) (by kernel_rfl) (by simp) ?_; refine AllReadyH.cons rfl (fun K hK => ?_) AllReadyH.nil
          have y0 := H9.out.cell 0 (v := .int .i64 0) rfl
          have y1 := H9.out.cell 1 (v := .slice none 0 0) rfl
          have y2 := H9.out.cell 2 (v := .bool false) rfl
          have y3 := H9.out.free 0
          have y4 := H9.out.free 1
          have y5 := H9.out.free 2
          have y6 := H9.out.lt
          go_simp
          obtain ⟨X5, hX, hbx, hon⟩ := st_step H9.out (.int .i64 q1x.s.off) (.slice q1x.A q1x.s.data.length q1x.kap) (.bool q1x.s.last)
          rw [← hX]
          replace HB := Kept.mk (HB.out.trans (hon.below (B := V.heap.size) (by rintro g rfl; exact hle9) HB.out.size))
          replace H8 := Kept.mk (H8.out.only hon (fun e => hne8 e.symm))
          replace HO8 := Kept.mk (HO8.out.only hon H9.out)
          replace HO9 := Kept.mk (HO9.out.only hon H9.out)
          replace H9 := Kept.mk hbx
          clear hX hbx hon y0 y1 y2 y3 y4 y5 y6
          refine hK.out _ _ (by (try dsimp only); exact pc_keep (o := 0) HB.out HV6 C1.out C2.out C3.out) (fun hHeld => ?_); clear hK K; try simp only [Act.put, List.setIfInBounds_toArray, List.set_cons_zero, List.set_cons_succ, List.getElem_toArray, List.getElem_cons_succ, List.getElem_cons_zero]
          refine wpAnyH_take (i := 16) (v := ?_) rfl (by kernel_rfl) (by kernel_rfl) (by kernel_rfl) (fun _ _ _ h => h) (Or.inl ⟨by rfl, ?_⟩) (by assumption) ?_; rotate_left; (intro w hSw; (try dsimp only at hSw); go_simp; try (with_reducible rfl)); try simp only [Act.put, List.setIfInBounds_toArray, List.set_cons_zero, List.set_cons_succ, List.getElem_toArray, List.getElem_cons_succ, List.getElem_cons_zero]
          refine wpAnyH_done (by kernel_rfl) ?_ _
          go_wp2_with fail
          go_meet
          exact ⟨b8, b9, p1, q1x, rfl, rfl, rfl, HP1.out, HQ1.out, ⟨⟨H8.out, H9.out, HO8.out, HO9.out, HB.out⟩⟩⟩
    case rest =>
      obtain ⟨b17, b18, p1, q1x, rfl, rfl, rfl, hp1, hq1, HPC⟩ := hcut
      obtain ⟨⟨o17, d17, la17⟩, A17, k17⟩ := p1
      obtain ⟨⟨o18, d18, la18⟩, A18, k18⟩ := q1x
      rw [HPP.out] at hp1 hq1
      simp only [Seg.mk.injEq] at hp1 hq1
      obtain ⟨rfl, hd17, rfl⟩ := hp1
      obtain ⟨rfl, hd18, rfl⟩ := hq1
      have HF : Kept (Fin w wc l t g0 m0 gc mc n8 A A9 g7 A7 k7b b15 A15 k15 b17 A17 k17 b18 A18 k18) := ⟨by
        exact HPV.out.1.fin HPC.out hd17 hd18⟩
      have HD17 := Kept.mk hd17
      have HD18 := Kept.mk hd18
      have q8 : ((n8 : Int) != (l.length : Int) + 8) = false := by rw [HN8.out]; simp; omega
      have q8b : (n8 : Int) ≤ 72 := by rw [HN8.out]; omega
      have q8c : (0 : Int) ≤ n8 := by omega
      clear hd17 hd18 HPC HPV C1 C2 C3 c0 c1 c2 HV6 HE HPP ht htl htm hwr hwb hnz hnz2 HR HKP HMX
      go_wp2_with fail
      go_loopw [105] (fun v105 wr => ∃ i : Nat, i ≤ l.length ∧ v105 = .int .i64 i ∧ Kept (Fin w wr l t g0 m0 gc mc n8 A A9 g7 A7 k7b b15 A15 k15 b17 A17 k17 b18 A18 k18)) (fun v105 _ => l.length - (intOf v105).toNat)
      case atStart => exact ⟨0, by omega, rfl, HF⟩
      case round =>
        clear HF
        obtain ⟨i, hi, rfl, HF⟩ := hrel
        by_cases hlt : i < l.length
        · obtain ⟨x, hx, hfx⟩ := HF.out.at0 hlt
          have hi8 : (i : Int) < l.length := by omega
          go_wp2_with fail
          go_roundw
          case rel => exact ⟨i + 1, by omega, by go_num, ⟨HF.out.put0 i _⟩⟩
          case measure => simp [intOf]; omega
        · obtain rfl : i = l.length := by omega
          clear hlt
          go_wp2_with fail
          go_loopw [117] (fun v117 wr => ∃ i : Nat, i ≤ n8 ∧ v117 = .int .i64 i ∧ Kept (Fin w wr l t g0 m0 gc mc n8 A A9 g7 A7 k7b b15 A15 k15 b17 A17 k17 b18 A18 k18)) (fun v117 _ => n8 - (intOf v117).toNat)
          case atStart => exact ⟨0, by omega, rfl, HF⟩
          case round =>
            clear HF
            obtain ⟨i, hi, rfl, HF⟩ := hrel
            by_cases hlt : i < n8
            · obtain ⟨x, hx, hfx⟩ := HF.out.at1 hlt
              have hi8 : (i : Int) < n8 := by omega
              go_wp2_with fail
              go_roundw
              case rel => exact ⟨i + 1, by omega, by go_num, ⟨HF.out.put1 i _⟩⟩
              case measure => simp [intOf]; omega
            · obtain rfl : i = n8 := by omega
              clear hlt
              have f17 := HF.out.x17
              have f18 := HF.out.x18
              rw [← HD17.out] at f17
              rw [← HD18.out] at f18
              have kv0 := conv_reads (P := Try.prog) (kap := kap) 22 5 9 Try.underlying22 Try.underlying5 Try.underlying9 HF.out.arg.reads
              have kv7 := conv_reads (P := Try.prog) (kap := k7b) 22 5 9 Try.underlying22 Try.underlying5 Try.underlying9 HF.out.l7.2.2.2.reads
              have kv9 := conv_reads (P := Try.prog) (kap := k9) 22 5 9 Try.underlying22 Try.underlying5 Try.underlying9 HF.out.b9.reads
              have kv15 := conv_reads (P := Try.prog) (kap := k15) 22 5 9 Try.underlying22 Try.underlying5 Try.underlying9 HF.out.d15.2.2.2.reads
              have kv17 := conv_reads (P := Try.prog) (kap := k17) 22 5 9 Try.underlying22 Try.underlying5 Try.underlying9 f17.2.2.2.reads
              have kv18 := conv_reads (P := Try.prog) (kap := k18) 22 5 9 Try.underlying22 Try.underlying5 Try.underlying9 f18.2.2.2.reads
              have c7 := HF.out.l7.1
              have c15 := HF.out.d15.1
              have c17 := f17.1
              have c18 := f18.1
              have hstr : strOfNums d17 ++ strOfNums d18 = strOfNums l := by rw [HD17.out, HD18.out]; exact str_cut l t
              clear f17 f18
              have hsz : ¬ 9223372036854775807 < (strOfNums d17).size + (strOfNums d18).size := by
                rw [str_size, str_size, HD17.out, HD18.out, List.length_take, List.length_drop]; omega
              go_wp2_with fail
              go_ret
              exact ⟨rfl, HF.out.bel⟩

set_option maxRecDepth 100000 in
theorem liftedSegmentOwns (os : Os) (started : os.Started) (H : Type) (enc : TypeId × Value → H) :
    ReturnsInHanded {} Try.checked os 10 .any (Rows.segmentOwnsSpec.pre6 enc Try.prog Try.f10 Rows.segmentOwnsRow.domain false) (Rows.segmentOwnsSpec.post enc Try.prog Try.f10 false true false false) := by
  refine returnsInHanded_of_change (C := Try.checked) own started (by kernel_rfl) Try.func10
    (ChangeSpec.witness6 (enc := enc) (C := Try.checked) false ⟨#[], #[.slice none 0 0, .int .u8 0], []⟩ 8 (by kernel_rfl) (by kernel_rfl) (by kernel_rfl) (by kernel_rfl)) ?_
  intro W base args ds gs before hval0 hW hcnd _
  have hval : ∀ (j : Nat) t v, Try.f10.params[j]? = some t → args[j]? = some v → Value.okWide Try.prog W .any base t v := hval0
  have hW' := hW
  obtain ⟨p, q, hA0, hV, rfl, hfz, hnd⟩ := hW
  have hA : DataW.TrodAll enc Try.prog W 0 (fun _ => true) true Try.f10.params.toList args.toList ds p := hA0
  rw [Try.params10] at hA hval
  obtain ⟨v0, vs0, d0, ds0, p0, q0, hargs, rfl, rfl, h0, r0⟩ := trodAll_cons hA
  obtain ⟨v1, vs1, d1, ds1, p1, q1, rfl, rfl, rfl, h1, r1⟩ := trodAll_cons r0
  obtain ⟨rfl, rfl, rfl⟩ := trodAll_nil r1
  obtain rfl : args = #[v0, v1] := by cases args; simp_all
  obtain ⟨rfl, rfl⟩ := trodVars_none hV
  have k0 := h0
  have lt0 : ∀ x ∈ p0, x.block < W.heap.size := by obtain ⟨m, hm⟩ := k0; exact DataW.trod_lt m _ _ _ hm
  have k1 := h1
  have lt1 : ∀ x ∈ p1, x.block < W.heap.size := by obtain ⟨m, hm⟩ := k1; exact DataW.trod_lt m _ _ _ hm
  obtain ⟨A0, kap0, l0, rfl, b0, rd0, le0, mx0⟩ := open_bytes (hval 0 22 v0 rfl rfl) h0
  obtain ⟨a1, rfl, -, -, ww1⟩ := open_int Try.underlying5 (hval 1 5 v1 rfl rfl) h1
  have w1 := bounds_u8 ww1
  clear hA0 hval0
  refine (walkSegmentOwns A0 kap0 l0 a1 W b0 rd0 le0 mx0 w1).mono fun e W' ⟨he, bel⟩ => ?_
  subst he
  exact ⟨_, rfl, _, _, _, [], _, [], hW', trodAll_mk1 (shut_bool Try.underlying4 _), (trodAll_cons_mk (Below.trod laidOut (by kernel_rfl) (of_decide_eq_true (by kernel_rfl)) k0 bel lt0) (trodAll_cons_mk (Below.trod laidOut (by kernel_rfl) (of_decide_eq_true (by kernel_rfl)) k1 bel lt1) trodAll_mk0)), rfl, bel.frame _, fun h => by cases h⟩
/-- The given statement. -/
theorem segmentOwns_holds : Rows.SegmentOwnsSaid :=
  OpenClaim.holds_of_wide 10 Try.f10 rfl rfl rfl rfl rfl rfl rfl ⟨rfl, rfl, rfl, rfl, rfl⟩ rfl rfl rfl rfl rfl (by kernel_rfl) Try.func10 (by kernel_rfl)
    (of_decide_eq_true (by kernel_rfl)) (by unfold Func.isWrapper; first | (rw [if_pos (by decide +kernel)]; kernel_rfl) | (rw [if_neg (by decide +kernel)]; exact ⟨rfl, rfl⟩))
    (fun os started H enc _ => liftedSegmentOwns os started H enc)
#print axioms segmentOwns_holds
end Go.Proofs.Ytdhajibegkkeiaa
