/- For all bytes, offsets and sizes the statement SegmentSplits returns true: Split returns the specified segments. No condition. -/
import Derived.Test.YtdhajibegkkeiaaBase
import Derived.Test.YtdhajibegkkeiaaRSplit
import Derived.Test.YtdhajibegkkeiaaFuncs
namespace Go.Proofs.Ytdhajibegkkeiaa
open Go.ChangeShapes Go.WideShapes Go.ChangeAt Go.RowKit
set_option linter.unusedVariables false
set_option linter.unusedSimpArgs false
theorem nP_lo {n m k : Nat} {last : Bool} (hm : 0 < m) (hk : k < nP n m last) : k * m ≤ n := by
  unfold nP at hk
  split at hk
  · obtain rfl : k = 0 := by omega
    omega
  · exact Nat.le_of_lt (pieces_lo hm hk)
theorem splitK_valid {d : List Int} {off : Int} {m : Nat} {last : Bool} (h : badB d.length off m = false) (n2 : Nat) : ∀ s ∈ splitK d off m last n2 (nP d.length m last), validB s = true := by
  have hc : 1 ≤ m ∧ m ≤ 64 ∧ 0 ≤ off ∧ off ≤ 1099511627776 - (d.length : Int) := by
    simp only [badB, Bool.or_eq_false_iff, decide_eq_false_iff_not] at h
    omega
  obtain ⟨h1, h2, h3, h4⟩ := hc
  intro s hs
  simp only [splitK, List.mem_map, List.mem_range] at hs
  obtain ⟨i, hi, rfl⟩ := hs
  have hl := nP_lo h1 hi
  have hg : (i + 1) * m = i * m + m := Nat.succ_mul _ _
  have hlen : (segI d off m last n2 i).data.length = min ((i + 1) * m) d.length - i * m := by
    simp only [segI, List.length_drop, List.length_take]
    omega
  rw [valid_iff, hlen]
  refine ⟨?_, by omega, ?_⟩
  · show 0 ≤ off + ((i * m : Nat) : Int)
    omega
  · show off + ((i * m : Nat) : Int) ≤ _
    omega
set_option maxRecDepth 100000 in
set_option maxHeartbeats 8000000 in
theorem walkSegmentSplits (A : Option Addr) (kap : Nat) (l : List Int) (off most : Int) (last : Bool) (w : World) (hby : Bytes l) (hr : Reads w w.heap.size 1 A l.length (bv l)) (hkap : l.length ≤ kap) (hmax : kap ≤ maxLen) (ho : -9223372036854775808 ≤ off ∧ off ≤ 9223372036854775807) (hmo : -9223372036854775808 ≤ most ∧ most ≤ 9223372036854775807) :
    Calls Try.prog 4 #[.slice A l.length kap, .int .i64 off, .int .i64 most, .bool last] w fun e w' => e = .returned (.bool true) ∧ Below w.heap.size w w' := by
  have HKP := Kept.mk hkap
  have HMX := Kept.mk hmax
  have HR := Kept.mk hr
  have HBY := Kept.mk hby
  have hmx : l.length ≤ 9223372036854775807 := by unfold maxLen at hmax; omega
  obtain ⟨o1, o2⟩ := ho
  obtain ⟨m1, m2⟩ := hmo
  clear hkap hmax hr hby
  have z0 : (0 : Int) ≤ l.length := by omega
  by_cases hbig : (2000 : Int) < l.length
  · go_enter Try.func4, Try.ntmps4
    go_wp2_with (go_at_call 11; refine (awake_c _).mono ?_; rintro e w1 ⟨rfl, hb1⟩; have HJ := Kept.mk hb1; clear hb1)
    go_ret
    exact ⟨rfl, HJ.out⟩
  · have hbig' : (l.length : Int) ≤ 2000 := by omega
    have hbn : l.length ≤ 2000 := by omega
    cases hb : badB l.length off most with
    | true =>
      have HE : Kept (splitE l.length off most last = 2) := ⟨by unfold splitE; rw [if_pos hb]⟩
      have HP : Kept (splitP l off most last = []) := ⟨by unfold splitP; rw [HE.out, if_neg (by decide)]⟩
      have hcase : most < 1 ∨ (¬ most < 1 ∧ 64 < most) ∨ (¬ most < 1 ∧ ¬ 64 < most ∧ off < 0) ∨ (¬ most < 1 ∧ ¬ 64 < most ∧ ¬ off < 0 ∧ 1099511627776 - (l.length : Int) < off) := by
        simp only [badB, Bool.or_eq_true, decide_eq_true_eq] at hb
        omega
      clear hb
      rcases hcase with y1 | ⟨y1, y2⟩ | ⟨y1, y2, y3⟩ | ⟨y1, y2, y3, y4⟩
      all_goals
        go_enter Try.func4, Try.ntmps4
        go_wp2_with (first | (go_at_call 11; refine (awake_c _).mono ?_; rintro e w1 ⟨rfl, hb1⟩; have HJ := Kept.mk hb1; clear hb1) | (go_at_call 18; go_must (refine (split_c l A kap off most last _ w.heap.size (HR.out.below HJ.out) HBY.out HKP.out HMX.out HJ.out.size (by omega)).mono ?_); rintro e w2 ⟨v2, ps, rfl, hol, hb2⟩; rw [HE.out]; rw [HP.out] at hol; obtain rfl : ps = [] := (by simpa [segs] using hol.eq); obtain ⟨A3, k3, rfl⟩ := own_slice hol.row; have HOL := Kept.mk hol; have HJ2 := Kept.mk (join HJ.out hb2); clear hol hb2))
        go_ret
        exact ⟨rfl, HJ2.out⟩
    | false =>
      have hcase : 1 ≤ most ∧ most ≤ 64 ∧ 0 ≤ off ∧ off ≤ 1099511627776 - (l.length : Int) := by
        simp only [badB, Bool.or_eq_false_iff, decide_eq_false_iff_not] at hb
        omega
      obtain ⟨y1, y2, y3, y4⟩ := hcase
      obtain ⟨m, rfl⟩ : ∃ m : Nat, most = m := ⟨most.toNat, by omega⟩
      have HB := Kept.mk hb
      have HVK := fun n2 => splitK_valid (last := last) hb n2
      clear hb
      by_cases hmany : 1000 < nP l.length m last
      · have HE : Kept (splitE l.length off m last = 5) := ⟨by unfold splitE; rw [HB.out]; show (if 1000 < nP l.length m last then (5 : Int) else 0) = 5; rw [if_pos hmany]⟩
        have HP : Kept (splitP l off m last = []) := ⟨by unfold splitP; rw [HE.out, if_neg (by decide)]⟩
        have HMA := Kept.mk hmany
        clear hmany
        go_enter Try.func4, Try.ntmps4
        go_wp2_with (first | (go_at_call 11; refine (awake_c _).mono ?_; rintro e w1 ⟨rfl, hb1⟩; have HJ := Kept.mk hb1; clear hb1) | (go_at_call 18; go_must (refine (split_c l A kap off m last _ w.heap.size (HR.out.below HJ.out) HBY.out HKP.out HMX.out HJ.out.size (by omega)).mono ?_); rintro e w2 ⟨v2, ps, rfl, hol, hb2⟩; rw [HE.out]; rw [HP.out] at hol; obtain rfl : ps = [] := (by simpa [segs] using hol.eq); obtain ⟨A3, k3, rfl⟩ := own_slice hol.row; have HOL := Kept.mk hol; have HJ2 := Kept.mk (join HJ.out hb2); clear hol hb2) | (go_at_call 19; go_must (refine (rsplit_c l A kap off m last _ w.heap.size (HR.out.below HJ2.out) HBY.out HKP.out HMX.out HJ2.out.size hbn HB.out).mono ?_); rintro e w3 ⟨v3, ps3, rfl, hol3, hb3⟩; obtain ⟨A4, k4, rfl⟩ := own_slice hol3.row; have HOL3 := Kept.mk hol3; have HJ3 := Kept.mk (join HJ2.out hb3); have HLN : Kept (ps3.length = nP l.length m last) := ⟨by rw [← segs_len, hol3.eq, splitK_len]⟩; have hg3 : (1000 : Int) < ps3.length := (by have := HLN.out; have := HMA.out; omega); clear hol3 hb3))
        go_ret
        exact ⟨rfl, HJ3.out⟩
      · have HE : Kept (splitE l.length off m last = 0) := ⟨by unfold splitE; rw [HB.out]; show (if 1000 < nP l.length m last then (5 : Int) else 0) = 0; rw [if_neg hmany]⟩
        have HP : Kept (splitP l off m last = splitK l off m last (nP l.length m last) (nP l.length m last)) := ⟨splitP0 HE.out rfl⟩
        have HMA := Kept.mk hmany
        clear hmany
        go_enter Try.func4, Try.ntmps4
        go_wp2_with (first | (go_at_call 11; refine (awake_c _).mono ?_; rintro e w1 ⟨rfl, hb1⟩; have HJ := Kept.mk hb1; clear hb1) | (go_at_call 18; go_must (refine (split_c l A kap off m last _ w.heap.size (HR.out.below HJ.out) HBY.out HKP.out HMX.out HJ.out.size (by omega)).mono ?_); rintro e w2 ⟨v2, ps, rfl, hol, hb2⟩; rw [HE.out]; rw [HP.out] at hol; obtain ⟨A3, k3, rfl⟩ := own_slice hol.row; have HOL := Kept.mk hol; have HJ2 := Kept.mk (join HJ.out hb2); clear hol hb2) | (go_at_call 19; go_must (refine (rsplit_c l A kap off m last _ w.heap.size (HR.out.below HJ2.out) HBY.out HKP.out HMX.out HJ2.out.size hbn HB.out).mono ?_); rintro e w3 ⟨v3, ps3, rfl, hol3, hb3⟩; obtain ⟨A4, k4, rfl⟩ := own_slice hol3.row; have HOL3 := Kept.mk hol3; have HJ3 := Kept.mk (join HJ2.out hb3); have HLN : Kept (ps3.length = nP l.length m last) := ⟨by rw [← segs_len, hol3.eq, splitK_len]⟩; have hg3 : ¬ (1000 : Int) < ps3.length := (by have := HLN.out; have := HMA.out; omega); have HO2 := Kept.mk (HOL.out.new_ hb3); clear hol3 hb3) | (go_at_call 20; go_must (refine (eqf_c ps ps3 A3 A4 k3 k4 _ HO2.out.at_.2 HOL3.out.at_.2 (HO2.out.eq.trans HOL3.out.eq.symm) (by have h1 := HLN.out; have h2 := HMA.out; have h3 : ps.length = ps3.length := (by rw [← segs_len, ← segs_len, HO2.out.eq, HOL3.out.eq]); omega)).mono ?_); rintro e w4 ⟨rfl, hb4⟩; have HO4 := Kept.mk (HO2.out.new_ hb4); have HJ4 := Kept.mk (join HJ3.out hb4); clear hb4) | (go_at_call 21; go_must (refine (contains_c ps A3 k3 _ HO4.out.at_.2 (fun p hp => HVK _ _ (by rw [← HO4.out.eq]; exact List.mem_map_of_mem hp)) (by have h1 := HLN.out; have h2 := HMA.out; have h3 : ps.length = ps3.length := (by rw [← segs_len, ← segs_len, HO4.out.eq, HOL3.out.eq]); omega)).mono ?_); rintro e w5 ⟨rfl, hb5⟩; have HJ5 := Kept.mk (join HJ4.out hb5); clear hb5))
        go_ret
        exact ⟨rfl, HJ5.out⟩

set_option maxRecDepth 100000 in
theorem liftedSegmentSplits (os : Os) (started : os.Started) (H : Type) (enc : TypeId × Value → H) :
    ReturnsInHanded {} Try.checked os 4 .any (Rows.segmentSplitsSpec.pre6 enc Try.prog Try.f4 Rows.segmentSplitsRow.domain false) (Rows.segmentSplitsSpec.post enc Try.prog Try.f4 false true false false) := by
  refine returnsInHanded_of_change (C := Try.checked) own started (by kernel_rfl) Try.func4
    (ChangeSpec.witness6 (enc := enc) (C := Try.checked) false ⟨#[], #[.slice none 0 0, .int .i64 0, .int .i64 0, .bool false], []⟩ 8 (by kernel_rfl) (by kernel_rfl) (by kernel_rfl) (by kernel_rfl)) ?_
  intro W base args ds gs before hval0 hW hcnd _
  have hval : ∀ (j : Nat) t v, Try.f4.params[j]? = some t → args[j]? = some v → Value.okWide Try.prog W .any base t v := hval0
  have hW' := hW
  obtain ⟨p, q, hA0, hV, rfl, hfz, hnd⟩ := hW
  have hA : DataW.TrodAll enc Try.prog W 0 (fun _ => true) true Try.f4.params.toList args.toList ds p := hA0
  rw [Try.params4] at hA hval
  obtain ⟨v0, vs0, d0, ds0, p0, q0, hargs, rfl, rfl, h0, r0⟩ := trodAll_cons hA
  obtain ⟨v1, vs1, d1, ds1, p1, q1, rfl, rfl, rfl, h1, r1⟩ := trodAll_cons r0
  obtain ⟨v2, vs2, d2, ds2, p2, q2, rfl, rfl, rfl, h2, r2⟩ := trodAll_cons r1
  obtain ⟨v3, vs3, d3, ds3, p3, q3, rfl, rfl, rfl, h3, r3⟩ := trodAll_cons r2
  obtain ⟨rfl, rfl, rfl⟩ := trodAll_nil r3
  obtain rfl : args = #[v0, v1, v2, v3] := by cases args; simp_all
  obtain ⟨rfl, rfl⟩ := trodVars_none hV
  have k0 := h0
  have lt0 : ∀ x ∈ p0, x.block < W.heap.size := by obtain ⟨m, hm⟩ := k0; exact DataW.trod_lt m _ _ _ hm
  have k1 := h1
  have lt1 : ∀ x ∈ p1, x.block < W.heap.size := by obtain ⟨m, hm⟩ := k1; exact DataW.trod_lt m _ _ _ hm
  have k2 := h2
  have lt2 : ∀ x ∈ p2, x.block < W.heap.size := by obtain ⟨m, hm⟩ := k2; exact DataW.trod_lt m _ _ _ hm
  have k3 := h3
  have lt3 : ∀ x ∈ p3, x.block < W.heap.size := by obtain ⟨m, hm⟩ := k3; exact DataW.trod_lt m _ _ _ hm
  obtain ⟨A0, kap0, l0, rfl, b0, rd0, le0, mx0⟩ := open_bytes (hval 0 22 v0 rfl rfl) h0
  obtain ⟨a1, rfl, -, -, ww1⟩ := open_int Try.underlying3 (hval 1 3 v1 rfl rfl) h1
  have w1 := bounds_i64 ww1
  obtain ⟨a2, rfl, -, -, ww2⟩ := open_int Try.underlying3 (hval 2 3 v2 rfl rfl) h2
  have w2 := bounds_i64 ww2
  obtain ⟨a3, rfl, -, -⟩ := open_bool Try.underlying4 (hval 3 4 v3 rfl rfl) h3
  clear hA0 hval0
  refine (walkSegmentSplits A0 kap0 l0 a1 a2 a3 W b0 rd0 le0 mx0 w1 w2).mono fun e W' ⟨he, bel⟩ => ?_
  subst he
  exact ⟨_, rfl, _, _, _, [], _, [], hW', trodAll_mk1 (shut_bool Try.underlying4 _), (trodAll_cons_mk (Below.trod laidOut (by kernel_rfl) (of_decide_eq_true (by kernel_rfl)) k0 bel lt0) (trodAll_cons_mk (Below.trod laidOut (by kernel_rfl) (of_decide_eq_true (by kernel_rfl)) k1 bel lt1) (trodAll_cons_mk (Below.trod laidOut (by kernel_rfl) (of_decide_eq_true (by kernel_rfl)) k2 bel lt2) (trodAll_cons_mk (Below.trod laidOut (by kernel_rfl) (of_decide_eq_true (by kernel_rfl)) k3 bel lt3) trodAll_mk0)))), rfl, bel.frame _, fun h => by cases h⟩
/-- The given statement. -/
theorem segmentSplits_holds : Rows.SegmentSplitsSaid :=
  OpenClaim.holds_of_wide 4 Try.f4 rfl rfl rfl rfl rfl rfl rfl ⟨rfl, rfl, rfl, rfl, rfl⟩ rfl rfl rfl rfl rfl (by kernel_rfl) Try.func4 (by kernel_rfl)
    (of_decide_eq_true (by kernel_rfl)) (by unfold Func.isWrapper; first | (rw [if_pos (by decide +kernel)]; kernel_rfl) | (rw [if_neg (by decide +kernel)]; exact ⟨rfl, rfl⟩))
    (fun os started H enc _ => liftedSegmentSplits os started H enc)
#print axioms segmentSplits_holds
end Go.Proofs.Ytdhajibegkkeiaa
