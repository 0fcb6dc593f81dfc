/- For all lists of segments the statement SegmentJoins returns true: Join returns the specified bytes, or the specified error. No condition. -/
import Derived.Test.YtdhajibegkkeiaaBase
import Derived.Test.YtdhajibegkkeiaaRJoin
import Derived.Test.YtdhajibegkkeiaaBaseB
namespace Go.Proofs.Ytdhajibegkkeiaa
open Go.ChangeShapes Go.WideShapes Go.ChangeAt Go.RowKit
set_option linter.unusedVariables false
set_option linter.unusedSimpArgs false
set_option maxRecDepth 100000 in
set_option maxHeartbeats 8000000 in
theorem walkSegmentJoins (A : Option Addr) (kap : Nat) (l : List PSeg) (many : Bool) (w : World) (hs : SegsAt w w.heap.size A l) (hkap : l.length ≤ kap) (hmax : kap ≤ maxLen) :
    Calls Try.prog 5 #[.slice A l.length kap, .bool many] w fun e w' => e = .returned (.bool true) ∧ Below w.heap.size w w' := by
  obtain ⟨jj, hjj, hy0, hy1, hy2⟩ := info_parts info24
  have HS := Kept.mk hs
  have hmx : l.length ≤ 9223372036854775807 := by unfold maxLen at hmax; omega
  have HLE : Kept (∀ p ∈ l, p.s.data.length ≤ 9223372036854775807) := ⟨fun p hp => by
    have h1 := (hs.seg p hp).le
    have h2 := (hs.seg p hp).max
    unfold maxLen at h2
    omega⟩
  clear hs hkap hmax
  go_enter Try.func5, Try.ntmps5
  go_wp2_with (go_at_call 11; refine (awake_c _).mono ?_; rintro e w1 ⟨rfl, hb1⟩; have HJ := Kept.mk hb1; clear hb1)
  refine (great_c l A kap _ (segsAt_new HS.out HJ.out) hmx HLE.out).mono ?_
  rintro e w2 ⟨b, rfl, hgr, hb2⟩
  have HJ2 := Kept.mk (join HJ.out hb2)
  clear hb2
  cases b
  · have HMO : Kept (Modest l) := ⟨hgr rfl⟩
    clear hgr
    have hn := HMO.out.1
    have hcase : (many = true ∧ 0 < l.length) ∨ (many = false ∨ (many = true ∧ l.length = 0)) := by
      cases many
      · right; left; rfl
      · by_cases h : l.length = 0
        · right; right; exact ⟨rfl, h⟩
        · left; exact ⟨rfl, by omega⟩
    rcases hcase with ⟨rfl, h0⟩ | hm
    · have h0' : (0 : Int) < l.length := by omega
      go_wp2_with fail
      go_loopw [0] (fun v0 wr => ∃ (ps : List PSeg) (A' : Option Addr) (k' : Nat), v0 = .slice A' ps.length k' ∧ 0 < ps.length ∧ ps.length ≤ 2000 ∧ Kept (SegsAt wr wr.heap.size A' ps) ∧ Kept (Below w.heap.size w wr)) (fun v0 _ => match v0 with | .slice _ n _ => 2001 - n | _ => 0)
      case atStart => exact ⟨l, A, kap, rfl, h0, by omega, ⟨segsAt_new HS.out HJ2.out⟩, HJ2⟩
      case round =>
        clear HJ2
        obtain ⟨ps, A', k', rfl, p0, p1, HP, HD⟩ := hrel
        by_cases hle : ps.length ≤ 1000
        · have hle' : (ps.length : Int) ≤ 1000 := by omega
          have HZ := HD.out.size
          go_wp2_with (first | (go_at_call 24; go_must (refine (cloneS_c A' k' ps.length ps _ _ rfl HP.out.rd (Nat.le_refl _) (by omega)).mono ?_); rintro e w3 ⟨v3, rfl, ho3, hb3⟩; have HO3 := Kept.mk ho3; have HB3 := Kept.mk hb3; have HP3 := Kept.mk (HP.out.rd.below hb3); clear ho3 hb3) | (at_builtin; go_must (refine wpList_append_any _ rfl _ _ 34 rfl wr.heap.size 24 jj _ 3 40 Try.underlying34 hjj hy0 hy1 hy2 rfl (by omega) v3 ps.length (scells ps) rfl HO3.out _ A' ps.length k' (scells ps) rfl HP3.out scells_one (by unfold maxLen; omega) (by omega) HB3.out.size ?_); intro v4 w4 ho4 hg4 _; have HB4 : Kept (Below wr.heap.size wr w4) := ⟨HB3.out.grown hg4 HB3.out.size (fun g hg => (HO3.out.lt g hg).1)⟩; obtain ⟨A4, k4, rfl⟩ := own_slice ho4; have HN : Kept (SegsAt w4 w4.heap.size A4 (ps ++ ps)) := ⟨⟨by rw [List.length_append, scells_app]; exact Reads.of_own ho4, fun p hp => ((HP.out.seg p (by rcases List.mem_append.1 hp with hp | hp; exact hp; exact hp)).new_ HB4.out)⟩⟩; clear ho4 hg4))
          go_roundw
          case rel => exact ⟨ps ++ ps, A4, k4, by rw [List.length_append], by rw [List.length_append]; omega, by rw [List.length_append]; omega, HN, ⟨join HD.out HB4.out⟩⟩
          case measure => simp; omega
        · have hgt : 1000 < ps.length := by omega
          have hgt' : ¬ (ps.length : Int) ≤ 1000 := by omega
          go_wp2_with (go_at_call 25; go_must (refine (join_c ps A' k' _ _ HP.out (Nat.le_refl _) (by omega)).mono ?_); rintro e w5 ⟨r, v5, hj, hby, rfl, ho5, hb5⟩; obtain rfl : r = ⟨[], 0, false, 5⟩ := joinIs_uniq hj (.full (by rw [segs_len]; exact hgt)); obtain ⟨A5, k5, rfl⟩ := own_slice ho5; have HD5 := Kept.mk (join HD.out hb5); clear hj hby ho5 hb5)
          go_ret
          exact ⟨rfl, HD5.out⟩
    · have hm2 : many = false ∨ (many = true ∧ l.length = 0 ∧ ¬ (0 : Int) < l.length ∧ decide ((0 : Int) < l.length) = false) := by
        rcases hm with h | ⟨h1, h2⟩
        · exact .inl h
        · exact .inr ⟨h1, h2, by omega, by simp [h2]⟩
      clear hm
      have tok1 : True := trivial
      rcases hm2 with rfl | ⟨rfl, hz, hz2, hz3⟩
      all_goals
        (try clear hz)
        go_wp2_with (first | (go_at_call 25; go_must (refine (join_c l A kap _ _ (segsAt_new HS.out HJ2.out) (Nat.le_refl _) (by omega)).mono ?_); rintro e w3 ⟨r, v3, hj, hby, rfl, ho3, hb3⟩; have HJR := Kept.mk hj; have HBY := Kept.mk hby; obtain ⟨A3, k3, rfl⟩ := own_slice ho3; have HO3 := Kept.mk ho3; have HJ3 := Kept.mk (join HJ2.out hb3); clear hj hby ho3 hb3) | (go_at_call 26; go_must (refine (rjoin_c l A kap _ _ (segsAt_new HS.out HJ3.out) (Nat.le_refl _) HMO.out).mono ?_); rintro e w4 ⟨r2, v4, hj, hby2, rfl, ho4, hb4⟩; obtain rfl := joinIs_uniq HJR.out hj; obtain ⟨A4, k4, rfl⟩ := own_slice ho4; have kv := conv_reads (P := Try.prog) (kap := k3) 22 5 9 Try.underlying22 Try.underlying5 Try.underlying9 (Reads.of_own (own_new HO3.out hb4)); have kw := conv_reads (P := Try.prog) (kap := k4) 22 5 9 Try.underlying22 Try.underlying5 Try.underlying9 (Reads.of_own ho4); have HJ4 := Kept.mk (join HJ3.out hb4); clear hj hby2 ho4 hb4))
        go_ret
        exact ⟨rfl, HJ4.out⟩
  · go_wp2_with fail
    go_ret
    exact ⟨rfl, HJ2.out⟩

set_option maxRecDepth 100000 in
theorem liftedSegmentJoins (os : Os) (started : os.Started) (H : Type) (enc : TypeId × Value → H) :
    ReturnsInHanded {} Try.checked os 5 .any (Rows.segmentJoinsSpec.pre6 enc Try.prog Try.f5 Rows.segmentJoinsRow.domain false) (Rows.segmentJoinsSpec.post enc Try.prog Try.f5 false true false false) := by
  refine returnsInHanded_of_change (C := Try.checked) own started (by kernel_rfl) Try.func5
    (ChangeSpec.witness6 (enc := enc) (C := Try.checked) false ⟨#[], #[.slice none 0 0, .bool false], []⟩ 8 (by kernel_rfl) (by kernel_rfl) (by kernel_rfl) (by kernel_rfl)) ?_
  intro W base args ds gs before hval0 hW hcnd _
  have hval : ∀ (j : Nat) t v, Try.f5.params[j]? = some t → args[j]? = some v → Value.okWide Try.prog W .any base t v := hval0
  have hW' := hW
  obtain ⟨p, q, hA0, hV, rfl, hfz, hnd⟩ := hW
  have hA : DataW.TrodAll enc Try.prog W 0 (fun _ => true) true Try.f5.params.toList args.toList ds p := hA0
  rw [Try.params5] at hA hval
  obtain ⟨v0, vs0, d0, ds0, p0, q0, hargs, rfl, rfl, h0, r0⟩ := trodAll_cons hA
  obtain ⟨v1, vs1, d1, ds1, p1, q1, rfl, rfl, rfl, h1, r1⟩ := trodAll_cons r0
  obtain ⟨rfl, rfl, rfl⟩ := trodAll_nil r1
  obtain rfl : args = #[v0, v1] := by cases args; simp_all
  obtain ⟨rfl, rfl⟩ := trodVars_none hV
  have k0 := h0
  have lt0 : ∀ x ∈ p0, x.block < W.heap.size := by obtain ⟨m, hm⟩ := k0; exact DataW.trod_lt m _ _ _ hm
  have k1 := h1
  have lt1 : ∀ x ∈ p1, x.block < W.heap.size := by obtain ⟨m, hm⟩ := k1; exact DataW.trod_lt m _ _ _ hm
  obtain ⟨A0, kap0, l0, rfl, s0, le0, mx0⟩ := open_segs (hval 0 34 v0 rfl rfl) h0
  obtain ⟨a1, rfl, -, -⟩ := open_bool Try.underlying4 (hval 1 4 v1 rfl rfl) h1
  clear hA0 hval0
  refine (walkSegmentJoins A0 kap0 l0 a1 W s0 le0 mx0).mono fun e W' ⟨he, bel⟩ => ?_
  subst he
  exact ⟨_, rfl, _, _, _, [], _, [], hW', trodAll_mk1 (shut_bool Try.underlying4 _), (trodAll_cons_mk (Below.trod laidOut (by kernel_rfl) (of_decide_eq_true (by kernel_rfl)) k0 bel lt0) (trodAll_cons_mk (Below.trod laidOut (by kernel_rfl) (of_decide_eq_true (by kernel_rfl)) k1 bel lt1) trodAll_mk0)), rfl, bel.frame _, fun h => by cases h⟩
/-- The given statement. -/
theorem segmentJoins_holds : Rows.SegmentJoinsSaid :=
  OpenClaim.holds_of_wide 5 Try.f5 rfl rfl rfl rfl rfl rfl rfl ⟨rfl, rfl, rfl, rfl, rfl⟩ rfl rfl rfl rfl rfl (by kernel_rfl) Try.func5 (by kernel_rfl)
    (of_decide_eq_true (by kernel_rfl)) (by unfold Func.isWrapper; first | (rw [if_pos (by decide +kernel)]; kernel_rfl) | (rw [if_neg (by decide +kernel)]; exact ⟨rfl, rfl⟩))
    (fun os started H enc _ => liftedSegmentJoins os started H enc)
#print axioms segmentJoins_holds
end Go.Proofs.Ytdhajibegkkeiaa
