/- For all arguments the statement SetupNew returns true: New accepts exactly the specified arguments. No condition. -/
import Derived.Test.YtnmgnggchgckoaaBase
namespace Go.Proofs.Ytnmgnggchgckoaa
open Go.ChangeShapes Go.WideShapes Go.ChangeAt Go.RowKit
set_option linter.unusedVariables false
set_option linter.unusedSimpArgs false
theorem start0_n (conn : Int) (l : List Int) (need : Int) : (start0 conn l need).n = l.length := by simp [start0, Ch.n]
theorem start0_st (conn : Int) (l : List Int) (need : Int) (i : Nat) : (start0 conn l need).st i = 0 := by
  simp only [start0, Ch.st, List.getD_eq_getElem?_getD, List.getElem?_replicate]; split <;> rfl
theorem repN_start0 (conn : Int) (l : List Int) (need : Int) (k : Nat) : repN (start0 conn l need) k = [] := by
  induction k with
  | zero => rfl
  | succ k ih => simp [repN, ih, repI, start0_st]
theorem Drewn.ch {w w' : World} {L : Loc} {c : Ch} (h : Drewn w w') (hc : IsCh w L c) : IsCh w' L c := by
  obtain ⟨k, rfl⟩ := h; exact hc.drewN k
set_option maxRecDepth 100000 in
set_option maxHeartbeats 4000000 in
theorem walkSetupNew (a0 : Int) (a1 : Option Addr) (len1 cap1 : Nat) (a2 : Int) (w : World) (w0 : (Lit.int .i64 a0).wf = true) (w1 : IsRows w 1 IsInt a1 len1 cap1) (w2 : (Lit.int .i64 a2).wf = true) :
    Calls Try.prog 3 #[.int .i64 a0, .slice a1 len1 cap1, .int .i64 a2] w fun e w' => e = .returned (.bool true) ∧ Below w.heap.size w w' := by
  have hcap := w1.1
  have hmax := w1.2.1
  unfold maxLen at hmax
  obtain ⟨l, rfl, hr⟩ := rows_ints w1
  have HR := Kept.mk hr
  clear w0 w2 w1 hr
  by_cases hl : 32 < l.length
  · go_enter Try.func3, Try.ntmps3
    go_wp2_with fail
    refine (awake_c _).mono ?_
    rintro e wa ⟨rfl, hba⟩
    have HBA := Kept.mk hba
    clear hba
    go_wp2_with fail
    refine (awake_c _).mono ?_
    rintro e wb ⟨rfl, hbb⟩
    have HBB := Kept.mk (join HBA.out hbb)
    clear hbb
    go_wp2_with fail
    go_ret
    exact ⟨rfl, HBB.out⟩
  · cases hf : fitsB a0 l a2 with
    | false =>
      have HF := Kept.mk hf
      clear hf
      go_enter Try.func3, Try.ntmps3
      go_wp2_with fail
      refine (awake_c _).mono ?_
      rintro e wa ⟨rfl, hba⟩
      have HBA := Kept.mk hba
      have HRa := Kept.mk (HR.out.below hba)
      clear hba
      go_wp2_with fail
      refine (new_no a0 l a2 a1 cap1 _ _ HRa.out (by omega) HF.out).mono ?_
      rintro e w' ⟨rfl, rfl⟩
      go_wp2_with fail
      refine (fits_c a0 l a2 a1 cap1 _ _ HRa.out (by omega)).mono ?_
      rintro e w' ⟨rfl, rfl⟩
      rw [HF.out]
      go_wp2_with fail
      go_ret
      exact ⟨rfl, HBA.out⟩
    | true =>
      have hf2 := hf
      simp only [fitsB, Bool.and_eq_true] at hf2
      obtain ⟨g1, g2⟩ := hf2
      obtain ⟨b1, b2, b3, b4, b5⟩ := argB_iff.1 g1
      have HG := Kept.mk g2
      have HF := Kept.mk hf
      have HE1 : Kept (stateP (start0 a0 l a2) l.length = -1) := ⟨by unfold stateP; rw [if_neg (by rw [hasB_iff, start0_n]; omega)]⟩
      have HE2 : Kept (leftP (start0 a0 l a2) (-1) = -1) := ⟨by unfold leftP; rw [if_neg (by rw [hasB_iff]; omega)]⟩
      have HE3 : Kept (repP (start0 a0 l a2) = []) := ⟨repN_start0 _ _ _ _⟩
      have HE4 : Kept (∀ i, i < l.length → stateP (start0 a0 l a2) i = 0 ∧ leftP (start0 a0 l a2) i = l.getD i 0) := ⟨fun i hi => by
        have hb : (start0 a0 l a2).hasB i = true := hasB_iff.2 ⟨by omega, by rw [start0_n]; omega⟩
        refine ⟨by simp [stateP, hb, start0_st], ?_⟩
        simp only [leftP, hb, if_true, Int.toNat_natCast, start0_st]; rfl⟩
      clear hf g1 g2
      go_enter Try.func3, Try.ntmps3
      go_wp2_with fail
      refine (awake_c _).mono ?_
      rintro e wa ⟨rfl, hba⟩
      have HBA := Kept.mk hba
      have HRa := Kept.mk (HR.out.below hba)
      have hza := hba.size
      clear hba
      go_wp2_with fail
      refine (new_yes a0 l a2 a1 cap1 _ _ HRa.out hza HF.out).mono ?_
      rintro e w1 ⟨L, rfl, hc, hb, -, -, -⟩
      have HC := Kept.mk hc
      have HB1 := Kept.mk (join HBA.out hb)
      have HR1 := Kept.mk (HRa.out.below (hb.mono hza))
      clear hc hb
      go_wp2_with fail
      refine (fits_c a0 l a2 a1 cap1 _ _ HR1.out (by omega)).mono ?_
      rintro e w' ⟨rfl, rfl⟩
      rw [HF.out]
      go_wp2_with fail
      refine (state_c _ _ _ L HC.out).mono ?_
      rintro e w' ⟨rfl, rfl⟩
      rw [HE1.out]
      go_wp2_with fail
      refine (left_c _ _ _ L HC.out).mono ?_
      rintro e w' ⟨rfl, n, rfl⟩
      rw [HE2.out]
      go_wp2_with fail
      go_loopw [57] (fun v57 wr => ∃ k : Nat, k ≤ l.length ∧ v57 = .int .i64 k ∧ Kept (Drewn w1 wr)) (fun v57 _ => l.length - (intOf v57).toNat)
      case atStart => exact ⟨0, by omega, rfl, ⟨⟨n, rfl⟩⟩⟩
      case round =>
        obtain ⟨k, hk, rfl, HD⟩ := hrel
        have HCr := Kept.mk (HD.out.ch HC.out)
        by_cases hlt : k < l.length
        · obtain ⟨ad, v, rfl, hadb, hx, hc⟩ := (HD.out.reads HR1.out).at_ hlt
          rw [iv_get hlt] at hx
          injection hx with hx
          subst hx
          have HEK := Kept.mk (HE4.out k hlt)
          generalize l.getD k 0 = r at *
          go_wp2_with fail
          refine (state_c _ _ _ L HCr.out).mono ?_
          rintro e w' ⟨rfl, rfl⟩
          rw [HEK.out.1]
          go_wp2_with fail
          refine (left_c _ _ _ L HCr.out).mono ?_
          rintro e w' ⟨rfl, m, rfl⟩
          rw [HEK.out.2]
          go_wp2_with fail
          go_roundw
          case rel => exact ⟨k + 1, by omega, by go_num, ⟨HD.out.step m⟩⟩
          case measure => simp [intOf]; omega
        · obtain rfl : k = l.length := by omega
          go_wp2_with fail
          refine (rep_c _ _ L HCr.out).mono ?_
          rw [HE3.out]
          rintro e w2 ⟨v, rfl, ho, hb⟩
          obtain ⟨A, kap, rfl⟩ := own_slice ho
          have HB2 := Kept.mk (join (HB1.out.trans (HD.out.below.mono HB1.out.size)) hb)
          clear ho hb
          go_wp2_with fail
          go_ret
          exact ⟨rfl, HB2.out⟩

set_option maxRecDepth 100000 in
theorem liftedSetupNew (os : Os) (started : os.Started) (H : Type) (enc : TypeId × Value → H) :
    ReturnsInHanded {} Try.checked os 3 .any (Rows.setupNewSpec.pre6 enc Try.prog Try.f3 Rows.setupNewRow.domain false) (Rows.setupNewSpec.post enc Try.prog Try.f3 false true false false) := by
  refine returnsInHanded_of_change (C := Try.checked) own started (by kernel_rfl) Try.func3
    (ChangeSpec.witness6 (enc := enc) (C := Try.checked) false ⟨#[], #[.int .i64 0, .slice none 0 0, .int .i64 0], []⟩ 8 (by kernel_rfl) (by kernel_rfl) (by kernel_rfl) (by kernel_rfl)) ?_
  intro W base args ds gs before hval0 hW hcnd _
  have hval : ∀ (j : Nat) t v, Try.f3.params[j]? = some t → args[j]? = some v → Value.okWide Try.prog W .any base t v := hval0
  have hW' := hW
  obtain ⟨p, q, hA0, hV, rfl, hfz, hnd⟩ := hW
  have hA : DataW.TrodAll enc Try.prog W 0 (fun _ => true) true Try.f3.params.toList args.toList ds p := hA0
  rw [Try.params3] at hA hval
  obtain ⟨v0, vs0, d0, ds0, p0, q0, hargs, rfl, rfl, h0, r0⟩ := trodAll_cons hA
  obtain ⟨v1, vs1, d1, ds1, p1, q1, rfl, rfl, rfl, h1, r1⟩ := trodAll_cons r0
  obtain ⟨v2, vs2, d2, ds2, p2, q2, rfl, rfl, rfl, h2, r2⟩ := trodAll_cons r1
  obtain ⟨rfl, rfl, rfl⟩ := trodAll_nil r2
  obtain rfl : args = #[v0, v1, v2] := by cases args; simp_all
  obtain ⟨rfl, rfl⟩ := trodVars_none hV
  have k0 := h0
  have lt0 : ∀ x ∈ p0, x.block < W.heap.size := by obtain ⟨m, hm⟩ := k0; exact DataW.trod_lt m _ _ _ hm
  have k1 := h1
  have lt1 : ∀ x ∈ p1, x.block < W.heap.size := by obtain ⟨m, hm⟩ := k1; exact DataW.trod_lt m _ _ _ hm
  have k2 := h2
  have lt2 : ∀ x ∈ p2, x.block < W.heap.size := by obtain ⟨m, hm⟩ := k2; exact DataW.trod_lt m _ _ _ hm
  obtain ⟨a0, rfl, -, -, w0⟩ := open_int Try.underlying3 (hval 0 3 v0 rfl rfl) h0
  obtain ⟨a1, len1, cap1, rfl⟩ := okWide_slice Try.underlying22 (hval 1 22 v1 rfl rfl)
  have w1 : IsRows W 1 IsInt a1 len1 cap1 := open_rows Try.underlying22 (show Try.prog.cellsOf 3 = 1 by kernel_rfl) (by decide) isInt h1
  obtain ⟨a2, rfl, -, -, w2⟩ := open_int Try.underlying3 (hval 2 3 v2 rfl rfl) h2
  clear hA0 hval0
  refine (walkSetupNew a0 a1 len1 cap1 a2 W w0 w1 w2).mono fun e W' ⟨he, bel⟩ => ?_
  subst he
  exact ⟨_, rfl, _, _, _, [], _, [], hW', trodAll_mk1 (shut_bool Try.underlying4 _), (trodAll_cons_mk (Below.trod laidOut (by kernel_rfl) (of_decide_eq_true (by kernel_rfl)) k0 bel lt0) (trodAll_cons_mk (Below.trod laidOut (by kernel_rfl) (of_decide_eq_true (by kernel_rfl)) k1 bel lt1) (trodAll_cons_mk (Below.trod laidOut (by kernel_rfl) (of_decide_eq_true (by kernel_rfl)) k2 bel lt2) trodAll_mk0))), rfl, bel.frame _, fun h => by cases h⟩
/-- The given statement. -/
theorem setupNew_holds : Rows.SetupNewSaid :=
  OpenClaim.holds_of_wide 3 Try.f3 rfl rfl rfl rfl rfl rfl rfl ⟨rfl, rfl, rfl, rfl, rfl⟩ rfl rfl rfl rfl rfl (by kernel_rfl) Try.func3 (by kernel_rfl)
    (of_decide_eq_true (by kernel_rfl)) (by unfold Func.isWrapper; first | (rw [if_pos (by decide +kernel)]; kernel_rfl) | (rw [if_neg (by decide +kernel)]; exact ⟨rfl, rfl⟩))
    (fun os started H enc _ => liftedSetupNew os started H enc)
#print axioms setupNew_holds
end Go.Proofs.Ytnmgnggchgckoaa
