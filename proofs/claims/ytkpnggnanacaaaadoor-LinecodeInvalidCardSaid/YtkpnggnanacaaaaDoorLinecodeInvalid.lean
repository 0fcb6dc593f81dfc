/- For every list of numbers and every bit the statement LinecodeInvalid returns true: one inverted bit makes a valid symbol invalid. No condition. -/
import Derived.Test.YtkpnggnanacaaaaDoorBase
import Derived.Test.YtkpnggnanacaaaaDoorVal
import Derived.Test.YtkpnggnanacaaaaDoorFlip
import Derived.Test.YtkpnggnanacaaaaDoorApp
namespace Go.Proofs.YtkpnggnanacaaaaDoor
open Go.ChangeShapes Go.WideShapes Go.ChangeAt Go.RowKit
set_option linter.unusedVariables false
set_option linter.unusedSimpArgs false
theorem symB_vld (xs : List Int) : Vld (symB xs) := fun i hi => by
  rw [symB_len] at hi
  rw [symB_get xs i hi, idx_T _ (by omega)]
  omega
set_option maxRecDepth 100000 in
set_option maxHeartbeats 1000000 in
theorem walkLinecodeInvalid (v0 : Value) (xs : List Int) (a1 : Int) (w : World) (ht : Tab w) (hr : Rd w v0 xs) (hx : Byt xs) (w1 : (Lit.int .u16 a1).wf = true) :
    Calls Tryd.prog 5 #[v0, .int .u16 a1] w fun e w' => e = .returned (.bool true) ∧ Below w.heap.size w w' := by
  obtain ⟨b1, b2⟩ := bounds_u16 w1
  have hr' := hr
  obtain ⟨A, cap, rfl, hcap, hmax, -⟩ := hr'
  have HR := hid hr
  have HT := hid ht
  clear hr ht w1
  unfold maxLen at hmax
  by_cases hl : xs.length = 0 ∨ 60 < xs.length
  · have hl' : xs.length < 1 ∨ 1 ≤ xs.length ∧ 60 < xs.length := by omega
    clear hl
    generalize xs.length = n at *
    clear HR
    rcases hl' with hl | ⟨hl, hl2⟩
    · have hq : ((n : Int) == 0) = true := by simp; omega
      go_enter Tryd.func5, Tryd.ntmps5
      go_wp2_with fail
      refine (awake_c _ HT.out).mono ?_
      rintro e wa ⟨rfl, hba⟩
      have HBA := hid hba
      clear hba
      go_wp2_with fail
      go_ret
      exact ⟨rfl, HBA.out⟩
    · have hq : ((n : Int) == 0) = false := by simp; omega
      go_enter Tryd.func5, Tryd.ntmps5
      go_wp2_with fail
      refine (awake_c _ HT.out).mono ?_
      rintro e wa ⟨rfl, hba⟩
      have HBA := hid hba
      clear hba
      go_wp2_with fail
      go_ret
      exact ⟨rfl, HBA.out⟩
  · have hl1 : 1 ≤ xs.length := by omega
    have hl2 : xs.length ≤ 60 := by omega
    have HX := hid hx
    have hq : ((xs.length : Int) == 0) = false := beq_eq_false_iff_ne.2 (by omega)
    clear hl hx
    have hpos : 0 < 6 * (xs.length : Int) := by omega
    obtain ⟨n, hn⟩ := Int.eq_ofNat_of_zero_le (Int.emod_nonneg a1 (Int.ne_of_gt hpos))
    have hnl0 := Int.emod_lt_of_pos a1 hpos
    rw [hn] at hnl0
    have hnl : n < 6 * xs.length := by omega
    clear hnl0
    have HSL := hid (symB_len xs)
    have HSV := hid (symB_vld xs)
    have HSB := hid (symB_byt xs)
    have HN := hid hn
    have hne : ((6 * (xs.length : Int)) == 0) = false := beq_eq_false_iff_ne.2 (by omega)
    go_enter Tryd.func5, Tryd.ntmps5
    go_wp2_with fail
    refine (awake_c _ HT.out).mono ?_
    rintro e wa ⟨rfl, hba⟩
    have HBA := hid hba
    have HT2 := hid (HT.out.below hba)
    have HR2 := hid (HR.out.below hba)
    clear hba HT HR
    go_wp2_with fail
    refine (valid_c _ xs _ HT2.out HR2.out HX.out (by omega)).mono ?_
    rintro e wb ⟨u1, rfl, hO1⟩
    have hrd := hO1.rd
    have HT3 := hid (HT2.out.below hO1.2)
    have HB1 := hid (join HBA.out hO1.2)
    generalize symB xs = ys at *
    obtain ⟨A1, cap1, rfl⟩ := own_slice hO1.1
    rw [HSL.out] at hrd ⊢
    have HU1 := hid hrd
    clear hO1 hrd
    go_wp2_with fail
    refine (flip_c _ ys n _ HU1.out HSB.out (by rw [HSL.out]; omega) (by rw [HSL.out]; exact hnl)).mono ?_
    rintro e wc ⟨u2, rfl, hO2⟩
    have hrd := hO2.rd
    have HT4 := hid (HT3.out.below hO2.2)
    have HB2 := hid (join HB1.out hO2.2)
    have HFL := hid ((flipB_len ys n).trans HSL.out)
    have HFB := hid (flipB_byt HSB.out n)
    have HFI := hid (flip_idx HSV.out (n := n) (by rw [HSL.out]; exact hnl))
    have HFF := hid (flipB_far ys n)
    obtain ⟨A2, cap2, rfl⟩ := own_slice hO2.1
    have hrd' := hrd
    obtain ⟨A2', cap2', he, hcap2, hmax2, hcell2⟩ := hrd'
    injection he with e1 e2 e3
    subst e1 e3
    unfold maxLen at hmax2
    rw [HFL.out] at hcap2 hcell2 ⊢
    have HC := hid hcell2
    clear hO2 hrd e2 hcell2 HU1 HR2 HT2 HT3 HBA HB1
    obtain ⟨q, hqn⟩ : ∃ q : Nat, q = n / 6 := ⟨_, rfl⟩
    have hdq : (n : Int) / 6 = (q : Int) := by omega
    rw [← hqn] at HFI HFF
    generalize flipB ys n = zs at *
    have HDQ := hid hdq
    clear hqn hdq
    go_wp2_with fail
    go_loopw [48] (fun v48 wr => ∃ k : Nat, k ≤ xs.length ∧ v48 = .int .i64 k ∧ wr = wc) (fun v48 _ => xs.length - (intOf v48).toNat)
    case atStart => exact ⟨0, by omega, rfl, rfl⟩
    case round =>
      obtain ⟨k, hk, rfl, rfl⟩ := hrel
      by_cases hlt : k < xs.length
      · obtain ⟨b, off, rfl, hbl, hcell⟩ := HC.out (by omega)
        have c0 := hcell k hlt
        have hxk := HFB.out.at_ k
        clear hcell
        by_cases hkq : k = q
        · have hE : Hid (valE (zs.getD k 0) = 3) := by rw [hkq]; show valE _ = 3; unfold valE; rw [if_neg (by rw [HFI.out]; decide)]
          have hnb : ((k : Int) != (n : Int) / 6) = false := by rw [HDQ.out, hkq]; simp
          clear hkq
          generalize zs.getD k 0 = x at *
          go_wp2_with fail
          refine (value_c _ _ HT4.out (by omega) (by omega)).mono ?_
          rintro e w' ⟨rfl, rfl⟩
          rw [hE.out]
          generalize valV x = vv
          generalize valC x = vc
          go_wp2_with fail
          go_roundw
          case rel => exact ⟨k + 1, by omega, by go_num, by first | trivial | rfl⟩
          case measure => simp [intOf]; omega
        · have hv := HSV.out k (by rw [HSL.out]; exact hlt)
          rw [← HFF.out k hkq] at hv
          have hE : Hid (valE (zs.getD k 0) = 0) := by show valE _ = 0; unfold valE; rw [if_pos hv]
          have hnb : ((k : Int) != (n : Int) / 6) = true := by rw [HDQ.out]; simp; omega
          clear hkq hv
          generalize zs.getD k 0 = x at *
          go_wp2_with fail
          refine (value_c _ _ HT4.out (by omega) (by omega)).mono ?_
          rintro e w' ⟨rfl, rfl⟩
          rw [hE.out]
          generalize valV x = vv
          generalize valC x = vc
          go_wp2_with fail
          go_roundw
          case rel => exact ⟨k + 1, by omega, by go_num, by first | trivial | rfl⟩
          case measure => simp [intOf]; omega
      · go_wp2_with fail
        go_ret
        exact ⟨rfl, HB2.out⟩

theorem contractLinecodeInvalid (H : Type) (enc : TypeId × Value → H) (W : World) (base : Nat) (args : Array Value) (ds gs : List (DataW H)) (before : List MemPlace)
    (hval : ∀ (j : Nat) t v, Tryd.f5.params[j]? = some t → args[j]? = some v → Value.okWide Tryd.prog W .any base t v)
    (hW : DataW.Whole enc Tryd.prog Tryd.f5.params.toList Rows.linecodeInvalidSpec.vars false W args.toList ds gs before) (hL : laidMetH Tryd.prog Rows.linecodeInvalidRow.laid W) :
    Calls Tryd.prog 5 args W fun e W' => ∃ v, e = .returned v ∧ Rows.linecodeInvalidSpec.post enc Tryd.prog Tryd.f5 false true false false W args v W' := by
  have hW' := hW
  obtain ⟨p, q, hA0, hV, rfl, hfz, hnd⟩ := hW
  have hA : DataW.TrodAll enc Tryd.prog W 0 (fun _ => true) true Tryd.f5.params.toList args.toList ds p := hA0
  rw [Tryd.params5] at hA hval
  obtain ⟨v0, vs0, d0, ds0, p0, q0, hargs, rfl, rfl, h0, r0⟩ := trodAll_cons hA
  obtain ⟨v1, vs1, d1, ds1, p1, q1, rfl, rfl, rfl, h1, r1⟩ := trodAll_cons r0
  obtain ⟨rfl, rfl, rfl⟩ := trodAll_nil r1
  obtain rfl : args = #[v0, v1] := by cases args; simp_all
  obtain ⟨rfl, rfl⟩ := trodVars_none hV
  have k0 := h0
  have lt0 : ∀ x ∈ p0, x.block < W.heap.size := by obtain ⟨m, hm⟩ := k0; exact DataW.trod_lt m _ _ _ hm
  have k1 := h1
  have lt1 : ∀ x ∈ p1, x.block < W.heap.size := by obtain ⟨m, hm⟩ := k1; exact DataW.trod_lt m _ _ _ hm
  obtain ⟨a0, len0, cap0, rfl⟩ := okWide_slice Tryd.underlying23 (hval 0 23 v0 rfl rfl)
  obtain ⟨x0, w0, b0⟩ := open_rd h0
  obtain ⟨a1, rfl, -, -, w1⟩ := open_int Tryd.underlying33 (hval 1 33 v1 rfl rfl) h1
  clear hA0
  refine (walkLinecodeInvalid _ x0 a1 W (table hL) w0 b0 w1).mono fun e W' ⟨he, bel⟩ => ?_
  subst he
  exact ⟨_, rfl, _, _, _, [], _, [], hW', trodAll_mk1 (shut_bool Tryd.underlying4 _), (trodAll_cons_mk (Below.trod laidOut (by kernel_rfl) (of_decide_eq_true (by kernel_rfl)) k0 bel lt0) (trodAll_cons_mk (Below.trod laidOut (by kernel_rfl) (of_decide_eq_true (by kernel_rfl)) k1 bel lt1) trodAll_mk0)), rfl, bel.frame _, fun h => by cases h⟩
theorem laid_metLinecodeInvalid (os : Os) : laidMet Tryd.prog Rows.linecodeInvalidRow.laid ((laidWorld os).forCall (fun _ _ => 0) ⟨#[], #[.slice none 0 0, .int .u16 0], []⟩).memory :=
  laidMet_of_run' 8 (by kernel_rfl) (by kernel_rfl)
theorem readsLinecodeInvalid (os : Os) {H : Type} (enc : TypeId × Value → H) : ∃ places, DataW.whole enc Tryd.prog ((laidWorld os).forCall (fun _ _ => 0) ⟨#[], #[.slice none 0 0, .int .u16 0], []⟩).memory Tryd.f5.params.toList Rows.linecodeInvalidSpec.vars false #[Value.slice none 0 0, .int .u16 0].toList 8 = some ([.nil, .lit (.int .u16 0)], [], places) :=
  ⟨[], by kernel_rfl⟩
set_option maxRecDepth 100000 in
theorem liftedLinecodeInvalid (os : Os) (started : os.Started) (H : Type) (enc : TypeId × Value → H) (F : Stop.Interp) :
    ReturnsInHanded {} Tryd.checked os 5 .any ((OpenSpec.ofChange Rows.linecodeInvalidSpec).preRow enc Tryd.prog Tryd.f5 Rows.linecodeInvalidRow.domain false Rows.linecodeInvalidRow.laid) (((OpenSpec.ofChange Rows.linecodeInvalidSpec).at F).post enc Tryd.prog Tryd.f5 false true false false) := by
  obtain ⟨places, hx⟩ := readsLinecodeInvalid os enc
  refine returnsInHanded_of_row (C := Tryd.checked) (s := OpenSpec.ofChange Rows.linecodeInvalidSpec) own started (by kernel_rfl) Tryd.func5
    (witness_row_at (enc := enc) (C := Tryd.checked) false (laidWorld os) #[.slice none 0 0, .int .u16 0] rfl (by kernel_rfl) (by kernel_rfl) (by kernel_rfl)
      (OpenSpec.preRow_of_cond 8 hx (by kernel_rfl) (fun k hk => by cases hk) (by kernel_rfl) (laid_metLinecodeInvalid os))) ?_
  intro W base args ds gs before hval hW _ _ _ hL _ _
  exact contractLinecodeInvalid H enc W base args ds gs before hval hW hL
theorem saidLinecodeInvalid : Rows.LinecodeInvalidSaid :=
  OpenClaim.holds_of_cond 5 Tryd.f5 rfl rfl rfl rfl rfl rfl rfl ⟨rfl, rfl, rfl, rfl, rfl⟩ rfl rfl rfl rfl rfl (by kernel_rfl) Tryd.func5 (by kernel_rfl)
    (of_decide_eq_true (by kernel_rfl)) (by unfold Func.isWrapper; first | (rw [if_pos (by decide +kernel)]; kernel_rfl) | (rw [if_neg (by decide +kernel)]; exact ⟨rfl, rfl⟩))
    (fun os started H enc _ F => by rw [OpenClaim.pre_eq_preRow]; exact liftedLinecodeInvalid os started H enc F)
theorem plainLinecodeInvalid (f : FuncId) (fn : Func) (hf : Tryd.pinned.checked.prog.funcNamed Rows.linecodeInvalidRow.func = some f) (hfn : Tryd.pinned.checked.prog.funcs[f]? = some fn) :
    false = Tryd.pinned.checked.prog.looks [] ∧ ∀ (j : Nat) t, fn.params[j]? = some t → Tryd.pinned.checked.prog.wantsStandIn t = false := by
  obtain rfl : f = 5 := Option.some.inj ((show Tryd.prog.funcNamed Rows.linecodeInvalidRow.func = some 5 by kernel_rfl).symm.trans hf) |>.symm
  obtain rfl : fn = Tryd.f5 := (Option.some.inj (Tryd.func5.symm.trans hfn)).symm
  refine ⟨by kernel_rfl, fun j t ht => ?_⟩
  rw [Tryd.params5] at ht
  have hm := Array.mem_of_getElem? ht
  simp at hm
  rcases hm with rfl | rfl
  · exact (show Tryd.prog.wantsStandIn 23 = false by kernel_rfl)
  · exact (show Tryd.prog.wantsStandIn 33 = false by kernel_rfl)
/-- The given statement. -/
theorem linecodeInvalid_holds : Rows.LinecodeInvalidCardSaid :=
  Claim7.holds_tied_plain_at .later [] _ _ _ _ saidLinecodeInvalid (fun _ h => by cases h) (by kernel_rfl) (fun _ h => by cases h) linecodeInvalid_row_tie rfl ⟨rfl, rfl⟩ (by kernel_rfl) rfl plainLinecodeInvalid (by kernel_rfl)
#print axioms linecodeInvalid_holds
end Go.Proofs.YtkpnggnanacaaaaDoor
