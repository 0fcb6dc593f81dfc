/- For every list of numbers the statement LinecodeBalanced returns true: valid symbols are balanced and have short runs. No condition. -/
import Derived.Test.YtkpnggnanacaaaaDoorBase
import Derived.Test.YtkpnggnanacaaaaDoorVal
import Derived.Test.YtkpnggnanacaaaaDoorRun
import Derived.Test.YtkpnggnanacaaaaDoorApp
import Derived.Test.YtkpnggnanacaaaaDoorPlainD
namespace Go.Proofs.YtkpnggnanacaaaaDoor
open Go.ChangeShapes Go.WideShapes Go.ChangeAt Go.RowKit
set_option linter.unusedVariables false
set_option linter.unusedSimpArgs false
theorem symB_vld (xs : List Int) : Vld (symB xs) := fun i hi => by
  rw [symB_len] at hi
  rw [symB_get xs i hi, idx_T _ (by omega)]
  omega
set_option maxRecDepth 100000 in
set_option maxHeartbeats 1000000 in
theorem walkLinecodeBalanced (v0 : Value) (xs : List Int) (w : World) (ht : Tab w) (hr : Rd w v0 xs) (hx : Byt xs) :
    Calls Tryd.prog 10 #[v0] w fun e w' => e = .returned (.bool true) ∧ Below w.heap.size w w' := by
  have hr' := hr
  obtain ⟨A, cap, rfl, hcap, hmax, -⟩ := hr'
  have HR := hid hr
  have HT := hid ht
  clear hr ht
  unfold maxLen at hmax
  by_cases hl : 200 < xs.length
  · generalize xs.length = n at *
    clear HR
    go_enter Tryd.func10, Tryd.ntmps10
    go_wp2_with fail
    refine (awake_c _ HT.out).mono ?_
    rintro e wa ⟨rfl, hba⟩
    have HBA := hid hba
    clear hba
    go_wp2_with fail
    go_ret
    exact ⟨rfl, HBA.out⟩
  · have hl2 : xs.length ≤ 200 := by omega
    have HX := hid hx
    clear hl hx
    go_enter Tryd.func10, Tryd.ntmps10
    go_wp2_with fail
    refine (awake_c _ HT.out).mono ?_
    rintro e wa ⟨rfl, hba⟩
    have HBA := hid hba
    have HT2 := hid (HT.out.below hba)
    have HR2 := hid (HR.out.below hba)
    clear hba HT HR
    go_wp2_with fail
    refine (valid_c _ xs _ HT2.out HR2.out HX.out (by omega)).mono ?_
    rintro e wb ⟨u1, rfl, hO1⟩
    have HSL := Kept.mk (symB_len xs)
    have HSB := Kept.mk (symB_byt xs)
    have HB0 := Kept.mk (vld_bal (symB_vld xs))
    have HR0 := Kept.mk (vld_runB (symB_vld xs))
    have hrd := hO1.rd
    have HB1 := hid (join HBA.out hO1.2)
    generalize symB xs = ys at *
    obtain ⟨A1, cap1, rfl⟩ := own_slice hO1.1
    rw [HSL.out] at hrd ⊢
    have HU1 := hid hrd
    clear hO1 hrd
    go_wp2_with fail
    refine (run_c _ ys _ HU1.out HSB.out (by rw [HSL.out]; omega)).mono ?_
    rintro e w' ⟨rfl, rfl⟩
    obtain ⟨r, hr⟩ : ∃ r, runB ys = r := ⟨_, rfl⟩
    rw [hr] at HR0 ⊢
    clear hr
    have hr6 := HR0.out.1
    have hr1 := HR0.out.2
    rw [HSL.out] at hr1
    have HR1 := Kept.mk hr1
    clear hr1
    go_wp2_with fail
    refine (balanced_c _ ys _ HU1.out HSB.out (by rw [HSL.out]; omega)).mono ?_
    rintro e w' ⟨rfl, rfl⟩
    rw [HB0.out]
    by_cases hp : 1 ≤ r
    · go_wp2_with fail
      go_ret
      exact ⟨rfl, HB1.out⟩
    · have hn0 : xs.length = 0 := by
        rcases Nat.eq_zero_or_pos xs.length with h | h
        · exact h
        · exact absurd (HR1.out h) hp
      have hq : ((xs.length : Int) == 0) = true := by simp [hn0]
      clear hn0
      go_wp2_with fail
      go_ret
      exact ⟨by first | rfl | simp_all, HB1.out⟩

theorem contractLinecodeBalanced (H : Type) (enc : TypeId × Value → H) (W : World) (base : Nat) (args : Array Value) (ds gs : List (DataW H)) (before : List MemPlace)
    (hval : ∀ (j : Nat) t v, Tryd.f10.params[j]? = some t → args[j]? = some v → Value.okWide Tryd.prog W .any base t v)
    (hW : DataW.Whole enc Tryd.prog Tryd.f10.params.toList Rows.linecodeBalancedSpec.vars false W args.toList ds gs before) (hL : laidMetH Tryd.prog Rows.linecodeBalancedRow.laid W) :
    Calls Tryd.prog 10 args W fun e W' => ∃ v, e = .returned v ∧ Rows.linecodeBalancedSpec.post enc Tryd.prog Tryd.f10 false true false false W args v W' := by
  have hW' := hW
  obtain ⟨p, q, hA0, hV, rfl, hfz, hnd⟩ := hW
  have hA : DataW.TrodAll enc Tryd.prog W 0 (fun _ => true) true Tryd.f10.params.toList args.toList ds p := hA0
  rw [Tryd.params10] at hA hval
  obtain ⟨v0, vs0, d0, ds0, p0, q0, hargs, rfl, rfl, h0, r0⟩ := trodAll_cons hA
  obtain ⟨rfl, rfl, rfl⟩ := trodAll_nil r0
  obtain rfl : args = #[v0] := by cases args; simp_all
  obtain ⟨rfl, rfl⟩ := trodVars_none hV
  have k0 := h0
  have lt0 : ∀ x ∈ p0, x.block < W.heap.size := by obtain ⟨m, hm⟩ := k0; exact DataW.trod_lt m _ _ _ hm
  obtain ⟨a0, len0, cap0, rfl⟩ := okWide_slice Tryd.underlying23 (hval 0 23 v0 rfl rfl)
  obtain ⟨x0, w0, b0⟩ := open_rd h0
  clear hA0
  refine (walkLinecodeBalanced _ x0 W (table hL) w0 b0).mono fun e W' ⟨he, bel⟩ => ?_
  subst he
  exact ⟨_, rfl, _, _, _, [], _, [], hW', trodAll_mk1 (shut_bool Tryd.underlying4 _), (trodAll_cons_mk (Below.trod laidOut (by kernel_rfl) (of_decide_eq_true (by kernel_rfl)) k0 bel lt0) trodAll_mk0), rfl, bel.frame _, fun h => by cases h⟩
theorem laid_metLinecodeBalanced (os : Os) : laidMet Tryd.prog Rows.linecodeBalancedRow.laid ((laidWorld os).forCall (fun _ _ => 0) ⟨#[], #[.slice none 0 0], []⟩).memory :=
  laidMet_of_run' 8 (by kernel_rfl) (by kernel_rfl)
theorem readsLinecodeBalanced (os : Os) {H : Type} (enc : TypeId × Value → H) : ∃ places, DataW.whole enc Tryd.prog ((laidWorld os).forCall (fun _ _ => 0) ⟨#[], #[.slice none 0 0], []⟩).memory Tryd.f10.params.toList Rows.linecodeBalancedSpec.vars false #[Value.slice none 0 0].toList 8 = some ([.nil], [], places) :=
  ⟨[], by kernel_rfl⟩
set_option maxRecDepth 100000 in
theorem liftedLinecodeBalanced (os : Os) (started : os.Started) (H : Type) (enc : TypeId × Value → H) (F : Stop.Interp) :
    ReturnsInHanded {} Tryd.checked os 10 .any ((OpenSpec.ofChange Rows.linecodeBalancedSpec).preRow enc Tryd.prog Tryd.f10 Rows.linecodeBalancedRow.domain false Rows.linecodeBalancedRow.laid) (((OpenSpec.ofChange Rows.linecodeBalancedSpec).at F).post enc Tryd.prog Tryd.f10 false true false false) := by
  obtain ⟨places, hx⟩ := readsLinecodeBalanced os enc
  refine returnsInHanded_of_row (C := Tryd.checked) (s := OpenSpec.ofChange Rows.linecodeBalancedSpec) own started (by kernel_rfl) Tryd.func10
    (witness_row_at (enc := enc) (C := Tryd.checked) false (laidWorld os) #[.slice none 0 0] rfl (by kernel_rfl) (by kernel_rfl) (by kernel_rfl)
      (OpenSpec.preRow_of_cond 8 hx (by kernel_rfl) (fun k hk => by cases hk) (by kernel_rfl) (laid_metLinecodeBalanced os))) ?_
  intro W base args ds gs before hval hW _ _ _ hL _ _
  exact contractLinecodeBalanced H enc W base args ds gs before hval hW hL
theorem saidLinecodeBalanced : Rows.LinecodeBalancedSaid :=
  OpenClaim.holds_of_cond 10 Tryd.f10 rfl rfl rfl rfl rfl rfl rfl ⟨rfl, rfl, rfl, rfl, rfl⟩ rfl rfl rfl rfl rfl (by kernel_rfl) Tryd.func10 (by kernel_rfl)
    (of_decide_eq_true (by kernel_rfl)) (by unfold Func.isWrapper; first | (rw [if_pos (by decide +kernel)]; kernel_rfl) | (rw [if_neg (by decide +kernel)]; exact ⟨rfl, rfl⟩))
    (fun os started H enc _ F => by rw [OpenClaim.pre_eq_preRow]; exact liftedLinecodeBalanced os started H enc F)
theorem plainLinecodeBalanced (f : FuncId) (fn : Func) (hf : Tryd.pinned.checked.prog.funcNamed Rows.linecodeBalancedRow.func = some f) (hfn : Tryd.pinned.checked.prog.funcs[f]? = some fn) :
    false = Tryd.pinned.checked.prog.looks [] ∧ ∀ (j : Nat) t, fn.params[j]? = some t → Tryd.pinned.checked.prog.wantsStandIn t = false := by
  obtain rfl : f = 10 := Option.some.inj ((show Tryd.prog.funcNamed Rows.linecodeBalancedRow.func = some 10 by kernel_rfl).symm.trans hf) |>.symm
  obtain rfl : fn = Tryd.f10 := (Option.some.inj (Tryd.func10.symm.trans hfn)).symm
  refine ⟨by kernel_rfl, fun j t ht => ?_⟩
  rw [Tryd.params10] at ht
  have hm := Array.mem_of_getElem? ht
  simp at hm
  rcases hm with rfl
  · exact (show Tryd.prog.wantsStandIn 23 = false by kernel_rfl)
/-- The given statement. -/
theorem linecodeBalanced_holds : Rows.LinecodeBalancedCardSaid :=
  Claim7.holds_tied_plain_at .later [] _ _ _ _ saidLinecodeBalanced (fun _ h => by cases h) (by kernel_rfl) (fun _ h => by cases h) linecodeBalanced_row_tie rfl ⟨rfl, rfl⟩ (by kernel_rfl) rfl plainLinecodeBalanced (by kernel_rfl)
#print axioms linecodeBalanced_holds
end Go.Proofs.YtkpnggnanacaaaaDoor
