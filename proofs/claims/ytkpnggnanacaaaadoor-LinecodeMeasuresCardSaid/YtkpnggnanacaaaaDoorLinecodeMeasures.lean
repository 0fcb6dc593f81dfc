/- For every list of symbols the statement LinecodeMeasures returns true: Balanced and Run are the reference. No condition. -/
import Derived.Test.YtkpnggnanacaaaaDoorBase
import Derived.Test.YtkpnggnanacaaaaDoorRunR
namespace Go.Proofs.YtkpnggnanacaaaaDoor
open Go.ChangeShapes Go.WideShapes Go.ChangeAt Go.RowKit
set_option linter.unusedVariables false
set_option linter.unusedSimpArgs false
set_option maxRecDepth 100000 in
set_option maxHeartbeats 1000000 in
theorem walkLinecodeMeasures (v0 : Value) (xs : List Int) (w : World) (ht : Tab w) (hr : Rd w v0 xs) (hx : Byt xs) :
    Calls Tryd.prog 11 #[v0] w fun e w' => e = .returned (.bool true) ∧ Below w.heap.size w w' := by
  have hr' := hr
  obtain ⟨A, cap, rfl, hcap, hmax, -⟩ := hr'
  have HR := hid hr
  have HT := hid ht
  clear hr ht
  unfold maxLen at hmax
  by_cases hl : 200 < xs.length
  · generalize xs.length = n at *
    clear HR
    go_enter Tryd.func11, Tryd.ntmps11
    go_wp2_with fail
    refine (awake_c _ HT.out).mono ?_
    rintro e wa ⟨rfl, hba⟩
    have HBA := hid hba
    clear hba
    go_wp2_with fail
    go_ret
    exact ⟨rfl, HBA.out⟩
  · have hl2 : xs.length ≤ 200 := by omega
    have HX := hid hx
    clear hl hx
    go_enter Tryd.func11, Tryd.ntmps11
    go_wp2_with fail
    refine (awake_c _ HT.out).mono ?_
    rintro e wa ⟨rfl, hba⟩
    have HBA := hid hba
    have HR2 := hid (HR.out.below hba)
    clear hba HT HR
    go_wp2_with fail
    refine (balanced_c _ xs _ HR2.out HX.out (by omega)).mono ?_
    rintro e w' ⟨rfl, rfl⟩
    go_wp2_with fail
    refine (balancedR_c _ xs _ HR2.out HX.out (by omega)).mono ?_
    rintro e w1 ⟨rfl, hb1⟩
    have HB1 := hid (join HBA.out hb1)
    have HR3 := hid (HR2.out.below hb1)
    clear hb1
    generalize balB xs = bb
    cases bb
    all_goals
      go_wp2_with fail
      refine (run_c _ xs _ HR3.out HX.out (by omega)).mono ?_
      rintro e w' ⟨rfl, rfl⟩
      go_wp2_with fail
      refine (runR_c _ xs _ HR3.out HX.out (by omega)).mono ?_
      rintro e w2 ⟨rfl, hb2⟩
      have HB2 := hid (join HB1.out hb2)
      clear hb2
      generalize runB xs = r
      go_wp2_with fail
      go_ret
      exact ⟨by first | rfl | simp, HB2.out⟩

theorem contractLinecodeMeasures (H : Type) (enc : TypeId × Value → H) (W : World) (base : Nat) (args : Array Value) (ds gs : List (DataW H)) (before : List MemPlace)
    (hval : ∀ (j : Nat) t v, Tryd.f11.params[j]? = some t → args[j]? = some v → Value.okWide Tryd.prog W .any base t v)
    (hW : DataW.Whole enc Tryd.prog Tryd.f11.params.toList Rows.linecodeMeasuresSpec.vars false W args.toList ds gs before) (hL : laidMetH Tryd.prog Rows.linecodeMeasuresRow.laid W) :
    Calls Tryd.prog 11 args W fun e W' => ∃ v, e = .returned v ∧ Rows.linecodeMeasuresSpec.post enc Tryd.prog Tryd.f11 false true false false W args v W' := by
  have hW' := hW
  obtain ⟨p, q, hA0, hV, rfl, hfz, hnd⟩ := hW
  have hA : DataW.TrodAll enc Tryd.prog W 0 (fun _ => true) true Tryd.f11.params.toList args.toList ds p := hA0
  rw [Tryd.params11] at hA hval
  obtain ⟨v0, vs0, d0, ds0, p0, q0, hargs, rfl, rfl, h0, r0⟩ := trodAll_cons hA
  obtain ⟨rfl, rfl, rfl⟩ := trodAll_nil r0
  obtain rfl : args = #[v0] := by cases args; simp_all
  obtain ⟨rfl, rfl⟩ := trodVars_none hV
  have k0 := h0
  have lt0 : ∀ x ∈ p0, x.block < W.heap.size := by obtain ⟨m, hm⟩ := k0; exact DataW.trod_lt m _ _ _ hm
  obtain ⟨a0, len0, cap0, rfl⟩ := okWide_slice Tryd.underlying23 (hval 0 23 v0 rfl rfl)
  obtain ⟨x0, w0, b0⟩ := open_rd h0
  clear hA0
  refine (walkLinecodeMeasures _ x0 W (table hL) w0 b0).mono fun e W' ⟨he, bel⟩ => ?_
  subst he
  exact ⟨_, rfl, _, _, _, [], _, [], hW', trodAll_mk1 (shut_bool Tryd.underlying4 _), (trodAll_cons_mk (Below.trod laidOut (by kernel_rfl) (of_decide_eq_true (by kernel_rfl)) k0 bel lt0) trodAll_mk0), rfl, bel.frame _, fun h => by cases h⟩
theorem laid_metLinecodeMeasures (os : Os) : laidMet Tryd.prog Rows.linecodeMeasuresRow.laid ((laidWorld os).forCall (fun _ _ => 0) ⟨#[], #[.slice none 0 0], []⟩).memory :=
  laidMet_of_run' 8 (by kernel_rfl) (by kernel_rfl)
theorem readsLinecodeMeasures (os : Os) {H : Type} (enc : TypeId × Value → H) : ∃ places, DataW.whole enc Tryd.prog ((laidWorld os).forCall (fun _ _ => 0) ⟨#[], #[.slice none 0 0], []⟩).memory Tryd.f11.params.toList Rows.linecodeMeasuresSpec.vars false #[Value.slice none 0 0].toList 8 = some ([.nil], [], places) :=
  ⟨[], by kernel_rfl⟩
set_option maxRecDepth 100000 in
theorem liftedLinecodeMeasures (os : Os) (started : os.Started) (H : Type) (enc : TypeId × Value → H) (F : Stop.Interp) :
    ReturnsInHanded {} Tryd.checked os 11 .any ((OpenSpec.ofChange Rows.linecodeMeasuresSpec).preRow enc Tryd.prog Tryd.f11 Rows.linecodeMeasuresRow.domain false Rows.linecodeMeasuresRow.laid) (((OpenSpec.ofChange Rows.linecodeMeasuresSpec).at F).post enc Tryd.prog Tryd.f11 false true false false) := by
  obtain ⟨places, hx⟩ := readsLinecodeMeasures os enc
  refine returnsInHanded_of_row (C := Tryd.checked) (s := OpenSpec.ofChange Rows.linecodeMeasuresSpec) own started (by kernel_rfl) Tryd.func11
    (witness_row_at (enc := enc) (C := Tryd.checked) false (laidWorld os) #[.slice none 0 0] rfl (by kernel_rfl) (by kernel_rfl) (by kernel_rfl)
      (OpenSpec.preRow_of_cond 8 hx (by kernel_rfl) (fun k hk => by cases hk) (by kernel_rfl) (laid_metLinecodeMeasures os))) ?_
  intro W base args ds gs before hval hW _ _ _ hL _ _
  exact contractLinecodeMeasures H enc W base args ds gs before hval hW hL
theorem saidLinecodeMeasures : Rows.LinecodeMeasuresSaid :=
  OpenClaim.holds_of_cond 11 Tryd.f11 rfl rfl rfl rfl rfl rfl rfl ⟨rfl, rfl, rfl, rfl, rfl⟩ rfl rfl rfl rfl rfl (by kernel_rfl) Tryd.func11 (by kernel_rfl)
    (of_decide_eq_true (by kernel_rfl)) (by unfold Func.isWrapper; first | (rw [if_pos (by decide +kernel)]; kernel_rfl) | (rw [if_neg (by decide +kernel)]; exact ⟨rfl, rfl⟩))
    (fun os started H enc _ F => by rw [OpenClaim.pre_eq_preRow]; exact liftedLinecodeMeasures os started H enc F)
theorem plainLinecodeMeasures (f : FuncId) (fn : Func) (hf : Tryd.pinned.checked.prog.funcNamed Rows.linecodeMeasuresRow.func = some f) (hfn : Tryd.pinned.checked.prog.funcs[f]? = some fn) :
    false = Tryd.pinned.checked.prog.looks [] ∧ ∀ (j : Nat) t, fn.params[j]? = some t → Tryd.pinned.checked.prog.wantsStandIn t = false := by
  obtain rfl : f = 11 := Option.some.inj ((show Tryd.prog.funcNamed Rows.linecodeMeasuresRow.func = some 11 by kernel_rfl).symm.trans hf) |>.symm
  obtain rfl : fn = Tryd.f11 := (Option.some.inj (Tryd.func11.symm.trans hfn)).symm
  refine ⟨by kernel_rfl, fun j t ht => ?_⟩
  rw [Tryd.params11] at ht
  have hm := Array.mem_of_getElem? ht
  simp at hm
  rcases hm with rfl
  · exact (show Tryd.prog.wantsStandIn 23 = false by kernel_rfl)
/-- The given statement. -/
theorem linecodeMeasures_holds : Rows.LinecodeMeasuresCardSaid :=
  Claim7.holds_tied_plain_at .later [] _ _ _ _ saidLinecodeMeasures (fun _ h => by cases h) (by kernel_rfl) (fun _ h => by cases h) linecodeMeasures_row_tie rfl ⟨rfl, rfl⟩ (by kernel_rfl) rfl plainLinecodeMeasures (by kernel_rfl)
#print axioms linecodeMeasures_holds
end Go.Proofs.YtkpnggnanacaaaaDoor
