/- For every list of bytes the statement LinecodeCodes returns true: Encode is the reference, and Decode inverts it. No condition. -/
import Derived.Test.YtkpnggnanacaaaaDoorBase
import Derived.Test.YtkpnggnanacaaaaDoorDec
import Derived.Test.YtkpnggnanacaaaaDoorEncR
namespace Go.Proofs.YtkpnggnanacaaaaDoor
open Go.ChangeShapes Go.WideShapes Go.ChangeAt Go.RowKit
set_option linter.unusedVariables false
set_option linter.unusedSimpArgs false
set_option maxRecDepth 100000 in
set_option maxHeartbeats 2000000 in
theorem walkLinecodeCodes (v0 : Value) (xs : List Int) (w : World) (ht : Tab w) (hr : Rd w v0 xs) (hx : Byt xs) :
    Calls Tryd.prog 6 #[v0] w fun e w' => e = .returned (.bool true) ∧ Below w.heap.size w w' := by
  have hr' := hr
  obtain ⟨A, cap, rfl, hcap, hmax, -⟩ := hr'
  have HR := hid hr
  have HT := hid ht
  clear hr ht
  unfold maxLen at hmax
  by_cases hl : 200 < xs.length
  · generalize xs.length = n at *
    clear HR
    go_enter Tryd.func6, Tryd.ntmps6
    go_wp2_with fail
    refine (awake_c _ HT.out).mono ?_
    rintro e wa ⟨rfl, hba⟩
    have HBA := hid hba
    clear hba
    go_wp2_with fail
    go_ret
    exact ⟨rfl, HBA.out⟩
  · have hl2 : xs.length ≤ 200 := by omega
    clear hl
    have HX := hid hx
    clear hx
    go_enter Tryd.func6, Tryd.ntmps6
    go_wp2_with fail
    refine (awake_c _ HT.out).mono ?_
    rintro e wa ⟨rfl, hba⟩
    have HBA := hid hba
    have HT2 := hid (HT.out.below hba)
    have HR2 := hid (HR.out.below hba)
    clear hba HT HR
    go_wp2_with fail
    refine (encode_c _ xs _ HT2.out HR2.out HX.out (by omega)).mono ?_
    rintro e w1 ⟨u1, rfl, hO1⟩
    have HT3 := hid (HT2.out.below hO1.2)
    have HR3 := hid (HR2.out.below hO1.2)
    have HU1 := hid hO1.rd
    have HB1 := hid (join HBA.out hO1.2)
    clear hO1 HT2 HR2 HBA
    go_wp2_with fail
    refine (decode_c _ (encB xs) _ HT3.out HU1.out (encB_byt xs) (by rw [encB_len]; omega)).mono ?_
    rintro e w2 ⟨u2, rfl, hO2⟩
    obtain ⟨d1, d2, d3⟩ := dec_enc xs HX.out
    rw [d1] at hO2
    rw [d2, d3]
    have HR4 := hid (HR3.out.below hO2.2)
    have HU3 := hid (HU1.out.below hO2.2)
    have HU2 := hid hO2.rd
    have HB2 := hid (join HB1.out hO2.2)
    clear hO2 HT3 HR3 HU1 HB1 d1 d2 d3
    go_wp2_with fail
    refine (encodeR_c _ xs _ HR4.out HX.out (by omega)).mono ?_
    rintro e w3 ⟨u3, rfl, hO3⟩
    have HR5 := hid (HR4.out.below hO3.2)
    have HU4 := hid (HU3.out.below hO3.2)
    have HU5 := hid (HU2.out.below hO3.2)
    have HU6 := hid hO3.rd
    have HB3 := hid (join HB2.out hO3.2)
    clear hO3 HR4 HU3 HU2 HB2
    go_wp2_with fail
    refine (same_c _ _ (encB xs) (encB xs) _ HU4.out HU6.out).mono ?_
    rintro e w4 ⟨rfl, hb4⟩
    rw [show sameB (encB xs) (encB xs) = true by simp [sameB]]
    have HR6 := hid (HR5.out.below hb4)
    have HU7 := hid (HU5.out.below hb4)
    have HB4 := hid (join HB3.out hb4)
    clear hb4 HR5 HU4 HU5 HU6 HB3
    go_wp2_with fail
    refine (same_c _ _ xs xs _ HU7.out HR6.out).mono ?_
    rintro e w5 ⟨rfl, hb5⟩
    rw [show sameB xs xs = true by simp [sameB]]
    have HB5 := hid (join HB4.out hb5)
    clear hb5
    go_wp2_with fail
    go_ret
    exact ⟨rfl, HB5.out⟩

theorem contractLinecodeCodes (H : Type) (enc : TypeId × Value → H) (W : World) (base : Nat) (args : Array Value) (ds gs : List (DataW H)) (before : List MemPlace)
    (hval : ∀ (j : Nat) t v, Tryd.f6.params[j]? = some t → args[j]? = some v → Value.okWide Tryd.prog W .any base t v)
    (hW : DataW.Whole enc Tryd.prog Tryd.f6.params.toList Rows.linecodeCodesSpec.vars false W args.toList ds gs before) (hL : laidMetH Tryd.prog Rows.linecodeCodesRow.laid W) :
    Calls Tryd.prog 6 args W fun e W' => ∃ v, e = .returned v ∧ Rows.linecodeCodesSpec.post enc Tryd.prog Tryd.f6 false true false false W args v W' := by
  have hW' := hW
  obtain ⟨p, q, hA0, hV, rfl, hfz, hnd⟩ := hW
  have hA : DataW.TrodAll enc Tryd.prog W 0 (fun _ => true) true Tryd.f6.params.toList args.toList ds p := hA0
  rw [Tryd.params6] at hA hval
  obtain ⟨v0, vs0, d0, ds0, p0, q0, hargs, rfl, rfl, h0, r0⟩ := trodAll_cons hA
  obtain ⟨rfl, rfl, rfl⟩ := trodAll_nil r0
  obtain rfl : args = #[v0] := by cases args; simp_all
  obtain ⟨rfl, rfl⟩ := trodVars_none hV
  have k0 := h0
  have lt0 : ∀ x ∈ p0, x.block < W.heap.size := by obtain ⟨m, hm⟩ := k0; exact DataW.trod_lt m _ _ _ hm
  obtain ⟨a0, len0, cap0, rfl⟩ := okWide_slice Tryd.underlying23 (hval 0 23 v0 rfl rfl)
  obtain ⟨x0, w0, b0⟩ := open_rd h0
  clear hA0
  refine (walkLinecodeCodes _ x0 W (table hL) w0 b0).mono fun e W' ⟨he, bel⟩ => ?_
  subst he
  exact ⟨_, rfl, _, _, _, [], _, [], hW', trodAll_mk1 (shut_bool Tryd.underlying4 _), (trodAll_cons_mk (Below.trod laidOut (by kernel_rfl) (of_decide_eq_true (by kernel_rfl)) k0 bel lt0) trodAll_mk0), rfl, bel.frame _, fun h => by cases h⟩
theorem laid_metLinecodeCodes (os : Os) : laidMet Tryd.prog Rows.linecodeCodesRow.laid ((laidWorld os).forCall (fun _ _ => 0) ⟨#[], #[.slice none 0 0], []⟩).memory :=
  laidMet_of_run' 8 (by kernel_rfl) (by kernel_rfl)
theorem readsLinecodeCodes (os : Os) {H : Type} (enc : TypeId × Value → H) : ∃ places, DataW.whole enc Tryd.prog ((laidWorld os).forCall (fun _ _ => 0) ⟨#[], #[.slice none 0 0], []⟩).memory Tryd.f6.params.toList Rows.linecodeCodesSpec.vars false #[Value.slice none 0 0].toList 8 = some ([.nil], [], places) :=
  ⟨[], by kernel_rfl⟩
set_option maxRecDepth 100000 in
theorem liftedLinecodeCodes (os : Os) (started : os.Started) (H : Type) (enc : TypeId × Value → H) (F : Stop.Interp) :
    ReturnsInHanded {} Tryd.checked os 6 .any ((OpenSpec.ofChange Rows.linecodeCodesSpec).preRow enc Tryd.prog Tryd.f6 Rows.linecodeCodesRow.domain false Rows.linecodeCodesRow.laid) (((OpenSpec.ofChange Rows.linecodeCodesSpec).at F).post enc Tryd.prog Tryd.f6 false true false false) := by
  obtain ⟨places, hx⟩ := readsLinecodeCodes os enc
  refine returnsInHanded_of_row (C := Tryd.checked) (s := OpenSpec.ofChange Rows.linecodeCodesSpec) own started (by kernel_rfl) Tryd.func6
    (witness_row_at (enc := enc) (C := Tryd.checked) false (laidWorld os) #[.slice none 0 0] rfl (by kernel_rfl) (by kernel_rfl) (by kernel_rfl)
      (OpenSpec.preRow_of_cond 8 hx (by kernel_rfl) (fun k hk => by cases hk) (by kernel_rfl) (laid_metLinecodeCodes os))) ?_
  intro W base args ds gs before hval hW _ _ _ hL _ _
  exact contractLinecodeCodes H enc W base args ds gs before hval hW hL
theorem saidLinecodeCodes : Rows.LinecodeCodesSaid :=
  OpenClaim.holds_of_cond 6 Tryd.f6 rfl rfl rfl rfl rfl rfl rfl ⟨rfl, rfl, rfl, rfl, rfl⟩ rfl rfl rfl rfl rfl (by kernel_rfl) Tryd.func6 (by kernel_rfl)
    (of_decide_eq_true (by kernel_rfl)) (by unfold Func.isWrapper; first | (rw [if_pos (by decide +kernel)]; kernel_rfl) | (rw [if_neg (by decide +kernel)]; exact ⟨rfl, rfl⟩))
    (fun os started H enc _ F => by rw [OpenClaim.pre_eq_preRow]; exact liftedLinecodeCodes os started H enc F)
theorem plainLinecodeCodes (f : FuncId) (fn : Func) (hf : Tryd.pinned.checked.prog.funcNamed Rows.linecodeCodesRow.func = some f) (hfn : Tryd.pinned.checked.prog.funcs[f]? = some fn) :
    false = Tryd.pinned.checked.prog.looks [] ∧ ∀ (j : Nat) t, fn.params[j]? = some t → Tryd.pinned.checked.prog.wantsStandIn t = false := by
  obtain rfl : f = 6 := Option.some.inj ((show Tryd.prog.funcNamed Rows.linecodeCodesRow.func = some 6 by kernel_rfl).symm.trans hf) |>.symm
  obtain rfl : fn = Tryd.f6 := (Option.some.inj (Tryd.func6.symm.trans hfn)).symm
  refine ⟨by kernel_rfl, fun j t ht => ?_⟩
  rw [Tryd.params6] at ht
  have hm := Array.mem_of_getElem? ht
  simp at hm
  rcases hm with rfl
  · exact (show Tryd.prog.wantsStandIn 23 = false by kernel_rfl)
/-- The given statement. -/
theorem linecodeCodes_holds : Rows.LinecodeCodesCardSaid :=
  Claim7.holds_tied_plain_at .later [] _ _ _ _ saidLinecodeCodes (fun _ h => by cases h) (by kernel_rfl) (fun _ h => by cases h) linecodeCodes_row_tie rfl ⟨rfl, rfl⟩ (by kernel_rfl) rfl plainLinecodeCodes (by kernel_rfl)
#print axioms linecodeCodes_holds
end Go.Proofs.YtkpnggnanacaaaaDoor
