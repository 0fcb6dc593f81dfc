/- For all lists of bytes the statement LinecodeJoins returns true: the encoding of a whole consists of the encodings of its parts. No condition. -/
import Derived.Test.YtkpnggnanacaaaaDoorBase
import Derived.Test.YtkpnggnanacaaaaDoorDecR
import Derived.Test.YtkpnggnanacaaaaDoorApp
namespace Go.Proofs.YtkpnggnanacaaaaDoor
open Go.ChangeShapes Go.WideShapes Go.ChangeAt Go.RowKit
set_option linter.unusedVariables false
set_option linter.unusedSimpArgs false
set_option maxRecDepth 100000 in
set_option maxHeartbeats 4000000 in
theorem walkLinecodeJoins (v0 : Value) (xs : List Int) (v1 : Value) (ys : List Int) (w : World) (ht : Tab w) (hr : Rd w v0 xs) (hx : Byt xs) (hr2 : Rd w v1 ys) (hy : Byt ys) :
    Calls Tryd.prog 8 #[v0, v1] w fun e w' => e = .returned (.bool true) ∧ Below w.heap.size w w' := by
  obtain ⟨i0, hi, hz0, hz1, hz2⟩ := info_parts info5
  have hr' := hr
  obtain ⟨A, cap, rfl, hcap, hmax, -⟩ := hr'
  have hr2' := hr2
  obtain ⟨A2, cap2, rfl, hcap2, hmax2, -⟩ := hr2'
  have HR := hid hr
  have HS := hid hr2
  have HT := hid ht
  clear hr ht hr2
  unfold maxLen at hmax hmax2
  by_cases hl : 100 < xs.length ∨ 100 < ys.length
  · have hl' : 100 < xs.length ∨ xs.length ≤ 100 ∧ 100 < ys.length := by omega
    clear hl
    generalize xs.length = n at *
    generalize ys.length = m at *
    clear HR HS
    rcases hl' with hl | ⟨hl, hl2⟩
    all_goals
      go_enter Tryd.func8, Tryd.ntmps8
      go_wp2_with fail
      refine (awake_c _ HT.out).mono ?_
      rintro e wa ⟨rfl, hba⟩
      have HBA := hid hba
      clear hba
      go_wp2_with fail
      go_ret
      exact ⟨rfl, HBA.out⟩
  · have hl1 : xs.length ≤ 100 := by omega
    have hl2 : ys.length ≤ 100 := by omega
    clear hl
    have HX := hid hx
    have HY := hid hy
    have HI := hid hi
    clear hx hy
    go_enter Tryd.func8, Tryd.ntmps8
    go_wp2_with fail
    refine (awake_c _ HT.out).mono ?_
    rintro e wa ⟨rfl, hba⟩
    have HBA := hid hba
    have HT2 := hid (HT.out.below hba)
    have HR2 := hid (HR.out.below hba)
    have HS2 := hid (HS.out.below hba)
    have hbz := hba.size
    clear hba HT HR HS
    go_wp2_with (first
      | (at_builtin; refine wpList_append_rd _ rfl _ _ 23 rfl wa.heap.size i0 Tryd.underlying23 HI.out hz0 hz1 hz2 (.slice (some ⟨wa.heap.size, 0, none⟩) 0 0) 0 [] rfl (own_empty wa _ (Nat.le_refl _)) _ xs rfl (HR2.out.alloc _) (by omega) (by simp) ?_; intro vA wA hownA hgA; have HBw : Hid (Below wa.heap.size wa wA) := ((Below.refl _ _).alloc (Nat.le_refl _) _).grown hgA (by simp) (fun k hk => by cases hk; exact Nat.le_refl _); have HSA := hid (HS2.out.below HBw.out); have hzA := HBw.out.size)
      | (at_builtin; (refine wpList_append_rd _ rfl _ _ 23 rfl wa.heap.size i0 Tryd.underlying23 HI.out hz0 hz1 hz2 vA (0 + xs.length) ([] ++ xs.map (Value.int .u8)) rfl hownA _ ys rfl HSA.out (by omega) (by omega) ?_; intro vB wB hownB hgB; have HBw2 := hid (HBw.out.grown hgB hzA (fun k hk => (hownA.lt k hk).1)); have HOB := hid (show wB.ownsRow wa.heap.size 5 1 vB (xs.length + ys.length) ((xs ++ ys).map (Value.int .u8)) from by simpa using hownB))))
    obtain ⟨AB, capB, rfl⟩ := own_slice HOB.out
    have HTB := hid (HT2.out.below HBw2.out)
    have HRB := hid (HR2.out.below HBw2.out)
    have HSB := hid (HS2.out.below HBw2.out)
    have HWB := hid (own_rd HOB.out)
    have HBB := hid (join HBA.out HBw2.out)
    clear HOB hownA hownB hgA hgB HBw HBw2 HSA hzA HT2 HR2 HS2 HBA hbz
    go_wp2_with fail
    refine (encode_c _ xs _ (HTB.out.alloc _) (HRB.out.alloc _) HX.out (by omega)).mono ?_
    rintro e w1 ⟨u1, rfl, hO1⟩
    have HB0 : Hid (Below wB.heap.size wB w1) := ((Below.refl _ _).alloc (Nat.le_refl _) _).trans (hO1.2.mono (by simp))
    have HOE : Hid (w1.ownsRow wB.heap.size 5 1 (.slice (some ⟨wB.heap.size, 0, none⟩) 0 0) 0 []) := own_below (own_empty wB _ (Nat.le_refl _)) hO1.2
    have HU1 := hid hO1.rd
    have HT1 := hid (HTB.out.below HB0.out)
    have HS1 := hid (HSB.out.below HB0.out)
    have hz1' := HB0.out.size
    have HL1 := hid (encB_len xs)
    have HL2 := hid (encB_len ys)
    have HEB := hid (encB_app xs ys)
    have HED := hid (dec_enc (xs ++ ys) (HX.out.app HY.out))
    have HEY := hid (encB_byt (xs ++ ys))
    rw [HEB.out] at HED HEY
    clear hO1
    generalize encB xs = ex at *
    generalize hey : encB ys = ey at *
    have HEYS := hid hey
    clear hey
    have hlx : ex.length ≤ 200 := by have := HL1.out; omega
    have hly : ey.length ≤ 200 := by have := HL2.out; omega
    go_wp2_with (at_builtin; refine wpList_append_rd _ rfl _ _ 23 rfl wB.heap.size i0 Tryd.underlying23 HI.out hz0 hz1 hz2 (.slice (some ⟨wB.heap.size, 0, none⟩) 0 0) 0 [] rfl HOE.out _ ex rfl HU1.out (by omega) hz1' ?_; intro vC wC hownC hgC; have HB1 := hid (HB0.out.grown hgC hz1' (fun k hk => by cases hk; exact Nat.le_refl _)); have HOC := hid (show wC.ownsRow wB.heap.size 5 1 vC ex.length (ex.map (Value.int .u8)) from by simpa using hownC))
    have HT3 := hid (HTB.out.below HB1.out)
    have HS3 := hid (HSB.out.below HB1.out)
    have hzC := HB1.out.size
    refine (encode_c _ ys _ HT3.out HS3.out HY.out (by omega)).mono ?_
    rintro e w2 ⟨u2, rfl, hO2⟩
    have HB2 := hid (HB1.out.trans (hO2.2.mono hzC))
    have HOC2 := hid (own_below HOC.out hO2.2)
    have HU2 := hid hO2.rd
    have hz2' := HB2.out.size
    rw [HEYS.out] at HU2
    clear hO2 hownC hgC HOC HT1 HS1 HT3 HS3 HU1 HOE HB0 HB1 hz1' hzC
    go_wp2_with (at_builtin; refine wpList_append_rd _ rfl _ _ 23 rfl wB.heap.size i0 Tryd.underlying23 HI.out hz0 hz1 hz2 vC ex.length (ex.map (Value.int .u8)) rfl HOC2.out _ ey rfl HU2.out (by omega) hz2' ?_; intro vD wD hownD hgD; have HB3 := hid (HB2.out.grown hgD hz2' (fun k hk => (HOC2.out.lt k hk).1)); have HOD := hid (show wD.ownsRow wB.heap.size 5 1 vD (ex.length + ey.length) ((ex ++ ey).map (Value.int .u8)) from by simpa using hownD))
    obtain ⟨AD, capD, rfl⟩ := own_slice HOD.out
    have HT4 := hid (HTB.out.below HB3.out)
    have HW4 := hid (HWB.out.below HB3.out)
    have HD4 := hid (own_rd HOD.out)
    have HB4 := hid (join HBB.out HB3.out)
    clear HB3 HOD hownD hgD HB2 HOC2 HU2 hz2'
    refine (decode_c _ (ex ++ ey) _ HT4.out HD4.out HEY.out (by simp; omega)).mono ?_
    rintro e w3 ⟨u3, rfl, hO3⟩
    obtain ⟨d1, d2, d3⟩ := HED.out
    rw [d1] at hO3
    rw [d2, d3]
    have HT5 := hid (HT4.out.below hO3.2)
    have HW5 := hid (HW4.out.below hO3.2)
    have HD5 := hid (HD4.out.below hO3.2)
    have HU5 := hid hO3.rd
    have HB5 := hid (join HB4.out hO3.2)
    have HXY := hid (HX.out.app HY.out)
    have hlt : (((ex.length : Int) + (ey.length : Int)) == 2 * ((xs.length : Int) + (ys.length : Int))) = true := by
      have h1 := HL1.out
      have h2 := HL2.out
      simp only [beq_iff_eq]
      omega
    have HLT := hid hlt
    clear hO3 d1 d2 d3 HT4 HW4 HD4 HB4 hlt
    go_wp2_with fail
    refine (encode_c _ (xs ++ ys) _ HT5.out HW5.out HXY.out (by simp; omega)).mono ?_
    rintro e w4 ⟨u4, rfl, hO4⟩
    rw [HEB.out] at hO4
    have HW6 := hid (HW5.out.below hO4.2)
    have HD6 := hid (HD5.out.below hO4.2)
    have HU6 := hid (HU5.out.below hO4.2)
    have HU7 := hid hO4.rd
    have HB6 := hid (join HB5.out hO4.2)
    clear hO4 HT5 HW5 HD5 HU5 HB5
    go_wp2_with fail
    refine (same_c _ _ (ex ++ ey) (ex ++ ey) _ HU7.out HD6.out).mono ?_
    rintro e w5 ⟨rfl, hb5⟩
    rw [show sameB (ex ++ ey) (ex ++ ey) = true by simp [sameB]]
    have HW7 := hid (HW6.out.below hb5)
    have HU8 := hid (HU6.out.below hb5)
    have HB7 := hid (join HB6.out hb5)
    clear hb5 HW6 HD6 HU6 HU7 HB6
    go_wp2_with fail
    refine (same_c _ _ (xs ++ ys) (xs ++ ys) _ HU8.out HW7.out).mono ?_
    rintro e w6 ⟨rfl, hb6⟩
    rw [show sameB (xs ++ ys) (xs ++ ys) = true by simp [sameB]]
    have HB8 := hid (join HB7.out hb6)
    have hlt := HLT.out
    clear hb6
    go_wp2_with fail
    go_ret
    exact ⟨by first | rfl | (rw [hlt]) | simp_all, HB8.out⟩

theorem contractLinecodeJoins (H : Type) (enc : TypeId × Value → H) (W : World) (base : Nat) (args : Array Value) (ds gs : List (DataW H)) (before : List MemPlace)
    (hval : ∀ (j : Nat) t v, Tryd.f8.params[j]? = some t → args[j]? = some v → Value.okWide Tryd.prog W .any base t v)
    (hW : DataW.Whole enc Tryd.prog Tryd.f8.params.toList Rows.linecodeJoinsSpec.vars false W args.toList ds gs before) (hL : laidMetH Tryd.prog Rows.linecodeJoinsRow.laid W) :
    Calls Tryd.prog 8 args W fun e W' => ∃ v, e = .returned v ∧ Rows.linecodeJoinsSpec.post enc Tryd.prog Tryd.f8 false true false false W args v W' := by
  have hW' := hW
  obtain ⟨p, q, hA0, hV, rfl, hfz, hnd⟩ := hW
  have hA : DataW.TrodAll enc Tryd.prog W 0 (fun _ => true) true Tryd.f8.params.toList args.toList ds p := hA0
  rw [Tryd.params8] at hA hval
  obtain ⟨v0, vs0, d0, ds0, p0, q0, hargs, rfl, rfl, h0, r0⟩ := trodAll_cons hA
  obtain ⟨v1, vs1, d1, ds1, p1, q1, rfl, rfl, rfl, h1, r1⟩ := trodAll_cons r0
  obtain ⟨rfl, rfl, rfl⟩ := trodAll_nil r1
  obtain rfl : args = #[v0, v1] := by cases args; simp_all
  obtain ⟨rfl, rfl⟩ := trodVars_none hV
  have k0 := h0
  have lt0 : ∀ x ∈ p0, x.block < W.heap.size := by obtain ⟨m, hm⟩ := k0; exact DataW.trod_lt m _ _ _ hm
  have k1 := h1
  have lt1 : ∀ x ∈ p1, x.block < W.heap.size := by obtain ⟨m, hm⟩ := k1; exact DataW.trod_lt m _ _ _ hm
  obtain ⟨a0, len0, cap0, rfl⟩ := okWide_slice Tryd.underlying23 (hval 0 23 v0 rfl rfl)
  obtain ⟨x0, w0, b0⟩ := open_rd h0
  obtain ⟨a1, len1, cap1, rfl⟩ := okWide_slice Tryd.underlying23 (hval 1 23 v1 rfl rfl)
  obtain ⟨x1, w1, b1⟩ := open_rd h1
  clear hA0
  refine (walkLinecodeJoins _ x0 _ x1 W (table hL) w0 b0 w1 b1).mono fun e W' ⟨he, bel⟩ => ?_
  subst he
  exact ⟨_, rfl, _, _, _, [], _, [], hW', trodAll_mk1 (shut_bool Tryd.underlying4 _), (trodAll_cons_mk (Below.trod laidOut (by kernel_rfl) (of_decide_eq_true (by kernel_rfl)) k0 bel lt0) (trodAll_cons_mk (Below.trod laidOut (by kernel_rfl) (of_decide_eq_true (by kernel_rfl)) k1 bel lt1) trodAll_mk0)), rfl, bel.frame _, fun h => by cases h⟩
theorem laid_metLinecodeJoins (os : Os) : laidMet Tryd.prog Rows.linecodeJoinsRow.laid ((laidWorld os).forCall (fun _ _ => 0) ⟨#[], #[.slice none 0 0, .slice none 0 0], []⟩).memory :=
  laidMet_of_run' 8 (by kernel_rfl) (by kernel_rfl)
theorem readsLinecodeJoins (os : Os) {H : Type} (enc : TypeId × Value → H) : ∃ places, DataW.whole enc Tryd.prog ((laidWorld os).forCall (fun _ _ => 0) ⟨#[], #[.slice none 0 0, .slice none 0 0], []⟩).memory Tryd.f8.params.toList Rows.linecodeJoinsSpec.vars false #[Value.slice none 0 0, .slice none 0 0].toList 8 = some ([.nil, .nil], [], places) :=
  ⟨[], by kernel_rfl⟩
set_option maxRecDepth 100000 in
theorem liftedLinecodeJoins (os : Os) (started : os.Started) (H : Type) (enc : TypeId × Value → H) (F : Stop.Interp) :
    ReturnsInHanded {} Tryd.checked os 8 .any ((OpenSpec.ofChange Rows.linecodeJoinsSpec).preRow enc Tryd.prog Tryd.f8 Rows.linecodeJoinsRow.domain false Rows.linecodeJoinsRow.laid) (((OpenSpec.ofChange Rows.linecodeJoinsSpec).at F).post enc Tryd.prog Tryd.f8 false true false false) := by
  obtain ⟨places, hx⟩ := readsLinecodeJoins os enc
  refine returnsInHanded_of_row (C := Tryd.checked) (s := OpenSpec.ofChange Rows.linecodeJoinsSpec) own started (by kernel_rfl) Tryd.func8
    (witness_row_at (enc := enc) (C := Tryd.checked) false (laidWorld os) #[.slice none 0 0, .slice none 0 0] rfl (by kernel_rfl) (by kernel_rfl) (by kernel_rfl)
      (OpenSpec.preRow_of_cond 8 hx (by kernel_rfl) (fun k hk => by cases hk) (by kernel_rfl) (laid_metLinecodeJoins os))) ?_
  intro W base args ds gs before hval hW _ _ _ hL _ _
  exact contractLinecodeJoins H enc W base args ds gs before hval hW hL
theorem saidLinecodeJoins : Rows.LinecodeJoinsSaid :=
  OpenClaim.holds_of_cond 8 Tryd.f8 rfl rfl rfl rfl rfl rfl rfl ⟨rfl, rfl, rfl, rfl, rfl⟩ rfl rfl rfl rfl rfl (by kernel_rfl) Tryd.func8 (by kernel_rfl)
    (of_decide_eq_true (by kernel_rfl)) (by unfold Func.isWrapper; first | (rw [if_pos (by decide +kernel)]; kernel_rfl) | (rw [if_neg (by decide +kernel)]; exact ⟨rfl, rfl⟩))
    (fun os started H enc _ F => by rw [OpenClaim.pre_eq_preRow]; exact liftedLinecodeJoins os started H enc F)
theorem plainLinecodeJoins (f : FuncId) (fn : Func) (hf : Tryd.pinned.checked.prog.funcNamed Rows.linecodeJoinsRow.func = some f) (hfn : Tryd.pinned.checked.prog.funcs[f]? = some fn) :
    false = Tryd.pinned.checked.prog.looks [] ∧ ∀ (j : Nat) t, fn.params[j]? = some t → Tryd.pinned.checked.prog.wantsStandIn t = false := by
  obtain rfl : f = 8 := Option.some.inj ((show Tryd.prog.funcNamed Rows.linecodeJoinsRow.func = some 8 by kernel_rfl).symm.trans hf) |>.symm
  obtain rfl : fn = Tryd.f8 := (Option.some.inj (Tryd.func8.symm.trans hfn)).symm
  refine ⟨by kernel_rfl, fun j t ht => ?_⟩
  rw [Tryd.params8] at ht
  have hm := Array.mem_of_getElem? ht
  simp at hm
  rcases hm with rfl
  · exact (show Tryd.prog.wantsStandIn 23 = false by kernel_rfl)
/-- The given statement. -/
theorem linecodeJoins_holds : Rows.LinecodeJoinsCardSaid :=
  Claim7.holds_tied_plain_at .later [] _ _ _ _ saidLinecodeJoins (fun _ h => by cases h) (by kernel_rfl) (fun _ h => by cases h) linecodeJoins_row_tie rfl ⟨rfl, rfl⟩ (by kernel_rfl) rfl plainLinecodeJoins (by kernel_rfl)
#print axioms linecodeJoins_holds
end Go.Proofs.YtkpnggnanacaaaaDoor
