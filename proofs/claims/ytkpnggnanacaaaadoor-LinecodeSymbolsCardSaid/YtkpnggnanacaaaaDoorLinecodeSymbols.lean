/- For every number and every symbol the statement LinecodeSymbols returns true: Data, Control and Value are what the reference says. No condition. -/
import Derived.Test.YtkpnggnanacaaaaDoorBase
namespace Go.Proofs.YtkpnggnanacaaaaDoor
open Go.ChangeShapes Go.WideShapes Go.ChangeAt Go.RowKit
set_option linter.unusedVariables false
set_option linter.unusedSimpArgs false
/-- A fact that no search opens. -/
structure Kept (p : Prop) : Prop where
  out : p
set_option maxRecDepth 100000 in
set_option maxHeartbeats 4000000 in
theorem walkLinecodeSymbols (a0 a1 : Int) (w : World) (ht : Tab w) (w0 : (Lit.int .i64 a0).wf = true) (w1 : (Lit.int .u8 a1).wf = true) :
    Calls Tryd.prog 3 #[.int .i64 a0, .int .u8 a1] w fun e w' => e = .returned (.bool true) ∧ Below w.heap.size w w' := by
  obtain ⟨b1, b2⟩ := bounds_u8 w1
  obtain ⟨b3, b4⟩ := bounds_i64 w0
  have HT := hid ht
  have hix := idx_le a1
  clear ht w0 w1
  obtain ⟨ix, hixe⟩ : ∃ i, idx a1 = i := ⟨_, rfl⟩
  rw [hixe] at hix
  have V1 := Kept.mk (show ix < 16 → valV a1 = ix ∧ valC a1 = false ∧ valE a1 = 0 ∧ indexV a1 = ix from fun h => ⟨by unfold valV; rw [hixe, if_pos h], by unfold valC; rw [hixe]; simp; omega, by unfold valE; rw [hixe, if_pos (by omega)], by unfold indexV; rw [hixe, if_pos (by omega)]⟩)
  have V2 := Kept.mk (show 16 ≤ ix → ix < 20 → valV a1 = ix - 16 ∧ valC a1 = true ∧ valE a1 = 0 ∧ indexV a1 = ix from fun h h2 => ⟨by unfold valV; rw [hixe, if_neg (by omega), if_pos h2], by unfold valC; rw [hixe]; simp; omega, by unfold valE; rw [hixe, if_pos (by omega)], by unfold indexV; rw [hixe, if_pos (by omega)]⟩)
  have V3 := Kept.mk (show ¬ ix < 20 → valV a1 = 0 ∧ valC a1 = false ∧ valE a1 = 3 ∧ indexV a1 = -1 from fun h => ⟨by unfold valV; rw [hixe, if_neg (by omega), if_neg (by omega)], by unfold valC; rw [hixe]; simp; omega, by unfold valE; rw [hixe, if_neg (by omega)], by unfold indexV; rw [hixe, if_neg (by omega)]⟩)
  clear hixe
  go_enter Tryd.func3, Tryd.ntmps3
  go_wp2_with fail
  refine (awake_c _ HT.out).mono ?_
  rintro e wa ⟨rfl, hba⟩
  have HBA := hid hba
  have HT2 := hid (HT.out.below hba)
  clear hba HT
  go_wp2_with fail
  refine (symbols_c _).mono ?_
  rintro e wb ⟨v, rfl, hown, hb⟩
  obtain ⟨g, cap, rfl, hg, hgl, hcap, hcell⟩ := own_form hown (by decide)
  have HS0 := Kept.mk (show ∀ j, j < 20 → wb.cell? ⟨g, j, none⟩ = some (.int .u8 (T.getD j 0)) from fun j hj => hcell j _ (by rw [List.getElem?_map, getD_at (show j < T.length from hj)]; rfl))
  have HT3 := hid (HT2.out.below hb)
  have HB := hid (join HBA.out hb)
  rw [T_len] at hcap ⊢
  clear hown hb hcell HBA HT2
  go_wp2_with fail
  refine (data_c _ _ HT3.out).mono ?_
  rintro e w' ⟨rfl, rfl⟩
  obtain ⟨dv, hdv⟩ : ∃ x, dataV a0 = x := ⟨_, rfl⟩
  obtain ⟨de, hde⟩ : ∃ x, dataE a0 = x := ⟨_, rfl⟩
  rw [hdv, hde]
  have HDV := Kept.mk hdv
  have HDE := Kept.mk hde
  clear hdv hde
  go_wp2_with fail
  refine (ctrl_c _ _ HT3.out).mono ?_
  rintro e w' ⟨rfl, rfl⟩
  obtain ⟨cv, hcv⟩ : ∃ x, ctrlV a0 = x := ⟨_, rfl⟩
  obtain ⟨ce, hce⟩ : ∃ x, ctrlE a0 = x := ⟨_, rfl⟩
  rw [hcv, hce]
  have HCV := Kept.mk hcv
  have HCE := Kept.mk hce
  clear hcv hce
  rcases (by omega : (0 ≤ a0 ∧ a0 < 4) ∨ (4 ≤ a0 ∧ a0 < 16) ∨ a0 < 0 ∨ 16 ≤ a0) with ⟨c1, c2⟩ | ⟨c1, c2⟩ | c1 | c1
  · obtain ⟨m, rfl⟩ := Int.eq_ofNat_of_zero_le c1
    have t1 := HS0.out m (by omega)
    have t2 := HS0.out (16 + m) (by omega)
    have e1 : dv = T.getD m 0 := by rw [← HDV.out]; unfold dataV; rw [if_pos (by omega)]; rfl
    have e2 : de = 0 := by rw [← HDE.out]; unfold dataE; rw [if_pos (by omega)]
    have e3 : cv = T.getD (16 + m) 0 := by rw [← HCV.out]; unfold ctrlV; rw [if_pos (by omega)]; congr 1
    have e4 : ce = 0 := by rw [← HCE.out]; unfold ctrlE; rw [if_pos (by omega)]
    clear HDV HDE HCV HCE
    subst e2 e4
    rw [← e1] at t1
    rw [← e3] at t2
    clear e1 e3
    rcases (by omega : ix < 16 ∨ (16 ≤ ix ∧ ix < 20) ∨ ¬ ix < 20) with h | ⟨h, h'⟩ | h
    · obtain ⟨v1, v2, v3, v4⟩ := V1.out h
      have K1 := Kept.mk v1
      have K2 := Kept.mk v2
      have K3 := Kept.mk v3
      have K4 := Kept.mk v4
      clear v1 v2 v3 v4
      go_wp2_with fail
      refine (value_c _ _ HT3.out (by omega) (by omega)).mono ?_
      rintro e w' ⟨rfl, rfl⟩
      rw [K1.out, K2.out, K3.out]
      go_wp2_with fail
      refine (index_c _ _ (by omega) (by omega)).mono ?_
      rintro e w2 ⟨rfl, hb2⟩
      rw [K4.out]
      have HB2 := hid (join HB.out hb2)
      clear hb2
      go_wp2_with fail
      go_ret
      exact ⟨by first | rfl | simp, HB2.out⟩
    · obtain ⟨v1, v2, v3, v4⟩ := V2.out h h'
      have K1 := Kept.mk v1
      have K2 := Kept.mk v2
      have K3 := Kept.mk v3
      have K4 := Kept.mk v4
      clear v1 v2 v3 v4
      go_wp2_with fail
      refine (value_c _ _ HT3.out (by omega) (by omega)).mono ?_
      rintro e w' ⟨rfl, rfl⟩
      rw [K1.out, K2.out, K3.out]
      go_wp2_with fail
      refine (index_c _ _ (by omega) (by omega)).mono ?_
      rintro e w2 ⟨rfl, hb2⟩
      rw [K4.out]
      have HB2 := hid (join HB.out hb2)
      clear hb2
      go_wp2_with fail
      go_ret
      exact ⟨by first | rfl | simp, HB2.out⟩
    · obtain ⟨v1, v2, v3, v4⟩ := V3.out h
      have K1 := Kept.mk v1
      have K2 := Kept.mk v2
      have K3 := Kept.mk v3
      have K4 := Kept.mk v4
      clear v1 v2 v3 v4
      go_wp2_with fail
      refine (value_c _ _ HT3.out (by omega) (by omega)).mono ?_
      rintro e w' ⟨rfl, rfl⟩
      rw [K1.out, K2.out, K3.out]
      go_wp2_with fail
      refine (index_c _ _ (by omega) (by omega)).mono ?_
      rintro e w2 ⟨rfl, hb2⟩
      rw [K4.out]
      have HB2 := hid (join HB.out hb2)
      clear hb2
      go_wp2_with fail
      go_ret
      exact ⟨by first | rfl | simp, HB2.out⟩
  · obtain ⟨m, rfl⟩ := Int.eq_ofNat_of_zero_le (show 0 ≤ a0 by omega)
    have t1 := HS0.out m (by omega)
    have e1 : dv = T.getD m 0 := by rw [← HDV.out]; unfold dataV; rw [if_pos (by omega)]; rfl
    have e2 : de = 0 := by rw [← HDE.out]; unfold dataE; rw [if_pos (by omega)]
    have e3 : cv = 0 := by rw [← HCV.out]; unfold ctrlV; rw [if_neg (by omega)]
    have e4 : ce = 2 := by rw [← HCE.out]; unfold ctrlE; rw [if_neg (by omega)]
    clear HDV HDE HCV HCE
    subst e2 e3 e4
    rw [← e1] at t1
    clear e1
    rcases (by omega : ix < 16 ∨ (16 ≤ ix ∧ ix < 20) ∨ ¬ ix < 20) with h | ⟨h, h'⟩ | h
    · obtain ⟨v1, v2, v3, v4⟩ := V1.out h
      have K1 := Kept.mk v1
      have K2 := Kept.mk v2
      have K3 := Kept.mk v3
      have K4 := Kept.mk v4
      clear v1 v2 v3 v4
      go_wp2_with fail
      refine (value_c _ _ HT3.out (by omega) (by omega)).mono ?_
      rintro e w' ⟨rfl, rfl⟩
      rw [K1.out, K2.out, K3.out]
      go_wp2_with fail
      refine (index_c _ _ (by omega) (by omega)).mono ?_
      rintro e w2 ⟨rfl, hb2⟩
      rw [K4.out]
      have HB2 := hid (join HB.out hb2)
      clear hb2
      go_wp2_with fail
      go_ret
      exact ⟨by first | rfl | simp, HB2.out⟩
    · obtain ⟨v1, v2, v3, v4⟩ := V2.out h h'
      have K1 := Kept.mk v1
      have K2 := Kept.mk v2
      have K3 := Kept.mk v3
      have K4 := Kept.mk v4
      clear v1 v2 v3 v4
      go_wp2_with fail
      refine (value_c _ _ HT3.out (by omega) (by omega)).mono ?_
      rintro e w' ⟨rfl, rfl⟩
      rw [K1.out, K2.out, K3.out]
      go_wp2_with fail
      refine (index_c _ _ (by omega) (by omega)).mono ?_
      rintro e w2 ⟨rfl, hb2⟩
      rw [K4.out]
      have HB2 := hid (join HB.out hb2)
      clear hb2
      go_wp2_with fail
      go_ret
      exact ⟨by first | rfl | simp, HB2.out⟩
    · obtain ⟨v1, v2, v3, v4⟩ := V3.out h
      have K1 := Kept.mk v1
      have K2 := Kept.mk v2
      have K3 := Kept.mk v3
      have K4 := Kept.mk v4
      clear v1 v2 v3 v4
      go_wp2_with fail
      refine (value_c _ _ HT3.out (by omega) (by omega)).mono ?_
      rintro e w' ⟨rfl, rfl⟩
      rw [K1.out, K2.out, K3.out]
      go_wp2_with fail
      refine (index_c _ _ (by omega) (by omega)).mono ?_
      rintro e w2 ⟨rfl, hb2⟩
      rw [K4.out]
      have HB2 := hid (join HB.out hb2)
      clear hb2
      go_wp2_with fail
      go_ret
      exact ⟨by first | rfl | simp, HB2.out⟩
  · have e1 : dv = 0 := by rw [← HDV.out]; unfold dataV; rw [if_neg (by omega)]
    have e2 : de = 2 := by rw [← HDE.out]; unfold dataE; rw [if_neg (by omega)]
    have e3 : cv = 0 := by rw [← HCV.out]; unfold ctrlV; rw [if_neg (by omega)]
    have e4 : ce = 2 := by rw [← HCE.out]; unfold ctrlE; rw [if_neg (by omega)]
    clear HDV HDE HCV HCE
    subst e1 e2 e3 e4
    rcases (by omega : ix < 16 ∨ (16 ≤ ix ∧ ix < 20) ∨ ¬ ix < 20) with h | ⟨h, h'⟩ | h
    · obtain ⟨v1, v2, v3, v4⟩ := V1.out h
      have K1 := Kept.mk v1
      have K2 := Kept.mk v2
      have K3 := Kept.mk v3
      have K4 := Kept.mk v4
      clear v1 v2 v3 v4
      go_wp2_with fail
      refine (value_c _ _ HT3.out (by omega) (by omega)).mono ?_
      rintro e w' ⟨rfl, rfl⟩
      rw [K1.out, K2.out, K3.out]
      go_wp2_with fail
      refine (index_c _ _ (by omega) (by omega)).mono ?_
      rintro e w2 ⟨rfl, hb2⟩
      rw [K4.out]
      have HB2 := hid (join HB.out hb2)
      clear hb2
      go_wp2_with fail
      go_ret
      exact ⟨by first | rfl | simp, HB2.out⟩
    · obtain ⟨v1, v2, v3, v4⟩ := V2.out h h'
      have K1 := Kept.mk v1
      have K2 := Kept.mk v2
      have K3 := Kept.mk v3
      have K4 := Kept.mk v4
      clear v1 v2 v3 v4
      go_wp2_with fail
      refine (value_c _ _ HT3.out (by omega) (by omega)).mono ?_
      rintro e w' ⟨rfl, rfl⟩
      rw [K1.out, K2.out, K3.out]
      go_wp2_with fail
      refine (index_c _ _ (by omega) (by omega)).mono ?_
      rintro e w2 ⟨rfl, hb2⟩
      rw [K4.out]
      have HB2 := hid (join HB.out hb2)
      clear hb2
      go_wp2_with fail
      go_ret
      exact ⟨by first | rfl | simp, HB2.out⟩
    · obtain ⟨v1, v2, v3, v4⟩ := V3.out h
      have K1 := Kept.mk v1
      have K2 := Kept.mk v2
      have K3 := Kept.mk v3
      have K4 := Kept.mk v4
      clear v1 v2 v3 v4
      go_wp2_with fail
      refine (value_c _ _ HT3.out (by omega) (by omega)).mono ?_
      rintro e w' ⟨rfl, rfl⟩
      rw [K1.out, K2.out, K3.out]
      go_wp2_with fail
      refine (index_c _ _ (by omega) (by omega)).mono ?_
      rintro e w2 ⟨rfl, hb2⟩
      rw [K4.out]
      have HB2 := hid (join HB.out hb2)
      clear hb2
      go_wp2_with fail
      go_ret
      exact ⟨by first | rfl | simp, HB2.out⟩
  · have e1 : dv = 0 := by rw [← HDV.out]; unfold dataV; rw [if_neg (by omega)]
    have e2 : de = 2 := by rw [← HDE.out]; unfold dataE; rw [if_neg (by omega)]
    have e3 : cv = 0 := by rw [← HCV.out]; unfold ctrlV; rw [if_neg (by omega)]
    have e4 : ce = 2 := by rw [← HCE.out]; unfold ctrlE; rw [if_neg (by omega)]
    clear HDV HDE HCV HCE
    subst e1 e2 e3 e4
    rcases (by omega : ix < 16 ∨ (16 ≤ ix ∧ ix < 20) ∨ ¬ ix < 20) with h | ⟨h, h'⟩ | h
    · obtain ⟨v1, v2, v3, v4⟩ := V1.out h
      have K1 := Kept.mk v1
      have K2 := Kept.mk v2
      have K3 := Kept.mk v3
      have K4 := Kept.mk v4
      clear v1 v2 v3 v4
      go_wp2_with fail
      refine (value_c _ _ HT3.out (by omega) (by omega)).mono ?_
      rintro e w' ⟨rfl, rfl⟩
      rw [K1.out, K2.out, K3.out]
      go_wp2_with fail
      refine (index_c _ _ (by omega) (by omega)).mono ?_
      rintro e w2 ⟨rfl, hb2⟩
      rw [K4.out]
      have HB2 := hid (join HB.out hb2)
      clear hb2
      go_wp2_with fail
      go_ret
      exact ⟨by first | rfl | simp, HB2.out⟩
    · obtain ⟨v1, v2, v3, v4⟩ := V2.out h h'
      have K1 := Kept.mk v1
      have K2 := Kept.mk v2
      have K3 := Kept.mk v3
      have K4 := Kept.mk v4
      clear v1 v2 v3 v4
      go_wp2_with fail
      refine (value_c _ _ HT3.out (by omega) (by omega)).mono ?_
      rintro e w' ⟨rfl, rfl⟩
      rw [K1.out, K2.out, K3.out]
      go_wp2_with fail
      refine (index_c _ _ (by omega) (by omega)).mono ?_
      rintro e w2 ⟨rfl, hb2⟩
      rw [K4.out]
      have HB2 := hid (join HB.out hb2)
      clear hb2
      go_wp2_with fail
      go_ret
      exact ⟨by first | rfl | simp, HB2.out⟩
    · obtain ⟨v1, v2, v3, v4⟩ := V3.out h
      have K1 := Kept.mk v1
      have K2 := Kept.mk v2
      have K3 := Kept.mk v3
      have K4 := Kept.mk v4
      clear v1 v2 v3 v4
      go_wp2_with fail
      refine (value_c _ _ HT3.out (by omega) (by omega)).mono ?_
      rintro e w' ⟨rfl, rfl⟩
      rw [K1.out, K2.out, K3.out]
      go_wp2_with fail
      refine (index_c _ _ (by omega) (by omega)).mono ?_
      rintro e w2 ⟨rfl, hb2⟩
      rw [K4.out]
      have HB2 := hid (join HB.out hb2)
      clear hb2
      go_wp2_with fail
      go_ret
      exact ⟨by first | rfl | simp, HB2.out⟩

theorem contractLinecodeSymbols (H : Type) (enc : TypeId × Value → H) (W : World) (base : Nat) (args : Array Value) (ds gs : List (DataW H)) (before : List MemPlace)
    (hval : ∀ (j : Nat) t v, Tryd.f3.params[j]? = some t → args[j]? = some v → Value.okWide Tryd.prog W .any base t v)
    (hW : DataW.Whole enc Tryd.prog Tryd.f3.params.toList Rows.linecodeSymbolsSpec.vars false W args.toList ds gs before) (hL : laidMetH Tryd.prog Rows.linecodeSymbolsRow.laid W) :
    Calls Tryd.prog 3 args W fun e W' => ∃ v, e = .returned v ∧ Rows.linecodeSymbolsSpec.post enc Tryd.prog Tryd.f3 false true false false W args v W' := by
  have hW' := hW
  obtain ⟨p, q, hA0, hV, rfl, hfz, hnd⟩ := hW
  have hA : DataW.TrodAll enc Tryd.prog W 0 (fun _ => true) true Tryd.f3.params.toList args.toList ds p := hA0
  rw [Tryd.params3] at hA hval
  obtain ⟨v0, vs0, d0, ds0, p0, q0, hargs, rfl, rfl, h0, r0⟩ := trodAll_cons hA
  obtain ⟨v1, vs1, d1, ds1, p1, q1, rfl, rfl, rfl, h1, r1⟩ := trodAll_cons r0
  obtain ⟨rfl, rfl, rfl⟩ := trodAll_nil r1
  obtain rfl : args = #[v0, v1] := by cases args; simp_all
  obtain ⟨rfl, rfl⟩ := trodVars_none hV
  have k0 := h0
  have lt0 : ∀ x ∈ p0, x.block < W.heap.size := by obtain ⟨m, hm⟩ := k0; exact DataW.trod_lt m _ _ _ hm
  have k1 := h1
  have lt1 : ∀ x ∈ p1, x.block < W.heap.size := by obtain ⟨m, hm⟩ := k1; exact DataW.trod_lt m _ _ _ hm
  obtain ⟨a0, rfl, -, -, w0⟩ := open_int Tryd.underlying3 (hval 0 3 v0 rfl rfl) h0
  obtain ⟨a1, rfl, -, -, w1⟩ := open_int Tryd.underlying5 (hval 1 5 v1 rfl rfl) h1
  clear hA0
  refine (walkLinecodeSymbols a0 a1 W (table hL) w0 w1).mono fun e W' ⟨he, bel⟩ => ?_
  subst he
  exact ⟨_, rfl, _, _, _, [], _, [], hW', trodAll_mk1 (shut_bool Tryd.underlying4 _), (trodAll_cons_mk (Below.trod laidOut (by kernel_rfl) (of_decide_eq_true (by kernel_rfl)) k0 bel lt0) (trodAll_cons_mk (Below.trod laidOut (by kernel_rfl) (of_decide_eq_true (by kernel_rfl)) k1 bel lt1) trodAll_mk0)), rfl, bel.frame _, fun h => by cases h⟩
theorem laid_metLinecodeSymbols (os : Os) : laidMet Tryd.prog Rows.linecodeSymbolsRow.laid ((laidWorld os).forCall (fun _ _ => 0) ⟨#[], #[.int .i64 0, .int .u8 0], []⟩).memory :=
  laidMet_of_run' 8 (by kernel_rfl) (by kernel_rfl)
theorem readsLinecodeSymbols (os : Os) {H : Type} (enc : TypeId × Value → H) : ∃ places, DataW.whole enc Tryd.prog ((laidWorld os).forCall (fun _ _ => 0) ⟨#[], #[.int .i64 0, .int .u8 0], []⟩).memory Tryd.f3.params.toList Rows.linecodeSymbolsSpec.vars false #[Value.int .i64 0, .int .u8 0].toList 8 = some ([.lit (.int .i64 0), .lit (.int .u8 0)], [], places) :=
  ⟨[], by kernel_rfl⟩
set_option maxRecDepth 100000 in
theorem liftedLinecodeSymbols (os : Os) (started : os.Started) (H : Type) (enc : TypeId × Value → H) (F : Stop.Interp) :
    ReturnsInHanded {} Tryd.checked os 3 .any ((OpenSpec.ofChange Rows.linecodeSymbolsSpec).preRow enc Tryd.prog Tryd.f3 Rows.linecodeSymbolsRow.domain false Rows.linecodeSymbolsRow.laid) (((OpenSpec.ofChange Rows.linecodeSymbolsSpec).at F).post enc Tryd.prog Tryd.f3 false true false false) := by
  obtain ⟨places, hx⟩ := readsLinecodeSymbols os enc
  refine returnsInHanded_of_row (C := Tryd.checked) (s := OpenSpec.ofChange Rows.linecodeSymbolsSpec) own started (by kernel_rfl) Tryd.func3
    (witness_row_at (enc := enc) (C := Tryd.checked) false (laidWorld os) #[.int .i64 0, .int .u8 0] rfl (by kernel_rfl) (by kernel_rfl) (by kernel_rfl)
      (OpenSpec.preRow_of_cond 8 hx (by kernel_rfl) (fun k hk => by cases hk) (by kernel_rfl) (laid_metLinecodeSymbols os))) ?_
  intro W base args ds gs before hval hW _ _ _ hL _ _
  exact contractLinecodeSymbols H enc W base args ds gs before hval hW hL
theorem saidLinecodeSymbols : Rows.LinecodeSymbolsSaid :=
  OpenClaim.holds_of_cond 3 Tryd.f3 rfl rfl rfl rfl rfl rfl rfl ⟨rfl, rfl, rfl, rfl, rfl⟩ rfl rfl rfl rfl rfl (by kernel_rfl) Tryd.func3 (by kernel_rfl)
    (of_decide_eq_true (by kernel_rfl)) (by unfold Func.isWrapper; first | (rw [if_pos (by decide +kernel)]; kernel_rfl) | (rw [if_neg (by decide +kernel)]; exact ⟨rfl, rfl⟩))
    (fun os started H enc _ F => by rw [OpenClaim.pre_eq_preRow]; exact liftedLinecodeSymbols os started H enc F)
theorem plainLinecodeSymbols (f : FuncId) (fn : Func) (hf : Tryd.pinned.checked.prog.funcNamed Rows.linecodeSymbolsRow.func = some f) (hfn : Tryd.pinned.checked.prog.funcs[f]? = some fn) :
    false = Tryd.pinned.checked.prog.looks [] ∧ ∀ (j : Nat) t, fn.params[j]? = some t → Tryd.pinned.checked.prog.wantsStandIn t = false := by
  obtain rfl : f = 3 := Option.some.inj ((show Tryd.prog.funcNamed Rows.linecodeSymbolsRow.func = some 3 by kernel_rfl).symm.trans hf) |>.symm
  obtain rfl : fn = Tryd.f3 := (Option.some.inj (Tryd.func3.symm.trans hfn)).symm
  refine ⟨by kernel_rfl, fun j t ht => ?_⟩
  rw [Tryd.params3] at ht
  have hm := Array.mem_of_getElem? ht
  simp at hm
  rcases hm with rfl | rfl
  · exact (show Tryd.prog.wantsStandIn 3 = false by kernel_rfl)
  · exact (show Tryd.prog.wantsStandIn 5 = false by kernel_rfl)
/-- The given statement. -/
theorem linecodeSymbols_holds : Rows.LinecodeSymbolsCardSaid :=
  Claim7.holds_tied_plain_at .later [] _ _ _ _ saidLinecodeSymbols (fun _ h => by cases h) (by kernel_rfl) (fun _ h => by cases h) linecodeSymbols_row_tie rfl ⟨rfl, rfl⟩ (by kernel_rfl) rfl plainLinecodeSymbols (by kernel_rfl)
#print axioms linecodeSymbols_holds
end Go.Proofs.YtkpnggnanacaaaaDoor
