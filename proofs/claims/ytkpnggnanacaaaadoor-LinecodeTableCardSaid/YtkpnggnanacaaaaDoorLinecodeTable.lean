/- For every number the statement LinecodeTable returns true: there are twenty valid symbols, in ascending order. No condition. -/
import Derived.Test.YtkpnggnanacaaaaDoorBase
namespace Go.Proofs.YtkpnggnanacaaaaDoor
open Go.ChangeShapes Go.WideShapes Go.ChangeAt Go.RowKit
set_option linter.unusedVariables false
set_option linter.unusedSimpArgs false
/-- A fact that no search opens. -/
structure Kept (p : Prop) : Prop where
  out : p
theorem T_asc : ∀ k : Fin 19, T.getD k 0 < T.getD (k + 1) 0 := by decide
theorem T_pop : ∀ k : Fin 20, (T.getD k 0 % 2 + T.getD k 0 / 2 % 2 + T.getD k 0 / 4 % 2 + T.getD k 0 / 8 % 2 + T.getD k 0 / 16 % 2 + T.getD k 0 / 32 % 2 + T.getD k 0 / 64 % 2 + T.getD k 0 / 128 % 2 != 3) = false := by decide
theorem T_lo : ∀ k : Fin 20, 7 ≤ T.getD k 0 ∧ T.getD k 0 ≤ 56 := by decide
theorem idx_big (x : Int) (h : 56 < x) : idx x = 20 := by
  rcases Nat.lt_or_ge (idx x) 20 with h1 | h1
  · have := idx_get x h1
    have := (T_bd (idx x)).2
    omega
  · have := idx_le x; omega
set_option maxRecDepth 100000 in
set_option maxHeartbeats 4000000 in
theorem walkLinecodeTable (a0 : Int) (w : World) (ht : Tab w) (w0 : (Lit.int .u8 a0).wf = true) :
    Calls Tryd.prog 4 #[.int .u8 a0] w fun e w' => e = .returned (.bool true) ∧ Below w.heap.size w w' := by
  obtain ⟨b1, b2⟩ := bounds_u8 w0
  have HT := hid ht
  clear ht w0
  go_enter Tryd.func4, Tryd.ntmps4
  go_wp2_with fail
  refine (awake_c _ HT.out).mono ?_
  rintro e wa ⟨rfl, hba⟩
  have HBA := hid hba
  have HT2 := hid (HT.out.below hba)
  clear hba HT
  go_wp2_with fail
  go_loop [3, 17] (fun v3 v17 => ∃ (k : Nat) (l : Int), k ≤ 20 ∧ -1 ≤ l ∧ l ≤ 56 ∧ v17 = .int .i64 k ∧ v3 = .int .i64 l ∧ Kept (k < 20 → l < T.getD k 0)) (fun _ v17 => 20 - (intOf v17).toNat)
  case atStart => exact ⟨0, -1, by omega, by omega, by omega, rfl, rfl, ⟨fun _ => by decide⟩⟩
  case round =>
    obtain ⟨k, l, hk, hl1, hl2, rfl, rfl, hkl⟩ := hrel
    by_cases hlt : k < 20
    · have hl := hkl.out hlt
      have hlo := T_lo ⟨k, hlt⟩
      have hpop := T_pop ⟨k, hlt⟩
      have hidx := idx_T k hlt
      have HN : Kept (k + 1 < 20 → T.getD k 0 < T.getD (k + 1) 0) := ⟨fun h => T_asc ⟨k, by omega⟩⟩
      obtain ⟨t, ht⟩ : ∃ t, T.getD k 0 = t := ⟨_, rfl⟩
      simp only at hlo hpop
      rw [ht] at hl hlo hpop hidx HN
      have HTT := Kept.mk ht
      clear ht hkl
      by_cases h16 : k < 16
      · have D1 : Kept (dataV (k : Int) = t) := ⟨by unfold dataV; rw [if_pos (by omega)]; exact HTT.out⟩
        have D2 : Kept (dataE (k : Int) = 0) := ⟨by unfold dataE; rw [if_pos (by omega)]⟩
        have V1 : Kept (valV t = k) := ⟨by unfold valV; rw [hidx, if_pos h16]⟩
        have V2 : Kept (valC t = false) := ⟨by unfold valC; rw [hidx]; simp; omega⟩
        have V3 : Kept (valE t = 0) := ⟨by unfold valE; rw [hidx, if_pos hlt]⟩
        have hm : ((k : Int) != (k : Int) % 16) = false := by simp; omega
        clear hidx
        go_wp2_with fail
        refine (data_c _ _ HT2.out).mono ?_
        rintro e w' ⟨rfl, rfl⟩
        rw [D1.out, D2.out]
        go_wp2_with fail
        refine wp_loop_rounds 9 ?_
        iterate 8 (rw [rounds_succ]; go_wp2_with fail)
        rw [rounds_succ]
        go_wp2_with fail
        refine (value_c _ _ HT2.out (by omega) (by omega)).mono ?_
        rintro e w' ⟨rfl, rfl⟩
        rw [V1.out, V2.out, V3.out]
        go_wp2_with fail
        go_round
        case rel => exact ⟨k + 1, t, by omega, by omega, by omega, by go_num, rfl, HN⟩
        case measure => simp [intOf]; omega
      · have D1 : Kept (ctrlV ((k : Int) - 16) = t) := ⟨by unfold ctrlV; rw [if_pos (by omega), show (16 + ((k : Int) - 16)).toNat = k by omega]; exact HTT.out⟩
        have D2 : Kept (ctrlE ((k : Int) - 16) = 0) := ⟨by unfold ctrlE; rw [if_pos (by omega)]⟩
        have V1 : Kept (valV t = (k : Int) - 16) := ⟨by unfold valV; rw [hidx, if_neg h16, if_pos hlt]⟩
        have V2 : Kept (valC t = true) := ⟨by unfold valC; rw [hidx]; simp; omega⟩
        have V3 : Kept (valE t = 0) := ⟨by unfold valE; rw [hidx, if_pos hlt]⟩
        have hm : ((k : Int) - 16 != (k : Int) % 16) = false := by simp; omega
        clear hidx
        go_wp2_with fail
        refine (ctrl_c _ _ HT2.out).mono ?_
        rintro e w' ⟨rfl, rfl⟩
        rw [D1.out, D2.out]
        go_wp2_with fail
        refine wp_loop_rounds 9 ?_
        iterate 8 (rw [rounds_succ]; go_wp2_with fail)
        rw [rounds_succ]
        go_wp2_with fail
        refine (value_c _ _ HT2.out (by omega) (by omega)).mono ?_
        rintro e w' ⟨rfl, rfl⟩
        rw [V1.out, V2.out, V3.out]
        go_wp2_with fail
        go_round
        case rel => exact ⟨k + 1, t, by omega, by omega, by omega, by go_num, rfl, HN⟩
        case measure => simp [intOf]; omega
    · by_cases h192 : a0 < 192
      · have V3 : Kept (valE (64 + a0) = 3) := ⟨by unfold valE; rw [if_neg (by rw [idx_big _ (by omega)]; decide)]⟩
        go_wp2_with fail
        refine (value_c _ _ HT2.out (by omega) (by omega)).mono ?_
        rintro e w' ⟨rfl, rfl⟩
        rw [V3.out]
        generalize valV (64 + a0) = vv
        generalize valC (64 + a0) = vc
        go_wp2_with fail
        go_ret
        exact ⟨rfl, HBA.out⟩
      · go_wp2_with fail
        refine (value_c _ _ HT2.out (by omega) (by omega)).mono ?_
        rintro e w' ⟨rfl, rfl⟩
        go_wp2_with fail
        all_goals
          go_ret
          exact ⟨by first | rfl | simp, HBA.out⟩

theorem contractLinecodeTable (H : Type) (enc : TypeId × Value → H) (W : World) (base : Nat) (args : Array Value) (ds gs : List (DataW H)) (before : List MemPlace)
    (hval : ∀ (j : Nat) t v, Tryd.f4.params[j]? = some t → args[j]? = some v → Value.okWide Tryd.prog W .any base t v)
    (hW : DataW.Whole enc Tryd.prog Tryd.f4.params.toList Rows.linecodeTableSpec.vars false W args.toList ds gs before) (hL : laidMetH Tryd.prog Rows.linecodeTableRow.laid W) :
    Calls Tryd.prog 4 args W fun e W' => ∃ v, e = .returned v ∧ Rows.linecodeTableSpec.post enc Tryd.prog Tryd.f4 false true false false W args v W' := by
  have hW' := hW
  obtain ⟨p, q, hA0, hV, rfl, hfz, hnd⟩ := hW
  have hA : DataW.TrodAll enc Tryd.prog W 0 (fun _ => true) true Tryd.f4.params.toList args.toList ds p := hA0
  rw [Tryd.params4] at hA hval
  obtain ⟨v0, vs0, d0, ds0, p0, q0, hargs, rfl, rfl, h0, r0⟩ := trodAll_cons hA
  obtain ⟨rfl, rfl, rfl⟩ := trodAll_nil r0
  obtain rfl : args = #[v0] := by cases args; simp_all
  obtain ⟨rfl, rfl⟩ := trodVars_none hV
  have k0 := h0
  have lt0 : ∀ x ∈ p0, x.block < W.heap.size := by obtain ⟨m, hm⟩ := k0; exact DataW.trod_lt m _ _ _ hm
  obtain ⟨a0, rfl, -, -, w0⟩ := open_int Tryd.underlying5 (hval 0 5 v0 rfl rfl) h0
  clear hA0
  refine (walkLinecodeTable a0 W (table hL) w0).mono fun e W' ⟨he, bel⟩ => ?_
  subst he
  exact ⟨_, rfl, _, _, _, [], _, [], hW', trodAll_mk1 (shut_bool Tryd.underlying4 _), (trodAll_cons_mk (Below.trod laidOut (by kernel_rfl) (of_decide_eq_true (by kernel_rfl)) k0 bel lt0) trodAll_mk0), rfl, bel.frame _, fun h => by cases h⟩
theorem laid_metLinecodeTable (os : Os) : laidMet Tryd.prog Rows.linecodeTableRow.laid ((laidWorld os).forCall (fun _ _ => 0) ⟨#[], #[.int .u8 0], []⟩).memory :=
  laidMet_of_run' 8 (by kernel_rfl) (by kernel_rfl)
theorem readsLinecodeTable (os : Os) {H : Type} (enc : TypeId × Value → H) : ∃ places, DataW.whole enc Tryd.prog ((laidWorld os).forCall (fun _ _ => 0) ⟨#[], #[.int .u8 0], []⟩).memory Tryd.f4.params.toList Rows.linecodeTableSpec.vars false #[Value.int .u8 0].toList 8 = some ([.lit (.int .u8 0)], [], places) :=
  ⟨[], by kernel_rfl⟩
set_option maxRecDepth 100000 in
theorem liftedLinecodeTable (os : Os) (started : os.Started) (H : Type) (enc : TypeId × Value → H) (F : Stop.Interp) :
    ReturnsInHanded {} Tryd.checked os 4 .any ((OpenSpec.ofChange Rows.linecodeTableSpec).preRow enc Tryd.prog Tryd.f4 Rows.linecodeTableRow.domain false Rows.linecodeTableRow.laid) (((OpenSpec.ofChange Rows.linecodeTableSpec).at F).post enc Tryd.prog Tryd.f4 false true false false) := by
  obtain ⟨places, hx⟩ := readsLinecodeTable os enc
  refine returnsInHanded_of_row (C := Tryd.checked) (s := OpenSpec.ofChange Rows.linecodeTableSpec) own started (by kernel_rfl) Tryd.func4
    (witness_row_at (enc := enc) (C := Tryd.checked) false (laidWorld os) #[.int .u8 0] rfl (by kernel_rfl) (by kernel_rfl) (by kernel_rfl)
      (OpenSpec.preRow_of_cond 8 hx (by kernel_rfl) (fun k hk => by cases hk) (by kernel_rfl) (laid_metLinecodeTable os))) ?_
  intro W base args ds gs before hval hW _ _ _ hL _ _
  exact contractLinecodeTable H enc W base args ds gs before hval hW hL
theorem saidLinecodeTable : Rows.LinecodeTableSaid :=
  OpenClaim.holds_of_cond 4 Tryd.f4 rfl rfl rfl rfl rfl rfl rfl ⟨rfl, rfl, rfl, rfl, rfl⟩ rfl rfl rfl rfl rfl (by kernel_rfl) Tryd.func4 (by kernel_rfl)
    (of_decide_eq_true (by kernel_rfl)) (by unfold Func.isWrapper; first | (rw [if_pos (by decide +kernel)]; kernel_rfl) | (rw [if_neg (by decide +kernel)]; exact ⟨rfl, rfl⟩))
    (fun os started H enc _ F => by rw [OpenClaim.pre_eq_preRow]; exact liftedLinecodeTable os started H enc F)
theorem plainLinecodeTable (f : FuncId) (fn : Func) (hf : Tryd.pinned.checked.prog.funcNamed Rows.linecodeTableRow.func = some f) (hfn : Tryd.pinned.checked.prog.funcs[f]? = some fn) :
    false = Tryd.pinned.checked.prog.looks [] ∧ ∀ (j : Nat) t, fn.params[j]? = some t → Tryd.pinned.checked.prog.wantsStandIn t = false := by
  obtain rfl : f = 4 := Option.some.inj ((show Tryd.prog.funcNamed Rows.linecodeTableRow.func = some 4 by kernel_rfl).symm.trans hf) |>.symm
  obtain rfl : fn = Tryd.f4 := (Option.some.inj (Tryd.func4.symm.trans hfn)).symm
  refine ⟨by kernel_rfl, fun j t ht => ?_⟩
  rw [Tryd.params4] at ht
  have hm := Array.mem_of_getElem? ht
  simp at hm
  rcases hm with rfl
  · exact (show Tryd.prog.wantsStandIn 5 = false by kernel_rfl)
/-- The given statement. -/
theorem linecodeTable_holds : Rows.LinecodeTableCardSaid :=
  Claim7.holds_tied_plain_at .later [] _ _ _ _ saidLinecodeTable (fun _ h => by cases h) (by kernel_rfl) (fun _ h => by cases h) linecodeTable_row_tie rfl ⟨rfl, rfl⟩ (by kernel_rfl) rfl plainLinecodeTable (by kernel_rfl)
#print axioms linecodeTable_holds
end Go.Proofs.YtkpnggnanacaaaaDoor
