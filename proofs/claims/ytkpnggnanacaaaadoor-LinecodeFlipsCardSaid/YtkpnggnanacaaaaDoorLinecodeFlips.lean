/- For every list of bytes and every bit the statement LinecodeFlips returns true: an inverted bit is found at its symbol. No condition. -/
import Derived.Test.YtkpnggnanacaaaaDoorBase
import Derived.Test.YtkpnggnanacaaaaDoorDecR
import Derived.Test.YtkpnggnanacaaaaDoorFlip
import Derived.Test.YtkpnggnanacaaaaDoorApp
namespace Go.Proofs.YtkpnggnanacaaaaDoor
open Go.ChangeShapes Go.WideShapes Go.ChangeAt Go.RowKit
set_option linter.unusedVariables false
set_option linter.unusedSimpArgs false
set_option maxRecDepth 100000 in
set_option maxHeartbeats 1000000 in
theorem flips_long (v0 : Value) (xs : List Int) (a1 : Int) (w : World) (ht : Tab w) (hr : Rd w v0 xs) (hl : 100 < xs.length) :
    Calls Tryd.prog 9 #[v0, .int .i64 a1] w fun e w' => e = .returned (.bool true) ∧ Below w.heap.size w w' := by
  obtain ⟨A, cap, rfl, hcap, hmax, -⟩ := hr
  have HT := hid ht
  clear ht
  unfold maxLen at hmax
  generalize xs.length = n at *
  go_enter Tryd.func9, Tryd.ntmps9
  go_wp2_with fail
  refine (awake_c _ HT.out).mono ?_
  rintro e wa ⟨rfl, hba⟩
  have HBA := hid hba
  clear hba
  go_wp2_with fail
  go_ret
  exact ⟨rfl, HBA.out⟩
set_option maxRecDepth 100000 in
set_option maxHeartbeats 1000000 in
theorem flips_out (v0 : Value) (xs : List Int) (a1 : Int) (w : World) (ht : Tab w) (hr : Rd w v0 xs) (hx : Byt xs) (hl : xs.length ≤ 100) (ho : a1 < 0 ∨ 12 * (xs.length : Int) ≤ a1) :
    Calls Tryd.prog 9 #[v0, .int .i64 a1] w fun e w' => e = .returned (.bool true) ∧ Below w.heap.size w w' := by
  obtain ⟨i0, hi, hz0, hz1, hz2⟩ := info_parts info5
  have hr' := hr
  obtain ⟨A, cap, rfl, hcap, hmax, -⟩ := hr'
  have HR := hid hr
  have HT := hid ht
  have HX := hid hx
  have HI := hid hi
  unfold maxLen at hmax
  clear hr ht hx
  have hor : a1 < 0 ∨ ¬ a1 < 0 ∧ 12 * (xs.length : Int) ≤ a1 := by omega
  clear ho
  go_enter Tryd.func9, Tryd.ntmps9
  go_wp2_with fail
  refine (awake_c _ HT.out).mono ?_
  rintro e wa ⟨rfl, hba⟩
  have HBA := hid hba
  have HT2 := hid (HT.out.below hba)
  have HR2 := hid (HR.out.below hba)
  clear hba HT HR
  go_wp2_with fail
  refine (encode_c _ xs _ HT2.out HR2.out HX.out (by omega)).mono ?_
  rintro e wb ⟨u1, rfl, hO1⟩
  have hrd := hO1.rd
  have HB1 := hid (join HBA.out hO1.2)
  have HEL := hid (encB_len xs)
  generalize encB xs = ys at *
  obtain ⟨A1, cap1, rfl⟩ := own_slice hO1.1
  rw [HEL.out] at hrd ⊢
  have HU1 := hid hrd
  clear hO1 hrd
  go_wp2_with (at_builtin; refine wpList_append_rd _ rfl _ _ 23 rfl wb.heap.size i0 Tryd.underlying23 HI.out hz0 hz1 hz2 (.slice (some ⟨wb.heap.size, 0, none⟩) 0 0) 0 [] rfl (own_empty wb _ (Nat.le_refl _)) _ ys rfl (HU1.out.alloc _) (by have := HEL.out; omega) (by simp) ?_; intro vA wA hownA hgA; have HBw : Hid (Below wb.heap.size wb wA) := ((Below.refl _ _).alloc (Nat.le_refl _) _).grown hgA (by simp) (fun k hk => by cases hk; exact Nat.le_refl _); have HWA := hid (own_rd (xs := ys) (by simpa using hownA)))
  have HU2 := hid (HU1.out.below HBw.out)
  have HB2 := hid (join HB1.out HBw.out)
  clear hownA hgA HBw HU1
  refine (flip_no _ ys a1 _ HU2.out (by rw [HEL.out]; omega) (by rw [HEL.out]; omega)).mono ?_
  rintro e wc ⟨rfl, rfl⟩
  go_wp2_with fail
  refine (same_c _ _ ys ys _ HU2.out HWA.out).mono ?_
  rintro e wd ⟨rfl, hbd⟩
  rw [show sameB ys ys = true by simp [sameB]]
  have HB3 := hid (join HB2.out hbd)
  clear hbd
  rcases hor with h | ⟨h, h'⟩
  all_goals
    go_wp2_with fail
    go_ret
    exact ⟨rfl, HB3.out⟩
set_option maxRecDepth 100000 in
set_option maxHeartbeats 2000000 in
theorem flips_in (v0 : Value) (xs : List Int) (n : Nat) (w : World) (ht : Tab w) (hr : Rd w v0 xs) (hx : Byt xs) (hl : xs.length ≤ 100) (hn : n < 12 * xs.length) :
    Calls Tryd.prog 9 #[v0, .int .i64 (n : Int)] w fun e w' => e = .returned (.bool true) ∧ Below w.heap.size w w' := by
  obtain ⟨i0, hi, hz0, hz1, hz2⟩ := info_parts info5
  have hr' := hr
  obtain ⟨A, cap, rfl, hcap, hmax, -⟩ := hr'
  have HR := hid hr
  have HT := hid ht
  have HX := hid hx
  have HI := hid hi
  unfold maxLen at hmax
  clear hr ht hx
  go_enter Tryd.func9, Tryd.ntmps9
  go_wp2_with fail
  refine (awake_c _ HT.out).mono ?_
  rintro e wa ⟨rfl, hba⟩
  have HBA := hid hba
  have HT2 := hid (HT.out.below hba)
  have HR2 := hid (HR.out.below hba)
  clear hba HT HR
  go_wp2_with fail
  refine (encode_c _ xs _ HT2.out HR2.out HX.out (by omega)).mono ?_
  rintro e wb ⟨u1, rfl, hO1⟩
  have hrd := hO1.rd
  have HT3 := hid (HT2.out.below hO1.2)
  have HB1 := hid (join HBA.out hO1.2)
  have HEL := hid (encB_len xs)
  have HEV := hid (encB_vld xs HX.out)
  have HEB := hid (encB_byt xs)
  have HED := hid (encB_badD xs HX.out)
  generalize encB xs = ys at *
  obtain ⟨A1, cap1, rfl⟩ := own_slice hO1.1
  rw [HEL.out] at hrd ⊢
  have HU1 := hid hrd
  clear hO1 hrd HT2 HR2 HBA
  go_wp2_with (at_builtin; refine wpList_append_rd _ rfl _ _ 23 rfl wb.heap.size i0 Tryd.underlying23 HI.out hz0 hz1 hz2 (.slice (some ⟨wb.heap.size, 0, none⟩) 0 0) 0 [] rfl (own_empty wb _ (Nat.le_refl _)) _ ys rfl (HU1.out.alloc _) (by have := HEL.out; omega) (by simp) ?_; intro vA wA hownA hgA; have HBw : Hid (Below wb.heap.size wb wA) := ((Below.refl _ _).alloc (Nat.le_refl _) _).grown hgA (by simp) (fun k hk => by cases hk; exact Nat.le_refl _); have HWA := hid (own_rd (xs := ys) (by simpa using hownA)))
  have HU2 := hid (HU1.out.below HBw.out)
  have HT4 := hid (HT3.out.below HBw.out)
  have HB2 := hid (join HB1.out HBw.out)
  clear hownA hgA HBw HU1 HT3 HB1
  refine (flip_c _ ys n _ HU2.out HEB.out (by rw [HEL.out]; omega) (by rw [HEL.out]; omega)).mono ?_
  rintro e wc ⟨u2, rfl, hO2⟩
  have hrd := hO2.rd
  have HT5 := hid (HT4.out.below hO2.2)
  have HU3 := hid (HU2.out.below hO2.2)
  have HW3 := hid (HWA.out.below hO2.2)
  have HB3 := hid (join HB2.out hO2.2)
  have HFL := hid ((flipB_len ys n).trans HEL.out)
  have HFB := hid (flipB_byt HEB.out n)
  have HFN := hid (flip_ne HEV.out (n := n) (by rw [HEL.out]; omega))
  have HFF := hid (flipB_far ys n)
  have HFD := hid (flip_bad HED.out (n := n) (by rw [HEL.out]; omega))
  have HFK := hid (flip_back HEV.out (n := n) (by rw [HEL.out]; omega))
  obtain ⟨A2, cap2, rfl⟩ := own_slice hO2.1
  rw [HFL.out] at hrd ⊢
  have HV3 := hid hrd
  obtain ⟨q, hqn⟩ : ∃ q : Nat, q = n / 6 := ⟨_, rfl⟩
  have hdq : (n : Int) / 6 = (q : Int) := by omega
  have hql : q < 2 * xs.length := by omega
  rw [← hqn] at HFN HFF HFD
  have HDQ := hid hdq
  clear hO2 hrd HU2 HWA HT4 HB2 hqn hdq
  go_wp2_with fail
  refine (same_c _ _ ys ys _ HU3.out HW3.out).mono ?_
  rintro e wd ⟨rfl, hbd⟩
  rw [show sameB ys ys = true by simp [sameB]]
  have HT6 := hid (HT5.out.below hbd)
  have HU4 := hid (HU3.out.below hbd)
  have HV4 := hid (HV3.out.below hbd)
  have HB4 := hid (join HB3.out hbd)
  clear hbd HT5 HU3 HV3 HW3 HB3
  obtain ⟨L, hL⟩ : ∃ L, L = 2 * xs.length := ⟨_, rfl⟩
  have hL1 : L ≤ 200 := by omega
  have hnL : n < 6 * L := by omega
  have hqL : q < L := by omega
  rw [← hL] at HU4 HV4 HEL HFL
  have hL2 : 2 * xs.length ≤ L := by omega
  have hL3 : L ≤ 2 * xs.length := by omega
  have HLL := hid hL
  try rw [← hL]
  have hu' := HU4.out
  obtain ⟨Ax, capx, he, hcapx, hmaxx, hcellx⟩ := hu'
  injection he with e1 e2 e3
  subst e1 e3
  have hv' := HV4.out
  obtain ⟨Ay, capy, he, hcapy, hmaxy, hcelly⟩ := hv'
  injection he with e1' e2' e3'
  subst e1' e3'
  unfold maxLen at hmaxx hmaxy
  rw [HEL.out] at hcapx hcellx
  rw [HFL.out] at hcapy hcelly
  have HCX := hid hcellx
  have HCY := hid hcelly
  clear e2 e2' hcellx hcelly hL
  generalize hzs : flipB ys n = zs at *
  have HZS := hid hzs
  clear hzs
  go_wp2_with fail
  go_loopw [62] (fun v62 wr => ∃ k j : Nat, k ≤ L ∧ v62 = .int .i64 k ∧ wr = wd.drewN j) (fun v62 _ => L - (intOf v62).toNat)
  case atStart => exact ⟨0, 0, by omega, rfl, rfl⟩
  case round =>
    obtain ⟨k, j, hk, rfl, rfl⟩ := hrel
    by_cases hlt : k < L
    · obtain ⟨bx, ox, rfl, hbx, hcx⟩ := HCX.out (by omega)
      obtain ⟨bY, oy, rfl, hby, hcy⟩ := HCY.out (by omega)
      have c1 := hcx k hlt
      have c2 := hcy k hlt
      have hk0 : (0 : Int) ≤ (k : Int) := by omega
      have hkL : (k : Int) < (L : Int) := by omega
      clear hcx hcy
      by_cases hkq : k = q
      · have q1 : (zs.getD k 0 != ys.getD k 0) = true := by rw [hkq]; simpa using HFN.out
        have q2 : (zs.getD k 0 == ys.getD k 0) = false := by rw [hkq]; simpa using HFN.out
        have q3 : ((k : Int) == (n : Int) / 6) = true := by rw [HDQ.out, hkq]; simp
        clear hkq
        generalize ys.getD k 0 = y at *
        generalize zs.getD k 0 = z at *
        go_wp2_with fail
        go_quiet (fail)
        go_wp2_with fail
        go_roundw
        case rel => exact ⟨k + 1, j + nq, by omega, by go_num, by first | rfl | rw [World.drewN_drewN]⟩
        case measure => simp [intOf]; omega
      · have hf := HFF.out k hkq
        have q1 : (zs.getD k 0 != ys.getD k 0) = false := by rw [hf]; simp
        have q2 : (zs.getD k 0 == ys.getD k 0) = true := by rw [hf]; simp
        have q3 : ((k : Int) == (n : Int) / 6) = false := by rw [HDQ.out]; simp; omega
        clear hkq hf
        generalize ys.getD k 0 = y at *
        generalize zs.getD k 0 = z at *
        go_wp2_with fail
        go_quiet (fail)
        go_wp2_with fail
        go_roundw
        case rel => exact ⟨k + 1, j + nq, by omega, by go_num, by first | rfl | rw [World.drewN_drewN]⟩
        case measure => simp [intOf]; omega
    · have HT7 := hid (HT6.out.drewN j)
      have HU5 := hid (HU4.out.drewN j)
      have HV5 := hid (HV4.out.drewN j)
      have HB5 := hid (dN HB4.out j)
      obtain ⟨we, hwe⟩ : ∃ we, we = wd.drewN j := ⟨_, rfl⟩
      rw [← hwe] at HT7 HU5 HV5 HB5 ⊢
      clear hwe
      go_wp2_with fail
      refine (decode_c _ zs _ HT7.out HV5.out HFB.out (by rw [HFL.out]; omega)).mono ?_
      rintro e w1 ⟨u3, rfl, hO3⟩
      have hd1 : decI zs = q := by unfold decI; rw [if_pos (by rw [HFD.out, HFL.out]; exact hqL), HFD.out]
      have hd2 : decE zs = 3 := by unfold decE; rw [if_pos (by rw [HFD.out, HFL.out]; exact hqL)]
      rw [hd1, hd2]
      have HU6 := hid (HU5.out.below hO3.2)
      have HV6 := hid (HV5.out.below hO3.2)
      have HB6 := hid (join HB5.out hO3.2)
      clear hO3 hd1 hd2
      go_wp2_with fail
      refine (flip_c _ zs n _ HV6.out HFB.out (by rw [HFL.out]; omega) (by rw [HFL.out]; exact hnL)).mono ?_
      rintro e w2 ⟨u4, rfl, hO4⟩
      have HFK' := HFK.out
      rw [HFK'] at hO4
      have HU7 := hid (HU6.out.below hO4.2)
      have HR7 := hid hO4.rd
      have HB7 := hid (join HB6.out hO4.2)
      have hq4 : ((q : Int) == (n : Int) / 6) = true := by rw [HDQ.out]; simp
      clear hO4 HFK'
      go_wp2_with fail
      refine (same_c _ _ ys ys _ HR7.out HU7.out).mono ?_
      rintro e w3 ⟨rfl, hb3⟩
      rw [show sameB ys ys = true by simp [sameB]]
      have HB8 := hid (join HB7.out hb3)
      clear hb3
      go_wp2_with fail
      go_ret
      exact ⟨rfl, HB8.out⟩
theorem walkLinecodeFlips (v0 : Value) (xs : List Int) (a1 : Int) (w : World) (ht : Tab w) (hr : Rd w v0 xs) (hx : Byt xs) (w1 : (Lit.int .i64 a1).wf = true) :
    Calls Tryd.prog 9 #[v0, .int .i64 a1] w fun e w' => e = .returned (.bool true) ∧ Below w.heap.size w w' := by
  by_cases hl : 100 < xs.length
  · exact flips_long v0 xs a1 w ht hr hl
  · by_cases ho : a1 < 0 ∨ 12 * (xs.length : Int) ≤ a1
    · exact flips_out v0 xs a1 w ht hr hx (by omega) ho
    · obtain ⟨n, rfl⟩ := Int.eq_ofNat_of_zero_le (show 0 ≤ a1 by omega)
      exact flips_in v0 xs n w ht hr hx (by omega) (by omega)

theorem contractLinecodeFlips (H : Type) (enc : TypeId × Value → H) (W : World) (base : Nat) (args : Array Value) (ds gs : List (DataW H)) (before : List MemPlace)
    (hval : ∀ (j : Nat) t v, Tryd.f9.params[j]? = some t → args[j]? = some v → Value.okWide Tryd.prog W .any base t v)
    (hW : DataW.Whole enc Tryd.prog Tryd.f9.params.toList Rows.linecodeFlipsSpec.vars false W args.toList ds gs before) (hL : laidMetH Tryd.prog Rows.linecodeFlipsRow.laid W) :
    Calls Tryd.prog 9 args W fun e W' => ∃ v, e = .returned v ∧ Rows.linecodeFlipsSpec.post enc Tryd.prog Tryd.f9 false true false false W args v W' := by
  have hW' := hW
  obtain ⟨p, q, hA0, hV, rfl, hfz, hnd⟩ := hW
  have hA : DataW.TrodAll enc Tryd.prog W 0 (fun _ => true) true Tryd.f9.params.toList args.toList ds p := hA0
  rw [Tryd.params9] at hA hval
  obtain ⟨v0, vs0, d0, ds0, p0, q0, hargs, rfl, rfl, h0, r0⟩ := trodAll_cons hA
  obtain ⟨v1, vs1, d1, ds1, p1, q1, rfl, rfl, rfl, h1, r1⟩ := trodAll_cons r0
  obtain ⟨rfl, rfl, rfl⟩ := trodAll_nil r1
  obtain rfl : args = #[v0, v1] := by cases args; simp_all
  obtain ⟨rfl, rfl⟩ := trodVars_none hV
  have k0 := h0
  have lt0 : ∀ x ∈ p0, x.block < W.heap.size := by obtain ⟨m, hm⟩ := k0; exact DataW.trod_lt m _ _ _ hm
  have k1 := h1
  have lt1 : ∀ x ∈ p1, x.block < W.heap.size := by obtain ⟨m, hm⟩ := k1; exact DataW.trod_lt m _ _ _ hm
  obtain ⟨a0, len0, cap0, rfl⟩ := okWide_slice Tryd.underlying23 (hval 0 23 v0 rfl rfl)
  obtain ⟨x0, w0, b0⟩ := open_rd h0
  obtain ⟨a1, rfl, -, -, w1⟩ := open_int Tryd.underlying3 (hval 1 3 v1 rfl rfl) h1
  clear hA0
  refine (walkLinecodeFlips _ x0 a1 W (table hL) w0 b0 w1).mono fun e W' ⟨he, bel⟩ => ?_
  subst he
  exact ⟨_, rfl, _, _, _, [], _, [], hW', trodAll_mk1 (shut_bool Tryd.underlying4 _), (trodAll_cons_mk (Below.trod laidOut (by kernel_rfl) (of_decide_eq_true (by kernel_rfl)) k0 bel lt0) (trodAll_cons_mk (Below.trod laidOut (by kernel_rfl) (of_decide_eq_true (by kernel_rfl)) k1 bel lt1) trodAll_mk0)), rfl, bel.frame _, fun h => by cases h⟩
theorem laid_metLinecodeFlips (os : Os) : laidMet Tryd.prog Rows.linecodeFlipsRow.laid ((laidWorld os).forCall (fun _ _ => 0) ⟨#[], #[.slice none 0 0, .int .i64 0], []⟩).memory :=
  laidMet_of_run' 8 (by kernel_rfl) (by kernel_rfl)
theorem readsLinecodeFlips (os : Os) {H : Type} (enc : TypeId × Value → H) : ∃ places, DataW.whole enc Tryd.prog ((laidWorld os).forCall (fun _ _ => 0) ⟨#[], #[.slice none 0 0, .int .i64 0], []⟩).memory Tryd.f9.params.toList Rows.linecodeFlipsSpec.vars false #[Value.slice none 0 0, .int .i64 0].toList 8 = some ([.nil, .lit (.int .i64 0)], [], places) :=
  ⟨[], by kernel_rfl⟩
set_option maxRecDepth 100000 in
theorem liftedLinecodeFlips (os : Os) (started : os.Started) (H : Type) (enc : TypeId × Value → H) (F : Stop.Interp) :
    ReturnsInHanded {} Tryd.checked os 9 .any ((OpenSpec.ofChange Rows.linecodeFlipsSpec).preRow enc Tryd.prog Tryd.f9 Rows.linecodeFlipsRow.domain false Rows.linecodeFlipsRow.laid) (((OpenSpec.ofChange Rows.linecodeFlipsSpec).at F).post enc Tryd.prog Tryd.f9 false true false false) := by
  obtain ⟨places, hx⟩ := readsLinecodeFlips os enc
  refine returnsInHanded_of_row (C := Tryd.checked) (s := OpenSpec.ofChange Rows.linecodeFlipsSpec) own started (by kernel_rfl) Tryd.func9
    (witness_row_at (enc := enc) (C := Tryd.checked) false (laidWorld os) #[.slice none 0 0, .int .i64 0] rfl (by kernel_rfl) (by kernel_rfl) (by kernel_rfl)
      (OpenSpec.preRow_of_cond 8 hx (by kernel_rfl) (fun k hk => by cases hk) (by kernel_rfl) (laid_metLinecodeFlips os))) ?_
  intro W base args ds gs before hval hW _ _ _ hL _ _
  exact contractLinecodeFlips H enc W base args ds gs before hval hW hL
theorem saidLinecodeFlips : Rows.LinecodeFlipsSaid :=
  OpenClaim.holds_of_cond 9 Tryd.f9 rfl rfl rfl rfl rfl rfl rfl ⟨rfl, rfl, rfl, rfl, rfl⟩ rfl rfl rfl rfl rfl (by kernel_rfl) Tryd.func9 (by kernel_rfl)
    (of_decide_eq_true (by kernel_rfl)) (by unfold Func.isWrapper; first | (rw [if_pos (by decide +kernel)]; kernel_rfl) | (rw [if_neg (by decide +kernel)]; exact ⟨rfl, rfl⟩))
    (fun os started H enc _ F => by rw [OpenClaim.pre_eq_preRow]; exact liftedLinecodeFlips os started H enc F)
theorem plainLinecodeFlips (f : FuncId) (fn : Func) (hf : Tryd.pinned.checked.prog.funcNamed Rows.linecodeFlipsRow.func = some f) (hfn : Tryd.pinned.checked.prog.funcs[f]? = some fn) :
    false = Tryd.pinned.checked.prog.looks [] ∧ ∀ (j : Nat) t, fn.params[j]? = some t → Tryd.pinned.checked.prog.wantsStandIn t = false := by
  obtain rfl : f = 9 := Option.some.inj ((show Tryd.prog.funcNamed Rows.linecodeFlipsRow.func = some 9 by kernel_rfl).symm.trans hf) |>.symm
  obtain rfl : fn = Tryd.f9 := (Option.some.inj (Tryd.func9.symm.trans hfn)).symm
  refine ⟨by kernel_rfl, fun j t ht => ?_⟩
  rw [Tryd.params9] at ht
  have hm := Array.mem_of_getElem? ht
  simp at hm
  rcases hm with rfl | rfl
  · exact (show Tryd.prog.wantsStandIn 23 = false by kernel_rfl)
  · exact (show Tryd.prog.wantsStandIn 3 = false by kernel_rfl)
/-- The given statement. -/
theorem linecodeFlips_holds : Rows.LinecodeFlipsCardSaid :=
  Claim7.holds_tied_plain_at .later [] _ _ _ _ saidLinecodeFlips (fun _ h => by cases h) (by kernel_rfl) (fun _ h => by cases h) linecodeFlips_row_tie rfl ⟨rfl, rfl⟩ (by kernel_rfl) rfl plainLinecodeFlips (by kernel_rfl)
#print axioms linecodeFlips_holds
end Go.Proofs.YtkpnggnanacaaaaDoor
