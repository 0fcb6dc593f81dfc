/- For all clocks and numbers the statement KeepaliveLate returns true: a peer that has become silent causes exactly one alarm, in time. No condition. -/
import Derived.Test.YthkilfainkcmgaaBase
import Derived.Test.YthkilfainkcmgaaLate
namespace Go.Proofs.Ythkilfainkcmgaa
open Go.ChangeShapes Go.WideShapes Go.ChangeAt Go.RowKit
set_option linter.unusedVariables false
set_option linter.unusedSimpArgs false
theorem clk_of {s n d p : Int} (h : withinB s n d p = true) (h2 : s ≤ 536870912) : Clk s n d p := by
  obtain ⟨hv, ⟨p0, p1⟩, h3, h4⟩ := within_iff.1 h
  obtain ⟨b1, b2, b3, b4, b5, b6, b7, b8⟩ := valid_iff.1 hv
  exact ⟨b7, h2, b1, b3, b6, p0, p1, h3, h4⟩
theorem show_at {s n d : Int} {t : Nat} (hv : validB s n d = true) (ht : t ≤ 1000) : showV s n d t = cx s n d t ∧ showE s n d t = 0 := by
  have hi : insideB (t : Int) 1073741824 = true := inside_iff.2 ⟨by omega, by omega⟩
  exact ⟨by simp [showV, hv, hi, cx], by simp [showE, hv, hi]⟩
structure LW (w : World) (B C : Nat) (a0 a1 a2 D N : Int) (k t : Nat) (st : St) (at_ : Int) (wr : World) : Prop where
  inv : LInv (cx a0 a1 a2) D N k t st at_
  b : Blk wr B 59 (wc st)
  c : Blk wr C 52 #[.int .i64 a0, .int .i64 a1, .int .i64 a2]
  below : Below w.heap.size w wr
set_option maxRecDepth 100000 in
set_option maxHeartbeats 4000000 in
theorem walkKeepaliveLate (a0_0 a0_1 a0_2 a1 a2 a3 : Int) (w : World) (w0_0 : (Lit.int .i64 a0_0).wf = true) (w0_1 : (Lit.int .i64 a0_1).wf = true) (w0_2 : (Lit.int .i64 a0_2).wf = true) (w1 : (Lit.int .u8 a1).wf = true) (w2 : (Lit.int .i64 a2).wf = true) (w3 : (Lit.int .u8 a3).wf = true) :
    Calls Try.prog 9 #[.agg #[.int .i64 a0_0, .int .i64 a0_1, .int .i64 a0_2], .int .u8 a1, .int .i64 a2, .int .u8 a3] w fun e w' => e = .returned (.bool true) ∧ Below w.heap.size w w' := by
  obtain ⟨b1, b2⟩ := bounds_u8 w1
  obtain ⟨b3, b4⟩ := bounds_u8 w3
  clear w0_0 w0_1 w0_2 w1 w2 w3
  cases hw : withinB a0_0 a0_1 a0_2 a2 with
  | false =>
    have HW := Kept.mk hw
    clear hw
    go_enter Try.func9, Try.ntmps9
    go_wp2_with fail
    refine (awake_c _).mono ?_
    rintro e wa ⟨rfl, hba⟩
    have HBA := Kept.mk hba
    have hc0 := (hba.cell (p := ⟨w.heap.size, 0, none⟩) (by simp)).trans ((Blk.new w 52 #[.int .i64 a0_0, .int .i64 a0_1, .int .i64 a0_2]).cell 0 (v := .int .i64 a0_0) rfl)
    have hc1 := (hba.cell (p := ⟨w.heap.size, 1, none⟩) (by simp)).trans ((Blk.new w 52 #[.int .i64 a0_0, .int .i64 a0_1, .int .i64 a0_2]).cell 1 (v := .int .i64 a0_1) rfl)
    have hc2 := (hba.cell (p := ⟨w.heap.size, 2, none⟩) (by simp)).trans ((Blk.new w 52 #[.int .i64 a0_0, .int .i64 a0_1, .int .i64 a0_2]).cell 2 (v := .int .i64 a0_2) rfl)
    have hz := hba.size
    have hz2 : w.heap.size < wa.heap.size := by simp at hz; omega
    clear hba hz
    go_wp2_with fail
    refine (within_c _ _ _ _ _).mono ?_
    rintro e wb ⟨rfl, hbb⟩
    rw [HW.out]
    have HBB := Kept.mk (HBA.out.trans (hbb.mono (by simp; omega)))
    clear hbb
    go_wp2_with fail
    refine (awake_c _).mono ?_
    rintro e wc ⟨rfl, hbc⟩
    have HBC := Kept.mk (HBB.out.trans (hbc.mono HBB.out.size))
    clear hbc
    go_wp2_with fail
    go_ret
    exact ⟨rfl, ((Below.refl _ _).alloc (Nat.le_refl _) _).trans (HBC.out.mono (by simp))⟩
  | true =>
    have HW := Kept.mk hw
    obtain ⟨hv, ⟨p0, p1⟩, -, -⟩ := within_iff.1 hw
    have HV := Kept.mk hv
    have HCL := Kept.mk (fun h2 => clk_of hw h2)
    clear hw hv
    go_enter Try.func9, Try.ntmps9
    go_wp2_with fail
    refine (awake_c _).mono ?_
    rintro e wa ⟨rfl, hba⟩
    have HBA := Kept.mk hba
    have HCa := Kept.mk ((Blk.new w 52 #[.int .i64 a0_0, .int .i64 a0_1, .int .i64 a0_2]).new_ hba)
    have hc0 := HCa.out.cell 0 (v := .int .i64 a0_0) rfl
    have hc1 := HCa.out.cell 1 (v := .int .i64 a0_1) rfl
    have hc2 := HCa.out.cell 2 (v := .int .i64 a0_2) rfl
    have hz2 := HCa.out.lt
    clear hba
    go_wp2_with fail
    refine (within_c _ _ _ _ _).mono ?_
    rintro e wb ⟨rfl, hbb⟩
    rw [HW.out]
    have HBB := Kept.mk (HBA.out.trans (hbb.mono (by simp; omega)))
    have HCb := Kept.mk (HCa.out.new_ hbb)
    clear hbb hc0 hc1 hc2 hz2 HCa
    have hc0 := HCb.out.cell 0 (v := .int .i64 a0_0) rfl
    have hz2 := HCb.out.lt
    by_cases hs : 536870912 < a0_0
    · go_wp2_with fail
      refine (awake_c _).mono ?_
      rintro e wc ⟨rfl, hbc⟩
      have HBC := Kept.mk (HBB.out.trans (hbc.mono HBB.out.size))
      clear hbc
      go_wp2_with fail
      go_ret
      exact ⟨rfl, ((Below.refl _ _).alloc (Nat.le_refl _) _).trans (HBC.out.mono (by simp))⟩
    · have HC := Kept.mk (HCL.out (by omega))
      obtain ⟨D, hD⟩ : ∃ D, 1 + a1 % 100 = D := ⟨_, rfl⟩
      have hD1 : 1 ≤ D := by omega
      have hD2 : D ≤ 100 := by omega
      have HL := Kept.mk (lat_iff.2 (show 1 ≤ D ∧ D ≤ 1048576 ∧ 0 ≤ a2 ∧ a2 ≤ 100000 by omega))
      have HP := Kept.mk (per_iff.2 (show (1 : Int) ≤ 1 ∧ (1 : Int) ≤ 1048576 ∧ 1 ≤ D ∧ D ≤ 1048576 by omega))
      have hN1 := (high_bd (e := D) (p := a2) (by omega) p0 p1).1
      have hN2 : highI D a2 < 801 := by unfold highI; exact div_lt_of (by omega) (by omega)
      obtain ⟨N, hN⟩ := Int.eq_ofNat_of_zero_le (show 0 ≤ highI D a2 by omega)
      have HI := Kept.mk (linv_zero (cx a0_0 a0_1 a0_2) D (highI D a2))
      rw [hN] at hN1 hN2 HI
      have HN := Kept.mk hN
      clear hN
      obtain ⟨k, hk⟩ : ∃ k : Nat, a3 % 50 = (k : Int) := ⟨(a3 % 50).toNat, by omega⟩
      have hk2 : k ≤ 49 := by omega
      go_wp2_with fail
      refine (latest_yes D a2 _ HL.out).mono ?_
      rintro e w' ⟨rfl, rfl⟩
      rw [HN.out]
      go_wp2_with fail
      refine (new_c 1 D _ HP.out).mono ?_
      rintro e wc ⟨rfl, rfl⟩
      have hB : w.heap.size < wb.heap.size := hz2
      have HT0 : Kept (LW w wb.heap.size w.heap.size a0_0 a0_1 a0_2 D N k 0 (new 1 D) (-1) (wb.alloc (.cells (wc (new 1 D)) 59))) := ⟨⟨HI.out k, Blk.new wb 59 _, HCb.out.alloc _, (((Below.refl _ _).alloc (Nat.le_refl _) _).trans (HBB.out.mono (by simp))).alloc (by omega) _⟩⟩
      obtain ⟨W1, hW1⟩ : ∃ W1, W1 = wb.alloc (.cells (wc (new 1 D)) 59) := ⟨_, rfl⟩
      rw [← hW1] at HT0 ⊢
      clear hW1 HBA HBB HCb hc0 hz2 HI
      obtain ⟨B, hBe⟩ : ∃ B, B = wb.heap.size := ⟨_, rfl⟩
      rw [← hBe] at HT0 hB ⊢
      clear hBe
      generalize new 1 D = st0 at *
      go_wp2_with fail
      try rw [hk]
      go_loopw [15, 71] (fun v15 v71 wr => ∃ (t : Nat) (st : St) (at_ : Int), t ≤ k + N + 20 ∧ v71 = .int .i64 t ∧ v15 = .int .i64 at_ ∧ Kept (LW w B w.heap.size a0_0 a0_1 a0_2 D N k t st at_ wr)) (fun _ v71 _ => k + N + 20 - (intOf v71).toNat)
      case atStart => exact ⟨0, st0, -1, by omega, rfl, rfl, HT0⟩
      case round =>
        obtain ⟨t, st, at_, ht, rfl, rfl, HT⟩ := hrel
        clear HT0
        by_cases hlt : t < k + N + 20
        · have HXV := Kept.mk (show_at (t := t) HV.out (by omega))
          have hXb := cx_bd HC.out t
          have hs0 := HC.out.s0
          have hs1 := HC.out.s1
          have HI := HT.out.inv
          rw [← HN.out] at HI
          have HIK := Kept.mk HI
          have HNX := linv_next HC.out HI hD1 (show t ≤ 1000 by omega)
          have HFT := linv_fit1 HC.out HI (show t ≤ 1000 by omega)
          have HQ := fun h1 h2 => linv_quiet HC.out HI hD1 h1 h2
          rw [HN.out] at HNX
          have HNXK := Kept.mk HNX
          have HFTK := Kept.mk HFT
          have HQK := Kept.mk HQ
          have hc0 := HT.out.c.cell 0 (v := .int .i64 a0_0) rfl
          have hc1 := HT.out.c.cell 1 (v := .int .i64 a0_1) rfl
          have hc2 := HT.out.c.cell 2 (v := .int .i64 a0_2) rfl
          have hCl := HT.out.c.lt
          have hwr := HT.out.below.size
          clear HI HNX HFT HQ
          obtain ⟨x, hx⟩ : ∃ x, cx a0_0 a0_1 a0_2 t = x := ⟨_, rfl⟩
          rw [hx] at HXV hXb HNXK HFTK HQK
          have x0 : 0 ≤ x := by omega
          have x1 : x ≤ 17179869184 := by omega
          clear hx
          rcases Nat.lt_trichotomy t k with h1 | h1 | h1
          · rw [s1_ne (by omega)] at HNXK HFTK HQK
            have q1 : ((t : Int) == (k : Int)) = false := beq_eq_false_iff_ne.2 (by omega)
            cases ha : alarmT st x with
            | true =>
              have hkd : ¬ (k : Int) ≤ D / 2 := fun h => by have := HQK.out (by omega) (.inr h); rw [ha] at this; cases this
              have HA := Kept.mk ha
              rw [ha, if_neg (by omega)] at HNXK
              clear ha
              go_wp2_with fail
              refine (show_c _ _ _ _ _).mono ?_
              rintro e w1 ⟨rfl, hb1⟩
              rw [HXV.out.1, HXV.out.2]
              have HB1 := Kept.mk (HT.out.b.new_ hb1)
              have HC1 := Kept.mk (HT.out.c.new_ hb1)
              have HL1 := Kept.mk (HT.out.below.trans (hb1.mono hwr))
              clear hb1
              go_wp2_with fail
              refine (tick_c st x _ B HB1.out HFTK.out x0 x1).mono ?_
              rintro e w3 ⟨rfl, h3, o3⟩
              rw [HA.out]
              have H3 := Kept.mk h3
              have HC3 := Kept.mk (HC1.out.only o3 (by omega))
              have HL3 : Kept (Below w.heap.size w w3) := ⟨HL1.out.trans (o3.below (B := w.heap.size) (by rintro j rfl; omega) HL1.out.size)⟩
              generalize sendT st x = sx
              generalize tick st x = s2 at *
              clear h3 o3
              go_wp2_with fail
              go_roundw
              case rel => exact ⟨t + 1, s2, at_, by omega, by go_num, rfl, ⟨⟨HNXK.out, H3.out, HC3.out, HL3.out⟩⟩⟩
              case measure => simp [intOf]; omega
            | false =>
              have HA := Kept.mk ha
              rw [ha, if_neg (by simp)] at HNXK
              clear ha
              go_wp2_with fail
              refine (show_c _ _ _ _ _).mono ?_
              rintro e w1 ⟨rfl, hb1⟩
              rw [HXV.out.1, HXV.out.2]
              have HB1 := Kept.mk (HT.out.b.new_ hb1)
              have HC1 := Kept.mk (HT.out.c.new_ hb1)
              have HL1 := Kept.mk (HT.out.below.trans (hb1.mono hwr))
              clear hb1
              go_wp2_with fail
              refine (tick_c st x _ B HB1.out HFTK.out x0 x1).mono ?_
              rintro e w3 ⟨rfl, h3, o3⟩
              rw [HA.out]
              have H3 := Kept.mk h3
              have HC3 := Kept.mk (HC1.out.only o3 (by omega))
              have HL3 : Kept (Below w.heap.size w w3) := ⟨HL1.out.trans (o3.below (B := w.heap.size) (by rintro j rfl; omega) HL1.out.size)⟩
              generalize sendT st x = sx
              generalize tick st x = s2 at *
              clear h3 o3
              go_wp2_with fail
              go_roundw
              case rel => exact ⟨t + 1, s2, at_, by omega, by go_num, rfl, ⟨⟨HNXK.out, H3.out, HC3.out, HL3.out⟩⟩⟩
              case measure => simp [intOf]; omega
          · rw [s1_eq h1] at HNXK HFTK HQK
            have q1 : ((t : Int) == (k : Int)) = true := by simp [h1]
            have HA := Kept.mk (HQK.out (by omega) (.inl h1))
            rw [HA.out, if_neg (by simp)] at HNXK
            have h1' : t ≤ k := by omega
            clear h1
            go_wp2_with fail
            refine (show_c _ _ _ _ _).mono ?_
            rintro e w1 ⟨rfl, hb1⟩
            rw [HXV.out.1, HXV.out.2]
            have HB1 := Kept.mk (HT.out.b.new_ hb1)
            have HC1 := Kept.mk (HT.out.c.new_ hb1)
            have HL1 := Kept.mk (HT.out.below.trans (hb1.mono hwr))
            clear hb1
            go_wp2_with fail
            refine (heard_c st x _ B HB1.out).mono ?_
            rintro e w2 ⟨rfl, h2, o2⟩
            have H2 := Kept.mk h2
            have HC2 := Kept.mk (HC1.out.only o2 (by omega))
            have HL2 : Kept (Below w.heap.size w w2) := ⟨HL1.out.trans (o2.below (B := w.heap.size) (by rintro j rfl; omega) HL1.out.size)⟩
            clear h2 o2
            go_wp2_with fail
            refine (tick_c (heard st x) x _ B H2.out HFTK.out x0 x1).mono ?_
            rintro e w3 ⟨rfl, h3, o3⟩
            rw [HA.out]
            have H3 := Kept.mk h3
            have HC3 := Kept.mk (HC2.out.only o3 (by omega))
            have HL3 : Kept (Below w.heap.size w w3) := ⟨HL2.out.trans (o3.below (B := w.heap.size) (by rintro j rfl; omega) HL2.out.size)⟩
            generalize sendT (heard st x) x = sx
            generalize tick (heard st x) x = s2 at *
            clear h3 o3
            go_wp2_with fail
            go_roundw
            case rel => exact ⟨t + 1, s2, at_, by omega, by go_num, rfl, ⟨⟨HNXK.out, H3.out, HC3.out, HL3.out⟩⟩⟩
            case measure => simp [intOf]; omega
          · rw [s1_ne (by omega)] at HNXK HFTK HQK
            have q1 : ((t : Int) == (k : Int)) = false := beq_eq_false_iff_ne.2 (by omega)
            cases ha : alarmT st x with
            | true =>
              have HA := Kept.mk ha
              rw [ha, if_pos ⟨rfl, h1⟩] at HNXK
              clear ha
              go_wp2_with fail
              refine (show_c _ _ _ _ _).mono ?_
              rintro e w1 ⟨rfl, hb1⟩
              rw [HXV.out.1, HXV.out.2]
              have HB1 := Kept.mk (HT.out.b.new_ hb1)
              have HC1 := Kept.mk (HT.out.c.new_ hb1)
              have HL1 := Kept.mk (HT.out.below.trans (hb1.mono hwr))
              clear hb1
              go_wp2_with fail
              refine (tick_c st x _ B HB1.out HFTK.out x0 x1).mono ?_
              rintro e w3 ⟨rfl, h3, o3⟩
              rw [HA.out]
              have H3 := Kept.mk h3
              have HC3 := Kept.mk (HC1.out.only o3 (by omega))
              have HL3 : Kept (Below w.heap.size w w3) := ⟨HL1.out.trans (o3.below (B := w.heap.size) (by rintro j rfl; omega) HL1.out.size)⟩
              generalize sendT st x = sx
              generalize tick st x = s2 at *
              clear h3 o3
              go_wp2_with fail
              go_roundw
              case rel => exact ⟨t + 1, s2, (t : Int), by omega, by go_num, rfl, ⟨⟨HNXK.out, H3.out, HC3.out, HL3.out⟩⟩⟩
              case measure => simp [intOf]; omega
            | false =>
              have HA := Kept.mk ha
              rw [ha, if_neg (by simp)] at HNXK
              clear ha
              go_wp2_with fail
              refine (show_c _ _ _ _ _).mono ?_
              rintro e w1 ⟨rfl, hb1⟩
              rw [HXV.out.1, HXV.out.2]
              have HB1 := Kept.mk (HT.out.b.new_ hb1)
              have HC1 := Kept.mk (HT.out.c.new_ hb1)
              have HL1 := Kept.mk (HT.out.below.trans (hb1.mono hwr))
              clear hb1
              go_wp2_with fail
              refine (tick_c st x _ B HB1.out HFTK.out x0 x1).mono ?_
              rintro e w3 ⟨rfl, h3, o3⟩
              rw [HA.out]
              have H3 := Kept.mk h3
              have HC3 := Kept.mk (HC1.out.only o3 (by omega))
              have HL3 : Kept (Below w.heap.size w w3) := ⟨HL1.out.trans (o3.below (B := w.heap.size) (by rintro j rfl; omega) HL1.out.size)⟩
              generalize sendT st x = sx
              generalize tick st x = s2 at *
              clear h3 o3
              go_wp2_with fail
              go_roundw
              case rel => exact ⟨t + 1, s2, at_, by omega, by go_num, rfl, ⟨⟨HNXK.out, H3.out, HC3.out, HL3.out⟩⟩⟩
              case measure => simp [intOf]; omega
        · have he : (k : Int) < at_ ∧ at_ ≤ (k : Int) + N + 1 := by
            have := linv_end HC.out (by rw [HN.out]; exact HT.out.inv) (by rw [HN.out]; omega) (by rw [HN.out]; omega)
            rw [HN.out] at this
            exact this
          obtain ⟨he1, he2⟩ := he
          go_wp2_with fail
          go_ret
          exact ⟨by first | rfl | simp, HT.out.below⟩

set_option maxRecDepth 100000 in
theorem liftedKeepaliveLate (os : Os) (started : os.Started) (H : Type) (enc : TypeId × Value → H) :
    ReturnsInHanded {} Try.checked os 9 .any (Rows.keepaliveLateSpec.pre6 enc Try.prog Try.f9 Rows.keepaliveLateRow.domain false) (Rows.keepaliveLateSpec.post enc Try.prog Try.f9 false true false false) := by
  refine returnsInHanded_of_change (C := Try.checked) own started (by kernel_rfl) Try.func9
    (ChangeSpec.witness6 (enc := enc) (C := Try.checked) false ⟨#[], #[.agg #[.int .i64 0, .int .i64 0, .int .i64 0], .int .u8 0, .int .i64 0, .int .u8 0], []⟩ 8 (by kernel_rfl) (by kernel_rfl) (by kernel_rfl) (by kernel_rfl)) ?_
  intro W base args ds gs before hval0 hW hcnd _
  have hval : ∀ (j : Nat) t v, Try.f9.params[j]? = some t → args[j]? = some v → Value.okWide Try.prog W .any base t v := hval0
  have hW' := hW
  obtain ⟨p, q, hA0, hV, rfl, hfz, hnd⟩ := hW
  have hA : DataW.TrodAll enc Try.prog W 0 (fun _ => true) true Try.f9.params.toList args.toList ds p := hA0
  rw [Try.params9] at hA hval
  obtain ⟨v0, vs0, d0, ds0, p0, q0, hargs, rfl, rfl, h0, r0⟩ := trodAll_cons hA
  obtain ⟨v1, vs1, d1, ds1, p1, q1, rfl, rfl, rfl, h1, r1⟩ := trodAll_cons r0
  obtain ⟨v2, vs2, d2, ds2, p2, q2, rfl, rfl, rfl, h2, r2⟩ := trodAll_cons r1
  obtain ⟨v3, vs3, d3, ds3, p3, q3, rfl, rfl, rfl, h3, r3⟩ := trodAll_cons r2
  obtain ⟨rfl, rfl, rfl⟩ := trodAll_nil r3
  obtain rfl : args = #[v0, v1, v2, v3] := by cases args; simp_all
  obtain ⟨rfl, rfl⟩ := trodVars_none hV
  have k0 := h0
  have lt0 : ∀ x ∈ p0, x.block < W.heap.size := by obtain ⟨m, hm⟩ := k0; exact DataW.trod_lt m _ _ _ hm
  have k1 := h1
  have lt1 : ∀ x ∈ p1, x.block < W.heap.size := by obtain ⟨m, hm⟩ := k1; exact DataW.trod_lt m _ _ _ hm
  have k2 := h2
  have lt2 : ∀ x ∈ p2, x.block < W.heap.size := by obtain ⟨m, hm⟩ := k2; exact DataW.trod_lt m _ _ _ hm
  have k3 := h3
  have lt3 : ∀ x ∈ p3, x.block < W.heap.size := by obtain ⟨m, hm⟩ := k3; exact DataW.trod_lt m _ _ _ hm
  obtain ⟨c0_0, c0_1, c0_2, y0_0, y0_1, y0_2, m0, rfl, -, -, hy0_0, hy0_1, hy0_2⟩ := Joins.open_agg3 Try.underlying52 (by kernel_rfl) (show Try.prog.cellsOf 52 = 3 by kernel_rfl) (hval 0 52 v0 rfl rfl) h0
  obtain ⟨a0_0, e0_0, -, w0_0⟩ := DataW.trod_int Try.underlying3 hy0_0
  simp only [List.cons.injEq, and_true] at e0_0; subst e0_0
  obtain ⟨a0_1, e0_1, -, w0_1⟩ := DataW.trod_int Try.underlying3 hy0_1
  simp only [List.cons.injEq, and_true] at e0_1; subst e0_1
  obtain ⟨a0_2, e0_2, -, w0_2⟩ := DataW.trod_int Try.underlying3 hy0_2
  simp only [List.cons.injEq, and_true] at e0_2; subst e0_2
  obtain ⟨a1, rfl, -, -, w1⟩ := open_int Try.underlying5 (hval 1 5 v1 rfl rfl) h1
  obtain ⟨a2, rfl, -, -, w2⟩ := open_int Try.underlying3 (hval 2 3 v2 rfl rfl) h2
  obtain ⟨a3, rfl, -, -, w3⟩ := open_int Try.underlying5 (hval 3 5 v3 rfl rfl) h3
  clear hA0 hval0
  refine (walkKeepaliveLate a0_0 a0_1 a0_2 a1 a2 a3 W w0_0 w0_1 w0_2 w1 w2 w3).mono fun e W' ⟨he, bel⟩ => ?_
  subst he
  exact ⟨_, rfl, _, _, _, [], _, [], hW', trodAll_mk1 (shut_bool Try.underlying4 _), (trodAll_cons_mk (Below.trod laidOut (by kernel_rfl) (of_decide_eq_true (by kernel_rfl)) k0 bel lt0) (trodAll_cons_mk (Below.trod laidOut (by kernel_rfl) (of_decide_eq_true (by kernel_rfl)) k1 bel lt1) (trodAll_cons_mk (Below.trod laidOut (by kernel_rfl) (of_decide_eq_true (by kernel_rfl)) k2 bel lt2) (trodAll_cons_mk (Below.trod laidOut (by kernel_rfl) (of_decide_eq_true (by kernel_rfl)) k3 bel lt3) trodAll_mk0)))), rfl, bel.frame _, fun h => by cases h⟩
/-- The given statement. -/
theorem keepaliveLate_holds : Rows.KeepaliveLateSaid :=
  OpenClaim.holds_of_wide 9 Try.f9 rfl rfl rfl rfl rfl rfl rfl ⟨rfl, rfl, rfl, rfl, rfl⟩ rfl rfl rfl rfl rfl (by kernel_rfl) Try.func9 (by kernel_rfl)
    (of_decide_eq_true (by kernel_rfl)) (by unfold Func.isWrapper; first | (rw [if_pos (by decide +kernel)]; kernel_rfl) | (rw [if_neg (by decide +kernel)]; exact ⟨rfl, rfl⟩))
    (fun os started H enc _ => liftedKeepaliveLate os started H enc)
#print axioms keepaliveLate_holds
end Go.Proofs.Ythkilfainkcmgaa
