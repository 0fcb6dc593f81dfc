/- For all rooms and operations the statement SetupPrefix returns true: the reservations are at the first hops, without gaps. No condition. -/
import Derived.Test.YtnmgnggchgckoaaBase
import Derived.Test.YtnmgnggchgckoaaOps
namespace Go.Proofs.Ytnmgnggchgckoaa
open Go.ChangeShapes Go.WideShapes Go.ChangeAt Go.RowKit
set_option linter.unusedVariables false
set_option linter.unusedSimpArgs false
theorem prefix_at {c : Ch} {fly : List Msg} (h : Inv c fly) {i : Nat} (hi : i < c.n) (h0 : 0 < i) (hh : heldB (c.st i) = true) : heldB (c.st (i - 1)) = true := by
  have := h.pair (i - 1) (by omega)
  rw [show i - 1 + 1 = i by omega] at this
  simp only [heldB, Bool.or_eq_true, beq_iff_eq] at hh ⊢
  unfold P0 at this
  omega
theorem joined_at {c : Ch} {fly : List Msg} (h : Inv c fly) {i : Nat} (hi : i < c.n) (h0 : 0 < i) (hh : c.st (i - 1) = 2) : c.st i = 2 := by
  have := h.pair (i - 1) (by omega)
  rw [show i - 1 + 1 = i by omega] at this
  unfold P0 at this
  omega
theorem left_held {c : Ch} {i : Nat} (hi : i < c.n) (hh : heldB (c.st i) = true) : leftP c i = c.room i - c.need := by
  have hb : c.hasB i = true := hasB_iff.2 ⟨by omega, by omega⟩
  simp [leftP, hb, hh]
theorem left_free {c : Ch} {i : Nat} (hi : i < c.n) (hh : heldB (c.st i) = false) : leftP c i = c.room i := by
  have hb : c.hasB i = true := hasB_iff.2 ⟨by omega, by omega⟩
  simp [leftP, hb, hh]
theorem state_at {c : Ch} {i : Nat} (hi : i < c.n) : stateP c i = c.st i := by
  have hb : c.hasB i = true := hasB_iff.2 ⟨by omega, by omega⟩
  simp [stateP, hb]
theorem held_res {c : Ch} {fly : List Msg} (h : Inv c fly) {i : Nat} (hi : i < c.n) (hh : heldB (c.st i) = true) : c.need ≤ c.room i :=
  h.res i hi (by simp only [heldB, Bool.or_eq_true, beq_iff_eq] at hh; omega)
set_option maxRecDepth 100000 in
set_option maxHeartbeats 8000000 in
theorem walkSetupPrefix (a0 : Option Addr) (len0 cap0 : Nat) (a1 : Int) (a2 : Option Addr) (len2 cap2 : Nat) (w : World) (w0 : IsRows w 1 IsByte a0 len0 cap0) (w1 : (Lit.int .u8 a1).wf = true) (w2 : IsRows w 5 IsOp a2 len2 cap2) :
    Calls Try.prog 8 #[.slice a0 len0 cap0, .int .u8 a1, .slice a2 len2 cap2] w fun e w' => e = .returned (.bool true) ∧ Below w.heap.size w w' := by
  obtain ⟨n0, n1⟩ := bounds_u8 w1
  have hmax0 := w0.2.1
  have hcap0 := w0.1
  obtain ⟨hcap, hmax, hrow⟩ := w2
  unfold maxLen at hmax hmax0
  obtain ⟨bs, rfl, hbs, hr⟩ := rows_bytes w0
  have HR := Kept.mk hr
  have HBS := Kept.mk hbs
  have HROW := Kept.mk hrow
  clear w0 w1 hr hbs hrow
  by_cases hl : 120 < len2 ∨ 16 < bs.length
  · have hl2 : 120 < len2 ∨ (¬ 120 < len2 ∧ 16 < bs.length) := by omega
    clear hl
    rcases hl2 with hl | ⟨hl, hl3⟩
    all_goals
      go_enter Try.func8, Try.ntmps8
      go_wp2_with fail
      refine (awake_c _).mono ?_
      rintro e wa ⟨rfl, hba⟩
      have HBA := Kept.mk hba
      clear hba
      go_wp2_with fail
      refine (awake_c _).mono ?_
      rintro e wb ⟨rfl, hbb⟩
      have HBB := Kept.mk (join HBA.out hbb)
      clear hbb
      go_wp2_with fail
      go_ret
      exact ⟨rfl, HBB.out⟩
  · have hl1 : len2 ≤ 120 := by omega
    have hl3 : bs.length ≤ 16 := by omega
    clear hl
    have HF := Kept.mk (chainL_fits (bs := bs) n0)
    have hll : (chainL bs).length ≤ 8 := by rw [chainL_len]; omega
    have hnd0 : 1 ≤ 1 + a1 % 4 := by omega
    have hnd1 : 1 + a1 % 4 ≤ 4 := by omega
    go_enter Try.func8, Try.ntmps8
    go_wp2_with fail
    refine (awake_c _).mono ?_
    rintro e wa ⟨rfl, hba⟩
    have HBA := Kept.mk hba
    have HRa := Kept.mk (HR.out.below hba)
    have hza := hba.size
    clear hba
    go_wp2_with fail
    refine (chain_c bs a0 cap0 a1 _ (HRa.out.more hza) HBS.out n0 n1 (by omega)).mono ?_
    rintro e wb ⟨L, A, kap, B, rfl, hch⟩
    have HT0 : Kept (OpW w L A B wb.heap.size (chainL bs) (1 + a1 % 4) (start0 5 (chainL bs) (1 + a1 % 4)) [] (.slice none 0 0) wb) := ⟨(opW_start HF.out hch).rebase HBA.out⟩
    have hlow := HT0.out.low
    clear hch
    generalize start0 5 (chainL bs) (1 + a1 % 4) = c0 at *
    generalize chainL bs = l at *
    generalize 1 + a1 % 4 = need at *
    generalize wb.heap.size = B2 at *
    go_wp2_with fail
    go_loopw [10, 39] (fun v10 v39 wr => ∃ (k : Nat) (c : Ch) (fly : List Msg), k ≤ len2 ∧ v39 = .int .i64 k ∧ Kept (OpW w L A B B2 l need c fly v10 wr)) (fun _ v39 _ => len2 - (intOf v39).toNat)
    case atStart => exact ⟨0, c0, [], by omega, rfl, HT0⟩
    case round =>
      obtain ⟨k, c, fly, hk, rfl, HT⟩ := hrel
      clear HT0
      by_cases hlt : k < len2
      · obtain ⟨bb, off, rfl, hbb, hel⟩ := HROW.out (by omega)
        obtain ⟨cs, ⟨kind, nn, m1, m2, m3, rfl⟩, hcell⟩ := hel k hlt
        have hbl := HT.out.below
        have hsz := hbl.size
        have g0 := (hbl.cell (p := ⟨bb, off + k * 5 + 0, none⟩) hbb).trans (hcell 0 _ rfl)
        have g1 := (hbl.cell (p := ⟨bb, off + k * 5 + 1, none⟩) hbb).trans (hcell 1 _ rfl)
        have g2 := (hbl.cell (p := ⟨bb, off + k * 5 + 2, none⟩) hbb).trans (hcell 2 _ rfl)
        have g3 := (hbl.cell (p := ⟨bb, off + k * 5 + 3, none⟩) hbb).trans (hcell 3 _ rfl)
        have g4 := (hbl.cell (p := ⟨bb, off + k * 5 + 4, none⟩) hbb).trans (hcell 4 _ rfl)
        rw [Nat.add_zero] at g0
        have HTA := Kept.mk (HT.out.new_ ((Below.refl _ _).alloc (Nat.le_refl _) (.cells #[.int .i64 kind, .int .i64 nn, .int .i64 m1, .int .i64 m2, .int .i64 m3] 46)))
        clear hbl hel hcell
        rcases bool_int kind 6 with ⟨q1, q2⟩ | ⟨q1, q2⟩
        · obtain rfl : kind = 6 := by simpa using q1
          clear q1 q2
          go_wp2_with fail
          go_roundw
          case rel => exact ⟨k + 1, c, fly, by omega, by go_num, HTA⟩
          case measure => simp [intOf]; omega
        · obtain ⟨AF, kf, rfl⟩ := own_slice HT.out.own
          go_wp2_with fail
          refine (step_c c fly AF kf kind nn m1 m2 m3 _ L B2 HTA.out.ch HTA.out.own HTA.out.big HTA.out.low (by have := HTA.out.len; omega)).mono ?_
          rintro e ws ⟨i, v', hi, rfl, ho, hc, hO⟩
          have HTS := Kept.mk (opW_step HTA.out hi ho hc hO)
          clear hi ho hc hO HTA HT g0 g1 g2 g3 g4
          generalize (stepAt c fly kind i).1 = c2 at *
          generalize (stepAt c fly kind i).2 = fly2 at *
          go_wp2_with fail
          go_loopw [52] (fun v52 wd => ∃ j : Nat, j ≤ l.length ∧ v52 = .int .i64 j ∧ Kept (Drewn ws wd)) (fun v52 _ => l.length - (intOf v52).toNat)
          case atStart => exact ⟨0, by omega, rfl, ⟨⟨0, rfl⟩⟩⟩
          case round =>
            obtain ⟨j, hj, rfl, HD⟩ := hrel
            have HTD := Kept.mk (HD.out.opW HTS.out)
            by_cases hjl : j < l.length
            · obtain ⟨ad, v, rfl, hadb, hx, hcl⟩ := HTD.out.list.at_ hjl
              rw [iv_get hjl] at hx
              injection hx with hx
              subst hx
              have hjn : j < c2.n := by rw [HTD.out.n]; exact hjl
              have hrj : c2.room j = l.getD j 0 := by unfold Ch.room; rw [HTD.out.rooms]
              have hcn := HTD.out.need
              have HLH := Kept.mk (fun h => left_held (c := c2) hjn h)
              have HLF := Kept.mk (fun h => left_free (c := c2) hjn h)
              have HRS := Kept.mk (fun h => held_res HTD.out.inv hjn h)
              have HRM := HTD.out.ch.ok.room j hjn
              rw [hrj, hcn] at HLH HRS
              rw [hrj] at HLF HRM
              have HSJ := Kept.mk (state_at hjn)
              have HJ := Kept.mk (fun h0 => joined_at HTD.out.inv hjn h0)
              have HP := Kept.mk (fun h0 => prefix_at HTD.out.inv hjn h0)
              have HJN := Kept.mk hjn
              clear hrj hcn hjn
              obtain ⟨lj, hlj⟩ : ∃ lj, leftP c2 j = lj := ⟨_, rfl⟩
              obtain ⟨sj, hsj⟩ : ∃ sj, c2.st j = sj := ⟨_, rfl⟩
              rw [hlj] at HLH HLF
              rw [hsj] at HLH HLF HRS HSJ HJ HP
              have HLJ := Kept.mk hlj
              clear hlj hsj
              generalize l.getD j 0 = r at *
              by_cases h0 : 0 < j
              · cases hh : heldB sj with
                | true =>
                  obtain rfl : lj = r - need := HLH.out hh
                  have hres := HRS.out hh
                  have p1 : ((r - need) != r) = true := by simp; omega
                  obtain ⟨p, hjp⟩ : ∃ p, j - 1 = p := ⟨_, rfl⟩
                  have hp1 : p < l.length := by omega
                  have hpn : p < c2.n := by have := HJN.out; omega
                  have hph : heldB (c2.st p) = true := by have := HP.out h0 hh; rwa [hjp] at this
                  have HLP : Kept (leftP c2 p = c2.room p - c2.need) := ⟨left_held hpn hph⟩
                  have hrp : c2.room p = l.getD p 0 := by unfold Ch.room; rw [HTD.out.rooms]
                  rw [hrp, HTD.out.need] at HLP
                  obtain ⟨v2, hx2, hcl2⟩ : ∃ v, (iv l)[p]? = some v ∧ wr.cell? (ad.add p) = some v := by
                    obtain ⟨ad', v, e1, -, hx, hc⟩ := HTD.out.list.at_ hp1
                    injection e1 with e1
                    subst e1
                    exact ⟨v, hx, hc⟩
                  rw [iv_get hp1] at hx2
                  injection hx2 with hx2
                  subst hx2
                  have HSP := Kept.mk (state_at hpn)
                  have HJP := Kept.mk (HJ.out h0)
                  have HRP := HTD.out.ch.ok.room p hpn
                  rw [hrp] at HRP
                  clear hrp hpn hph
                  generalize l.getD p 0 = rp at *
                  have p3 : ((rp - need) == rp) = false := by simp; omega
                  obtain ⟨sp, hsp⟩ : ∃ sp, c2.st p = sp := ⟨_, rfl⟩
                  rw [hsp] at HSP
                  rw [hjp] at HJP
                  rw [hsp] at HJP
                  clear hsp
                  have e1 : (j : Int) - 1 = (p : Int) := by omega
                  clear hjp
                  go_wp2_with fail
                  refine (left_c c2 j _ L HTD.out.ch).mono ?_
                  rintro e w5x ⟨rfl, n, rfl⟩
                  rw [HLJ.out]
                  have hcl5 : (wr.drewN n).cell? (ad.add j) = some (.int .i64 r) := hcl
                  have HD5 := Kept.mk (HD.out.step n)
                  have HT5 := Kept.mk (HTD.out.drewN n)
                  have hcl6 : (wr.drewN n).cell? (ad.add p) = some (.int .i64 rp) := hcl2
                  obtain ⟨w5, hw5⟩ : ∃ w5, w5 = wr.drewN n := ⟨_, rfl⟩
                  rw [← hw5] at hcl5 HD5 HT5 hcl6 ⊢
                  clear hw5 hcl
                  go_wp2_with fail
                  go_quiet ((go_at_call 14; exact Calls.quiet_of ((left_c c2 p _ L (HT5.out.ch.drewN _)).mono fun _ _ h => ⟨h.1.trans (by rw [HLP.out]), h.2⟩)))
                  rename_i nq
                  have HT6 := Kept.mk (HT5.out.drewN nq)
                  have HD6 := Kept.mk (HD5.out.step nq)
                  go_wp2_with fail
                  refine (state_c c2 p _ L HT6.out.ch).mono ?_
                  rintro e w6 ⟨rfl, rfl⟩
                  rw [HSP.out]
                  by_cases h2 : sp = 2
                  · have hs2 := HJP.out h2
                    subst h2
                    subst hs2
                    go_wp2_with fail
                    refine (state_c c2 _ _ L HT6.out.ch).mono ?_
                    rintro e w6 ⟨rfl, rfl⟩
                    rw [HSJ.out]
                    go_wp2_with fail
                    go_roundw
                    case rel => exact ⟨j + 1, by omega, by go_num, HD6⟩
                    case measure => simp [intOf]; omega
                  · have p4 : (sp == 2) = false := by simpa using h2
                    clear h2
                    go_wp2_with fail
                    go_roundw
                    case rel => exact ⟨j + 1, by omega, by go_num, HD6⟩
                    case measure => simp [intOf]; omega
                | false =>
                  obtain rfl : r = lj := (HLF.out hh).symm
                  obtain ⟨p, hjp⟩ : ∃ p, j - 1 = p := ⟨_, rfl⟩
                  have hpn : p < c2.n := by have := HJN.out; omega
                  have HSP := Kept.mk (state_at hpn)
                  have HJP := Kept.mk (HJ.out h0)
                  clear hpn
                  obtain ⟨sp, hsp⟩ : ∃ sp, c2.st p = sp := ⟨_, rfl⟩
                  rw [hsp] at HSP
                  rw [hjp] at HJP
                  rw [hsp] at HJP
                  clear hsp
                  have e1 : (j : Int) - 1 = (p : Int) := by omega
                  clear hjp
                  go_wp2_with fail
                  refine (left_c c2 j _ L HTD.out.ch).mono ?_
                  rintro e w5x ⟨rfl, n, rfl⟩
                  rw [HLJ.out]
                  have hcl5 : (wr.drewN n).cell? (ad.add j) = some (.int .i64 r) := hcl
                  have HD5 := Kept.mk (HD.out.step n)
                  have HT5 := Kept.mk (HTD.out.drewN n)

                  obtain ⟨w5, hw5⟩ : ∃ w5, w5 = wr.drewN n := ⟨_, rfl⟩
                  rw [← hw5] at hcl5 HD5 HT5 ⊢
                  clear hw5 hcl
                  go_wp2_with fail
                  go_quiet (fail)
                  rename_i nq
                  have HT6 := Kept.mk (HT5.out.drewN nq)
                  have HD6 := Kept.mk (HD5.out.step nq)
                  go_wp2_with fail
                  refine (state_c c2 p _ L HT6.out.ch).mono ?_
                  rintro e w6 ⟨rfl, rfl⟩
                  rw [HSP.out]
                  by_cases h2 : sp = 2
                  · have hs2 := HJP.out h2
                    subst h2
                    subst hs2
                    go_wp2_with fail
                    refine (state_c c2 _ _ L HT6.out.ch).mono ?_
                    rintro e w6 ⟨rfl, rfl⟩
                    rw [HSJ.out]
                    go_wp2_with fail
                    go_roundw
                    case rel => exact ⟨j + 1, by omega, by go_num, HD6⟩
                    case measure => simp [intOf]; omega
                  · have p4 : (sp == 2) = false := by simpa using h2
                    clear h2
                    go_wp2_with fail
                    go_roundw
                    case rel => exact ⟨j + 1, by omega, by go_num, HD6⟩
                    case measure => simp [intOf]; omega
              · cases hh : heldB sj with
                | true =>
                  obtain rfl : lj = r - need := HLH.out hh
                  have hres := HRS.out hh
                  have p1 : ((r - need) != r) = true := by simp; omega
                  go_wp2_with fail
                  refine (left_c c2 j _ L HTD.out.ch).mono ?_
                  rintro e w5x ⟨rfl, n, rfl⟩
                  rw [HLJ.out]
                  have hcl5 : (wr.drewN n).cell? (ad.add j) = some (.int .i64 r) := hcl
                  have HD5 := Kept.mk (HD.out.step n)
                  have HT5 := Kept.mk (HTD.out.drewN n)

                  obtain ⟨w5, hw5⟩ : ∃ w5, w5 = wr.drewN n := ⟨_, rfl⟩
                  rw [← hw5] at hcl5 HD5 HT5 ⊢
                  clear hw5 hcl
                  go_wp2_with fail
                  go_quiet (fail)
                  go_wp2_with fail
                  go_roundw
                  case rel => exact ⟨j + 1, by omega, by go_num, ⟨HD5.out.step _⟩⟩
                  case measure => simp [intOf]; omega
                | false =>
                  obtain rfl : r = lj := (HLF.out hh).symm
                  go_wp2_with fail
                  refine (left_c c2 j _ L HTD.out.ch).mono ?_
                  rintro e w5x ⟨rfl, n, rfl⟩
                  rw [HLJ.out]
                  have hcl5 : (wr.drewN n).cell? (ad.add j) = some (.int .i64 r) := hcl
                  have HD5 := Kept.mk (HD.out.step n)
                  have HT5 := Kept.mk (HTD.out.drewN n)

                  obtain ⟨w5, hw5⟩ : ∃ w5, w5 = wr.drewN n := ⟨_, rfl⟩
                  rw [← hw5] at hcl5 HD5 HT5 ⊢
                  clear hw5 hcl
                  go_wp2_with fail
                  go_quiet (fail)
                  go_wp2_with fail
                  go_roundw
                  case rel => exact ⟨j + 1, by omega, by go_num, ⟨HD5.out.step _⟩⟩
                  case measure => simp [intOf]; omega
            · obtain rfl : j = l.length := by omega
              go_wp2_with fail
              go_roundw
              case rel => exact ⟨k + 1, c2, fly2, by omega, by go_num, HTD⟩
              case measure => simp [intOf]; omega
      · obtain rfl : k = len2 := by omega
        go_wp2_with fail
        go_ret
        exact ⟨rfl, HT.out.below⟩

set_option maxRecDepth 100000 in
theorem liftedSetupPrefix (os : Os) (started : os.Started) (H : Type) (enc : TypeId × Value → H) :
    ReturnsInHanded {} Try.checked os 8 .any (Rows.setupPrefixSpec.pre6 enc Try.prog Try.f8 Rows.setupPrefixRow.domain false) (Rows.setupPrefixSpec.post enc Try.prog Try.f8 false true false false) := by
  refine returnsInHanded_of_change (C := Try.checked) own started (by kernel_rfl) Try.func8
    (ChangeSpec.witness6 (enc := enc) (C := Try.checked) false ⟨#[], #[.slice none 0 0, .int .u8 0, .slice none 0 0], []⟩ 8 (by kernel_rfl) (by kernel_rfl) (by kernel_rfl) (by kernel_rfl)) ?_
  intro W base args ds gs before hval0 hW hcnd _
  have hval : ∀ (j : Nat) t v, Try.f8.params[j]? = some t → args[j]? = some v → Value.okWide Try.prog W .any base t v := hval0
  have hW' := hW
  obtain ⟨p, q, hA0, hV, rfl, hfz, hnd⟩ := hW
  have hA : DataW.TrodAll enc Try.prog W 0 (fun _ => true) true Try.f8.params.toList args.toList ds p := hA0
  rw [Try.params8] at hA hval
  obtain ⟨v0, vs0, d0, ds0, p0, q0, hargs, rfl, rfl, h0, r0⟩ := trodAll_cons hA
  obtain ⟨v1, vs1, d1, ds1, p1, q1, rfl, rfl, rfl, h1, r1⟩ := trodAll_cons r0
  obtain ⟨v2, vs2, d2, ds2, p2, q2, rfl, rfl, rfl, h2, r2⟩ := trodAll_cons r1
  obtain ⟨rfl, rfl, rfl⟩ := trodAll_nil r2
  obtain rfl : args = #[v0, v1, v2] := by cases args; simp_all
  obtain ⟨rfl, rfl⟩ := trodVars_none hV
  have k0 := h0
  have lt0 : ∀ x ∈ p0, x.block < W.heap.size := by obtain ⟨m, hm⟩ := k0; exact DataW.trod_lt m _ _ _ hm
  have k1 := h1
  have lt1 : ∀ x ∈ p1, x.block < W.heap.size := by obtain ⟨m, hm⟩ := k1; exact DataW.trod_lt m _ _ _ hm
  have k2 := h2
  have lt2 : ∀ x ∈ p2, x.block < W.heap.size := by obtain ⟨m, hm⟩ := k2; exact DataW.trod_lt m _ _ _ hm
  obtain ⟨a0, len0, cap0, rfl⟩ := okWide_slice Try.underlying32 (hval 0 32 v0 rfl rfl)
  have w0 : IsRows W 1 IsByte a0 len0 cap0 := open_rows Try.underlying32 (show Try.prog.cellsOf 5 = 1 by kernel_rfl) (by decide) isByte h0
  obtain ⟨a1, rfl, -, -, w1⟩ := open_int Try.underlying5 (hval 1 5 v1 rfl rfl) h1
  obtain ⟨a2, len2, cap2, rfl⟩ := okWide_slice Try.underlying44 (hval 2 44 v2 rfl rfl)
  have w2 : IsRows W 5 IsOp a2 len2 cap2 := open_rows Try.underlying44 (show Try.prog.cellsOf 46 = 5 by kernel_rfl) (by decide) isOp h2
  clear hA0 hval0
  refine (walkSetupPrefix a0 len0 cap0 a1 a2 len2 cap2 W w0 w1 w2).mono fun e W' ⟨he, bel⟩ => ?_
  subst he
  exact ⟨_, rfl, _, _, _, [], _, [], hW', trodAll_mk1 (shut_bool Try.underlying4 _), (trodAll_cons_mk (Below.trod laidOut (by kernel_rfl) (of_decide_eq_true (by kernel_rfl)) k0 bel lt0) (trodAll_cons_mk (Below.trod laidOut (by kernel_rfl) (of_decide_eq_true (by kernel_rfl)) k1 bel lt1) (trodAll_cons_mk (Below.trod laidOut (by kernel_rfl) (of_decide_eq_true (by kernel_rfl)) k2 bel lt2) trodAll_mk0))), rfl, bel.frame _, fun h => by cases h⟩
/-- The given statement. -/
theorem setupPrefix_holds : Rows.SetupPrefixSaid :=
  OpenClaim.holds_of_wide 8 Try.f8 rfl rfl rfl rfl rfl rfl rfl ⟨rfl, rfl, rfl, rfl, rfl⟩ rfl rfl rfl rfl rfl (by kernel_rfl) Try.func8 (by kernel_rfl)
    (of_decide_eq_true (by kernel_rfl)) (by unfold Func.isWrapper; first | (rw [if_pos (by decide +kernel)]; kernel_rfl) | (rw [if_neg (by decide +kernel)]; exact ⟨rfl, rfl⟩))
    (fun os started H enc _ => liftedSetupPrefix os started H enc)
#print axioms setupPrefix_holds
end Go.Proofs.Ytnmgnggchgckoaa
