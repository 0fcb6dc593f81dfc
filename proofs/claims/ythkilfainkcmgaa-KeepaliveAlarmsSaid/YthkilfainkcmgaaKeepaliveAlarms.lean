/- For all arguments the statement KeepaliveAlarms returns true: between two signs there is at most one alarm. No condition. -/
import Derived.Test.YthkilfainkcmgaaBase
namespace Go.Proofs.Ythkilfainkcmgaa
open Go.ChangeShapes Go.WideShapes Go.ChangeAt Go.RowKit
set_option linter.unusedVariables false
set_option linter.unusedSimpArgs false
/-- The watch behind the last sign, at the reading now, and i - 1 ticks. -/
structure AInv (d now want : Int) (i : Nat) (s : St) : Prop where
  dead : s.dead = d
  any : s.any = true
  last : s.last = now
  cur : s.now = now + i
  alarmed : s.alarmed = decide (d < i)
  alarms : s.alarms = want + if d < i then 1 else 0
  fit : Fit s
theorem ainv_alarm {d now want : Int} {i : Nat} {s : St} (h : AInv d now want i s) (hd : 1 ≤ d) : alarmT s (now + i + 1) = decide ((i : Int) = d) := by
  have e1 : lastT s (now + i + 1) = now := by simp [lastT, h.any, h.last]
  simp only [alarmT, e1, h.alarmed, h.dead, h.cur]
  rw [show max (now + (i : Int)) (now + i + 1) = now + i + 1 by omega]
  by_cases h1 : (i : Int) = d
  · rw [decide_eq_false (show ¬ d < (i : Int) by omega), decide_eq_true (show d < now + (i : Int) + 1 - now by omega), decide_eq_true h1]; rfl
  · by_cases h2 : d < (i : Int)
    · rw [decide_eq_true h2, decide_eq_false h1]; rfl
    · rw [decide_eq_false h2, decide_eq_false h1, decide_eq_false (show ¬ d < now + (i : Int) + 1 - now by omega)]; rfl
theorem ainv_tick {d now want : Int} {i : Nat} {s : St} (h : AInv d now want i s) (hd : 1 ≤ d) (hn : 0 ≤ now) (hn2 : now ≤ 10000) (hi : i ≤ 255) (hw : want ≤ 100) (hw0 : 0 ≤ want) : AInv d now want (i + 1) (tick s (now + i + 1)) := by
  have ha := ainv_alarm h hd
  have hal : s.alarms ≤ 101 := by rw [h.alarms]; split <;> omega
  refine ⟨h.dead, h.any, ?_, ?_, ?_, ?_, fit_tick h.fit (by omega) (by omega) (by omega)⟩
  · simp [tick, lastT, h.any, h.last]
  · simp only [tick, h.cur]; omega
  · simp only [tick, ha, h.alarmed]
    rw [Bool.eq_iff_iff]
    simp only [Bool.or_eq_true, decide_eq_true_eq]
    omega
  · simp only [tick, ha, h.alarms, decide_eq_true_eq]
    split <;> split <;> split <;> omega
theorem ainv_heard {d now want : Int} {i : Nat} {s : St} (h : AInv d now want i s) (hn : 0 ≤ now) (hn2 : now ≤ 10000) (hi : i ≤ 255) (hd : 1 ≤ d) : AInv d (now + i) (want + if d < i then 1 else 0) 0 (heard s (now + i)) := by
  refine ⟨h.dead, rfl, ?_, ?_, ?_, ?_, fit_heard h.fit (by omega) (by omega)⟩
  · simp only [heard, h.cur]; omega
  · simp only [heard, h.cur]; omega
  · simp only [heard]; symm; simp; omega
  · simp only [heard, h.alarms]
    rw [show (if d < ((0 : Nat) : Int) then (1 : Int) else 0) = 0 by rw [if_neg (by omega)]]; omega
theorem ainv_start (d : Int) (hd : 1 ≤ d) : AInv d 0 0 0 (heard (new 1 d) 0) := by
  refine ⟨rfl, rfl, rfl, rfl, ?_, ?_, fit_heard (fit_new _ _) (by omega) (by omega)⟩
  · simp only [heard]; symm; simp; omega
  · simp only [heard, new]; rw [if_neg (by omega)]; rfl
set_option maxRecDepth 100000 in
set_option maxHeartbeats 2000000 in
theorem walkKeepaliveAlarms (a0 : Int) (a1 : Option Addr) (len1 cap1 : Nat) (w : World) (w0 : (Lit.int .u8 a0).wf = true) (w1 : IsRows w 1 IsByte a1 len1 cap1) :
    Calls Try.prog 5 #[.int .u8 a0, .slice a1 len1 cap1] w fun e w' => e = .returned (.bool true) ∧ Below w.heap.size w w' := by
  obtain ⟨b1, b2⟩ := bounds_u8 w0
  obtain ⟨hcap, hmax, hrow⟩ := w1
  unfold maxLen at hmax
  clear w0
  by_cases hl : 30 < len1
  · clear hrow
    go_enter Try.func5, Try.ntmps5
    go_wp2_with fail
    refine (awake_c _).mono ?_
    rintro e wa ⟨rfl, hba⟩
    have HBA := Kept.mk hba
    clear hba
    go_wp2_with fail
    refine (awake_c _).mono ?_
    rintro e wb ⟨rfl, hbb⟩
    have HBB := Kept.mk (join HBA.out hbb)
    clear hbb
    go_wp2_with fail
    go_ret
    exact ⟨rfl, HBB.out⟩
  · have hl2 : len1 ≤ 30 := by omega
    have HR := Kept.mk hrow
    clear hl hrow
    obtain ⟨d, hd⟩ : ∃ d, 1 + a0 % 40 = d := ⟨_, rfl⟩
    have d1 : 1 ≤ d := by omega
    have d2 : d ≤ 40 := by omega
    have HP := Kept.mk (per_iff.2 (show (1 : Int) ≤ 1 ∧ (1 : Int) ≤ 1048576 ∧ 1 ≤ d ∧ d ≤ 1048576 by omega))
    go_enter Try.func5, Try.ntmps5
    go_wp2_with fail
    refine (awake_c _).mono ?_
    rintro e wa ⟨rfl, hba⟩
    have HBA := Kept.mk hba
    clear hba
    go_wp2_with fail
    refine (new_c 1 d _ HP.out).mono ?_
    rintro e wb ⟨rfl, rfl⟩
    have hw : Kept (Blk (wa.alloc (.cells (wc (new 1 d)) 59)) wa.heap.size 59 (wc (new 1 d))) := ⟨Blk.new wa 59 _⟩
    have HO : Kept (Below w.heap.size w (wa.alloc (.cells (wc (new 1 d)) 59))) := ⟨HBA.out.alloc HBA.out.size _⟩
    have hB := HBA.out.size
    have HS := Kept.mk (ainv_start d d1)
    obtain ⟨W1, hW1⟩ : ∃ W1, W1 = wa.alloc (.cells (wc (new 1 d)) 59) := ⟨_, rfl⟩
    rw [← hW1] at hw HO ⊢
    clear hW1 HBA
    generalize wa.heap.size = B at *
    go_wp2_with fail
    refine (heard_c (new 1 d) 0 _ B hw.out).mono ?_
    rintro e w2 ⟨rfl, h2, o2⟩
    have H2 := Kept.mk h2
    have HL2 : Kept (Below w.heap.size w w2) := ⟨HO.out.trans (o2.below (B := w.heap.size) (by rintro j rfl; exact hB) HO.out.size)⟩
    generalize heard (new 1 d) 0 = s0 at *
    clear h2 o2 hw HO
    go_wp2_with fail
    go_loopw [8, 9, 12, 39] (fun v8 v9 v12 v39 wr => ∃ (j : Nat) (now want : Int) (s : St), j ≤ len1 ∧ v39 = .int .i64 j ∧ v8 = .int .i64 now ∧ v9 = .int .i64 want ∧ 0 ≤ now ∧ now ≤ 255 * j ∧ 0 ≤ want ∧ want ≤ j ∧ Kept (AInv d now want 0 s) ∧ Kept (Blk wr B 59 (wc s)) ∧ Kept (Below w.heap.size w wr)) (fun _ _ _ v39 _ => len1 - (intOf v39).toNat)
    case atStart => exact ⟨0, 0, 0, s0, by omega, rfl, rfl, rfl, by omega, by omega, by omega, by omega, HS, H2, HL2⟩
    case round =>
      obtain ⟨j, now, want, s, hj, rfl, rfl, rfl, g1, g2, g3, g4, HI, HK, HL⟩ := hrel
      clear HS H2 HL2
      by_cases hlt : j < len1
      · obtain ⟨b, off, rfl, hbl, hcs⟩ := HR.out (by omega)
        obtain ⟨cs, ⟨x, rfl, x1, x2⟩, hcell⟩ := hcs j hlt
        have c0 := (HL.out.cell (p := ⟨b, off + j * 1 + 0, none⟩) hbl).trans (hcell 0 _ rfl)
        have c0' : wr.cell? ⟨b, off + j, none⟩ = some (.int .u8 x) := by rw [← c0]; congr 2; omega
        obtain ⟨g, rfl⟩ := Int.eq_ofNat_of_zero_le x1
        have hg : g ≤ 255 := by omega
        clear hcs hcell c0
        go_wp2_with fail
        go_loopw [12] (fun v12 wr => ∃ (i : Nat) (s : St), i ≤ g ∧ v12 = .int .i64 ((i : Int) + 1) ∧ Kept (AInv d now want i s) ∧ Kept (Blk wr B 59 (wc s)) ∧ Kept (Below w.heap.size w wr)) (fun v12 _ => g + 1 - (intOf v12).toNat)
        case atStart => exact ⟨0, s, by omega, rfl, HI, HK, HL⟩
        case round =>
          obtain ⟨i, s, hi, rfl, HI, HK, HL⟩ := hrel
          by_cases hig : i < g
          · have HAL := Kept.mk (ainv_alarm HI.out d1)
            have HN := Kept.mk (ainv_tick HI.out d1 g1 (by omega) (by omega) (by omega) g3)
            have hsum : now + ((i : Int) + 1) = now + (i : Int) + 1 := by omega
            have HFT := HI.out.fit
            go_wp2_with fail
            try rw [hsum]
            refine (tick_c s (now + i + 1) _ B HK.out HFT (by omega) (by omega)).mono ?_
            rintro e w3 ⟨rfl, h3, o3⟩
            rw [HAL.out]
            have H3 := Kept.mk h3
            have HL3 : Kept (Below w.heap.size w w3) := ⟨HL.out.trans (o3.below (B := w.heap.size) (by rintro j rfl; exact hB) HL.out.size)⟩
            generalize sendT s (now + i + 1) = se
            generalize tick s (now + i + 1) = s2 at *
            clear h3 o3 hsum HFT
            by_cases hz : (i : Int) = d
            · have q1 : ((i : Int) + 1 == d + 1) = true := by simp [hz]
              rw [decide_eq_true hz]
              clear hz
              go_wp2_with fail
              go_roundw
              case rel => exact ⟨i + 1, s2, by omega, by go_num, HN, H3, HL3⟩
              case measure => simp [intOf]; omega
            · have q1 : ((i : Int) + 1 == d + 1) = false := beq_eq_false_iff_ne.2 (by omega)
              rw [decide_eq_false hz]
              clear hz
              go_wp2_with fail
              go_roundw
              case rel => exact ⟨i + 1, s2, by omega, by go_num, HN, H3, HL3⟩
              case measure => simp [intOf]; omega
          · have hig' : i = g := by omega
            subst hig'
            have HH := Kept.mk (ainv_heard HI.out g1 (by omega) hg d1)
            by_cases hdg : d < (i : Int)
            · rw [if_pos hdg] at HH
              go_wp2_with fail
              refine (heard_c s (now + i) _ B HK.out).mono ?_
              rintro e w3 ⟨rfl, h3, o3⟩
              have H3 := Kept.mk h3
              have HL3 : Kept (Below w.heap.size w w3) := ⟨HL.out.trans (o3.below (B := w.heap.size) (by rintro j rfl; exact hB) HL.out.size)⟩
              have HA : Kept ((heard s (now + i)).alarms = want + 1) := ⟨by have := HH.out.alarms; rw [if_neg (by omega)] at this; omega⟩
              generalize heard s (now + i) = s3 at *
              clear h3 o3
              go_wp2_with fail
              refine (alarms_c s3 _ B H3.out).mono ?_
              rintro e w' ⟨rfl, rfl⟩
              rw [HA.out]
              go_wp2_with fail
              go_roundw
              case rel => exact ⟨j + 1, now + i, want + 1, s3, by omega, by go_num, rfl, rfl, by omega, by omega, by omega, by omega, HH, H3, HL3⟩
              case measure => simp [intOf]; omega
            · rw [if_neg hdg] at HH
              go_wp2_with fail
              refine (heard_c s (now + i) _ B HK.out).mono ?_
              rintro e w3 ⟨rfl, h3, o3⟩
              have H3 := Kept.mk h3
              have HL3 : Kept (Below w.heap.size w w3) := ⟨HL.out.trans (o3.below (B := w.heap.size) (by rintro j rfl; exact hB) HL.out.size)⟩
              have HA : Kept ((heard s (now + i)).alarms = want) := ⟨by have := HH.out.alarms; rw [if_neg (by omega)] at this; omega⟩
              rw [show want + 0 = want by omega] at HH
              generalize heard s (now + i) = s3 at *
              clear h3 o3
              go_wp2_with fail
              refine (alarms_c s3 _ B H3.out).mono ?_
              rintro e w' ⟨rfl, rfl⟩
              rw [HA.out]
              go_wp2_with fail
              go_roundw
              case rel => exact ⟨j + 1, now + i, want, s3, by omega, by go_num, rfl, rfl, by omega, by omega, by omega, by omega, HH, H3, HL3⟩
              case measure => simp [intOf]; omega
      · go_wp2_with fail
        go_ret
        exact ⟨rfl, HL.out⟩

set_option maxRecDepth 100000 in
theorem liftedKeepaliveAlarms (os : Os) (started : os.Started) (H : Type) (enc : TypeId × Value → H) :
    ReturnsInHanded {} Try.checked os 5 .any (Rows.keepaliveAlarmsSpec.pre6 enc Try.prog Try.f5 Rows.keepaliveAlarmsRow.domain false) (Rows.keepaliveAlarmsSpec.post enc Try.prog Try.f5 false true false false) := by
  refine returnsInHanded_of_change (C := Try.checked) own started (by kernel_rfl) Try.func5
    (ChangeSpec.witness6 (enc := enc) (C := Try.checked) false ⟨#[], #[.int .u8 0, .slice none 0 0], []⟩ 8 (by kernel_rfl) (by kernel_rfl) (by kernel_rfl) (by kernel_rfl)) ?_
  intro W base args ds gs before hval0 hW hcnd _
  have hval : ∀ (j : Nat) t v, Try.f5.params[j]? = some t → args[j]? = some v → Value.okWide Try.prog W .any base t v := hval0
  have hW' := hW
  obtain ⟨p, q, hA0, hV, rfl, hfz, hnd⟩ := hW
  have hA : DataW.TrodAll enc Try.prog W 0 (fun _ => true) true Try.f5.params.toList args.toList ds p := hA0
  rw [Try.params5] at hA hval
  obtain ⟨v0, vs0, d0, ds0, p0, q0, hargs, rfl, rfl, h0, r0⟩ := trodAll_cons hA
  obtain ⟨v1, vs1, d1, ds1, p1, q1, rfl, rfl, rfl, h1, r1⟩ := trodAll_cons r0
  obtain ⟨rfl, rfl, rfl⟩ := trodAll_nil r1
  obtain rfl : args = #[v0, v1] := by cases args; simp_all
  obtain ⟨rfl, rfl⟩ := trodVars_none hV
  have k0 := h0
  have lt0 : ∀ x ∈ p0, x.block < W.heap.size := by obtain ⟨m, hm⟩ := k0; exact DataW.trod_lt m _ _ _ hm
  have k1 := h1
  have lt1 : ∀ x ∈ p1, x.block < W.heap.size := by obtain ⟨m, hm⟩ := k1; exact DataW.trod_lt m _ _ _ hm
  obtain ⟨a0, rfl, -, -, w0⟩ := open_int Try.underlying5 (hval 0 5 v0 rfl rfl) h0
  obtain ⟨a1, len1, cap1, rfl⟩ := okWide_slice Try.underlying42 (hval 1 42 v1 rfl rfl)
  have w1 : IsRows W 1 IsByte a1 len1 cap1 := open_rows Try.underlying42 (show Try.prog.cellsOf 5 = 1 by kernel_rfl) (by decide) isByte h1
  clear hA0 hval0
  refine (walkKeepaliveAlarms a0 a1 len1 cap1 W w0 w1).mono fun e W' ⟨he, bel⟩ => ?_
  subst he
  exact ⟨_, rfl, _, _, _, [], _, [], hW', trodAll_mk1 (shut_bool Try.underlying4 _), (trodAll_cons_mk (Below.trod laidOut (by kernel_rfl) (of_decide_eq_true (by kernel_rfl)) k0 bel lt0) (trodAll_cons_mk (Below.trod laidOut (by kernel_rfl) (of_decide_eq_true (by kernel_rfl)) k1 bel lt1) trodAll_mk0)), rfl, bel.frame _, fun h => by cases h⟩
/-- The given statement. -/
theorem keepaliveAlarms_holds : Rows.KeepaliveAlarmsSaid :=
  OpenClaim.holds_of_wide 5 Try.f5 rfl rfl rfl rfl rfl rfl rfl ⟨rfl, rfl, rfl, rfl, rfl⟩ rfl rfl rfl rfl rfl (by kernel_rfl) Try.func5 (by kernel_rfl)
    (of_decide_eq_true (by kernel_rfl)) (by unfold Func.isWrapper; first | (rw [if_pos (by decide +kernel)]; kernel_rfl) | (rw [if_neg (by decide +kernel)]; exact ⟨rfl, rfl⟩))
    (fun os started H enc _ => liftedKeepaliveAlarms os started H enc)
#print axioms keepaliveAlarms_holds
end Go.Proofs.Ythkilfainkcmgaa
