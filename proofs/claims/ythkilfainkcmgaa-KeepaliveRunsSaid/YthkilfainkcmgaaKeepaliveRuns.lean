/- For all periods and operations the statement KeepaliveRuns returns true: what a watch reports is what the reference says. No condition. -/
import Derived.Test.YthkilfainkcmgaaBase
import Derived.Deep.MidRow
import Derived.Test.YthkilfainkcmgaaRef
namespace Go.Proofs.Ythkilfainkcmgaa
open Go.ChangeShapes Go.WideShapes Go.ChangeAt Go.RowKit
set_option linter.unusedVariables false
set_option linter.unusedSimpArgs false
def IsOp (cs : List Value) : Prop := ∃ kind now : Int, cs = [.int .i64 kind, .int .i64 now]
theorem isOp' {H : Type} {enc : TypeId × Value → H} {w : World} {base : Nat} {spare : Nat → Bool} {held : Bool} (n : Nat) (cs : List Value) (y : DataW H × List MemPlace) (hl : cs.length = 2)
    (h : DataW.trod enc Try.prog w base spare held n 31 cs = some y) : IsOp cs := isOp n cs y hl h
theorem bool_int (a b : Int) : ((a == b) = true ∧ (a != b) = false) ∨ ((a == b) = false ∧ (a != b) = true) := by
  by_cases h : a = b <;> simp [h]
theorem reading_c (n : Int) (w : World) : Calls Try.prog 12 #[.int .i64 n] w fun r w' => r = .returned (.bool (insideB n 4294967296)) ∧ w = w' := by
  go_enter Try.func12, Try.ntmps12
  go_wp2
  all_goals go_ret
  all_goals exact ⟨ret_bool (by rw [Bool.eq_iff_iff, inside_iff]; simp; omega), rfl⟩
/-- The watch in block B, the reference's in block R. -/
structure Two (w : World) (B R k : Nat) (s : St) (wr : World) : Prop where
  b : Blk wr B 59 (wc s)
  r : Blk wr R 29 (rc s)
  fit : Fit s
  al : s.alarms ≤ k
  below : Below w.heap.size w wr
theorem rc_one (s : St) : (rc s).all (fun x => x.oneCell') = true := by simp [rc, Value.oneCell']
theorem info29 : (Try.prog.info? 29).map (·.size) = some 9 := by kernel_rfl
theorem blkFar {w : World} {g R o : Nat} {t : TypeId} {cs : Array Value} {u : Value} (h : Blk w g t cs) (hp : g ≠ R) : Blk (w.setCell ⟨R, o, none⟩ u) g t cs := h.far (p := ⟨R, o, none⟩) hp u
theorem belowSet {a w : World} {B R o : Nat} {u : Value} (h : Below B a w) (hp : B ≤ R) : Below B a (w.setCell ⟨R, o, none⟩ u) := h.setCell (p := ⟨R, o, none⟩) hp u
set_option maxRecDepth 100000 in
set_option maxHeartbeats 4000000 in
theorem walkKeepaliveRuns (a0 a1 : Int) (a2 : Option Addr) (len2 cap2 : Nat) (w : World) (w0 : (Lit.int .i64 a0).wf = true) (w1 : (Lit.int .i64 a1).wf = true) (w2 : IsRows w 2 IsOp a2 len2 cap2) :
    Calls Try.prog 3 #[.int .i64 a0, .int .i64 a1, .slice a2 len2 cap2] w fun e w' => e = .returned (.bool true) ∧ Below w.heap.size w w' := by
  obtain ⟨hcap, hmax, hrow⟩ := w2
  unfold maxLen at hmax
  clear w0 w1
  by_cases hl : 200 < len2
  · clear hrow
    go_enter Try.func3, Try.ntmps3
    go_wp2_with fail
    refine (awake_c _).mono ?_
    rintro e wa ⟨rfl, hba⟩
    have HBA := Kept.mk hba
    clear hba
    go_wp2_with fail
    refine (awake_c _).mono ?_
    rintro e wb ⟨rfl, hbb⟩
    have HBB := Kept.mk (join HBA.out hbb)
    clear hbb
    go_wp2_with fail
    go_ret
    exact ⟨rfl, HBB.out⟩
  · have hl2 : len2 ≤ 200 := by omega
    clear hl
    cases hp : perB a0 a1 with
    | false =>
      have HP := Kept.mk hp
      have hor : a0 < 1 ∨ ¬ a0 < 1 ∧ 1048576 < a0 ∨ ¬ a0 < 1 ∧ ¬ 1048576 < a0 ∧ a1 < a0 ∨ ¬ a0 < 1 ∧ ¬ 1048576 < a0 ∧ ¬ a1 < a0 ∧ 1048576 < a1 := by
        have : ¬ perB a0 a1 = true := by simp [hp]
        rw [per_iff] at this
        omega
      clear hp hrow
      rcases hor with h | ⟨h, h1⟩ | ⟨h, h1, h2⟩ | ⟨h, h1, h2, h3⟩
      all_goals
        go_enter Try.func3, Try.ntmps3
        go_wp2_with fail
        refine (awake_c _).mono ?_
        rintro e wa ⟨rfl, hba⟩
        have HBA := Kept.mk hba
        clear hba
        go_wp2_with fail
        refine (newNot_c _ _ _ HP.out).mono ?_
        rintro e w' ⟨rfl, rfl⟩
        go_wp2_with fail
        go_ret
        exact ⟨rfl, HBA.out⟩
    | true =>
      have HP := Kept.mk hp
      obtain ⟨p1, p2, p3, p4⟩ := per_iff.1 hp
      have HR := Kept.mk hrow
      clear hp hrow
      go_enter Try.func3, Try.ntmps3
      go_wp2_with fail
      refine (awake_c _).mono ?_
      rintro e wa ⟨rfl, hba⟩
      have HBA := Kept.mk hba
      clear hba
      go_wp2_with fail
      refine (new_c a0 a1 _ HP.out).mono ?_
      rintro e wb ⟨rfl, rfl⟩
      have hB := HBA.out.size
      go_wp2_with fail
      have HT0 : Kept (Two w wa.heap.size (wa.heap.size + 1) 0 (new a0 a1) ((wa.alloc (.cells (wc (new a0 a1)) 59)).alloc (.cells (rc (new a0 a1)) 29))) := ⟨⟨(Blk.new wa 59 _).alloc _, by simpa using Blk.new (wa.alloc (.cells (wc (new a0 a1)) 59)) 29 (rc (new a0 a1)), fit_new _ _, by simp [new], (HBA.out.alloc hB _).alloc (by simp; omega) _⟩⟩
      rw [show rc (new a0 a1) = #[.int .i64 a0, .int .i64 a1, .int .i64 0, .int .i64 0, .int .i64 0, .bool false, .bool false, .bool false, .int .i64 0] from rfl] at HT0
      obtain ⟨W1, hW1⟩ : ∃ W1, W1 = (wa.alloc (.cells (wc (new a0 a1)) 59)).alloc (.cells #[.int .i64 a0, .int .i64 a1, .int .i64 0, .int .i64 0, .int .i64 0, .bool false, .bool false, .bool false, .int .i64 0] 29) := ⟨_, rfl⟩
      rw [← hW1] at HT0 ⊢
      clear hW1 HBA
      obtain ⟨B, hBe⟩ : ∃ B, B = wa.heap.size := ⟨_, rfl⟩
      obtain ⟨R, hRe⟩ : ∃ R, R = wa.heap.size + 1 := ⟨_, rfl⟩
      rw [← hRe, ← hBe] at HT0
      rw [← hRe, ← hBe]
      rw [← hBe] at hB
      have hBR : B ≠ R := by omega
      have hRB : ¬ R = B := by omega
      have hRw : w.heap.size ≤ R := by omega
      clear hBe hRe
      generalize new a0 a1 = s0 at *
      go_loopw [58] (fun v58 wr => ∃ (k : Nat) (s : St), k ≤ len2 ∧ v58 = .int .i64 k ∧ Kept (Two w B R k s wr)) (fun v58 _ => len2 - (intOf v58).toNat)
      case atStart => exact ⟨0, s0, by omega, rfl, HT0⟩
      case round =>
        obtain ⟨k, s, hk, rfl, HT⟩ := hrel
        clear HT0
        by_cases hlt : k < len2
        · obtain ⟨b, off, rfl, hbl, hcs⟩ := HR.out (by omega)
          obtain ⟨cs, ⟨kind, now, rfl⟩, hcell⟩ := hcs k hlt
          have c0 := (HT.out.below.cell (p := ⟨b, off + k * 2, none⟩) hbl).trans (hcell 0 _ rfl)
          have c1 := (HT.out.below.cell (p := ⟨b, off + k * 2 + 1, none⟩) hbl).trans (hcell 1 _ rfl)
          have hwr := HT.out.below.size
          have hBl := HT.out.b.lt
          have hRl0 := HT.out.r.lt
          have hbr : b < wr.heap.size := by omega
          clear hcs hcell
          by_cases hrd : insideB now 4294967296 = true
          · obtain ⟨n0, n1⟩ := inside_iff.1 hrd
            have HRD := Kept.mk hrd
            clear hrd
            rcases bool_int kind 1 with ⟨k1, k2⟩ | ⟨k1, k2⟩
            · go_wp2_with fail
              refine (reading_c _ _).mono ?_
              rintro e w' ⟨rfl, rfl⟩
              rw [HRD.out]
              go_wp2_with fail
              refine (heard_c s now _ B (HT.out.b.alloc _)).mono ?_
              rintro e w2 ⟨rfl, h2, o2⟩
              have HB2 := Kept.mk h2
              have HR2 := Kept.mk ((HT.out.r.alloc (.cells #[.int .i64 kind, .int .i64 now] 31)).only o2 hRB)
              have HX2 := Kept.mk ((Blk.new wr 31 #[.int .i64 kind, .int .i64 now]).only o2 (by show ¬ wr.heap.size = B; omega))
              have HL2 : Kept (Below w.heap.size w w2) := ⟨(HT.out.below.alloc hwr _).trans (o2.below (B := w.heap.size) (by rintro j rfl; exact hB) (by simp; omega))⟩
              have x1 := HX2.out.cell 1 (v := .int .i64 now) rfl
              have hX2l := HX2.out.lt
              have hR2l := HR2.out.lt
              have r0 := HR2.out.cell 0 (v := .int .i64 s.every) rfl
              have r1 := HR2.out.cell 1 (v := .int .i64 s.dead) rfl
              have r2 := HR2.out.cell 2 (v := .int .i64 s.now) rfl
              have r3 := HR2.out.cell 3 (v := .int .i64 s.sent) rfl
              have r4 := HR2.out.cell 4 (v := .int .i64 s.last) rfl
              have r5 := HR2.out.cell 5 (v := .bool s.begun) rfl
              have r6 := HR2.out.cell 6 (v := .bool s.any) rfl
              have r7 := HR2.out.cell 7 (v := .bool s.alarmed) rfl
              have r8 := HR2.out.cell 8 (v := .int .i64 s.alarms) rfl
              clear h2 o2
              have HF2 := Kept.mk (fit_heard HT.out.fit n0 (show now ≤ 17179869184 by omega))
              have HA2 : Kept ((heard s now).alarms ≤ ((k + 1 : Nat) : Int)) := ⟨by have := HT.out.al; simp only [heard]; omega⟩
              go_wp2_with fail
              refine (refHeard_c s now _).mono ?_
              rintro e w3 ⟨rfl, hb3⟩
              clear r0 r1 r2 r3 r4 r5 r6 r7 r8
              have HR3 := Kept.mk (HR2.out.new_ hb3)
              have HB3 := Kept.mk (HB2.out.new_ hb3)
              have HL3 := Kept.mk (join HL2.out hb3)
              clear hb3
              generalize heard s now = s2 at *
              have hRl := HR3.out.lt
              have HTH : Kept (w3.there R 0 (rc s2).size) := ⟨fun j hj => ⟨by rw [cell_of_row w3 R (0 + j) (rc s) 29 (0, 0) HR3.out, Array.getElem?_eq_getElem (show 0 + j < (rc s).size by have h9 : j < 9 := hj; show 0 + j < 9; omega)]; rfl, HR3.out.free _⟩⟩
              have HEQ := Kept.mk (show w3.setCells R 0 (rc s2).toList = (((((((((w3.setCell ⟨R, 0, none⟩ (.int .i64 s2.every)).setCell ⟨R, 1, none⟩ (.int .i64 s2.dead)).setCell ⟨R, 2, none⟩ (.int .i64 s2.now)).setCell ⟨R, 3, none⟩ (.int .i64 s2.sent)).setCell ⟨R, 4, none⟩ (.int .i64 s2.last)).setCell ⟨R, 5, none⟩ (.bool s2.begun)).setCell ⟨R, 6, none⟩ (.bool s2.any)).setCell ⟨R, 7, none⟩ (.bool s2.alarmed)).setCell ⟨R, 8, none⟩ (.int .i64 s2.alarms)) from rfl)
              have HRE : Kept (Blk (w3.setCells R 0 (rc s2).toList) R 29 (rc s2)) := ⟨by rw [HEQ.out]; exact Blk.cast (by with_reducible repeat (first | exact HR3.out | apply Blk.set_)) (by simp only [rc, List.setIfInBounds_toArray, List.set_cons_zero, List.set_cons_succ])⟩
              have HBE : Kept (Blk (w3.setCells R 0 (rc s2).toList) B 59 (wc s2)) := ⟨by rw [HEQ.out]; with_reducible repeat (first | exact HB3.out | refine blkFar ?_ hBR)⟩
              have HLE : Kept (Below w.heap.size w (w3.setCells R 0 (rc s2).toList)) := ⟨by rw [HEQ.out]; with_reducible repeat (first | exact HL3.out | refine belowSet ?_ hRw)⟩
              clear HEQ
              go_wp2_with (show wpList _ _ _ (⟨none, Op.store 29 _ _, _, _, _, none⟩ :: _) _ _; go_must (refine wpList_store_mid rfl 29 _ _ rfl R 0 (rc s2) rfl rfl HTH.out info29 (rc_one s2) ?_))
              obtain ⟨wE, hwE⟩ : ∃ wE, wE = (w3.setCells R 0 (rc s2).toList) := ⟨_, rfl⟩
              rw [← hwE] at HRE HBE HLE
              try rw [← hwE]
              clear hwE
              have h8 := HRE.out.cell 8 (v := .int .i64 s2.alarms) rfl
              have hRl2 := HRE.out.lt
              go_wp2_with fail
              go_quiet ((go_at_call 17; exact Calls.quiet_of_same ((alarms_c s2 _ B (HBE.out.drewN _)).mono fun _ _ h => ⟨h.1, h.2.symm⟩)))
              go_wp2_with fail
              go_roundw
              case rel => exact ⟨k + 1, s2, by omega, by go_num, ⟨⟨HBE.out.drewN _, HRE.out.drewN _, HF2.out, HA2.out, dN HLE.out _⟩⟩⟩
              case measure => simp [intOf]; omega
            · go_wp2_with fail
              refine (reading_c _ _).mono ?_
              rintro e w' ⟨rfl, rfl⟩
              rw [HRD.out]
              go_wp2_with fail
              refine (tick_c s now _ B (HT.out.b.alloc _) HT.out.fit n0 (by omega)).mono ?_
              rintro e w2 ⟨rfl, h2, o2⟩
              have HB2 := Kept.mk h2
              have HR2 := Kept.mk ((HT.out.r.alloc (.cells #[.int .i64 kind, .int .i64 now] 31)).only o2 hRB)
              have HX2 := Kept.mk ((Blk.new wr 31 #[.int .i64 kind, .int .i64 now]).only o2 (by show ¬ wr.heap.size = B; omega))
              have HL2 : Kept (Below w.heap.size w w2) := ⟨(HT.out.below.alloc hwr _).trans (o2.below (B := w.heap.size) (by rintro j rfl; exact hB) (by simp; omega))⟩
              have x1 := HX2.out.cell 1 (v := .int .i64 now) rfl
              have hX2l := HX2.out.lt
              have hR2l := HR2.out.lt
              have r0 := HR2.out.cell 0 (v := .int .i64 s.every) rfl
              have r1 := HR2.out.cell 1 (v := .int .i64 s.dead) rfl
              have r2 := HR2.out.cell 2 (v := .int .i64 s.now) rfl
              have r3 := HR2.out.cell 3 (v := .int .i64 s.sent) rfl
              have r4 := HR2.out.cell 4 (v := .int .i64 s.last) rfl
              have r5 := HR2.out.cell 5 (v := .bool s.begun) rfl
              have r6 := HR2.out.cell 6 (v := .bool s.any) rfl
              have r7 := HR2.out.cell 7 (v := .bool s.alarmed) rfl
              have r8 := HR2.out.cell 8 (v := .int .i64 s.alarms) rfl
              clear h2 o2
              have HF2 := Kept.mk (fit_tick HT.out.fit n0 (show now ≤ 17179869184 by omega) (by have := HT.out.al; omega))
              have HA2 : Kept ((tick s now).alarms ≤ ((k + 1 : Nat) : Int)) := ⟨by have := HT.out.al; have := (alarms_tick s now).2; omega⟩
              obtain ⟨sb, hsb⟩ : ∃ sb, sendT s now = sb := ⟨_, rfl⟩
              obtain ⟨ab, hab⟩ : ∃ ab, alarmT s now = ab := ⟨_, rfl⟩
              have HSB := Kept.mk hsb
              have HAB := Kept.mk hab
              rw [hsb, hab]
              clear hsb hab
              go_wp2_with fail
              refine (refTick_c s now _ HT.out.fit n0 (by omega)).mono ?_
              rintro e w3 ⟨rfl, hb3⟩
              rw [HSB.out, HAB.out]
              clear r0 r1 r2 r3 r4 r5 r6 r7 r8
              have HR3 := Kept.mk (HR2.out.new_ hb3)
              have HB3 := Kept.mk (HB2.out.new_ hb3)
              have HL3 := Kept.mk (join HL2.out hb3)
              clear hb3
              generalize tick s now = s2 at *
              clear HSB HAB
              have hRl := HR3.out.lt
              have HTH : Kept (w3.there R 0 (rc s2).size) := ⟨fun j hj => ⟨by rw [cell_of_row w3 R (0 + j) (rc s) 29 (0, 0) HR3.out, Array.getElem?_eq_getElem (show 0 + j < (rc s).size by have h9 : j < 9 := hj; show 0 + j < 9; omega)]; rfl, HR3.out.free _⟩⟩
              have HEQ := Kept.mk (show w3.setCells R 0 (rc s2).toList = (((((((((w3.setCell ⟨R, 0, none⟩ (.int .i64 s2.every)).setCell ⟨R, 1, none⟩ (.int .i64 s2.dead)).setCell ⟨R, 2, none⟩ (.int .i64 s2.now)).setCell ⟨R, 3, none⟩ (.int .i64 s2.sent)).setCell ⟨R, 4, none⟩ (.int .i64 s2.last)).setCell ⟨R, 5, none⟩ (.bool s2.begun)).setCell ⟨R, 6, none⟩ (.bool s2.any)).setCell ⟨R, 7, none⟩ (.bool s2.alarmed)).setCell ⟨R, 8, none⟩ (.int .i64 s2.alarms)) from rfl)
              have HRE : Kept (Blk (w3.setCells R 0 (rc s2).toList) R 29 (rc s2)) := ⟨by rw [HEQ.out]; exact Blk.cast (by with_reducible repeat (first | exact HR3.out | apply Blk.set_)) (by simp only [rc, List.setIfInBounds_toArray, List.set_cons_zero, List.set_cons_succ])⟩
              have HBE : Kept (Blk (w3.setCells R 0 (rc s2).toList) B 59 (wc s2)) := ⟨by rw [HEQ.out]; with_reducible repeat (first | exact HB3.out | refine blkFar ?_ hBR)⟩
              have HLE : Kept (Below w.heap.size w (w3.setCells R 0 (rc s2).toList)) := ⟨by rw [HEQ.out]; with_reducible repeat (first | exact HL3.out | refine belowSet ?_ hRw)⟩
              clear HEQ
              go_wp2_with (show wpList _ _ _ (⟨none, Op.store 29 _ _, _, _, _, none⟩ :: _) _ _; go_must (refine wpList_store_mid rfl 29 _ _ rfl R 0 (rc s2) rfl rfl HTH.out info29 (rc_one s2) ?_))
              obtain ⟨wE, hwE⟩ : ∃ wE, wE = (w3.setCells R 0 (rc s2).toList) := ⟨_, rfl⟩
              rw [← hwE] at HRE HBE HLE
              try rw [← hwE]
              clear hwE
              have h8 := HRE.out.cell 8 (v := .int .i64 s2.alarms) rfl
              have hRl2 := HRE.out.lt
              go_wp2_with fail
              go_quiet ((go_at_call 17; exact Calls.quiet_of_same ((alarms_c s2 _ B (HBE.out.drewN _)).mono fun _ _ h => ⟨h.1, h.2.symm⟩)))
              go_wp2_with fail
              go_roundw
              case rel => exact ⟨k + 1, s2, by omega, by go_num, ⟨⟨HBE.out.drewN _, HRE.out.drewN _, HF2.out, HA2.out, dN HLE.out _⟩⟩⟩
              case measure => simp [intOf]; omega
          · have HRD : Kept (insideB now 4294967296 = false) := ⟨by simpa using hrd⟩
            clear hrd
            go_wp2_with fail
            refine (reading_c _ _).mono ?_
            rintro e w' ⟨rfl, rfl⟩
            rw [HRD.out]
            go_wp2_with fail
            go_ret
            exact ⟨rfl, HT.out.below.alloc hwr _⟩
        · go_wp2_with fail
          go_ret
          exact ⟨rfl, HT.out.below⟩

set_option maxRecDepth 100000 in
theorem liftedKeepaliveRuns (os : Os) (started : os.Started) (H : Type) (enc : TypeId × Value → H) :
    ReturnsInHanded {} Try.checked os 3 .any (Rows.keepaliveRunsSpec.pre6 enc Try.prog Try.f3 Rows.keepaliveRunsRow.domain false) (Rows.keepaliveRunsSpec.post enc Try.prog Try.f3 false true false false) := by
  refine returnsInHanded_of_change (C := Try.checked) own started (by kernel_rfl) Try.func3
    (ChangeSpec.witness6 (enc := enc) (C := Try.checked) false ⟨#[], #[.int .i64 0, .int .i64 0, .slice none 0 0], []⟩ 8 (by kernel_rfl) (by kernel_rfl) (by kernel_rfl) (by kernel_rfl)) ?_
  intro W base args ds gs before hval0 hW hcnd _
  have hval : ∀ (j : Nat) t v, Try.f3.params[j]? = some t → args[j]? = some v → Value.okWide Try.prog W .any base t v := hval0
  have hW' := hW
  obtain ⟨p, q, hA0, hV, rfl, hfz, hnd⟩ := hW
  have hA : DataW.TrodAll enc Try.prog W 0 (fun _ => true) true Try.f3.params.toList args.toList ds p := hA0
  rw [Try.params3] at hA hval
  obtain ⟨v0, vs0, d0, ds0, p0, q0, hargs, rfl, rfl, h0, r0⟩ := trodAll_cons hA
  obtain ⟨v1, vs1, d1, ds1, p1, q1, rfl, rfl, rfl, h1, r1⟩ := trodAll_cons r0
  obtain ⟨v2, vs2, d2, ds2, p2, q2, rfl, rfl, rfl, h2, r2⟩ := trodAll_cons r1
  obtain ⟨rfl, rfl, rfl⟩ := trodAll_nil r2
  obtain rfl : args = #[v0, v1, v2] := by cases args; simp_all
  obtain ⟨rfl, rfl⟩ := trodVars_none hV
  have k0 := h0
  have lt0 : ∀ x ∈ p0, x.block < W.heap.size := by obtain ⟨m, hm⟩ := k0; exact DataW.trod_lt m _ _ _ hm
  have k1 := h1
  have lt1 : ∀ x ∈ p1, x.block < W.heap.size := by obtain ⟨m, hm⟩ := k1; exact DataW.trod_lt m _ _ _ hm
  have k2 := h2
  have lt2 : ∀ x ∈ p2, x.block < W.heap.size := by obtain ⟨m, hm⟩ := k2; exact DataW.trod_lt m _ _ _ hm
  obtain ⟨a0, rfl, -, -, w0⟩ := open_int Try.underlying3 (hval 0 3 v0 rfl rfl) h0
  obtain ⟨a1, rfl, -, -, w1⟩ := open_int Try.underlying3 (hval 1 3 v1 rfl rfl) h1
  obtain ⟨a2, len2, cap2, rfl⟩ := okWide_slice Try.underlying22 (hval 2 22 v2 rfl rfl)
  have w2 : IsRows W 2 IsOp a2 len2 cap2 := open_rows Try.underlying22 (show Try.prog.cellsOf 31 = 2 by kernel_rfl) (by decide) isOp' h2
  clear hA0 hval0
  refine (walkKeepaliveRuns a0 a1 a2 len2 cap2 W w0 w1 w2).mono fun e W' ⟨he, bel⟩ => ?_
  subst he
  exact ⟨_, rfl, _, _, _, [], _, [], hW', trodAll_mk1 (shut_bool Try.underlying4 _), (trodAll_cons_mk (Below.trod laidOut (by kernel_rfl) (of_decide_eq_true (by kernel_rfl)) k0 bel lt0) (trodAll_cons_mk (Below.trod laidOut (by kernel_rfl) (of_decide_eq_true (by kernel_rfl)) k1 bel lt1) (trodAll_cons_mk (Below.trod laidOut (by kernel_rfl) (of_decide_eq_true (by kernel_rfl)) k2 bel lt2) trodAll_mk0))), rfl, bel.frame _, fun h => by cases h⟩
/-- The given statement. -/
theorem keepaliveRuns_holds : Rows.KeepaliveRunsSaid :=
  OpenClaim.holds_of_wide 3 Try.f3 rfl rfl rfl rfl rfl rfl rfl ⟨rfl, rfl, rfl, rfl, rfl⟩ rfl rfl rfl rfl rfl (by kernel_rfl) Try.func3 (by kernel_rfl)
    (of_decide_eq_true (by kernel_rfl)) (by unfold Func.isWrapper; first | (rw [if_pos (by decide +kernel)]; kernel_rfl) | (rw [if_neg (by decide +kernel)]; exact ⟨rfl, rfl⟩))
    (fun os started H enc _ => liftedKeepaliveRuns os started H enc)
#print axioms keepaliveRuns_holds
end Go.Proofs.Ythkilfainkcmgaa
