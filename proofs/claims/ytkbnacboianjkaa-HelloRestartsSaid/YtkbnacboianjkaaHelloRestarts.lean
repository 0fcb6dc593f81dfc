/- For all intervals the statement HelloRestarts returns true: a neighbor with a greater incarnation is accepted. No condition. -/
import Derived.Test.YtkbnacboianjkaaBase
import Derived.Test.YtkbnacboianjkaaPairB
import Derived.Test.YtkbnacboianjkaaPlainR
namespace Go.Proofs.Ytkbnacboianjkaa
open Go.ChangeShapes Go.WideShapes Go.ChangeAt Go.RowKit
set_option linter.unusedVariables false
set_option linter.unusedSimpArgs false
set_option maxRecDepth 100000 in
set_option maxHeartbeats 4000000 in
theorem walkHelloRestarts (a0 a1 : Int) (w : World) (w0 : (Lit.int .u8 a0).wf = true) (w1 : (Lit.int .u8 a1).wf = true) :
    Calls Try.prog 7 #[.int .u8 a0, .int .u8 a1] w fun e w' => e = .returned (.bool true) ∧ Below w.heap.size w w' := by
  obtain ⟨b1, b2⟩ := bounds_u8 w0
  obtain ⟨b3, b4⟩ := bounds_u8 w1
  obtain ⟨i0, hi, hz0, hz1, hz2⟩ := info_parts info39
  obtain ⟨n, hn⟩ : ∃ n : Nat, 1 + a0 % 6 = (n : Int) := ⟨(1 + a0 % 6).toNat, by omega⟩
  obtain ⟨q, rfl⟩ : ∃ q : Nat, a1 = (q : Int) := ⟨a1.toNat, by omega⟩
  have n1 : 1 ≤ n := by omega
  have n2 : n ≤ 6 := by omega
  have hx := rest_all n q n1 n2 (by omega)
  simp only [rest1, rest2, goX_eq] at hx
  have HX := hid hx
  clear hx w0 w1
  go_enter Try.func7, Try.ntmps7
  go_wp2_with fail
  refine (awake_c _).mono ?_
  rintro e wa ⟨rfl, hba⟩
  have HBA := hid hba
  clear hba
  go_wp2_with fail
  have ed : (3 : Int) * (n : Int) + 3 = ((3 * n + 3 : Nat) : Int) := by omega
  rw [ed]
  clear ed
  refine (pair_c n (3 * n + 3) _ n1 (by omega) (by omega) (by omega)).mono ?_
  rintro e wb ⟨rfl, hP, hbb⟩
  have HP := hid hP
  have HBB := hid (join HBA.out hbb)
  have hB := HBA.out.size
  clear hP hbb HBA
  generalize wa.heap.size = B at *
  go_wp2_with fail
  go_loopw [34] (fun v34 wr => ∃ k : Nat, k ≤ 2 * n + 2 ∧ v34 = .int .i64 k ∧ Pr wr B k (16 * k) (runX false false k (pairT n (3 * n + 3))) ∧ Below w.heap.size w wr) (fun v34 _ => 2 * n + 2 - (intOf v34).toNat)
  case atStart => exact ⟨0, by omega, rfl, HP.out, HBB.out⟩
  case round =>
    obtain ⟨k, hk, rfl, hPr, hb⟩ := hrel
    have HPr := hid hPr
    have HB := hid hb
    clear hPr hb HP HBB
    by_cases hlt : k < 2 * n + 2
    · go_wp2_with fail
      refine (exchP_c _ _ B k (16 * k) HPr.out (by omega) (by omega) false false).mono ?_
      rintro e w' ⟨rfl, hP', hb'⟩
      have HP' := hid hP'
      have HB' := hid (HB.out.trans (hb'.mono hB))
      clear hP' hb'
      go_wp2_with fail
      go_roundw
      case rel => exact ⟨k + 1, by omega, by go_num, HP'.out, HB'.out⟩
      case measure => simp [intOf]; omega
    · have hK : k = 2 * n + 2 := by omega
      have hx := HX.out
      rw [← hK] at hx
      clear HX hK
      have hq : k ≤ 14 := by omega
      have HX := hid hx
      clear hx
      generalize runX false false k (pairT n (3 * n + 3)) = s1 at *
      obtain ⟨k1, rfl⟩ : ∃ k1 : Nat, k1 = k := ⟨_, rfl⟩
      obtain ⟨wo, rfl⟩ : ∃ wo : World, wo = wr := ⟨_, rfl⟩
      have nB : newB 8 (21 + (q : Int)) (2 : Nat) n (3 * n + 3 : Nat) = true := newB_iff.2 ⟨by omega, by omega, by omega, by omega, by omega⟩
      have HNB := hid nB
      clear nB
      go_wp2_with fail
      rw [show (3 : Int) * (n : Int) + 3 = ((3 * n + 3 : Nat) : Int) by omega]
      refine (new_c 8 (21 + (q : Int)) 2 n (3 * n + 3 : Nat) _ HNB.out).mono ?_
      rintro e w2 ⟨rfl, hC, hb2, -⟩
      have hBC := HPr.out.lt
      have HPr2 := hid (HPr.out.below hb2)
      have HC := hid hC
      have HB2 := hid (join HB.out hb2)
      have hCz := HB.out.size
      have DC := bd_new 8 (21 + (q : Int)) 2 n (3 * n + 3) (by omega) n1 (by omega)
      clear hC hb2 HPr HB
      generalize wo.heap.size = C at *
      generalize hc0 : new 8 (21 + (q : Int)) 2 (n : Int) ((3 * n + 3 : Nat) : Int) = c0 at *
      clear hc0
      go_wp2_with fail
      go_loopw [60] (fun v60 wr => ∃ k : Nat, k ≤ 3 * n + 3 ∧ v60 = .int .i64 k ∧ Table wr (B + 1) B (runX false false k (s1.1, c0)).1 ∧ Table wr (C + 1) C (runX false false k (s1.1, c0)).2 ∧ Table wr (B + 3) (B + 2) s1.2 ∧ Bd (k1 + k) (16 * (k1 + k)) (runX false false k (s1.1, c0)).1 ∧ Bd (k1 + k) (16 * (k1 + k)) (runX false false k (s1.1, c0)).2 ∧ Below w.heap.size w wr) (fun v60 _ => 3 * n + 3 - (intOf v60).toNat)
      case atStart => exact ⟨0, by omega, rfl, HPr2.out.a, HC.out, HPr2.out.b, HPr2.out.da, bd_mono DC (by omega) (by omega), HB2.out⟩
      case round =>
        obtain ⟨k, hk, rfl, hA, hC, hBt, hda, hdc, hb⟩ := hrel
        have HDB := hid HPr2.out.db
        clear HPr2 HB2 HC
        have HA := hid hA
        have HC := hid hC
        have HBT := hid hBt
        have HDA := hid hda
        have HDC := hid hdc
        have HB := hid hb
        clear hA hC hBt hda hdc hb
        by_cases hlt : k < 3 * n + 3
        · go_wp2_with fail
          refine (exch_c _ _ _ (B + 1) B (C + 1) C _ _ HA.out HC.out HDA.out HDC.out (by omega) (by omega) ⟨by omega, by omega, by omega, by omega⟩ false false).mono ?_
          rintro e w' ⟨rfl, hA', hC', hO'⟩
          have hx := bd_exch HDA.out HDC.out (show k1 + k < 1000000 by omega) false false
          have HA' := hid hA'
          have HC' := hid hC'
          have HBT' := hid (HBT.out.only hO' (by rintro (h | h | h | h) <;> omega) (by rintro (h | h | h | h) <;> omega))
          have HB' := hid (HB.out.trans (hO'.below (B := w.heap.size) (by rintro i (h | h | h | h) <;> omega) HB.out.size))
          have HD1 := hid hx.1
          have HD2 := hid hx.2
          clear hA' hC' hO' hx
          go_wp2_with fail
          go_roundw
          case rel => exact ⟨k + 1, by omega, by go_num, HA'.out, HC'.out, HBT'.out, HD1.out, HD2.out, HB'.out⟩
          case measure => simp [intOf]; omega
        · have hK : k = 3 * n + 3 := by omega
          have hx := HX.out
          rw [← hK] at hx
          clear HX hK
          simp only [restC, Bool.and_eq_true, beq_iff_eq] at hx
          obtain ⟨⟨f1, f2⟩, f3⟩ := hx
          have F1 := hid f1
          have F2 := hid f2
          have F3 := hid f3
          clear f1 f2 f3
          have hq2 : k ≤ 21 := by omega
          generalize (runX false false k (s1.1, c0)).1 = ta at *
          generalize (runX false false k (s1.1, c0)).2 = tc at *
          obtain ⟨k2, rfl⟩ : ∃ k2 : Nat, k2 = k := ⟨_, rfl⟩
          obtain ⟨wo2, rfl⟩ : ∃ wo2 : World, wo2 = wr := ⟨_, rfl⟩
          go_wp2_with fail
          refine (version_c _ _ _ _ HA.out).mono ?_
          rintro e w1 ⟨rfl, rfl⟩
          go_wp2_with fail
          refine (tick_c s1.2 _ (B + 3) (B + 2) HBT.out HDB.out.fit (by have := HDB.out.ticks; omega) (by have := HDB.out.ver; omega)).mono ?_
          rintro e w3 ⟨v, rfl, -, hM, hO3⟩
          have hw3 := hO3.size
          have hwB := HA.out.tab.lt
          have hwC := HC.out.tab.lt
          have HA3 := hid (HA.out.only hO3 (by rintro (h | h) <;> omega) (by rintro (h | h) <;> omega))
          have HC3 := hid (HC.out.only hO3 (by rintro (h | h) <;> omega) (by rintro (h | h) <;> omega))
          have HB3 := hid (HB.out.trans (hO3.below (B := w.heap.size) (by rintro i (h | h) <;> omega) HB.out.size))
          have HM3 : Hid (w3.ownsRow wo2.heap.size 39 4 v (out (tick s1.2)).length (mflat (out (tick s1.2)))) := hM
          have hol : (out (tick s1.2)).length ≤ 8 := by have h1 := out_len (tick s1.2); have h2 := HDB.out.few; rw [tick_len] at h1; omega
          clear hM hO3 HA HC HB HBT
          generalize out (tick s1.2) = L at *
          go_wp2_with (at_builtin; refine wpList_append_lies _ rfl _ _ 46 rfl wo2.heap.size 39 i0 (.agg #[.int .i64 0, .int .i64 0, .int .i64 0, .int .i64 0]) 4 32 Try.underlying46 hi hz0 hz1 hz2 rfl (by decide) _ _ _ rfl (HM3.out.alloc _) ⟨w3.heap.size, 0, none⟩ 1 1 [.int .i64 8, .int .i64 20, .int .i64 0, .int .i64 10] rfl rfl (World.news_of_block (heap_alloc_new w3 (.cells #[.int .i64 8, .int .i64 20, .int .i64 0, .int .i64 10] 39))) (fun x hx => by simp at hx; rcases hx with rfl | rfl | rfl | rfl <;> rfl) (by omega) (by unfold maxLen; omega) (by omega) (by simp; omega) (w3.heap.size + 1) (by simp) ?_; intro g' cap' w4 hown1 hgrow1 hat1 hlt1)
          have hMs : Msgs w4 wo2.heap.size (.slice (some ⟨g', 0, none⟩) (L.length + 1) cap') (L ++ [oldM]) := by
            unfold Msgs
            rw [mflat_snoc, List.length_append]
            exact hown1
          have hO4 : OnlyP (fun i => v.ownBlock = some i) w3 w4 := ((OnlyP.refl _ _).alloc (.cells #[.int .i64 8, .int .i64 20, .int .i64 0, .int .i64 10] 39)).grown hgrow1 (fun g hg => .inl hg)
          have hvb : ∀ i, v.ownBlock = some i → wo2.heap.size ≤ i := fun i hi => (HM3.out.lt i hi).1
          have HA4 := hid (HA3.out.only hO4 (fun h => by have := hvb _ h; omega) (fun h => by have := hvb _ h; omega))
          have HC4 := hid (HC3.out.only hO4 (fun h => by have := hvb _ h; omega) (fun h => by have := hvb _ h; omega))
          have hwo := HB3.out.size
          have HB4 := hid (HB3.out.trans (hO4.below (B := w.heap.size) (fun i h => by have := hvb _ h; omega) HB3.out.size))
          have HMs := hid hMs
          have hgb : wo2.heap.size ≤ g' := (hown1.lt g' rfl).1
          have hl2 : (L ++ [oldM]).length = L.length + 1 := by simp
          have HL2 := hid hl2
          clear hMs hO4 hvb HA3 HC3 HB3 HM3 hown1 hgrow1 hat1 hl2
          generalize L ++ [oldM] = L2 at *
          go_wp2_with fail
          go_loopw [74] (fun v74 wr => ∃ k : Nat, k ≤ L.length + 1 ∧ v74 = .int .i64 k ∧ Table wr (B + 1) B ta ∧ Table wr (C + 1) C tc ∧ Msgs wr wo2.heap.size (.slice (some ⟨g', 0, none⟩) (L.length + 1) cap') L2 ∧ Below w.heap.size w wr) (fun v74 _ => L.length + 1 - (intOf v74).toNat)
          case atStart => exact ⟨0, by omega, rfl, HA4.out, HC4.out, HMs.out, HB4.out⟩
          case round =>
            obtain ⟨k, hk, rfl, hA, hC, hM, hb⟩ := hrel
            clear HA4 HC4 HMs HB4
            have HA := hid hA
            have HC := hid hC
            have HM := hid hM
            have HB := hid hb
            clear hA hC hM hb
            by_cases hlt : k < L.length + 1
            · have hl3 := HL2.out
              have hlt2 : k < L2.length := by omega
              obtain ⟨gx, cap, hxv, hgb2, hgl, hcap, hcell⟩ := HM.out.at_ (by omega)
              have hm := List.getElem?_eq_getElem hlt2
              have hst := List.all_eq_true.1 F3.out L2[k] (List.getElem_mem hlt2)
              obtain ⟨c0, c1, c2, c3⟩ := hcell k _ hm
              injection hxv with e1 e2 e3
              injection e1 with e1
              injection e1 with e1
              subst e1
              subst e3
              generalize L2[k] = m at *
              have hcap2 : L.length + 1 ≤ cap' := by omega
              clear hm hcell e2 hlt2 hl3 hcap
              have hbl : B + 1 < wr.heap.size := HA.out.tab.lt
              have hbl2 : C + 1 < wr.heap.size := HC.out.tab.lt
              have hbl3 : B < wr.heap.size := HA.out.row.lt
              have hbl4 : C < wr.heap.size := HC.out.row.lt
              rcases bool_int m.port 0 with ⟨q1, q2⟩ | ⟨q1, q2⟩
              · have hE : recvE ta 1 m = 17 := by simpa [staleB, q1] using hst
                have HE := hid hE
                clear hst hE
                go_wp2_with fail
                refine (recv_c ta 1 m _ (B + 1) B (HA.out.alloc _) HDA.out.fit.ver0 (by have := HDA.out.ver; omega)).mono ?_
                rintro e w5 ⟨rfl, hR, hO5⟩
                have hr : recv ta 1 m = ta := by unfold recv; rw [HE.out, if_neg (by decide)]
                rw [hr] at hR
                have HR := hid hR
                have HC5 := hid ((HC.out.alloc (.cells #[.int .i64 m.node, .int .i64 m.inc, .int .i64 m.port, .int .i64 m.heard] 39)).only hO5 (by rintro (h | h) <;> omega) (by rintro (h | h) <;> omega))
                have HM5 := hid ((HM.out.only ((OnlyP.refl (fun _ => False) wr).alloc (.cells #[.int .i64 m.node, .int .i64 m.inc, .int .i64 m.port, .int .i64 m.heard] 39)) (fun _ _ h => h)).only hO5 (fun i hi => by have := (HM.out.lt i hi).1; rintro (h | h) <;> omega))
                have HB5 := hid ((HB.out.alloc HB.out.size (.cells #[.int .i64 m.node, .int .i64 m.inc, .int .i64 m.port, .int .i64 m.heard] 39)).trans (hO5.below (B := w.heap.size) (by rintro i (h | h) <;> omega) (by have := HB.out.size; simp; omega)))
                clear hR hO5 hr c0 c1 c2 c3
                rw [HE.out]
                go_wp2_with fail
                go_roundw
                case rel => exact ⟨k + 1, by omega, by go_num, HR.out, HC5.out, HM5.out, HB5.out⟩
                case measure => simp [intOf]; omega
              · clear hst
                go_wp2_with fail
                go_roundw
                case rel => exact ⟨k + 1, by omega, by go_num, HA.out.alloc _, HC.out.alloc _, HM.out.only ((OnlyP.refl (fun _ => False) wr).alloc _) (fun _ _ h => h), HB.out.alloc HB.out.size _⟩
                case measure => simp [intOf]; omega
            · go_wp2_with fail
              refine (state_c _ _ _ _ _ HA.out).mono ?_
              rintro e w1 ⟨rfl, rfl⟩
              rw [F1.out]
              go_wp2_with fail
              refine (state_c _ _ _ _ _ HC.out).mono ?_
              rintro e w1 ⟨rfl, rfl⟩
              rw [F2.out]
              go_wp2_with fail
              refine (version_c _ _ _ _ HA.out).mono ?_
              rintro e w1 ⟨rfl, rfl⟩
              go_wp2_with fail
              go_ret
              exact ⟨rfl, HB.out⟩

set_option maxRecDepth 100000 in
theorem liftedHelloRestarts (os : Os) (started : os.Started) (H : Type) (enc : TypeId × Value → H) :
    ReturnsInHanded {} Try.checked os 7 .any (Rows.helloRestartsSpec.pre6 enc Try.prog Try.f7 Rows.helloRestartsRow.domain false) (Rows.helloRestartsSpec.post enc Try.prog Try.f7 false true false false) := by
  refine returnsInHanded_of_change (C := Try.checked) own started (by kernel_rfl) Try.func7
    (ChangeSpec.witness6 (enc := enc) (C := Try.checked) false ⟨#[], #[.int .u8 0, .int .u8 0], []⟩ 8 (by kernel_rfl) (by kernel_rfl) (by kernel_rfl) (by kernel_rfl)) ?_
  intro W base args ds gs before hval0 hW hcnd _
  have hval : ∀ (j : Nat) t v, Try.f7.params[j]? = some t → args[j]? = some v → Value.okWide Try.prog W .any base t v := hval0
  have hW' := hW
  obtain ⟨p, q, hA0, hV, rfl, hfz, hnd⟩ := hW
  have hA : DataW.TrodAll enc Try.prog W 0 (fun _ => true) true Try.f7.params.toList args.toList ds p := hA0
  rw [Try.params7] at hA hval
  obtain ⟨v0, vs0, d0, ds0, p0, q0, hargs, rfl, rfl, h0, r0⟩ := trodAll_cons hA
  obtain ⟨v1, vs1, d1, ds1, p1, q1, rfl, rfl, rfl, h1, r1⟩ := trodAll_cons r0
  obtain ⟨rfl, rfl, rfl⟩ := trodAll_nil r1
  obtain rfl : args = #[v0, v1] := by cases args; simp_all
  obtain ⟨rfl, rfl⟩ := trodVars_none hV
  have k0 := h0
  have lt0 : ∀ x ∈ p0, x.block < W.heap.size := by obtain ⟨m, hm⟩ := k0; exact DataW.trod_lt m _ _ _ hm
  have k1 := h1
  have lt1 : ∀ x ∈ p1, x.block < W.heap.size := by obtain ⟨m, hm⟩ := k1; exact DataW.trod_lt m _ _ _ hm
  obtain ⟨a0, rfl, -, -, w0⟩ := open_int Try.underlying5 (hval 0 5 v0 rfl rfl) h0
  obtain ⟨a1, rfl, -, -, w1⟩ := open_int Try.underlying5 (hval 1 5 v1 rfl rfl) h1
  clear hA0 hval0
  refine (walkHelloRestarts a0 a1 W w0 w1).mono fun e W' ⟨he, bel⟩ => ?_
  subst he
  exact ⟨_, rfl, _, _, _, [], _, [], hW', trodAll_mk1 (shut_bool Try.underlying4 _), (trodAll_cons_mk (Below.trod laidOut (by kernel_rfl) (of_decide_eq_true (by kernel_rfl)) k0 bel lt0) (trodAll_cons_mk (Below.trod laidOut (by kernel_rfl) (of_decide_eq_true (by kernel_rfl)) k1 bel lt1) trodAll_mk0)), rfl, bel.frame _, fun h => by cases h⟩
/-- The given statement. -/
theorem helloRestarts_holds : Rows.HelloRestartsSaid :=
  OpenClaim.holds_of_wide 7 Try.f7 rfl rfl rfl rfl rfl rfl rfl ⟨rfl, rfl, rfl, rfl, rfl⟩ rfl rfl rfl rfl rfl (by kernel_rfl) Try.func7 (by kernel_rfl)
    (of_decide_eq_true (by kernel_rfl)) (by unfold Func.isWrapper; first | (rw [if_pos (by decide +kernel)]; kernel_rfl) | (rw [if_neg (by decide +kernel)]; exact ⟨rfl, rfl⟩))
    (fun os started H enc _ => liftedHelloRestarts os started H enc)
#print axioms helloRestarts_holds
end Go.Proofs.Ytkbnacboianjkaa
