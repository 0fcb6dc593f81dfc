/- For all arguments and all lists of calls the statement HelloCalls returns true: a table returns what the reference returns. No condition. -/
import Derived.Test.YtkbnacboianjkaaBase
import Derived.Test.YtkbnacboianjkaaCalls
namespace Go.Proofs.Ytkbnacboianjkaa
open Go.ChangeShapes Go.WideShapes Go.ChangeAt Go.RowKit
set_option linter.unusedVariables false
set_option linter.unusedSimpArgs false
set_option maxRecDepth 100000 in
set_option maxHeartbeats 8000000 in
theorem walkHelloCalls (a0 a1 a2 a3 a4 : Int) (a5 : Option Addr) (len5 cap5 : Nat) (w : World) (w0 : (Lit.int .i64 a0).wf = true) (w1 : (Lit.int .i64 a1).wf = true) (w2 : (Lit.int .i64 a2).wf = true) (w3 : (Lit.int .i64 a3).wf = true) (w4 : (Lit.int .i64 a4).wf = true) (w5 : IsRows w 6 IsAct a5 len5 cap5) :
    Calls Try.prog 4 #[.int .i64 a0, .int .i64 a1, .int .i64 a2, .int .i64 a3, .int .i64 a4, .slice a5 len5 cap5] w fun e w' => e = .returned (.bool true) ∧ Below w.heap.size w w' := by
  clear w0 w1 w2 w3 w4
  obtain ⟨hcap, hmax, hrow⟩ := w5
  unfold maxLen at hmax
  by_cases hl : 60 < len5
  · clear hrow
    have hl8 : (60 : Int) < len5 := by omega
    go_enter Try.func4, Try.ntmps4
    go_wp2_with (go_at_call 11; refine (awake_c _).mono ?_; rintro e wa ⟨rfl, hba⟩; have HJ := Kept.mk hba; clear hba)
    go_ret
    exact ⟨rfl, HJ.out⟩
  · have hl2 : len5 ≤ 60 := by omega
    have hl8 : (len5 : Int) ≤ 60 := by omega
    have HR0 := Kept.mk hrow
    clear hl hrow
    cases hnew : newB a0 a1 a2 a3 a4 with
    | false =>
      go_enter Try.func4, Try.ntmps4
      go_wp2_with (first | (go_at_call 11; refine (awake_c _).mono ?_; rintro e wa ⟨rfl, hba⟩; have HJ := Kept.mk hba; clear hba) | (go_at_call 15; refine (newNot_c a0 a1 a2 a3 a4 _ hnew).mono ?_; rintro e wb ⟨rfl, rfl⟩) | (go_at_call 16; refine (rnewNot_c a0 a1 a2 a3 a4 _ hnew).mono ?_; rintro e wc ⟨rfl, hbc⟩; unfold rz; have HJ2 := Kept.mk (join HJ.out hbc); clear hbc))
      refine wp_loop_rounds 1 ?_
      rw [rounds_succ]
      obtain ⟨X, hX, HJX⟩ : ∃ X, X = wc.alloc (.cells #[.int .i64 0, .int .i64 0, .int .i64 0, .int .i64 0, .slice none 0 0, .int .i64 0, .int .i64 0] 35) ∧ Kept (Below w.heap.size w X) := ⟨_, rfl, ⟨HJ2.out.alloc HJ2.out.size _⟩⟩
      rw [← hX]
      clear hX HJ HJ2
      go_wp2_with (first | (go_at_call 22; refine (nbNil_c 0 _).mono ?_; rintro e wn ⟨rfl, rfl⟩) | (go_at_call 19; refine (tickNil_c _).mono ?_; rintro e w8 ⟨rfl, hb8⟩; have HJ8 := Kept.mk (join HJX.out hb8); clear hb8) | (go_at_call 17; refine (recvNil_c 0 ⟨0, 0, 0, 0⟩ _).mono ?_; rintro e w9 ⟨rfl, hb9⟩; have HJ9 := Kept.mk (join HJ8.out hb9); clear hb9) | (go_at_call 14; refine (stateNil_c 0 _).mono ?_; rintro e wn ⟨rfl, rfl⟩) | (go_at_call 21; refine (versionNil_c _).mono ?_; rintro e wn ⟨rfl, rfl⟩))
      go_ret
      exact ⟨rfl, HJ9.out⟩
    | true =>
      obtain ⟨-, -, hn2, ⟨he1, -⟩, hd1, -⟩ := newB_iff.1 hnew
      obtain ⟨n, rfl⟩ : ∃ n : Nat, a2 = n := ⟨a2.toNat, by omega⟩
      have hn8 : n ≤ 8 := by omega
      go_enter Try.func4, Try.ntmps4
      go_wp2_with (first | (go_at_call 11; refine (awake_c _).mono ?_; rintro e wa ⟨rfl, hba⟩; have HJ := Kept.mk hba; clear hba) | (go_at_call 15; refine (new_c a0 a1 n a3 a4 _ hnew).mono ?_; rintro e wb ⟨rfl, hT, hbb, hzb⟩; have HT := Kept.mk hT; have HBB := Kept.mk hbb; have HZB := Kept.mk hzb; clear hT hbb hzb) | (go_at_call 16; refine (rnew_c a0 a1 n a3 a4 _ hnew).mono ?_; rintro e wc ⟨A, ka, rfl, hR, hbc⟩; unfold rval rcs; have HR := Kept.mk hR; have HBC := Kept.mk hbc; clear hR hbc))
      obtain ⟨X, hX, HX⟩ : ∃ X, X = wc.alloc (.cells #[.int .i64 (new a0 a1 n a3 a4).node, .int .i64 (new a0 a1 n a3 a4).inc, .int .i64 (new a0 a1 n a3 a4).every, .int .i64 (new a0 a1 n a3 a4).dead, .slice A (new a0 a1 n a3 a4).ports.length ka, .int .i64 (new a0 a1 n a3 a4).ticks, .int .i64 (new a0 a1 n a3 a4).version] 35) ∧ Kept (HC w wa.heap.size wc.heap.size (new a0 a1 n a3 a4) A ka 0 X) := ⟨_, rfl, ⟨HC.start HJ.out HT.out HBB.out HZB.out HR.out HBC.out (bd_new2 a0 a1 n a3 a4 hn8 he1 hd1) (seen_new a0 a1 n a3 a4)⟩⟩
      obtain ⟨B, hB⟩ : ∃ B, B = wa.heap.size := ⟨_, rfl⟩
      obtain ⟨b, hb⟩ : ∃ b, b = wc.heap.size := ⟨_, rfl⟩
      rw [← hX, ← hB, ← hb]
      rw [← hB, ← hb] at HX
      clear hX hB hb HJ HT HBB HZB HR HBC hnew
      go_loopw [17] (fun v17 wr => ∃ (k : Nat) (t : Tb) (A : Option Addr) (ka : Nat), k ≤ len5 ∧ v17 = .int .i64 k ∧ Kept (HC w B b t A ka k wr)) (fun v17 _ => len5 - (intOf v17).toNat)
      case atStart => exact ⟨0, _, _, _, by omega, rfl, HX⟩
      case round =>
        clear HX
        obtain ⟨k, t, A, ka, hk, rfl, HX⟩ := hrel
        by_cases hlt : k < len5
        · obtain ⟨b0, off, rfl, hbl, hcs⟩ := HR0.out (by omega)
          obtain ⟨cs, ⟨kind, port, node, inc, mp, heard, rfl⟩, hcell⟩ := hcs k hlt
          have c0 := (HX.out.blw.cell (p := ⟨b0, off + k * 6, none⟩) hbl).trans (hcell 0 _ rfl)
          have c1 := (HX.out.blw.cell (p := ⟨b0, off + k * 6 + 1, none⟩) hbl).trans (hcell 1 _ rfl)
          have c2 := (HX.out.blw.cell (p := ⟨b0, off + k * 6 + 2, none⟩) hbl).trans (hcell 2 _ rfl)
          have c3 := (HX.out.blw.cell (p := ⟨b0, off + k * 6 + 3, none⟩) hbl).trans (hcell 3 _ rfl)
          have c4 := (HX.out.blw.cell (p := ⟨b0, off + k * 6 + 4, none⟩) hbl).trans (hcell 4 _ rfl)
          have c5 := (HX.out.blw.cell (p := ⟨b0, off + k * 6 + 5, none⟩) hbl).trans (hcell 5 _ rfl)
          have hk8 : (k : Int) < len5 := by omega
          have hbr : b0 < wr.heap.size := Nat.lt_of_lt_of_le hbl HX.out.blw.size
          clear hcs hcell
          go_upto_region 13 with fail
          obtain ⟨W1, hW1, HX1, HA1⟩ : ∃ W1, W1 = wr.alloc (.cells #[.int .i64 kind, .int .i64 port, .int .i64 node, .int .i64 inc, .int .i64 mp, .int .i64 heard] 41) ∧ Kept (HC w B b t A ka k W1) ∧ Kept (Blk W1 wr.heap.size 41 #[.int .i64 kind, .int .i64 port, .int .i64 node, .int .i64 inc, .int .i64 mp, .int .i64 heard]) := ⟨_, rfl, ⟨HX.out.new_ ((Below.refl _ _).alloc (Nat.le_refl _) _)⟩, ⟨Blk.new _ _ _⟩⟩
          obtain ⟨y, hy⟩ : ∃ y, y = wr.heap.size := ⟨_, rfl⟩
          rw [← hW1, ← hy]
          rw [← hy] at HA1
          have hby : b < y := by rw [hy]; exact HX.out.bx.lt
          clear hW1 hy HX c0 c1 c2 c3 c4 c5 hbr
          have hbb := HX1.out.hb
          have hb2 := HX1.out.hB
          have e0 := HA1.out.cell 0 (v := .int .i64 kind) rfl
          have e1 := HA1.out.cell 1 (v := .int .i64 port) rfl
          have e2 := HA1.out.cell 2 (v := .int .i64 node) rfl
          have e3 := HA1.out.cell 3 (v := .int .i64 inc) rfl
          have e4 := HA1.out.cell 4 (v := .int .i64 mp) rfl
          have e5 := HA1.out.cell 5 (v := .int .i64 heard) rfl
          have ly := HA1.out.lt
          have lb := HX1.out.bx.lt
          have hv0 := HX1.out.bd.fit.ver0
          have hv1 := HX1.out.bd.ver
          have htk := HX1.out.bd.ticks
          have ht0 := HX1.out.bd.fit.ticks0
          go_upto_if 81 with fail
          go_cut [] (fun wx => ∃ (t' : Tb) (A' : Option Addr) (ka' : Nat), Kept (HC w B b t' A' ka' (k + 1) wx))
          case first =>
            by_cases hkind : kind = 0
            · subst hkind
              go_wp2_with (first | (go_at_call 17; refine (recv_c t port ⟨node, inc, mp, heard⟩ _ (B + 1) B HX1.out.tab hv0 (by omega)).mono ?_; rintro e w2 ⟨rfl, hT2, hO2⟩; have HX2 := Kept.mk (HX1.out.bx.only hO2 (by rintro (h | h) <;> omega)); have HA2 := Kept.mk (HA1.out.only hO2 (by rintro (h | h) <;> omega)); have HR2 := Kept.mk (HX1.out.rt.only hO2 HX1.out.tab.blks); have HT2 := Kept.mk hT2; have HO2 := Kept.mk hO2; clear hT2 hO2 e0 e1 e2 e3 e4 e5 ly lb; have e1 := HA2.out.cell 1 (v := .int .i64 port) rfl; have e2 := HA2.out.cell 2 (v := .int .i64 node) rfl; have e3 := HA2.out.cell 3 (v := .int .i64 inc) rfl; have e4 := HA2.out.cell 4 (v := .int .i64 mp) rfl; have e5 := HA2.out.cell 5 (v := .int .i64 heard) rfl; have g0 := HX2.out.cell 0 (v := .int .i64 t.node) rfl; have g1 := HX2.out.cell 1 (v := .int .i64 t.inc) rfl; have g2 := HX2.out.cell 2 (v := .int .i64 t.every) rfl; have g3 := HX2.out.cell 3 (v := .int .i64 t.dead) rfl; have g4 := HX2.out.cell 4 (v := .slice A t.ports.length ka) rfl; have g5 := HX2.out.cell 5 (v := .int .i64 t.ticks) rfl; have g6 := HX2.out.cell 6 (v := .int .i64 t.version) rfl; have ly := HA2.out.lt; have lb := HX2.out.lt) | (go_at_call 18; refine (rrecv_c t port ⟨node, inc, mp, heard⟩ A ka _ HR2.out hv0 (by omega)).mono ?_; rintro e w3 ⟨A', ka', rfl, hR3, hb3⟩; unfold rval rcs; have HX3 := Kept.mk (HX2.out.new_ hb3); have HR3 := Kept.mk hR3; have HB3 := Kept.mk hb3; clear hR3 hb3 g0 g1 g2 g3 g4 g5 g6 e1 e2 e3 e4 e5 ly lb; have g0 := HX3.out.cell 0 (v := .int .i64 t.node) rfl; have g1 := HX3.out.cell 1 (v := .int .i64 t.inc) rfl; have g2 := HX3.out.cell 2 (v := .int .i64 t.every) rfl; have g3 := HX3.out.cell 3 (v := .int .i64 t.dead) rfl; have g4 := HX3.out.cell 4 (v := .slice A t.ports.length ka) rfl; have g5 := HX3.out.cell 5 (v := .int .i64 t.ticks) rfl; have g6 := HX3.out.cell 6 (v := .int .i64 t.version) rfl; have gf0 := HX3.out.free 0; have gf1 := HX3.out.free 1; have gf2 := HX3.out.free 2; have gf3 := HX3.out.free 3; have gf4 := HX3.out.free 4; have gf5 := HX3.out.free 5; have gf6 := HX3.out.free 6; have lb := HX3.out.lt; generalize hrt : recv t port ⟨node, inc, mp, heard⟩ = t9; rw [hrt] at HR3; have HRT := Kept.mk hrt; clear hrt))
              go_meet
              obtain ⟨W9, hW9, hB9, hO9⟩ := fill7 HX3.out (.int .i64 t9.node) (.int .i64 t9.inc) (.int .i64 t9.every) (.int .i64 t9.dead) (.slice A' t9.ports.length ka') (.int .i64 t9.ticks) (.int .i64 t9.version)
              rw [← hW9]
              clear hW9
              have hT2 := HT2.out
              rw [HRT.out] at hT2
              exact ⟨t9, A', ka', ⟨HX1.out.step hT2 HO2.out HB3.out HR3.out hO9 hB9 (by rw [← HRT.out]; exact bd_mono (bd_recv HX1.out.bd _ _) (by omega) (by omega)) (by rw [← HRT.out]; exact seen_recv HX1.out.seen _ _)⟩⟩
            · have hkb : (kind == 0) = false := by simpa using hkind
              go_wp2_with (first | (go_at_call 19; refine (tick_c t _ (B + 1) B HX1.out.tab HX1.out.bd.fit (by omega) (by omega)).mono ?_; rintro e w2 ⟨v22, rfl, hT2, hM2, hO2⟩; obtain ⟨A22, k22, rfl⟩ := own_slice (show w2.ownsRow W1.heap.size 39 4 v22 (out (tick t)).length (mflat (out (tick t))) from hM2); have HM2 : Kept (w2.ownsRow W1.heap.size 39 4 (.slice A22 (out (tick t)).length k22) (out (tick t)).length (mflat (out (tick t)))) := ⟨hM2⟩; clear hM2; have HX2 := Kept.mk (HX1.out.bx.only hO2 (by rintro (h | h) <;> omega)); have HA2 := Kept.mk (HA1.out.only hO2 (by rintro (h | h) <;> omega)); have HR2 := Kept.mk (HX1.out.rt.only hO2 HX1.out.tab.blks); have HT2 := Kept.mk hT2; have HO2 := Kept.mk hO2; clear hT2 hO2 e0 e1 e2 e3 e4 e5 ly lb; have e1 := HA2.out.cell 1 (v := .int .i64 port) rfl; have e2 := HA2.out.cell 2 (v := .int .i64 node) rfl; have e3 := HA2.out.cell 3 (v := .int .i64 inc) rfl; have e4 := HA2.out.cell 4 (v := .int .i64 mp) rfl; have e5 := HA2.out.cell 5 (v := .int .i64 heard) rfl; have g0 := HX2.out.cell 0 (v := .int .i64 t.node) rfl; have g1 := HX2.out.cell 1 (v := .int .i64 t.inc) rfl; have g2 := HX2.out.cell 2 (v := .int .i64 t.every) rfl; have g3 := HX2.out.cell 3 (v := .int .i64 t.dead) rfl; have g4 := HX2.out.cell 4 (v := .slice A t.ports.length ka) rfl; have g5 := HX2.out.cell 5 (v := .int .i64 t.ticks) rfl; have g6 := HX2.out.cell 6 (v := .int .i64 t.version) rfl; have ly := HA2.out.lt; have lb := HX2.out.lt) | (go_at_call 20; refine (rtick_c t A ka _ HR2.out HX1.out.bd.fit (by omega) (by omega)).mono ?_; rintro e w3 ⟨A', ka', v21, rfl, hR3, hM3, hb3⟩; unfold rval rcs; obtain ⟨A21, k21, rfl⟩ := own_slice hM3; have HM3 := Kept.mk hM3; clear hM3; have HX3 := Kept.mk (HX2.out.new_ hb3); have HR3 := Kept.mk hR3; have HB3 := Kept.mk hb3; clear hR3 hb3 g0 g1 g2 g3 g4 g5 g6 e1 e2 e3 e4 e5 ly lb; have g0 := HX3.out.cell 0 (v := .int .i64 t.node) rfl; have g1 := HX3.out.cell 1 (v := .int .i64 t.inc) rfl; have g2 := HX3.out.cell 2 (v := .int .i64 t.every) rfl; have g3 := HX3.out.cell 3 (v := .int .i64 t.dead) rfl; have g4 := HX3.out.cell 4 (v := .slice A t.ports.length ka) rfl; have g5 := HX3.out.cell 5 (v := .int .i64 t.ticks) rfl; have g6 := HX3.out.cell 6 (v := .int .i64 t.version) rfl; have gf0 := HX3.out.free 0; have gf1 := HX3.out.free 1; have gf2 := HX3.out.free 2; have gf3 := HX3.out.free 3; have gf4 := HX3.out.free 4; have gf5 := HX3.out.free 5; have gf6 := HX3.out.free 6; have lb := HX3.out.lt; generalize hrt : tick t = t9; rw [hrt] at HR3 HM2 HM3 HT2; generalize hms : out t9 = ms; rw [hms] at HM2 HM3; have HRT := Kept.mk hrt; have hms8 : ms.length ≤ 8 := (by rw [← hms]; exact out_len8 HT2.out.few); clear hrt hms))
              obtain ⟨W9, hW9, hB9, hO9⟩ := fill7 HX3.out (.int .i64 t9.node) (.int .i64 t9.inc) (.int .i64 t9.every) (.int .i64 t9.dead) (.slice A' t9.ports.length ka') (.int .i64 t9.ticks) (.int .i64 t9.version)
              rw [← hW9]
              clear hW9
              have HX9 : Kept (HC w B b t9 A' ka' (k + 1) W9) := ⟨HX1.out.step HT2.out HO2.out HB3.out HR3.out hO9 hB9 (by rw [← HRT.out]; exact bd_mono (bd_tick HX1.out.bd (by omega)) (by omega) (by omega)) (by rw [← HRT.out]; exact seen_tick HX1.out.seen)⟩
              have HR39 := Kept.mk (own_only (own_new HM2.out HB3.out) hO9 HX1.out.bx.lt)
              have HR44 := Kept.mk (own_only HM3.out hO9 HX2.out.lt)
              clear hB9 hO9 HX1 HX2 HX3 HA1 HA2 HR2 HR3 HB3 HT2 HO2 HM2 HM3 HRT g0 g1 g2 g3 g4 g5 g6 gf0 gf1 gf2 gf3 gf4 gf5 gf6 lb hv0 hv1 htk ht0 hby
              have HLM := Kept.mk hlt
              clear hlt
              go_loopw [114] (fun v114 wz => ∃ j : Nat, j ≤ ms.length ∧ v114 = .int .i64 j ∧ Kept (∃ q, wz = W9.drewN q)) (fun v114 _ => ms.length - (intOf v114).toNat)
              case atStart => exact ⟨0, by omega, rfl, ⟨0, rfl⟩⟩
              case round =>
                obtain ⟨j, hj, rfl, HD⟩ := hrel
                obtain ⟨q, hq⟩ := HD.out
                have HQ := Kept.mk hq
                by_cases hlt : j < ms.length
                · obtain ⟨x, hx⟩ : ∃ x, ms[j]? = some x := ⟨_, List.getElem?_eq_getElem hlt⟩
                  obtain ⟨g1, cap1, hv1, -, hg1, hcp1, hc1⟩ := own_msgs HR39.out (by omega)
                  injection hv1 with hA1 _ hK1
                  subst hA1
                  subst hK1
                  obtain ⟨g2, cap2, hv2, -, hg2, hcp2, hc2⟩ := own_msgs HR44.out (by omega)
                  injection hv2 with hA2 _ hK2
                  subst hA2
                  subst hK2
                  obtain ⟨p0, p1, p2, p3⟩ : wr.cell? ⟨g1, j * 4, none⟩ = some (.int .i64 x.node) ∧ wr.cell? ⟨g1, j * 4 + 1, none⟩ = some (.int .i64 x.inc) ∧ wr.cell? ⟨g1, j * 4 + 2, none⟩ = some (.int .i64 x.port) ∧ wr.cell? ⟨g1, j * 4 + 3, none⟩ = some (.int .i64 x.heard) := by rw [hq]; exact hc1 j x hx
                  obtain ⟨r0, r1, r2, r3⟩ : wr.cell? ⟨g2, j * 4, none⟩ = some (.int .i64 x.node) ∧ wr.cell? ⟨g2, j * 4 + 1, none⟩ = some (.int .i64 x.inc) ∧ wr.cell? ⟨g2, j * 4 + 2, none⟩ = some (.int .i64 x.port) ∧ wr.cell? ⟨g2, j * 4 + 3, none⟩ = some (.int .i64 x.heard) := by rw [hq]; exact hc2 j x hx
                  have hn44 := fun w => neq44 w x.node x.inc x.port x.heard
                  have hj8 : (j : Int) < ms.length := by omega
                  clear hc1 hc2 hx hq HR39 HR44
                  go_wp2_with fail
                  go_quiet (fail)
                  go_wp2_with fail
                  go_roundw
                  case rel => exact ⟨j + 1, by omega, by go_num, ⟨q + nq, by rw [HQ.out, World.drewN_drewN]⟩⟩
                  case measure => simp [intOf]; omega
                · obtain rfl : j = ms.length := by omega
                  clear hq
                  go_wp2_with fail
                  go_meet
                  exact ⟨t9, A', ka', ⟨by rw [HQ.out]; exact HX9.out.drew q⟩⟩
          case rest =>
            obtain ⟨t', A', ka', HY⟩ := hcut
            clear HX1 HA1 e0 e1 e2 e3 e4 e5 ly lb hv0 hv1 htk ht0 hby
            have d6 := HY.out.bx.cell 6 (v := .int .i64 t'.version) rfl
            have HT' := Kept.mk HY.out.tab
            go_wp2_with fail
            go_quiet ((go_at_call 21; exact Calls.quiet_of_same ((version_c t' _ (B + 1) B (HT'.out.drewN _)).mono fun _ _ h => ⟨h.1, h.2.symm⟩)))
            have HY2 := Kept.mk (HY.out.drew nq)
            have hn1 := HY.out.rt.pos
            have hn8' := HY.out.rt.few
            clear d6 HY HT'
            go_wp2_with fail
            have HLM := Kept.mk hlt
            clear hlt
            go_loopw [24] (fun v24 wz => ∃ kk : Int, -1 ≤ kk ∧ kk ≤ t'.ports.length + 1 ∧ v24 = .int .i64 kk ∧ Kept (HC w B b t' A' ka' (k + 1) wz)) (fun v24 _ => (t'.ports.length + 1 - intOf v24).toNat)
            case atStart => exact ⟨-1, by omega, by omega, rfl, HY2⟩
            case round =>
              clear HY2
              obtain ⟨kk, hk0, hk1, rfl, HZ⟩ := hrel
              have d4 := HZ.out.bx.cell 4 (v := .slice A' t'.ports.length ka') rfl
              by_cases hle : kk ≤ t'.ports.length
              · have hcase : kk < 0 ∨ (0 ≤ kk ∧ kk = t'.ports.length) ∨ (0 ≤ kk ∧ kk < t'.ports.length) := by omega
                rcases hcase with y1 | ⟨y1, y2⟩ | ⟨y1, y2⟩
                · have hs0 : stateAt t' kk = 0 := state_out (by omega)
                  have HN := nb_zero hs0
                  have HN1 := Kept.mk HN.2.1
                  have HN2 := Kept.mk HN.2.2
                  have HN3 := Kept.mk HN.1
                  have HS0 := Kept.mk hs0
                  clear HN hs0
                  go_wp2_with (first | (go_at_call 22; refine (nbEq_c t' kk 0 0 false _ (B + 1) B HZ.out.tab HN1.out HN2.out HN3.out).mono ?_; rintro e wq ⟨rfl, nq, rfl⟩; have HZ2 := Kept.mk (HZ.out.drew nq); clear d4; have d4 := HZ2.out.bx.cell 4 (v := .slice A' t'.ports.length ka') rfl) | (go_at_call 14; refine (stateEq_c t' kk 0 _ (B + 1) B HZ2.out.tab HS0.out).mono ?_; rintro e wq2 ⟨rfl, rfl⟩))
                  go_roundw
                  case rel => exact ⟨kk + 1, by omega, by omega, by go_num, HZ2⟩
                  case measure => simp [intOf]; omega
                · have hs0 : stateAt t' kk = 0 := state_out (by omega)
                  have y3 : (kk == (t'.ports.length : Int)) = true := by simpa using y2
                  have y4 : decide (kk < 0) = false := by simpa using y1
                  clear y2
                  have HN := nb_zero hs0
                  have HN1 := Kept.mk HN.2.1
                  have HN2 := Kept.mk HN.2.2
                  have HN3 := Kept.mk HN.1
                  have HS0 := Kept.mk hs0
                  clear HN hs0
                  go_wp2_with (first | (go_at_call 22; refine (nbEq_c t' kk 0 0 false _ (B + 1) B HZ.out.tab HN1.out HN2.out HN3.out).mono ?_; rintro e wq ⟨rfl, nq, rfl⟩; have HZ2 := Kept.mk (HZ.out.drew nq); clear d4; have d4 := HZ2.out.bx.cell 4 (v := .slice A' t'.ports.length ka') rfl) | (go_at_call 14; refine (stateEq_c t' kk 0 _ (B + 1) B HZ2.out.tab HS0.out).mono ?_; rintro e wq2 ⟨rfl, rfl⟩))
                  go_roundw
                  case rel => exact ⟨kk + 1, by omega, by omega, by go_num, HZ2⟩
                  case measure => simp [intOf]; omega
                · obtain ⟨i, rfl⟩ := Int.eq_ofNat_of_zero_le y1
                  have hi : i < t'.ports.length := by omega
                  have hp := getD_some hi
                  obtain ⟨p, hpp⟩ : ∃ p, p = t'.ports.getD i pt0 := ⟨_, rfl⟩
                  rw [← hpp] at hp
                  have y3 : ((i : Int) == (t'.ports.length : Int)) = false := beq_false_of_ne (by omega)
                  clear hpp
                  have y4 : decide ((i : Int) < 0) = false := by simp
                  have hi8 : (i : Int) < t'.ports.length := by omega
                  have HSN := Kept.mk HZ.out.seen
                  obtain ⟨rb, roff, rfl, hrb, hrow⟩ := HZ.out.rt.at_
                  obtain ⟨r0, r1, -, r3, -⟩ := hrow i p hp
                  have hkl := HZ.out.rt.le
                  by_cases hs : p.state = 0
                  · have hs0 : stateAt t' (i : Int) = 0 := by rw [state_in hp]; exact hs
                    have y5 : (p.state == 0) = true := by simpa using hs
                    clear hrow hp hs r1 r3
                    have HN := nb_zero hs0
                    have HN1 := Kept.mk HN.2.1
                    have HN2 := Kept.mk HN.2.2
                    have HN3 := Kept.mk HN.1
                    have HS0 := Kept.mk hs0
                    clear HN hs0
                    go_wp2_with (first | (go_at_call 22; refine (nbEq_c t' (i : Int) 0 0 false _ (B + 1) B HZ.out.tab HN1.out HN2.out HN3.out).mono ?_; rintro e wq ⟨rfl, nq1, rfl⟩; have HZ2 := Kept.mk (HZ.out.drew nq1); clear d4; have d4 := HZ2.out.bx.cell 4 (v := .slice (some ⟨rb, roff, none⟩) t'.ports.length ka') rfl; have s0 : (wr.drewN nq1).cell? ⟨rb, roff + i * 5, none⟩ = some (.int .i64 p.state) := r0) | (go_at_call 14; refine (stateEq_c t' (i : Int) 0 _ (B + 1) B HZ2.out.tab HS0.out).mono ?_; rintro e wq2 ⟨rfl, rfl⟩))
                    go_roundw
                    case rel => exact ⟨(i : Int) + 1, by omega, by omega, by go_num, HZ2⟩
                    case measure => simp [intOf]; omega
                  · have y5 : (p.state == 0) = false := by simpa using hs
                    obtain ⟨N1, N2, N3⟩ := nb_one hp hs
                    have HS0 := Kept.mk (state_in hp)
                    have HN1 := Kept.mk N2
                    have HN2 := Kept.mk N3
                    have HN3 := Kept.mk N1
                    rw [rof_seen HSN.out hp hs] at r1
                    clear hrow hp hs N1 N2 N3
                    go_wp2_with (go_at_call 22; refine (nbEq_c t' (i : Int) p.last.node p.last.port true _ (B + 1) B HZ.out.tab HN1.out HN2.out HN3.out).mono ?_; rintro e wq ⟨rfl, nq1, rfl⟩; have HZ2 := Kept.mk (HZ.out.drew nq1); clear d4; have d4 := HZ2.out.bx.cell 4 (v := .slice (some ⟨rb, roff, none⟩) t'.ports.length ka') rfl; have s0 : (wr.drewN nq1).cell? ⟨rb, roff + i * 5, none⟩ = some (.int .i64 p.state) := r0; have s1 : (wr.drewN nq1).cell? ⟨rb, roff + i * 5 + 1, none⟩ = some (.int .i64 p.last.node) := r1; have s3 : (wr.drewN nq1).cell? ⟨rb, roff + i * 5 + 3, none⟩ = some (.int .i64 p.last.port) := r3)
                    obtain ⟨Y, hY⟩ : ∃ Y, Y = wr.drewN nq1 := ⟨_, rfl⟩
                    rw [← hY] at s0 s1 s3 d4 HZ2 ⊢
                    clear hY r0 r1 r3
                    have lyb := HZ2.out.bx.lt
                    go_quiet ((go_at_call 14; exact Calls.quiet_of_same ((stateEq_c t' (i : Int) p.state _ (B + 1) B (HZ2.out.tab.drewN _) HS0.out).mono fun _ _ h => ⟨h.1, h.2.symm⟩)))
                    have HZ3 := Kept.mk (HZ2.out.drew nq)
                    go_wp2_with fail
                    go_roundw
                    case rel => exact ⟨(i : Int) + 1, by omega, by omega, by go_num, HZ3⟩
                    case measure => simp [intOf]; omega
              · have hkk : kk = t'.ports.length + 1 := by omega
                go_wp2_with fail
                go_roundw
                case rel => exact ⟨k + 1, t', A', ka', by have := HLM.out; omega, by go_num, HZ⟩
                case measure => simp [intOf]; have := HLM.out; omega
        · obtain rfl : k = len5 := by omega
          have HJX : Kept (Below w.heap.size w wr) := ⟨HX.out.blw⟩
          go_wp2_with (first | (go_at_call 22; refine (nbNil_c 0 _).mono ?_; rintro e wn ⟨rfl, rfl⟩) | (go_at_call 19; refine (tickNil_c _).mono ?_; rintro e w8 ⟨rfl, hb8⟩; have HJ8 := Kept.mk (join HJX.out hb8); clear hb8) | (go_at_call 17; refine (recvNil_c 0 ⟨0, 0, 0, 0⟩ _).mono ?_; rintro e w9 ⟨rfl, hb9⟩; have HJ9 := Kept.mk (join HJ8.out hb9); clear hb9) | (go_at_call 14; refine (stateNil_c 0 _).mono ?_; rintro e wn ⟨rfl, rfl⟩) | (go_at_call 21; refine (versionNil_c _).mono ?_; rintro e wn ⟨rfl, rfl⟩))
          go_ret
          exact ⟨rfl, HJ9.out⟩

set_option maxRecDepth 100000 in
theorem liftedHelloCalls (os : Os) (started : os.Started) (H : Type) (enc : TypeId × Value → H) :
    ReturnsInHanded {} Try.checked os 4 .any (Rows.helloCallsSpec.pre6 enc Try.prog Try.f4 Rows.helloCallsRow.domain false) (Rows.helloCallsSpec.post enc Try.prog Try.f4 false true false false) := by
  refine returnsInHanded_of_change (C := Try.checked) own started (by kernel_rfl) Try.func4
    (ChangeSpec.witness6 (enc := enc) (C := Try.checked) false ⟨#[], #[.int .i64 0, .int .i64 0, .int .i64 0, .int .i64 0, .int .i64 0, .slice none 0 0], []⟩ 8 (by kernel_rfl) (by kernel_rfl) (by kernel_rfl) (by kernel_rfl)) ?_
  intro W base args ds gs before hval0 hW hcnd _
  have hval : ∀ (j : Nat) t v, Try.f4.params[j]? = some t → args[j]? = some v → Value.okWide Try.prog W .any base t v := hval0
  have hW' := hW
  obtain ⟨p, q, hA0, hV, rfl, hfz, hnd⟩ := hW
  have hA : DataW.TrodAll enc Try.prog W 0 (fun _ => true) true Try.f4.params.toList args.toList ds p := hA0
  rw [Try.params4] at hA hval
  obtain ⟨v0, vs0, d0, ds0, p0, q0, hargs, rfl, rfl, h0, r0⟩ := trodAll_cons hA
  obtain ⟨v1, vs1, d1, ds1, p1, q1, rfl, rfl, rfl, h1, r1⟩ := trodAll_cons r0
  obtain ⟨v2, vs2, d2, ds2, p2, q2, rfl, rfl, rfl, h2, r2⟩ := trodAll_cons r1
  obtain ⟨v3, vs3, d3, ds3, p3, q3, rfl, rfl, rfl, h3, r3⟩ := trodAll_cons r2
  obtain ⟨v4, vs4, d4, ds4, p4, q4, rfl, rfl, rfl, h4, r4⟩ := trodAll_cons r3
  obtain ⟨v5, vs5, d5, ds5, p5, q5, rfl, rfl, rfl, h5, r5⟩ := trodAll_cons r4
  obtain ⟨rfl, rfl, rfl⟩ := trodAll_nil r5
  obtain rfl : args = #[v0, v1, v2, v3, v4, v5] := by cases args; simp_all
  obtain ⟨rfl, rfl⟩ := trodVars_none hV
  have k0 := h0
  have lt0 : ∀ x ∈ p0, x.block < W.heap.size := by obtain ⟨m, hm⟩ := k0; exact DataW.trod_lt m _ _ _ hm
  have k1 := h1
  have lt1 : ∀ x ∈ p1, x.block < W.heap.size := by obtain ⟨m, hm⟩ := k1; exact DataW.trod_lt m _ _ _ hm
  have k2 := h2
  have lt2 : ∀ x ∈ p2, x.block < W.heap.size := by obtain ⟨m, hm⟩ := k2; exact DataW.trod_lt m _ _ _ hm
  have k3 := h3
  have lt3 : ∀ x ∈ p3, x.block < W.heap.size := by obtain ⟨m, hm⟩ := k3; exact DataW.trod_lt m _ _ _ hm
  have k4 := h4
  have lt4 : ∀ x ∈ p4, x.block < W.heap.size := by obtain ⟨m, hm⟩ := k4; exact DataW.trod_lt m _ _ _ hm
  have k5 := h5
  have lt5 : ∀ x ∈ p5, x.block < W.heap.size := by obtain ⟨m, hm⟩ := k5; exact DataW.trod_lt m _ _ _ hm
  obtain ⟨a0, rfl, -, -, w0⟩ := open_int Try.underlying3 (hval 0 3 v0 rfl rfl) h0
  obtain ⟨a1, rfl, -, -, w1⟩ := open_int Try.underlying3 (hval 1 3 v1 rfl rfl) h1
  obtain ⟨a2, rfl, -, -, w2⟩ := open_int Try.underlying3 (hval 2 3 v2 rfl rfl) h2
  obtain ⟨a3, rfl, -, -, w3⟩ := open_int Try.underlying3 (hval 3 3 v3 rfl rfl) h3
  obtain ⟨a4, rfl, -, -, w4⟩ := open_int Try.underlying3 (hval 4 3 v4 rfl rfl) h4
  obtain ⟨a5, len5, cap5, rfl⟩ := okWide_slice Try.underlying29 (hval 5 29 v5 rfl rfl)
  have w5 : IsRows W 6 IsAct a5 len5 cap5 := open_rows Try.underlying29 (show Try.prog.cellsOf 41 = 6 by kernel_rfl) (by decide) isAct h5
  clear hA0 hval0
  refine (walkHelloCalls a0 a1 a2 a3 a4 a5 len5 cap5 W w0 w1 w2 w3 w4 w5).mono fun e W' ⟨he, bel⟩ => ?_
  subst he
  exact ⟨_, rfl, _, _, _, [], _, [], hW', trodAll_mk1 (shut_bool Try.underlying4 _), (trodAll_cons_mk (Below.trod laidOut (by kernel_rfl) (of_decide_eq_true (by kernel_rfl)) k0 bel lt0) (trodAll_cons_mk (Below.trod laidOut (by kernel_rfl) (of_decide_eq_true (by kernel_rfl)) k1 bel lt1) (trodAll_cons_mk (Below.trod laidOut (by kernel_rfl) (of_decide_eq_true (by kernel_rfl)) k2 bel lt2) (trodAll_cons_mk (Below.trod laidOut (by kernel_rfl) (of_decide_eq_true (by kernel_rfl)) k3 bel lt3) (trodAll_cons_mk (Below.trod laidOut (by kernel_rfl) (of_decide_eq_true (by kernel_rfl)) k4 bel lt4) (trodAll_cons_mk (Below.trod laidOut (by kernel_rfl) (of_decide_eq_true (by kernel_rfl)) k5 bel lt5) trodAll_mk0)))))), rfl, bel.frame _, fun h => by cases h⟩
/-- The given statement. -/
theorem helloCalls_holds : Rows.HelloCallsSaid :=
  OpenClaim.holds_of_wide 4 Try.f4 rfl rfl rfl rfl rfl rfl rfl ⟨rfl, rfl, rfl, rfl, rfl⟩ rfl rfl rfl rfl rfl (by kernel_rfl) Try.func4 (by kernel_rfl)
    (of_decide_eq_true (by kernel_rfl)) (by unfold Func.isWrapper; first | (rw [if_pos (by decide +kernel)]; kernel_rfl) | (rw [if_neg (by decide +kernel)]; exact ⟨rfl, rfl⟩))
    (fun os started H enc _ => liftedHelloCalls os started H enc)
#print axioms helloCalls_holds
end Go.Proofs.Ytkbnacboianjkaa
