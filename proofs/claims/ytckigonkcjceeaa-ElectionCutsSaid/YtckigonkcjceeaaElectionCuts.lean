/- For all plans, cables that are up and cables the statement ElectionCuts returns true: cutting a cable over which no port leads changes neither roots nor distances, and a mended network elects as before. No condition. -/
import Derived.Test.YtckigonkcjceeaaEBase
import Derived.Test.YtckigonkcjceeaaEStore
namespace Go.Proofs.Ytckigonkcjceeaa
open Go.ChangeShapes Go.WideShapes Go.ChangeAt Go.RowKit
set_option linter.unusedVariables false
set_option linter.unusedSimpArgs false
/-- What stands in memory: the plan, the cables that are up, the plan's box. -/
structure CU (w0 W : World) (N : List Nd) (C : List Cb) (An Ac Au : Option Addr) (kn kc ku : Nat) (up : List Bool) : Prop where
  p : PlanAt W W.heap.size ⟨N, C, An, kn, Ac, kc⟩
  u : RowsAt W W.heap.size 1 bcell1 Au up
  box : Blk W w0.heap.size 32 #[.slice An N.length kn, .slice Ac C.length kc]
  bel : Below w0.heap.size w0 W
theorem decT {α : Type} (x : α) (i : Decidable (x = x)) : @decide (x = x) i = true := @decide_eq_true _ i rfl
section
variable {w0 W W' : World} {N : List Nd} {C : List Cb} {An Ac Au : Option Addr} {kn kc ku : Nat} {up : List Bool}
theorem CU.new_ (h : CU w0 W N C An Ac Au kn kc ku up) (hb : Below W.heap.size W W') : CU w0 W' N C An Ac Au kn kc ku up := ⟨h.p.new_ hb, h.u.new_ hb, h.box.new_ hb, join h.bel hb⟩
theorem CU.args (h : CU w0 W N C An Ac Au kn kc ku up) {Av : Option Addr} {V : List Vt} (hv : RowsAt W W.heap.size 3 vcell Av V) (kv : Nat) (h1 : up.length ≤ 1000000) (h2 : V.length ≤ 1000000) : ArgsAt W N C An Ac Au Av kn kc ku kv up V := ⟨h.p, h.u, hv, h1, h2⟩
end
set_option maxRecDepth 100000 in
set_option maxHeartbeats 8000000 in
theorem cuts_walk (N : List Nd) (C : List Cb) (An Ac Au : Option Addr) (kn kc ku : Nat) (up : List Bool) (cab : Int) (w : World) (hp : PlanAt w w.heap.size ⟨N, C, An, kn, Ac, kc⟩) (hu : RowsAt w w.heap.size 1 bcell1 Au up) (hku : up.length ≤ ku) (hku2 : ku ≤ maxLen) (hr : 0 ≤ cab ∧ cab ≤ 255) :
    Calls Try.prog 4 #[.agg #[.slice An N.length kn, .slice Ac C.length kc], .slice Au up.length ku, .int .u8 cab] w fun e w' => e = .returned (.bool true) ∧ Below w.heap.size w w' := by
  have HP := Kept.mk hp
  have HU := Kept.mk hu
  obtain ⟨L1, L2⟩ := hp.len
  simp only at L1 L2
  have L3 : up.length ≤ 9223372036854775807 := by unfold maxLen at hku2; omega
  obtain ⟨r0, r1⟩ := hr
  clear hp hu hku hku2
  have HB := Kept.mk (Blk.new w 32 #[.slice An N.length kn, .slice Ac C.length kc])
  have HG : Kept (Below w.heap.size w (w.alloc (.cells #[.slice An N.length kn, .slice Ac C.length kc] 32))) := ⟨(Below.refl _ _).alloc (Nat.le_refl _) _⟩
  go_enter Try.func4, Try.ntmps4
  go_wp2_with (go_at_call 11; refine (awake_c _).mono ?_; rintro e w1 ⟨rfl, hb1⟩; have HB1 := Kept.mk (HB.out.new_ hb1); have HD1 := Kept.mk (join HG.out hb1); clear hb1; have k0 := HB1.out.cell 0 (v := .slice An N.length kn) rfl; have k1 := HB1.out.cell 1 (v := .slice Ac C.length kc) rfl; have z1 := HB1.out.lt)
  refine (great_ N.length C.length up.length 0 An Ac Au none kn kc ku 0 _ L1 L2 L3 (by omega)).mono ?_
  rintro e w2 ⟨rfl, hb2⟩
  have HB2 := Kept.mk (HB1.out.new_ hb2)
  have HD2 := Kept.mk (join HD1.out hb2)
  clear hb2 k0 k1 z1
  have k0 := HB2.out.cell 0 (v := .slice An N.length kn) rfl
  have k1 := HB2.out.cell 1 (v := .slice Ac C.length kc) rfl
  have z1 := HB2.out.lt
  cases hgr : greatB N.length C.length up.length 0 with
  | true =>
    go_wp2_with fail
    go_ret
    exact ⟨rfl, HD2.out⟩
  | false =>
    have hgn := great_no hgr
    have HS2 : Kept (CU w w2 N C An Ac Au kn kc ku up) := ⟨HP.out.new_ HD2.out, HU.out.new_ HD2.out, HB2.out, HD2.out⟩
    by_cases hv : validE N C = 0
    · have HV := Kept.mk hv
      by_cases hl : up.length = C.length
      · have HL := Kept.mk hl
        have q1 : ((up.length : Int) != (C.length : Int)) = false := by simp; omega
        by_cases hu0 : up.length = 0
        · have q2 : ((up.length : Int) == 0) = true := beq_iff_eq.2 (by omega)
          clear hv hl hu0
          go_wp2_with (go_at_call 15; refine (valid_ N C An Ac kn kc _ HS2.out.p).mono ?_; rintro e w3 ⟨rfl, hb3⟩; rw [HV.out]; have HS3 := Kept.mk (HS2.out.new_ hb3); clear hb3 k0 k1 z1; have k0 := HS3.out.box.cell 0 (v := .slice An N.length kn) rfl; have k1 := HS3.out.box.cell 1 (v := .slice Ac C.length kc) rfl; have z1 := HS3.out.box.lt)
          go_ret
          exact ⟨rfl, HS3.out.bel⟩
        · have q2 : ((up.length : Int) == 0) = false := beq_false_of_ne (by omega)
          have hn16 : N.length ≤ 16 := (valid_spec hv).1
          have HF := Kept.mk (start_fault hv hl)
          have HCB := Kept.mk (valid_cab hv)
          have HN1 := Kept.mk (net_of (up := up) hv)
          clear hv hl
          obtain ⟨n2, hn2⟩ : ∃ n2 : Int, 2 * (N.length : Int) = n2 := ⟨_, rfl⟩
          have hn3 : 0 ≤ n2 ∧ n2 ≤ 32 := by omega
          have HN2 := Kept.mk hn2
          go_wp2_with (go_at_call 15; refine (valid_ N C An Ac kn kc _ HS2.out.p).mono ?_; rintro e w3 ⟨rfl, hb3⟩; rw [HV.out]; have HS3 := Kept.mk (HS2.out.new_ hb3); clear hb3 k0 k1 z1; have k0 := HS3.out.box.cell 0 (v := .slice An N.length kn) rfl; have k1 := HS3.out.box.cell 1 (v := .slice Ac C.length kc) rfl; have z1 := HS3.out.box.lt)
          have HS3d := Kept.mk (HS3.out.new_ (bdrew (Below.refl _ _)))
          clear k0 k1 z1
          go_region_held3 (fun w' => w'.cell? ⟨w.heap.size, 0, none⟩ = some (.slice An N.length kn) ∧ w'.cell? ⟨w.heap.size, 1, none⟩ = some (.slice Ac C.length kc)) (first | exact ⟨HS3d.out.box.cell 0 rfl, HS3d.out.box.cell 1 rfl⟩ | exact ⟨HS4.out.box.cell 0 rfl, HS4.out.box.cell 1 rfl⟩ | exact ⟨HS5.out.box.cell 0 rfl, HS5.out.box.cell 1 rfl⟩) (first | (go_at_call 17; refine (Start_v N C An Ac kn kc _ HS3d.out.p HV.out).mono ?_; rintro e w4 ⟨A4, k4, rfl, hr4, hb4⟩; have HS4 := Kept.mk (HS3d.out.new_ hb4); have HA4 := Kept.mk (HS4.out.args hr4 k4 (by omega) (by rw [startP_len]; omega)); clear hr4 hb4) | (go_at_call 16; refine (Run_late N C An Ac Au A4 kn kc ku k4 N.length n2 up (startP N.length) _ HA4.out HF.out (startP_len _) HN2.out.symm).mono ?_; rintro e w5 ⟨Ae, ke, r, V, rfl, t1, t2, t3, t4, t5, t6, t7, t8⟩; have HV1 := Kept.mk t2; have HV2 := Kept.mk t3; have HV3 := Kept.mk t4; have HR5 := Kept.mk t5; have HS5 := Kept.mk (HS4.out.new_ t8); clear t1 t2 t3 t4 t5 t6 t7 t8))
          have k0 := HS5.out.box.cell 0 (v := .slice An N.length kn) rfl
          have k1 := HS5.out.box.cell 1 (v := .slice Ac C.length kc) rfl
          have z1 := HS5.out.box.lt
          have hcp : 0 ≤ cab % (up.length : Int) ∧ cab % (up.length : Int) < up.length := ⟨Int.emod_nonneg _ (by omega), Int.emod_lt_of_pos _ (by omega)⟩
          obtain ⟨c, hc⟩ : ∃ c : Nat, cab % (up.length : Int) = c := ⟨(cab % (up.length : Int)).toNat, by omega⟩
          rw [hc] at hcp
          have hcl : c < C.length := by have := HL.out; omega
          obtain ⟨x, bc, oc, hx, rfl, hbc, hbc2, ⟨c0, c1, c2, c3, c4, c5⟩, -⟩ := HS5.out.p.cab hcl
          have hxo := HCB.out x (List.mem_of_getElem? hx)
          obtain ⟨xa, hxa⟩ : ∃ xa : Nat, x.a = xa := ⟨x.a.toNat, by have := hxo.a; omega⟩
          obtain ⟨xb, hxb⟩ : ∃ xb : Nat, x.b = xb := ⟨x.b.toNat, by have := hxo.b; omega⟩
          have la : xa < N.length := by have := hxo.a; omega
          have lb : xb < N.length := by have := hxo.b; omega
          rw [hxa] at c0
          rw [hxb] at c2
          obtain ⟨va1, bv, ov, hva, rfl, hbv, hbv2, hvc⟩ := HR5.out.at_ (k := xa) (by rw [HV1.out]; exact la)
          have v0 := hvc 2 (.int .i64 va1.port) rfl
          obtain ⟨vb1, bv', ov', hvb, e, -, -, hvc'⟩ := HR5.out.at_ (k := xb) (by rw [HV1.out]; exact lb)
          injection e with e
          injection e with e1 e2
          subst e1
          subst e2
          have v1 := hvc' 2 (.int .i64 vb1.port) rfl
          have HX := Kept.mk hx
          have HVA := Kept.mk hva
          have HVB := Kept.mk hvb
          have HXA := Kept.mk hxa
          have HXB := Kept.mk hxb
          clear hvc hvc' hx hxo hva hvb hxa hxb
          by_cases hq3 : va1.port = x.ap
          · have q3 : (va1.port == x.ap) = true := beq_iff_eq.2 hq3
            clear hq3
            go_wp2_with fail
            go_quiet (fail)
            have hb6 : Below w5.heap.size w5 ((w5.alloc (.cells #[.int .i64 xa, .int .i64 x.ap, .int .i64 xb, .int .i64 x.bp, .int .i64 x.delay, .int .i64 x.cap] 42)).drewN nq) := dN ((Below.refl _ _).alloc (Nat.le_refl _) _) _
            generalize (w5.alloc (.cells #[.int .i64 xa, .int .i64 x.ap, .int .i64 xb, .int .i64 x.bp, .int .i64 x.delay, .int .i64 x.cap] 42)).drewN nq = w6 at *
            have HS6 := Kept.mk (HS5.out.new_ hb6)
            have HR6 := Kept.mk (HR5.out.new_ hb6)
            clear hb6 k0 k1 z1 c0 c1 c2 c3 c4 c5 v0 v1 hbc hbc2 hbv hbv2
            have k0 := HS6.out.box.cell 0 (v := .slice An N.length kn) rfl
            have k1 := HS6.out.box.cell 1 (v := .slice (some ⟨bc, oc, none⟩) C.length kc) rfl
            have z1 := HS6.out.box.lt
            go_wp2_with (go_at_call 18; refine (cloneB_c Au ku up _ _ HS6.out.u (Nat.le_refl _) (by omega)).mono ?_; rintro e w7 ⟨vl, rfl, ho, hb7⟩; obtain ⟨g, gc, cur, rfl, hg1, hg2, hgb, hg4, hg5⟩ := own_spot ho (by omega); have HL7 : Kept (RowsAt w7 w7.heap.size 1 bcell1 (some ⟨g, 0, none⟩) up) := ⟨RowsAt.of_own ho bcell1_len (by omega) rfl⟩; have HB7 := Kept.mk hb7; have f0 := Blk.free hgb c; have HS7 := Kept.mk (HS6.out.new_ hb7); clear ho hb7 hgb; clear k0 k1 z1; have k0 := HS7.out.box.cell 0 (v := .slice An N.length kn) rfl; have k1 := HS7.out.box.cell 1 (v := .slice (some ⟨bc, oc, none⟩) C.length kc) rfl; have z1 := HS7.out.box.lt; have z6 := HS6.out.box.lt; obtain ⟨y, gb, go, -, e, -, -, hyc⟩ := HL7.out.at_ (k := c) (by omega); injection e with e; injection e with e1 e2; subst e1; subst e2; have y0 := hyc 0 (.bool y) rfl; simp only [Nat.add_zero, Nat.zero_add, Nat.mul_one] at y0; clear hyc)
            have hb8 : Below w6.heap.size w6 (w7.setCell ⟨g, c, none⟩ (.bool false)) := HB7.out.setCell hg1 _
            have HL8 : Kept (RowsAt (w7.setCell ⟨g, c, none⟩ (.bool false)) (w7.setCell ⟨g, c, none⟩ (.bool false)).heap.size 1 bcell1 (some ⟨g, 0, none⟩) (up.set c false)) := ⟨(HL7.out.set1 (by omega) rfl).more (by simp)⟩
            clear k0 k1 z1 f0 y0
            generalize w7.setCell ⟨g, c, none⟩ (.bool false) = w8 at *
            have HS8 := Kept.mk (HS6.out.new_ hb8)
            have HR8 := Kept.mk (HR6.out.new_ hb8)
            clear hb8 HL7 hg1 hg2
            have k0 := HS8.out.box.cell 0 (v := .slice An N.length kn) rfl
            have k1 := HS8.out.box.cell 1 (v := .slice (some ⟨bc, oc, none⟩) C.length kc) rfl
            have z1 := HS8.out.box.lt
            have HFL : Kept (faultE N C (up.set c false) V = 0) := ⟨faultE_zero.2 ⟨HV.out, by rw [List.length_set]; exact HL.out, HV1.out, HV2.out⟩⟩
            have HAL : Kept (ArgsAt w8 N C An (some ⟨bc, oc, none⟩) (some ⟨g, 0, none⟩) (some ⟨bv, ov, none⟩) kn kc gc ke (up.set c false) V) := ⟨HS8.out.p, HL8.out, HR8.out, by rw [List.length_set]; omega, by rw [HV1.out]; omega⟩
            refine (Run_late_n N C An (some ⟨bc, oc, none⟩) (some ⟨g, 0, none⟩) (some ⟨bv, ov, none⟩) kn kc gc ke N.length up.length n2 (up.set c false) V _ HAL.out HFL.out HV1.out HN2.out.symm (by rw [List.length_set])).mono ?_
            rintro e w9 ⟨A9, k9, r9, W, rfl, t1, t2, t3, t4, t5, t6, t7, t8⟩
            have HW1 := Kept.mk t2
            have HW2 := Kept.mk t3
            have HW3 := Kept.mk t4
            have HQ9 := Kept.mk t5
            have HS9 := Kept.mk (HS8.out.new_ t8)
            have HR9 := Kept.mk (HR8.out.new_ t8)
            clear t1 t2 t3 t4 t5 t6 t7 t8 k0 k1 z1
            have k0 := HS9.out.box.cell 0 (v := .slice An N.length kn) rfl
            have k1 := HS9.out.box.cell 1 (v := .slice (some ⟨bc, oc, none⟩) C.length kc) rfl
            have z1 := HS9.out.box.lt
            have HFW : Kept (faultE N C up W = 0) := ⟨faultE_zero.2 ⟨HV.out, HL.out, HW1.out, HW2.out⟩⟩
            have HAW := Kept.mk (HS9.out.args HQ9.out k9 (by omega) (by rw [HW1.out]; omega))
            go_wp2_with (go_at_call 16; refine (Run_late_n N C An (some ⟨bc, oc, none⟩) Au A9 kn kc ku k9 N.length up.length n2 up W _ HAW.out HFW.out HW1.out HN2.out.symm rfl).mono ?_; rintro e w10 ⟨A10, k10, r10, X, rfl, t1, t2, t3, t4, t5, t6, t7, t8⟩; obtain rfl := stable_same HN1.out HV1.out t2 HV2.out t3 HV3.out t4; have HP10 := Kept.mk t5; have HS10 := Kept.mk (HS9.out.new_ t8); have HR10 := Kept.mk (HR9.out.new_ t8); have HQ10 := Kept.mk (HQ9.out.new_ t8); clear t1 t2 t3 t4 t5 t6 t7 t8 k0 k1 z1; have k0 := HS10.out.box.cell 0 (v := .slice An N.length kn) rfl; have k1 := HS10.out.box.cell 1 (v := .slice (some ⟨bc, oc, none⟩) C.length kc) rfl; have z1 := HS10.out.box.lt)
            refine (equal_n X X A10 (some ⟨bv, ov, none⟩) k10 ke N.length _ _ _ HP10.out HR10.out HV1.out HV1.out (by omega)).mono ?_
            rintro e w11 ⟨rfl, hb11⟩
            rw [decT]
            have HS11 := Kept.mk (HS10.out.new_ hb11)
            clear hb11 k0 k1 z1
            go_wp2_with fail
            go_ret
            exact ⟨rfl, HS11.out.bel⟩
          · have q3 : (va1.port == x.ap) = false := beq_false_of_ne hq3
            by_cases hq4 : vb1.port = x.bp
            · have q4 : (vb1.port == x.bp) = true := beq_iff_eq.2 hq4
              clear hq3 hq4
              go_wp2_with fail
              go_quiet (fail)
              have hb6 : Below w5.heap.size w5 ((w5.alloc (.cells #[.int .i64 xa, .int .i64 x.ap, .int .i64 xb, .int .i64 x.bp, .int .i64 x.delay, .int .i64 x.cap] 42)).drewN nq) := dN ((Below.refl _ _).alloc (Nat.le_refl _) _) _
              generalize (w5.alloc (.cells #[.int .i64 xa, .int .i64 x.ap, .int .i64 xb, .int .i64 x.bp, .int .i64 x.delay, .int .i64 x.cap] 42)).drewN nq = w6 at *
              have HS6 := Kept.mk (HS5.out.new_ hb6)
              have HR6 := Kept.mk (HR5.out.new_ hb6)
              clear hb6 k0 k1 z1 c0 c1 c2 c3 c4 c5 v0 v1 hbc hbc2 hbv hbv2
              have k0 := HS6.out.box.cell 0 (v := .slice An N.length kn) rfl
              have k1 := HS6.out.box.cell 1 (v := .slice (some ⟨bc, oc, none⟩) C.length kc) rfl
              have z1 := HS6.out.box.lt
              go_wp2_with (go_at_call 18; refine (cloneB_c Au ku up _ _ HS6.out.u (Nat.le_refl _) (by omega)).mono ?_; rintro e w7 ⟨vl, rfl, ho, hb7⟩; obtain ⟨g, gc, cur, rfl, hg1, hg2, hgb, hg4, hg5⟩ := own_spot ho (by omega); have HL7 : Kept (RowsAt w7 w7.heap.size 1 bcell1 (some ⟨g, 0, none⟩) up) := ⟨RowsAt.of_own ho bcell1_len (by omega) rfl⟩; have HB7 := Kept.mk hb7; have f0 := Blk.free hgb c; have HS7 := Kept.mk (HS6.out.new_ hb7); clear ho hb7 hgb; clear k0 k1 z1; have k0 := HS7.out.box.cell 0 (v := .slice An N.length kn) rfl; have k1 := HS7.out.box.cell 1 (v := .slice (some ⟨bc, oc, none⟩) C.length kc) rfl; have z1 := HS7.out.box.lt; have z6 := HS6.out.box.lt; obtain ⟨y, gb, go, -, e, -, -, hyc⟩ := HL7.out.at_ (k := c) (by omega); injection e with e; injection e with e1 e2; subst e1; subst e2; have y0 := hyc 0 (.bool y) rfl; simp only [Nat.add_zero, Nat.zero_add, Nat.mul_one] at y0; clear hyc)
              have hb8 : Below w6.heap.size w6 (w7.setCell ⟨g, c, none⟩ (.bool false)) := HB7.out.setCell hg1 _
              have HL8 : Kept (RowsAt (w7.setCell ⟨g, c, none⟩ (.bool false)) (w7.setCell ⟨g, c, none⟩ (.bool false)).heap.size 1 bcell1 (some ⟨g, 0, none⟩) (up.set c false)) := ⟨(HL7.out.set1 (by omega) rfl).more (by simp)⟩
              clear k0 k1 z1 f0 y0
              generalize w7.setCell ⟨g, c, none⟩ (.bool false) = w8 at *
              have HS8 := Kept.mk (HS6.out.new_ hb8)
              have HR8 := Kept.mk (HR6.out.new_ hb8)
              clear hb8 HL7 hg1 hg2
              have k0 := HS8.out.box.cell 0 (v := .slice An N.length kn) rfl
              have k1 := HS8.out.box.cell 1 (v := .slice (some ⟨bc, oc, none⟩) C.length kc) rfl
              have z1 := HS8.out.box.lt
              have HFL : Kept (faultE N C (up.set c false) V = 0) := ⟨faultE_zero.2 ⟨HV.out, by rw [List.length_set]; exact HL.out, HV1.out, HV2.out⟩⟩
              have HAL : Kept (ArgsAt w8 N C An (some ⟨bc, oc, none⟩) (some ⟨g, 0, none⟩) (some ⟨bv, ov, none⟩) kn kc gc ke (up.set c false) V) := ⟨HS8.out.p, HL8.out, HR8.out, by rw [List.length_set]; omega, by rw [HV1.out]; omega⟩
              refine (Run_late_n N C An (some ⟨bc, oc, none⟩) (some ⟨g, 0, none⟩) (some ⟨bv, ov, none⟩) kn kc gc ke N.length up.length n2 (up.set c false) V _ HAL.out HFL.out HV1.out HN2.out.symm (by rw [List.length_set])).mono ?_
              rintro e w9 ⟨A9, k9, r9, W, rfl, t1, t2, t3, t4, t5, t6, t7, t8⟩
              have HW1 := Kept.mk t2
              have HW2 := Kept.mk t3
              have HW3 := Kept.mk t4
              have HQ9 := Kept.mk t5
              have HS9 := Kept.mk (HS8.out.new_ t8)
              have HR9 := Kept.mk (HR8.out.new_ t8)
              clear t1 t2 t3 t4 t5 t6 t7 t8 k0 k1 z1
              have k0 := HS9.out.box.cell 0 (v := .slice An N.length kn) rfl
              have k1 := HS9.out.box.cell 1 (v := .slice (some ⟨bc, oc, none⟩) C.length kc) rfl
              have z1 := HS9.out.box.lt
              have HFW : Kept (faultE N C up W = 0) := ⟨faultE_zero.2 ⟨HV.out, HL.out, HW1.out, HW2.out⟩⟩
              have HAW := Kept.mk (HS9.out.args HQ9.out k9 (by omega) (by rw [HW1.out]; omega))
              go_wp2_with (go_at_call 16; refine (Run_late_n N C An (some ⟨bc, oc, none⟩) Au A9 kn kc ku k9 N.length up.length n2 up W _ HAW.out HFW.out HW1.out HN2.out.symm rfl).mono ?_; rintro e w10 ⟨A10, k10, r10, X, rfl, t1, t2, t3, t4, t5, t6, t7, t8⟩; obtain rfl := stable_same HN1.out HV1.out t2 HV2.out t3 HV3.out t4; have HP10 := Kept.mk t5; have HS10 := Kept.mk (HS9.out.new_ t8); have HR10 := Kept.mk (HR9.out.new_ t8); have HQ10 := Kept.mk (HQ9.out.new_ t8); clear t1 t2 t3 t4 t5 t6 t7 t8 k0 k1 z1; have k0 := HS10.out.box.cell 0 (v := .slice An N.length kn) rfl; have k1 := HS10.out.box.cell 1 (v := .slice (some ⟨bc, oc, none⟩) C.length kc) rfl; have z1 := HS10.out.box.lt)
              refine (equal_n X X A10 (some ⟨bv, ov, none⟩) k10 ke N.length _ _ _ HP10.out HR10.out HV1.out HV1.out (by omega)).mono ?_
              rintro e w11 ⟨rfl, hb11⟩
              rw [decT]
              have HS11 := Kept.mk (HS10.out.new_ hb11)
              clear hb11 k0 k1 z1
              go_wp2_with fail
              go_ret
              exact ⟨rfl, HS11.out.bel⟩
            · have q4 : (vb1.port == x.bp) = false := beq_false_of_ne hq4
              have HQ3 := Kept.mk hq3
              have HQ4 := Kept.mk hq4
              clear hq3 hq4
              go_wp2_with fail
              go_quiet (fail)
              have hb6 : Below w5.heap.size w5 ((w5.alloc (.cells #[.int .i64 xa, .int .i64 x.ap, .int .i64 xb, .int .i64 x.bp, .int .i64 x.delay, .int .i64 x.cap] 42)).drewN nq) := dN ((Below.refl _ _).alloc (Nat.le_refl _) _) _
              generalize (w5.alloc (.cells #[.int .i64 xa, .int .i64 x.ap, .int .i64 xb, .int .i64 x.bp, .int .i64 x.delay, .int .i64 x.cap] 42)).drewN nq = w6 at *
              have HS6 := Kept.mk (HS5.out.new_ hb6)
              have HR6 := Kept.mk (HR5.out.new_ hb6)
              clear hb6 k0 k1 z1 c0 c1 c2 c3 c4 c5 v0 v1 hbc hbc2 hbv hbv2
              have k0 := HS6.out.box.cell 0 (v := .slice An N.length kn) rfl
              have k1 := HS6.out.box.cell 1 (v := .slice (some ⟨bc, oc, none⟩) C.length kc) rfl
              have z1 := HS6.out.box.lt
              go_wp2_with (go_at_call 18; refine (cloneB_c Au ku up _ _ HS6.out.u (Nat.le_refl _) (by omega)).mono ?_; rintro e w7 ⟨vl, rfl, ho, hb7⟩; obtain ⟨g, gc, cur, rfl, hg1, hg2, hgb, hg4, hg5⟩ := own_spot ho (by omega); have HL7 : Kept (RowsAt w7 w7.heap.size 1 bcell1 (some ⟨g, 0, none⟩) up) := ⟨RowsAt.of_own ho bcell1_len (by omega) rfl⟩; have HB7 := Kept.mk hb7; have f0 := Blk.free hgb c; have HS7 := Kept.mk (HS6.out.new_ hb7); clear ho hb7 hgb; clear k0 k1 z1; have k0 := HS7.out.box.cell 0 (v := .slice An N.length kn) rfl; have k1 := HS7.out.box.cell 1 (v := .slice (some ⟨bc, oc, none⟩) C.length kc) rfl; have z1 := HS7.out.box.lt; have z6 := HS6.out.box.lt; obtain ⟨y, gb, go, -, e, -, -, hyc⟩ := HL7.out.at_ (k := c) (by omega); injection e with e; injection e with e1 e2; subst e1; subst e2; have y0 := hyc 0 (.bool y) rfl; simp only [Nat.add_zero, Nat.zero_add, Nat.mul_one] at y0; clear hyc)
              have hb8 : Below w6.heap.size w6 (w7.setCell ⟨g, c, none⟩ (.bool false)) := HB7.out.setCell hg1 _
              have HL8 : Kept (RowsAt (w7.setCell ⟨g, c, none⟩ (.bool false)) (w7.setCell ⟨g, c, none⟩ (.bool false)).heap.size 1 bcell1 (some ⟨g, 0, none⟩) (up.set c false)) := ⟨(HL7.out.set1 (by omega) rfl).more (by simp)⟩
              clear k0 k1 z1 f0 y0
              generalize w7.setCell ⟨g, c, none⟩ (.bool false) = w8 at *
              have HS8 := Kept.mk (HS6.out.new_ hb8)
              have HR8 := Kept.mk (HR6.out.new_ hb8)
              clear hb8 HL7 hg1 hg2
              have k0 := HS8.out.box.cell 0 (v := .slice An N.length kn) rfl
              have k1 := HS8.out.box.cell 1 (v := .slice (some ⟨bc, oc, none⟩) C.length kc) rfl
              have z1 := HS8.out.box.lt
              have HFL : Kept (faultE N C (up.set c false) V = 0) := ⟨faultE_zero.2 ⟨HV.out, by rw [List.length_set]; exact HL.out, HV1.out, HV2.out⟩⟩
              have HAL : Kept (ArgsAt w8 N C An (some ⟨bc, oc, none⟩) (some ⟨g, 0, none⟩) (some ⟨bv, ov, none⟩) kn kc gc ke (up.set c false) V) := ⟨HS8.out.p, HL8.out, HR8.out, by rw [List.length_set]; omega, by rw [HV1.out]; omega⟩
              refine (Run_late_n N C An (some ⟨bc, oc, none⟩) (some ⟨g, 0, none⟩) (some ⟨bv, ov, none⟩) kn kc gc ke N.length up.length n2 (up.set c false) V _ HAL.out HFL.out HV1.out HN2.out.symm (by rw [List.length_set])).mono ?_
              rintro e w9 ⟨A9, k9, r9, W, rfl, t1, t2, t3, t4, t5, t6, t7, t8⟩
              have HW1 := Kept.mk t2
              have HW2 := Kept.mk t3
              have HW3 := Kept.mk t4
              have HQ9 := Kept.mk t5
              have HS9 := Kept.mk (HS8.out.new_ t8)
              have HR9 := Kept.mk (HR8.out.new_ t8)
              clear t1 t2 t3 t4 t5 t6 t7 t8 k0 k1 z1
              have k0 := HS9.out.box.cell 0 (v := .slice An N.length kn) rfl
              have k1 := HS9.out.box.cell 1 (v := .slice (some ⟨bc, oc, none⟩) C.length kc) rfl
              have z1 := HS9.out.box.lt
              have HFW : Kept (faultE N C up W = 0) := ⟨faultE_zero.2 ⟨HV.out, HL.out, HW1.out, HW2.out⟩⟩
              have HAW := Kept.mk (HS9.out.args HQ9.out k9 (by omega) (by rw [HW1.out]; omega))
              go_wp2_with (go_at_call 16; refine (Run_late_n N C An (some ⟨bc, oc, none⟩) Au A9 kn kc ku k9 N.length up.length n2 up W _ HAW.out HFW.out HW1.out HN2.out.symm rfl).mono ?_; rintro e w10 ⟨A10, k10, r10, X, rfl, t1, t2, t3, t4, t5, t6, t7, t8⟩; obtain rfl := stable_same HN1.out HV1.out t2 HV2.out t3 HV3.out t4; have HP10 := Kept.mk t5; have HS10 := Kept.mk (HS9.out.new_ t8); have HR10 := Kept.mk (HR9.out.new_ t8); have HQ10 := Kept.mk (HQ9.out.new_ t8); clear t1 t2 t3 t4 t5 t6 t7 t8 k0 k1 z1; have k0 := HS10.out.box.cell 0 (v := .slice An N.length kn) rfl; have k1 := HS10.out.box.cell 1 (v := .slice (some ⟨bc, oc, none⟩) C.length kc) rfl; have z1 := HS10.out.box.lt)
              refine (equal_n X X A10 (some ⟨bv, ov, none⟩) k10 ke N.length _ _ _ HP10.out HR10.out HV1.out HV1.out (by omega)).mono ?_
              rintro e w11 ⟨rfl, hb11⟩
              rw [decT]
              have HS11 := Kept.mk (HS10.out.new_ hb11)
              have HR11 := Kept.mk (HR10.out.new_ hb11)
              have HQ11 := Kept.mk (HQ10.out.new_ hb11)
              clear hb11 k0 k1 z1
              have HSAME : Kept (∀ i : Nat, i < N.length → (voteAt W i).root = (voteAt X i).root ∧ (voteAt W i).dist = (voteAt X i).dist) := ⟨fun i hi => cut_keeps HN1.out (net_less HN1.out HCB.out) HV1.out HW1.out HV2.out HW2.out HV3.out HW3.out HX.out (by rw [HXA.out, vote_get HVA.out]; exact HQ3.out) (by rw [HXB.out, vote_get HVB.out]; exact HQ4.out) (by omega) (by omega)⟩
              go_wp2_with fail
              go_loopw [129] (fun v wr => ∃ k : Nat, k ≤ N.length ∧ v = .int .i64 k ∧ Kept (Below w11.heap.size w11 wr)) (fun v _ => N.length - (intOf v).toNat)
              case atStart => exact ⟨0, Nat.zero_le _, rfl, ⟨Below.refl _ _⟩⟩
              case round =>
                obtain ⟨k, hk, rfl, HD⟩ := hrel
                by_cases hlt : k < N.length
                · obtain ⟨xw, b1, o1, hxw, rfl, -, hb1, hc1⟩ := (HQ11.out.new_ HD.out).at_ (show k < W.length by have := HW1.out; omega)
                  obtain ⟨xv, b2, o2, hxv, e, -, hb2, hc2⟩ := (HR11.out.new_ HD.out).at_ (show k < X.length by have := HV1.out; omega)
                  injection e with e
                  injection e with e1 e2
                  subst e1
                  subst e2
                  obtain ⟨g1, g2⟩ := HSAME.out k hlt
                  rw [vote_get hxw, vote_get hxv] at g1 g2
                  have p0 := hc1 0 (.int .i64 xw.root) rfl
                  have p1 := hc1 1 (.int .i64 xw.dist) rfl
                  have s0 := hc2 0 (.int .i64 xw.root) (by rw [g1]; rfl)
                  have s1 := hc2 1 (.int .i64 xw.dist) (by rw [g2]; rfl)
                  simp only [Nat.add_zero] at p0 s0
                  clear hc1 hc2 hxw hxv g1 g2
                  have b1' : (xw.root != xw.root) = false := bne_self_eq_false _
                  have b2' : (xw.dist != xw.dist) = false := bne_self_eq_false _
                  go_wp2_with fail
                  go_quiet (fail)
                  go_wp2_with fail
                  go_roundw
                  case rel => exact ⟨k + 1, by omega, by go_num, ⟨dN HD.out _⟩⟩
                  case measure => simp [intOf]; omega
                · obtain rfl : k = N.length := by omega
                  clear hlt
                  go_wp2_with fail
                  go_ret
                  exact ⟨rfl, join HS11.out.bel HD.out⟩
      · have q1 : ((up.length : Int) != (C.length : Int)) = true := by simp; omega
        clear hv hl
        go_wp2_with (go_at_call 15; refine (valid_ N C An Ac kn kc _ HS2.out.p).mono ?_; rintro e w3 ⟨rfl, hb3⟩; rw [HV.out]; have HS3 := Kept.mk (HS2.out.new_ hb3); clear hb3 k0 k1 z1; have k0 := HS3.out.box.cell 0 (v := .slice An N.length kn) rfl; have k1 := HS3.out.box.cell 1 (v := .slice Ac C.length kc) rfl; have z1 := HS3.out.box.lt)
        go_ret
        exact ⟨rfl, HS3.out.bel⟩
    · obtain ⟨f, hfe⟩ : ∃ f, validE N C = f := ⟨_, rfl⟩
      have q1 : (f != 0) = true := by rw [← hfe]; simpa using hv
      have HV := Kept.mk hfe
      clear hv hfe
      go_wp2_with (go_at_call 15; refine (valid_ N C An Ac kn kc _ HS2.out.p).mono ?_; rintro e w3 ⟨rfl, hb3⟩; rw [HV.out]; have HS3 := Kept.mk (HS2.out.new_ hb3); clear hb3 k0 k1 z1; have k0 := HS3.out.box.cell 0 (v := .slice An N.length kn) rfl; have k1 := HS3.out.box.cell 1 (v := .slice Ac C.length kc) rfl; have z1 := HS3.out.box.lt)
      go_ret
      exact ⟨rfl, HS3.out.bel⟩
theorem walkElectionCuts (p : Pl) (Au : Option Addr) (ku : Nat) (up : List Bool) (cab : Int) (w : World) (hp : PlanAt w w.heap.size p) (hu : RowsAt w w.heap.size 1 bcell1 Au up) (hku : up.length ≤ ku) (hku2 : ku ≤ maxLen) (hr : 0 ≤ cab ∧ cab ≤ 255) :
    Calls Try.prog 4 #[pv p, .slice Au up.length ku, .int .u8 cab] w fun e w' => e = .returned (.bool true) ∧ Below w.heap.size w w' := by
  cases p
  exact cuts_walk _ _ _ _ _ _ _ _ _ _ _ hp hu hku hku2 hr

set_option maxRecDepth 100000 in
theorem liftedElectionCuts (os : Os) (started : os.Started) (H : Type) (enc : TypeId × Value → H) :
    ReturnsInHanded {} Try.checked os 4 .any (Rows.electionCutsSpec.pre6 enc Try.prog Try.f4 Rows.electionCutsRow.domain false) (Rows.electionCutsSpec.post enc Try.prog Try.f4 false true false false) := by
  refine returnsInHanded_of_change (C := Try.checked) own started (by kernel_rfl) Try.func4
    (ChangeSpec.witness6 (enc := enc) (C := Try.checked) false ⟨#[], #[.agg #[.slice none 0 0, .slice none 0 0], .slice none 0 0, .int .u8 0], []⟩ 8 (by kernel_rfl) (by kernel_rfl) (by kernel_rfl) (by kernel_rfl)) ?_
  intro W base args ds gs before hval0 hW hcnd _
  have hval : ∀ (j : Nat) t v, Try.f4.params[j]? = some t → args[j]? = some v → Value.okWide Try.prog W .any base t v := hval0
  have hW' := hW
  obtain ⟨p, q, hA0, hV, rfl, hfz, hnd⟩ := hW
  have hA : DataW.TrodAll enc Try.prog W 0 (fun _ => true) true Try.f4.params.toList args.toList ds p := hA0
  rw [Try.params4] at hA hval
  obtain ⟨v0, vs0, d0, ds0, p0, q0, hargs, rfl, rfl, h0, r0⟩ := trodAll_cons hA
  obtain ⟨v1, vs1, d1, ds1, p1, q1, rfl, rfl, rfl, h1, r1⟩ := trodAll_cons r0
  obtain ⟨v2, vs2, d2, ds2, p2, q2, rfl, rfl, rfl, h2, r2⟩ := trodAll_cons r1
  obtain ⟨rfl, rfl, rfl⟩ := trodAll_nil r2
  obtain rfl : args = #[v0, v1, v2] := by cases args; simp_all
  obtain ⟨rfl, rfl⟩ := trodVars_none hV
  have k0 := h0
  have lt0 : ∀ x ∈ p0, x.block < W.heap.size := by obtain ⟨m, hm⟩ := k0; exact DataW.trod_lt m _ _ _ hm
  have k1 := h1
  have lt1 : ∀ x ∈ p1, x.block < W.heap.size := by obtain ⟨m, hm⟩ := k1; exact DataW.trod_lt m _ _ _ hm
  have k2 := h2
  have lt2 : ∀ x ∈ p2, x.block < W.heap.size := by obtain ⟨m, hm⟩ := k2; exact DataW.trod_lt m _ _ _ hm
  obtain ⟨q0, rfl, pa0⟩ := open_plan (hval 0 32 v0 rfl rfl) h0
  obtain ⟨A1, kap1, l1, rfl, r1x, le1, mx1⟩ := open_up (hval 1 33 v1 rfl rfl) h1
  obtain ⟨a2, rfl, -, -, ww2⟩ := open_int Try.underlying5 (hval 2 5 v2 rfl rfl) h2
  have w2 := bounds_u8 ww2
  clear hA0 hval0
  refine (walkElectionCuts q0 A1 kap1 l1 a2 W pa0 r1x le1 mx1 w2).mono fun e W' ⟨he, bel⟩ => ?_
  subst he
  exact ⟨_, rfl, _, _, _, [], _, [], hW', trodAll_mk1 (shut_bool Try.underlying4 _), (trodAll_cons_mk (Below.trod laidOut (by kernel_rfl) (of_decide_eq_true (by kernel_rfl)) k0 bel lt0) (trodAll_cons_mk (Below.trod laidOut (by kernel_rfl) (of_decide_eq_true (by kernel_rfl)) k1 bel lt1) (trodAll_cons_mk (Below.trod laidOut (by kernel_rfl) (of_decide_eq_true (by kernel_rfl)) k2 bel lt2) trodAll_mk0))), rfl, bel.frame _, fun h => by cases h⟩
/-- The given statement. -/
theorem electionCuts_holds : Rows.ElectionCutsSaid :=
  OpenClaim.holds_of_wide 4 Try.f4 rfl rfl rfl rfl rfl rfl rfl ⟨rfl, rfl, rfl, rfl, rfl⟩ rfl rfl rfl rfl rfl (by kernel_rfl) Try.func4 (by kernel_rfl)
    (of_decide_eq_true (by kernel_rfl)) (by unfold Func.isWrapper; first | (rw [if_pos (by decide +kernel)]; kernel_rfl) | (rw [if_neg (by decide +kernel)]; exact ⟨rfl, rfl⟩))
    (fun os started H enc _ => liftedElectionCuts os started H enc)
#print axioms electionCuts_holds
end Go.Proofs.Ytckigonkcjceeaa
