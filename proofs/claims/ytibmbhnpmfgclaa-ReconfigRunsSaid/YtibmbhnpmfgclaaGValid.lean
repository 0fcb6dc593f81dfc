/- The program's Valid: the error number of a plan. -/
import Derived.Test.YtibmbhnpmfgclaaGRep
namespace Go.Proofs.Ytibmbhnpmfgclaa
set_option linter.unusedVariables false
set_option linter.unusedSimpArgs false
open Go.RowKit Go.Maps
section
variable {N : List Nd} {C : List Cb}
theorem ve_full (h : 16 < N.length ∨ 32 < C.length) : validE N C = 5 := if_pos h
theorem ve_node (h0 : ¬ (16 < N.length ∨ 32 < C.length)) (h : N.all nodeB = false) : validE N C = 1 := by rw [validE, if_neg h0, if_pos h]
theorem ve_port (h0 : ¬ (16 < N.length ∨ 32 < C.length)) (h1 : N.all nodeB = true) (h : C.all (endsB N) = false) : validE N C = 2 := by rw [validE, if_neg h0, h1, if_neg (by decide), if_pos h]
theorem ve_twice (h0 : ¬ (16 < N.length ∨ 32 < C.length)) (h1 : N.all nodeB = true) (h2 : C.all (endsB N) = true) (h : repB N C = true) : validE N C = 8 := by
  unfold repB at h
  rw [validE, if_neg h0, h1, if_neg (by decide), h2, if_neg (by decide), if_pos h]
theorem ve_loop (h0 : ¬ (16 < N.length ∨ 32 < C.length)) (h1 : N.all nodeB = true) (h2 : C.all (endsB N) = true) (h3 : repB N C = false) (h : C.any loopB = true) : validE N C = 12 := by
  unfold repB at h3
  rw [validE, if_neg h0, h1, if_neg (by decide), h2, if_neg (by decide), h3, if_neg (by decide), if_pos h]
theorem ve_form (h0 : ¬ (16 < N.length ∨ 32 < C.length)) (h1 : N.all nodeB = true) (h2 : C.all (endsB N) = true) (h3 : repB N C = false) (h4 : C.any loopB = false) (h : C.any formB = true) : validE N C = 3 := by
  unfold repB at h3
  rw [validE, if_neg h0, h1, if_neg (by decide), h2, if_neg (by decide), h3, if_neg (by decide), h4, if_neg (by decide), if_pos h]
theorem ve_ok (h0 : ¬ (16 < N.length ∨ 32 < C.length)) (h1 : N.all nodeB = true) (h2 : C.all (endsB N) = true) (h3 : repB N C = false) (h4 : C.any loopB = false) (h : C.any formB = false) : validE N C = 0 := by
  unfold repB at h3
  rw [validE, if_neg h0, h1, if_neg (by decide), h2, if_neg (by decide), h3, if_neg (by decide), h4, if_neg (by decide), h, if_neg (by decide)]
end
set_option maxRecDepth 100000 in
set_option maxHeartbeats 8000000 in
theorem valid_ (N : List Nd) (C : List Cb) (An Ac : Option Addr) (kn kc : Nat) (w : World) (hp : PlanAt w w.heap.size ⟨N, C, An, kn, Ac, kc⟩) :
    Calls Try.prog 13 #[.agg #[.slice An N.length kn, .slice Ac C.length kc]] w fun e w' => e = .returned (.int .i64 (validE N C)) ∧ Below w.heap.size w w' := by
  have HP := Kept.mk hp
  obtain ⟨L1, L2⟩ := hp.len
  simp only at L1 L2
  clear hp
  by_cases hf : 16 < N.length ∨ 32 < C.length
  · have HF := Kept.mk (ve_full hf)
    by_cases hf1 : 16 < N.length
    · have hf2 : (16 : Int) < N.length := by omega
      clear hf hf1
      go_enter Try.func13, Try.ntmps13
      go_wp2_with fail
      go_ret
      exact ⟨ret_int HF.out.symm, by go_grown⟩
    · have hf2 : ¬ (16 : Int) < N.length := by omega
      have hf3 : (32 : Int) < C.length := by omega
      have d1 : decide ((16 : Int) < N.length) = false := decide_eq_false hf2
      clear hf hf1
      go_enter Try.func13, Try.ntmps13
      go_wp2_with fail
      go_ret
      exact ⟨ret_int HF.out.symm, by go_grown⟩
  have HF := Kept.mk hf
  have hn : N.length ≤ 16 := by omega
  have hc : C.length ≤ 32 := by omega
  have d1 : decide ((16 : Int) < N.length) = false := decide_eq_false (by omega)
  have d2 : decide ((32 : Int) < C.length) = false := decide_eq_false (by omega)
  clear hf
  go_enter Try.func13, Try.ntmps13
  go_wp2_with fail
  have HB0 := Kept.mk (Blk.new w 27 #[.slice An N.length kn, .slice Ac C.length kc])
  go_loopw [24] (fun v wr => ∃ k : Nat, k ≤ N.length ∧ v = .int .i64 k ∧ Kept ((N.take k).all nodeB = true) ∧ Kept (Blk wr w.heap.size 27 #[.slice An N.length kn, .slice Ac C.length kc]) ∧ Kept (Below w.heap.size w wr)) (fun v _ => N.length - (intOf v).toNat)
  case atStart => exact ⟨0, Nat.zero_le _, rfl, ⟨rfl⟩, HB0, ⟨by go_grown⟩⟩
  case round =>
    clear HB0
    obtain ⟨k, hk, rfl, HN, HB, HD⟩ := hrel
    have hz := HD.out.size
    by_cases hlt : k < N.length
    · obtain ⟨x, b, off, hx, rfl, -, hb, c0, c1, c2, hok⟩ := (HP.out.new_ HD.out).nod hlt
      have HOK := Kept.mk hok
      have HX := Kept.mk hx
      have HB1 := Kept.mk (Blk.new wr 76 #[.string x.name, .bool x.sw, .int .i64 x.ports])
      clear hx hok
      cases hv : nodeB x with
      | false =>
        have HV := Kept.mk hv
        have HR := Kept.mk (ve_node HF.out (all_bad HX.out hv))
        clear hv
        go_wp2_with (go_at_call 37; refine (validNode_c x _ HOK.out).mono ?_; rintro e w1 ⟨rfl, hb1⟩; rw [HV.out]; have HB2 := Kept.mk hb1; clear hb1)
        go_ret
        exact ⟨ret_int HR.out.symm, join (HD.out.alloc hz _) HB2.out⟩
      | true =>
        have HV := Kept.mk hv
        have HN2 := Kept.mk (all_next HN.out HX.out hv)
        clear hv
        go_wp2_with (go_at_call 37; refine (validNode_c x _ HOK.out).mono ?_; rintro e w1 ⟨rfl, hb1⟩; rw [HV.out]; have HB2 := Kept.mk hb1; clear hb1)
        go_roundw
        case rel => exact ⟨k + 1, by omega, by go_num, HN2, ⟨(HB.out.alloc _).new_ HB2.out⟩, ⟨join (HD.out.alloc hz _) HB2.out⟩⟩
        case measure => simp [intOf]; omega
    · obtain rfl : k = N.length := by omega
      have HNN : Kept (N.all nodeB = true) := ⟨by have := HN.out; rwa [List.take_length] at this⟩
      have k0 := HB.out.cell 0 (v := .slice An N.length kn) rfl
      have k1 := HB.out.cell 1 (v := .slice Ac C.length kc) rfl
      obtain ⟨wa, rfl⟩ : ∃ wa : World, wa = wr := ⟨_, rfl⟩
      have hzz : w.heap.size < wa.heap.size := HB.out.lt
      clear hlt HN
      go_wp2_with fail
      go_loopw [35] (fun v wr => ∃ k : Nat, k ≤ C.length ∧ v = .int .i64 k ∧ Kept ((C.take k).all (endsB N) = true) ∧ Kept (Blk wr w.heap.size 27 #[.slice An N.length kn, .slice Ac C.length kc]) ∧ Kept (Below w.heap.size w wr)) (fun v _ => C.length - (intOf v).toNat)
      case atStart => exact ⟨0, Nat.zero_le _, rfl, ⟨rfl⟩, HB, HD⟩
      case round =>
        clear k0 k1 hz hzz HB HD
        obtain ⟨k, hk, rfl, HN, HB, HD⟩ := hrel
        have hz := HD.out.size
        have hzz : w.heap.size < wr.heap.size := HB.out.lt
        have k0 := HB.out.cell 0 (v := .slice An N.length kn) rfl
        by_cases hlt : k < C.length
        · obtain ⟨x, b, off, hx, rfl, -, hb, ⟨c0, c1, c2, c3, c4, c5⟩, -⟩ := (HP.out.new_ HD.out).cab hlt
          have k1 := HB.out.cell 1 (v := .slice (some ⟨b, off, none⟩) C.length kc) rfl
          have HX := Kept.mk hx
          have HPA0 : Kept (PlanAt (wr.alloc (.cells #[.int .i64 x.a, .int .i64 x.ap, .int .i64 x.b, .int .i64 x.bp, .int .i64 x.delay, .int .i64 x.cap] 78)) (wr.alloc (.cells #[.int .i64 x.a, .int .i64 x.ap, .int .i64 x.b, .int .i64 x.bp, .int .i64 x.delay, .int .i64 x.cap] 78)).heap.size ⟨N, C, An, kn, some ⟨b, off, none⟩, kc⟩) := ⟨(HP.out.new_ HD.out).new_ ((Below.refl _ _).alloc (Nat.le_refl _) _)⟩
          have HBB0 := Kept.mk (HB.out.alloc (.cells #[.int .i64 x.a, .int .i64 x.ap, .int .i64 x.b, .int .i64 x.bp, .int .i64 x.delay, .int .i64 x.cap] 78))
          have HBC0 := Kept.mk (Blk.new wr 78 #[.int .i64 x.a, .int .i64 x.ap, .int .i64 x.b, .int .i64 x.bp, .int .i64 x.delay, .int .i64 x.cap])
          have HD0 := Kept.mk (HD.out.alloc hz (.cells #[.int .i64 x.a, .int .i64 x.ap, .int .i64 x.b, .int .i64 x.bp, .int .i64 x.delay, .int .i64 x.cap] 78))
          have tok1 : True := trivial
          have tok2 : True := trivial
          clear hx
          cases hv : hasB N x.a x.ap with
          | false =>
            have HV := Kept.mk hv
            have HR := Kept.mk (ve_port HF.out HNN.out (all_bad HX.out (show endsB N x = false by simp [endsB, hv])))
            clear hv
            go_wp2_with (go_at_call 38; have _t := tok1; refine (hasPort_c ⟨N, C, An, kn, some ⟨b, off, none⟩, kc⟩ _ _ _ (HPA0.out)).mono ?_; rintro e w1 ⟨rfl, hb1⟩; rw [HV.out]; have HPA1 := Kept.mk (HPA0.out.new_ hb1); have HBB1 := Kept.mk (HBB0.out.new_ hb1); have HBC1 := Kept.mk (HBC0.out.new_ hb1); have HD1 := Kept.mk (join HD0.out hb1); clear tok1 _t hb1 k0 k1; have k0 := HBB1.out.cell 0 (v := .slice An N.length kn) rfl; have k1 := HBB1.out.cell 1 (v := .slice (some ⟨b, off, none⟩) C.length kc) rfl; have e2 := HBC1.out.cell 2 (v := .int .i64 x.b) rfl; have e3 := HBC1.out.cell 3 (v := .int .i64 x.bp) rfl; have z2 := HBB1.out.lt; have z3 := HBC1.out.lt)
            go_ret
            exact ⟨ret_int HR.out.symm, HD1.out⟩
          | true =>
            have HV := Kept.mk hv
            cases hv2 : hasB N x.b x.bp with
            | false =>
              have HV2 := Kept.mk hv2
              have HR := Kept.mk (ve_port HF.out HNN.out (all_bad HX.out (show endsB N x = false by simp [endsB, hv, hv2])))
              clear hv hv2
              go_wp2_with (go_at_call 38; have _t := tok1; refine (hasPort_c ⟨N, C, An, kn, some ⟨b, off, none⟩, kc⟩ _ _ _ (HPA0.out)).mono ?_; rintro e w1 ⟨rfl, hb1⟩; rw [HV.out]; have HPA1 := Kept.mk (HPA0.out.new_ hb1); have HBB1 := Kept.mk (HBB0.out.new_ hb1); have HBC1 := Kept.mk (HBC0.out.new_ hb1); have HD1 := Kept.mk (join HD0.out hb1); clear tok1 _t hb1 k0 k1; have k0 := HBB1.out.cell 0 (v := .slice An N.length kn) rfl; have k1 := HBB1.out.cell 1 (v := .slice (some ⟨b, off, none⟩) C.length kc) rfl; have e2 := HBC1.out.cell 2 (v := .int .i64 x.b) rfl; have e3 := HBC1.out.cell 3 (v := .int .i64 x.bp) rfl; have z2 := HBB1.out.lt; have z3 := HBC1.out.lt)
              go_wp2_with (go_at_call 38; have _t := tok2; refine (hasPort_c ⟨N, C, An, kn, some ⟨b, off, none⟩, kc⟩ _ _ _ (HPA1.out)).mono ?_; rintro e w2 ⟨rfl, hb2⟩; rw [HV2.out]; have HPA2 := Kept.mk (HPA1.out.new_ hb2); have HBB2 := Kept.mk (HBB1.out.new_ hb2); have HBC2 := Kept.mk (HBC1.out.new_ hb2); have HD2 := Kept.mk (join HD1.out hb2); clear tok2 _t hb2 k0 k1 e2 e3 z2 z3; have k0 := HBB2.out.cell 0 (v := .slice An N.length kn) rfl; have k1 := HBB2.out.cell 1 (v := .slice (some ⟨b, off, none⟩) C.length kc) rfl; have e2 := HBC2.out.cell 2 (v := .int .i64 x.b) rfl; have e3 := HBC2.out.cell 3 (v := .int .i64 x.bp) rfl; have z2 := HBB2.out.lt; have z3 := HBC2.out.lt)
              go_ret
              exact ⟨ret_int HR.out.symm, HD2.out⟩
            | true =>
              have HV2 := Kept.mk hv2
              have HN2 := Kept.mk (all_next HN.out HX.out (show endsB N x = true by simp [endsB, hv, hv2]))
              clear hv hv2
              go_wp2_with (go_at_call 38; have _t := tok1; refine (hasPort_c ⟨N, C, An, kn, some ⟨b, off, none⟩, kc⟩ _ _ _ (HPA0.out)).mono ?_; rintro e w1 ⟨rfl, hb1⟩; rw [HV.out]; have HPA1 := Kept.mk (HPA0.out.new_ hb1); have HBB1 := Kept.mk (HBB0.out.new_ hb1); have HBC1 := Kept.mk (HBC0.out.new_ hb1); have HD1 := Kept.mk (join HD0.out hb1); clear tok1 _t hb1 k0 k1; have k0 := HBB1.out.cell 0 (v := .slice An N.length kn) rfl; have k1 := HBB1.out.cell 1 (v := .slice (some ⟨b, off, none⟩) C.length kc) rfl; have e2 := HBC1.out.cell 2 (v := .int .i64 x.b) rfl; have e3 := HBC1.out.cell 3 (v := .int .i64 x.bp) rfl; have z2 := HBB1.out.lt; have z3 := HBC1.out.lt)
              go_wp2_with (go_at_call 38; have _t := tok2; refine (hasPort_c ⟨N, C, An, kn, some ⟨b, off, none⟩, kc⟩ _ _ _ (HPA1.out)).mono ?_; rintro e w2 ⟨rfl, hb2⟩; rw [HV2.out]; have HPA2 := Kept.mk (HPA1.out.new_ hb2); have HBB2 := Kept.mk (HBB1.out.new_ hb2); have HBC2 := Kept.mk (HBC1.out.new_ hb2); have HD2 := Kept.mk (join HD1.out hb2); clear tok2 _t hb2 k0 k1 e2 e3 z2 z3; have k0 := HBB2.out.cell 0 (v := .slice An N.length kn) rfl; have k1 := HBB2.out.cell 1 (v := .slice (some ⟨b, off, none⟩) C.length kc) rfl; have e2 := HBC2.out.cell 2 (v := .int .i64 x.b) rfl; have e3 := HBC2.out.cell 3 (v := .int .i64 x.bp) rfl; have z2 := HBB2.out.lt; have z3 := HBC2.out.lt)
              go_roundw
              case rel => exact ⟨k + 1, by omega, by go_num, HN2, HBB2, HD2⟩
              case measure => simp [intOf]; omega
        · obtain rfl : k = C.length := by omega
          have HCC : Kept (C.all (endsB N) = true) := ⟨by have := HN.out; rwa [List.take_length] at this⟩
          have k1 := HB.out.cell 1 (v := .slice Ac C.length kc) rfl
          obtain ⟨wb, rfl⟩ : ∃ wb : World, wb = wr := ⟨_, rfl⟩
          have HPB := Kept.mk (HP.out.new_ HD.out)
          have hR1 : (Pl.mk N C An kn Ac kc).nodes.length ≤ 1000 := (by simp only; omega)
          have hR2 : (Pl.mk N C An kn Ac kc).cables.length ≤ 1000 := (by simp only; omega)
          clear hlt HN
          cases hr : repB N C with
          | true =>
            have HRB := Kept.mk hr
            have HR := Kept.mk (ve_twice HF.out HNN.out HCC.out hr)
            clear hr
            go_wp2_with (go_at_call 39; refine (repeats_c ⟨N, C, An, kn, Ac, kc⟩ _ HPB.out hR1 hR2).mono ?_; rintro e w1 ⟨rfl, hb1⟩; rw [HRB.out]; have HB1 := Kept.mk hb1; clear hb1)
            go_ret
            exact ⟨ret_int HR.out.symm, join HD.out HB1.out⟩
          | false =>
            have HRB := Kept.mk hr
            clear hr
            go_wp2_with (go_at_call 39; refine (repeats_c ⟨N, C, An, kn, Ac, kc⟩ _ HPB.out hR1 hR2).mono ?_; rintro e w1 ⟨rfl, hb1⟩; rw [HRB.out]; have HBX := Kept.mk (HB.out.new_ hb1); have HDX := Kept.mk (join HD.out hb1); clear hb1 k0 k1 hzz; have k0 := HBX.out.cell 0 (v := .slice An N.length kn) rfl; have k1 := HBX.out.cell 1 (v := .slice Ac C.length kc) rfl; have hzz := HBX.out.lt)
            go_loopw [61] (fun v wr => ∃ k : Nat, k ≤ C.length ∧ v = .int .i64 k ∧ Kept ((C.take k).any loopB = false) ∧ Kept (Blk wr w.heap.size 27 #[.slice An N.length kn, .slice Ac C.length kc]) ∧ Kept (Below w.heap.size w wr)) (fun v _ => C.length - (intOf v).toNat)
            case atStart => exact ⟨0, Nat.zero_le _, rfl, ⟨rfl⟩, HBX, HDX⟩
            case round =>
              clear k0 k1 hz hzz HB HD HPB HBX HDX
              obtain ⟨k, hk, rfl, HN, HB, HD⟩ := hrel
              have hz := HD.out.size
              have hzz : w.heap.size < wr.heap.size := HB.out.lt
              by_cases hlt : k < C.length
              · obtain ⟨x, b, off, hx, rfl, -, hb, ⟨c0, c1, c2, c3, c4, c5⟩, -⟩ := (HP.out.new_ HD.out).cab hlt
                have HX := Kept.mk hx
                clear hx
                by_cases hv : x.a = x.b
                · have hq : (x.a == x.b) = true := by simpa using hv
                  have HR := Kept.mk (ve_loop HF.out HNN.out HCC.out HRB.out (any_yes HX.out hq))
                  clear hv
                  go_wp2_with fail
                  go_ret
                  exact ⟨ret_int HR.out.symm, HD.out.alloc hz _⟩
                · have hq : (x.a == x.b) = false := by simpa using hv
                  have HN2 := Kept.mk (any_next HN.out HX.out (f := loopB) hq)
                  clear hv
                  go_wp2_with fail
                  go_roundw
                  case rel => exact ⟨k + 1, by omega, by go_num, HN2, ⟨HB.out.alloc _⟩, ⟨HD.out.alloc hz _⟩⟩
                  case measure => simp [intOf]; omega
              · obtain rfl : k = C.length := by omega
                have HLL : Kept (C.any loopB = false) := ⟨by have := HN.out; rwa [List.take_length] at this⟩
                have k0 := HB.out.cell 0 (v := .slice An N.length kn) rfl
                have k1 := HB.out.cell 1 (v := .slice Ac C.length kc) rfl
                obtain ⟨wc, rfl⟩ : ∃ wc : World, wc = wr := ⟨_, rfl⟩
                clear hlt HN
                go_wp2_with fail
                go_loopw [74] (fun v wr => ∃ k : Nat, k ≤ C.length ∧ v = .int .i64 k ∧ Kept ((C.take k).any formB = false) ∧ Kept (Below w.heap.size w wr)) (fun v _ => C.length - (intOf v).toNat)
                case atStart => exact ⟨0, Nat.zero_le _, rfl, ⟨rfl⟩, HD⟩
                case round =>
                  clear k0 k1 hz hzz HB HD
                  obtain ⟨k, hk, rfl, HN, HD⟩ := hrel
                  have hz := HD.out.size
                  by_cases hlt : k < C.length
                  · obtain ⟨x, b, off, hx, rfl, -, hb, ⟨c0, c1, c2, c3, c4, c5⟩, -⟩ := (HP.out.new_ HD.out).cab hlt
                    have HX := Kept.mk hx
                    clear hx
                    have hcase : x.delay < 1 ∨ (¬ x.delay < 1 ∧ 100 < x.delay) ∨ (¬ x.delay < 1 ∧ ¬ 100 < x.delay ∧ x.cap < 1) ∨ (¬ x.delay < 1 ∧ ¬ 100 < x.delay ∧ ¬ x.cap < 1 ∧ 1000 < x.cap) ∨ (¬ x.delay < 1 ∧ ¬ 100 < x.delay ∧ ¬ x.cap < 1 ∧ ¬ 1000 < x.cap) := by omega
                    rcases hcase with y1 | ⟨y1, y2⟩ | ⟨y1, y2, y3⟩ | ⟨y1, y2, y3, y4⟩ | ⟨y1, y2, y3, y4⟩
                    · have d0 : decide (x.delay < 1) = true := decide_eq_true y1
                      have HR := Kept.mk (ve_form HF.out HNN.out HCC.out HRB.out HLL.out (any_yes HX.out (show formB x = true by simp only [formB, d0]; rfl)))
                      go_wp2_with fail
                      go_ret
                      exact ⟨ret_int HR.out.symm, HD.out.alloc hz _⟩
                    · have d0 : decide (x.delay < 1) = false := decide_eq_false y1
                      have d1 : decide (100 < x.delay) = true := decide_eq_true y2
                      have HR := Kept.mk (ve_form HF.out HNN.out HCC.out HRB.out HLL.out (any_yes HX.out (show formB x = true by simp only [formB, d0, d1]; rfl)))
                      go_wp2_with fail
                      go_ret
                      exact ⟨ret_int HR.out.symm, HD.out.alloc hz _⟩
                    · have d0 : decide (x.delay < 1) = false := decide_eq_false y1
                      have d1 : decide (100 < x.delay) = false := decide_eq_false y2
                      have d2 : decide (x.cap < 1) = true := decide_eq_true y3
                      have HR := Kept.mk (ve_form HF.out HNN.out HCC.out HRB.out HLL.out (any_yes HX.out (show formB x = true by simp only [formB, d0, d1, d2]; rfl)))
                      go_wp2_with fail
                      go_ret
                      exact ⟨ret_int HR.out.symm, HD.out.alloc hz _⟩
                    · have d0 : decide (x.delay < 1) = false := decide_eq_false y1
                      have d1 : decide (100 < x.delay) = false := decide_eq_false y2
                      have d2 : decide (x.cap < 1) = false := decide_eq_false y3
                      have d3 : decide (1000 < x.cap) = true := decide_eq_true y4
                      have HR := Kept.mk (ve_form HF.out HNN.out HCC.out HRB.out HLL.out (any_yes HX.out (show formB x = true by simp only [formB, d0, d1, d2, d3]; rfl)))
                      go_wp2_with fail
                      go_ret
                      exact ⟨ret_int HR.out.symm, HD.out.alloc hz _⟩
                    · have d0 : decide (x.delay < 1) = false := decide_eq_false y1
                      have d1 : decide (100 < x.delay) = false := decide_eq_false y2
                      have d2 : decide (x.cap < 1) = false := decide_eq_false y3
                      have d3 : decide (1000 < x.cap) = false := decide_eq_false y4
                      have HN2 := Kept.mk (any_next HN.out HX.out (f := formB) (by simp only [formB, d0, d1, d2, d3]; rfl))
                      go_wp2_with fail
                      go_roundw
                      case rel => exact ⟨k + 1, by omega, by go_num, HN2, ⟨HD.out.alloc hz _⟩⟩
                      case measure => simp [intOf]; omega
                  · obtain rfl : k = C.length := by omega
                    have HR := Kept.mk (ve_ok HF.out HNN.out HCC.out HRB.out HLL.out (by have := HN.out; rwa [List.take_length] at this))
                    clear hlt HN
                    go_wp2_with fail
                    go_ret
                    exact ⟨ret_int HR.out.symm, HD.out⟩
theorem valid_c (p : Pl) (w : World) (hp : PlanAt w w.heap.size p) :
    Calls Try.prog 13 #[pv p] w fun e w' => e = .returned (.int .i64 (validE p.nodes p.cables)) ∧ Below w.heap.size w w' := by
  cases p
  exact valid_ _ _ _ _ _ _ w hp
end Go.Proofs.Ytibmbhnpmfgclaa
