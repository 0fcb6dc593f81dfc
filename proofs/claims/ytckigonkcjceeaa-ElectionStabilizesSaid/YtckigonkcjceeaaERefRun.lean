/- The reference's Fault and Run. -/
import Derived.Test.YtckigonkcjceeaaERefR
namespace Go.Proofs.Ytckigonkcjceeaa
set_option linter.unusedVariables false
set_option linter.unusedSimpArgs false
open Go.RowKit
set_option maxRecDepth 100000 in
set_option maxHeartbeats 8000000 in
theorem Fault_ (N : List Nd) (C : List Cb) (An Ac Au Av : Option Addr) (kn kc ku kv : Nat) (up : List Bool) (votes : List Vt) (w : World) (h : ArgsAt w N C An Ac Au Av kn kc ku kv up votes) :
    Calls Try.prog 20 #[.agg #[.slice An N.length kn, .slice Ac C.length kc], .slice Au up.length ku, .slice Av votes.length kv] w fun e w' => e = .returned (.int .i64 (faultE N C up votes)) ∧ Below w.heap.size w w' := by
  have HA := Kept.mk h
  have ul := h.ul
  have vl := h.vl
  obtain ⟨n1, n2⟩ := h.p.len
  simp only at n1 n2
  clear h
  have HB := Kept.mk (Blk.new w 32 #[.slice An N.length kn, .slice Ac C.length kc])
  have HG : Kept (Below w.heap.size w (w.alloc (.cells #[.slice An N.length kn, .slice Ac C.length kc] 32))) := ⟨(Below.refl _ _).alloc (Nat.le_refl _) _⟩
  by_cases hv : validE N C = 0
  · have HVE := Kept.mk hv
    by_cases hu : up.length = C.length
    · by_cases hl : votes.length = N.length
      · have HNO : Kept (¬ (validE N C ≠ 0 ∨ up.length ≠ C.length ∨ votes.length ≠ N.length)) := ⟨by omega⟩
        have q1 : ((up.length : Int) != (C.length : Int)) = false := by simp; omega
        have q2 : ((votes.length : Int) != (N.length : Int)) = false := by simp; omega
        have l1 : votes.length ≤ N.length := by omega
        have l2 : N.length ≤ votes.length := by omega
        have hl16 : N.length ≤ 16 := (valid_spec hv).1
        clear hv hu hl
        go_enter Try.func20, Try.ntmps20
        go_wp2_with (go_at_call 42; refine (refValid_ N C An Ac kn kc _ (HA.out.p.new_ HG.out)).mono ?_; rintro e w1 ⟨rfl, hb1⟩; rw [HVE.out]; have HB1 := Kept.mk (HB.out.new_ hb1); have HD1 := Kept.mk (join HG.out hb1); clear hb1; have k0 := HB1.out.cell 0 (v := .slice An N.length kn) rfl; have k1 := HB1.out.cell 1 (v := .slice Ac C.length kc) rfl; have z1 := HB1.out.lt)
        have HAR := Kept.mk (HA.out.new_ HD1.out)
        go_loop [7] (fun v => ∃ k : Nat, k ≤ votes.length ∧ v = .int .i64 k ∧ Kept ((votes.take k).any (vtB N.length) = false)) (fun v => votes.length - (intOf v).toNat)
        case atStart => exact ⟨0, Nat.zero_le _, rfl, ⟨rfl⟩⟩
        case round =>
          obtain ⟨k, hk, rfl, HN⟩ := hrel
          by_cases hlt : k < votes.length
          · obtain ⟨x, b, off, hx, rfl, -, hb, hcx⟩ := HAR.out.v.at_ hlt
            have c1 := hcx 1 (.int .i64 x.dist) rfl
            have HX := Kept.mk hx
            clear hx hcx
            have hcase : x.dist < 0 ∨ (¬ x.dist < 0 ∧ (votes.length : Int) ≤ x.dist) ∨ (¬ x.dist < 0 ∧ ¬ (votes.length : Int) ≤ x.dist) := by omega
            rcases hcase with y1 | ⟨y1, y2⟩ | ⟨y1, y2⟩
            · have d1 := decide_eq_true y1
              have HR := Kept.mk (fe_range HNO.out (any_yes HX.out (show vtB N.length x = true by unfold vtB; rw [d1]; rfl)))
              go_wp2_with fail
              go_ret
              exact ⟨ret_int HR.out.symm, HD1.out⟩
            · have d1 := decide_eq_false y1
              have d2 := decide_eq_true y2
              have HR := Kept.mk (fe_range HNO.out (any_yes HX.out (show vtB N.length x = true by unfold vtB; rw [d1, decide_eq_true (by omega)]; rfl)))
              go_wp2_with fail
              go_ret
              exact ⟨ret_int HR.out.symm, HD1.out⟩
            · have d1 := decide_eq_false y1
              have d2 := decide_eq_false y2
              have HN2 := Kept.mk (any_next HN.out HX.out (f := vtB N.length) (by unfold vtB; rw [d1, decide_eq_false (by omega)]; rfl))
              go_wp2_with fail
              go_round
              case rel => exact ⟨k + 1, by omega, by go_num, HN2⟩
              case measure => simp [intOf]; omega
          · obtain rfl : k = votes.length := by omega
            have HR := Kept.mk (fe_ok HNO.out (by have := HN.out; rwa [List.take_length] at this))
            clear hlt
            go_wp2_with fail
            go_ret
            exact ⟨ret_int HR.out.symm, HD1.out⟩
      · have HR := Kept.mk (fe_arg (N := N) (C := C) (up := up) (votes := votes) (.inr (.inr hl)))
        have q1 : ((up.length : Int) != (C.length : Int)) = false := by simp; omega
        have q2 : ((votes.length : Int) != (N.length : Int)) = true := by simp; omega
        clear hv hu hl
        go_enter Try.func20, Try.ntmps20
        go_wp2_with (go_at_call 42; refine (refValid_ N C An Ac kn kc _ (HA.out.p.new_ HG.out)).mono ?_; rintro e w1 ⟨rfl, hb1⟩; rw [HVE.out]; have HB1 := Kept.mk (HB.out.new_ hb1); have HD1 := Kept.mk (join HG.out hb1); clear hb1; have k0 := HB1.out.cell 0 (v := .slice An N.length kn) rfl; have k1 := HB1.out.cell 1 (v := .slice Ac C.length kc) rfl; have z1 := HB1.out.lt)
        go_ret
        exact ⟨ret_int HR.out.symm, HD1.out⟩
    · have HR := Kept.mk (fe_arg (N := N) (C := C) (up := up) (votes := votes) (.inr (.inl hu)))
      have q1 : ((up.length : Int) != (C.length : Int)) = true := by simp; omega
      clear hv hu
      go_enter Try.func20, Try.ntmps20
      go_wp2_with (go_at_call 42; refine (refValid_ N C An Ac kn kc _ (HA.out.p.new_ HG.out)).mono ?_; rintro e w1 ⟨rfl, hb1⟩; rw [HVE.out]; have HB1 := Kept.mk (HB.out.new_ hb1); have HD1 := Kept.mk (join HG.out hb1); clear hb1; have k0 := HB1.out.cell 0 (v := .slice An N.length kn) rfl; have k1 := HB1.out.cell 1 (v := .slice Ac C.length kc) rfl; have z1 := HB1.out.lt)
      go_ret
      exact ⟨ret_int HR.out.symm, HD1.out⟩
  · have HR := Kept.mk (fe_arg (N := N) (C := C) (up := up) (votes := votes) (.inl hv))
    obtain ⟨ve, hve⟩ : ∃ ve, validE N C = ve := ⟨_, rfl⟩
    have q1 : (ve != 0) = true := by rw [← hve]; simpa using hv
    have q2 : (ve == 0) = false := by rw [← hve]; simpa using hv
    have HVE := Kept.mk hve
    clear hv hve
    go_enter Try.func20, Try.ntmps20
    go_wp2_with (go_at_call 42; refine (refValid_ N C An Ac kn kc _ (HA.out.p.new_ HG.out)).mono ?_; rintro e w1 ⟨rfl, hb1⟩; rw [HVE.out]; have HB1 := Kept.mk (HB.out.new_ hb1); have HD1 := Kept.mk (join HG.out hb1); clear hb1)
    go_ret
    exact ⟨ret_int HR.out.symm, HD1.out⟩
theorem refRound_n (N : List Nd) (C : List Cb) (An Ac Au Av : Option Addr) (kn kc ku kv n : Nat) (up : List Bool) (votes : List Vt) (w : World) (hp : PlanAt w w.heap.size ⟨N, C, An, kn, Ac, kc⟩) (hu : RowsAt w w.heap.size 1 bcell1 Au up) (hv : RowsAt w w.heap.size 3 vcell Av votes) (hl : votes.length = n) (hf : faultE N C up votes = 0) :
    Calls Try.prog 26 #[.agg #[.slice An N.length kn, .slice Ac C.length kc], .slice Au up.length ku, .slice Av n kv] w fun e w' => ∃ A kap, e = .returned (.slice A n kap) ∧ RowsAt w' w'.heap.size 3 vcell A (roundP C up votes) ∧ Below w.heap.size w w' := by
  subst hl
  obtain ⟨h1, h2, h3, h4⟩ := faultE_zero.1 hf
  obtain ⟨g1, g2, -⟩ := valid_spec h1
  refine (refRound_ N C An Ac Au Av kn kc ku kv up votes w hp hu hv (by rw [h3]; exact valid_cab h1) (by omega) g2 h2 (by rw [h3]; exact h4)).mono ?_
  rintro e w' ⟨v, rfl, ho, hb⟩
  obtain ⟨A, k, rfl⟩ := own_slice ho
  exact ⟨A, k, by rw [roundP_len], RowsAt.of_own ho vcell_len (by omega) rfl, hb⟩
theorem same_n (l m : List Vt) (A A' : Option Addr) (kap kap' n : Nat) (w : World) (B B' : Nat) (hl : RowsAt w B 3 vcell A l) (hm : RowsAt w B' 3 vcell A' m) (h1 : l.length = n) (h2 : m.length = n) (hn : n ≤ 1000000) :
    Calls Try.prog 24 #[.slice A n kap, .slice A' n kap'] w fun e w' => e = .returned (.bool (decide (l = m))) ∧ Below w.heap.size w w' := by
  have := same_c l m A A' kap kap' w B B' hl hm (by omega) (by omega)
  rwa [h1, h2] at this
/-- The reference's Run's three results. -/
def RefRunR (w : World) (C : List Cb) (up : List Bool) (votes : List Vt) (most : Nat) (e : Ending) (w' : World) : Prop :=
  ∃ A kap r ok, e = .returned (.tuple #[.slice A votes.length kap, .int .i64 (r : Nat), .bool ok]) ∧ r ≤ most ∧ (∀ j, j < r → ¬ StableAt C up votes j) ∧ (StableAt C up votes r ∧ ok = true ∨ ¬ StableAt C up votes r ∧ r = most ∧ ok = false) ∧
    RowsAt w' w'.heap.size 3 vcell A (roundsP C up votes r) ∧ Below w.heap.size w w'
set_option maxRecDepth 100000 in
set_option maxHeartbeats 8000000 in
theorem refRun_ (N : List Nd) (C : List Cb) (An Ac Au Av : Option Addr) (kn kc ku kv : Nat) (up : List Bool) (votes : List Vt) (most : Nat) (w : World) (h : ArgsAt w N C An Ac Au Av kn kc ku kv up votes) (hf : faultE N C up votes = 0) (hm : most ≤ 1000) :
    Calls Try.prog 23 #[.agg #[.slice An N.length kn, .slice Ac C.length kc], .slice Au up.length ku, .slice Av votes.length kv, .int .i64 (most : Int)] w (RefRunR w C up votes most) := by
  have HG : Kept (Below w.heap.size w (w.alloc (.cells #[.slice An N.length kn, .slice Ac C.length kc] 32))) := ⟨(Below.refl _ _).alloc (Nat.le_refl _) _⟩
  have HA1 := Kept.mk (h.new_ HG.out)
  have HB := Kept.mk (Blk.new w 32 #[.slice An N.length kn, .slice Ac C.length kc])
  have HF := Kept.mk hf
  have hvl := h.vl
  clear h hf
  go_enter Try.func23, Try.ntmps23
  go_wp2_with fail
  go_loopw [2, 11] (fun v2 v11 wr => ∃ (r : Nat) (A : Option Addr) (kap : Nat), r ≤ most + 1 ∧ v11 = .int .i64 r ∧ v2 = .slice A votes.length kap ∧ Kept (r = most + 1 → ¬ StableAt C up votes most) ∧ Kept (∀ j, j < r → ¬ StableAt C up votes j) ∧ Kept (RowsAt wr wr.heap.size 3 vcell A (roundsP C up votes (if r ≤ most then r else most))) ∧ Kept (Blk wr w.heap.size 32 #[.slice An N.length kn, .slice Ac C.length kc]) ∧ Kept (ArgsAt wr N C An Ac Au Av kn kc ku kv up votes) ∧ Kept (Below w.heap.size w wr)) (fun _ v11 _ => most + 1 - (intOf v11).toNat)
  case atStart => exact ⟨0, Av, kv, by omega, rfl, rfl, ⟨fun h => by omega⟩, ⟨fun j hj => absurd hj (by omega)⟩, ⟨by rw [if_pos (by omega)]; exact HA1.out.v⟩, HB, HA1, HG⟩
  case round =>
    obtain ⟨r, A, kap, hr, rfl, rfl, HLAST, HNS, HR, HB2, HA3, HD2⟩ := hrel
    have k0 := HB2.out.cell 0 (v := .slice An N.length kn) rfl
    have k1 := HB2.out.cell 1 (v := .slice Ac C.length kc) rfl
    have z1 := HB2.out.lt
    by_cases hrm : r ≤ most
    · rw [if_pos hrm] at HR
      have HFR := Kept.mk (fault_rounds HF.out r)
      have HLR := Kept.mk (roundsP_len C up votes r)
      have HLR2 := Kept.mk (roundsP_len C up votes (r + 1))
      by_cases hs : StableAt C up votes r
      · have HS := Kept.mk hs
        have HI := Kept.mk (fun i : Decidable (roundP C up (roundsP C up votes r) = roundsP C up votes r) => @decide_eq_true _ i hs)
        clear hs
        go_wp2_with (first | (go_at_call 26; refine (refRound_n N C An Ac Au A kn kc ku kap votes.length up (roundsP C up votes r) _ HA3.out.p HA3.out.u HR.out HLR.out HFR.out).mono ?_; rintro e w3 ⟨A3, k3, rfl, hr3, hb3⟩; have HR3 := Kept.mk hr3; have HRO := Kept.mk (HR.out.new_ hb3); have HD3 := Kept.mk (join HD2.out hb3); clear hr3 hb3) | (go_at_call 24; refine (same_n _ (roundsP C up votes r) _ A _ kap votes.length _ _ _ HR3.out HRO.out HLR2.out HLR.out hvl).mono ?_; rintro e w4 ⟨rfl, hb4⟩; rw [HI.out]; have HR4 := Kept.mk (HRO.out.new_ hb4); have HD4 := Kept.mk (join HD3.out hb4); clear hb4))
        go_ret3
        exact ⟨A, kap, r, true, rfl, hrm, HNS.out, .inl ⟨HS.out, rfl⟩, HR4.out, HD4.out⟩
      · have HS := Kept.mk hs
        have HI := Kept.mk (fun i : Decidable (roundP C up (roundsP C up votes r) = roundsP C up votes r) => @decide_eq_false _ i hs)
        clear hs
        by_cases hrlt : r < most
        · have d1 : decide ((r : Int) < (most : Int)) = true := decide_eq_true (by omega)
          go_wp2_with (first | (go_at_call 26; refine (refRound_n N C An Ac Au A kn kc ku kap votes.length up (roundsP C up votes r) _ HA3.out.p HA3.out.u HR.out HLR.out HFR.out).mono ?_; rintro e w3 ⟨A3, k3, rfl, hr3, hb3⟩; have HR3 := Kept.mk hr3; have HRO := Kept.mk (HR.out.new_ hb3); have HB3 := Kept.mk (HB2.out.new_ hb3); have HA4 := Kept.mk (HA3.out.new_ hb3); have HD3 := Kept.mk (join HD2.out hb3); clear hr3 hb3) | (go_at_call 24; refine (same_n _ (roundsP C up votes r) _ A _ kap votes.length _ _ _ HR3.out HRO.out HLR2.out HLR.out hvl).mono ?_; rintro e w4 ⟨rfl, hb4⟩; rw [HI.out]; have HR4 := Kept.mk (HR3.out.new_ hb4); have HB4 := Kept.mk (HB3.out.new_ hb4); have HA5 := Kept.mk (HA4.out.new_ hb4); have HD4 := Kept.mk (join HD3.out hb4); clear hb4))
          go_roundw
          case rel => exact ⟨r + 1, A3, k3, by omega, by go_num, rfl, ⟨fun h => by omega⟩, ⟨fun j hj => by
            rcases (by omega : j < r ∨ j = r) with h | rfl
            · exact HNS.out j h
            · exact HS.out⟩, ⟨by rw [if_pos (by omega)]; exact HR4.out⟩, HB4, HA5, HD4⟩
          case measure => simp [intOf]; omega
        · have d1 : decide ((r : Int) < (most : Int)) = false := decide_eq_false (by omega)
          have HRM : Kept (r = most) := ⟨by omega⟩
          go_wp2_with (first | (go_at_call 26; refine (refRound_n N C An Ac Au A kn kc ku kap votes.length up (roundsP C up votes r) _ HA3.out.p HA3.out.u HR.out HLR.out HFR.out).mono ?_; rintro e w3 ⟨A3, k3, rfl, hr3, hb3⟩; have HR3 := Kept.mk hr3; have HRO := Kept.mk (HR.out.new_ hb3); have HB3 := Kept.mk (HB2.out.new_ hb3); have HA4 := Kept.mk (HA3.out.new_ hb3); have HD3 := Kept.mk (join HD2.out hb3); clear hr3 hb3) | (go_at_call 24; refine (same_n _ (roundsP C up votes r) _ A _ kap votes.length _ _ _ HR3.out HRO.out HLR2.out HLR.out hvl).mono ?_; rintro e w4 ⟨rfl, hb4⟩; rw [HI.out]; have HR4 := Kept.mk (HRO.out.new_ hb4); have HB4 := Kept.mk (HB3.out.new_ hb4); have HA5 := Kept.mk (HA4.out.new_ hb4); have HD4 := Kept.mk (join HD3.out hb4); clear hb4))
          go_roundw
          case rel => exact ⟨r + 1, A, kap, by omega, by go_num, rfl, ⟨fun h => by rw [← HRM.out]; exact HS.out⟩, ⟨fun j hj => by
            rcases (by omega : j < r ∨ j = r) with h | rfl
            · exact HNS.out j h
            · exact HS.out⟩, ⟨by rw [if_neg (by omega), ← HRM.out]; exact HR4.out⟩, HB4, HA5, HD4⟩
          case measure => simp [intOf]; omega
    · have HRM : Kept (r = most + 1) := ⟨by omega⟩
      rw [if_neg hrm] at HR
      go_wp2_with fail
      go_ret3
      exact ⟨A, kap, most, false, rfl, Nat.le_refl _, fun j hj => HNS.out j (by rw [HRM.out]; omega), .inr ⟨HLAST.out HRM.out, rfl, rfl⟩, HR.out, HD2.out⟩
/-- A list of votes of length n is returned. -/
def RetN (w : World) (n : Nat) (L : List Vt) (e : Ending) (w' : World) : Prop := ∃ A kap, e = .returned (.slice A n kap) ∧ RowsAt w' w'.heap.size 3 vcell A L ∧ Below w.heap.size w w'
theorem plain_n (A : Option Addr) (kap n : Nat) (l : List Vt) (w : World) (h : RowsAt w w.heap.size 3 vcell A l) (hl : l.length = n) (hm : n ≤ 1000000) :
    Calls Try.prog 21 #[.slice A n kap] w (RetN w n l) := by
  subst hl
  refine (plain_c A kap l w h hm).mono ?_
  rintro e w' ⟨v, rfl, ho, hb⟩
  obtain ⟨A', k', rfl⟩ := own_slice ho
  exact ⟨A', k', rfl, RowsAt.of_own ho vcell_len (by omega) rfl, hb⟩
theorem refStart_n (n : Nat) (w : World) (hm : n ≤ 1000000) : Calls Try.prog 27 #[.int .i64 (n : Int)] w (RetN w n (startP n)) := by
  refine (refStart_c n w hm).mono ?_
  rintro e w' ⟨v, rfl, ho, hb⟩
  obtain ⟨A', k', rfl⟩ := own_slice ho
  exact ⟨A', k', by rw [startP_len], RowsAt.of_own ho vcell_len (by omega) rfl, hb⟩
theorem Start_n (N : List Nd) (C : List Cb) (An Ac : Option Addr) (kn kc n : Nat) (w : World) (h : PlanAt w w.heap.size ⟨N, C, An, kn, Ac, kc⟩) (hf : validE N C = 0) (hn : N.length = n) :
    Calls Try.prog 17 #[.agg #[.slice An N.length kn, .slice Ac C.length kc]] w (RetN w n (startP n)) := by
  subst hn
  refine (Start_ok N C An Ac kn kc w h hf).mono ?_
  rintro e w' ⟨A, kap, rfl, h1, h2, h3, h4⟩
  exact ⟨A, kap, by rw [startP_len], h1, h4⟩
theorem Round_m (N : List Nd) (C : List Cb) (An Ac Au Av : Option Addr) (kn kc ku kv n : Nat) (up : List Bool) (votes : List Vt) (w : World) (h : ArgsAt w N C An Ac Au Av kn kc ku kv up votes) (hl : votes.length = n) (hf : faultE N C up votes = 0) :
    Calls Try.prog 25 #[.agg #[.slice An N.length kn, .slice Ac C.length kc], .slice Au up.length ku, .slice Av n kv] w fun e w' => ∃ A kap, e = .returned (.tuple #[.slice A n kap, .int .i64 0]) ∧ RowsAt w' w'.heap.size 3 vcell A (roundP C up votes) ∧ Below w.heap.size w w' := by
  subst hl
  refine (Round_ N C An Ac Au Av kn kc ku kv up votes w h).mono ?_
  rintro e w' ⟨A, kap, L, rfl, h1, h2, h3, h4, h5⟩
  rw [hf] at h1 ⊢
  rw [if_pos rfl] at h1
  subst h1
  exact ⟨A, kap, by rw [roundP_len], h2, h5⟩
theorem Round_bad (N : List Nd) (C : List Cb) (An Ac Au Av : Option Addr) (kn kc ku kv : Nat) (up : List Bool) (votes : List Vt) (w : World) (h : ArgsAt w N C An Ac Au Av kn kc ku kv up votes) (hf : faultE N C up votes ≠ 0) :
    Calls Try.prog 25 #[.agg #[.slice An N.length kn, .slice Ac C.length kc], .slice Au up.length ku, .slice Av votes.length kv] w fun e w' => ∃ A kap, e = .returned (.tuple #[.slice A 0 kap, .int .i64 (faultE N C up votes)]) ∧ Below w.heap.size w w' := by
  refine (Round_ N C An Ac Au Av kn kc ku kv up votes w h).mono ?_
  rintro e w' ⟨A, kap, L, rfl, h1, h2, h3, h4, h5⟩
  rw [if_neg hf] at h1
  subst h1
  exact ⟨A, kap, rfl, h5⟩
end Go.Proofs.Ytckigonkcjceeaa
