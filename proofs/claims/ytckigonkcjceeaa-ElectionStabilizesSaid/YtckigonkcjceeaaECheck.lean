/- The program's check, Round, Stable and Start. -/
import Derived.Test.YtckigonkcjceeaaELib
import Derived.Test.YtckigonkcjceeaaGValid
namespace Go.Proofs.Ytckigonkcjceeaa
set_option linter.unusedVariables false
set_option linter.unusedSimpArgs false
open Go.RowKit
/-- What the arguments of a round are. -/
structure ArgsAt (w : World) (N : List Nd) (C : List Cb) (An Ac Au Av : Option Addr) (kn kc ku kv : Nat) (up : List Bool) (votes : List Vt) : Prop where
  p : PlanAt w w.heap.size ⟨N, C, An, kn, Ac, kc⟩
  u : RowsAt w w.heap.size 1 bcell1 Au up
  v : RowsAt w w.heap.size 3 vcell Av votes
  ul : up.length ≤ 1000000
  vl : votes.length ≤ 1000000
theorem ArgsAt.new_ {w w' : World} {N : List Nd} {C : List Cb} {An Ac Au Av : Option Addr} {kn kc ku kv : Nat} {up : List Bool} {votes : List Vt} (h : ArgsAt w N C An Ac Au Av kn kc ku kv up votes) (hb : Below w.heap.size w w') : ArgsAt w' N C An Ac Au Av kn kc ku kv up votes :=
  ⟨h.p.new_ hb, h.u.new_ hb, h.v.new_ hb, h.ul, h.vl⟩
section
variable {N : List Nd} {C : List Cb} {up : List Bool} {votes : List Vt}
theorem fe_arg (h : validE N C ≠ 0 ∨ up.length ≠ C.length ∨ votes.length ≠ N.length) : faultE N C up votes = 1 := if_pos h
theorem fe_range (h : ¬ (validE N C ≠ 0 ∨ up.length ≠ C.length ∨ votes.length ≠ N.length)) (h2 : votes.any (vtB N.length) = true) : faultE N C up votes = 2 := by rw [faultE, if_neg h, if_pos h2]
theorem fe_ok (h : ¬ (validE N C ≠ 0 ∨ up.length ≠ C.length ∨ votes.length ≠ N.length)) (h2 : votes.any (vtB N.length) = false) : faultE N C up votes = 0 := by rw [faultE, if_neg h, h2, if_neg (by decide)]
theorem fe_cases : faultE N C up votes = 0 ∨ faultE N C up votes = 1 ∨ faultE N C up votes = 2 := by
  unfold faultE; split
  · omega
  · split <;> omega
end
set_option maxRecDepth 100000 in
set_option maxHeartbeats 8000000 in
theorem check_ (N : List Nd) (C : List Cb) (An Ac Au Av : Option Addr) (kn kc ku kv : Nat) (up : List Bool) (votes : List Vt) (w : World) (h : ArgsAt w N C An Ac Au Av kn kc ku kv up votes) :
    Calls Try.prog 40 #[.agg #[.slice An N.length kn, .slice Ac C.length kc], .slice Au up.length ku, .slice Av votes.length kv] w fun e w' => e = .returned (.int .i64 (faultE N C up votes)) ∧ Below w.heap.size w w' := by
  have HA := Kept.mk h
  have ul := h.ul
  have vl := h.vl
  obtain ⟨n1, n2⟩ := h.p.len
  simp only at n1 n2
  clear h
  have HB := Kept.mk (Blk.new w 32 #[.slice An N.length kn, .slice Ac C.length kc])
  have HG : Kept (Below w.heap.size w (w.alloc (.cells #[.slice An N.length kn, .slice Ac C.length kc] 32))) := ⟨(Below.refl _ _).alloc (Nat.le_refl _) _⟩
  by_cases hv : validE N C = 0
  · have HVE := Kept.mk hv
    by_cases hu : up.length = C.length
    · by_cases hl : votes.length = N.length
      · have HNO : Kept (¬ (validE N C ≠ 0 ∨ up.length ≠ C.length ∨ votes.length ≠ N.length)) := ⟨by omega⟩
        have q1 : ((up.length : Int) != (C.length : Int)) = false := by simp; omega
        have q2 : ((votes.length : Int) != (N.length : Int)) = false := by simp; omega
        have l1 : votes.length ≤ N.length := by omega
        have l2 : N.length ≤ votes.length := by omega
        have hl16 : N.length ≤ 16 := (valid_spec hv).1
        clear hv hu hl
        go_enter Try.func40, Try.ntmps40
        go_wp2_with (go_at_call 15; refine (valid_ N C An Ac kn kc _ (HA.out.p.new_ HG.out)).mono ?_; rintro e w1 ⟨rfl, hb1⟩; rw [HVE.out]; have HB1 := Kept.mk (HB.out.new_ hb1); have HD1 := Kept.mk (join HG.out hb1); clear hb1; have k0 := HB1.out.cell 0 (v := .slice An N.length kn) rfl; have k1 := HB1.out.cell 1 (v := .slice Ac C.length kc) rfl; have z1 := HB1.out.lt)
        go_loopw [30] (fun v wr => ∃ k : Nat, k ≤ votes.length ∧ v = .int .i64 k ∧ Kept ((votes.take k).any (vtB N.length) = false) ∧ Kept (Blk wr w.heap.size 32 #[.slice An N.length kn, .slice Ac C.length kc]) ∧ Kept (Below w.heap.size w wr)) (fun v _ => votes.length - (intOf v).toNat)
        case atStart => exact ⟨0, Nat.zero_le _, rfl, ⟨rfl⟩, HB1, HD1⟩
        case round =>
          clear k0 k1 z1 HB1 HD1
          obtain ⟨k, hk, rfl, HN, HB1, HD⟩ := hrel
          have hz := HD.out.size
          have z1 := HB1.out.lt
          have k0 := HB1.out.cell 0 (v := .slice An N.length kn) rfl
          have k1 := HB1.out.cell 1 (v := .slice Ac C.length kc) rfl
          by_cases hlt : k < votes.length
          · obtain ⟨x, b, off, hx, rfl, -, hb, hcx⟩ := (HA.out.new_ HD.out).v.at_ hlt
            have c0 := hcx 0 (.int .i64 x.root) rfl
            have c1 := hcx 1 (.int .i64 x.dist) rfl
            have c2 := hcx 2 (.int .i64 x.port) rfl
            simp only [Nat.add_zero] at c0
            have HX := Kept.mk hx
            clear hx hcx
            have hcase : x.dist < 0 ∨ (¬ x.dist < 0 ∧ (N.length : Int) ≤ x.dist) ∨ (¬ x.dist < 0 ∧ ¬ (N.length : Int) ≤ x.dist) := by omega
            rcases hcase with y1 | ⟨y1, y2⟩ | ⟨y1, y2⟩
            · have d1 := decide_eq_true y1
              have HR := Kept.mk (fe_range HNO.out (any_yes HX.out (show vtB N.length x = true by unfold vtB; rw [d1]; rfl)))
              go_wp2_with fail
              go_ret
              exact ⟨ret_int HR.out.symm, HD.out.alloc hz _⟩
            · have d1 := decide_eq_false y1
              have d2 := decide_eq_true y2
              have HR := Kept.mk (fe_range HNO.out (any_yes HX.out (show vtB N.length x = true by unfold vtB; rw [d1, d2]; rfl)))
              go_wp2_with fail
              go_ret
              exact ⟨ret_int HR.out.symm, HD.out.alloc hz _⟩
            · have d1 := decide_eq_false y1
              have d2 := decide_eq_false y2
              have HN2 := Kept.mk (any_next HN.out HX.out (f := vtB N.length) (by unfold vtB; rw [d1, d2]; rfl))
              go_wp2_with fail
              go_roundw
              case rel => exact ⟨k + 1, by omega, by go_num, HN2, ⟨HB1.out.alloc _⟩, ⟨HD.out.alloc hz _⟩⟩
              case measure => simp [intOf]; omega
          · obtain rfl : k = votes.length := by omega
            have HR := Kept.mk (fe_ok HNO.out (by have := HN.out; rwa [List.take_length] at this))
            clear hlt
            go_wp2_with fail
            go_ret
            exact ⟨ret_int HR.out.symm, HD.out⟩
      · have HR := Kept.mk (fe_arg (N := N) (C := C) (up := up) (votes := votes) (.inr (.inr hl)))
        have q1 : ((up.length : Int) != (C.length : Int)) = false := by simp; omega
        have q2 : ((votes.length : Int) != (N.length : Int)) = true := by simp; omega
        clear hv hu hl
        go_enter Try.func40, Try.ntmps40
        go_wp2_with (go_at_call 15; refine (valid_ N C An Ac kn kc _ (HA.out.p.new_ HG.out)).mono ?_; rintro e w1 ⟨rfl, hb1⟩; rw [HVE.out]; have HB1 := Kept.mk (HB.out.new_ hb1); have HD1 := Kept.mk (join HG.out hb1); clear hb1; have k0 := HB1.out.cell 0 (v := .slice An N.length kn) rfl; have k1 := HB1.out.cell 1 (v := .slice Ac C.length kc) rfl; have z1 := HB1.out.lt)
        go_ret
        exact ⟨ret_int HR.out.symm, HD1.out⟩
    · have HR := Kept.mk (fe_arg (N := N) (C := C) (up := up) (votes := votes) (.inr (.inl hu)))
      have q1 : ((up.length : Int) != (C.length : Int)) = true := by simp; omega
      clear hv hu
      go_enter Try.func40, Try.ntmps40
      go_wp2_with (go_at_call 15; refine (valid_ N C An Ac kn kc _ (HA.out.p.new_ HG.out)).mono ?_; rintro e w1 ⟨rfl, hb1⟩; rw [HVE.out]; have HB1 := Kept.mk (HB.out.new_ hb1); have HD1 := Kept.mk (join HG.out hb1); clear hb1; have k0 := HB1.out.cell 0 (v := .slice An N.length kn) rfl; have k1 := HB1.out.cell 1 (v := .slice Ac C.length kc) rfl; have z1 := HB1.out.lt)
      go_ret
      exact ⟨ret_int HR.out.symm, HD1.out⟩
  · have HR := Kept.mk (fe_arg (N := N) (C := C) (up := up) (votes := votes) (.inl hv))
    obtain ⟨ve, hve⟩ : ∃ ve, validE N C = ve := ⟨_, rfl⟩
    have q1 : (ve != 0) = true := by rw [← hve]; simpa using hv
    have q2 : (ve == 0) = false := by rw [← hve]; simpa using hv
    have HVE := Kept.mk hve
    clear hv hve
    go_enter Try.func40, Try.ntmps40
    go_wp2_with (go_at_call 15; refine (valid_ N C An Ac kn kc _ (HA.out.p.new_ HG.out)).mono ?_; rintro e w1 ⟨rfl, hb1⟩; rw [HVE.out]; have HB1 := Kept.mk (HB.out.new_ hb1); have HD1 := Kept.mk (join HG.out hb1); clear hb1)
    go_ret
    exact ⟨ret_int HR.out.symm, HD1.out⟩
/-- Round's two results. -/
def RoundR (w : World) (f : Int) (R : List Vt) (e : Ending) (w' : World) : Prop :=
  ∃ A kap L, e = .returned (.tuple #[.slice A (L : List Vt).length kap, .int .i64 f]) ∧ L = (if f = 0 then R else []) ∧ RowsAt w' w'.heap.size 3 vcell A L ∧ L.length ≤ kap ∧ kap ≤ maxLen ∧ Below w.heap.size w w'
theorem roundR_bad {w w' : World} {f f' : Int} {R : List Vt} (hf : f ≠ 0) (he : f' = f) (hb : Below w.heap.size w w') : RoundR w f R (.returned (.tuple #[.slice none 0 0, .int .i64 f'])) w' :=
  ⟨none, 0, [], by rw [he]; rfl, by rw [if_neg hf], RowsAt.nil_ _ _ _ _ vcell_len (by omega), Nat.le_refl _, by unfold maxLen; omega, hb⟩
theorem round_of (N : List Nd) (C : List Cb) (An Ac Au Av : Option Addr) (kn kc ku kv : Nat) (up : List Bool) (votes : List Vt) (w : World) (h : ArgsAt w N C An Ac Au Av kn kc ku kv up votes) (hf : faultE N C up votes = 0) :
    Calls Try.prog 41 #[.agg #[.slice An N.length kn, .slice Ac C.length kc], .slice Au up.length ku, .slice Av votes.length kv] w (RetV w (roundP C up votes)) := by
  obtain ⟨h1, h2, h3, h4⟩ := faultE_zero.1 hf
  obtain ⟨g1, g2, -⟩ := valid_spec h1
  exact round_ N C An Ac Au Av kn kc ku kv up votes w h.p h.u h.v (valid_cab h1) g1 g2 h2 h3 h4
set_option maxRecDepth 100000 in
set_option maxHeartbeats 4000000 in
theorem Round_ (N : List Nd) (C : List Cb) (An Ac Au Av : Option Addr) (kn kc ku kv : Nat) (up : List Bool) (votes : List Vt) (w : World) (h : ArgsAt w N C An Ac Au Av kn kc ku kv up votes) :
    Calls Try.prog 25 #[.agg #[.slice An N.length kn, .slice Ac C.length kc], .slice Au up.length ku, .slice Av votes.length kv] w (RoundR w (faultE N C up votes) (roundP C up votes)) := by
  have HG : Kept (Below w.heap.size w (w.alloc (.cells #[.slice An N.length kn, .slice Ac C.length kc] 32))) := ⟨(Below.refl _ _).alloc (Nat.le_refl _) _⟩
  have HA1 := Kept.mk (h.new_ HG.out)
  have HB := Kept.mk (Blk.new w 32 #[.slice An N.length kn, .slice Ac C.length kc])
  clear h
  by_cases hf : faultE N C up votes = 0
  · have HF := Kept.mk hf
    have HRO := fun W (hW : ArgsAt W N C An Ac Au Av kn kc ku kv up votes) => round_of N C An Ac Au Av kn kc ku kv up votes W hW hf
    have HRK := Kept.mk HRO
    clear hf HRO
    go_enter Try.func25, Try.ntmps25
    go_wp2_with (go_at_call 40; refine (check_ N C An Ac Au Av kn kc ku kv up votes _ HA1.out).mono ?_; rintro e w1 ⟨rfl, hb1⟩; rw [HF.out]; have HB1 := Kept.mk (HB.out.new_ hb1); have HA2 := Kept.mk (HA1.out.new_ hb1); have HD1 := Kept.mk (join HG.out hb1); clear hb1; have k0 := HB1.out.cell 0 (v := .slice An N.length kn) rfl; have k1 := HB1.out.cell 1 (v := .slice Ac C.length kc) rfl; have z1 := HB1.out.lt)
    refine (HRK.out _ HA2.out).mono ?_
    rintro e w2 ⟨A, kap, rfl, hr, hk1, hk2, hb2⟩
    have HR := Kept.mk hr
    have HK1 := Kept.mk hk1
    have HK2 := Kept.mk hk2
    have HB2 := Kept.mk hb2
    clear hr hk1 hk2 hb2
    go_wp2_with fail
    go_ret2
    exact ⟨A, kap, roundP C up votes, by rw [HF.out]; rfl, by rw [HF.out]; rfl, HR.out, HK1.out, HK2.out, join HD1.out HB2.out⟩
  · obtain ⟨f, hfe⟩ : ∃ f, faultE N C up votes = f := ⟨_, rfl⟩
    rw [hfe] at hf
    have q1 : (f != 0) = true := by simpa using hf
    have q2 : (f == 0) = false := by simpa using hf
    have HF := Kept.mk hfe
    have HN := Kept.mk hf
    clear hf hfe
    go_enter Try.func25, Try.ntmps25
    go_wp2_with (go_at_call 40; refine (check_ N C An Ac Au Av kn kc ku kv up votes _ HA1.out).mono ?_; rintro e w1 ⟨rfl, hb1⟩; rw [HF.out]; have HD1 := Kept.mk (join HG.out hb1); clear hb1)
    go_ret2
    exact roundR_bad (by rw [HF.out]; exact HN.out) HF.out.symm HD1.out
def stableB (N : List Nd) (C : List Cb) (up : List Bool) (votes : List Vt) : Bool := decide (faultE N C up votes = 0) && decide (roundP C up votes = votes)
set_option maxRecDepth 100000 in
set_option maxHeartbeats 4000000 in
theorem Stable_ (N : List Nd) (C : List Cb) (An Ac Au Av : Option Addr) (kn kc ku kv : Nat) (up : List Bool) (votes : List Vt) (w : World) (h : ArgsAt w N C An Ac Au Av kn kc ku kv up votes) :
    Calls Try.prog 22 #[.agg #[.slice An N.length kn, .slice Ac C.length kc], .slice Au up.length ku, .slice Av votes.length kv] w fun e w' => e = .returned (.bool (stableB N C up votes)) ∧ Below w.heap.size w w' := by
  have HG : Kept (Below w.heap.size w (w.alloc (.cells #[.slice An N.length kn, .slice Ac C.length kc] 32))) := ⟨(Below.refl _ _).alloc (Nat.le_refl _) _⟩
  have HA1 := Kept.mk (h.new_ HG.out)
  have HB := Kept.mk (Blk.new w 32 #[.slice An N.length kn, .slice Ac C.length kc])
  have hl1 := h.vl
  have hl2 : (roundP C up votes).length ≤ 1000000 := by rw [roundP_len]; exact hl1
  clear h
  by_cases hf : faultE N C up votes = 0
  · have HS : Kept (stableB N C up votes = decide (roundP C up votes = votes)) := ⟨by unfold stableB; rw [decide_eq_true hf]; rfl⟩
    have HF := Kept.mk hf
    have HRK := Kept.mk (fun W (hW : ArgsAt W N C An Ac Au Av kn kc ku kv up votes) => round_of N C An Ac Au Av kn kc ku kv up votes W hW hf)
    clear hf
    go_enter Try.func22, Try.ntmps22
    go_wp2_with (go_at_call 40; refine (check_ N C An Ac Au Av kn kc ku kv up votes _ HA1.out).mono ?_; rintro e w1 ⟨rfl, hb1⟩; rw [HF.out]; have HB1 := Kept.mk (HB.out.new_ hb1); have HA2 := Kept.mk (HA1.out.new_ hb1); have HD1 := Kept.mk (join HG.out hb1); clear hb1; have k0 := HB1.out.cell 0 (v := .slice An N.length kn) rfl; have k1 := HB1.out.cell 1 (v := .slice Ac C.length kc) rfl; have z1 := HB1.out.lt)
    refine (HRK.out _ HA2.out).mono ?_
    rintro e w2 ⟨A, kap, rfl, hr, hk1, hk2, hb2⟩
    have HR := Kept.mk hr
    have HA3 := Kept.mk (HA2.out.new_ hb2)
    have HD2 := Kept.mk (join HD1.out hb2)
    clear hr hk1 hk2 hb2
    go_wp2_with (go_at_call 19; refine (equal_c (roundP C up votes) votes A Av kap kv _ _ _ HR.out HA3.out.v hl2 hl1).mono ?_; rintro e w3 ⟨rfl, hb3⟩; have HD3 := Kept.mk (join HD2.out hb3); clear hb3)
    go_ret
    exact ⟨ret_bool HS.out.symm, HD3.out⟩
  · have HS : Kept (stableB N C up votes = false) := ⟨by unfold stableB; rw [decide_eq_false hf]; rfl⟩
    obtain ⟨f, hfe⟩ : ∃ f, faultE N C up votes = f := ⟨_, rfl⟩
    rw [hfe] at hf
    have q1 : (f != 0) = true := by simpa using hf
    have q2 : (f == 0) = false := by simpa using hf
    have HF := Kept.mk hfe
    clear hf hfe
    go_enter Try.func22, Try.ntmps22
    go_wp2_with (go_at_call 40; refine (check_ N C An Ac Au Av kn kc ku kv up votes _ HA1.out).mono ?_; rintro e w1 ⟨rfl, hb1⟩; rw [HF.out]; have HD1 := Kept.mk (join HG.out hb1); clear hb1)
    go_ret
    exact ⟨ret_bool HS.out.symm, HD1.out⟩
end Go.Proofs.Ytckigonkcjceeaa
