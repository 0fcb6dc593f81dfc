/- The program's Start and Run. -/
import Derived.Test.YtckigonkcjceeaaECheck
namespace Go.Proofs.Ytckigonkcjceeaa
set_option linter.unusedVariables false
set_option linter.unusedSimpArgs false
open Go.RowKit
theorem roundsP_len (C : List Cb) (up : List Bool) (votes : List Vt) (k : Nat) : (roundsP C up votes k).length = votes.length := by
  induction k with
  | zero => rfl
  | succ k ih => rw [roundsP, roundP_len, ih]
theorem roundsP_ok {C : List Cb} {up : List Bool} {votes : List Vt} (h : DistOk votes.length votes) (k : Nat) : DistOk votes.length (roundsP C up votes k) := by
  induction k with
  | zero => exact h
  | succ k ih =>
    have h1 : DistOk (roundsP C up votes k).length (roundsP C up votes k) := by rw [roundsP_len]; exact ih
    have h2 := roundP_ok (cables := C) (up := up) h1
    rw [roundsP_len] at h2
    exact h2
theorem round_n (N : List Nd) (C : List Cb) (An Ac Au Av : Option Addr) (kn kc ku kv n : Nat) (up : List Bool) (votes : List Vt) (w : World) (hp : PlanAt w w.heap.size ⟨N, C, An, kn, Ac, kc⟩) (hu : RowsAt w w.heap.size 1 bcell1 Au up) (hv : RowsAt w w.heap.size 3 vcell Av votes) (hl : votes.length = n) (hf : faultE N C up votes = 0) :
    Calls Try.prog 41 #[.agg #[.slice An N.length kn, .slice Ac C.length kc], .slice Au up.length ku, .slice Av n kv] w fun e w' => ∃ A kap, e = .returned (.slice A n kap) ∧ RowsAt w' w'.heap.size 3 vcell A (roundP C up votes) ∧ n ≤ kap ∧ kap ≤ maxLen ∧ Below w.heap.size w w' := by
  subst hl
  obtain ⟨h1, h2, h3, h4⟩ := faultE_zero.1 hf
  obtain ⟨g1, g2, -⟩ := valid_spec h1
  refine (round_ N C An Ac Au Av kn kc ku kv up votes w hp hu hv (valid_cab h1) g1 g2 h2 h3 h4).mono ?_
  rintro e w' ⟨A, kap, rfl, hr, hk1, hk2, hb⟩
  rw [roundP_len] at hk1 ⊢
  exact ⟨A, kap, rfl, hr, hk1, hk2, hb⟩
theorem equal_n (l m : List Vt) (A A' : Option Addr) (kap kap' n : Nat) (w : World) (B B' : Nat) (hl : RowsAt w B 3 vcell A l) (hm : RowsAt w B' 3 vcell A' m) (h1 : l.length = n) (h2 : m.length = n) (hn : n ≤ 1000000) :
    Calls Try.prog 19 #[.slice A n kap, .slice A' n kap'] w fun e w' => e = .returned (.bool (decide (l = m))) ∧ Below w.heap.size w w' := by
  have := equal_c l m A A' kap kap' w B B' hl hm (by omega) (by omega)
  rwa [h1, h2] at this
theorem fault_rounds {N : List Nd} {C : List Cb} {up : List Bool} {votes : List Vt} (h : faultE N C up votes = 0) (k : Nat) : faultE N C up (roundsP C up votes k) = 0 := by
  obtain ⟨h1, h2, h3, h4⟩ := faultE_zero.1 h
  rw [← h3] at h4
  have h5 := roundsP_ok (C := C) (up := up) h4 k
  rw [h3] at h5
  exact faultE_zero.2 ⟨h1, h2, by rw [roundsP_len]; exact h3, h5⟩
def StableAt (C : List Cb) (up : List Bool) (votes : List Vt) (k : Nat) : Prop := roundP C up (roundsP C up votes k) = roundsP C up votes k
/-- Run's three results where the arguments are good. -/
def RunR (w : World) (C : List Cb) (up : List Bool) (votes : List Vt) (most : Nat) (e : Ending) (w' : World) : Prop :=
  ∃ A kap r err, e = .returned (.tuple #[.slice A votes.length kap, .int .i64 (r : Nat), .int .i64 err]) ∧ r ≤ most ∧ (∀ j, j < r → ¬ StableAt C up votes j) ∧ (StableAt C up votes r ∧ err = 0 ∨ ¬ StableAt C up votes r ∧ r = most ∧ err = 15) ∧
    RowsAt w' w'.heap.size 3 vcell A (roundsP C up votes r) ∧ votes.length ≤ kap ∧ kap ≤ maxLen ∧ Below w.heap.size w w'
def RunBad (w : World) (f : Int) (e : Ending) (w' : World) : Prop := e = .returned (.tuple #[.slice none 0 0, .int .i64 0, .int .i64 f]) ∧ Below w.heap.size w w'
set_option maxRecDepth 100000 in
set_option maxHeartbeats 4000000 in
theorem Run_bad (N : List Nd) (C : List Cb) (An Ac Au Av : Option Addr) (kn kc ku kv : Nat) (up : List Bool) (votes : List Vt) (most : Int) (w : World) (h : ArgsAt w N C An Ac Au Av kn kc ku kv up votes) (hf : faultE N C up votes ≠ 0) :
    Calls Try.prog 16 #[.agg #[.slice An N.length kn, .slice Ac C.length kc], .slice Au up.length ku, .slice Av votes.length kv, .int .i64 most] w (RunBad w (faultE N C up votes)) := by
  have HG : Kept (Below w.heap.size w (w.alloc (.cells #[.slice An N.length kn, .slice Ac C.length kc] 32))) := ⟨(Below.refl _ _).alloc (Nat.le_refl _) _⟩
  have HA1 := Kept.mk (h.new_ HG.out)
  clear h
  obtain ⟨f, hfe⟩ : ∃ f, faultE N C up votes = f := ⟨_, rfl⟩
  rw [hfe] at hf ⊢
  have q1 : (f != 0) = true := by simpa using hf
  have q2 : (f == 0) = false := by simpa using hf
  have HF := Kept.mk hfe
  clear hf hfe
  go_enter Try.func16, Try.ntmps16
  go_wp2_with (go_at_call 40; refine (check_ N C An Ac Au Av kn kc ku kv up votes _ HA1.out).mono ?_; rintro e w1 ⟨rfl, hb1⟩; rw [HF.out]; have HD1 := Kept.mk (join HG.out hb1); clear hb1)
  go_ret3
  exact ⟨rfl, HD1.out⟩
set_option maxRecDepth 100000 in
set_option maxHeartbeats 4000000 in
theorem Run_most (N : List Nd) (C : List Cb) (An Ac Au Av : Option Addr) (kn kc ku kv : Nat) (up : List Bool) (votes : List Vt) (most : Int) (w : World) (h : ArgsAt w N C An Ac Au Av kn kc ku kv up votes) (hf : faultE N C up votes = 0) (hm : most < 0 ∨ 1000 < most) :
    Calls Try.prog 16 #[.agg #[.slice An N.length kn, .slice Ac C.length kc], .slice Au up.length ku, .slice Av votes.length kv, .int .i64 most] w (RunBad w 5) := by
  have HG : Kept (Below w.heap.size w (w.alloc (.cells #[.slice An N.length kn, .slice Ac C.length kc] 32))) := ⟨(Below.refl _ _).alloc (Nat.le_refl _) _⟩
  have HA1 := Kept.mk (h.new_ HG.out)
  have HF := Kept.mk hf
  clear h hf
  by_cases h1 : most < 0
  · have d1 := decide_eq_true h1
    go_enter Try.func16, Try.ntmps16
    go_wp2_with (go_at_call 40; refine (check_ N C An Ac Au Av kn kc ku kv up votes _ HA1.out).mono ?_; rintro e w1 ⟨rfl, hb1⟩; rw [HF.out]; have HD1 := Kept.mk (join HG.out hb1); clear hb1)
    go_ret3
    exact ⟨rfl, HD1.out⟩
  · have d1 := decide_eq_false h1
    have d2 : decide (1000 < most) = true := decide_eq_true (by omega)
    go_enter Try.func16, Try.ntmps16
    go_wp2_with (go_at_call 40; refine (check_ N C An Ac Au Av kn kc ku kv up votes _ HA1.out).mono ?_; rintro e w1 ⟨rfl, hb1⟩; rw [HF.out]; have HD1 := Kept.mk (join HG.out hb1); clear hb1)
    go_ret3
    exact ⟨rfl, HD1.out⟩
set_option maxRecDepth 100000 in
set_option maxHeartbeats 8000000 in
theorem Run_ok (N : List Nd) (C : List Cb) (An Ac Au Av : Option Addr) (kn kc ku kv : Nat) (up : List Bool) (votes : List Vt) (most : Nat) (w : World) (h : ArgsAt w N C An Ac Au Av kn kc ku kv up votes) (hf : faultE N C up votes = 0) (hm : most ≤ 1000) :
    Calls Try.prog 16 #[.agg #[.slice An N.length kn, .slice Ac C.length kc], .slice Au up.length ku, .slice Av votes.length kv, .int .i64 (most : Int)] w (RunR w C up votes most) := by
  have HG : Kept (Below w.heap.size w (w.alloc (.cells #[.slice An N.length kn, .slice Ac C.length kc] 32))) := ⟨(Below.refl _ _).alloc (Nat.le_refl _) _⟩
  have HA1 := Kept.mk (h.new_ HG.out)
  have HB := Kept.mk (Blk.new w 32 #[.slice An N.length kn, .slice Ac C.length kc])
  have HF := Kept.mk hf
  have hvl := h.vl
  have d1 : decide ((most : Int) < 0) = false := decide_eq_false (by omega)
  have d2 : decide ((1000 : Int) < most) = false := decide_eq_false (by omega)
  clear h hf
  go_enter Try.func16, Try.ntmps16
  go_wp2_with (go_at_call 40; refine (check_ N C An Ac Au Av kn kc ku kv up votes _ HA1.out).mono ?_; rintro e w1 ⟨rfl, hb1⟩; rw [HF.out]; have HB1 := Kept.mk (HB.out.new_ hb1); have HA2 := Kept.mk (HA1.out.new_ hb1); have HD1 := Kept.mk (join HG.out hb1); clear hb1)
  refine (cloneV_c Av kv votes _ _ HA2.out.v (Nat.le_refl _) hvl).mono ?_
  rintro e w2 ⟨v, rfl, ho, hb2⟩
  obtain ⟨A0, k0, rfl⟩ := own_slice ho
  have HR0 := Kept.mk (RowsAt.of_own ho vcell_len (by omega) rfl)
  have HK0 := Kept.mk (own_cap ho)
  have HB2 := Kept.mk (HB1.out.new_ hb2)
  have HA3 := Kept.mk (HA2.out.new_ hb2)
  have HD2 := Kept.mk (join HD1.out hb2)
  clear ho hb2
  go_wp2_with fail
  go_loopw [9, 12] (fun v9 v12 wr => ∃ (r : Nat) (A : Option Addr) (kap : Nat), r ≤ most ∧ v9 = .int .i64 r ∧ v12 = .slice A votes.length kap ∧ Kept (votes.length ≤ kap ∧ kap ≤ maxLen) ∧ Kept (∀ j, j < r → ¬ StableAt C up votes j) ∧ Kept (RowsAt wr wr.heap.size 3 vcell A (roundsP C up votes r)) ∧ Kept (Blk wr w.heap.size 32 #[.slice An N.length kn, .slice Ac C.length kc]) ∧ Kept (ArgsAt wr N C An Ac Au Av kn kc ku kv up votes) ∧ Kept (Below w.heap.size w wr)) (fun v9 _ _ => most - (intOf v9).toNat)
  case atStart => exact ⟨0, A0, k0, Nat.zero_le _, rfl, rfl, HK0, ⟨fun j hj => absurd hj (by omega)⟩, HR0, HB2, HA3, HD2⟩
  case round =>
    clear HR0 HK0 HB2 HA3 HD2
    obtain ⟨r, A, kap, hr, rfl, rfl, HK, HNS, HR, HB2, HA3, HD2⟩ := hrel
    have k0 := HB2.out.cell 0 (v := .slice An N.length kn) rfl
    have k1 := HB2.out.cell 1 (v := .slice Ac C.length kc) rfl
    have z1 := HB2.out.lt
    have HFR := Kept.mk (fault_rounds HF.out r)
    have HLR := Kept.mk (roundsP_len C up votes r)
    have HLR2 := Kept.mk (roundsP_len C up votes (r + 1))
    by_cases hs : StableAt C up votes r
    · have HS := Kept.mk hs
      have HI := Kept.mk (fun i : Decidable (roundP C up (roundsP C up votes r) = roundsP C up votes r) => @decide_eq_true _ i hs)
      clear hs
      go_wp2_with (first | (go_at_call 41; refine (round_n N C An Ac Au A kn kc ku kap votes.length up (roundsP C up votes r) _ HA3.out.p HA3.out.u HR.out HLR.out HFR.out).mono ?_; rintro e w3 ⟨A3, k3, rfl, hr3, hk3, hk4, hb3⟩; have HR3 := Kept.mk hr3; have HRO := Kept.mk (HR.out.new_ hb3); have HD3 := Kept.mk (join HD2.out hb3); clear hr3 hk3 hk4 hb3) | (go_at_call 19; refine (equal_n _ (roundsP C up votes r) _ A _ kap votes.length _ _ _ HR3.out HRO.out HLR2.out HLR.out hvl).mono ?_; rintro e w4 ⟨rfl, hb4⟩; rw [HI.out]; have HR4 := Kept.mk (HRO.out.new_ hb4); have HD4 := Kept.mk (join HD3.out hb4); clear hb4))
      go_ret3
      exact ⟨A, kap, r, 0, rfl, hr, HNS.out, .inl ⟨HS.out, rfl⟩, HR4.out, HK.out.1, HK.out.2, HD4.out⟩
    · have HS := Kept.mk hs
      have HI := Kept.mk (fun i : Decidable (roundP C up (roundsP C up votes r) = roundsP C up votes r) => @decide_eq_false _ i hs)
      clear hs
      by_cases hrm : r = most
      · have q : ((r : Int) == (most : Int)) = true := by simp; omega
        have HRM := Kept.mk hrm
        clear hrm
        go_wp2_with (first | (go_at_call 41; refine (round_n N C An Ac Au A kn kc ku kap votes.length up (roundsP C up votes r) _ HA3.out.p HA3.out.u HR.out HLR.out HFR.out).mono ?_; rintro e w3 ⟨A3, k3, rfl, hr3, hk3, hk4, hb3⟩; have HR3 := Kept.mk hr3; have HRO := Kept.mk (HR.out.new_ hb3); have HD3 := Kept.mk (join HD2.out hb3); clear hr3 hk3 hk4 hb3) | (go_at_call 19; refine (equal_n _ (roundsP C up votes r) _ A _ kap votes.length _ _ _ HR3.out HRO.out HLR2.out HLR.out hvl).mono ?_; rintro e w4 ⟨rfl, hb4⟩; rw [HI.out]; have HR4 := Kept.mk (HRO.out.new_ hb4); have HD4 := Kept.mk (join HD3.out hb4); clear hb4))
        go_ret3
        exact ⟨A, kap, r, 15, rfl, hr, HNS.out, .inr ⟨HS.out, HRM.out, rfl⟩, HR4.out, HK.out.1, HK.out.2, HD4.out⟩
      · have q : ((r : Int) == (most : Int)) = false := by simp; omega
        have hrlt : r < most := by omega
        clear hrm
        go_wp2_with (first | (go_at_call 41; refine (round_n N C An Ac Au A kn kc ku kap votes.length up (roundsP C up votes r) _ HA3.out.p HA3.out.u HR.out HLR.out HFR.out).mono ?_; rintro e w3 ⟨A3, k3, rfl, hr3, hk3, hk4, hb3⟩; have HR3 := Kept.mk hr3; have HKK := Kept.mk (And.intro hk3 hk4); have HRO := Kept.mk (HR.out.new_ hb3); have HB3 := Kept.mk (HB2.out.new_ hb3); have HA4 := Kept.mk (HA3.out.new_ hb3); have HD3 := Kept.mk (join HD2.out hb3); clear hr3 hk3 hk4 hb3) | (go_at_call 19; refine (equal_n _ (roundsP C up votes r) _ A _ kap votes.length _ _ _ HR3.out HRO.out HLR2.out HLR.out hvl).mono ?_; rintro e w4 ⟨rfl, hb4⟩; rw [HI.out]; have HR4 := Kept.mk (HR3.out.new_ hb4); have HB4 := Kept.mk (HB3.out.new_ hb4); have HA5 := Kept.mk (HA4.out.new_ hb4); have HD4 := Kept.mk (join HD3.out hb4); clear hb4))
        go_roundw
        case rel => exact ⟨r + 1, A3, k3, by omega, by go_num, rfl, HKK, ⟨fun j hj => by
          rcases (by omega : j < r ∨ j = r) with h | rfl
          · exact HNS.out j h
          · exact HS.out⟩, HR4, HB4, HA5, HD4⟩
        case measure => simp [intOf]; omega
end Go.Proofs.Ytckigonkcjceeaa
