/- For all plans, cables that are up, votes and bounds the statement ElectionRuns returns true: Run returns the specified votes, number of rounds and error. No condition. -/
import Derived.Test.YtckigonkcjceeaaEBase
import Derived.Test.YtckigonkcjceeaaERefRun
namespace Go.Proofs.Ytckigonkcjceeaa
open Go.ChangeShapes Go.WideShapes Go.ChangeAt Go.RowKit
set_option linter.unusedVariables false
set_option linter.unusedSimpArgs false
theorem ArgsAt.swap {W : World} {N : List Nd} {C : List Cb} {An Ac Au Av Ab : Option Addr} {kn kc ku kv : Nat} {up : List Bool} {votes : List Vt} (h : ArgsAt W N C An Ac Au Av kn kc ku kv up votes) (hb : RowsAt W W.heap.size 3 vcell Ab votes) (kb : Nat) : ArgsAt W N C An Ac Au Ab kn kc ku kb up votes := ⟨h.p, h.u, hb, h.ul, h.vl⟩
theorem decT {α : Type} (x : α) (i : Decidable (x = x)) : @decide (x = x) i = true := @decide_eq_true _ i rfl
theorem runs_agree {C : List Cb} {up : List Bool} {votes : List Vt} {most r r' : Nat} {err : Int} {ok : Bool} (h1 : r ≤ most) (h2 : ∀ j, j < r → ¬ StableAt C up votes j) (h3 : StableAt C up votes r ∧ err = 0 ∨ ¬ StableAt C up votes r ∧ r = most ∧ err = 15)
    (g1 : r' ≤ most) (g2 : ∀ j, j < r' → ¬ StableAt C up votes j) (g3 : StableAt C up votes r' ∧ ok = true ∨ ¬ StableAt C up votes r' ∧ r' = most ∧ ok = false) : r' = r ∧ (ok = true ∧ err = 0 ∧ StableAt C up votes r ∨ ok = false ∧ err = 15 ∧ ¬ StableAt C up votes r) := by
  rcases h3 with ⟨h3, h4⟩ | ⟨h3, h4, h5⟩
  · rcases g3 with ⟨g3, g4⟩ | ⟨g3, g4, g5⟩
    · have e : r' = r := by
        rcases Nat.lt_trichotomy r' r with h | h | h
        · exact absurd g3 (h2 _ h)
        · exact h
        · exact absurd h3 (g2 _ h)
      exact ⟨e, .inl ⟨g4, h4, h3⟩⟩
    · rcases Nat.lt_trichotomy r' r with h | h | h
      · omega
      · exact absurd h3 (h ▸ g3)
      · exact absurd h3 (g2 _ h)
  · rcases g3 with ⟨g3, g4⟩ | ⟨g3, g4, g5⟩
    · rcases Nat.lt_or_ge r' r with h | h
      · exact absurd g3 (h2 _ h)
      · have : r' = r := by omega
        exact absurd (this ▸ g3) h3
    · exact ⟨by omega, .inr ⟨g5, h5, h3⟩⟩
/-- What stands in memory while the results are compared. -/
structure R4 (w0 W : World) (N : List Nd) (C : List Cb) (An Ac Au Av Ag : Option Addr) (kn kc ku kv : Nat) (up : List Bool) (votes R : List Vt) : Prop where
  args : ArgsAt W N C An Ac Au Av kn kc ku kv up votes
  box : Blk W w0.heap.size 32 #[.slice An N.length kn, .slice Ac C.length kc]
  bel : Below w0.heap.size w0 W
  got : RowsAt W W.heap.size 3 vcell Ag R
theorem R4.new_ {w0 W W' : World} {N : List Nd} {C : List Cb} {An Ac Au Av Ag : Option Addr} {kn kc ku kv : Nat} {up : List Bool} {votes R : List Vt} (h : R4 w0 W N C An Ac Au Av Ag kn kc ku kv up votes R) (hb : Below W.heap.size W W') : R4 w0 W' N C An Ac Au Av Ag kn kc ku kv up votes R :=
  ⟨h.args.new_ hb, h.box.new_ hb, join h.bel hb, h.got.new_ hb⟩
instance stDec (C : List Cb) (up : List Bool) (votes : List Vt) (r : Nat) : Decidable (StableAt C up votes r) := by unfold StableAt; infer_instance
theorem stable_rounds {N : List Nd} {C : List Cb} {up : List Bool} {votes : List Vt} {r : Nat} (hf : faultE N C up votes = 0) : stableB N C up (roundsP C up votes r) = decide (StableAt C up votes r) := by
  unfold stableB StableAt
  rw [decide_eq_true (fault_rounds hf r)]; rfl
theorem Stable_n (N : List Nd) (C : List Cb) (An Ac Au Av : Option Addr) (kn kc ku kv n : Nat) (up : List Bool) (votes : List Vt) (w : World) (h : ArgsAt w N C An Ac Au Av kn kc ku kv up votes) (hl : votes.length = n) :
    Calls Try.prog 22 #[.agg #[.slice An N.length kn, .slice Ac C.length kc], .slice Au up.length ku, .slice Av n kv] w fun e w' => e = .returned (.bool (stableB N C up votes)) ∧ Below w.heap.size w w' := by
  subst hl; exact Stable_ N C An Ac Au Av kn kc ku kv up votes w h
theorem refRun_n (N : List Nd) (C : List Cb) (An Ac Au Av : Option Addr) (kn kc ku kv n : Nat) (up : List Bool) (votes : List Vt) (most : Nat) (w : World) (h : ArgsAt w N C An Ac Au Av kn kc ku kv up votes) (hf : faultE N C up votes = 0) (hm : most ≤ 1000) (hl : votes.length = n) :
    Calls Try.prog 23 #[.agg #[.slice An N.length kn, .slice Ac C.length kc], .slice Au up.length ku, .slice Av n kv, .int .i64 (most : Int)] w (RefRunR w C up votes most) := by
  subst hl; exact refRun_ N C An Ac Au Av kn kc ku kv up votes most w h hf hm
set_option maxRecDepth 100000 in
set_option maxHeartbeats 16000000 in
theorem runs_walk (N : List Nd) (C : List Cb) (An Ac Au Av : Option Addr) (kn kc ku kv : Nat) (up : List Bool) (votes : List Vt) (most : Int) (w : World) (hp : PlanAt w w.heap.size ⟨N, C, An, kn, Ac, kc⟩) (hu : RowsAt w w.heap.size 1 bcell1 Au up) (hku : up.length ≤ ku) (hku2 : ku ≤ maxLen) (hv : RowsAt w w.heap.size 3 vcell Av votes) (hkv : votes.length ≤ kv) (hkv2 : kv ≤ maxLen) :
    Calls Try.prog 5 #[.agg #[.slice An N.length kn, .slice Ac C.length kc], .slice Au up.length ku, .slice Av votes.length kv, .int .i64 most] w fun e w' => e = .returned (.bool true) ∧ Below w.heap.size w w' := by
  have HP := Kept.mk hp
  have HU := Kept.mk hu
  have HV := Kept.mk hv
  obtain ⟨L1, L2⟩ := hp.len
  simp only at L1 L2
  have L3 : up.length ≤ 9223372036854775807 := by unfold maxLen at hku2; omega
  have L4 : votes.length ≤ 9223372036854775807 := by unfold maxLen at hkv2; omega
  clear hp hu hku hku2 hv hkv hkv2
  have HB := Kept.mk (Blk.new w 32 #[.slice An N.length kn, .slice Ac C.length kc])
  have HG : Kept (Below w.heap.size w (w.alloc (.cells #[.slice An N.length kn, .slice Ac C.length kc] 32))) := ⟨(Below.refl _ _).alloc (Nat.le_refl _) _⟩
  go_enter Try.func5, Try.ntmps5
  go_wp2_with (go_at_call 11; refine (awake_c _).mono ?_; rintro e w1 ⟨rfl, hb1⟩; have HB1 := Kept.mk (HB.out.new_ hb1); have HD1 := Kept.mk (join HG.out hb1); clear hb1; have k0 := HB1.out.cell 0 (v := .slice An N.length kn) rfl; have k1 := HB1.out.cell 1 (v := .slice Ac C.length kc) rfl; have z1 := HB1.out.lt)
  refine (great_ N.length C.length up.length votes.length An Ac Au Av kn kc ku kv _ L1 L2 L3 L4).mono ?_
  rintro e w2 ⟨rfl, hb2⟩
  have HB2 := Kept.mk (HB1.out.new_ hb2)
  have HD2 := Kept.mk (join HD1.out hb2)
  clear hb2 k0 k1 z1
  have k0 := HB2.out.cell 0 (v := .slice An N.length kn) rfl
  have k1 := HB2.out.cell 1 (v := .slice Ac C.length kc) rfl
  have z1 := HB2.out.lt
  cases hgr : greatB N.length C.length up.length votes.length with
  | true =>
    go_wp2_with fail
    go_ret
    exact ⟨rfl, HD2.out⟩
  | false =>
    obtain ⟨g1, g2, g3, g4⟩ := great_no hgr
    have HA2 : Kept (ArgsAt w2 N C An Ac Au Av kn kc ku kv up votes) := ⟨HP.out.new_ HD2.out, HU.out.new_ HD2.out, HV.out.new_ HD2.out, by omega, by omega⟩
    by_cases hm1 : 30 < most ∧ most ≤ 1000
    · have d1 := decide_eq_true hm1.1
      have d2 := decide_eq_true hm1.2
      clear hm1
      go_wp2_with fail
      go_ret
      exact ⟨rfl, HD2.out⟩
    by_cases hf : faultE N C up votes = 0
    · have HF := Kept.mk hf
      by_cases hm2 : most < 0 ∨ 1000 < most
      · have HM := Kept.mk hm2
        by_cases hm3 : 1000 < most
        · have d1 : decide (30 < most) = true := decide_eq_true (by omega)
          have d2 : decide (most ≤ 1000) = false := decide_eq_false (by omega)
          have d3 : decide (most < 0) = false := decide_eq_false (by omega)
          have d4 : decide (1000 < most) = true := decide_eq_true (by omega)
          clear hf hm1 hm2 hm3
          go_wp2_with (go_at_call 16; refine (Run_most N C An Ac Au Av kn kc ku kv up votes most _ HA2.out HF.out HM.out).mono ?_; rintro e w3 ⟨rfl, hb3⟩; have HA3 := Kept.mk (HA2.out.new_ hb3); have HB3 := Kept.mk (HB2.out.new_ hb3); have HD3 := Kept.mk (join HD2.out hb3); clear hb3; clear k0 k1 z1; have k0 := HB3.out.cell 0 (v := .slice An N.length kn) rfl; have k1 := HB3.out.cell 1 (v := .slice Ac C.length kc) rfl; have z1 := HB3.out.lt)
          have HA3d := Kept.mk (HA3.out.new_ (bdrew (Below.refl _ _)))
          have HB3d := Kept.mk (HB3.out.new_ (bdrew (Below.refl _ _)))
          have HD3d := Kept.mk (bdrew HD3.out)
          clear k0 k1 z1
          go_region_held3 (fun w' => w'.cell? ⟨w.heap.size, 0, none⟩ = some (.slice An N.length kn) ∧ w'.cell? ⟨w.heap.size, 1, none⟩ = some (.slice Ac C.length kc)) (first | exact ⟨HB3d.out.cell 0 rfl, HB3d.out.cell 1 rfl⟩ | exact ⟨HB4.out.cell 0 rfl, HB4.out.cell 1 rfl⟩ | exact ⟨HB5.out.cell 0 rfl, HB5.out.cell 1 rfl⟩) (first | (go_at_call 21; refine (plain_n Av kv votes.length votes _ HA3d.out.v rfl (by omega)).mono ?_; rintro e w4 ⟨Ab, kb, rfl, hr4, hb4⟩; have HA4 := Kept.mk (HA3d.out.new_ hb4); have HB4 := Kept.mk (HB3d.out.new_ hb4); have HD4 := Kept.mk (join HD3d.out hb4); have HAS4 := Kept.mk (HA4.out.swap hr4 kb); clear hr4 hb4) | (go_at_call 20; refine (Fault_ N C An Ac Au Ab kn kc ku kb up votes _ HAS4.out).mono ?_; rintro e w5 ⟨rfl, hb5⟩; rw [HF.out]; have HA5 := Kept.mk (HA4.out.new_ hb5); have HB5 := Kept.mk (HB4.out.new_ hb5); have HD5 := Kept.mk (join HD4.out hb5); clear hb5))
          have k0 := HB5.out.cell 0 (v := .slice An N.length kn) rfl
          have k1 := HB5.out.cell 1 (v := .slice Ac C.length kc) rfl
          have z1 := HB5.out.lt
          go_wp2_with fail
          go_ret
          exact ⟨rfl, HD5.out⟩
        · have d1 : decide (30 < most) = false := decide_eq_false (by omega)
          have d3 : decide (most < 0) = true := decide_eq_true (by omega)
          clear hf hm1 hm2 hm3
          go_wp2_with (go_at_call 16; refine (Run_most N C An Ac Au Av kn kc ku kv up votes most _ HA2.out HF.out HM.out).mono ?_; rintro e w3 ⟨rfl, hb3⟩; have HA3 := Kept.mk (HA2.out.new_ hb3); have HB3 := Kept.mk (HB2.out.new_ hb3); have HD3 := Kept.mk (join HD2.out hb3); clear hb3; clear k0 k1 z1; have k0 := HB3.out.cell 0 (v := .slice An N.length kn) rfl; have k1 := HB3.out.cell 1 (v := .slice Ac C.length kc) rfl; have z1 := HB3.out.lt)
          have HA3d := Kept.mk (HA3.out.new_ (bdrew (Below.refl _ _)))
          have HB3d := Kept.mk (HB3.out.new_ (bdrew (Below.refl _ _)))
          have HD3d := Kept.mk (bdrew HD3.out)
          clear k0 k1 z1
          go_region_held3 (fun w' => w'.cell? ⟨w.heap.size, 0, none⟩ = some (.slice An N.length kn) ∧ w'.cell? ⟨w.heap.size, 1, none⟩ = some (.slice Ac C.length kc)) (first | exact ⟨HB3d.out.cell 0 rfl, HB3d.out.cell 1 rfl⟩ | exact ⟨HB4.out.cell 0 rfl, HB4.out.cell 1 rfl⟩ | exact ⟨HB5.out.cell 0 rfl, HB5.out.cell 1 rfl⟩) (first | (go_at_call 21; refine (plain_n Av kv votes.length votes _ HA3d.out.v rfl (by omega)).mono ?_; rintro e w4 ⟨Ab, kb, rfl, hr4, hb4⟩; have HA4 := Kept.mk (HA3d.out.new_ hb4); have HB4 := Kept.mk (HB3d.out.new_ hb4); have HD4 := Kept.mk (join HD3d.out hb4); have HAS4 := Kept.mk (HA4.out.swap hr4 kb); clear hr4 hb4) | (go_at_call 20; refine (Fault_ N C An Ac Au Ab kn kc ku kb up votes _ HAS4.out).mono ?_; rintro e w5 ⟨rfl, hb5⟩; rw [HF.out]; have HA5 := Kept.mk (HA4.out.new_ hb5); have HB5 := Kept.mk (HB4.out.new_ hb5); have HD5 := Kept.mk (join HD4.out hb5); clear hb5))
          have k0 := HB5.out.cell 0 (v := .slice An N.length kn) rfl
          have k1 := HB5.out.cell 1 (v := .slice Ac C.length kc) rfl
          have z1 := HB5.out.lt
          go_wp2_with fail
          go_ret
          exact ⟨rfl, HD5.out⟩
      · obtain ⟨mo, rfl⟩ : ∃ mo : Nat, most = mo := ⟨most.toNat, by omega⟩
        have hmo : mo ≤ 1000 := by omega
        have d1 : decide ((30 : Int) < mo) = false := decide_eq_false (by omega)
        have d3 : decide ((mo : Int) < 0) = false := decide_eq_false (by omega)
        have d4 : decide ((1000 : Int) < mo) = false := decide_eq_false (by omega)
        clear hf hm1 hm2
        go_wp2_with (go_at_call 16; refine (Run_ok N C An Ac Au Av kn kc ku kv up votes mo _ HA2.out HF.out hmo).mono ?_; rintro e w3 ⟨Ag, kg, r, err, rfl, r1, r2, r3, hr3, hr4, hr5, hb3⟩; have HR3 := Kept.mk hr3; have R1 := Kept.mk r1; have R2 := Kept.mk r2; have R3 := Kept.mk r3; have HK3 := Kept.mk (And.intro hr4 hr5); clear hr3 hr4 hr5 r1 r2 r3; have HA3 := Kept.mk (HA2.out.new_ hb3); have HB3 := Kept.mk (HB2.out.new_ hb3); have HD3 := Kept.mk (join HD2.out hb3); clear hb3; clear k0 k1 z1; have k0 := HB3.out.cell 0 (v := .slice An N.length kn) rfl; have k1 := HB3.out.cell 1 (v := .slice Ac C.length kc) rfl; have z1 := HB3.out.lt)

        have HS3 : Kept (R4 w w3 N C An Ac Au Av Ag kn kc ku kv up votes (roundsP C up votes r)) := ⟨HA3.out, HB3.out, HD3.out, HR3.out⟩
        have HS3d := Kept.mk (HS3.out.new_ (bdrew (Below.refl _ _)))
        have HLR := Kept.mk (roundsP_len C up votes r)
        clear k0 k1 z1
        go_region_held3 (fun w' => w'.cell? ⟨w.heap.size, 0, none⟩ = some (.slice An N.length kn) ∧ w'.cell? ⟨w.heap.size, 1, none⟩ = some (.slice Ac C.length kc)) (first | exact ⟨HS3d.out.box.cell 0 rfl, HS3d.out.box.cell 1 rfl⟩ | exact ⟨HS4.out.box.cell 0 rfl, HS4.out.box.cell 1 rfl⟩ | exact ⟨HS5.out.box.cell 0 rfl, HS5.out.box.cell 1 rfl⟩) (first | (go_at_call 21; refine (plain_n Av kv votes.length votes _ HS3d.out.args.v rfl (by omega)).mono ?_; rintro e w4 ⟨Ab, kb, rfl, hr4, hb4⟩; have HS4 := Kept.mk (HS3d.out.new_ hb4); have HAS4 := Kept.mk (HS4.out.args.swap hr4 kb); clear hr4 hb4) | (go_at_call 20; refine (Fault_ N C An Ac Au Ab kn kc ku kb up votes _ HAS4.out).mono ?_; rintro e w5 ⟨rfl, hb5⟩; rw [HF.out]; have HS5 := Kept.mk (HS4.out.new_ hb5); clear hb5))
        have k0 := HS5.out.box.cell 0 (v := .slice An N.length kn) rfl
        have k1 := HS5.out.box.cell 1 (v := .slice Ac C.length kc) rfl
        have z1 := HS5.out.box.lt
        go_wp2_with fail
        have HS5d := Kept.mk (HS5.out.new_ (bdrew (Below.refl _ _)))
        clear k0 k1 z1
        go_region_held3 (fun w' => w'.cell? ⟨w.heap.size, 0, none⟩ = some (.slice An N.length kn) ∧ w'.cell? ⟨w.heap.size, 1, none⟩ = some (.slice Ac C.length kc)) (first | exact ⟨HS5d.out.box.cell 0 rfl, HS5d.out.box.cell 1 rfl⟩ | exact ⟨HS6.out.box.cell 0 rfl, HS6.out.box.cell 1 rfl⟩ | exact ⟨HS7.out.box.cell 0 rfl, HS7.out.box.cell 1 rfl⟩) (first | (go_at_call 21; refine (plain_n Av kv votes.length votes _ HS5d.out.args.v rfl (by omega)).mono ?_; rintro e w6 ⟨Ac2, kc2, rfl, hr6, hb6⟩; have HS6 := Kept.mk (HS5d.out.new_ hb6); have HAS6 := Kept.mk (HS6.out.args.swap hr6 kc2); clear hr6 hb6) | (go_at_call 23; refine (refRun_n N C An Ac Au Ac2 kn kc ku kc2 votes.length up votes mo _ HAS6.out HF.out hmo rfl).mono ?_; rintro e w7 ⟨A7, k7, r', ok, rfl, t1, t2, t3, hr7, hb7⟩; obtain ⟨rfl, hag⟩ := runs_agree R1.out R2.out R3.out t1 t2 t3; have HAG := Kept.mk hag; have P7 := Kept.mk hr7; have HS7 := Kept.mk (HS6.out.new_ hb7); clear t1 t2 t3 hr7 hb7 hag))
        have k0 := HS7.out.box.cell 0 (v := .slice An N.length kn) rfl
        have k1 := HS7.out.box.cell 1 (v := .slice Ac C.length kc) rfl
        have z1 := HS7.out.box.lt
        have tk8 : True := trivial
        rcases HAG.out with ⟨rfl, rfl, hst⟩ | ⟨rfl, rfl, hst⟩
        · have HST : Kept (stableB N C up (roundsP C up votes r') = true) := ⟨by rw [stable_rounds HF.out]; exact decide_eq_true hst⟩
          clear hst
          go_wp2_with (first | (go_at_call 21; refine (plain_n Ag kg votes.length (roundsP C up votes r') _ HS7.out.got HLR.out (by omega)).mono ?_; rintro e w8 ⟨A8, k8, rfl, hr8, hb8⟩; have P8 := Kept.mk hr8; have P7b := Kept.mk (P7.out.new_ hb8); have HS8 := Kept.mk (HS7.out.new_ hb8); clear hr8 hb8 k0 k1 z1; have k0 := HS8.out.box.cell 0 (v := .slice An N.length kn) rfl; have k1 := HS8.out.box.cell 1 (v := .slice Ac C.length kc) rfl; have z1 := HS8.out.box.lt) | (go_at_call 24; refine (same_n (roundsP C up votes r') (roundsP C up votes r') A8 A7 k8 k7 votes.length _ _ _ P8.out P7b.out HLR.out HLR.out (by omega)).mono ?_; rintro e w9 ⟨rfl, hb9⟩; rw [decT]; have HS9 := Kept.mk (HS8.out.new_ hb9); clear hb9 k0 k1 z1; have k0 := HS9.out.box.cell 0 (v := .slice An N.length kn) rfl; have k1 := HS9.out.box.cell 1 (v := .slice Ac C.length kc) rfl; have z1 := HS9.out.box.lt) | (go_at_call 22; refine (Stable_n N C An Ac Au Ag kn kc ku kg votes.length up (roundsP C up votes r') _ ⟨HS9.out.args.p, HS9.out.args.u, HS9.out.got, HS9.out.args.ul, by rw [HLR.out]; omega⟩ HLR.out).mono ?_; rintro e w10 ⟨rfl, hb10⟩; rw [HST.out]; have HS10 := Kept.mk (HS9.out.new_ hb10); clear hb10))
          go_ret
          exact ⟨rfl, HS10.out.bel⟩
        · have HST : Kept (stableB N C up (roundsP C up votes r') = false) := ⟨by rw [stable_rounds HF.out]; exact decide_eq_false hst⟩
          clear hst
          go_wp2_with (first | (go_at_call 21; refine (plain_n Ag kg votes.length (roundsP C up votes r') _ HS7.out.got HLR.out (by omega)).mono ?_; rintro e w8 ⟨A8, k8, rfl, hr8, hb8⟩; have P8 := Kept.mk hr8; have P7b := Kept.mk (P7.out.new_ hb8); have HS8 := Kept.mk (HS7.out.new_ hb8); clear hr8 hb8 k0 k1 z1; have k0 := HS8.out.box.cell 0 (v := .slice An N.length kn) rfl; have k1 := HS8.out.box.cell 1 (v := .slice Ac C.length kc) rfl; have z1 := HS8.out.box.lt) | (go_at_call 24; refine (same_n (roundsP C up votes r') (roundsP C up votes r') A8 A7 k8 k7 votes.length _ _ _ P8.out P7b.out HLR.out HLR.out (by omega)).mono ?_; rintro e w9 ⟨rfl, hb9⟩; rw [decT]; have HS9 := Kept.mk (HS8.out.new_ hb9); clear hb9 k0 k1 z1; have k0 := HS9.out.box.cell 0 (v := .slice An N.length kn) rfl; have k1 := HS9.out.box.cell 1 (v := .slice Ac C.length kc) rfl; have z1 := HS9.out.box.lt) | (go_at_call 22; refine (Stable_n N C An Ac Au Ag kn kc ku kg votes.length up (roundsP C up votes r') _ ⟨HS9.out.args.p, HS9.out.args.u, HS9.out.got, HS9.out.args.ul, by rw [HLR.out]; omega⟩ HLR.out).mono ?_; rintro e w10 ⟨rfl, hb10⟩; rw [HST.out]; have HS10 := Kept.mk (HS9.out.new_ hb10); clear hb10))
          go_ret
          exact ⟨rfl, HS10.out.bel⟩
    · obtain ⟨f, hfe⟩ : ∃ f, faultE N C up votes = f := ⟨_, rfl⟩
      have HN := Kept.mk hf
      have h12 : f = 1 ∨ f = 2 := by rcases fe_cases (N := N) (C := C) (up := up) (votes := votes) with h | h | h <;> omega
      have HS : Kept (stableB N C up votes = false) := ⟨by unfold stableB; rw [decide_eq_false hf]; rfl⟩
      have HF := Kept.mk hfe
      have hm4 : decide (30 < most) = false ∨ (decide (30 < most) = true ∧ decide (most ≤ 1000) = false) := by
        by_cases h : 30 < most
        · exact .inr ⟨decide_eq_true h, decide_eq_false (by omega)⟩
        · exact .inl (decide_eq_false h)
      have q1 : (f == 0) = false := beq_false_of_ne (by omega)
      have q2 : (f != 0) = true := by simp; omega
      have q3 : (f == 5) = false := beq_false_of_ne (by omega)
      clear hf hfe hm1 h12
      rcases hm4 with d1 | ⟨d1, d2⟩
      all_goals
        go_wp2_with (go_at_call 16; refine (Run_bad N C An Ac Au Av kn kc ku kv up votes most _ HA2.out HN.out).mono ?_; rintro e w3 ⟨rfl, hb3⟩; rw [HF.out]; have HA3 := Kept.mk (HA2.out.new_ hb3); have HB3 := Kept.mk (HB2.out.new_ hb3); have HD3 := Kept.mk (join HD2.out hb3); clear hb3; clear k0 k1 z1; have k0 := HB3.out.cell 0 (v := .slice An N.length kn) rfl; have k1 := HB3.out.cell 1 (v := .slice Ac C.length kc) rfl; have z1 := HB3.out.lt)
        have HA3d := Kept.mk (HA3.out.new_ (bdrew (Below.refl _ _)))
        have HB3d := Kept.mk (HB3.out.new_ (bdrew (Below.refl _ _)))
        have HD3d := Kept.mk (bdrew HD3.out)
        clear k0 k1 z1
        go_region_held3 (fun w' => w'.cell? ⟨w.heap.size, 0, none⟩ = some (.slice An N.length kn) ∧ w'.cell? ⟨w.heap.size, 1, none⟩ = some (.slice Ac C.length kc)) (first | exact ⟨HB3d.out.cell 0 rfl, HB3d.out.cell 1 rfl⟩ | exact ⟨HB4.out.cell 0 rfl, HB4.out.cell 1 rfl⟩ | exact ⟨HB5.out.cell 0 rfl, HB5.out.cell 1 rfl⟩) (first | (go_at_call 21; refine (plain_n Av kv votes.length votes _ HA3d.out.v rfl (by omega)).mono ?_; rintro e w4 ⟨Ab, kb, rfl, hr4, hb4⟩; have HA4 := Kept.mk (HA3d.out.new_ hb4); have HB4 := Kept.mk (HB3d.out.new_ hb4); have HD4 := Kept.mk (join HD3d.out hb4); have HAS4 := Kept.mk (HA4.out.swap hr4 kb); clear hr4 hb4) | (go_at_call 20; refine (Fault_ N C An Ac Au Ab kn kc ku kb up votes _ HAS4.out).mono ?_; rintro e w5 ⟨rfl, hb5⟩; rw [HF.out]; have HA5 := Kept.mk (HA4.out.new_ hb5); have HB5 := Kept.mk (HB4.out.new_ hb5); have HD5 := Kept.mk (join HD4.out hb5); clear hb5))
        have k0 := HB5.out.cell 0 (v := .slice An N.length kn) rfl
        have k1 := HB5.out.cell 1 (v := .slice Ac C.length kc) rfl
        have z1 := HB5.out.lt
        go_wp2_with (go_at_call 22; refine (Stable_ N C An Ac Au Av kn kc ku kv up votes _ HA5.out).mono ?_; rintro e w6 ⟨rfl, hb6⟩; rw [HS.out]; have HD6 := Kept.mk (join HD5.out hb6); clear hb6)
        go_ret
        exact ⟨ret_bool (by simp), HD6.out⟩
theorem walkElectionRuns (p : Pl) (Au : Option Addr) (ku : Nat) (up : List Bool) (Av : Option Addr) (kv : Nat) (votes : List Vt) (most : Int) (w : World) (hp : PlanAt w w.heap.size p) (hu : RowsAt w w.heap.size 1 bcell1 Au up) (hku : up.length ≤ ku) (hku2 : ku ≤ maxLen) (hv : RowsAt w w.heap.size 3 vcell Av votes) (_ : ∀ x ∈ votes, VtOk x) (hkv : votes.length ≤ kv) (hkv2 : kv ≤ maxLen) (_ : -9223372036854775808 ≤ most ∧ most ≤ 9223372036854775807) :
    Calls Try.prog 5 #[pv p, .slice Au up.length ku, .slice Av votes.length kv, .int .i64 most] w fun e w' => e = .returned (.bool true) ∧ Below w.heap.size w w' := by
  cases p
  exact runs_walk _ _ _ _ _ _ _ _ _ _ _ _ _ _ hp hu hku hku2 hv hkv hkv2

set_option maxRecDepth 100000 in
theorem liftedElectionRuns (os : Os) (started : os.Started) (H : Type) (enc : TypeId × Value → H) :
    ReturnsInHanded {} Try.checked os 5 .any (Rows.electionRunsSpec.pre6 enc Try.prog Try.f5 Rows.electionRunsRow.domain false) (Rows.electionRunsSpec.post enc Try.prog Try.f5 false true false false) := by
  refine returnsInHanded_of_change (C := Try.checked) own started (by kernel_rfl) Try.func5
    (ChangeSpec.witness6 (enc := enc) (C := Try.checked) false ⟨#[], #[.agg #[.slice none 0 0, .slice none 0 0], .slice none 0 0, .slice none 0 0, .int .i64 0], []⟩ 8 (by kernel_rfl) (by kernel_rfl) (by kernel_rfl) (by kernel_rfl)) ?_
  intro W base args ds gs before hval0 hW hcnd _
  have hval : ∀ (j : Nat) t v, Try.f5.params[j]? = some t → args[j]? = some v → Value.okWide Try.prog W .any base t v := hval0
  have hW' := hW
  obtain ⟨p, q, hA0, hV, rfl, hfz, hnd⟩ := hW
  have hA : DataW.TrodAll enc Try.prog W 0 (fun _ => true) true Try.f5.params.toList args.toList ds p := hA0
  rw [Try.params5] at hA hval
  obtain ⟨v0, vs0, d0, ds0, p0, q0, hargs, rfl, rfl, h0, r0⟩ := trodAll_cons hA
  obtain ⟨v1, vs1, d1, ds1, p1, q1, rfl, rfl, rfl, h1, r1⟩ := trodAll_cons r0
  obtain ⟨v2, vs2, d2, ds2, p2, q2, rfl, rfl, rfl, h2, r2⟩ := trodAll_cons r1
  obtain ⟨v3, vs3, d3, ds3, p3, q3, rfl, rfl, rfl, h3, r3⟩ := trodAll_cons r2
  obtain ⟨rfl, rfl, rfl⟩ := trodAll_nil r3
  obtain rfl : args = #[v0, v1, v2, v3] := by cases args; simp_all
  obtain ⟨rfl, rfl⟩ := trodVars_none hV
  have k0 := h0
  have lt0 : ∀ x ∈ p0, x.block < W.heap.size := by obtain ⟨m, hm⟩ := k0; exact DataW.trod_lt m _ _ _ hm
  have k1 := h1
  have lt1 : ∀ x ∈ p1, x.block < W.heap.size := by obtain ⟨m, hm⟩ := k1; exact DataW.trod_lt m _ _ _ hm
  have k2 := h2
  have lt2 : ∀ x ∈ p2, x.block < W.heap.size := by obtain ⟨m, hm⟩ := k2; exact DataW.trod_lt m _ _ _ hm
  have k3 := h3
  have lt3 : ∀ x ∈ p3, x.block < W.heap.size := by obtain ⟨m, hm⟩ := k3; exact DataW.trod_lt m _ _ _ hm
  obtain ⟨q0, rfl, pa0⟩ := open_plan (hval 0 32 v0 rfl rfl) h0
  obtain ⟨A1, kap1, l1, rfl, r1x, le1, mx1⟩ := open_up (hval 1 33 v1 rfl rfl) h1
  obtain ⟨A2, kap2, l2, rfl, r2x, ok2, le2, mx2⟩ := open_votes (hval 2 37 v2 rfl rfl) h2
  obtain ⟨a3, rfl, -, -, ww3⟩ := open_int Try.underlying3 (hval 3 3 v3 rfl rfl) h3
  have w3 := bounds_i64 ww3
  clear hA0 hval0
  refine (walkElectionRuns q0 A1 kap1 l1 A2 kap2 l2 a3 W pa0 r1x le1 mx1 r2x ok2 le2 mx2 w3).mono fun e W' ⟨he, bel⟩ => ?_
  subst he
  exact ⟨_, rfl, _, _, _, [], _, [], hW', trodAll_mk1 (shut_bool Try.underlying4 _), (trodAll_cons_mk (Below.trod laidOut (by kernel_rfl) (of_decide_eq_true (by kernel_rfl)) k0 bel lt0) (trodAll_cons_mk (Below.trod laidOut (by kernel_rfl) (of_decide_eq_true (by kernel_rfl)) k1 bel lt1) (trodAll_cons_mk (Below.trod laidOut (by kernel_rfl) (of_decide_eq_true (by kernel_rfl)) k2 bel lt2) (trodAll_cons_mk (Below.trod laidOut (by kernel_rfl) (of_decide_eq_true (by kernel_rfl)) k3 bel lt3) trodAll_mk0)))), rfl, bel.frame _, fun h => by cases h⟩
/-- The given statement. -/
theorem electionRuns_holds : Rows.ElectionRunsSaid :=
  OpenClaim.holds_of_wide 5 Try.f5 rfl rfl rfl rfl rfl rfl rfl ⟨rfl, rfl, rfl, rfl, rfl⟩ rfl rfl rfl rfl rfl (by kernel_rfl) Try.func5 (by kernel_rfl)
    (of_decide_eq_true (by kernel_rfl)) (by unfold Func.isWrapper; first | (rw [if_pos (by decide +kernel)]; kernel_rfl) | (rw [if_neg (by decide +kernel)]; exact ⟨rfl, rfl⟩))
    (fun os started H enc _ => liftedElectionRuns os started H enc)
#print axioms electionRuns_holds
end Go.Proofs.Ytckigonkcjceeaa
