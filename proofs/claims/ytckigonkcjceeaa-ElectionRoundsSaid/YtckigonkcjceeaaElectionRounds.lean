/- For all plans, cables that are up and votes the statement ElectionRounds returns true: Round returns the specified votes or error. No condition. -/
import Derived.Test.YtckigonkcjceeaaEBase
import Derived.Test.YtckigonkcjceeaaERefRun
namespace Go.Proofs.Ytckigonkcjceeaa
open Go.ChangeShapes Go.WideShapes Go.ChangeAt Go.RowKit
set_option linter.unusedVariables false
set_option linter.unusedSimpArgs false
theorem decT {α : Type} (x : α) (i : Decidable (x = x)) : @decide (x = x) i = true := @decide_eq_true _ i rfl
/-- What stands in memory while the results are compared. -/
structure RS (w0 W : World) (N : List Nd) (C : List Cb) (An Ac Au Av Ag Ab : Option Addr) (kn kc ku kv : Nat) (up : List Bool) (votes R : List Vt) : Prop where
  args : ArgsAt W N C An Ac Au Av kn kc ku kv up votes
  box : Blk W w0.heap.size 32 #[.slice An N.length kn, .slice Ac C.length kc]
  bel : Below w0.heap.size w0 W
  got : RowsAt W W.heap.size 3 vcell Ag R
  bef : RowsAt W W.heap.size 3 vcell Ab votes
theorem RS.new_ {w0 W W' : World} {N : List Nd} {C : List Cb} {An Ac Au Av Ag Ab : Option Addr} {kn kc ku kv : Nat} {up : List Bool} {votes R : List Vt} (h : RS w0 W N C An Ac Au Av Ag Ab kn kc ku kv up votes R) (hb : Below W.heap.size W W') : RS w0 W' N C An Ac Au Av Ag Ab kn kc ku kv up votes R :=
  ⟨h.args.new_ hb, h.box.new_ hb, join h.bel hb, h.got.new_ hb, h.bef.new_ hb⟩
theorem ArgsAt.swap {W : World} {N : List Nd} {C : List Cb} {An Ac Au Av Ab : Option Addr} {kn kc ku kv : Nat} {up : List Bool} {votes : List Vt} (h : ArgsAt W N C An Ac Au Av kn kc ku kv up votes) (hb : RowsAt W W.heap.size 3 vcell Ab votes) (kb : Nat) : ArgsAt W N C An Ac Au Ab kn kc ku kb up votes := ⟨h.p, h.u, hb, h.ul, h.vl⟩
set_option maxRecDepth 100000 in
set_option maxHeartbeats 8000000 in
theorem rounds_walk (N : List Nd) (C : List Cb) (An Ac Au Av : Option Addr) (kn kc ku kv : Nat) (up : List Bool) (votes : List Vt) (w : World) (hp : PlanAt w w.heap.size ⟨N, C, An, kn, Ac, kc⟩) (hu : RowsAt w w.heap.size 1 bcell1 Au up) (hku : up.length ≤ ku) (hku2 : ku ≤ maxLen) (hv : RowsAt w w.heap.size 3 vcell Av votes) (hkv : votes.length ≤ kv) (hkv2 : kv ≤ maxLen) :
    Calls Try.prog 6 #[.agg #[.slice An N.length kn, .slice Ac C.length kc], .slice Au up.length ku, .slice Av votes.length kv] w fun e w' => e = .returned (.bool true) ∧ Below w.heap.size w w' := by
  have HP := Kept.mk hp
  have HU := Kept.mk hu
  have HV := Kept.mk hv
  obtain ⟨L1, L2⟩ := hp.len
  simp only at L1 L2
  have L3 : up.length ≤ 9223372036854775807 := by unfold maxLen at hku2; omega
  have L4 : votes.length ≤ 9223372036854775807 := by unfold maxLen at hkv2; omega
  clear hp hu hku hku2 hv hkv hkv2
  have HB := Kept.mk (Blk.new w 32 #[.slice An N.length kn, .slice Ac C.length kc])
  have HG : Kept (Below w.heap.size w (w.alloc (.cells #[.slice An N.length kn, .slice Ac C.length kc] 32))) := ⟨(Below.refl _ _).alloc (Nat.le_refl _) _⟩
  go_enter Try.func6, Try.ntmps6
  go_wp2_with (go_at_call 11; refine (awake_c _).mono ?_; rintro e w1 ⟨rfl, hb1⟩; have HB1 := Kept.mk (HB.out.new_ hb1); have HD1 := Kept.mk (join HG.out hb1); clear hb1; have k0 := HB1.out.cell 0 (v := .slice An N.length kn) rfl; have k1 := HB1.out.cell 1 (v := .slice Ac C.length kc) rfl; have z1 := HB1.out.lt)
  refine (great_ N.length C.length up.length votes.length An Ac Au Av kn kc ku kv _ L1 L2 L3 L4).mono ?_
  rintro e w2 ⟨rfl, hb2⟩
  have HB2 := Kept.mk (HB1.out.new_ hb2)
  have HD2 := Kept.mk (join HD1.out hb2)
  clear hb2 k0 k1 z1
  have k0 := HB2.out.cell 0 (v := .slice An N.length kn) rfl
  have k1 := HB2.out.cell 1 (v := .slice Ac C.length kc) rfl
  have z1 := HB2.out.lt
  cases hgr : greatB N.length C.length up.length votes.length with
  | true =>
    go_wp2_with fail
    go_ret
    exact ⟨rfl, HD2.out⟩
  | false =>
    obtain ⟨g1, g2, g3, g4⟩ := great_no hgr
    have HA2 : Kept (ArgsAt w2 N C An Ac Au Av kn kc ku kv up votes) := ⟨HP.out.new_ HD2.out, HU.out.new_ HD2.out, HV.out.new_ HD2.out, by omega, by omega⟩
    by_cases hf : faultE N C up votes = 0
    · have HF := Kept.mk hf
      obtain ⟨f1, f2, f3, f4⟩ := faultE_zero.1 hf
      have F1 := Kept.mk f1
      have F3 := Kept.mk f3
      have HLR := Kept.mk (roundP_len C up votes)
      clear hf f1 f2 f3 f4
      go_wp2_with (first | (go_at_call 21; refine (plain_n Av kv votes.length votes _ HA2.out.v rfl (by omega)).mono ?_; rintro e w3 ⟨Ab, kb, rfl, hr3, hb3⟩; have HR3 := Kept.mk hr3; have HA3 := Kept.mk (HA2.out.new_ hb3); have HB3 := Kept.mk (HB2.out.new_ hb3); have HD3 := Kept.mk (join HD2.out hb3); clear hr3 hb3 k0 k1 z1; have k0 := HB3.out.cell 0 (v := .slice An N.length kn) rfl; have k1 := HB3.out.cell 1 (v := .slice Ac C.length kc) rfl; have z1 := HB3.out.lt) | (go_at_call 25; refine (Round_m N C An Ac Au Av kn kc ku kv votes.length up votes _ HA3.out rfl HF.out).mono ?_; rintro e w4 ⟨Ag, kg, rfl, hr4, hb4⟩; have HS4 : Kept (RS w w4 N C An Ac Au Av Ag Ab kn kc ku kv up votes (roundP C up votes)) := ⟨HA3.out.new_ hb4, HB3.out.new_ hb4, join HD3.out hb4, hr4, HR3.out.new_ hb4⟩; clear hr4 hb4 k0 k1 z1; have k0 := HS4.out.box.cell 0 (v := .slice An N.length kn) rfl; have k1 := HS4.out.box.cell 1 (v := .slice Ac C.length kc) rfl; have z1 := HS4.out.box.lt) | (go_at_call 20; refine (Fault_ N C An Ac Au Ab kn kc ku kb up votes _ (HS4.out.args.swap HS4.out.bef kb)).mono ?_; rintro e w5 ⟨rfl, hb5⟩; rw [HF.out]; have HS5 := Kept.mk (HS4.out.new_ hb5); clear hb5 k0 k1 z1; have k0 := HS5.out.box.cell 0 (v := .slice An N.length kn) rfl; have k1 := HS5.out.box.cell 1 (v := .slice Ac C.length kc) rfl; have z1 := HS5.out.box.lt))
      have HS5d := Kept.mk (HS5.out.new_ (bdrew (Below.refl _ _)))
      have tk6 : True := trivial
      have tk7 : True := trivial
      have tk8 : True := trivial
      have tk9 : True := trivial
      have tk10 : True := trivial
      have tk11 : True := trivial
      have tk12 : True := trivial
      have tk13 : True := trivial
      have tk14 : True := trivial
      clear k0 k1 z1
      go_region_held3 (fun w' => w'.cell? ⟨w.heap.size, 0, none⟩ = some (.slice An N.length kn) ∧ w'.cell? ⟨w.heap.size, 1, none⟩ = some (.slice Ac C.length kc)) (first | exact ⟨HS5d.out.box.cell 0 rfl, HS5d.out.box.cell 1 rfl⟩ | exact ⟨HS6.out.box.cell 0 rfl, HS6.out.box.cell 1 rfl⟩ | exact ⟨HS7.out.box.cell 0 rfl, HS7.out.box.cell 1 rfl⟩ | exact ⟨HS8.out.box.cell 0 rfl, HS8.out.box.cell 1 rfl⟩ | exact ⟨HS9.out.box.cell 0 rfl, HS9.out.box.cell 1 rfl⟩ | exact ⟨HS10.out.box.cell 0 rfl, HS10.out.box.cell 1 rfl⟩ | exact ⟨HS11.out.box.cell 0 rfl, HS11.out.box.cell 1 rfl⟩ | exact ⟨HS12.out.box.cell 0 rfl, HS12.out.box.cell 1 rfl⟩ | exact ⟨HS13.out.box.cell 0 rfl, HS13.out.box.cell 1 rfl⟩ | exact ⟨HS14.out.box.cell 0 rfl, HS14.out.box.cell 1 rfl⟩) (first | (go_at_call 21; have _t := tk6; refine (plain_n Ag kg votes.length (roundP C up votes) _ HS5d.out.got HLR.out (by omega)).mono ?_; rintro e w6 ⟨A6, k6, rfl, hr6, hb6⟩; have P6 := Kept.mk hr6; clear hr6; have HS6 := Kept.mk (HS5d.out.new_ hb6); clear tk6 _t hb6) | (go_at_call 26; have _t := tk7; refine (refRound_n N C An Ac Au Ab kn kc ku kb votes.length up votes _ HS6.out.args.p HS6.out.args.u HS6.out.bef rfl HF.out).mono ?_; rintro e w7 ⟨A7, k7, rfl, hr7, hb7⟩; have P7 := Kept.mk hr7; have P6b := Kept.mk (P6.out.new_ hb7); clear hr7; have HS7 := Kept.mk (HS6.out.new_ hb7); clear tk7 _t hb7) | (go_at_call 24; have _t := tk8; refine (same_n (roundP C up votes) (roundP C up votes) A6 A7 k6 k7 votes.length _ _ _ P6b.out P7.out HLR.out HLR.out (by omega)).mono ?_; rintro e w8 ⟨rfl, hb8⟩; rw [decT]; have HS8 := Kept.mk (HS7.out.new_ hb8); clear tk8 _t hb8) | (go_at_call 21; have _t := tk9; refine (plain_n Av kv votes.length votes _ HS8.out.args.v rfl (by omega)).mono ?_; rintro e w9 ⟨A9, k9, rfl, hr9, hb9⟩; have P9 := Kept.mk hr9; clear hr9; have HS9 := Kept.mk (HS8.out.new_ hb9); clear tk9 _t hb9) | (go_at_call 24; have _t := tk10; refine (same_n votes votes A9 Ab k9 kb votes.length _ _ _ P9.out HS9.out.bef rfl rfl (by omega)).mono ?_; rintro e w10 ⟨rfl, hb10⟩; rw [decT]; have HS10 := Kept.mk (HS9.out.new_ hb10); clear tk10 _t hb10) | (go_at_call 17; have _t := tk11; refine (Start_n N C An Ac kn kc N.length _ HS10.out.args.p F1.out rfl).mono ?_; rintro e w11 ⟨A11, k11, rfl, hr11, hb11⟩; have P11 := Kept.mk hr11; clear hr11; have HS11 := Kept.mk (HS10.out.new_ hb11); clear tk11 _t hb11) | (go_at_call 21; have _t := tk12; refine (plain_n A11 k11 N.length (startP N.length) _ P11.out (startP_len _) (by omega)).mono ?_; rintro e w12 ⟨A12, k12, rfl, hr12, hb12⟩; have P12 := Kept.mk hr12; clear hr12; have HS12 := Kept.mk (HS11.out.new_ hb12); clear tk12 _t hb12) | (go_at_call 27; have _t := tk13; refine (refStart_n N.length _ (by omega)).mono ?_; rintro e w13 ⟨A13, k13, rfl, hr13, hb13⟩; have P13 := Kept.mk hr13; have P12b := Kept.mk (P12.out.new_ hb13); clear hr13; have HS13 := Kept.mk (HS12.out.new_ hb13); clear tk13 _t hb13) | (go_at_call 24; have _t := tk14; refine (same_n (startP N.length) (startP N.length) A12 A13 k12 k13 N.length _ _ _ P12b.out P13.out (startP_len _) (startP_len _) (by omega)).mono ?_; rintro e w14 ⟨rfl, hb14⟩; rw [decT]; have HS14 := Kept.mk (HS13.out.new_ hb14); clear tk14 _t hb14))
      go_wp2_with fail
      go_ret
      exact ⟨rfl, HS14.out.bel⟩
    · obtain ⟨f, hfe⟩ : ∃ f, faultE N C up votes = f := ⟨_, rfl⟩
      have HN := Kept.mk hf
      rw [hfe] at hf
      have q1 : (f != 0) = true := by simpa using hf
      have q2 : (f == 0) = false := by simpa using hf
      have HF := Kept.mk hfe
      clear hf hfe
      go_wp2_with (first | (go_at_call 21; refine (plain_n Av kv votes.length votes _ HA2.out.v rfl (by omega)).mono ?_; rintro e w3 ⟨Ab, kb, rfl, hr3, hb3⟩; have HR3 := Kept.mk hr3; have HA3 := Kept.mk (HA2.out.new_ hb3); have HB3 := Kept.mk (HB2.out.new_ hb3); have HD3 := Kept.mk (join HD2.out hb3); clear hr3 hb3 k0 k1 z1; have k0 := HB3.out.cell 0 (v := .slice An N.length kn) rfl; have k1 := HB3.out.cell 1 (v := .slice Ac C.length kc) rfl; have z1 := HB3.out.lt) | (go_at_call 25; refine (Round_bad N C An Ac Au Av kn kc ku kv up votes _ HA3.out HN.out).mono ?_; rintro e w4 ⟨Ag, kg, rfl, hb4⟩; rw [HF.out]; have HA4 := Kept.mk ((HA3.out.new_ hb4).swap (HR3.out.new_ hb4) kb); have HB4 := Kept.mk (HB3.out.new_ hb4); have HD4 := Kept.mk (join HD3.out hb4); clear hb4 k0 k1 z1; have k0 := HB4.out.cell 0 (v := .slice An N.length kn) rfl; have k1 := HB4.out.cell 1 (v := .slice Ac C.length kc) rfl; have z1 := HB4.out.lt) | (go_at_call 20; refine (Fault_ N C An Ac Au Ab kn kc ku kb up votes _ HA4.out).mono ?_; rintro e w5 ⟨rfl, hb5⟩; rw [HF.out]; have HD5 := Kept.mk (join HD4.out hb5); clear hb5))
      go_ret
      exact ⟨ret_bool (by simp), HD5.out⟩
theorem walkElectionRounds (p : Pl) (Au : Option Addr) (ku : Nat) (up : List Bool) (Av : Option Addr) (kv : Nat) (votes : List Vt) (w : World) (hp : PlanAt w w.heap.size p) (hu : RowsAt w w.heap.size 1 bcell1 Au up) (hku : up.length ≤ ku) (hku2 : ku ≤ maxLen) (hv : RowsAt w w.heap.size 3 vcell Av votes) (_ : ∀ x ∈ votes, VtOk x) (hkv : votes.length ≤ kv) (hkv2 : kv ≤ maxLen) :
    Calls Try.prog 6 #[pv p, .slice Au up.length ku, .slice Av votes.length kv] w fun e w' => e = .returned (.bool true) ∧ Below w.heap.size w w' := by
  cases p
  exact rounds_walk _ _ _ _ _ _ _ _ _ _ _ _ _ hp hu hku hku2 hv hkv hkv2

set_option maxRecDepth 100000 in
theorem liftedElectionRounds (os : Os) (started : os.Started) (H : Type) (enc : TypeId × Value → H) :
    ReturnsInHanded {} Try.checked os 6 .any (Rows.electionRoundsSpec.pre6 enc Try.prog Try.f6 Rows.electionRoundsRow.domain false) (Rows.electionRoundsSpec.post enc Try.prog Try.f6 false true false false) := by
  refine returnsInHanded_of_change (C := Try.checked) own started (by kernel_rfl) Try.func6
    (ChangeSpec.witness6 (enc := enc) (C := Try.checked) false ⟨#[], #[.agg #[.slice none 0 0, .slice none 0 0], .slice none 0 0, .slice none 0 0], []⟩ 8 (by kernel_rfl) (by kernel_rfl) (by kernel_rfl) (by kernel_rfl)) ?_
  intro W base args ds gs before hval0 hW hcnd _
  have hval : ∀ (j : Nat) t v, Try.f6.params[j]? = some t → args[j]? = some v → Value.okWide Try.prog W .any base t v := hval0
  have hW' := hW
  obtain ⟨p, q, hA0, hV, rfl, hfz, hnd⟩ := hW
  have hA : DataW.TrodAll enc Try.prog W 0 (fun _ => true) true Try.f6.params.toList args.toList ds p := hA0
  rw [Try.params6] at hA hval
  obtain ⟨v0, vs0, d0, ds0, p0, q0, hargs, rfl, rfl, h0, r0⟩ := trodAll_cons hA
  obtain ⟨v1, vs1, d1, ds1, p1, q1, rfl, rfl, rfl, h1, r1⟩ := trodAll_cons r0
  obtain ⟨v2, vs2, d2, ds2, p2, q2, rfl, rfl, rfl, h2, r2⟩ := trodAll_cons r1
  obtain ⟨rfl, rfl, rfl⟩ := trodAll_nil r2
  obtain rfl : args = #[v0, v1, v2] := by cases args; simp_all
  obtain ⟨rfl, rfl⟩ := trodVars_none hV
  have k0 := h0
  have lt0 : ∀ x ∈ p0, x.block < W.heap.size := by obtain ⟨m, hm⟩ := k0; exact DataW.trod_lt m _ _ _ hm
  have k1 := h1
  have lt1 : ∀ x ∈ p1, x.block < W.heap.size := by obtain ⟨m, hm⟩ := k1; exact DataW.trod_lt m _ _ _ hm
  have k2 := h2
  have lt2 : ∀ x ∈ p2, x.block < W.heap.size := by obtain ⟨m, hm⟩ := k2; exact DataW.trod_lt m _ _ _ hm
  obtain ⟨q0, rfl, pa0⟩ := open_plan (hval 0 32 v0 rfl rfl) h0
  obtain ⟨A1, kap1, l1, rfl, r1x, le1, mx1⟩ := open_up (hval 1 33 v1 rfl rfl) h1
  obtain ⟨A2, kap2, l2, rfl, r2x, ok2, le2, mx2⟩ := open_votes (hval 2 37 v2 rfl rfl) h2
  clear hA0 hval0
  refine (walkElectionRounds q0 A1 kap1 l1 A2 kap2 l2 W pa0 r1x le1 mx1 r2x ok2 le2 mx2).mono fun e W' ⟨he, bel⟩ => ?_
  subst he
  exact ⟨_, rfl, _, _, _, [], _, [], hW', trodAll_mk1 (shut_bool Try.underlying4 _), (trodAll_cons_mk (Below.trod laidOut (by kernel_rfl) (of_decide_eq_true (by kernel_rfl)) k0 bel lt0) (trodAll_cons_mk (Below.trod laidOut (by kernel_rfl) (of_decide_eq_true (by kernel_rfl)) k1 bel lt1) (trodAll_cons_mk (Below.trod laidOut (by kernel_rfl) (of_decide_eq_true (by kernel_rfl)) k2 bel lt2) trodAll_mk0))), rfl, bel.frame _, fun h => by cases h⟩
/-- The given statement. -/
theorem electionRounds_holds : Rows.ElectionRoundsSaid :=
  OpenClaim.holds_of_wide 6 Try.f6 rfl rfl rfl rfl rfl rfl rfl ⟨rfl, rfl, rfl, rfl, rfl⟩ rfl rfl rfl rfl rfl (by kernel_rfl) Try.func6 (by kernel_rfl)
    (of_decide_eq_true (by kernel_rfl)) (by unfold Func.isWrapper; first | (rw [if_pos (by decide +kernel)]; kernel_rfl) | (rw [if_neg (by decide +kernel)]; exact ⟨rfl, rfl⟩))
    (fun os started H enc _ => liftedElectionRounds os started H enc)
#print axioms electionRounds_holds
end Go.Proofs.Ytckigonkcjceeaa
