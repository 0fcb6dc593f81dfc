/- For all arguments the statement HelloSends returns true: messages are sent in the ticks 1, 1 + every, and so on. No condition. -/
import Derived.Test.YtkbnacboianjkaaBase
namespace Go.Proofs.Ytkbnacboianjkaa
open Go.ChangeShapes Go.WideShapes Go.ChangeAt Go.RowKit
set_option linter.unusedVariables false
set_option linter.unusedSimpArgs false
def Ti (node inc : Int) (n e : Nat) (i : Nat) : Tb := { new node inc n e 5 with ticks := i }
theorem fadeN_rep (d t : Int) (n : Nat) : fadeN d t (List.replicate n pt0) = 0 := by
  induction n with
  | zero => rfl
  | succ n ih => rw [List.replicate_succ, fadeN, ih]; rfl
theorem tick_Ti (node inc : Int) (n e i : Nat) : tick (Ti node inc n e i) = Ti node inc n e (i + 1) := by
  simp only [tick, Ti, new, fadeN_rep, List.map_replicate]
  have : fade 5 ((i : Int) + 1) pt0 = pt0 := rfl
  rw [this]
  simp
theorem out_Ti (node inc : Int) (n e i : Nat) (h : (i : Int) % (e : Int) = 0) : out (Ti node inc n e (i + 1)) = outFrom (Ti node inc n e (i + 1)) 0 (List.replicate n pt0) := by
  unfold out
  have : sends (Ti node inc n e (i + 1)) = true := by simp [sends, Ti, new, h]
  rw [this]; rfl
theorem out_Ti0 (node inc : Int) (n e i : Nat) (h : ¬ (i : Int) % (e : Int) = 0) : out (Ti node inc n e (i + 1)) = [] := by
  unfold out
  have : sends (Ti node inc n e (i + 1)) = false := by simp [sends, Ti, new, h]
  rw [this]; rfl
theorem fit_Ti (node inc : Int) (n e i : Nat) (he : 1 ≤ e) (hi : i < 1000) : Fit (Ti node inc n e i) :=
  ⟨by simp [Ti], by simp [Ti]; omega, by simp [Ti, new], by simp [Ti, new]; omega, by simp [Ti, new], fun p hp => by simp [Ti, new, pt0] at hp; rw [hp.2]; simp [Ti]⟩
set_option maxRecDepth 100000 in
set_option maxHeartbeats 4000000 in
theorem walkHelloSends (a0 a1 a2 a3 a4 : Int) (w : World) (w0 : (Lit.int .u8 a0).wf = true) (w1 : (Lit.int .u8 a1).wf = true) (w2 : (Lit.int .u8 a2).wf = true) (w3 : (Lit.int .u8 a3).wf = true) (w4 : (Lit.int .u8 a4).wf = true) :
    Calls Try.prog 8 #[.int .u8 a0, .int .u8 a1, .int .u8 a2, .int .u8 a3, .int .u8 a4] w fun e w' => e = .returned (.bool true) ∧ Below w.heap.size w w' := by
  obtain ⟨b1, b2⟩ := bounds_u8 w0
  obtain ⟨b3, b4⟩ := bounds_u8 w1
  obtain ⟨b5, b6⟩ := bounds_u8 w2
  obtain ⟨b7, b8⟩ := bounds_u8 w3
  obtain ⟨b9, b10⟩ := bounds_u8 w4
  obtain ⟨n, hn⟩ : ∃ n : Nat, 1 + a2 % 8 = (n : Int) := ⟨(1 + a2 % 8).toNat, by omega⟩
  obtain ⟨k, hk⟩ : ∃ k : Nat, 1 + a3 % 9 = (k : Int) := ⟨(1 + a3 % 9).toNat, by omega⟩
  obtain ⟨tt, ht⟩ : ∃ tt : Nat, a4 % 51 = (tt : Int) := ⟨(a4 % 51).toNat, by omega⟩
  have n1 : 1 ≤ n := by omega
  have n2 : n ≤ 8 := by omega
  have m1 : 1 ≤ k := by omega
  have m2 : k ≤ 9 := by omega
  have t2 : tt ≤ 50 := by omega
  have nB : newB (a0 % 16) (1 + a1) n k 5 = true := newB_iff.2 ⟨by omega, by omega, by omega, by omega, by omega⟩
  have HNB := hid nB
  clear w0 w1 w2 w3 w4 nB
  go_enter Try.func8, Try.ntmps8
  go_wp2_with fail
  refine (awake_c _).mono ?_
  rintro e wa ⟨rfl, hba⟩
  have HBA := hid hba
  clear hba
  go_wp2_with fail
  refine (new_c (a0 % 16) (1 + a1) n k 5 _ HNB.out).mono ?_
  rintro e wb ⟨rfl, hT, hbb, -⟩
  have HT : Hid (Table wb (wa.heap.size + 1) wa.heap.size (Ti (a0 % 16) (1 + a1) n k 0)) := hT
  have HBB := hid (join HBA.out hbb)
  have hB := HBA.out.size
  clear hT hbb HBA
  generalize wa.heap.size = B at *
  go_wp2_with fail
  rw [ht]
  go_loopw [15, 16, 17, 50] (fun v15 v16 v17 v50 wr => ∃ i : Nat, i ≤ tt ∧ v50 = .int .i64 i ∧ Table wr (B + 1) B (Ti (a0 % 16) (1 + a1) n k i) ∧ Below w.heap.size w wr) (fun _ _ _ v50 _ => tt - (intOf v50).toNat)
  case atStart => exact ⟨0, by omega, rfl, HT.out, HBB.out⟩
  case round =>
    obtain ⟨i, hi, rfl, hTr, hb⟩ := hrel
    clear HT HBB
    have HT := hid hTr
    have HB := hid hb
    clear hTr hb
    by_cases hlt : i < tt
    · have hF := fit_Ti (a0 % 16) (1 + a1) n k i m1 (by omega)
      have hv : (Ti (a0 % 16) (1 + a1) n k i).version = 0 := rfl
      have htk : (Ti (a0 % 16) (1 + a1) n k i).ticks = i := rfl
      have HF := hid hF
      have HV := hid hv
      have HTK := hid htk
      clear hF hv htk
      go_wp2_with fail
      refine (tick_c _ _ (B + 1) B HT.out HF.out (by rw [HTK.out]; omega) (by rw [HV.out]; omega)).mono ?_
      rintro e w5 ⟨v, rfl, hT5, hM5, hO5⟩
      rw [tick_Ti] at hT5 hM5
      have HT5 := hid hT5
      have hbz := hO5.size
      have HB5 := hid (HB.out.trans (hO5.below (B := w.heap.size) (by rintro j (h | h) <;> omega) HB.out.size))
      clear hT5 hO5
      by_cases hm : (i : Int) % (k : Int) = 0
      · have hm' : ((i : Int) % (k : Int) != 0) = false := by simpa using hm
        rw [out_Ti _ _ _ _ _ hm] at hM5
        have hL := outFrom_get (Ti (a0 % 16) (1 + a1) n k (i + 1)) (List.replicate n pt0) 0
        have hLl := outFrom_len (Ti (a0 % 16) (1 + a1) n k (i + 1)) (List.replicate n pt0) 0
        rw [List.length_replicate] at hLl
        have HG : Hid (∀ p, p < n → (outFrom (Ti (a0 % 16) (1 + a1) n k (i + 1)) 0 (List.replicate n pt0))[p]? = some ⟨a0 % 16, 1 + a1, (p : Int), 0⟩) := fun p hp => by
          have := hL p pt0 (by rw [List.getElem?_replicate, if_pos hp])
          rw [this, Nat.zero_add]; rfl
        clear hL hm
        generalize outFrom (Ti (a0 % 16) (1 + a1) n k (i + 1)) 0 (List.replicate n pt0) = L at *
        obtain ⟨A, cap, rfl⟩ := hM5.form
        rw [hLl] at hM5
        rw [hLl]
        have HM := hid hM5
        have HL := hid hLl
        clear hM5 hLl
        obtain ⟨wo, rfl⟩ : ∃ wo : World, wo = wr := ⟨_, rfl⟩
        go_wp2_with fail
        go_loopw [17, 68] (fun v17 v68 wr => ∃ p : Nat, p ≤ n ∧ v68 = .int .i64 p ∧ Table wr (B + 1) B (Ti (a0 % 16) (1 + a1) n k (i + 1)) ∧ Msgs wr wo.heap.size (.slice A n cap) L ∧ Below w.heap.size w wr) (fun _ v68 _ => n - (intOf v68).toNat)
        case atStart => exact ⟨0, by omega, rfl, HT5.out, HM.out, HB5.out⟩
        case round =>
          obtain ⟨p, hp, rfl, hT, hM, hb⟩ := hrel
          clear HT5 HM HB5
          have HT := hid hT
          have HM := hid hM
          have HB := hid hb
          clear hT hM hb
          by_cases hlp : p < n
          · have hgp := HG.out p hlp
            have hl3 := HL.out
            obtain ⟨gx, cap2, hxv, hgb2, hgl, hcap, hcell⟩ := HM.out.at_ (by omega)
            obtain ⟨c0, c1, c2, c3⟩ := hcell p _ hgp
            injection hxv with e1 e2 e3
            subst e1
            subst e3
            have hcap2 : n ≤ cap := by omega
            clear hcell e2 hl3 hcap hgp
            go_wp2_with fail
            go_roundw
            case rel => exact ⟨p + 1, by omega, by go_num, HT.out.alloc _, HM.out.only ((OnlyP.refl (fun _ => False) wr).alloc _) (fun _ _ h => h), HB.out.alloc HB.out.size _⟩
            case measure => simp [intOf]; omega
          · go_wp2_with fail
            go_roundw
            case rel => exact ⟨i + 1, by omega, by go_num, HT.out, HB.out⟩
            case measure => simp [intOf]; omega
      · have hm' : ((i : Int) % (k : Int) != 0) = true := by simpa using hm
        rw [out_Ti0 _ _ _ _ _ hm] at hM5
        obtain ⟨A, cap, rfl⟩ := hM5.form
        clear hm hM5
        go_wp2_with fail
        go_roundw
        case rel => exact ⟨i + 1, by omega, by go_num, HT5.out, HB5.out⟩
        case measure => simp [intOf]; omega
    · go_wp2_with fail
      refine (version_c _ _ _ _ HT.out).mono ?_
      rintro e w5 ⟨rfl, rfl⟩
      rw [show (Ti (a0 % 16) (1 + a1) n k i).version = 0 from rfl]
      go_wp2_with fail
      go_ret
      exact ⟨rfl, HB.out⟩

set_option maxRecDepth 100000 in
theorem liftedHelloSends (os : Os) (started : os.Started) (H : Type) (enc : TypeId × Value → H) :
    ReturnsInHanded {} Try.checked os 8 .any (Rows.helloSendsSpec.pre6 enc Try.prog Try.f8 Rows.helloSendsRow.domain false) (Rows.helloSendsSpec.post enc Try.prog Try.f8 false true false false) := by
  refine returnsInHanded_of_change (C := Try.checked) own started (by kernel_rfl) Try.func8
    (ChangeSpec.witness6 (enc := enc) (C := Try.checked) false ⟨#[], #[.int .u8 0, .int .u8 0, .int .u8 0, .int .u8 0, .int .u8 0], []⟩ 8 (by kernel_rfl) (by kernel_rfl) (by kernel_rfl) (by kernel_rfl)) ?_
  intro W base args ds gs before hval0 hW hcnd _
  have hval : ∀ (j : Nat) t v, Try.f8.params[j]? = some t → args[j]? = some v → Value.okWide Try.prog W .any base t v := hval0
  have hW' := hW
  obtain ⟨p, q, hA0, hV, rfl, hfz, hnd⟩ := hW
  have hA : DataW.TrodAll enc Try.prog W 0 (fun _ => true) true Try.f8.params.toList args.toList ds p := hA0
  rw [Try.params8] at hA hval
  obtain ⟨v0, vs0, d0, ds0, p0, q0, hargs, rfl, rfl, h0, r0⟩ := trodAll_cons hA
  obtain ⟨v1, vs1, d1, ds1, p1, q1, rfl, rfl, rfl, h1, r1⟩ := trodAll_cons r0
  obtain ⟨v2, vs2, d2, ds2, p2, q2, rfl, rfl, rfl, h2, r2⟩ := trodAll_cons r1
  obtain ⟨v3, vs3, d3, ds3, p3, q3, rfl, rfl, rfl, h3, r3⟩ := trodAll_cons r2
  obtain ⟨v4, vs4, d4, ds4, p4, q4, rfl, rfl, rfl, h4, r4⟩ := trodAll_cons r3
  obtain ⟨rfl, rfl, rfl⟩ := trodAll_nil r4
  obtain rfl : args = #[v0, v1, v2, v3, v4] := by cases args; simp_all
  obtain ⟨rfl, rfl⟩ := trodVars_none hV
  have k0 := h0
  have lt0 : ∀ x ∈ p0, x.block < W.heap.size := by obtain ⟨m, hm⟩ := k0; exact DataW.trod_lt m _ _ _ hm
  have k1 := h1
  have lt1 : ∀ x ∈ p1, x.block < W.heap.size := by obtain ⟨m, hm⟩ := k1; exact DataW.trod_lt m _ _ _ hm
  have k2 := h2
  have lt2 : ∀ x ∈ p2, x.block < W.heap.size := by obtain ⟨m, hm⟩ := k2; exact DataW.trod_lt m _ _ _ hm
  have k3 := h3
  have lt3 : ∀ x ∈ p3, x.block < W.heap.size := by obtain ⟨m, hm⟩ := k3; exact DataW.trod_lt m _ _ _ hm
  have k4 := h4
  have lt4 : ∀ x ∈ p4, x.block < W.heap.size := by obtain ⟨m, hm⟩ := k4; exact DataW.trod_lt m _ _ _ hm
  obtain ⟨a0, rfl, -, -, w0⟩ := open_int Try.underlying5 (hval 0 5 v0 rfl rfl) h0
  obtain ⟨a1, rfl, -, -, w1⟩ := open_int Try.underlying5 (hval 1 5 v1 rfl rfl) h1
  obtain ⟨a2, rfl, -, -, w2⟩ := open_int Try.underlying5 (hval 2 5 v2 rfl rfl) h2
  obtain ⟨a3, rfl, -, -, w3⟩ := open_int Try.underlying5 (hval 3 5 v3 rfl rfl) h3
  obtain ⟨a4, rfl, -, -, w4⟩ := open_int Try.underlying5 (hval 4 5 v4 rfl rfl) h4
  clear hA0 hval0
  refine (walkHelloSends a0 a1 a2 a3 a4 W w0 w1 w2 w3 w4).mono fun e W' ⟨he, bel⟩ => ?_
  subst he
  exact ⟨_, rfl, _, _, _, [], _, [], hW', trodAll_mk1 (shut_bool Try.underlying4 _), (trodAll_cons_mk (Below.trod laidOut (by kernel_rfl) (of_decide_eq_true (by kernel_rfl)) k0 bel lt0) (trodAll_cons_mk (Below.trod laidOut (by kernel_rfl) (of_decide_eq_true (by kernel_rfl)) k1 bel lt1) (trodAll_cons_mk (Below.trod laidOut (by kernel_rfl) (of_decide_eq_true (by kernel_rfl)) k2 bel lt2) (trodAll_cons_mk (Below.trod laidOut (by kernel_rfl) (of_decide_eq_true (by kernel_rfl)) k3 bel lt3) (trodAll_cons_mk (Below.trod laidOut (by kernel_rfl) (of_decide_eq_true (by kernel_rfl)) k4 bel lt4) trodAll_mk0))))), rfl, bel.frame _, fun h => by cases h⟩
/-- The given statement. -/
theorem helloSends_holds : Rows.HelloSendsSaid :=
  OpenClaim.holds_of_wide 8 Try.f8 rfl rfl rfl rfl rfl rfl rfl ⟨rfl, rfl, rfl, rfl, rfl⟩ rfl rfl rfl rfl rfl (by kernel_rfl) Try.func8 (by kernel_rfl)
    (of_decide_eq_true (by kernel_rfl)) (by unfold Func.isWrapper; first | (rw [if_pos (by decide +kernel)]; kernel_rfl) | (rw [if_neg (by decide +kernel)]; exact ⟨rfl, rfl⟩))
    (fun os started H enc _ => liftedHelloSends os started H enc)
#print axioms helloSends_holds
end Go.Proofs.Ytkbnacboianjkaa
