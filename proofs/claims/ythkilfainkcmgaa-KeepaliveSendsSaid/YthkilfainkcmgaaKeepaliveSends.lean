/- For all arguments the statement KeepaliveSends returns true: signs are sent exactly every period. No condition. -/
import Derived.Test.YthkilfainkcmgaaBase
namespace Go.Proofs.Ythkilfainkcmgaa
open Go.ChangeShapes Go.WideShapes Go.ChangeAt Go.RowKit
set_option linter.unusedVariables false
set_option linter.unusedSimpArgs false
/-- The watch behind i ticks, one for each reading from fr on. -/
structure SInv (k fr : Int) (i : Nat) (s : St) : Prop where
  every : s.every = k
  fit : Fit s
  al : s.alarms ≤ i
  z : i = 0 → s.begun = false ∧ s.now = 0
  p : 0 < i → s.begun = true ∧ s.now = fr + i - 1 ∧ s.sent = s.now - ((i : Int) - 1) % k
theorem sinv_zero (k fr : Int) : SInv k fr 0 (new k 100) := ⟨rfl, fit_new _ _, by simp [new], fun _ => ⟨rfl, rfl⟩, fun h => absurd h (by omega)⟩
theorem mod_step (i k : Int) (hk : 1 ≤ k) (hi : 1 ≤ i) : (i % k = 0 ↔ k ≤ (i - 1) % k + 1) ∧ (i % k = 0 ∨ i % k = (i - 1) % k + 1) := by
  have h1 := Int.ediv_mul_add_emod (i - 1) k
  have h2 := Int.emod_nonneg (i - 1) (b := k) (by omega)
  have h3 := Int.emod_lt_of_pos (i - 1) (b := k) (by omega)
  by_cases h : (i - 1) % k = k - 1
  · have : i % k = 0 := by
      have e : i = ((i - 1) / k + 1) * k := by rw [Int.add_mul, Int.one_mul]; omega
      rw [e, Int.mul_emod_left]
    omega
  · have : i % k = (i - 1) % k + 1 := by
      have e : i = (i - 1) % k + 1 + k * ((i - 1) / k) := by rw [Int.mul_comm]; omega
      rw [e, Int.add_mul_emod_self_left, Int.emod_eq_of_lt (by omega) (by omega)]
      congr 1
      rw [show (i - 1) % k + 1 + k * ((i - 1) / k) - 1 = i - 1 by rw [Int.mul_comm]; omega]
    omega
theorem sinv_send {k fr : Int} {i : Nat} {s : St} (h : SInv k fr i s) (hk : 1 ≤ k) (hf : 0 ≤ fr) : sendT s (fr + i) = decide ((i : Int) % k = 0) := by
  by_cases h0 : i = 0
  · subst h0
    obtain ⟨h1, h2⟩ := h.z rfl
    simp [sendT, h1]
  · obtain ⟨h1, h2, h3⟩ := h.p (by omega)
    have hm := (mod_step i k hk (by omega)).1
    simp only [sendT, h1, h.every, h3, h2]
    rw [show max (fr + (i : Int) - 1) (fr + i) = fr + i by omega]
    simp only [Bool.not_true, Bool.false_or, decide_eq_decide]
    rw [hm]
    omega
theorem sinv_tick {k fr : Int} {i : Nat} {s : St} (h : SInv k fr i s) (hk : 1 ≤ k) (hf : 0 ≤ fr) (hf2 : fr ≤ 255) (hi : i ≤ 255) : SInv k fr (i + 1) (tick s (fr + i)) := by
  have hs := sinv_send h hk hf
  have hmax : max s.now (fr + (i : Int)) = fr + i := by
    by_cases h0 : i = 0
    · have := (h.z h0).2; omega
    · have := (h.p (by omega)).2.1; omega
  refine ⟨h.every, fit_tick h.fit (by omega) (by omega) (by have := h.al; omega), ?_, fun h0 => by omega, fun _ => ⟨rfl, ?_, ?_⟩⟩
  · have := (alarms_tick s (fr + i)).2; have := h.al; omega
  · simp only [tick, hmax]; omega
  · simp only [tick, hmax, hs]
    by_cases h0 : i = 0
    · subst h0; simp
    · obtain ⟨h1, h2, h3⟩ := h.p (by omega)
      have hm := (mod_step i k hk (by omega)).2
      rw [show (((i + 1 : Nat) : Int) - 1) = (i : Int) by omega]
      by_cases hz : (i : Int) % k = 0
      · simp [hz]
      · simp only [hz, decide_false, Bool.false_eq_true, if_false]
        omega
set_option maxRecDepth 100000 in
set_option maxHeartbeats 1000000 in
theorem walkKeepaliveSends (a0 a1 a2 : Int) (w : World) (w0 : (Lit.int .u8 a0).wf = true) (w1 : (Lit.int .u8 a1).wf = true) (w2 : (Lit.int .u8 a2).wf = true) :
    Calls Try.prog 4 #[.int .u8 a0, .int .u8 a1, .int .u8 a2] w fun e w' => e = .returned (.bool true) ∧ Below w.heap.size w w' := by
  obtain ⟨b1, b2⟩ := bounds_u8 w0
  obtain ⟨b3, b4⟩ := bounds_u8 w1
  obtain ⟨b5, b6⟩ := bounds_u8 w2
  obtain ⟨n, rfl⟩ := Int.eq_ofNat_of_zero_le b5
  clear w0 w1 w2
  have hn : n ≤ 255 := by omega
  obtain ⟨k, hk⟩ : ∃ k, 1 + a0 % 20 = k := ⟨_, rfl⟩
  have k1 : 1 ≤ k := by omega
  have k2 : k ≤ 20 := by omega
  have HP := Kept.mk (per_iff.2 (show 1 ≤ k ∧ k ≤ 1048576 ∧ k ≤ 100 ∧ (100 : Int) ≤ 1048576 by omega))
  have hkz : (k == 0) = false := by simp; omega
  go_enter Try.func4, Try.ntmps4
  go_wp2_with fail
  refine (awake_c _).mono ?_
  rintro e wa ⟨rfl, hba⟩
  have HBA := Kept.mk hba
  clear hba
  go_wp2_with fail
  refine (new_c k 100 _ HP.out).mono ?_
  rintro e wb ⟨rfl, rfl⟩
  have hw : Kept (Blk (wa.alloc (.cells (wc (new k 100)) 59)) wa.heap.size 59 (wc (new k 100))) := ⟨Blk.new wa 59 _⟩
  have HO : Kept (Below w.heap.size w (wa.alloc (.cells (wc (new k 100)) 59))) := ⟨HBA.out.alloc HBA.out.size _⟩
  have hB := HBA.out.size
  have HS := Kept.mk (sinv_zero k a1)
  obtain ⟨W1, hW1⟩ : ∃ W1, W1 = wa.alloc (.cells (wc (new k 100)) 59) := ⟨_, rfl⟩
  rw [← hW1] at hw HO ⊢
  clear hW1 HBA
  generalize wa.heap.size = B at *
  generalize new k 100 = s0 at *
  go_wp2_with fail
  go_loopw [28] (fun v28 wr => ∃ (i : Nat) (s : St), i ≤ n ∧ v28 = .int .i64 i ∧ Kept (SInv k a1 i s) ∧ Kept (Blk wr B 59 (wc s)) ∧ Kept (Below w.heap.size w wr)) (fun v28 _ => n - (intOf v28).toNat)
  case atStart => exact ⟨0, s0, by omega, rfl, HS, hw, HO⟩
  case round =>
    obtain ⟨i, s, hi, rfl, HI, HK, HL⟩ := hrel
    clear HS hw HO
    by_cases hlt : i < n
    · have HSE := Kept.mk (sinv_send HI.out k1 b3)
      have HN := Kept.mk (sinv_tick HI.out k1 b3 b4 (by omega))
      go_wp2_with fail
      refine (tick_c s (a1 + i) _ B HK.out HI.out.fit (by omega) (by omega)).mono ?_
      rintro e w2 ⟨rfl, h2, o2⟩
      rw [HSE.out]
      have H2 := Kept.mk h2
      have HL2 : Kept (Below w.heap.size w w2) := ⟨HL.out.trans (o2.below (B := w.heap.size) (by rintro j rfl; exact hB) HL.out.size)⟩
      generalize alarmT s (a1 + i) = al
      generalize tick s (a1 + i) = s2 at *
      clear h2 o2
      by_cases hz : (i : Int) % k = 0
      · have q1 : ((i : Int) % k == 0) = true := by simp [hz]
        rw [decide_eq_true hz]
        clear hz
        go_wp2_with fail
        go_roundw
        case rel => exact ⟨i + 1, s2, by omega, by go_num, HN, H2, HL2⟩
        case measure => simp [intOf]; omega
      · have q1 : ((i : Int) % k == 0) = false := by simp [hz]
        rw [decide_eq_false hz]
        clear hz
        go_wp2_with fail
        go_roundw
        case rel => exact ⟨i + 1, s2, by omega, by go_num, HN, H2, HL2⟩
        case measure => simp [intOf]; omega
    · go_wp2_with fail
      go_ret
      exact ⟨rfl, HL.out⟩

set_option maxRecDepth 100000 in
theorem liftedKeepaliveSends (os : Os) (started : os.Started) (H : Type) (enc : TypeId × Value → H) :
    ReturnsInHanded {} Try.checked os 4 .any (Rows.keepaliveSendsSpec.pre6 enc Try.prog Try.f4 Rows.keepaliveSendsRow.domain false) (Rows.keepaliveSendsSpec.post enc Try.prog Try.f4 false true false false) := by
  refine returnsInHanded_of_change (C := Try.checked) own started (by kernel_rfl) Try.func4
    (ChangeSpec.witness6 (enc := enc) (C := Try.checked) false ⟨#[], #[.int .u8 0, .int .u8 0, .int .u8 0], []⟩ 8 (by kernel_rfl) (by kernel_rfl) (by kernel_rfl) (by kernel_rfl)) ?_
  intro W base args ds gs before hval0 hW hcnd _
  have hval : ∀ (j : Nat) t v, Try.f4.params[j]? = some t → args[j]? = some v → Value.okWide Try.prog W .any base t v := hval0
  have hW' := hW
  obtain ⟨p, q, hA0, hV, rfl, hfz, hnd⟩ := hW
  have hA : DataW.TrodAll enc Try.prog W 0 (fun _ => true) true Try.f4.params.toList args.toList ds p := hA0
  rw [Try.params4] at hA hval
  obtain ⟨v0, vs0, d0, ds0, p0, q0, hargs, rfl, rfl, h0, r0⟩ := trodAll_cons hA
  obtain ⟨v1, vs1, d1, ds1, p1, q1, rfl, rfl, rfl, h1, r1⟩ := trodAll_cons r0
  obtain ⟨v2, vs2, d2, ds2, p2, q2, rfl, rfl, rfl, h2, r2⟩ := trodAll_cons r1
  obtain ⟨rfl, rfl, rfl⟩ := trodAll_nil r2
  obtain rfl : args = #[v0, v1, v2] := by cases args; simp_all
  obtain ⟨rfl, rfl⟩ := trodVars_none hV
  have k0 := h0
  have lt0 : ∀ x ∈ p0, x.block < W.heap.size := by obtain ⟨m, hm⟩ := k0; exact DataW.trod_lt m _ _ _ hm
  have k1 := h1
  have lt1 : ∀ x ∈ p1, x.block < W.heap.size := by obtain ⟨m, hm⟩ := k1; exact DataW.trod_lt m _ _ _ hm
  have k2 := h2
  have lt2 : ∀ x ∈ p2, x.block < W.heap.size := by obtain ⟨m, hm⟩ := k2; exact DataW.trod_lt m _ _ _ hm
  obtain ⟨a0, rfl, -, -, w0⟩ := open_int Try.underlying5 (hval 0 5 v0 rfl rfl) h0
  obtain ⟨a1, rfl, -, -, w1⟩ := open_int Try.underlying5 (hval 1 5 v1 rfl rfl) h1
  obtain ⟨a2, rfl, -, -, w2⟩ := open_int Try.underlying5 (hval 2 5 v2 rfl rfl) h2
  clear hA0 hval0
  refine (walkKeepaliveSends a0 a1 a2 W w0 w1 w2).mono fun e W' ⟨he, bel⟩ => ?_
  subst he
  exact ⟨_, rfl, _, _, _, [], _, [], hW', trodAll_mk1 (shut_bool Try.underlying4 _), (trodAll_cons_mk (Below.trod laidOut (by kernel_rfl) (of_decide_eq_true (by kernel_rfl)) k0 bel lt0) (trodAll_cons_mk (Below.trod laidOut (by kernel_rfl) (of_decide_eq_true (by kernel_rfl)) k1 bel lt1) (trodAll_cons_mk (Below.trod laidOut (by kernel_rfl) (of_decide_eq_true (by kernel_rfl)) k2 bel lt2) trodAll_mk0))), rfl, bel.frame _, fun h => by cases h⟩
/-- The given statement. -/
theorem keepaliveSends_holds : Rows.KeepaliveSendsSaid :=
  OpenClaim.holds_of_wide 4 Try.f4 rfl rfl rfl rfl rfl rfl rfl ⟨rfl, rfl, rfl, rfl, rfl⟩ rfl rfl rfl rfl rfl (by kernel_rfl) Try.func4 (by kernel_rfl)
    (of_decide_eq_true (by kernel_rfl)) (by unfold Func.isWrapper; first | (rw [if_pos (by decide +kernel)]; kernel_rfl) | (rw [if_neg (by decide +kernel)]; exact ⟨rfl, rfl⟩))
    (fun os started H enc _ => liftedKeepaliveSends os started H enc)
#print axioms keepaliveSends_holds
end Go.Proofs.Ythkilfainkcmgaa
