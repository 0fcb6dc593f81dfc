/- Reconfig: the walks of the exported methods (printed by gen_rapi.py). -/
import Derived.Test.YtibmbhnpmfgclaaRRecB
namespace Go.Proofs.Ytibmbhnpmfgclaa
set_option linter.unusedVariables false
set_option linter.unusedSimpArgs false
open Go.RowKit Go.Maps
/-- What the walks need of all nodes. -/
structure Fit (ns : List Sn) : Prop where
  ep : ∀ v, v < ns.length → (nd ns v).ep ≤ MaxEp
  ph : ∀ v, v < ns.length → (nd ns v).ph ≤ 3
  an : ∀ v, v < ns.length → (nd ns v).an.length ≤ 1000000
def Upd2 (w : World) (L : Lay) (M : List Nm) (o : OutP) (z : Int) (e : Ending) (w' : World) : Prop := ∃ A kap, e = .returned (.tuple #[.slice A o.2.length kap, .int .i64 z]) ∧ Upd w L M o (.returned (.slice A o.2.length kap)) w'
theorem Upd2.none {w w' : World} {L : Lay} {M : List Nm} {z : Int} (h : ChAt w L M) (hb : Below w.heap.size w w') : Upd2 w L M (sns M, []) z (.returned (.tuple #[.slice .none 0 0, .int .i64 z])) w' := ⟨_, _, rfl, Upd.none h hb⟩
theorem m_at {w : World} {L : Lay} {M : List Nm} (h : ChAt w L M) {v : Nat} (hv : v < L.P.length) : ∃ m, M[v]? = some m ∧ nd (sns M) v = m.x := by
  obtain ⟨m, hm⟩ := get_some (l := M) (k := v) (by rw [h.len]; exact hv)
  exact ⟨m, hm, sns_get hm⟩
theorem sl_len {w : World} {L : Lay} {M : List Nm} (h : ChAt w L M) : (sns M).length = L.P.length := by rw [sns_len, h.len]
theorem b3_at {w : World} {L : Lay} {M : List Nm} (h : ChAt w L M) : w.cell? ⟨L.b, 3, none⟩ = some (.slice (some ⟨L.gN, 0, none⟩) L.P.length L.P.length) := h.fix.box.cell 3 rfl
def nodeQ (L : Lay) (v : Int) : Bool := decide (0 ≤ v) && decide (v < (L.P.length : Int))
theorem nodeQ_yes {L : Lay} {v : Int} (h0 : 0 ≤ v) (h1 : v < L.P.length) : nodeQ L v = true := by simp [nodeQ, h0, h1]
theorem nodeQ_no {L : Lay} {v : Int} (h : v < 0 ∨ (L.P.length : Int) ≤ v) : nodeQ L v = false := by simp [nodeQ]; omega
set_option maxHeartbeats 1000000 in
theorem isNode_c (w : World) (L : Lay) (M : List Nm) (v : Int) (h : ChAt w L M) :
    Calls Try.prog 42 #[.pointer (some ⟨L.b, 0, none⟩), .int .i64 v] w fun e w' => e = .returned (.bool (nodeQ L v)) ∧ w = w' := by
  have b3 := b3_at h
  have zb := h.fix.box.lt
  clear h
  by_cases h0 : 0 ≤ v
  · have q0 := decide_eq_true h0
    by_cases h1 : v < L.P.length
    · have q1 := decide_eq_true h1
      rw [nodeQ_yes h0 h1]
      go_enter Try.func42, Try.ntmps42
      go_wp2_with fail
      go_ret
      exact ⟨rfl, rfl⟩
    · have q1 := decide_eq_false h1
      rw [nodeQ_no (.inr (by omega))]
      go_enter Try.func42, Try.ntmps42
      go_wp2_with fail
      go_ret
      exact ⟨rfl, rfl⟩
  · have q0 := decide_eq_false h0
    rw [nodeQ_no (.inl (by omega))]
    go_enter Try.func42, Try.ntmps42
    go_wp2_with fail
    go_ret
    exact ⟨rfl, rfl⟩
set_option maxHeartbeats 4000000 in
theorem Begin_c (w : World) (L : Lay) (M : List Nm) (h : ChAt w L M) (hf : Fit (sns M)) :
    Calls Try.prog 17 #[.pointer (some ⟨L.b, 0, none⟩)] w (Upd2 w L M (beginP L.P L.root (sns M)) (if (nd (sns M) L.root).ph = 0 then 0 else 6)) := by
  obtain ⟨m, hv, hx⟩ := m_at h h.fix.rt
  have hE := hf.ep L.root (by rw [sl_len h]; exact h.fix.rt)
  rw [hx] at hE
  have HE := Kept.mk hE
  have HH := Kept.mk h
  have HV := Kept.mk hv
  have HB0 : Kept (Below w.heap.size w w) := ⟨Below.refl _ _⟩
  have HB : Kept (∀ n : Nat, Below w.heap.size w (w.drewN n)) := ⟨below_dN w⟩
  obtain ⟨pt, hpt, hN⟩ := h.node hv
  obtain ⟨b0, b1, b2, b3, c0, n0, n1, n2, n3, -, vl, sm, zb, zC, zN, pl, nb, nc⟩ := hN
  have hp := hf.ph L.root (by rw [sl_len h]; exact h.fix.rt)
  rw [hx] at hp
  have p0 : (L.P.length : Int) ≠ 0 := by omega
  obtain ⟨q5, q6⟩ := z_no p0
  clear h hv hpt b0 b1 c0 n0 n2 n3 hf hE
  unfold beginP
  rw [hx]
  by_cases h2 : m.x.ph = 0
  · obtain ⟨q3, q4⟩ := z_yes (show (m.x.ph : Int) = 0 by omega)
    rw [if_pos h2, if_pos h2]
    clear h2 hx
    go_enter Try.func17, Try.ntmps17
    go_wp2_with fail
    go_quiet (fail)
    go_wp2_with (go_at_call 41; refine (prepare_c _ L _ L.root _ (HH.out.new_ (by repeat (first | exact HB.out _ | exact HB0.out | refine dN ?_ _ | refine bdrew ?_))) HV.out HE.out).mono ?_; rintro e w1 hu; obtain ⟨A, kap, rfl, hu2⟩ := Upd.ret (Upd.pre hu (by repeat (first | exact HB.out _ | exact HB0.out | refine dN ?_ _ | refine bdrew ?_))); have HU := Kept.mk hu2; clear hu hu2)
    go_ret2
    exact ⟨_, _, rfl, HU.out⟩
  · obtain ⟨q3, q4⟩ := z_no (show (m.x.ph : Int) ≠ 0 by omega)
    rw [if_neg h2, if_neg h2]
    clear h2 hx
    go_enter Try.func17, Try.ntmps17
    go_wp2_with fail
    go_quiet (fail)
    go_wp2_with fail
    go_ret2
    exact Upd2.none HH.out (by repeat (first | exact HB.out _ | exact HB0.out | refine dN ?_ _ | refine bdrew ?_))
set_option maxHeartbeats 4000000 in
theorem Drained_c (w : World) (L : Lay) (M : List Nm) (v : Int) (h : ChAt w L M) (hf : Fit (sns M)) :
    Calls Try.prog 19 #[.pointer (some ⟨L.b, 0, none⟩), .int .i64 v] w (Upd2 w L M (drainP L.P L.root (sns M) v) (drainErr (sns M) v)) := by
  have HH := Kept.mk h
  have HN := Kept.mk (isNode_c w L M v h)
  have hl := sl_len h
  unfold drainP drainErr
  rw [hl]
  by_cases hn : v < 0 ∨ (L.P.length : Int) ≤ v
  · have HQ := Kept.mk (nodeQ_no (L := L) hn)
    rw [if_pos hn, if_neg (by omega)]
    clear h hf hn hl
    go_enter Try.func19, Try.ntmps19
    go_wp2_with (go_at_call 42; refine HN.out.mono ?_; rintro e w1 ⟨rfl, rfl⟩; rw [HQ.out])
    go_ret2
    exact Upd2.none HH.out (Below.refl _ _)
  · obtain ⟨k, rfl⟩ : ∃ k : Nat, v = k := ⟨v.toNat, by omega⟩
    have hkl : k < L.P.length := by omega
    have HQ := Kept.mk (nodeQ_yes (L := L) (v := (k : Int)) (by omega) (by omega))
    obtain ⟨m, hv, hx⟩ := m_at h hkl
    have hE := hf.ep k (by omega)
    rw [hx] at hE
    have HE := Kept.mk hE
    obtain ⟨pt, hpt, hN⟩ := h.node hv
    obtain ⟨b0, b1, b2, b3, c0, n0, n1, n2, n3, f, vl, sm, zb, zC, zN, pl, nb, nc⟩ := hN
    have f3 := f (k * 4 + 3)
    have HP := Kept.mk (drain_at h hv true)
    have HG := Kept.mk (get_self (vlt h hv) (⟨{ m.x with dr := true }, m.mb⟩ : Nm))
    have HS : Kept (sns (M.set k ⟨{ m.x with dr := true }, m.mb⟩) = (sns M).set k { m.x with dr := true }) := ⟨sns_set _ _ _⟩
    have HSL := Kept.mk (fun g => sl_set (L := L) (m' := ⟨{ m.x with dr := true }, m.mb⟩) (B := w.heap.size) hv (.inl rfl) g)
    rw [if_neg hn]
    simp only [Int.toNat_natCast]
    by_cases h3 : m.x.ph = 3
    · have HPH := Kept.mk h3
      obtain ⟨q3, q4⟩ := z_yes (show (m.x.ph : Int) = 3 by omega)
      have he : (if (nd (sns M) k).ph ≠ 3 then (6 : Int) else 0) = 0 := if_neg (fun e => e (by rw [hx]; exact h3))
      rw [he, if_pos rfl, hx]
      clear he
      clear h hf hn hl hv hpt hE hx f h3
      go_enter Try.func19, Try.ntmps19
      go_wp2_with (first | (go_at_call 42; refine HN.out.mono ?_; rintro e w1 ⟨rfl, rfl⟩; rw [HQ.out]) | (go_at_call 47; refine (settle_c _ L _ k _ HP.out.1 HG.out HPH.out HE.out).mono ?_; rintro e w1 hu; rw [HS.out] at hu; obtain ⟨A, kap, rfl, hu2⟩ := Upd.ret (Upd.after hu HP.out.2 HSL.out); have HU := Kept.mk hu2; clear hu hu2))
      go_ret2
      exact ⟨_, _, rfl, HU.out⟩
    · obtain ⟨q3, q4⟩ := z_no (show (m.x.ph : Int) ≠ 3 by omega)
      have he : (if (nd (sns M) k).ph ≠ 3 then (6 : Int) else 0) = 6 := if_pos (by rw [hx]; exact h3)
      rw [he, if_neg (by omega)]
      clear he
      clear h hf hn hl hv hpt hE hx f h3
      go_enter Try.func19, Try.ntmps19
      go_wp2_with (go_at_call 42; refine HN.out.mono ?_; rintro e w1 ⟨rfl, rfl⟩; rw [HQ.out])
      go_ret2
      exact Upd2.none HH.out (Below.refl _ _)
def epQ (ns : List Sn) (v : Int) : Int := if v < 0 ∨ (ns.length : Int) ≤ v then -1 else (nd ns v.toNat).ep
def phQ (ns : List Sn) (v : Int) : Int := if v < 0 ∨ (ns.length : Int) ≤ v then -1 else (nd ns v.toNat).ph
set_option maxHeartbeats 2000000 in
theorem Epoch_c (w : World) (L : Lay) (M : List Nm) (v : Int) (h : ChAt w L M) :
    Calls Try.prog 20 #[.pointer (some ⟨L.b, 0, none⟩), .int .i64 v] w fun e w' => e = .returned (.int .i64 (epQ (sns M) v)) ∧ w = w' := by
  have HN := Kept.mk (isNode_c w L M v h)
  have hl := sl_len h
  unfold epQ
  rw [hl]
  by_cases hn : v < 0 ∨ (L.P.length : Int) ≤ v
  · have HQ := Kept.mk (nodeQ_no (L := L) hn)
    rw [if_pos hn]
    clear h hn hl
    go_enter Try.func20, Try.ntmps20
    go_wp2_with (go_at_call 42; refine HN.out.mono ?_; rintro e w1 ⟨rfl, rfl⟩; rw [HQ.out])
    go_ret
    exact ⟨rfl, rfl⟩
  · obtain ⟨k, rfl⟩ : ∃ k : Nat, v = k := ⟨v.toNat, by omega⟩
    have hkl : k < L.P.length := by omega
    have HQ := Kept.mk (nodeQ_yes (L := L) (v := (k : Int)) (by omega) (by omega))
    obtain ⟨m, hv, hx⟩ := m_at h hkl
    obtain ⟨pt, hpt, hN⟩ := h.node hv
    obtain ⟨b0, b1, b2, b3, c0, n0, n1, n2, n3, -, vl, sm, zb, zC, zN, pl, nb, nc⟩ := hN
    rw [if_neg hn]
    simp only [Int.toNat_natCast]
    rw [hx]
    clear h hn hl hv hpt hx b0 b1 b2 c0 n2 n3
    go_enter Try.func20, Try.ntmps20
    go_wp2_with (go_at_call 42; refine HN.out.mono ?_; rintro e w1 ⟨rfl, rfl⟩; rw [HQ.out])
    go_ret
    exact ⟨rfl, rfl⟩
set_option maxHeartbeats 2000000 in
theorem Phase_c (w : World) (L : Lay) (M : List Nm) (v : Int) (h : ChAt w L M) :
    Calls Try.prog 21 #[.pointer (some ⟨L.b, 0, none⟩), .int .i64 v] w fun e w' => e = .returned (.int .i64 (phQ (sns M) v)) ∧ w = w' := by
  have HN := Kept.mk (isNode_c w L M v h)
  have hl := sl_len h
  unfold phQ
  rw [hl]
  by_cases hn : v < 0 ∨ (L.P.length : Int) ≤ v
  · have HQ := Kept.mk (nodeQ_no (L := L) hn)
    rw [if_pos hn]
    clear h hn hl
    go_enter Try.func21, Try.ntmps21
    go_wp2_with (go_at_call 42; refine HN.out.mono ?_; rintro e w1 ⟨rfl, rfl⟩; rw [HQ.out])
    go_ret
    exact ⟨rfl, rfl⟩
  · obtain ⟨k, rfl⟩ : ∃ k : Nat, v = k := ⟨v.toNat, by omega⟩
    have hkl : k < L.P.length := by omega
    have HQ := Kept.mk (nodeQ_yes (L := L) (v := (k : Int)) (by omega) (by omega))
    obtain ⟨m, hv, hx⟩ := m_at h hkl
    obtain ⟨pt, hpt, hN⟩ := h.node hv
    obtain ⟨b0, b1, b2, b3, c0, n0, n1, n2, n3, -, vl, sm, zb, zC, zN, pl, nb, nc⟩ := hN
    rw [if_neg hn]
    simp only [Int.toNat_natCast]
    rw [hx]
    clear h hn hl hv hpt hx b0 b1 b2 c0 n2 n3
    go_enter Try.func21, Try.ntmps21
    go_wp2_with (go_at_call 42; refine HN.out.mono ?_; rintro e w1 ⟨rfl, rfl⟩; rw [HQ.out])
    go_ret
    exact ⟨rfl, rfl⟩
set_option maxHeartbeats 2000000 in
theorem Finished_c (w : World) (L : Lay) (M : List Nm) (h : ChAt w L M) :
    Calls Try.prog 22 #[.pointer (some ⟨L.b, 0, none⟩)] w fun e w' => e = .returned (.bool (decide ((nd (sns M) L.root).ph = 0))) ∧ ∃ n, w' = w.drewN n := by
  obtain ⟨m, hv, hx⟩ := m_at h h.fix.rt
  obtain ⟨pt, hpt, hN⟩ := h.node hv
  obtain ⟨b0, b1, b2, b3, c0, n0, n1, n2, n3, -, vl, sm, zb, zC, zN, pl, nb, nc⟩ := hN
  have p0 := decide_eq_true (show (0 : Int) < (L.P.length : Int) by omega)
  have p1 := decide_eq_true (show 0 < L.P.length by omega)
  rw [hx]
  by_cases h2 : m.x.ph = 0
  · obtain ⟨q3, q4⟩ := z_yes (show (m.x.ph : Int) = 0 by omega)
    rw [decide_eq_true h2]
    clear h hv hpt hx b0 b1 c0 n0 n2 n3 h2
    go_enter Try.func22, Try.ntmps22
    go_wp2_with fail
    go_quiet (fail)
    go_wp2_with fail
    go_ret
    exact ⟨rfl, _, rfl⟩
  · obtain ⟨q3, q4⟩ := z_no (show (m.x.ph : Int) ≠ 0 by omega)
    rw [decide_eq_false h2]
    clear h hv hpt hx b0 b1 c0 n0 n2 n3 h2
    go_enter Try.func22, Try.ntmps22
    go_wp2_with fail
    go_quiet (fail)
    go_wp2_with fail
    go_ret
    exact ⟨rfl, _, rfl⟩
theorem par_at {w : World} {L : Lay} {M : List Nm} (h : ChAt w L M) {v : Nat} (hv : v < L.P.length) : ∃ b off, L.Ap = some ⟨b, off, none⟩ ∧ b < w.heap.size ∧ w.cell? ⟨b, off + v, none⟩ = some (.int .i64 (parI L.P v)) := by
  obtain ⟨x, b, off, hx, hA, -, hb, hc⟩ := (RowsAt.of_own h.fix.par icell_len (by omega) rfl).at_ hv
  have c0 := hc 0 _ rfl
  simp only [Nat.add_zero, Nat.mul_one] at c0
  exact ⟨b, off, hA, hb, by rw [c0]; simp [parI, hx]⟩
set_option maxHeartbeats 4000000 in
theorem Receive_kind (w : World) (L : Lay) (M : List Nm) (k f t ep : Int) (h : ChAt w L M) (hk : k < 1 ∨ 4 < k) :
    Calls Try.prog 18 #[.pointer (some ⟨L.b, 0, none⟩), .agg #[.int .i64 k, .int .i64 f, .int .i64 t, .int .i64 ep]] w (Upd2 w L M (sns M, []) 16) := by
  have HH := Kept.mk h
  have HB := Kept.mk (box_below w (.cells #[.int .i64 k, .int .i64 f, .int .i64 t, .int .i64 ep] 39))
  have HB0 : Kept (Below w.heap.size w (w.alloc (.cells #[.int .i64 k, .int .i64 f, .int .i64 t, .int .i64 ep] 39))) := ⟨(Below.refl _ _).alloc (Nat.le_refl _) _⟩
  have HN := Kept.mk (fun v => isNode_c (w.alloc (.cells #[.int .i64 k, .int .i64 f, .int .i64 t, .int .i64 ep] 39)) L M v (h.new_ HB0.out))
  by_cases h1 : k < 1
  · have q1 := decide_eq_true h1
    clear h hk
    go_enter Try.func18, Try.ntmps18
    go_wp2_with fail
    go_ret2
    exact Upd2.none HH.out (by repeat (first | exact HB.out _ | exact HB0.out | refine dN ?_ _ | refine bdrew ?_))
  · have q1 := decide_eq_false h1
    have q2 := decide_eq_true (show 4 < k by omega)
    clear h hk
    go_enter Try.func18, Try.ntmps18
    go_wp2_with fail
    go_ret2
    exact Upd2.none HH.out (by repeat (first | exact HB.out _ | exact HB0.out | refine dN ?_ _ | refine bdrew ?_))
set_option maxHeartbeats 4000000 in
theorem Receive_range (w : World) (L : Lay) (M : List Nm) (k f t ep : Int) (h : ChAt w L M) (hk : ¬ (k < 1 ∨ 4 < k)) (hr : f < 0 ∨ L.P.length ≤ f ∨ t < 0 ∨ L.P.length ≤ t) :
    Calls Try.prog 18 #[.pointer (some ⟨L.b, 0, none⟩), .agg #[.int .i64 k, .int .i64 f, .int .i64 t, .int .i64 ep]] w (Upd2 w L M (sns M, []) 2) := by
  have HH := Kept.mk h
  have HB := Kept.mk (box_below w (.cells #[.int .i64 k, .int .i64 f, .int .i64 t, .int .i64 ep] 39))
  have HB0 : Kept (Below w.heap.size w (w.alloc (.cells #[.int .i64 k, .int .i64 f, .int .i64 t, .int .i64 ep] 39))) := ⟨(Below.refl _ _).alloc (Nat.le_refl _) _⟩
  have HN := Kept.mk (fun v => isNode_c (w.alloc (.cells #[.int .i64 k, .int .i64 f, .int .i64 t, .int .i64 ep] 39)) L M v (h.new_ HB0.out))
  have q1 := decide_eq_false (show ¬ k < 1 by omega)
  have q2 := decide_eq_false (show ¬ 4 < k by omega)
  by_cases h1 : f < 0 ∨ L.P.length ≤ f
  · have HQ1 := Kept.mk (nodeQ_no (L := L) h1)
    clear h hk hr h1
    go_enter Try.func18, Try.ntmps18
    go_wp2_with (go_at_call 42; refine (HN.out _).mono ?_; rintro e w1 ⟨rfl, rfl⟩; rw [HQ1.out])
    go_ret2
    exact Upd2.none HH.out (by repeat (first | exact HB.out _ | exact HB0.out | refine dN ?_ _ | refine bdrew ?_))
  · have HQ1 := Kept.mk (nodeQ_yes (L := L) (v := f) (by omega) (by omega))
    have HQ2 := Kept.mk (nodeQ_no (L := L) (v := t) (by omega))
    clear h hk hr h1
    go_enter Try.func18, Try.ntmps18
    go_wp2_with (go_at_call 42; refine (HN.out _).mono ?_; rintro e w1 ⟨rfl, rfl⟩; first | rw [HQ1.out] | rw [HQ2.out])
    go_ret2
    exact Upd2.none HH.out (by repeat (first | exact HB.out _ | exact HB0.out | refine dN ?_ _ | refine bdrew ?_))
set_option maxRecDepth 100000 in
set_option maxHeartbeats 4000000 in
theorem Receive_1 (w : World) (L : Lay) (M : List Nm) (f t : Nat) (ep : Int) (h : ChAt w L M) (hf : Fit (sns M)) (hfl : f < L.P.length) (htl : t < L.P.length) :
    Calls Try.prog 18 #[.pointer (some ⟨L.b, 0, none⟩), .agg #[.int .i64 1, .int .i64 f, .int .i64 t, .int .i64 ep]] w (fun e w' => (parI L.P t ≠ (f : Int) → Upd2 w L M (sns M, []) 12 e w') ∧ (parI L.P t = (f : Int) → Upd2 w L M (recvPrepareP L.P L.root (sns M) f t ep) 0 e w')) := by
  have HH := Kept.mk h
  have HB := Kept.mk (box_below w (.cells #[.int .i64 1, .int .i64 f, .int .i64 t, .int .i64 ep] 39))
  have HB0 : Kept (Below w.heap.size w (w.alloc (.cells #[.int .i64 1, .int .i64 f, .int .i64 t, .int .i64 ep] 39))) := ⟨(Below.refl _ _).alloc (Nat.le_refl _) _⟩
  have HN := Kept.mk (fun v => isNode_c (w.alloc (.cells #[.int .i64 1, .int .i64 f, .int .i64 t, .int .i64 ep] 39)) L M v (h.new_ HB0.out))
  have HQ1 := Kept.mk (nodeQ_yes (L := L) (v := (f : Int)) (by omega) (by omega))
  have HQ2 := Kept.mk (nodeQ_yes (L := L) (v := (t : Int)) (by omega) (by omega))
  obtain ⟨m, hv, hx⟩ := m_at h htl
  have hE := hf.ep t (by rw [sl_len h]; exact htl)
  have hP := hf.ph t (by rw [sl_len h]; exact htl)
  have hL := hf.an t (by rw [sl_len h]; exact htl)
  rw [hx] at hE hP hL
  have HE := Kept.mk hE
  have HP := Kept.mk hP
  have HL := Kept.mk hL
  have HV := Kept.mk hv
  have HF : Kept (f ≤ 1000000) := ⟨by have := h.fix.sm; omega⟩
  obtain ⟨b, off, hA, hb, hc⟩ := par_at h htl
  have HA := Kept.mk hA
  have b0 : w.cell? ⟨L.b, 0, none⟩ = some (.slice L.Ap L.P.length L.kp) := h.fix.box.cell 0 rfl
  have zb := h.fix.box.lt
  rw [hA] at b0
  by_cases hq : parI L.P t = (f : Int)
  · obtain ⟨q1, q2⟩ := z_yes hq
    have HW : Kept (∀ e w', Upd2 w L M (recvPrepareP L.P L.root (sns M) f t ep) 0 e w' → (parI L.P t ≠ (f : Int) → Upd2 w L M (sns M, []) 12 e w') ∧ (parI L.P t = (f : Int) → Upd2 w L M (recvPrepareP L.P L.root (sns M) f t ep) 0 e w')) := ⟨fun e w' h => ⟨fun hn => absurd hq hn, fun _ => h⟩⟩
    clear h hf hv hx hE hP hL hA hq
    refine Calls.mono ?_ HW.out
    generalize parI L.P t = pa at *
    go_enter Try.func18, Try.ntmps18
    go_wp2_with (go_at_call 42; refine (HN.out _).mono ?_; rintro e w1 ⟨rfl, rfl⟩; first | rw [HQ1.out] | rw [HQ2.out])
    go_quiet (fail)
    go_wp2_with (go_at_call 43; refine (recvPrepare_c _ L _ 1 ep f t _ (HH.out.new_ (by repeat (first | exact HB.out _ | exact HB0.out | refine dN ?_ _ | refine bdrew ?_))) HV.out HE.out HP.out).mono ?_; rintro e w1 hu; obtain ⟨A, kap, rfl, hu2⟩ := Upd.ret (Upd.pre hu (by repeat (first | exact HB.out _ | exact HB0.out | refine dN ?_ _ | refine bdrew ?_))); have HU := Kept.mk hu2; clear hu hu2)
    go_ret2
    exact ⟨_, _, rfl, HU.out⟩
  · obtain ⟨q1, q2⟩ := z_no hq
    have HW : Kept (∀ e w', Upd2 w L M (sns M, []) 12 e w' → (parI L.P t ≠ (f : Int) → Upd2 w L M (sns M, []) 12 e w') ∧ (parI L.P t = (f : Int) → Upd2 w L M (recvPrepareP L.P L.root (sns M) f t ep) 0 e w')) := ⟨fun e w' h => ⟨fun _ => h, fun he => absurd he hq⟩⟩
    clear h hf hv hx hE hP hL hA hq
    refine Calls.mono ?_ HW.out
    generalize parI L.P t = pa at *
    go_enter Try.func18, Try.ntmps18
    go_wp2_with (go_at_call 42; refine (HN.out _).mono ?_; rintro e w1 ⟨rfl, rfl⟩; first | rw [HQ1.out] | rw [HQ2.out])
    go_quiet (fail)
    go_wp2_with fail
    go_ret2
    exact Upd2.none HH.out (by repeat (first | exact HB.out _ | exact HB0.out | refine dN ?_ _ | refine bdrew ?_))
set_option maxRecDepth 100000 in
set_option maxHeartbeats 4000000 in
theorem Receive_2 (w : World) (L : Lay) (M : List Nm) (f t : Nat) (ep : Int) (h : ChAt w L M) (hf : Fit (sns M)) (hfl : f < L.P.length) (htl : t < L.P.length) :
    Calls Try.prog 18 #[.pointer (some ⟨L.b, 0, none⟩), .agg #[.int .i64 2, .int .i64 f, .int .i64 t, .int .i64 ep]] w (fun e w' => (parI L.P f ≠ (t : Int) → Upd2 w L M (sns M, []) 12 e w') ∧ (parI L.P f = (t : Int) → Upd2 w L M (recvReadyP L.P L.root (sns M) f t ep) 0 e w')) := by
  have HH := Kept.mk h
  have HB := Kept.mk (box_below w (.cells #[.int .i64 2, .int .i64 f, .int .i64 t, .int .i64 ep] 39))
  have HB0 : Kept (Below w.heap.size w (w.alloc (.cells #[.int .i64 2, .int .i64 f, .int .i64 t, .int .i64 ep] 39))) := ⟨(Below.refl _ _).alloc (Nat.le_refl _) _⟩
  have HN := Kept.mk (fun v => isNode_c (w.alloc (.cells #[.int .i64 2, .int .i64 f, .int .i64 t, .int .i64 ep] 39)) L M v (h.new_ HB0.out))
  have HQ1 := Kept.mk (nodeQ_yes (L := L) (v := (f : Int)) (by omega) (by omega))
  have HQ2 := Kept.mk (nodeQ_yes (L := L) (v := (t : Int)) (by omega) (by omega))
  obtain ⟨m, hv, hx⟩ := m_at h htl
  have hE := hf.ep t (by rw [sl_len h]; exact htl)
  have hP := hf.ph t (by rw [sl_len h]; exact htl)
  have hL := hf.an t (by rw [sl_len h]; exact htl)
  rw [hx] at hE hP hL
  have HE := Kept.mk hE
  have HP := Kept.mk hP
  have HL := Kept.mk hL
  have HV := Kept.mk hv
  have HF : Kept (f ≤ 1000000) := ⟨by have := h.fix.sm; omega⟩
  obtain ⟨b, off, hA, hb, hc⟩ := par_at h hfl
  have HA := Kept.mk hA
  have b0 : w.cell? ⟨L.b, 0, none⟩ = some (.slice L.Ap L.P.length L.kp) := h.fix.box.cell 0 rfl
  have zb := h.fix.box.lt
  rw [hA] at b0
  by_cases hq : parI L.P f = (t : Int)
  · obtain ⟨q1, q2⟩ := z_yes hq
    have HW : Kept (∀ e w', Upd2 w L M (recvReadyP L.P L.root (sns M) f t ep) 0 e w' → (parI L.P f ≠ (t : Int) → Upd2 w L M (sns M, []) 12 e w') ∧ (parI L.P f = (t : Int) → Upd2 w L M (recvReadyP L.P L.root (sns M) f t ep) 0 e w')) := ⟨fun e w' h => ⟨fun hn => absurd hq hn, fun _ => h⟩⟩
    clear h hf hv hx hE hP hL hA hq
    refine Calls.mono ?_ HW.out
    generalize parI L.P f = pa at *
    go_enter Try.func18, Try.ntmps18
    go_wp2_with (go_at_call 42; refine (HN.out _).mono ?_; rintro e w1 ⟨rfl, rfl⟩; first | rw [HQ1.out] | rw [HQ2.out])
    go_quiet (fail)
    go_wp2_with (go_at_call 44; refine (recvReady_c _ L _ 2 ep f t _ (HH.out.new_ (by repeat (first | exact HB.out _ | exact HB0.out | refine dN ?_ _ | refine bdrew ?_))) HV.out HE.out HP.out HF.out HL.out).mono ?_; rintro e w1 hu; obtain ⟨A, kap, rfl, hu2⟩ := Upd.ret (Upd.pre hu (by repeat (first | exact HB.out _ | exact HB0.out | refine dN ?_ _ | refine bdrew ?_))); have HU := Kept.mk hu2; clear hu hu2)
    go_ret2
    exact ⟨_, _, rfl, HU.out⟩
  · obtain ⟨q1, q2⟩ := z_no hq
    have HW : Kept (∀ e w', Upd2 w L M (sns M, []) 12 e w' → (parI L.P f ≠ (t : Int) → Upd2 w L M (sns M, []) 12 e w') ∧ (parI L.P f = (t : Int) → Upd2 w L M (recvReadyP L.P L.root (sns M) f t ep) 0 e w')) := ⟨fun e w' h => ⟨fun _ => h, fun he => absurd he hq⟩⟩
    clear h hf hv hx hE hP hL hA hq
    refine Calls.mono ?_ HW.out
    generalize parI L.P f = pa at *
    go_enter Try.func18, Try.ntmps18
    go_wp2_with (go_at_call 42; refine (HN.out _).mono ?_; rintro e w1 ⟨rfl, rfl⟩; first | rw [HQ1.out] | rw [HQ2.out])
    go_quiet (fail)
    go_wp2_with fail
    go_ret2
    exact Upd2.none HH.out (by repeat (first | exact HB.out _ | exact HB0.out | refine dN ?_ _ | refine bdrew ?_))
set_option maxRecDepth 100000 in
set_option maxHeartbeats 4000000 in
theorem Receive_3 (w : World) (L : Lay) (M : List Nm) (f t : Nat) (ep : Int) (h : ChAt w L M) (hf : Fit (sns M)) (hfl : f < L.P.length) (htl : t < L.P.length) :
    Calls Try.prog 18 #[.pointer (some ⟨L.b, 0, none⟩), .agg #[.int .i64 3, .int .i64 f, .int .i64 t, .int .i64 ep]] w (fun e w' => (parI L.P t ≠ (f : Int) → Upd2 w L M (sns M, []) 12 e w') ∧ (parI L.P t = (f : Int) → Upd2 w L M (recvCommitP L.P L.root (sns M) f t ep) 0 e w')) := by
  have HH := Kept.mk h
  have HB := Kept.mk (box_below w (.cells #[.int .i64 3, .int .i64 f, .int .i64 t, .int .i64 ep] 39))
  have HB0 : Kept (Below w.heap.size w (w.alloc (.cells #[.int .i64 3, .int .i64 f, .int .i64 t, .int .i64 ep] 39))) := ⟨(Below.refl _ _).alloc (Nat.le_refl _) _⟩
  have HN := Kept.mk (fun v => isNode_c (w.alloc (.cells #[.int .i64 3, .int .i64 f, .int .i64 t, .int .i64 ep] 39)) L M v (h.new_ HB0.out))
  have HQ1 := Kept.mk (nodeQ_yes (L := L) (v := (f : Int)) (by omega) (by omega))
  have HQ2 := Kept.mk (nodeQ_yes (L := L) (v := (t : Int)) (by omega) (by omega))
  obtain ⟨m, hv, hx⟩ := m_at h htl
  have hE := hf.ep t (by rw [sl_len h]; exact htl)
  have hP := hf.ph t (by rw [sl_len h]; exact htl)
  have hL := hf.an t (by rw [sl_len h]; exact htl)
  rw [hx] at hE hP hL
  have HE := Kept.mk hE
  have HP := Kept.mk hP
  have HL := Kept.mk hL
  have HV := Kept.mk hv
  have HF : Kept (f ≤ 1000000) := ⟨by have := h.fix.sm; omega⟩
  obtain ⟨b, off, hA, hb, hc⟩ := par_at h htl
  have HA := Kept.mk hA
  have b0 : w.cell? ⟨L.b, 0, none⟩ = some (.slice L.Ap L.P.length L.kp) := h.fix.box.cell 0 rfl
  have zb := h.fix.box.lt
  rw [hA] at b0
  by_cases hq : parI L.P t = (f : Int)
  · obtain ⟨q1, q2⟩ := z_yes hq
    have HW : Kept (∀ e w', Upd2 w L M (recvCommitP L.P L.root (sns M) f t ep) 0 e w' → (parI L.P t ≠ (f : Int) → Upd2 w L M (sns M, []) 12 e w') ∧ (parI L.P t = (f : Int) → Upd2 w L M (recvCommitP L.P L.root (sns M) f t ep) 0 e w')) := ⟨fun e w' h => ⟨fun hn => absurd hq hn, fun _ => h⟩⟩
    clear h hf hv hx hE hP hL hA hq
    refine Calls.mono ?_ HW.out
    generalize parI L.P t = pa at *
    go_enter Try.func18, Try.ntmps18
    go_wp2_with (go_at_call 42; refine (HN.out _).mono ?_; rintro e w1 ⟨rfl, rfl⟩; first | rw [HQ1.out] | rw [HQ2.out])
    go_quiet (fail)
    go_wp2_with (go_at_call 45; refine (recvCommit_c _ L _ 3 ep f t _ (HH.out.new_ (by repeat (first | exact HB.out _ | exact HB0.out | refine dN ?_ _ | refine bdrew ?_))) HV.out HE.out HP.out).mono ?_; rintro e w1 hu; obtain ⟨A, kap, rfl, hu2⟩ := Upd.ret (Upd.pre hu (by repeat (first | exact HB.out _ | exact HB0.out | refine dN ?_ _ | refine bdrew ?_))); have HU := Kept.mk hu2; clear hu hu2)
    go_ret2
    exact ⟨_, _, rfl, HU.out⟩
  · obtain ⟨q1, q2⟩ := z_no hq
    have HW : Kept (∀ e w', Upd2 w L M (sns M, []) 12 e w' → (parI L.P t ≠ (f : Int) → Upd2 w L M (sns M, []) 12 e w') ∧ (parI L.P t = (f : Int) → Upd2 w L M (recvCommitP L.P L.root (sns M) f t ep) 0 e w')) := ⟨fun e w' h => ⟨fun _ => h, fun he => absurd he hq⟩⟩
    clear h hf hv hx hE hP hL hA hq
    refine Calls.mono ?_ HW.out
    generalize parI L.P t = pa at *
    go_enter Try.func18, Try.ntmps18
    go_wp2_with (go_at_call 42; refine (HN.out _).mono ?_; rintro e w1 ⟨rfl, rfl⟩; first | rw [HQ1.out] | rw [HQ2.out])
    go_quiet (fail)
    go_wp2_with fail
    go_ret2
    exact Upd2.none HH.out (by repeat (first | exact HB.out _ | exact HB0.out | refine dN ?_ _ | refine bdrew ?_))
set_option maxRecDepth 100000 in
set_option maxHeartbeats 4000000 in
theorem Receive_4 (w : World) (L : Lay) (M : List Nm) (f t : Nat) (ep : Int) (h : ChAt w L M) (hf : Fit (sns M)) (hfl : f < L.P.length) (htl : t < L.P.length) :
    Calls Try.prog 18 #[.pointer (some ⟨L.b, 0, none⟩), .agg #[.int .i64 4, .int .i64 f, .int .i64 t, .int .i64 ep]] w (fun e w' => (parI L.P f ≠ (t : Int) → Upd2 w L M (sns M, []) 12 e w') ∧ (parI L.P f = (t : Int) → Upd2 w L M (recvDoneP L.P L.root (sns M) f t ep) 0 e w')) := by
  have HH := Kept.mk h
  have HB := Kept.mk (box_below w (.cells #[.int .i64 4, .int .i64 f, .int .i64 t, .int .i64 ep] 39))
  have HB0 : Kept (Below w.heap.size w (w.alloc (.cells #[.int .i64 4, .int .i64 f, .int .i64 t, .int .i64 ep] 39))) := ⟨(Below.refl _ _).alloc (Nat.le_refl _) _⟩
  have HN := Kept.mk (fun v => isNode_c (w.alloc (.cells #[.int .i64 4, .int .i64 f, .int .i64 t, .int .i64 ep] 39)) L M v (h.new_ HB0.out))
  have HQ1 := Kept.mk (nodeQ_yes (L := L) (v := (f : Int)) (by omega) (by omega))
  have HQ2 := Kept.mk (nodeQ_yes (L := L) (v := (t : Int)) (by omega) (by omega))
  obtain ⟨m, hv, hx⟩ := m_at h htl
  have hE := hf.ep t (by rw [sl_len h]; exact htl)
  have hP := hf.ph t (by rw [sl_len h]; exact htl)
  have hL := hf.an t (by rw [sl_len h]; exact htl)
  rw [hx] at hE hP hL
  have HE := Kept.mk hE
  have HP := Kept.mk hP
  have HL := Kept.mk hL
  have HV := Kept.mk hv
  have HF : Kept (f ≤ 1000000) := ⟨by have := h.fix.sm; omega⟩
  obtain ⟨b, off, hA, hb, hc⟩ := par_at h hfl
  have HA := Kept.mk hA
  have b0 : w.cell? ⟨L.b, 0, none⟩ = some (.slice L.Ap L.P.length L.kp) := h.fix.box.cell 0 rfl
  have zb := h.fix.box.lt
  rw [hA] at b0
  by_cases hq : parI L.P f = (t : Int)
  · obtain ⟨q1, q2⟩ := z_yes hq
    have HW : Kept (∀ e w', Upd2 w L M (recvDoneP L.P L.root (sns M) f t ep) 0 e w' → (parI L.P f ≠ (t : Int) → Upd2 w L M (sns M, []) 12 e w') ∧ (parI L.P f = (t : Int) → Upd2 w L M (recvDoneP L.P L.root (sns M) f t ep) 0 e w')) := ⟨fun e w' h => ⟨fun hn => absurd hq hn, fun _ => h⟩⟩
    clear h hf hv hx hE hP hL hA hq
    refine Calls.mono ?_ HW.out
    generalize parI L.P f = pa at *
    go_enter Try.func18, Try.ntmps18
    go_wp2_with (go_at_call 42; refine (HN.out _).mono ?_; rintro e w1 ⟨rfl, rfl⟩; first | rw [HQ1.out] | rw [HQ2.out])
    go_quiet (fail)
    go_wp2_with (go_at_call 46; refine (recvDone_c _ L _ 4 ep f t _ (HH.out.new_ (by repeat (first | exact HB.out _ | exact HB0.out | refine dN ?_ _ | refine bdrew ?_))) HV.out HE.out HP.out HF.out HL.out).mono ?_; rintro e w1 hu; obtain ⟨A, kap, rfl, hu2⟩ := Upd.ret (Upd.pre hu (by repeat (first | exact HB.out _ | exact HB0.out | refine dN ?_ _ | refine bdrew ?_))); have HU := Kept.mk hu2; clear hu hu2)
    go_ret2
    exact ⟨_, _, rfl, HU.out⟩
  · obtain ⟨q1, q2⟩ := z_no hq
    have HW : Kept (∀ e w', Upd2 w L M (sns M, []) 12 e w' → (parI L.P f ≠ (t : Int) → Upd2 w L M (sns M, []) 12 e w') ∧ (parI L.P f = (t : Int) → Upd2 w L M (recvDoneP L.P L.root (sns M) f t ep) 0 e w')) := ⟨fun e w' h => ⟨fun _ => h, fun he => absurd he hq⟩⟩
    clear h hf hv hx hE hP hL hA hq
    refine Calls.mono ?_ HW.out
    generalize parI L.P f = pa at *
    go_enter Try.func18, Try.ntmps18
    go_wp2_with (go_at_call 42; refine (HN.out _).mono ?_; rintro e w1 ⟨rfl, rfl⟩; first | rw [HQ1.out] | rw [HQ2.out])
    go_quiet (fail)
    go_wp2_with fail
    go_ret2
    exact Upd2.none HH.out (by repeat (first | exact HB.out _ | exact HB0.out | refine dN ?_ _ | refine bdrew ?_))
theorem Receive_c (w : World) (L : Lay) (M : List Nm) (m : Mg) (h : ChAt w L M) (hf : Fit (sns M)) :
    Calls Try.prog 18 #[.pointer (some ⟨L.b, 0, none⟩), mv m] w (Upd2 w L M (recvP L.P L.root (sns M) m) (errP L.P m)) := by
  obtain ⟨k, f, t, ep⟩ := m
  unfold mv recvP errP goP
  simp only
  by_cases hk : k < 1 ∨ 4 < k
  · rw [if_pos hk, if_neg (by omega)]
    exact Receive_kind w L M k f t ep h hk
  rw [if_neg hk]
  by_cases hr : f < 0 ∨ L.P.length ≤ f ∨ t < 0 ∨ L.P.length ≤ t
  · rw [if_pos hr, if_neg (by omega)]
    exact Receive_range w L M k f t ep h hk hr
  rw [if_neg hr]
  obtain ⟨f, rfl⟩ : ∃ n : Nat, f = n := ⟨f.toNat, by omega⟩
  obtain ⟨t, rfl⟩ : ∃ n : Nat, t = n := ⟨t.toNat, by omega⟩
  simp only [Int.toNat_natCast]
  have hfl : f < L.P.length := by omega
  have htl : t < L.P.length := by omega
  rcases (by omega : k = 1 ∨ k = 2 ∨ k = 3 ∨ k = 4) with rfl | rfl | rfl | rfl
  · refine (Receive_1 w L M f t ep h hf hfl htl).mono fun e w' hu => ?_
    by_cases hq : parI L.P t = (f : Int)
    · have h2 := hu.2 hq
      simpa [hq] using h2
    · have h2 := hu.1 hq
      simpa [hq] using h2
  · refine (Receive_2 w L M f t ep h hf hfl htl).mono fun e w' hu => ?_
    by_cases hq : parI L.P f = (t : Int)
    · have h2 := hu.2 hq
      simpa [hq] using h2
    · have h2 := hu.1 hq
      simpa [hq] using h2
  · refine (Receive_3 w L M f t ep h hf hfl htl).mono fun e w' hu => ?_
    by_cases hq : parI L.P t = (f : Int)
    · have h2 := hu.2 hq
      simpa [hq] using h2
    · have h2 := hu.1 hq
      simpa [hq] using h2
  · refine (Receive_4 w L M f t ep h hf hfl htl).mono fun e w' hu => ?_
    by_cases hq : parI L.P f = (t : Int)
    · have h2 := hu.2 hq
      simpa [hq] using h2
    · have h2 := hu.1 hq
      simpa [hq] using h2
end Go.Proofs.Ytibmbhnpmfgclaa
