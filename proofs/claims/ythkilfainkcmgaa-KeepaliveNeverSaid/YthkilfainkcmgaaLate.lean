/- Keepalive: a watch whose peer has become silent, as plain data. -/
import Derived.Test.YthkilfainkcmgaaRefS
namespace Go.Proofs.Ythkilfainkcmgaa
set_option linter.unusedVariables false
set_option linter.unusedSimpArgs false
/-- What the clock shows. -/
def cx (s n d : Int) (t : Nat) : Int := s + (t : Int) * n / d
/-- A clock within its drift. -/
structure Clk (s n d p : Int) : Prop where
  s0 : 0 ≤ s
  s1 : s ≤ 536870912
  n1 : 1 ≤ n
  d1 : 1 ≤ d
  nd : n ≤ 2 * d
  p0 : 0 ≤ p
  p1 : p ≤ 100000
  a : (n - d) * 1000000 ≤ p * d
  b : (d - n) * 1000000 ≤ p * d
theorem cx_step {s n d p : Int} (h : Clk s n d p) (t : Nat) : cx s n d t ≤ cx s n d (t + 1) ∧ cx s n d (t + 1) ≤ cx s n d t + 2 := by
  have := adv_bd (t := (t : Int)) (show 0 ≤ n by have := h.n1; omega) h.d1 h.nd
  unfold cx
  rw [show ((t + 1 : Nat) : Int) = (t : Int) + 1 by omega]
  omega
theorem cx_zero (s n d : Int) : cx s n d 0 = s := by simp [cx]
theorem cx_bd {s n d p : Int} (h : Clk s n d p) (t : Nat) : s ≤ cx s n d t ∧ cx s n d t ≤ s + 2 * t := by
  induction t with
  | zero => rw [cx_zero]; omega
  | succ t ih => have := cx_step h t; omega
theorem cx_mono {s n d p : Int} (h : Clk s n d p) {a b : Nat} (hab : a ≤ b) : cx s n d a ≤ cx s n d b := by
  induction b with
  | zero => obtain rfl : a = 0 := by omega
            exact Int.le_refl _
  | succ b ih =>
    rcases Nat.lt_or_eq_of_le hab with h1 | rfl
    · have := ih (by omega); have := cx_step h b; omega
    · exact Int.le_refl _
theorem high_mono_e {e e' p : Int} (h : e ≤ e') (hp : p ≤ 100000) : highI e p ≤ highI e' p := by
  unfold highI
  exact div_mono (by omega) (by omega)
/-- A difference of at most D has room for at most High(D) true ticks. -/
theorem cx_room {s n d p : Int} (h : Clk s n d p) {k L : Nat} {D : Int} (hD : cx s n d (k + L) - cx s n d k ≤ D) : (L : Int) ≤ highI D p := by
  have h1 := holds_bd (n := n) (d := d) (f := (k : Int)) (L := (L : Int)) (p := p) h.n1 h.d1 (by omega) h.p0 h.p1 h.a h.b
  have h2 : ((k : Int) + (L : Int)) * n / d - (k : Int) * n / d = cx s n d (k + L) - cx s n d k := by
    unfold cx
    rw [show ((k + L : Nat) : Int) = (k : Int) + (L : Int) by omega]
    omega
  rw [h2] at h1
  have := high_mono_e (p := p) hD h.p1
  omega
structure LInv (X : Nat → Int) (D N : Int) (k t : Nat) (st : St) (at_ : Int) : Prop where
  dead : st.dead = D
  fit : Fit st
  al : st.alarms ≤ t
  zero : t = 0 → st.begun = false ∧ st.any = false ∧ st.now = 0 ∧ st.alarmed = false
  run : 0 < t → st.begun = true ∧ st.now = X (t - 1)
  early : 0 < t → t ≤ k → st.last = X 0 ∧ ((k : Int) ≤ D / 2 → st.alarmed = false)
  none_ : t ≤ k → at_ = -1
  late : k < t → st.last = X k ∧ st.alarmed = decide (D < X (t - 1) - X k)
  off : k < t → st.alarmed = false → at_ = -1
  on_ : k < t → st.alarmed = true → (k : Int) < at_ ∧ at_ ≤ (k : Int) + N + 1
theorem linv_zero (X : Nat → Int) (D N : Int) (k : Nat) : LInv X D N k 0 (new 1 D) (-1) :=
  ⟨rfl, fit_new _ _, by simp [new], fun _ => ⟨rfl, rfl, rfl, rfl⟩, fun h => absurd h (by omega), fun h => absurd h (by omega), fun _ => rfl, fun h => absurd h (by omega), fun h => absurd h (by omega), fun h => absurd h (by omega)⟩
def step1 (k t : Nat) (x : Int) (st : St) : St := if t = k then heard st x else st
theorem s1_ne {k t : Nat} {x : Int} {st : St} (h : t ≠ k) : step1 k t x st = st := if_neg h
theorem s1_eq {k t : Nat} {x : Int} {st : St} (h : t = k) : step1 k t x st = heard st x := if_pos h
section
variable {s n d p D : Int} {k t : Nat} {st : St} {at_ : Int}
theorem linv_cur (hc : Clk s n d p) (h : LInv (cx s n d) D (highI D p) k t st at_) : st.now ≤ cx s n d t := by
  rcases Nat.eq_zero_or_pos t with h0 | h0
  · have := (h.zero h0).2.2.1; have := (cx_bd hc t).1; have := hc.s0; omega
  · have h1 := (h.run h0).2
    have := cx_mono hc (show t - 1 ≤ t by omega)
    omega
theorem linv_fit1 (hc : Clk s n d p) (h : LInv (cx s n d) D (highI D p) k t st at_) (ht : t ≤ 1000) : Fit (step1 k t (cx s n d t) st) := by
  have := cx_bd hc t; have := hc.s0; have := hc.s1
  unfold step1
  split
  · exact fit_heard h.fit (by omega) (by omega)
  · exact h.fit
/-- No alarm while the signs still come, if the last one comes early. -/
theorem linv_quiet (hc : Clk s n d p) (h : LInv (cx s n d) D (highI D p) k t st at_) (hD : 1 ≤ D) (ht : t ≤ k) (hk : t = k ∨ (k : Int) ≤ D / 2) : alarmT (step1 k t (cx s n d t) st) (cx s n d t) = false := by
  have hcur := linv_cur hc h
  have hbd := cx_bd hc t
  unfold step1
  by_cases hkt : t = k
  · rw [if_pos hkt]
    simp [alarmT, lastT, heard, h.dead]
    omega
  · rw [if_neg hkt]
    have hk2 : (k : Int) ≤ D / 2 := by rcases hk with h | h; exact absurd h hkt; exact h
    rcases Nat.eq_zero_or_pos t with h0 | h0
    · obtain ⟨z1, z2, z3, z4⟩ := h.zero h0
      simp [alarmT, lastT, z1, z2, h.dead]
      intro; omega
    · obtain ⟨r1, r2⟩ := h.run h0
      obtain ⟨e1, e2⟩ := h.early h0 ht
      have hz := cx_zero s n d
      simp only [alarmT, lastT, r1, e1, h.dead, Bool.true_or, if_true]
      rw [show max st.now (cx s n d t) = cx s n d t by omega, hz]
      simp
      intro; omega
theorem linv_next (hc : Clk s n d p) (h : LInv (cx s n d) D (highI D p) k t st at_) (hD : 1 ≤ D) (ht : t ≤ 1000) :
    LInv (cx s n d) D (highI D p) k (t + 1) (tick (step1 k t (cx s n d t) st) (cx s n d t)) (if alarmT (step1 k t (cx s n d t) st) (cx s n d t) = true ∧ k < t then (t : Int) else at_) := by
  have hcur := linv_cur hc h
  have hbd := cx_bd hc t
  have hf1 := linv_fit1 hc h ht
  have hs0 := hc.s0
  have hs1 := hc.s1
  have hal : (step1 k t (cx s n d t) st).alarms = st.alarms := by unfold step1; split <;> rfl
  have hdd : (step1 k t (cx s n d t) st).dead = D := by unfold step1; split; exact h.dead; exact h.dead
  have hnow : (step1 k t (cx s n d t) st).now ≤ cx s n d t := by unfold step1; split; simp only [heard]; omega; exact hcur
  have hmax : max (step1 k t (cx s n d t) st).now (cx s n d t) = cx s n d t := by omega
  have hlast : k ≤ t → (tick (step1 k t (cx s n d t) st) (cx s n d t)).last = cx s n d k := fun hkt => by
    rcases Nat.lt_or_eq_of_le hkt with h1 | h1
    · rw [s1_ne (by omega)]
      obtain ⟨r1, r2⟩ := h.run (by omega)
      simp only [tick, lastT]
      rw [r1, (h.late h1).1]; rfl
    · rw [s1_eq h1.symm, h1]
      simp only [tick, lastT, heard, Bool.or_true, if_true]
      omega
  have hmono := fun hkt : k ≤ t => cx_mono hc hkt
  have hmono2 := fun hkt : k < t => cx_mono hc (show t - 1 ≤ t by omega)
  refine ⟨hdd, fit_tick hf1 (by omega) (by omega) (by rw [hal]; have := h.al; omega), ?_, fun h0 => by omega, fun _ => ⟨rfl, ?_⟩, fun _ hk => ⟨?_, fun hkd => ?_⟩, fun hk => ?_, fun hk => ⟨hlast (by omega), ?_⟩, fun hk ha => ?_, fun hk ha => ?_⟩
  · have := (alarms_tick (step1 k t (cx s n d t) st) (cx s n d t)).2
    rw [hal] at this
    have := h.al
    omega
  · rw [show t + 1 - 1 = t by omega]; simp only [tick]; exact hmax
  · rw [s1_ne (by omega)]
    simp only [tick, lastT]
    rcases Nat.eq_zero_or_pos t with h0 | h0
    · obtain ⟨z1, z2, z3, z4⟩ := h.zero h0
      subst h0
      rw [z1, z2, if_neg (by decide)]
      omega
    · obtain ⟨r1, r2⟩ := h.run h0
      rw [r1, (h.early h0 (by omega)).1]; rfl
  · have hq := linv_quiet hc h hD (show t ≤ k by omega) (.inr hkd)
    simp only [tick, hq, Bool.or_false]
    unfold step1
    rw [if_neg (by omega)]
    rcases Nat.eq_zero_or_pos t with h0 | h0
    · exact (h.zero h0).2.2.2
    · exact (h.early h0 (by omega)).2 hkd
  · rw [if_neg (by omega)]
    exact h.none_ (by omega)
  · rw [show t + 1 - 1 = t by omega]
    have hl := hlast (by omega)
    simp only [tick] at hl
    simp only [tick, alarmT, hdd, hmax, hl]
    unfold step1
    rcases Nat.lt_or_eq_of_le (show k ≤ t by omega) with h1 | h1
    · rw [if_neg (by omega), (h.late h1).2]
      have := hmono2 h1
      rw [Bool.eq_iff_iff]
      simp
      omega
    · rw [if_pos h1.symm]
      simp [heard]
  · have hl := hlast (by omega)
    simp only [tick] at hl ha
    rw [Bool.or_eq_false_iff] at ha
    rw [if_neg (by simp [ha.2])]
    rcases Nat.lt_or_eq_of_le (show k ≤ t by omega) with h1 | h1
    · refine h.off h1 ?_
      have := ha.1
      unfold step1 at this
      rw [if_neg (by omega)] at this
      exact this
    · exact h.none_ (by omega)
  · have hl := hlast (by omega)
    by_cases hat : alarmT (step1 k t (cx s n d t) st) (cx s n d t) = true ∧ k < t
    · rw [if_pos hat]
      obtain ⟨h1, h2⟩ := hat
      have hna : st.alarmed = false := by
        unfold step1 at h1
        rw [if_neg (by omega)] at h1
        simp only [alarmT, Bool.and_eq_true, Bool.not_eq_true'] at h1
        exact h1.1
      rw [(h.late h2).2] at hna
      have hle : cx s n d (t - 1) - cx s n d k ≤ D := by simpa using hna
      have := cx_room hc (k := k) (L := t - 1 - k) (D := D) (by rw [show k + (t - 1 - k) = t - 1 by omega]; exact hle)
      omega
    · rw [if_neg hat]
      rcases Nat.lt_or_eq_of_le (show k ≤ t by omega) with h1 | h1
      · refine h.on_ h1 ?_
        simp only [tick] at ha
        have hna : alarmT (step1 k t (cx s n d t) st) (cx s n d t) = false := by
          cases hx : alarmT (step1 k t (cx s n d t) st) (cx s n d t) with
          | false => rfl
          | true => exact absurd ⟨hx, h1⟩ hat
        rw [hna, Bool.or_false] at ha
        unfold step1 at ha
        rw [if_neg (by omega)] at ha
        exact ha
      · exfalso
        have hq := linv_quiet hc h hD (show t ≤ k by omega) (.inl h1.symm)
        simp only [tick, hq, Bool.or_false] at ha
        unfold step1 at ha
        rw [if_pos h1.symm] at ha
        simp [heard] at ha
/-- In the end there has been an alarm, in time. -/
theorem linv_end (hc : Clk s n d p) (h : LInv (cx s n d) D (highI D p) k t st at_) (ht : (t : Int) = (k : Int) + highI D p + 20) (hN : 0 ≤ highI D p) : (k : Int) < at_ ∧ at_ ≤ (k : Int) + highI D p + 1 := by
  refine h.on_ (by omega) ?_
  rw [(h.late (by omega)).2]
  simp only [decide_eq_true_eq]
  by_cases h1 : D < cx s n d (t - 1) - cx s n d k
  · exact h1
  · have := cx_room hc (k := k) (L := t - 1 - k) (D := D) (by rw [show k + (t - 1 - k) = t - 1 by omega]; omega)
    omega
end
end Go.Proofs.Ythkilfainkcmgaa
