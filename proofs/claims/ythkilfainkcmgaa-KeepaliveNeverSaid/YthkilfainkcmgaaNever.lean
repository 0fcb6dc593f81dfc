/- Keepalive: if the periods are safe, a peer that is alive never causes an alarm. As plain data. -/
import Derived.Test.YthkilfainkcmgaaLate
namespace Go.Proofs.Ythkilfainkcmgaa
set_option linter.unusedVariables false
set_option linter.unusedSimpArgs false
structure NInv (X Y : Nat → Int) (e D H y : Int) (t : Nat) (pr mi : St) (A : Int → Bool) (r : Nat) : Prop where
  pfit : Fit pr
  pev : pr.every = e
  pal : pr.alarms ≤ t
  p0 : t = 0 → pr.begun = false ∧ pr.now = 0
  p1 : 0 < t → pr.begun = true ∧ pr.now = X (t - 1) ∧ ∃ (s : Nat) (x : Int), s < t ∧ pr.sent = X s ∧ (s : Int) ≤ x ∧ x ≤ (s : Int) + y ∧ A x = true
  mfit : Fit mi
  mdead : mi.dead = D
  moff : mi.alarmed = false
  mal : mi.alarms = 0
  m0 : t = 0 → mi.begun = false ∧ mi.any = false ∧ mi.now = 0 ∧ r = 0
  m1 : 0 < t → mi.begun = true ∧ mi.now = Y (t - 1) ∧ mi.last = Y r ∧ r < t
  cover : ∀ u : Int, 0 ≤ u → u < (t : Int) → ∃ x, u - H ≤ x ∧ x ≤ u + y ∧ A x = true
  heardAll : ∀ x, A x = true → x < (t : Int) → x ≤ (r : Int)
theorem ninv_zero (X Y : Nat → Int) (e D H y : Int) : NInv X Y e D H y 0 (new e D) (new e D) (fun _ => false) 0 :=
  ⟨fit_new _ _, rfl, by simp [new], fun _ => ⟨rfl, rfl⟩, fun h => absurd h (by omega), fit_new _ _, rfl, rfl, rfl, fun _ => ⟨rfl, rfl, rfl, rfl⟩, fun h => absurd h (by omega), fun u h1 h2 => by omega, fun x h => by simp at h⟩
/-- One more sign under way. -/
def mark (A : Int → Bool) (x : Int) : Int → Bool := fun z => z == x || A z
/-- The signs under way after the peer's tick. -/
def sentA (A : Int → Bool) (b : Bool) (x : Int) : Int → Bool := if b = true then mark A x else A
def heardS (b : Bool) (mi : St) (y : Int) : St := if b = true then heard mi y else mi
/-- A safe difference of the clock. -/
theorem safe_room {s n d p : Int} (h : Clk s n d p) {k L : Nat} {D T : Int} (hT : waitT T p - 1 ≤ D) (hT0 : 0 ≤ T) (hT1 : T ≤ 536870912) (hL : (L : Int) < T) : cx s n d (k + L) - cx s n d k ≤ D := by
  by_cases hc : cx s n d (k + L) - cx s n d k ≤ D
  · exact hc
  · have h1 := holds_bd (n := n) (d := d) (f := (k : Int)) (L := (L : Int)) (p := p) h.n1 h.d1 (by omega) h.p0 h.p1 h.a h.b
    have h2 : ((k : Int) + (L : Int)) * n / d - (k : Int) * n / d = cx s n d (k + L) - cx s n d k := by
      unfold cx
      rw [show ((k + L : Nat) : Int) = (k : Int) + (L : Int) by omega]
      omega
    rw [h2] at h1
    have h3 := cx_mono h (show k ≤ k + L by omega)
    have h4 := (waitT_iff (t := T) (e := cx s n d (k + L) - cx s n d k) h.p0 (by omega)).2 (by omega)
    omega
section
variable {s n d s' n' d' p e D H y : Int} {t r : Nat} {pr mi : St} {A : Int → Bool}
theorem ninv_pcur (hc : Clk s n d p) {Y : Nat → Int} (h : NInv (cx s n d) Y e D H y t pr mi A r) : pr.now ≤ cx s n d t := by
  rcases Nat.eq_zero_or_pos t with h0 | h0
  · have := (h.p0 h0).2; have := (cx_bd hc t).1; have := hc.s0; omega
  · have := (h.p1 h0).2.1; have := cx_mono hc (show t - 1 ≤ t by omega); omega
theorem ninv_mcur (hc : Clk s n d p) {X : Nat → Int} (h : NInv X (cx s n d) e D H y t pr mi A r) : mi.now ≤ cx s n d t := by
  rcases Nat.eq_zero_or_pos t with h0 | h0
  · have := (h.m0 h0).2.2.1; have := (cx_bd hc t).1; have := hc.s0; omega
  · have := (h.m1 h0).2.1; have := cx_mono hc (show t - 1 ≤ t by omega); omega
/-- After the peer's tick the signs cover the tick. -/
theorem ninv_cover (hc : Clk s n d p) {Y : Nat → Int} (h : NInv (cx s n d) Y e D (highI (e - 1) p) y t pr mi A r) (he : 1 ≤ e) {dd : Int} (d0 : 0 ≤ dd) (d1 : dd ≤ y) :
    ∃ (q : Nat) (x : Int), q ≤ t ∧ (tick pr (cx s n d t)).sent = cx s n d q ∧ (t : Int) - highI (e - 1) p ≤ (q : Int) ∧ (q : Int) ≤ x ∧ x ≤ (q : Int) + y ∧ sentA A (sendT pr (cx s n d t)) ((t : Int) + dd) x = true := by
  have hcur := ninv_pcur hc h
  have hH := (high_bd (e := e - 1) (p := p) (by omega) hc.p0 hc.p1).1
  have hm : max pr.now (cx s n d t) = cx s n d t := by omega
  cases hs : sendT pr (cx s n d t) with
  | true =>
    refine ⟨t, (t : Int) + dd, Nat.le_refl _, ?_, by omega, by omega, by omega, by simp [sentA, mark]⟩
    simp only [tick, hs, hm]; rfl
  | false =>
    simp only [sendT, Bool.or_eq_false_iff, Bool.not_eq_false', decide_eq_false_iff_not] at hs
    have ht : 0 < t := by
      rcases Nat.eq_zero_or_pos t with h0 | h0
      · have := (h.p0 h0).1; rw [this] at hs; exact absurd hs.1 (by simp)
      · exact h0
    obtain ⟨-, h2, q, x, hq, hqs, hx1, hx2, hx3⟩ := h.p1 ht
    have h3 : cx s n d t - cx s n d q ≤ e - 1 := by
      have h4 := hs.2
      rw [hm, h.pev, hqs] at h4
      omega
    have h4 := cx_room hc (k := q) (L := t - q) (D := e - 1) (by rw [show q + (t - q) = t by omega]; exact h3)
    refine ⟨q, x, by omega, ?_, by omega, hx1, hx2, by simp [sentA, hx3]⟩
    have hs2 : sendT pr (cx s n d t) = false := by simp [sendT, hs.1]; rw [h.pev]; omega
    simp only [tick, hs2]; exact hqs
theorem sentA_or {A : Int → Bool} {b : Bool} {z x : Int} (h : sentA A b z x = true) : (b = true ∧ x = z) ∨ A x = true := by
  unfold sentA mark at h
  split at h
  · rename_i hb
    simp at h
    rcases h with h | h
    · exact .inl ⟨hb, h⟩
    · exact .inr h
  · exact .inr h
theorem sentA_old {A : Int → Bool} (b : Bool) (z : Int) {x : Int} (h : A x = true) : sentA A b z x = true := by
  unfold sentA mark; split <;> simp [h]
theorem ninv_next (hc : Clk s n d p) (hc' : Clk s' n' d' p) (h : NInv (cx s n d) (cx s' n' d') e D (highI (e - 1) p) y t pr mi A r) (he : 1 ≤ e) (ht : t ≤ 1000) {dd : Int} (d0 : 0 ≤ dd) (d1 : dd ≤ y) (hD : 1 ≤ D)
    (hT : waitT (highI (e - 1) p + 1 + y + 1) p - 1 ≤ D) (hT1 : highI (e - 1) p + 1 + y + 1 ≤ 536870912) :
    alarmT (heardS (sentA A (sendT pr (cx s n d t)) ((t : Int) + dd) t) mi (cx s' n' d' t)) (cx s' n' d' t) = false ∧ Fit (heardS (sentA A (sendT pr (cx s n d t)) ((t : Int) + dd) t) mi (cx s' n' d' t)) ∧
    NInv (cx s n d) (cx s' n' d') e D (highI (e - 1) p) y (t + 1) (tick pr (cx s n d t)) (tick (heardS (sentA A (sendT pr (cx s n d t)) ((t : Int) + dd) t) mi (cx s' n' d' t)) (cx s' n' d' t)) (sentA A (sendT pr (cx s n d t)) ((t : Int) + dd)) (if sentA A (sendT pr (cx s n d t)) ((t : Int) + dd) t = true then t else r) := by
  have hp := ninv_pcur hc h
  have hm := ninv_mcur hc' h
  obtain ⟨q, x, hq, hqs, hqH, hx1, hx2, hx3⟩ := ninv_cover hc h he d0 d1
  have hH := (high_bd (e := e - 1) (p := p) (by omega) hc.p0 hc.p1).1
  have bd := cx_bd hc t
  have bd' := cx_bd hc' t
  have s0 := hc.s0
  have s1 := hc.s1
  have s0' := hc'.s0
  have s1' := hc'.s1
  have hold := fun x hx => sentA_old (A := A) (sendT pr (cx s n d t)) ((t : Int) + dd) (x := x) hx
  have hor := fun x hx => sentA_or (A := A) (b := sendT pr (cx s n d t)) (z := (t : Int) + dd) (x := x) hx
  have hpt : (tick pr (cx s n d t)).now = cx s n d t ∧ (tick pr (cx s n d t)).begun = true ∧ (tick pr (cx s n d t)).every = e := ⟨by simp only [tick]; omega, rfl, h.pev⟩
  have hpal := alarms_tick pr (cx s n d t)
  have hpf := fit_tick (n := cx s n d t) h.pfit (by omega) (by omega) (by have := h.pal; omega)
  have hcov : ∀ u : Int, 0 ≤ u → u < ((t + 1 : Nat) : Int) → ∃ x, u - highI (e - 1) p ≤ x ∧ x ≤ u + y ∧ sentA A (sendT pr (cx s n d t)) ((t : Int) + dd) x = true := fun u u0 u1 => by
    by_cases hu : u < t
    · obtain ⟨z, z1, z2, z3⟩ := h.cover u u0 hu
      exact ⟨z, z1, z2, hold z z3⟩
    · exact ⟨x, by omega, by omega, hx3⟩
  generalize tick pr (cx s n d t) = pr2 at *
  generalize hA2 : sentA A (sendT pr (cx s n d t)) ((t : Int) + dd) = A2 at *
  have hall : ∀ x, A2 x = true → x < (t : Int) → x ≤ (r : Int) := fun x hx hlt => by
    rcases hor x hx with ⟨_, h2⟩ | h2
    · omega
    · exact h.heardAll x h2 hlt
  have hmax : max mi.now (cx s' n' d' t) = cx s' n' d' t := by omega
  cases hat : A2 (t : Int) with
  | true =>
    simp only [heardS, if_true]
    have hq2 : alarmT (heard mi (cx s' n' d' t)) (cx s' n' d' t) = false := by
      simp [alarmT, lastT, heard, h.mdead]; omega
    have hf2 := fit_heard (n := cx s' n' d' t) h.mfit (by omega) (by omega)
    refine ⟨hq2, hf2, ?_⟩
    refine ⟨hpf, hpt.2.2, by have := h.pal; omega, fun h0 => by omega, fun _ => ⟨hpt.2.1, by rw [show t + 1 - 1 = t by omega]; exact hpt.1, q, x, by omega, hqs, hx1, hx2, hx3⟩,
      fit_tick hf2 (by omega) (by omega) (by have := h.mal; simp only [heard]; omega), h.mdead, ?_, ?_, fun h0 => by omega, fun _ => ⟨rfl, ?_, ?_, by omega⟩, hcov, fun x hx hlt => by omega⟩
    · simp only [tick, hq2]; rfl
    · simp only [tick, hq2]; have := h.mal; simp [heard]; omega
    · rw [show t + 1 - 1 = t by omega]; simp only [tick, heard]; omega
    · simp only [tick, lastT, heard, Bool.or_true, if_true]; omega
  | false =>
    simp only [heardS, if_false, Bool.false_eq_true]
    have hlast : lastT mi (cx s' n' d' t) = cx s' n' d' r ∧ r ≤ t := by
      rcases Nat.eq_zero_or_pos t with h0 | h0
      · obtain ⟨z1, z2, z3, z4⟩ := h.m0 h0
        simp only [lastT, z1, z2, Bool.or_self, Bool.false_eq_true, if_false]
        rw [hmax, h0, z4]; exact ⟨rfl, Nat.le_refl _⟩
      · obtain ⟨z1, z2, z3, z4⟩ := h.m1 h0
        simp only [lastT, z1, Bool.true_or, if_true]
        exact ⟨z3, by omega⟩
    have hroom : ((t - r : Nat) : Int) ≤ highI (e - 1) p + y := by
      by_cases hu : (t : Int) < y
      · omega
      · obtain ⟨z, z1, z2, z3⟩ := hcov ((t : Int) - y) (by omega) (by omega)
        have : z ≠ (t : Int) := fun hz => by rw [hz, hat] at z3; cases z3
        have := hall z z3 (by omega)
        omega
    have hsafe := safe_room hc' (k := r) (L := t - r) hT (by omega) hT1 (by omega)
    rw [show r + (t - r) = t by omega] at hsafe
    have hq2 : alarmT mi (cx s' n' d' t) = false := by
      simp only [alarmT, hmax, hlast.1, h.mdead, h.moff]
      simp; omega
    refine ⟨hq2, h.mfit, ?_⟩
    refine ⟨hpf, hpt.2.2, by have := h.pal; omega, fun h0 => by omega, fun _ => ⟨hpt.2.1, by rw [show t + 1 - 1 = t by omega]; exact hpt.1, q, x, by omega, hqs, hx1, hx2, hx3⟩,
      fit_tick h.mfit (by omega) (by omega) (by have := h.mal; omega), h.mdead, ?_, ?_, fun h0 => by omega, fun _ => ⟨rfl, ?_, hlast.1, by omega⟩, hcov, fun x hx hlt => ?_⟩
    · simp only [tick, hq2, h.moff]; rfl
    · simp only [tick, hq2]; have := h.mal; simp; omega
    · rw [show t + 1 - 1 = t by omega]; simp only [tick]; omega
    · by_cases hxt : x = (t : Int)
      · rw [hxt, hat] at hx; cases hx
      · exact hall x hx (by omega)
end
end Go.Proofs.Ythkilfainkcmgaa
