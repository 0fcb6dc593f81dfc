/- Linkup: two sides over two channels with a delay: what holds of each direction at every moment of a round, so that both are Up in time and stay Up. No program in sight. -/
import Derived.Test.YtaonnglopajkcaaPlain
namespace Go.Proofs.Ytaonnglopajkcaa
set_option linter.unusedVariables false
abbrev Chan := Int → Option (Int × Int)
def one (b : Bool) : Int := if b then 1 else 0
theorem one_bd (b : Bool) : 0 ≤ one b ∧ one b ≤ 1 := by cases b <;> simp [one]
/-- One direction: the receiving side s with its incarnation m, the sender's incarnation q, and the greetings on their way by the tick of their arrival; tk: the receiver has ticked in this round; sd: the sender has sent. -/
structure Dir (L d n t : Int) (tk sd : Bool) (s : Sd) (m q : Int) (c : Chan) : Prop where
  inv : Inv s
  mine : s.mine = m
  dead : s.dead = n
  sil : 0 ≤ s.silent ∧ s.silent ≤ t + one tk
  chg : 0 ≤ s.changes ∧ s.changes ≤ 2 * t + one tk
  seen : s.seen ≤ q
  q1 : 1 ≤ q
  ch : ∀ k x y, c k = some (x, y) → k < t + d + one sd ∧ 1 ≤ x ∧ x ≤ q
  ful : ∀ k, L + d ≤ k → k < t + d + one sd → ∃ y, c k = some (q, y) ∧ (L + 2 * d + 1 ≤ k → y = m)
  pee : L + d < t → s.peer = q ∧ s.silent = one tk
  sta : L + 2 * d + 1 < t → s.state = 2
section
variable {L d n t : Int} {tk sd : Bool} {s : Sd} {m q : Int} {c : Chan}
theorem Dir.start (L d n m q : Int) (hL : 0 ≤ L) (hd : 1 ≤ d) (hq : 1 ≤ q) : Dir L d n 0 false false (new m n) m q (fun _ => none) :=
  ⟨inv_new _ _, rfl, rfl, by simp [new, one], by simp [new, one], by simp [new]; omega, hq, by simp, fun k h1 h2 => by simp [one] at h2; omega, fun h => by omega, fun h => by omega⟩
theorem Dir.again (h : Dir L d n t tk sd s m q c) (ht : t < L) (h0 : 0 ≤ t) (hd : 1 ≤ d) (m' : Int) : Dir L d n t tk sd (new m' n) m' q c := by
  have o1 := one_bd tk
  have o2 := one_bd sd
  have := h.q1
  exact ⟨inv_new _ _, rfl, rfl, by simp [new]; omega, by simp [new]; omega, by simp [new]; omega, h.q1, h.ch, fun k h1 h2 => by omega, fun h => by omega, fun h => by omega⟩
theorem Dir.other (h : Dir L d n t tk sd s m q c) (ht : t < L) (hd : 1 ≤ d) : Dir L d n t tk sd s m (q + 1) c := by
  have o1 := one_bd tk
  have o2 := one_bd sd
  have := h.q1
  have := h.seen
  exact ⟨h.inv, h.mine, h.dead, h.sil, h.chg, by omega, by omega, fun k x y hk => by have := h.ch k x y hk; omega, fun k h1 h2 => by omega, fun h => by omega, fun h => by omega⟩
theorem Dir.tick_ (h : Dir L d n t false sd s m q c) (hd : 1 ≤ d) (hn : 2 ≤ n) (h0 : 0 ≤ t) : Dir L d n t true sd (tick s) m q c := by
  have hs := h.sil
  have hc := h.chg
  simp [one] at hs hc
  have ts := tick_silent s hs.1
  have tc := tick_changes s
  have ht : L + d < t → tick s = { s with silent := 1 } := fun hl => by
    obtain ⟨h1, h2⟩ := h.pee hl
    simp [one] at h2
    have := h.q1
    have := h.dead
    unfold tick
    rw [if_neg (by omega), if_neg (by omega), h2]
    rfl
  refine ⟨inv_tick h.inv, by rw [tick_mine]; exact h.mine, by rw [tick_dead]; exact h.dead, by simp [one]; omega, by simp [one]; omega, by rw [tick_seen]; exact h.seen, h.q1, h.ch, h.ful, fun hl => ?_, fun hl => ?_⟩
  · rw [ht hl]; exact ⟨(h.pee hl).1, rfl⟩
  · rw [ht (by omega)]; exact h.sta hl
theorem Dir.send (h : Dir L d n t tk false s m q c) {y : Int} (hy : L + d < t → y = m) : Dir L d n t tk true s m q (fun k => if k = t + d then some (q, y) else c k) := by
  have := h.q1
  refine ⟨h.inv, h.mine, h.dead, h.sil, h.chg, h.seen, h.q1, fun k x z hk => ?_, fun k h1 h2 => ?_, h.pee, h.sta⟩
  · by_cases e : k = t + d
    · rw [if_pos e] at hk
      cases hk
      simp [one]; omega
    · rw [if_neg e] at hk
      have := h.ch k x z hk
      simp [one] at this ⊢
      omega
  · simp only [one] at h2
    by_cases e : k = t + d
    · exact ⟨y, by rw [if_pos e], fun h3 => hy (by omega)⟩
    · rw [if_neg e]
      exact h.ful k h1 (by simp [one]; simp at h2; omega)
theorem Dir.lose (h : Dir L d n t tk false s m q c) (ht : t < L) : Dir L d n t tk true s m q c := by
  refine ⟨h.inv, h.mine, h.dead, h.sil, h.chg, h.seen, h.q1, fun k x z hk => ?_, fun k h1 h2 => ?_, h.pee, h.sta⟩
  · have := h.ch k x z hk
    simp [one] at this ⊢
    omega
  · simp [one] at h2; omega
theorem Dir.hear (h : Dir L d n t true true s m q c) (hd : 1 ≤ d) (h0 : 0 ≤ t) (hq : q ≤ 1099511627775) {x y : Int} (hc : c t = some (x, y)) : Dir L d n (t + 1) false false (recv s x y) m q c := by
  have hx := h.ch t x y hc
  have hchg := h.chg
  simp [one] at hchg
  have rc := recv_changes s x y
  have hsil := h.sil
  simp [one] at hsil
  refine ⟨inv_recv x y h.inv, by rw [recv_mine]; exact h.mine, by rw [recv_dead]; exact h.dead, ?_, by simp [one]; omega, ?_, h.q1, fun k a b hk => ?_, fun k h1 h2 => h.ful k h1 (by simp [one] at h2 ⊢; omega), fun hl => ?_, fun hl => ?_⟩
  · by_cases ht : takes s x = true
    · have := (recv_yes (y := y) ht).2.2.2
      simp [one]; omega
    · rw [recv_no (by simpa using ht)]; simp [one]; omega
  · by_cases ht : takes s x = true
    · rw [(recv_yes (y := y) ht).2.2.1]; omega
    · rw [recv_no (by simpa using ht)]; exact h.seen
  · have := h.ch k a b hk
    simp [one] at this ⊢
    omega
  · obtain ⟨y', h1, h2⟩ := h.ful t (by omega) (by simp [one]; omega)
    rw [hc] at h1
    cases h1
    have hT : takes s q = true := takes_iff.2 ⟨⟨h.q1, hq⟩, h.seen⟩
    have := recv_yes (y := y) hT
    exact ⟨this.2.1, by rw [this.2.2.2]; rfl⟩
  · obtain ⟨y', h1, h2⟩ := h.ful t (by omega) (by simp [one]; omega)
    rw [hc] at h1
    cases h1
    have hT : takes s q = true := takes_iff.2 ⟨⟨h.q1, hq⟩, h.seen⟩
    have h3 := (recv_yes (y := y) hT).1
    have := h2 (by omega)
    rw [h3, recvTo, if_pos (by rw [h.mine]; exact this)]
theorem Dir.deaf (h : Dir L d n t true true s m q c) (hd : 1 ≤ d) (h0 : 0 ≤ t) (hc : c t = none) : Dir L d n (t + 1) false false s m q c := by
  have hchg := h.chg
  simp [one] at hchg
  have hsil := h.sil
  simp [one] at hsil
  have hl : ¬ L + d ≤ t := fun hl => by
    obtain ⟨y', h1, h2⟩ := h.ful t hl (by simp [one]; omega)
    rw [hc] at h1
    cases h1
  refine ⟨h.inv, h.mine, h.dead, by simp [one]; omega, by simp [one]; omega, h.seen, h.q1, fun k a b hk => ?_, fun k h1 h2 => h.ful k h1 (by simp [one] at h2 ⊢; omega), fun h => by omega, fun h => by omega⟩
  have := h.ch k a b hk
  simp [one] at this ⊢
  omega
end
end Go.Proofs.Ytaonnglopajkcaa
