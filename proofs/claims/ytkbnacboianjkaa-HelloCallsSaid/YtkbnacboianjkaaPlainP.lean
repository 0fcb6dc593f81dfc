/- Hello: a message given twice; what a message changes and what not. No program in sight. -/
import Derived.Test.YtkbnacboianjkaaPlainX
namespace Go.Proofs.Ytkbnacboianjkaa
set_option linter.unusedVariables false
set_option linter.unusedSimpArgs false
/-- A fact that no search opens. -/
structure Kept (p : Prop) : Prop where
  out : p
theorem recvE_cases (t : Tb) (port : Int) (m : Msg) : recvE t port m = 0 ∨ recvE t port m = 2 ∨ recvE t port m = 17 := by
  unfold recvE; split
  · split <;> simp
  · simp
theorem recv_no {t : Tb} {port : Int} {m : Msg} (h : recvE t port m ≠ 0) : recv t port m = t := by unfold recv; rw [if_neg h]
theorem recvE_yes {t : Tb} {port : Int} {m : Msg} (h : recvE t port m = 0) : 0 ≤ port ∧ port.toNat < t.ports.length ∧ msgB m = true ∧ stale (t.ports.getD port.toNat pt0) m = false := by
  unfold recvE at h
  split at h
  · rename_i h1
    split at h
    · omega
    · rename_i h2
      exact ⟨h1.1, h1.2.1, h1.2.2, by simpa using h2⟩
  · omega
theorem recvAt_get {t : Tb} {i : Nat} {p : Pt} {m : Msg} (h : i < t.ports.length) : (recvAt t i p m).ports.getD i pt0 = ⟨stateOf t m, m, t.ticks⟩ := by
  simp [recvAt, List.getD_eq_getElem?_getD, List.getElem?_set_self h]
theorem recvAt_far {t : Tb} {i k : Nat} {p : Pt} {m : Msg} (h : k ≠ i) : (recvAt t i p m).ports.getD k pt0 = t.ports.getD k pt0 := by
  simp [recvAt, List.getD_eq_getElem?_getD, List.getElem?_set_ne (Ne.symm h)]
theorem recv_same {t : Tb} {port : Int} {m : Msg} : recvE (recv t port m) port m = recvE t port m ∧ recv (recv t port m) port m = recv t port m := by
  by_cases h : recvE t port m = 0
  · obtain ⟨h1, h2, h3, h4⟩ := recvE_yes h
    have hr : recv t port m = recvAt t port.toNat (t.ports.getD port.toNat pt0) m := by unfold recv; rw [if_pos h]
    have hl : (recvAt t port.toNat (t.ports.getD port.toNat pt0) m).ports.length = t.ports.length := by simp [recvAt]
    have hg := recvAt_get (p := t.ports.getD port.toNat pt0) (m := m) h2
    have hE : recvE (recv t port m) port m = 0 := by
      rw [hr]
      unfold recvE
      rw [if_pos ⟨h1, by rw [hl]; exact h2, h3⟩, hg, if_neg (by simp [stale])]
    refine ⟨by rw [hE, h], ?_⟩
    rw [recv, if_pos hE, hr, hg]
    have e2 : stateOf (recvAt t port.toNat (t.ports.getD port.toNat pt0) m) m = stateOf t m := rfl
    have e1 : turns (recvAt t port.toNat (t.ports.getD port.toNat pt0) m) ⟨stateOf t m, m, t.ticks⟩ m = false := by unfold turns; rw [e2]; simp [sameB]
    unfold recvAt at e1 e2 ⊢
    simp only [e1, e2]
    simp
  · rw [recv_no h]
    exact ⟨rfl, recv_no h⟩
theorem recv_state {t : Tb} {port : Int} {m : Msg} (k : Nat) (h : (k : Int) ≠ port ∨ recvE t port m ≠ 0) : stateAt (recv t port m) (k : Int) = stateAt t (k : Int) := by
  by_cases hE : recvE t port m = 0
  · obtain ⟨h1, h2, h3, h4⟩ := recvE_yes hE
    have hr : recv t port m = recvAt t port.toNat (t.ports.getD port.toNat pt0) m := by unfold recv; rw [if_pos hE]
    rcases h with h | h
    · rw [hr]
      unfold stateAt
      have hl : (recvAt t port.toNat (t.ports.getD port.toNat pt0) m).ports.length = t.ports.length := by simp [recvAt]
      rw [hl, Int.toNat_natCast, recvAt_far (show k ≠ port.toNat by omega)]
    · exact absurd hE h
  · rw [recv_no hE]
theorem recv_inc (t : Tb) (port : Int) (m : Msg) : (recv t port m).inc = t.inc := by unfold recv; split <;> rfl
theorem recv_at {t : Tb} {port : Int} {m : Msg} (h : recvE t port m = 0) : stateAt (recv t port m) port = if m.heard = t.inc then 2 else 1 := by
  obtain ⟨h1, h2, h3, h4⟩ := recvE_yes h
  have hr : recv t port m = recvAt t port.toNat (t.ports.getD port.toNat pt0) m := by unfold recv; rw [if_pos h]
  have hl : (recvAt t port.toNat (t.ports.getD port.toNat pt0) m).ports.length = t.ports.length := by simp [recvAt]
  rw [hr]
  unfold stateAt
  rw [if_pos ⟨h1, by rw [hl]; exact h2⟩, recvAt_get h2]
  rfl
theorem tick_inc (t : Tb) : (tick t).inc = t.inc := rfl
end Go.Proofs.Ytkbnacboianjkaa
