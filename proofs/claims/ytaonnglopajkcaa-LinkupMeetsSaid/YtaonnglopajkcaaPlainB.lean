/- Linkup: when the count of changes grows. No program in sight. -/
import Derived.Test.YtaonnglopajkcaaPlain
namespace Go.Proofs.Ytaonnglopajkcaa
set_option linter.unusedVariables false
def Grew (s t : Sd) : Prop := t.changes = s.changes + 1 ∧ ¬ (t.state = s.state ∧ t.peer = s.peer)
def Same (s t : Sd) : Prop := t.changes = s.changes ∧ t.state = s.state ∧ t.peer = s.peer
theorem bec_chg (s : Sd) (a b : Int) : (becB s a b = true ∧ Grew s (bec s a b)) ∨ (becB s a b = false ∧ bec s a b = s) := by
  cases h : becB s a b with
  | true =>
    refine .inl ⟨rfl, by simp [bec, h], ?_⟩
    rw [bec_state, bec_peer]
    intro ⟨h1, h2⟩
    simp [becB, h1, h2] at h
  | false => exact .inr ⟨rfl, by simp [bec, h]⟩
theorem recv_chg (s : Sd) (m y : Int) : (recvB s m y = true ∧ Grew s (recv s m y)) ∨ (recvB s m y = false ∧ Same s (recv s m y)) := by
  cases ht : takes s m with
  | true =>
    have e1 : recvB s m y = becB (recvMid s m) (recvTo s y) m := by simp [recvB, ht]
    have e2 : recv s m y = bec (recvMid s m) (recvTo s y) m := by simp [recv, ht]
    rw [e1, e2]
    rcases bec_chg (recvMid s m) (recvTo s y) m with ⟨h1, h2⟩ | ⟨h1, h2⟩
    · exact .inl ⟨h1, h2⟩
    · exact .inr ⟨h1, by rw [h2]; exact ⟨rfl, rfl, rfl⟩⟩
  | false => exact .inr ⟨by simp [recvB, ht], by rw [recv_no ht]; exact ⟨rfl, rfl, rfl⟩⟩
theorem tick_chg (s : Sd) : Grew s (tick s) ∨ Same s (tick s) := by
  unfold tick
  split
  · exact .inr ⟨rfl, rfl, rfl⟩
  · split
    · rcases bec_chg { s with silent := s.silent + 1 } 0 0 with ⟨_, h⟩ | ⟨_, h⟩
      · exact .inl h
      · rw [h]; exact .inr ⟨rfl, rfl, rfl⟩
    · exact .inr ⟨rfl, rfl, rfl⟩
end Go.Proofs.Ytaonnglopajkcaa
