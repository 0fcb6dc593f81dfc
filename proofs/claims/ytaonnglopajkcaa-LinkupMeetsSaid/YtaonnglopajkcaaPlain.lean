/- Linkup: a side of a link as plain numbers, and what its methods do to it. No program in sight. -/
namespace Go.Proofs.Ytaonnglopajkcaa
set_option linter.unusedVariables false
structure Sd where
  mine : Int
  dead : Int
  peer : Int
  seen : Int
  state : Int
  silent : Int
  changes : Int
def okB (n : Int) : Bool := decide (1 ≤ n) && decide (n ≤ 1099511627775)
theorem okB_iff {n : Int} : okB n = true ↔ 1 ≤ n ∧ n ≤ 1099511627775 := by simp [okB]
def becB (s : Sd) (state peer : Int) : Bool := !(s.state == state && s.peer == peer)
def bec (s : Sd) (state peer : Int) : Sd := if becB s state peer then { s with state := state, peer := peer, changes := s.changes + 1 } else s
def takes (s : Sd) (m : Int) : Bool := okB m && decide (s.seen ≤ m)
def recvMid (s : Sd) (m : Int) : Sd := { s with seen := m, silent := 0 }
def recvTo (s : Sd) (y : Int) : Int := if y = s.mine then 2 else 1
def recvB (s : Sd) (m y : Int) : Bool := takes s m && becB (recvMid s m) (recvTo s y) m
def recv (s : Sd) (m y : Int) : Sd := if takes s m then bec (recvMid s m) (recvTo s y) m else s
def tick (s : Sd) : Sd :=
  if s.peer = 0 then s
  else if s.dead ≤ s.silent + 1 then { bec { s with silent := s.silent + 1 } 0 0 with silent := 0 }
  else { s with silent := s.silent + 1 }
def new (m d : Int) : Sd := ⟨m, d, 0, 0, 0, 0, 0⟩
def newB (m d : Int) : Bool := okB m && decide (1 ≤ d) && decide (d ≤ 1000)
theorem newB_iff {m d : Int} : newB m d = true ↔ (1 ≤ m ∧ m ≤ 1099511627775) ∧ 1 ≤ d ∧ d ≤ 1000 := by simp [newB, okB, and_assoc]
theorem bec_changes (s : Sd) (a b : Int) : s.changes ≤ (bec s a b).changes ∧ (bec s a b).changes ≤ s.changes + 1 := by
  unfold bec; split <;> simp <;> omega
theorem bec_mine (s : Sd) (a b : Int) : (bec s a b).mine = s.mine := by unfold bec; split <;> rfl
theorem bec_dead (s : Sd) (a b : Int) : (bec s a b).dead = s.dead := by unfold bec; split <;> rfl
theorem bec_seen (s : Sd) (a b : Int) : (bec s a b).seen = s.seen := by unfold bec; split <;> rfl
theorem bec_silent (s : Sd) (a b : Int) : (bec s a b).silent = s.silent := by unfold bec; split <;> rfl
theorem bec_state (s : Sd) (a b : Int) : (bec s a b).state = a := by
  unfold bec; split
  · rfl
  · rename_i h; simp [becB] at h; exact h.1
theorem bec_peer (s : Sd) (a b : Int) : (bec s a b).peer = b := by
  unfold bec; split
  · rfl
  · rename_i h; simp [becB] at h; exact h.2
theorem recv_mine (s : Sd) (m y : Int) : (recv s m y).mine = s.mine := by unfold recv; split <;> simp [bec_mine, recvMid]
theorem recv_dead (s : Sd) (m y : Int) : (recv s m y).dead = s.dead := by unfold recv; split <;> simp [bec_dead, recvMid]
theorem recv_changes (s : Sd) (m y : Int) : s.changes ≤ (recv s m y).changes ∧ (recv s m y).changes ≤ s.changes + 1 := by
  unfold recv; split
  · exact bec_changes (recvMid s m) _ _
  · omega
theorem recv_no {s : Sd} {m y : Int} (h : takes s m = false) : recv s m y = s := by simp [recv, h]
theorem recv_yes {s : Sd} {m y : Int} (h : takes s m = true) : (recv s m y).state = recvTo s y ∧ (recv s m y).peer = m ∧ (recv s m y).seen = m ∧ (recv s m y).silent = 0 := by
  simp [recv, h, bec_state, bec_peer, bec_seen, bec_silent, recvMid]
theorem takes_iff {s : Sd} {m : Int} : takes s m = true ↔ (1 ≤ m ∧ m ≤ 1099511627775) ∧ s.seen ≤ m := by simp [takes, okB]
theorem tick_mine (s : Sd) : (tick s).mine = s.mine := by unfold tick; split <;> try split
                                                          all_goals simp [bec_mine]
theorem tick_dead (s : Sd) : (tick s).dead = s.dead := by unfold tick; split <;> try split
                                                          all_goals simp [bec_dead]
theorem tick_seen (s : Sd) : (tick s).seen = s.seen := by unfold tick; split <;> try split
                                                          all_goals simp [bec_seen]
theorem tick_changes (s : Sd) : s.changes ≤ (tick s).changes ∧ (tick s).changes ≤ s.changes + 1 := by
  unfold tick; split
  · omega
  · split
    · exact bec_changes { s with silent := s.silent + 1 } 0 0
    · simp; omega
theorem tick_silent (s : Sd) (h : 0 ≤ s.silent) : 0 ≤ (tick s).silent ∧ (tick s).silent ≤ s.silent + 1 := by
  unfold tick; split
  · omega
  · split
    · simp; omega
    · simp; omega
/-- what a side always keeps: the peer is none and the side Down, or the peer is the greatest incarnation seen. -/
structure Inv (s : Sd) : Prop where
  seen : 0 ≤ s.seen
  hi : s.seen ≤ 1099511627775
  st0 : 0 ≤ s.state
  st2 : s.state ≤ 2
  none : s.peer = 0 → s.state = 0
  some : ¬ s.peer = 0 → s.peer = s.seen ∧ 1 ≤ s.seen ∧ 1 ≤ s.state
theorem inv_new (m d : Int) : Inv (new m d) := ⟨by simp [new], by simp [new], by simp [new], by simp [new], by simp [new], by simp [new]⟩
theorem inv_recv {s : Sd} (m y : Int) (h : Inv s) : Inv (recv s m y) := by
  by_cases ht : takes s m = true
  · obtain ⟨h1, h2, h3, h4⟩ := recv_yes (y := y) ht
    obtain ⟨⟨t1, t2⟩, t3⟩ := takes_iff.1 ht
    have : 1 ≤ recvTo s y ∧ recvTo s y ≤ 2 := by unfold recvTo; split <;> omega
    exact ⟨by omega, by omega, by omega, by omega, by omega, by omega⟩
  · rw [recv_no (by simpa using ht)]; exact h
theorem tick_down {s : Sd} (h : Inv s) : (tick s).peer = 0 ∧ (tick s).state = 0 ∨ (tick s).peer = s.peer ∧ (tick s).state = s.state := by
  unfold tick; split
  · exact .inr ⟨rfl, rfl⟩
  · split
    · exact .inl ⟨bec_peer _ _ _, bec_state _ _ _⟩
    · exact .inr ⟨rfl, rfl⟩
theorem inv_tick {s : Sd} (h : Inv s) : Inv (tick s) := by
  have hs := tick_seen s
  have := h.seen
  have := h.hi
  have := h.st0
  have := h.st2
  rcases tick_down h with ⟨h1, h2⟩ | ⟨h1, h2⟩
  · exact ⟨by omega, by omega, by omega, by omega, by omega, by omega⟩
  · exact ⟨by omega, by omega, by omega, by omega, fun h0 => by have := h.none (by omega); omega, fun h0 => by have := h.some (by omega); omega⟩
end Go.Proofs.Ytaonnglopajkcaa
