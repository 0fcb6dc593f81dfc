/- Hello: two tables that exchange messages, as plain data. No program in sight. -/
import Derived.Test.YtkbnacboianjkaaPlain
namespace Go.Proofs.Ytkbnacboianjkaa
set_option linter.unusedVariables false
def give (q : Int) (m : Msg) (s : Bool × Tb) : Bool × Tb := if s.1 then (recvE s.2 q m == 0, recv s.2 q m) else s
def stepM (p q : Int) (lost : Bool) (s : Bool × Tb) (m : Msg) : Bool × Tb := if m.port == p && !lost then give q m s else s
def deliver (p q : Int) (lost : Bool) (l : List Msg) (s : Bool × Tb) : Bool × Tb := l.foldl (stepM p q lost) s
theorem deliver_snoc (p q : Int) (lost : Bool) (l : List Msg) (m : Msg) (s : Bool × Tb) : deliver p q lost (l ++ [m]) s = stepM p q lost (deliver p q lost l s) m := by simp [deliver]
def exch (la lb : Bool) (a b : Tb) : Bool × Tb × Tb :=
  let r := deliver 1 0 la (out (tick a)) (true, tick b)
  let s := deliver 0 1 lb (out (tick b)) (r.1, tick a)
  (s.1, s.2, r.2)
/-- The numbers of a table stay below a bound. -/
structure Bd (n v : Nat) (t : Tb) : Prop where
  fit : Fit t
  ticks : t.ticks ≤ n
  ver : t.version ≤ v
  few : t.ports.length ≤ 8
theorem recv_ticks (t : Tb) (i : Int) (m : Msg) : (recv t i m).ticks = t.ticks := by unfold recv; split <;> rfl
theorem recv_every (t : Tb) (i : Int) (m : Msg) : (recv t i m).every = t.every := by unfold recv; split <;> rfl
theorem recv_dead (t : Tb) (i : Int) (m : Msg) : (recv t i m).dead = t.dead := by unfold recv; split <;> rfl
theorem recv_ver (t : Tb) (i : Int) (m : Msg) : t.version ≤ (recv t i m).version ∧ (recv t i m).version ≤ t.version + 1 := by
  unfold recv; split
  · simp only [recvAt]; split <;> omega
  · omega
theorem fit_recv {t : Tb} (h : Fit t) (i : Int) (m : Msg) : Fit (recv t i m) := by
  have hv := recv_ver t i m
  refine ⟨by rw [recv_ticks]; exact h.ticks0, by rw [recv_ticks]; exact h.ticks1, by have := h.ver0; omega, by rw [recv_every]; exact h.every, by rw [recv_dead]; exact h.dead, ?_⟩
  intro p hp
  rw [recv_ticks]
  unfold recv at hp
  split at hp
  · simp only [recvAt] at hp
    rcases List.mem_or_eq_of_mem_set hp with hp | rfl
    · exact h.since p hp
    · exact ⟨h.ticks0, Int.le_refl _⟩
  · exact h.since p hp
theorem bd_recv {n v : Nat} {t : Tb} (h : Bd n v t) (i : Int) (m : Msg) : Bd n (v + 1) (recv t i m) :=
  ⟨fit_recv h.fit i m, by rw [recv_ticks]; exact h.ticks, by have := (recv_ver t i m).2; have := h.ver; omega, by rw [recv_len]; exact h.few⟩
theorem bd_mono {n v n' v' : Nat} {t : Tb} (h : Bd n v t) (h1 : n ≤ n') (h2 : v ≤ v') : Bd n' v' t := ⟨h.fit, by have := h.ticks; omega, by have := h.ver; omega, h.few⟩
theorem bd_tick {n v : Nat} {t : Tb} (h : Bd n v t) (hn : n < 1000000) : Bd (n + 1) (v + 8) (tick t) := by
  have h1 := h.ticks
  have h2 := h.ver
  have h3 := fadeN_bd t.dead (t.ticks + 1) t.ports
  have h4 := h.few
  exact ⟨fit_tick h.fit (by omega), by simp only [tick]; omega, by simp only [tick]; omega, by rw [tick_len]; exact h4⟩
theorem bd_step {n v : Nat} {s : Bool × Tb} (h : Bd n v s.2) (p q : Int) (lost : Bool) (m : Msg) : Bd n (v + 1) (stepM p q lost s m).2 := by
  unfold stepM
  split
  · unfold give
    split
    · exact bd_recv h q m
    · exact bd_mono h (Nat.le_refl _) (by omega)
  · exact bd_mono h (Nat.le_refl _) (by omega)
theorem bd_deliver {n : Nat} (p q : Int) (lost : Bool) (l : List Msg) : ∀ (v : Nat) (s : Bool × Tb), Bd n v s.2 → Bd n (v + l.length) (deliver p q lost l s).2 := by
  induction l with
  | nil => intro v s h; exact h
  | cons m l ih =>
    intro v s h
    have := ih (v + 1) (stepM p q lost s m) (bd_step h p q lost m)
    simp only [List.length_cons]
    rw [show v + (l.length + 1) = v + 1 + l.length by omega]
    exact this
theorem out_len (t : Tb) : (out t).length ≤ t.ports.length := by
  unfold out; split
  · rw [outFrom_len]; exact Nat.le_refl _
  · simp
theorem bd_exch {n v : Nat} {a b : Tb} (ha : Bd n v a) (hb : Bd n v b) (hn : n < 1000000) (la lb : Bool) : Bd (n + 1) (v + 16) (exch la lb a b).2.1 ∧ Bd (n + 1) (v + 16) (exch la lb a b).2.2 := by
  have h1 := bd_tick ha hn
  have h2 := bd_tick hb hn
  have l1 := out_len (tick a)
  have l2 := out_len (tick b)
  have l3 := h1.few
  have l4 := h2.few
  constructor
  · exact bd_mono (bd_deliver 0 1 lb (out (tick b)) _ ((deliver 1 0 la (out (tick a)) (true, tick b)).1, tick a) h1) (Nat.le_refl _) (by omega)
  · exact bd_mono (bd_deliver 1 0 la (out (tick a)) _ (true, tick b) h2) (Nat.le_refl _) (by omega)
end Go.Proofs.Ytkbnacboianjkaa
