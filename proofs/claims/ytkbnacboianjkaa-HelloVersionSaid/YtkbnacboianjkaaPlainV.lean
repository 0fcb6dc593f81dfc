/- Hello: the version counts the changes of what a table shows, as far as incarnations stay the same. No program in sight. -/
import Derived.Test.YtkbnacboianjkaaPlainP
namespace Go.Proofs.Ytkbnacboianjkaa
set_option linter.unusedVariables false
set_option linter.unusedSimpArgs false
/-- What a port shows. -/
def sg (p : Pt) : Int × Int × Int := (p.state, if p.state = 0 then 0 else p.last.node, if p.state = 0 then 0 else p.last.port)
/-- What a table shows at a port. -/
def sgAt (t : Tb) (k : Int) : Int × Int × Int := (stateAt t k, nbNode t k, nbPort t k)
/-- One for a change. -/
def dfAt (t t' : Tb) (k : Int) : Int := if sgAt t' k = sgAt t k then 0 else 1
/-- Who is heard has the incarnation 7. -/
def Sev (t : Tb) : Prop := ∀ p ∈ t.ports, p.state = 0 ∨ p.last.inc = 7
theorem sgAt_in {t : Tb} {k : Nat} {p : Pt} (h : t.ports[k]? = some p) : sgAt t (k : Int) = sg p := by
  have hk := (List.getElem?_eq_some_iff.1 h).1
  have hg : t.ports.getD k pt0 = p := by rw [List.getD_eq_getElem?_getD, h]; rfl
  have hs : stateAt t (k : Int) = p.state := by
    unfold stateAt
    rw [if_pos ⟨by omega, by omega⟩, Int.toNat_natCast, hg]
  have ho : nbOk t (k : Int) = !(p.state == 0) := by unfold nbOk; rw [hs]
  unfold sgAt sg nbNode nbPort
  rw [hs, ho, Int.toNat_natCast, hg]
  by_cases hz : p.state = 0
  · simp [hz]
  · simp [hz]
theorem sg_fade (d n : Int) (p : Pt) : (if sg (fade d n p) = sg p then (0 : Int) else 1) = if fades d n p then 1 else 0 := by
  unfold fade
  cases h : fades d n p with
  | true =>
    unfold fades at h
    simp at h
    rw [if_pos rfl, if_pos rfl, if_neg]
    intro e
    simp [sg] at e
    exact h.1 e.1.symm
  | false => simp
theorem three {t : Tb} (h : t.ports.length = 3) : ∃ p q r, t.ports = [p, q, r] := by
  match hl : t.ports, h with
  | [p, q, r], _ => exact ⟨p, q, r, rfl⟩
theorem tick_counts {t : Tb} (h : t.ports.length = 3) : (tick t).version = t.version + (dfAt t (tick t) 0 + dfAt t (tick t) 1 + dfAt t (tick t) 2) := by
  obtain ⟨p, q, r, e⟩ := three h
  have e2 : (tick t).ports = [fade t.dead (t.ticks + 1) p, fade t.dead (t.ticks + 1) q, fade t.dead (t.ticks + 1) r] := by simp [tick, e]
  have a0 : sgAt t 0 = sg p := sgAt_in (k := 0) (by rw [e]; rfl)
  have a1 : sgAt t 1 = sg q := sgAt_in (k := 1) (by rw [e]; rfl)
  have a2 : sgAt t 2 = sg r := sgAt_in (k := 2) (by rw [e]; rfl)
  have b0 : sgAt (tick t) 0 = sg (fade t.dead (t.ticks + 1) p) := sgAt_in (k := 0) (by rw [e2]; rfl)
  have b1 : sgAt (tick t) 1 = sg (fade t.dead (t.ticks + 1) q) := sgAt_in (k := 1) (by rw [e2]; rfl)
  have b2 : sgAt (tick t) 2 = sg (fade t.dead (t.ticks + 1) r) := sgAt_in (k := 2) (by rw [e2]; rfl)
  unfold dfAt
  rw [a0, a1, a2, b0, b1, b2, sg_fade, sg_fade, sg_fade]
  simp only [tick, e, fadeN]
  omega
theorem sev_tick {t : Tb} (h : Sev t) : Sev (tick t) := by
  intro p hp
  simp only [tick, List.mem_map] at hp
  obtain ⟨q, hq, rfl⟩ := hp
  unfold fade
  split
  · exact .inl rfl
  · exact h q hq
theorem sev_new (node inc : Int) (n : Nat) (every dead : Int) : Sev (new node inc n every dead) := by
  intro p hp
  simp only [new, List.mem_replicate] at hp
  rw [hp.2]; exact .inl rfl
theorem sev_recv {t : Tb} (h : Sev t) (port : Int) {m : Msg} (hm : m.inc = 7) : Sev (recv t port m) := by
  unfold recv
  split
  · intro p hp
    simp only [recvAt] at hp
    rcases List.mem_or_eq_of_mem_set hp with hp | rfl
    · exact h p hp
    · exact .inr hm
  · exact h
theorem sg_turns {t : Tb} {p : Pt} {m : Msg} {n : Int} (h : p.state = 0 ∨ p.last.inc = 7) (hm : m.inc = 7) : (if sg ⟨stateOf t m, m, n⟩ = sg p then (0 : Int) else 1) = if turns t p m then 1 else 0 := by
  have hs : stateOf t m ≠ 0 := by unfold stateOf; split <;> decide
  by_cases hp : p.state = 0
  · have : turns t p m = true := by unfold turns; rw [hp]; simp [hs]
    rw [this, if_pos rfl, if_neg]
    intro e
    simp only [sg, Prod.mk.injEq] at e
    exact hs (by rw [e.1, hp])
  · have h7 : p.last.inc = 7 := h.resolve_left hp
    have : turns t p m = true ↔ ¬ sg ⟨stateOf t m, m, n⟩ = sg p := by
      unfold turns sameB sg
      simp only [hs, hp, if_false, h7, hm, Prod.mk.injEq]
      simp
      omega
    by_cases ht : turns t p m = true
    · rw [if_neg (this.1 ht), if_pos ht]
    · rw [if_neg ht, if_pos (Decidable.not_not.1 (fun e => ht (this.2 e)))]
theorem recv_counts {t : Tb} (h : t.ports.length = 3) (h7 : Sev t) (port : Int) {m : Msg} (hm : m.inc = 7) : (recv t port m).version = t.version + (dfAt t (recv t port m) 0 + dfAt t (recv t port m) 1 + dfAt t (recv t port m) 2) := by
  by_cases hE : recvE t port m = 0
  · obtain ⟨h1, h2, h3, h4⟩ := recvE_yes hE
    obtain ⟨p, q, r, e⟩ := three h
    have a0 : sgAt t 0 = sg p := sgAt_in (k := 0) (by rw [e]; rfl)
    have a1 : sgAt t 1 = sg q := sgAt_in (k := 1) (by rw [e]; rfl)
    have a2 : sgAt t 2 = sg r := sgAt_in (k := 2) (by rw [e]; rfl)
    have hr : recv t port m = recvAt t port.toNat (t.ports.getD port.toNat pt0) m := by unfold recv; rw [if_pos hE]
    rw [hr]
    rcases (by omega : port.toNat = 0 ∨ port.toNat = 1 ∨ port.toNat = 2) with hi | hi | hi
    · rw [hi, e]
      have e2 : (recvAt t 0 p m).ports = [⟨stateOf t m, m, t.ticks⟩, q, r] := by simp [recvAt, e]
      have b0 : sgAt (recvAt t 0 p m) 0 = _ := sgAt_in (k := 0) (by rw [e2]; rfl)
      have b1 : sgAt (recvAt t 0 p m) 1 = _ := sgAt_in (k := 1) (by rw [e2]; rfl)
      have b2 : sgAt (recvAt t 0 p m) 2 = _ := sgAt_in (k := 2) (by rw [e2]; rfl)
      have hs := sg_turns (t := t) (n := t.ticks) (h7 p (by rw [e]; simp)) hm
      unfold dfAt
      simp only [List.getD_cons_zero]
      rw [a0, a1, a2, b0, b1, b2, hs]
      simp [recvAt]
    · rw [hi, e]
      have e2 : (recvAt t 1 q m).ports = [p, ⟨stateOf t m, m, t.ticks⟩, r] := by simp [recvAt, e]
      have b0 : sgAt (recvAt t 1 q m) 0 = _ := sgAt_in (k := 0) (by rw [e2]; rfl)
      have b1 : sgAt (recvAt t 1 q m) 1 = _ := sgAt_in (k := 1) (by rw [e2]; rfl)
      have b2 : sgAt (recvAt t 1 q m) 2 = _ := sgAt_in (k := 2) (by rw [e2]; rfl)
      have hs := sg_turns (t := t) (n := t.ticks) (h7 q (by rw [e]; simp)) hm
      unfold dfAt
      simp only [List.getD_cons_zero, List.getD_cons_succ]
      rw [a0, a1, a2, b0, b1, b2, hs]
      simp [recvAt]
    · rw [hi, e]
      have e2 : (recvAt t 2 r m).ports = [p, q, ⟨stateOf t m, m, t.ticks⟩] := by simp [recvAt, e]
      have b0 : sgAt (recvAt t 2 r m) 0 = _ := sgAt_in (k := 0) (by rw [e2]; rfl)
      have b1 : sgAt (recvAt t 2 r m) 1 = _ := sgAt_in (k := 1) (by rw [e2]; rfl)
      have b2 : sgAt (recvAt t 2 r m) 2 = _ := sgAt_in (k := 2) (by rw [e2]; rfl)
      have hs := sg_turns (t := t) (n := t.ticks) (h7 r (by rw [e]; simp)) hm
      unfold dfAt
      simp only [List.getD_cons_zero, List.getD_cons_succ]
      rw [a0, a1, a2, b0, b1, b2, hs]
      simp [recvAt]
  · rw [recv_no hE]
    simp [dfAt]
end Go.Proofs.Ytkbnacboianjkaa
