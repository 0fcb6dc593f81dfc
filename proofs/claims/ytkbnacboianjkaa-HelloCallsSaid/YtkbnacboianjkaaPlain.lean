/- Hello: a node's table as plain data, and what its methods do to it. No program in sight. -/
namespace Go.Proofs.Ytkbnacboianjkaa
set_option linter.unusedVariables false
set_option linter.unusedSimpArgs false
structure Msg where
  node : Int
  inc : Int
  port : Int
  heard : Int
deriving DecidableEq
structure Pt where
  state : Int
  last : Msg
  since : Int
deriving DecidableEq
structure Tb where
  node : Int
  inc : Int
  every : Int
  dead : Int
  ticks : Int
  version : Int
  ports : List Pt
def inB (x a b : Int) : Bool := decide (a ≤ x) && decide (x ≤ b)
def newB (node inc ports every dead : Int) : Bool := inB node 0 15 && inB inc 1 1099511627775 && inB ports 1 8 && inB every 1 1000 && inB dead 1 1000
def pt0 : Pt := ⟨0, ⟨0, 0, 0, 0⟩, 0⟩
def new (node inc : Int) (n : Nat) (every dead : Int) : Tb := ⟨node, inc, every, dead, 0, 0, List.replicate n pt0⟩
def msgB (m : Msg) : Bool := inB m.node 0 15 && inB m.inc 1 1099511627775 && inB m.port 0 7 && inB m.heard 0 1099511627775
/-- One port gives up a silent neighbor, at the tick now. -/
def fades (dead now : Int) (p : Pt) : Bool := !(p.state == 0) && decide (dead ≤ now - p.since)
def fade (dead now : Int) (p : Pt) : Pt := if fades dead now p then { p with state := 0 } else p
def fadeN (dead now : Int) : List Pt → Int
  | [] => 0
  | p :: ps => (if fades dead now p then 1 else 0) + fadeN dead now ps
def tick (t : Tb) : Tb := { t with ticks := t.ticks + 1, version := t.version + fadeN t.dead (t.ticks + 1) t.ports, ports := t.ports.map (fade t.dead (t.ticks + 1)) }
def heardOf (p : Pt) : Int := if p.state = 0 then 0 else p.last.inc
def sends (t : Tb) : Bool := (t.ticks - 1) % t.every == 0
def outFrom (t : Tb) : Nat → List Pt → List Msg
  | _, [] => []
  | i, p :: ps => ⟨t.node, t.inc, i, heardOf p⟩ :: outFrom t (i + 1) ps
/-- The messages that a table sends that has just counted its tick. -/
def out (t : Tb) : List Msg := if sends t then outFrom t 0 t.ports else []
def stale (p : Pt) (m : Msg) : Bool := m.node == p.last.node && decide (m.inc < p.last.inc)
def stateOf (t : Tb) (m : Msg) : Int := if m.heard = t.inc then 2 else 1
def sameB (p : Pt) (m : Msg) : Bool := m.node == p.last.node && m.inc == p.last.inc && m.port == p.last.port
def turns (t : Tb) (p : Pt) (m : Msg) : Bool := !(stateOf t m == p.state) || !sameB p m
/-- A valid message at a port that is there. -/
def recvAt (t : Tb) (i : Nat) (p : Pt) (m : Msg) : Tb :=
  { t with version := t.version + (if turns t p m then 1 else 0), ports := t.ports.set i ⟨stateOf t m, m, t.ticks⟩ }
def recvE (t : Tb) (port : Int) (m : Msg) : Int :=
  if 0 ≤ port ∧ port.toNat < t.ports.length ∧ msgB m = true then if stale (t.ports.getD port.toNat pt0) m then 17 else 0 else 2
def recv (t : Tb) (port : Int) (m : Msg) : Tb :=
  if recvE t port m = 0 then recvAt t port.toNat (t.ports.getD port.toNat pt0) m else t
def stateAt (t : Tb) (port : Int) : Int := if 0 ≤ port ∧ port.toNat < t.ports.length then (t.ports.getD port.toNat pt0).state else 0
def nbOk (t : Tb) (port : Int) : Bool := !(stateAt t port == 0)
def nbNode (t : Tb) (port : Int) : Int := if nbOk t port then (t.ports.getD port.toNat pt0).last.node else 0
def nbPort (t : Tb) (port : Int) : Int := if nbOk t port then (t.ports.getD port.toNat pt0).last.port else 0
theorem fadeN_bd (d n : Int) (ps : List Pt) : 0 ≤ fadeN d n ps ∧ fadeN d n ps ≤ ps.length := by
  induction ps with
  | nil => simp [fadeN]
  | cons p ps ih => simp only [fadeN, List.length_cons]; split <;> omega
theorem tick_len (t : Tb) : (tick t).ports.length = t.ports.length := by simp [tick]
theorem recv_len (t : Tb) (i : Int) (m : Msg) : (recv t i m).ports.length = t.ports.length := by
  unfold recv; split <;> simp [recvAt]
def fade1 (t : Tb) (i : Nat) (p : Pt) : Tb := if fades t.dead t.ticks p then { t with version := t.version + 1, ports := t.ports.set i { p with state := 0 } } else t
/-- The first k ports have given up silent neighbors. -/
def fadeTo (k : Nat) (t : Tb) : Tb := { t with version := t.version + fadeN t.dead t.ticks (t.ports.take k), ports := (t.ports.take k).map (fade t.dead t.ticks) ++ t.ports.drop k }
theorem fadeN_snoc (d n : Int) (ps : List Pt) (p : Pt) : fadeN d n (ps ++ [p]) = fadeN d n ps + if fades d n p then 1 else 0 := by
  induction ps with
  | nil => simp [fadeN]
  | cons q ps ih => simp only [List.cons_append, fadeN, ih]; omega
theorem fadeTo_zero (t : Tb) : fadeTo 0 t = t := by simp [fadeTo, fadeN]
theorem fadeTo_all (t : Tb) : fadeTo t.ports.length t = { t with version := t.version + fadeN t.dead t.ticks t.ports, ports := t.ports.map (fade t.dead t.ticks) } := by simp [fadeTo]
theorem fadeTo_len (k : Nat) (t : Tb) : (fadeTo k t).ports.length = t.ports.length := by simp [fadeTo]; omega
theorem fadeTo_at {k : Nat} {t : Tb} {p : Pt} (h : t.ports[k]? = some p) : (fadeTo k t).ports[k]? = some p := by
  have hk : k < t.ports.length := (List.getElem?_eq_some_iff.1 h).1
  simp only [fadeTo]
  rw [List.getElem?_append_right (by simp; omega)]
  simp [Nat.min_eq_left (Nat.le_of_lt hk), h]
theorem fadeTo_succ {k : Nat} {t : Tb} {p : Pt} (h : t.ports[k]? = some p) : fade1 (fadeTo k t) k p = fadeTo (k + 1) t := by
  obtain ⟨hk, e⟩ := List.getElem?_eq_some_iff.1 h
  have ht : t.ports.take (k + 1) = t.ports.take k ++ [p] := by rw [List.take_succ_eq_append_getElem hk, e]
  have hd : t.ports.drop k = p :: t.ports.drop (k + 1) := by rw [← e]; exact List.drop_eq_getElem_cons hk
  have hl : (t.ports.take k).length = k := by simp; omega
  unfold fade1 fadeTo
  simp only
  cases hf : fades t.dead t.ticks p with
  | true =>
    rw [if_pos rfl, ht, fadeN_snoc, hf, if_pos rfl, hd]
    congr 1
    · omega
    · rw [List.set_append_right _ _ (by simp; omega)]
      simp [fade, hf, Nat.min_eq_left (Nat.le_of_lt hk)]
  | false =>
    rw [if_neg (by decide), ht, fadeN_snoc, hf, if_neg (by decide), hd]
    simp [fade, hf]
theorem fade_since (d n : Int) (p : Pt) : (fade d n p).since = p.since := by unfold fade; split <;> rfl
theorem fadeTo_mem {k : Nat} {t : Tb} {p : Pt} (h : p ∈ (fadeTo k t).ports) : ∃ q ∈ t.ports, q.since = p.since := by
  simp only [fadeTo, List.mem_append, List.mem_map] at h
  rcases h with ⟨q, hq, rfl⟩ | h
  · exact ⟨q, List.mem_of_mem_take hq, (fade_since _ _ _).symm⟩
  · exact ⟨p, List.mem_of_mem_drop h, rfl⟩
/-- The numbers of a table stay small. -/
structure Fit (t : Tb) : Prop where
  ticks0 : 0 ≤ t.ticks
  ticks1 : t.ticks < 1000000000000
  ver0 : 0 ≤ t.version
  every : 1 ≤ t.every
  dead : 1 ≤ t.dead
  since : ∀ p ∈ t.ports, 0 ≤ p.since ∧ p.since ≤ t.ticks
theorem Fit.fadeTo {t : Tb} (h : Fit t) (k : Nat) : Fit (fadeTo k t) :=
  ⟨h.ticks0, h.ticks1, by have := h.ver0; have := (fadeN_bd t.dead t.ticks (t.ports.take k)).1; simp only [Ytkbnacboianjkaa.fadeTo]; omega, h.every, h.dead, fun p hp => by obtain ⟨q, hq, e⟩ := fadeTo_mem hp; rw [← e]; exact h.since q hq⟩
theorem outFrom_len (t : Tb) (ps : List Pt) : ∀ i, (outFrom t i ps).length = ps.length := by
  induction ps with
  | nil => intro i; rfl
  | cons p ps ih => intro i; simp [outFrom, ih]
theorem outFrom_get (t : Tb) (ps : List Pt) : ∀ (i k : Nat) (p : Pt), ps[k]? = some p → (outFrom t i ps)[k]? = some ⟨t.node, t.inc, ((i + k : Nat) : Int), heardOf p⟩ := by
  induction ps with
  | nil => intro i k p h; simp at h
  | cons q ps ih =>
    intro i k p h
    cases k with
    | zero => simp at h; subst h; simp [outFrom]
    | succ k =>
      simp at h
      have := ih (i + 1) k p h
      simp only [outFrom, List.getElem?_cons_succ]
      rw [this]; congr 3; omega
theorem out_succ {t : Tb} {k : Nat} {p : Pt} (h : t.ports[k]? = some p) : (outFrom t 0 t.ports).take (k + 1) = (outFrom t 0 t.ports).take k ++ [⟨t.node, t.inc, k, heardOf p⟩] := by
  have hg := outFrom_get t t.ports 0 k p h
  obtain ⟨hk, e⟩ := List.getElem?_eq_some_iff.1 hg
  rw [List.take_succ_eq_append_getElem hk, e]
  simp
def ticked (t : Tb) : Tb := { t with ticks := t.ticks + 1 }
theorem tick_eq (t : Tb) : fadeTo (ticked t).ports.length (ticked t) = tick t := by rw [fadeTo_all]; rfl
theorem fit_ticked {t : Tb} (h : Fit t) (h1 : t.ticks + 1 < 1000000000000) : Fit (ticked t) :=
  ⟨by have := h.ticks0; simp only [ticked]; omega, h1, h.ver0, h.every, h.dead, fun p hp => by have := h.since p hp; simp only [ticked]; omega⟩
theorem fit_tick {t : Tb} (h : Fit t) (h1 : t.ticks + 1 < 1000000000000) : Fit (tick t) := by
  rw [← tick_eq]; exact (fit_ticked h h1).fadeTo _
theorem sends_iff {t : Tb} : sends (tick t) = (t.ticks % t.every == 0) := by simp [sends, tick]
end Go.Proofs.Ytkbnacboianjkaa
