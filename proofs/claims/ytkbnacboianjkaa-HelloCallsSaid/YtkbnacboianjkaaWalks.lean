/- Hello: how a table lies in memory; State, Neighbor, Version, the test of a message. -/
import Derived.Test.YtkbnacboianjkaaProg
import Derived.Test.YtkbnacboianjkaaPlain
import Derived.Test.YtkbnacboianjkaaKit
namespace Go.Proofs.Ytkbnacboianjkaa
set_option linter.unusedVariables false
set_option linter.unusedSimpArgs false
open Go.RowKit
def pcells (p : Pt) : List Value := [.int .i64 p.state, .int .i64 p.last.node, .int .i64 p.last.inc, .int .i64 p.last.port, .int .i64 p.last.heard, .int .i64 p.since]
def flat : List Pt → List Value
  | [] => []
  | p :: ps => pcells p ++ flat ps
theorem flat_len (ps : List Pt) : (flat ps).length = ps.length * 6 := by
  induction ps with
  | nil => rfl
  | cons p ps ih => simp [flat, pcells, ih]; omega
theorem flat_get {ps : List Pt} {i : Nat} {p : Pt} (h : ps[i]? = some p) {j : Nat} {v : Value} (hj : (pcells p)[j]? = some v) : (flat ps)[i * 6 + j]? = some v := by
  induction ps generalizing i with
  | nil => simp at h
  | cons q ps ih =>
    have hl : j < 6 := by have := (List.getElem?_eq_some_iff.1 hj).1; simpa [pcells] using this
    cases i with
    | zero =>
      simp at h
      subst h
      rw [flat, List.getElem?_append_left (by simp [pcells]; omega)]
      simpa using hj
    | succ i =>
      simp at h
      rw [flat, List.getElem?_append_right (by simp [pcells]; omega)]
      have := ih h
      rw [← this]
      congr 1
      simp [pcells]; omega
theorem flat_set {ps : List Pt} {i : Nat} (h : i < ps.length) (p : Pt) : flat (ps.set i p) = (flat ps).take (i * 6) ++ pcells p ++ (flat ps).drop (i * 6 + 6) := by
  induction ps generalizing i with
  | nil => simp at h
  | cons q ps ih =>
    cases i with
    | zero => simp [flat, pcells]
    | succ i =>
      have := ih (i := i) (by simpa using h)
      simp only [List.set_cons_succ, flat, this]
      rw [show (i + 1) * 6 = (pcells q).length + i * 6 by simp [pcells]; omega, List.take_length_add_append, show (pcells q).length + i * 6 + 6 = (pcells q).length + (i * 6 + 6) by omega, List.drop_length_add_append]
      simp [List.append_assoc]
def tcells (t : Tb) (g : Nat) : Array Value := #[.int .i64 t.node, .int .i64 t.inc, .int .i64 t.every, .int .i64 t.dead, .int .i64 t.ticks, .int .i64 t.version, .slice (some ⟨g, 0, none⟩) t.ports.length t.ports.length]
/-- The table t lies in block b, its ports in block g. -/
structure Table (w : World) (b g : Nat) (t : Tb) : Prop where
  tab : Blk w b 64 (tcells t g)
  row : Blk w g 66 (flat t.ports).toArray
  pos : 0 < t.ports.length
  few : t.ports.length ≤ 8
section
variable {w w' : World} {b g : Nat} {t : Tb}
theorem Table.ne (h : Table w b g t) : b ≠ g := by
  rintro rfl
  have h1 := h.tab
  have h2 := h.row
  unfold Blk at h1 h2
  rw [h1] at h2
  injection h2 with h2
  injection h2 with _ h2
  exact absurd h2 (by decide)
theorem Table.drewN (h : Table w b g t) (n : Nat) : Table (w.drewN n) b g t := ⟨h.tab, h.row, h.pos, h.few⟩
theorem Table.drew (h : Table w b g t) : Table w.drew b g t := ⟨h.tab, h.row, h.pos, h.few⟩
theorem Table.alloc (h : Table w b g t) (o : Obj) : Table (w.alloc o) b g t := ⟨h.tab.alloc o, h.row.alloc o, h.pos, h.few⟩
theorem Table.below {B : Nat} (h : Table w b g t) (hb : Below B w w') (h1 : b < B) (h2 : g < B) : Table w' b g t := ⟨h.tab.below hb h1, h.row.below hb h2, h.pos, h.few⟩
theorem Table.new_ (h : Table w b g t) (hb : Below w.heap.size w w') : Table w' b g t := h.below hb h.tab.lt h.row.lt
theorem Table.far (h : Table w b g t) {p : Addr} (h1 : b ≠ p.block) (h2 : g ≠ p.block) (u : Value) : Table (w.setCell p u) b g t := ⟨h.tab.far h1 u, h.row.far h2 u, h.pos, h.few⟩
theorem Table.only {S : Nat → Prop} (h : Table w b g t) (k : OnlyP S w w') (h1 : ¬ S b) (h2 : ¬ S g) : Table w' b g t := ⟨h.tab.only k h1, h.row.only k h2, h.pos, h.few⟩
theorem Table.all (h : Table w b g t) : w.cell? ⟨b, 0, none⟩ = some (.int .i64 t.node) ∧ w.cell? ⟨b, 1, none⟩ = some (.int .i64 t.inc) ∧ w.cell? ⟨b, 2, none⟩ = some (.int .i64 t.every) ∧ w.cell? ⟨b, 3, none⟩ = some (.int .i64 t.dead) ∧ w.cell? ⟨b, 4, none⟩ = some (.int .i64 t.ticks) ∧ w.cell? ⟨b, 5, none⟩ = some (.int .i64 t.version) ∧ w.cell? ⟨b, 6, none⟩ = some (.slice (some ⟨g, 0, none⟩) t.ports.length t.ports.length) :=
  ⟨h.tab.cell 0 rfl, h.tab.cell 1 rfl, h.tab.cell 2 rfl, h.tab.cell 3 rfl, h.tab.cell 4 rfl, h.tab.cell 5 rfl, h.tab.cell 6 rfl⟩
theorem Table.at_ (h : Table w b g t) {i : Nat} {p : Pt} (hp : t.ports[i]? = some p) : w.cell? ⟨g, i * 6, none⟩ = some (.int .i64 p.state) ∧ w.cell? ⟨g, i * 6 + 1, none⟩ = some (.int .i64 p.last.node) ∧ w.cell? ⟨g, i * 6 + 2, none⟩ = some (.int .i64 p.last.inc) ∧ w.cell? ⟨g, i * 6 + 3, none⟩ = some (.int .i64 p.last.port) ∧ w.cell? ⟨g, i * 6 + 4, none⟩ = some (.int .i64 p.last.heard) ∧ w.cell? ⟨g, i * 6 + 5, none⟩ = some (.int .i64 p.since) :=
  ⟨h.row.cell _ (by simpa using flat_get hp (j := 0) rfl), h.row.cell _ (by simpa using flat_get hp (j := 1) rfl), h.row.cell _ (by simpa using flat_get hp (j := 2) rfl), h.row.cell _ (by simpa using flat_get hp (j := 3) rfl), h.row.cell _ (by simpa using flat_get hp (j := 4) rfl), h.row.cell _ (by simpa using flat_get hp (j := 5) rfl)⟩
end
theorem getD_some {ps : List Pt} {i : Nat} (h : i < ps.length) : ps[i]? = some (ps.getD i pt0) := by
  rw [List.getD_eq_getElem?_getD, List.getElem?_eq_getElem h]; rfl
theorem state_c (t : Tb) (port : Int) (w : World) (b g : Nat) (h : Table w b g t) : Calls Try.prog 14 #[.pointer (some ⟨b, 0, none⟩), .int .i64 port] w fun e w' => e = .returned (.int .i64 (stateAt t port)) ∧ w = w' := by
  obtain ⟨h0, h1, h2, h3, h4, h5, h6⟩ := h.all
  have hlt := h.tab.lt
  have hlt2 := h.row.lt
  have hn := h.few
  by_cases hp : 0 ≤ port
  · obtain ⟨i, rfl⟩ := Int.eq_ofNat_of_zero_le hp
    by_cases hi : i < t.ports.length
    · obtain ⟨p0, p1, p2, p3, p4, p5⟩ := h.at_ (getD_some hi)
      have E := hid (show stateAt t (i : Int) = (t.ports.getD i pt0).state by unfold stateAt; rw [if_pos ⟨by omega, by simpa using hi⟩]; simp)
      generalize t.ports.getD i pt0 = p at *
      clear h
      go_enter Try.func14, Try.ntmps14
      go_wp2
      go_ret
      exact ⟨by rw [E.out] <;> rfl, rfl⟩
    · have E := hid (show stateAt t (i : Int) = 0 by unfold stateAt; rw [if_neg (by simp; omega)])
      clear h
      go_enter Try.func14, Try.ntmps14
      go_wp2
      go_ret
      exact ⟨by rw [E.out] <;> rfl, rfl⟩
  · have E := hid (show stateAt t port = 0 by unfold stateAt; rw [if_neg (by omega)])
    clear h
    go_enter Try.func14, Try.ntmps14
    go_wp2
    go_ret
    exact ⟨by rw [E.out] <;> rfl, rfl⟩
theorem msg_c (m : Msg) (w : World) : Calls Try.prog 25 #[.agg #[.int .i64 m.node, .int .i64 m.inc, .int .i64 m.port, .int .i64 m.heard]] w fun e w' => e = .returned (.bool (msgB m)) ∧ Below w.heap.size w w' := by
  go_enter Try.func25, Try.ntmps25
  go_wp2
  all_goals go_ret
  all_goals exact ⟨ret_bool (by rw [Bool.eq_iff_iff]; simp [msgB, inB]; omega), by go_grown⟩
theorem version_c (t : Tb) (w : World) (b g : Nat) (h : Table w b g t) : Calls Try.prog 21 #[.pointer (some ⟨b, 0, none⟩)] w fun e w' => e = .returned (.int .i64 t.version) ∧ w = w' := by
  obtain ⟨h0, h1, h2, h3, h4, h5, h6⟩ := h.all
  have hlt := h.tab.lt
  clear h
  go_enter Try.func21, Try.ntmps21
  go_wp2
  go_ret
  exact ⟨rfl, rfl⟩
set_option maxHeartbeats 1000000 in
theorem nb_c (t : Tb) (port : Int) (w : World) (b g : Nat) (h : Table w b g t) : Calls Try.prog 22 #[.pointer (some ⟨b, 0, none⟩), .int .i64 port] w fun e w' => e = .returned (.tuple #[.int .i64 (nbNode t port), .int .i64 (nbPort t port), .bool (nbOk t port)]) ∧ ∃ n, w.drewN n = w' := by
  by_cases hz : stateAt t port = 0
  · have E1 := hid (show nbOk t port = false by simp [nbOk, hz])
    have E2 := hid (show nbNode t port = 0 by simp [nbNode, E1.out])
    have E3 := hid (show nbPort t port = 0 by simp [nbPort, E1.out])
    have hz' : (stateAt t port == 0) = true := by simpa using hz
    clear hz
    go_enter Try.func22, Try.ntmps22
    go_wp2_with (go_at_call 14; refine (state_c t _ _ _ _ h).mono ?_; rintro e w1 ⟨rfl, rfl⟩)
    go_ret3
    exact ⟨by rw [E1.out, E2.out, E3.out] <;> rfl, 0, rfl⟩
  · have hi : 0 ≤ port ∧ port.toNat < t.ports.length := by
      refine Classical.byContradiction fun hn => hz ?_
      unfold stateAt
      rw [if_neg hn]
    obtain ⟨hp, hi⟩ := hi
    obtain ⟨i, rfl⟩ := Int.eq_ofNat_of_zero_le hp
    have hi : i < t.ports.length := by simpa using hi
    have E1 := hid (show nbOk t (i : Int) = true by simp [nbOk, hz])
    have E2 := hid (show nbNode t (i : Int) = (t.ports.getD i pt0).last.node by simp [nbNode, E1.out])
    have E3 := hid (show nbPort t (i : Int) = (t.ports.getD i pt0).last.port by simp [nbPort, E1.out])
    have hz' : (stateAt t (i : Int) == 0) = false := by simpa using hz
    clear hz
    obtain ⟨h0, h1, h2, h3, h4, h5, h6⟩ := h.all
    have hlt := h.tab.lt
    have hlt2 := h.row.lt
    have hn := h.few
    have hii : ((i : Nat) : Int) < (t.ports.length : Int) := by omega
    obtain ⟨p0, p1, p2, p3, p4, p5⟩ := h.at_ (getD_some hi)
    generalize t.ports.getD i pt0 = p at *
    go_enter Try.func22, Try.ntmps22
    go_wp2_with (go_at_call 14; refine (state_c t _ _ _ _ h).mono ?_; rintro e w1 ⟨rfl, rfl⟩)
    go_quiet (fail)
    go_wp2_with fail
    go_ret3
    exact ⟨by rw [E1.out, E2.out, E3.out] <;> rfl, _, rfl⟩
end Go.Proofs.Ytkbnacboianjkaa
