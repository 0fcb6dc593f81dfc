/- Votes as plain data: what is better, a round, runs. No program in sight. -/
import Derived.Test.YtckigonkcjceeaaGPlain
namespace Go.Proofs.Ytckigonkcjceeaa
set_option linter.unusedVariables false
set_option linter.unusedSimpArgs false
open Go.RowKit
structure Vt where
  root : Int
  dist : Int
  port : Int
deriving Inhabited, DecidableEq
def vcell (v : Vt) : List Value := [.int .i64 v.root, .int .i64 v.dist, .int .i64 v.port]
def bcell1 (b : Bool) : List Value := [.bool b]
theorem vcell_len (v : Vt) : (vcell v).length = 3 := rfl
theorem bcell1_len (b : Bool) : (bcell1 b).length = 1 := rfl
theorem vcell_one (l : List Vt) : ∀ u ∈ l.flatMap vcell, u.oneCell' = true := by
  intro u hu
  obtain ⟨x, -, hx⟩ := List.mem_flatMap.1 hu
  simp [vcell] at hx
  rcases hx with rfl | rfl | rfl <;> rfl
def vv (v : Vt) : Value := .agg #[.int .i64 v.root, .int .i64 v.dist, .int .i64 v.port]
def betterB (a b : Vt) : Bool := if a.root = b.root then (if a.dist = b.dist then decide (a.port < b.port) else decide (a.dist < b.dist)) else decide (a.root < b.root)
/-- What a node that voted best before votes after it heard v over a port, in a net of n nodes. -/
def heardV (n : Int) (v : Vt) (port : Int) (best : Vt) : Vt :=
  if v.dist + 1 < n then (if betterB ⟨v.root, v.dist + 1, port⟩ best = true then ⟨v.root, v.dist + 1, port⟩ else best) else best
def voteAt (votes : List Vt) (i : Int) : Vt := votes.getD i.toNat default
/-- One cable, as a node hears over it. -/
def hearC (n : Int) (votes : List Vt) (node : Int) (best : Vt) (x : Cb × Bool) : Vt :=
  if x.2 = true then
    (if x.1.b = node then heardV n (voteAt votes x.1.a) x.1.bp (if x.1.a = node then heardV n (voteAt votes x.1.b) x.1.ap best else best)
     else if x.1.a = node then heardV n (voteAt votes x.1.b) x.1.ap best else best)
  else best
def selfV (node : Int) : Vt := ⟨node, 0, -1⟩
def roundAt (n : Int) (votes : List Vt) (l : List (Cb × Bool)) (node : Int) : Vt := l.foldl (hearC n votes node) (selfV node)
def startP (n : Nat) : List Vt := (List.range n).map fun (i : Nat) => selfV (i : Int)
def roundP (cables : List Cb) (up : List Bool) (votes : List Vt) : List Vt := (List.range votes.length).map fun (i : Nat) => roundAt votes.length votes (cables.zip up) (i : Int)
def vtB (n : Int) (v : Vt) : Bool := decide (v.dist < 0) || decide (n ≤ v.dist)
/-- The error number of the arguments of a round. -/
def faultE (nodes : List Nd) (cables : List Cb) (up : List Bool) (votes : List Vt) : Int :=
  if validE nodes cables ≠ 0 ∨ up.length ≠ cables.length ∨ votes.length ≠ nodes.length then 1
  else if votes.any (vtB nodes.length) = true then 2 else 0
/-- k rounds. -/
def roundsP (cables : List Cb) (up : List Bool) (votes : List Vt) : Nat → List Vt
  | 0 => votes
  | k + 1 => roundP cables up (roundsP cables up votes k)
theorem heardV_ok {n : Int} {v best : Vt} {port : Int} (hv : 0 ≤ v.dist) (hb : 0 ≤ best.dist ∧ best.dist < n) : 0 ≤ (heardV n v port best).dist ∧ (heardV n v port best).dist < n := by
  unfold heardV
  split
  · split
    · simp only; omega
    · exact hb
  · exact hb
def DistOk (n : Int) (l : List Vt) : Prop := ∀ v ∈ l, 0 ≤ v.dist ∧ v.dist < n
theorem voteAt_ok {n : Int} {votes : List Vt} (h : DistOk n votes) (i : Int) : 0 ≤ (voteAt votes i).dist := by
  unfold voteAt
  rw [List.getD_eq_getElem?_getD]
  cases hv : votes[i.toNat]? with
  | none => exact Int.le_refl 0
  | some v => exact (h v (List.mem_of_getElem? hv)).1
theorem hearC_ok {n : Int} {votes : List Vt} {node : Int} {best : Vt} {x : Cb × Bool} (hv : DistOk n votes) (hb : 0 ≤ best.dist ∧ best.dist < n) : 0 ≤ (hearC n votes node best x).dist ∧ (hearC n votes node best x).dist < n := by
  unfold hearC
  split
  · split
    · refine heardV_ok (voteAt_ok hv _) ?_
      split
      · exact heardV_ok (voteAt_ok hv _) hb
      · exact hb
    · split
      · exact heardV_ok (voteAt_ok hv _) hb
      · exact hb
  · exact hb
theorem foldl_ok {n : Int} {votes : List Vt} {node : Int} (hv : DistOk n votes) (l : List (Cb × Bool)) : ∀ best : Vt, (0 ≤ best.dist ∧ best.dist < n) → 0 ≤ (l.foldl (hearC n votes node) best).dist ∧ (l.foldl (hearC n votes node) best).dist < n := by
  induction l with
  | nil => intro best hb; exact hb
  | cons x l ih => intro best hb; exact ih _ (hearC_ok hv hb)
theorem roundP_len (cables : List Cb) (up : List Bool) (votes : List Vt) : (roundP cables up votes).length = votes.length := by simp [roundP]
theorem roundP_ok {cables : List Cb} {up : List Bool} {votes : List Vt} (hv : DistOk votes.length votes) : DistOk votes.length (roundP cables up votes) := by
  intro v hm
  unfold roundP at hm
  obtain ⟨i, hi, rfl⟩ := List.mem_map.1 hm
  have : i < votes.length := by simpa using hi
  exact foldl_ok hv _ _ ⟨Int.le_refl 0, by simp only [selfV]; omega⟩
theorem roundP_get {cables : List Cb} {up : List Bool} {votes : List Vt} {i : Nat} (h : i < votes.length) : (roundP cables up votes)[i]? = some (roundAt votes.length votes (cables.zip up) (i : Int)) := by
  unfold roundP; rw [List.getElem?_map, List.getElem?_range h]; rfl
theorem faultE_zero {nodes : List Nd} {cables : List Cb} {up : List Bool} {votes : List Vt} : faultE nodes cables up votes = 0 ↔ validE nodes cables = 0 ∧ up.length = cables.length ∧ votes.length = nodes.length ∧ DistOk nodes.length votes := by
  unfold faultE
  constructor
  · intro h
    split at h
    · omega
    · split at h
      · omega
      · rename_i h1 h2
        refine ⟨by omega, by omega, by omega, fun v hv => ?_⟩
        have h3 : ¬ vtB nodes.length v = true := fun h3 => h2 (List.any_eq_true.2 ⟨v, hv, h3⟩)
        simp [vtB] at h3
        omega
  · rintro ⟨h1, h2, h3, h4⟩
    rw [if_neg (by omega), if_neg]
    intro h5
    obtain ⟨v, hv, h6⟩ := List.any_eq_true.1 h5
    have := h4 v hv
    simp [vtB] at h6
    omega
/-! ### what a valid plan says of its cables -/
structure CabOk (n : Nat) (c : Cb) : Prop where
  a : 0 ≤ c.a ∧ c.a < n
  b : 0 ≤ c.b ∧ c.b < n
  ne : c.a ≠ c.b
  ap : 0 ≤ c.ap
  bp : 0 ≤ c.bp
theorem hasB_spec {l : List Nd} {node port : Int} (h : hasB l node port = true) : 0 ≤ node ∧ node < l.length ∧ 0 ≤ port := by
  simp only [hasB, Bool.and_eq_true, decide_eq_true_eq] at h
  exact ⟨h.1, h.2.1, h.2.2.1⟩
theorem valid_spec {N : List Nd} {C : List Cb} (h : validE N C = 0) : N.length ≤ 16 ∧ C.length ≤ 32 ∧ N.all nodeB = true ∧ C.all (endsB N) = true ∧ (dupB (names N) || dupB (ends C)) = false ∧ C.any loopB = false ∧ C.any formB = false := by
  unfold validE at h
  repeat (split at h; · cases h)
  rename_i h1 h2 h3 h4 h5 h6
  exact ⟨by omega, by omega, by simpa using h2, by simpa using h3, by simpa using h4, by simpa using h5, by simpa using h6⟩
theorem valid_cab {N : List Nd} {C : List Cb} (h : validE N C = 0) : ∀ c ∈ C, CabOk N.length c := by
  obtain ⟨-, -, -, h3, -, h5, -⟩ := valid_spec h
  intro c hc
  rw [List.all_eq_true] at h3
  have h1 := h3 c hc
  simp only [endsB, Bool.and_eq_true] at h1
  obtain ⟨a1, a2, a3⟩ := hasB_spec h1.1
  obtain ⟨b1, b2, b3⟩ := hasB_spec h1.2
  have h2 : ¬ loopB c = true := fun h2 => by
    have := List.any_eq_true.2 ⟨c, hc, h2⟩
    rw [h5] at this; cases this
  exact ⟨⟨a1, a2⟩, ⟨b1, b2⟩, fun e => h2 (by simp [loopB, e]), a3, b3⟩
end Go.Proofs.Ytckigonkcjceeaa
