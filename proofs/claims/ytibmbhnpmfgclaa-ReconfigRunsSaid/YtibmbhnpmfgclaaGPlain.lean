/- Plans of networks as plain data: nodes, cables, and what makes a plan valid; how a plan lies in memory. -/
import Derived.Test.YtibmbhnpmfgclaaLists
namespace Go.Proofs.Ytibmbhnpmfgclaa
set_option linter.unusedVariables false
set_option linter.unusedSimpArgs false
open Go.RowKit
structure Nd where
  name : ByteArray
  sw : Bool
  ports : Int
deriving Inhabited
structure Cb where
  a : Int
  ap : Int
  b : Int
  bp : Int
  delay : Int
  cap : Int
deriving Inhabited, DecidableEq
def ncell (n : Nd) : List Value := [.string n.name, .bool n.sw, .int .i64 n.ports]
def ccell (c : Cb) : List Value := [.int .i64 c.a, .int .i64 c.ap, .int .i64 c.b, .int .i64 c.bp, .int .i64 c.delay, .int .i64 c.cap]
theorem ncell_len (n : Nd) : (ncell n).length = 3 := rfl
theorem ccell_len (c : Cb) : (ccell c).length = 6 := rfl
def I64 (x : Int) : Prop := -9223372036854775808 ≤ x ∧ x ≤ 9223372036854775807
def NdOk (n : Nd) : Prop := n.name.size ≤ maxLen ∧ I64 n.ports
def CbOk (c : Cb) : Prop := I64 c.a ∧ I64 c.ap ∧ I64 c.b ∧ I64 c.bp ∧ I64 c.delay ∧ I64 c.cap
/-- A plan and where its lists lie. -/
structure Pl where
  nodes : List Nd
  cables : List Cb
  An : Option Addr
  kn : Nat
  Ac : Option Addr
  kc : Nat
def pv (p : Pl) : Value := .agg #[.slice p.An p.nodes.length p.kn, .slice p.Ac p.cables.length p.kc]
structure PlanAt (w : World) (B : Nat) (p : Pl) : Prop where
  nr : RowsAt w B 3 ncell p.An p.nodes
  cr : RowsAt w B 6 ccell p.Ac p.cables
  nok : ∀ n ∈ p.nodes, NdOk n
  cok : ∀ c ∈ p.cables, CbOk c
  nk : p.nodes.length ≤ p.kn
  ck : p.cables.length ≤ p.kc
  nm : p.kn ≤ maxLen
  cm : p.kc ≤ maxLen
section
variable {w w' : World} {B B' : Nat} {p : Pl}
theorem PlanAt.keep (h : PlanAt w B p) (hk : ∀ q : Addr, q.block < B → w'.cell? q = w.cell? q) : PlanAt w' B p := ⟨h.nr.keep hk, h.cr.keep hk, h.nok, h.cok, h.nk, h.ck, h.nm, h.cm⟩
theorem PlanAt.below (h : PlanAt w B p) (hb : Below B w w') : PlanAt w' B p := h.keep fun _ hp => hb.cell hp
theorem PlanAt.more (h : PlanAt w B p) (hB : B ≤ B') : PlanAt w B' p := ⟨h.nr.more hB, h.cr.more hB, h.nok, h.cok, h.nk, h.ck, h.nm, h.cm⟩
theorem PlanAt.new_ (h : PlanAt w w.heap.size p) (hb : Below w.heap.size w w') : PlanAt w' w'.heap.size p := (h.below hb).more hb.size
theorem PlanAt.len (h : PlanAt w B p) : p.nodes.length ≤ 9223372036854775807 ∧ p.cables.length ≤ 9223372036854775807 := by
  have h1 := h.nk; have h2 := h.ck; have h3 := h.nm; have h4 := h.cm
  unfold maxLen at h3 h4
  omega
end
instance memName (x : ByteArray) (l : List ByteArray) : Decidable (x ∈ l) := @List.instDecidableMemOfLawfulBEq ByteArray (@instBEqOfDecidableEq ByteArray ByteArray.instDecidableEq) _ x l
theorem PlanAt.nod {w : World} {B : Nat} {N : List Nd} {C : List Cb} {An Ac : Option Addr} {kn kc : Nat} (h : PlanAt w B ⟨N, C, An, kn, Ac, kc⟩) {k : Nat} (hk : k < N.length) : ∃ x b off, N[k]? = some x ∧ An = some ⟨b, off, none⟩ ∧ b < B ∧ b < w.heap.size ∧
    w.cell? ⟨b, off + k * 3, none⟩ = some (.string x.name) ∧ w.cell? ⟨b, off + k * 3 + 1, none⟩ = some (.bool x.sw) ∧ w.cell? ⟨b, off + k * 3 + 2, none⟩ = some (.int .i64 x.ports) ∧ NdOk x := by
  obtain ⟨x, b, off, h1, h2, h3, h4, h5⟩ := h.nr.at_ hk
  exact ⟨x, b, off, h1, h2, h3, h4, h5 0 _ rfl, h5 1 _ rfl, h5 2 _ rfl, h.nok x (List.mem_of_getElem? h1)⟩
theorem PlanAt.cab {w : World} {B : Nat} {N : List Nd} {C : List Cb} {An Ac : Option Addr} {kn kc : Nat} (h : PlanAt w B ⟨N, C, An, kn, Ac, kc⟩) {k : Nat} (hk : k < C.length) : ∃ x b off, C[k]? = some x ∧ Ac = some ⟨b, off, none⟩ ∧ b < B ∧ b < w.heap.size ∧
    (w.cell? ⟨b, off + k * 6, none⟩ = some (.int .i64 x.a) ∧ w.cell? ⟨b, off + k * 6 + 1, none⟩ = some (.int .i64 x.ap) ∧ w.cell? ⟨b, off + k * 6 + 2, none⟩ = some (.int .i64 x.b) ∧ w.cell? ⟨b, off + k * 6 + 3, none⟩ = some (.int .i64 x.bp) ∧ w.cell? ⟨b, off + k * 6 + 4, none⟩ = some (.int .i64 x.delay) ∧ w.cell? ⟨b, off + k * 6 + 5, none⟩ = some (.int .i64 x.cap)) ∧ CbOk x := by
  obtain ⟨x, b, off, h1, h2, h3, h4, h5⟩ := h.cr.at_ hk
  exact ⟨x, b, off, h1, h2, h3, h4, ⟨h5 0 _ rfl, h5 1 _ rfl, h5 2 _ rfl, h5 3 _ rfl, h5 4 _ rfl, h5 5 _ rfl⟩, h.cok x (List.mem_of_getElem? h1)⟩
/-! ### names -/
def chrB (i : Nat) (c : UInt8) : Bool := (decide (97 ≤ c.toNat) && decide (c.toNat ≤ 122)) || (!(i == 0) && (decide (48 ≤ c.toNat) && decide (c.toNat ≤ 57)))
def goodTo (s : ByteArray) (k : Nat) : Bool := (List.range k).all fun i => chrB i (s.data.toList.getD i 0)
def nameB (s : ByteArray) : Bool := decide (1 ≤ s.size) && (decide (s.size ≤ 20) && goodTo s s.size)
theorem goodTo_zero (s : ByteArray) : goodTo s 0 = true := rfl
theorem getD_byte (s : ByteArray) (k : Nat) (h : k < s.size) : s.data.toList.getD k 0 = s[k] := by
  have h' : k < s.data.toList.length := by simpa using h
  rw [List.getD_eq_getElem?_getD, List.getElem?_eq_getElem h']; rfl
theorem goodTo_succ (s : ByteArray) (k : Nat) (h : k < s.size) : goodTo s (k + 1) = (goodTo s k && chrB k s[k]) := by
  unfold goodTo
  rw [List.range_succ, List.all_append]
  simp only [List.all_cons, List.all_nil, Bool.and_true]
  rw [getD_byte s k h]
theorem goodTo_mono (s : ByteArray) {k n : Nat} (h : k ≤ n) (hn : goodTo s n = true) : goodTo s k = true := by
  unfold goodTo at hn ⊢
  rw [List.all_eq_true] at hn ⊢
  intro i hi
  exact hn i (by simp at hi ⊢; omega)
theorem name_bad {s : ByteArray} {k : Nat} (h : k < s.size) (hc : chrB k s[k] = false) : nameB s = false := by
  cases hn : nameB s
  · rfl
  · simp only [nameB, Bool.and_eq_true] at hn
    have := goodTo_mono s (show k + 1 ≤ s.size from h) hn.2.2
    rw [goodTo_succ s k h, hc] at this
    simp at this
theorem name_good {s : ByteArray} (h1 : 1 ≤ s.size) (h2 : s.size ≤ 20) (h : goodTo s s.size = true) : nameB s = true := by simp [nameB, h1, h2, h]
theorem name_size {s : ByteArray} (h : s.size < 1 ∨ 20 < s.size) : nameB s = false := by
  unfold nameB
  rcases h with h | h
  · rw [decide_eq_false (by omega : ¬ 1 ≤ s.size)]; rfl
  · rw [decide_eq_false (by omega : ¬ s.size ≤ 20)]; simp
/-! ### nodes, ports -/
def portsB (n : Nd) : Bool := if n.sw then decide (1 ≤ n.ports) && decide (n.ports ≤ 8) else n.ports == 1
def nodeB (n : Nd) : Bool := nameB n.name && portsB n
def nodesB (l : List Nd) : Bool := l.all nodeB
def hasB (l : List Nd) (node port : Int) : Bool := decide (0 ≤ node) && (decide (node < l.length) && (decide (0 ≤ port) && decide (port < (l.getD node.toNat default).ports)))
def endsB (l : List Nd) (c : Cb) : Bool := hasB l c.a c.ap && hasB l c.b c.bp
def names (l : List Nd) : List ByteArray := l.map (·.name)
def ends (l : List Cb) : List (Int × Int) := l.flatMap fun c => [(c.a, c.ap), (c.b, c.bp)]
def dupB {α : Type} [DecidableEq α] (l : List α) : Bool := !decide l.Nodup
def loopB (c : Cb) : Bool := c.a == c.b
def formB (c : Cb) : Bool := decide (c.delay < 1) || (decide (100 < c.delay) || (decide (c.cap < 1) || decide (1000 < c.cap)))
/-- The error number of a plan. -/
def validE (nodes : List Nd) (cables : List Cb) : Int :=
  if 16 < nodes.length ∨ 32 < cables.length then 5
  else if nodes.all nodeB = false then 1
  else if cables.all (endsB nodes) = false then 2
  else if (dupB (names nodes) || dupB (ends cables)) = true then 8
  else if cables.any loopB = true then 12
  else if cables.any formB = true then 3
  else 0
/-! ### lists step by step -/
section
variable {α : Type} {f : α → Bool} {l : List α} {k : Nat} {x : α}
theorem all_next (h : (l.take k).all f = true) (hx : l[k]? = some x) (hf : f x = true) : (l.take (k + 1)).all f = true := by
  rw [take_next hx, List.all_append, h]; simp [hf]
theorem all_bad (hx : l[k]? = some x) (hf : f x = false) : l.all f = false := by
  cases h : l.all f
  · rfl
  · rw [List.all_eq_true] at h
    rw [h x (List.mem_of_getElem? hx)] at hf
    cases hf
theorem any_next (h : (l.take k).any f = false) (hx : l[k]? = some x) (hf : f x = false) : (l.take (k + 1)).any f = false := by
  rw [take_next hx, List.any_append, h]; simp [hf]
theorem any_yes (hx : l[k]? = some x) (hf : f x = true) : l.any f = true := List.any_eq_true.2 ⟨x, List.mem_of_getElem? hx, hf⟩
theorem dup_yes [DecidableEq α] (h : ¬ l.Nodup) : dupB l = true := by simp [dupB, h]
theorem dup_no [DecidableEq α] (h : l.Nodup) : dupB l = false := by simp [dupB, h]
end
theorem nodup_snoc {α : Type} {l : List α} {x : α} : (l ++ [x]).Nodup ↔ l.Nodup ∧ x ∉ l := by
  rw [List.nodup_append]
  constructor
  · rintro ⟨h1, -, h3⟩
    exact ⟨h1, fun hx => h3 x hx x (by simp) rfl⟩
  · rintro ⟨h1, h2⟩
    exact ⟨h1, by simp, fun a ha b hb => by simp at hb; subst hb; rintro rfl; exact h2 ha⟩
theorem nodup_prefix {α : Type} {l : List α} {k : Nat} (h : l.Nodup) : (l.take k).Nodup := h.sublist (List.take_sublist _ _)
end Go.Proofs.Ytibmbhnpmfgclaa
