/- Setup: the chain and its rules as plain data. No program in sight. -/
import Derived.Test.YtnmgnggchgckoaaWords
namespace Go.Proofs.Ytnmgnggchgckoaa
set_option linter.unusedVariables false
set_option linter.unusedSimpArgs false
open Go.RowKit
structure Kept (p : Prop) : Prop where
  out : p
structure Ch where
  conn : Int
  need : Int
  rooms : List Int
  states : List Int
structure Msg where
  kind : Int
  conn : Int
  dest : Int
deriving DecidableEq
def Ch.n (c : Ch) : Nat := c.states.length
def Ch.st (c : Ch) (i : Nat) : Int := c.states.getD i 0
def Ch.room (c : Ch) (i : Nat) : Int := c.rooms.getD i 0
def Ch.put (c : Ch) (i : Nat) (s : Int) : Ch := { c with states := c.states.set i s }
def Ch.hasB (c : Ch) (k : Int) : Bool := decide (0 ≤ k) && decide (k < c.n)
def sendP (c : Ch) (k d : Int) : List Msg := if c.hasB d = true then [⟨k, c.conn, d⟩] else []
def openP (c : Ch) (i : Nat) : Ch × List Msg :=
  if c.st i = 0 then
    if c.room i < c.need then (c.put i 3, sendP c 3 ((i : Int) - 1))
    else if i + 1 = c.n then (c.put i 2, sendP c 2 ((i : Int) - 1))
    else (c.put i 1, sendP c 1 ((i : Int) + 1))
  else if c.st i = 2 then (c, sendP c 2 ((i : Int) - 1))
  else if c.st i = 3 then (c, sendP c 3 ((i : Int) - 1))
  else if c.st i = 5 then (c, sendP c 5 ((i : Int) - 1))
  else (c, [])
def closeP (c : Ch) (i : Nat) : Ch × List Msg :=
  if c.st i = 1 ∨ c.st i = 2 then
    if i + 1 = c.n then (c.put i 5, sendP c 5 ((i : Int) - 1)) else (c.put i 4, sendP c 4 ((i : Int) + 1))
  else if c.st i = 0 then (c.put i 5, sendP c 5 ((i : Int) - 1))
  else if c.st i = 4 then (c, [])
  else (c, sendP c 5 ((i : Int) - 1))
def turnP (c : Ch) (i : Nat) (a b k : Int) : Ch × List Msg :=
  if c.st i = a then (c.put i b, sendP c k ((i : Int) - 1)) else (c, [])
/-- What fits the program's bounds. -/
structure Ok (c : Ch) : Prop where
  n1 : 1 ≤ c.n
  n2 : c.n ≤ 16
  len : c.rooms.length = c.n
  need1 : 1 ≤ c.need
  need2 : c.need ≤ 1000
  room : ∀ i, i < c.n → 0 ≤ c.room i ∧ c.room i ≤ 1000
  st : ∀ i, i < c.n → 0 ≤ c.st i ∧ c.st i ≤ 5
theorem put_n (c : Ch) (i : Nat) (s : Int) : (c.put i s).n = c.n := by simp [Ch.n, Ch.put]
theorem put_st (c : Ch) {i : Nat} (s : Int) (j : Nat) (hi : i < c.n) : (c.put i s).st j = if j = i then s else c.st j := by
  unfold Ch.n at hi
  simp only [Ch.st, Ch.put, List.getD_eq_getElem?_getD, List.getElem?_set]
  by_cases h : i = j
  · subst h; simp [hi]
  · rw [if_neg h, if_neg (fun e => h e.symm)]
theorem put_room (c : Ch) (i : Nat) (s : Int) (j : Nat) : (c.put i s).room j = c.room j := rfl
theorem put_hasB (c : Ch) (i : Nat) (s k : Int) : (c.put i s).hasB k = c.hasB k := by simp [Ch.hasB, put_n]
theorem put_sendP (c : Ch) (i : Nat) (s k d : Int) : sendP (c.put i s) k d = sendP c k d := by unfold sendP; rw [put_hasB]; rfl
theorem Ok.put {c : Ch} (h : Ok c) {i : Nat} (hi : i < c.n) {s : Int} (h0 : 0 ≤ s) (h5 : s ≤ 5) : Ok (c.put i s) :=
  ⟨by rw [put_n]; exact h.n1, by rw [put_n]; exact h.n2, by rw [put_n]; exact h.len, h.need1, h.need2, fun j hj => h.room j (by rwa [put_n] at hj),
    fun j hj => by rw [put_st c s j hi]; split; exact ⟨h0, h5⟩; exact h.st j (by rwa [put_n] at hj)⟩
theorem hasB_iff {c : Ch} {k : Int} : c.hasB k = true ↔ 0 ≤ k ∧ k < c.n := by simp [Ch.hasB]
theorem Ok.open_ {c : Ch} (h : Ok c) {i : Nat} (hi : i < c.n) : Ok (openP c i).1 := by
  unfold openP
  repeat' split
  all_goals first | exact h | exact h.put hi (by omega) (by omega)
theorem Ok.close_ {c : Ch} (h : Ok c) {i : Nat} (hi : i < c.n) : Ok (closeP c i).1 := by
  unfold closeP
  repeat' split
  all_goals first | exact h | exact h.put hi (by omega) (by omega)
theorem Ok.turn_ {c : Ch} (h : Ok c) {i : Nat} (hi : i < c.n) {a b k : Int} (hb : 0 ≤ b) (hb5 : b ≤ 5) : Ok (turnP c i a b k).1 := by
  unfold turnP
  split
  · exact h.put hi hb hb5
  · exact h
/-- The cells of messages. -/
def mcells (l : List Msg) : List Value := l.flatMap fun m => [.int .i64 m.kind, .int .i64 m.conn, .int .i64 m.dest]
theorem mcells_nil : mcells [] = [] := rfl
theorem mcells_cons (m : Msg) (l : List Msg) : mcells (m :: l) = .int .i64 m.kind :: .int .i64 m.conn :: .int .i64 m.dest :: mcells l := rfl
theorem mcells_app (l m : List Msg) : mcells (l ++ m) = mcells l ++ mcells m := by simp [mcells]
theorem mcells_len (l : List Msg) : (mcells l).length = l.length * 3 := by
  induction l with
  | nil => rfl
  | cons m l ih => simp [mcells_cons, ih]; omega
theorem mcells_get {l : List Msg} {i : Nat} {m : Msg} (h : l[i]? = some m) : (mcells l)[i * 3]? = some (.int .i64 m.kind) ∧ (mcells l)[i * 3 + 1]? = some (.int .i64 m.conn) ∧ (mcells l)[i * 3 + 2]? = some (.int .i64 m.dest) := by
  induction l generalizing i with
  | nil => simp at h
  | cons a l ih =>
    cases i with
    | zero => simp at h; subst h; simp [mcells_cons]
    | succ i =>
      have := ih (i := i) (by simpa using h)
      rw [show (i + 1) * 3 = i * 3 + 3 by omega]
      simpa [mcells_cons] using this
theorem mcells_one {l : List Msg} : ∀ u ∈ mcells l, u.oneCell' = true := by
  intro u hu
  simp only [mcells, List.mem_flatMap] at hu
  obtain ⟨m, _, hm⟩ := hu
  simp at hm
  rcases hm with rfl | rfl | rfl <;> rfl
/-- Where a chain lies: itself, its rooms, its states, the capacity of the rooms. -/
structure Loc where
  p : Nat
  R : Nat
  S : Nat
  k : Nat
def ints (l : List Int) : Array Value := (l.map (Value.int .i64)).toArray
theorem ints_get {l : List Int} {i : Nat} (h : i < l.length) : (ints l)[i]? = some (.int .i64 (l.getD i 0)) := by
  simp [ints, List.getD_eq_getElem?_getD, List.getElem?_eq_getElem h]
theorem ints_set (l : List Int) (i : Nat) (s : Int) : (ints l).setIfInBounds i (.int .i64 s) = ints (l.set i s) := by
  simp [ints, List.map_set]
/-- A chain in memory. -/
structure IsCh (w : World) (L : Loc) (c : Ch) : Prop where
  tab : Blk w L.p 65 #[.int .i64 c.conn, .int .i64 c.need, .slice (some ⟨L.R, 0, none⟩) c.n L.k, .slice (some ⟨L.S, 0, none⟩) c.n c.n]
  row : Blk w L.S 3 (ints c.states)
  rooms : ∀ i, i < c.n → w.cell? ⟨L.R, i, none⟩ = some (.int .i64 (c.room i))
  rlt : L.R < w.heap.size
  ne : L.R ≠ L.S
  kap : c.n ≤ L.k
  kmax : L.k ≤ maxLen
  ok : Ok c
section
variable {w w' : World} {L : Loc} {c : Ch}
theorem IsCh.pS (h : IsCh w L c) : L.p ≠ L.S := by
  intro e
  have h1 := h.tab
  have h2 := h.row
  rw [e] at h1
  unfold Blk at h1 h2
  rw [h1] at h2
  injection h2 with h2
  injection h2 with _ ht
  cases ht
theorem IsCh.move (h : IsCh w L c) (hs : w.heap.size ≤ w'.heap.size) (hp : w'.heap[L.p]? = w.heap[L.p]?) (hR : w'.heap[L.R]? = w.heap[L.R]?) (hS : w'.heap[L.S]? = w.heap[L.S]?) : IsCh w' L c :=
  ⟨hp.trans h.tab, hS.trans h.row, fun i hi => (World.cell?_of_block (a := ⟨L.R, i, none⟩) hR).trans (h.rooms i hi), Nat.lt_of_lt_of_le h.rlt hs, h.ne, h.kap, h.kmax, h.ok⟩
theorem IsCh.new_ (h : IsCh w L c) (hb : Below w.heap.size w w') : IsCh w' L c := h.move hb.size (hb.block _ h.tab.lt) (hb.block _ h.rlt) (hb.block _ h.row.lt)
theorem IsCh.alloc (h : IsCh w L c) (o : Obj) : IsCh (w.alloc o) L c := h.new_ ((Below.refl _ _).alloc (Nat.le_refl _) o)
theorem IsCh.drewN (h : IsCh w L c) (n : Nat) : IsCh (w.drewN n) L c := ⟨h.tab, h.row, h.rooms, h.rlt, h.ne, h.kap, h.kmax, h.ok⟩
theorem IsCh.drew (h : IsCh w L c) : IsCh w.drew L c := h.drewN 1
theorem IsCh.below {B : Nat} (h : IsCh w L c) (hb : Below B w w') (hp : L.p < B) (hR : L.R < B) (hS : L.S < B) : IsCh w' L c := h.move hb.size (hb.block _ hp) (hb.block _ hR) (hb.block _ hS)
theorem IsCh.only {S : Nat → Prop} (h : IsCh w L c) (hb : OnlyP S w w') (hp : ¬ S L.p) (hR : ¬ S L.R) (hS : ¬ S L.S) : IsCh w' L c := h.move hb.size (hb.block _ h.tab.lt hp) (hb.block _ h.rlt hR) (hb.block _ h.row.lt hS)
theorem IsCh.far (h : IsCh w L c) {p : Addr} (u : Value) (hp : L.p ≠ p.block) (hR : L.R ≠ p.block) (hS : L.S ≠ p.block) : IsCh (w.setCell p u) L c :=
  h.move (by simp [World.setCell]) (Below.heap_setCell w p u _ hp) (Below.heap_setCell w p u _ hR) (Below.heap_setCell w p u _ hS)
theorem IsCh.put (h : IsCh w L c) {i : Nat} (hi : i < c.n) {s : Int} (h0 : 0 ≤ s) (h5 : s ≤ 5) : IsCh (w.setCell ⟨L.S, i, none⟩ (.int .i64 s)) L (c.put i s) := by
  have hok := h.ok.put hi h0 h5
  refine ⟨?_, h.row.to _ _ (ints_set _ _ _), fun j hj => ?_, by simpa [World.setCell] using h.rlt, h.ne, by rw [put_n]; exact h.kap, h.kmax, hok⟩
  · rw [put_n]; exact h.tab.far (p := ⟨L.S, i, none⟩) h.pS _
  · rw [put_n] at hj
    exact (World.cell?_of_block (a := ⟨L.R, j, none⟩) (Below.heap_setCell w ⟨L.S, i, none⟩ _ _ h.ne)).trans (h.rooms j hj)
theorem IsCh.state (h : IsCh w L c) {i : Nat} (hi : i < c.n) : w.cell? ⟨L.S, i, none⟩ = some (.int .i64 (c.st i)) := h.row.cell i (ints_get hi)
end
theorem ownsRow_base {w : World} {B B' sz n : Nat} {e : TypeId} {v : Value} {xs : List Value} (h : w.ownsRow B e sz v n xs) (hB : B' ≤ B) : w.ownsRow B' e sz v n xs := by
  refine ⟨h.1, ?_⟩
  rcases h.2 with h2 | ⟨g, cap, cur, h1, h2, h3⟩
  · exact .inl h2
  · exact .inr ⟨g, cap, cur, h1, by omega, h3⟩
end Go.Proofs.Ytnmgnggchgckoaa
