/- Setup: the reference's functions with the places of its two lists written out; Stop and Start. -/
import Derived.Test.YtnmgnggchgckoaaRefC
import Derived.Test.YtnmgnggchgckoaaRecv
namespace Go.Proofs.Ytnmgnggchgckoaa
set_option linter.unusedVariables false
set_option linter.unusedSimpArgs false
open Go.RowKit
abbrev at4 (gA k gD m : Nat) : At := ⟨some ⟨gA, 0, none⟩, k, some ⟨gD, 0, none⟩, m⟩
/-- The reference's chain by value. -/
abbrev rv (c : Ch) (gA k gD m : Nat) : Value := .agg #[.int .i64 c.conn, .int .i64 c.need, .slice (some ⟨gA, 0, none⟩) c.n k, .slice (some ⟨gD, 0, none⟩) c.n m]
abbrev rc (c : Ch) (gA k gD m : Nat) : Array Value := #[.int .i64 c.conn, .int .i64 c.need, .slice (some ⟨gA, 0, none⟩) c.n k, .slice (some ⟨gD, 0, none⟩) c.n m]
theorem RefV.places {w : World} {c : Ch} {a : At} (h : RefV w c a) : ∃ gA k gD m, a = at4 gA k gD m := by
  obtain ⟨A, k, D, m⟩ := a
  obtain ⟨gA, _, eA, _⟩ := h.roomsR
  obtain ⟨gD, _, eD, _⟩ := h.stsR
  simp only at eA eD
  exact ⟨gA, k, gD, m, by rw [eA, eD]⟩
/-- Where the lists lie behind: the rooms stay, the states' row is the old one or new. -/
structure Fx (w : World) (gA gD gA' gD' : Nat) : Prop where
  A : gA' = gA
  D : gD' = gD ∨ w.heap.size ≤ gD'
theorem Fx.refl (w : World) (gA gD : Nat) : Fx w gA gD gA gD := ⟨rfl, .inl rfl⟩
theorem Fx.of {w W : World} {gA gD gA' gD' : Nat} (h : Fx W gA gD gA' gD') (hw : w.heap.size ≤ W.heap.size) : Fx w gA gD gA' gD' := ⟨h.A, h.D.imp id fun hg => Nat.le_trans hw hg⟩
def RSx (w : World) (gA0 gD0 : Nat) (c : Ch) (ms : List Msg) (e : Ending) (w' : World) : Prop :=
  ∃ (gA k gD m : Nat) (v : Value), e = .returned (.tuple #[.agg #[.int .i64 c.conn, .int .i64 c.need, .slice (some ⟨gA, 0, none⟩) c.n k, .slice (some ⟨gD, 0, none⟩) c.n m], v]) ∧ RefV w' c (at4 gA k gD m) ∧ w'.ownsRow w.heap.size 58 3 v ms.length (mcells ms) ∧ Below w.heap.size w w' ∧ Fx w gA0 gD0 gA gD
def RRx (w : World) (gA0 gD0 : Nat) (r : Ch × List Msg × Int) (e : Ending) (w' : World) : Prop :=
  ∃ (gA k gD m : Nat) (v : Value), e = .returned (.tuple #[.agg #[.int .i64 r.1.conn, .int .i64 r.1.need, .slice (some ⟨gA, 0, none⟩) r.1.n k, .slice (some ⟨gD, 0, none⟩) r.1.n m], v, .int .i64 r.2.2]) ∧ RefV w' r.1 (at4 gA k gD m) ∧ w'.ownsRow w.heap.size 58 3 v r.2.1.length (mcells r.2.1) ∧ Below w.heap.size w w' ∧ Fx w gA0 gD0 gA gD
theorem RSets.x {w w' : World} {c : Ch} {ms : List Msg} {e : Ending} {gA0 k0 gD0 m0 : Nat} (h : RSets w (at4 gA0 k0 gD0 m0) c ms e w') : RSx w gA0 gD0 c ms e w' := by
  obtain ⟨a, v, rfl, hr, ho, hb, hf⟩ := h
  obtain ⟨gA, k, gD, m, rfl⟩ := hr.places
  refine ⟨gA, k, gD, m, v, rfl, hr, ho, hb, ?_, ?_⟩
  · have h1 : some (⟨gA, 0, none⟩ : Addr) = some ⟨gA0, 0, none⟩ := hf.A
    injection h1 with h1; injection h1
  · rcases hf.D with h1 | ⟨g, h1, h2⟩
    · have h1 : some (⟨gD, 0, none⟩ : Addr) = some ⟨gD0, 0, none⟩ := h1
      injection h1 with h1; injection h1 with h1; exact .inl h1
    · have h1 : some (⟨gD, 0, none⟩ : Addr) = some ⟨g, 0, none⟩ := h1
      injection h1 with h1; injection h1 with h1; subst h1; exact .inr h2
section
variable {c : Ch} {gA k gD m i : Nat} {w : World}
theorem set_x (s kk d ii : Int) (hii : (i : Int) = ii) (h : RefV w c (at4 gA k gD m)) (hi : i < c.n) (s0 : 0 ≤ s) (s5 : s ≤ 5) :
    Calls Try.prog 40 #[.agg #[.int .i64 c.conn, .int .i64 c.need, .slice (some ⟨gA, 0, none⟩) c.n k, .slice (some ⟨gD, 0, none⟩) c.n m], .int .i64 ii, .int .i64 s, .int .i64 kk, .int .i64 d] w (RSx w gA gD (c.put i s) (sendP c kk d)) := by
  subst hii
  exact (set_c c (at4 gA k gD m) i s kk d w h hi s0 s5).mono fun _ _ hh => hh.x
theorem open_x (ii : Int) (hii : (i : Int) = ii) (h : RefV w c (at4 gA k gD m)) (hi : i < c.n) :
    Calls Try.prog 39 #[.agg #[.int .i64 c.conn, .int .i64 c.need, .slice (some ⟨gA, 0, none⟩) c.n k, .slice (some ⟨gD, 0, none⟩) c.n m], .int .i64 ii] w (RSx w gA gD (opensP c i).1 (opensP c i).2) := by
  subst hii
  exact (open_c' c (at4 gA k gD m) i w h hi).mono fun _ _ hh => hh.x
theorem shut_x (ii : Int) (hii : (i : Int) = ii) (h : RefV w c (at4 gA k gD m)) (hi : i < c.n) :
    Calls Try.prog 41 #[.agg #[.int .i64 c.conn, .int .i64 c.need, .slice (some ⟨gA, 0, none⟩) c.n k, .slice (some ⟨gD, 0, none⟩) c.n m], .int .i64 ii] w (RSx w gA gD (shutP c i).1 (shutP c i).2) := by
  subst hii
  exact (shut_c c (at4 gA k gD m) i w h hi).mono fun _ _ hh => hh.x
end
/-- The boxes: the parameter's holds the chain, the result's is empty. -/
structure RX (w : World) (c : Ch) (gA k gD m bp bq : Nat) (W : World) : Prop where
  v : RefV W c (at4 gA k gD m)
  bx : Blk W bp 51 #[.int .i64 c.conn, .int .i64 c.need, .slice (some ⟨gA, 0, none⟩) c.n k, .slice (some ⟨gD, 0, none⟩) c.n m]
  rx : Blk W bq 51 #[.int .i64 0, .int .i64 0, .slice none 0 0, .slice none 0 0]
  bel : Below w.heap.size w W
  p0 : w.heap.size ≤ bp
  q0 : w.heap.size ≤ bq
  ne : bp ≠ bq
section
variable {w W W' : World} {c c' : Ch} {gA k gD m gA' k' gD' m' bp bq : Nat}
theorem RX.new_ (h : RX w c gA k gD m bp bq W) (hb : Below W.heap.size W W') : RX w c gA k gD m bp bq W' := ⟨h.v.new_ hb, h.bx.new_ hb, h.rx.new_ hb, join h.bel hb, h.p0, h.q0, h.ne⟩
structure RXC (c : Ch) (gA k gD m bp bq : Nat) (W : World) : Prop where
  k0 : W.cell? ⟨bp, 0, none⟩ = some (.int .i64 c.conn)
  k1 : W.cell? ⟨bp, 1, none⟩ = some (.int .i64 c.need)
  k2 : W.cell? ⟨bp, 2, none⟩ = some (.slice (some ⟨gA, 0, none⟩) c.n k)
  k3 : W.cell? ⟨bp, 3, none⟩ = some (.slice (some ⟨gD, 0, none⟩) c.n m)
  r0 : W.cell? ⟨bq, 0, none⟩ = some (.int .i64 0)
  r1 : W.cell? ⟨bq, 1, none⟩ = some (.int .i64 0)
  r2 : W.cell? ⟨bq, 2, none⟩ = some (.slice none 0 0)
  r3 : W.cell? ⟨bq, 3, none⟩ = some (.slice none 0 0)
  fp : ∀ i, W.frozen? ⟨bp, i, none⟩ = false
  fq : ∀ i, W.frozen? ⟨bq, i, none⟩ = false
  zp : bp < W.heap.size
  zq : bq < W.heap.size
  zA : gA < W.heap.size
  zD : gD < W.heap.size
  st : ∀ i, i < c.n → W.cell? ⟨gD, i, none⟩ = some (.int .i64 (c.st i))
  ro : ∀ i, i < c.n → W.cell? ⟨gA, i, none⟩ = some (.int .i64 (c.room i))
theorem RefV.zA (h : RefV W c (at4 gA k gD m)) : gA < W.heap.size := by
  obtain ⟨g, cur, e, h1, h2⟩ := h.roomsR
  cases e; exact h1.lt
theorem RefV.zD (h : RefV W c (at4 gA k gD m)) : gD < W.heap.size := by
  obtain ⟨g, cur, e, h1, h2⟩ := h.stsR
  cases e; exact h1.lt
theorem RefV.cD (h : RefV W c (at4 gA k gD m)) {i : Nat} (hi : i < c.n) : W.cell? ⟨gD, i, none⟩ = some (.int .i64 (c.st i)) := by
  obtain ⟨g, cur, e, h1, h2⟩ := h.stsR
  cases e; exact row_cell h1 h2 hi
theorem RefV.cA (h : RefV W c (at4 gA k gD m)) {i : Nat} (hi : i < c.n) : W.cell? ⟨gA, i, none⟩ = some (.int .i64 (c.room i)) := by
  obtain ⟨g, cur, e, h1, h2⟩ := h.roomsR
  cases e; exact room_cell h1 h2 h.ok.len hi
theorem RX.cells (h : RX w c gA k gD m bp bq W) : RXC c gA k gD m bp bq W :=
  ⟨h.bx.cell 0 rfl, h.bx.cell 1 rfl, h.bx.cell 2 rfl, h.bx.cell 3 rfl, h.rx.cell 0 rfl, h.rx.cell 1 rfl, h.rx.cell 2 rfl, h.rx.cell 3 rfl, h.bx.free, h.rx.free, h.bx.lt, h.rx.lt, h.v.zA, h.v.zD, fun _ hi => h.v.cD hi, fun _ hi => h.v.cA hi⟩
theorem RX.start (h : RefV w c (at4 gA k gD m)) : RX w c gA k gD m w.heap.size (w.heap.size + 1) ((w.alloc (.cells #[.int .i64 c.conn, .int .i64 c.need, .slice (some ⟨gA, 0, none⟩) c.n k, .slice (some ⟨gD, 0, none⟩) c.n m] 51)).alloc (.cells #[.int .i64 0, .int .i64 0, .slice none 0 0, .slice none 0 0] 51)) := by
  have hn := Blk.new (w.alloc (.cells #[.int .i64 c.conn, .int .i64 c.need, .slice (some ⟨gA, 0, none⟩) c.n k, .slice (some ⟨gD, 0, none⟩) c.n m] 51)) 51 #[.int .i64 0, .int .i64 0, .slice none 0 0, .slice none 0 0]
  rw [World.size_alloc] at hn
  exact ⟨(h.alloc _).alloc _, (Blk.new _ _ _).alloc _, hn, ((Below.refl _ _).alloc (Nat.le_refl _) _).alloc (by simp) _, Nat.le_refl _, by omega, by omega⟩
/-- The result is filled. -/
theorem RX.fin {B n : Nat} {v : Value} {xs : List Value} {WF : World} (hv : RefV W c' (at4 gA' k' gD' m')) (hx : Blk W bq 51 #[.int .i64 0, .int .i64 0, .slice none 0 0, .slice none 0 0]) (hb : Below w.heap.size w W) (hq : w.heap.size ≤ bq) (ho : W.ownsRow B 58 3 v n xs) (hB : w.heap.size ≤ B)
    (hW : WF = (((W.setCell ⟨bq, 0, none⟩ (.int .i64 c'.conn)).setCell ⟨bq, 1, none⟩ (.int .i64 c'.need)).setCell ⟨bq, 2, none⟩ (.slice (some ⟨gA', 0, none⟩) c'.n k')).setCell ⟨bq, 3, none⟩ (.slice (some ⟨gD', 0, none⟩) c'.n m')) :
    Blk WF bq 51 #[.int .i64 c'.conn, .int .i64 c'.need, .slice (some ⟨gA', 0, none⟩) c'.n k', .slice (some ⟨gD', 0, none⟩) c'.n m'] ∧ RefV WF c' (at4 gA' k' gD' m') ∧ WF.ownsRow w.heap.size 58 3 v n xs ∧ Below w.heap.size w WF := by
  subst hW
  obtain ⟨q1, q2, q3, q4⟩ := box_out (x := .int .i64 c'.conn) (y := .int .i64 c'.need) (z := .slice (some ⟨gA', 0, none⟩) c'.n k') (u := .slice (some ⟨gD', 0, none⟩) c'.n m') hv hx rfl hb hq
  exact ⟨q1, q2, ownsRow_base (q4 ho) hB, q3⟩
/-- Another chain is written into the parameter's box. -/
theorem RX.put (h : RX w c gA k gD m bp bq W) (hb : Below W.heap.size W W') (hv : RefV W' c' (at4 gA' k' gD' m')) {B n : Nat} {v : Value} {xs : List Value} (ho : W'.ownsRow B 58 3 v n xs) (hB : w.heap.size ≤ B) {WF : World}
    (hW : WF = (((W'.setCell ⟨bp, 0, none⟩ (.int .i64 c'.conn)).setCell ⟨bp, 1, none⟩ (.int .i64 c'.need)).setCell ⟨bp, 2, none⟩ (.slice (some ⟨gA', 0, none⟩) c'.n k')).setCell ⟨bp, 3, none⟩ (.slice (some ⟨gD', 0, none⟩) c'.n m')) :
    RX w c' gA' k' gD' m' bp bq WF ∧ WF.ownsRow w.heap.size 58 3 v n xs := by
  subst hW
  have h' := h.new_ hb
  obtain ⟨q1, q2, q3, q4⟩ := box_out (x := .int .i64 c'.conn) (y := .int .i64 c'.need) (z := .slice (some ⟨gA', 0, none⟩) c'.n k') (u := .slice (some ⟨gD', 0, none⟩) c'.n m') hv h'.bx rfl h'.bel h.p0
  have far : ∀ {X : World} {cs : Array Value} (o : Nat) (u : Value), Blk X bq 51 cs → Blk (X.setCell ⟨bp, o, none⟩ u) bq 51 cs := fun o u hx => hx.far (p := ⟨bp, o, none⟩) (fun e => h.ne e.symm) u
  exact ⟨⟨q2, q1, far _ _ (far _ _ (far _ _ (far _ _ h'.rx))), q3, h.p0, h.q0, h.ne⟩, ownsRow_base (q4 ho) hB⟩
end
theorem put_st_same (c : Ch) {i : Nat} (hi : i < c.n) : c.put i (c.st i) = c := by
  unfold Ch.put Ch.st
  have : c.states.set i (c.states.getD i 0) = c.states := by
    rw [List.getD_eq_getElem?_getD, List.getElem?_eq_getElem hi]
    exact List.set_getElem_self _
  rw [this]
end Go.Proofs.Ytnmgnggchgckoaa
