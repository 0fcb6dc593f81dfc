/- Small words on memory that the walks of this seat share: a block that is known whole, a world in which some blocks alone may have been written, and how they pass through new blocks, stores and draws. No program in sight. -/
import Derived.WalkKit
import Derived.Handy
import Derived.LoopTactic
import Derived.Deep.QuietTactic
import Derived.Deep.RegionWith
import Derived.Deep.LoopGhost
import Derived.BigQuiet
import Derived.BigRegion
import Derived.IntWalk
import Derived.Laws.Rows
import Derived.WalkSmall
import Derived.WalkSpells
import Derived.WalkLawsBesides
import Derived.Deep.RegionHeld3
import Derived.Deep.DeepCutAuto
import Derived.OwnWalk
import Derived.ProofKit
import Derived.Maps.AppendAt
import Derived.Deep.AppendLies
import Derived.Deep.Draws
namespace Go.Proofs.Ytjalegdfofogcaa
set_option linter.unusedVariables false
set_option linter.unusedSimpArgs false
open Go.RowKit
theorem join {w W w1 : World} (h : Below w.heap.size w W) (hb : Below W.heap.size W w1) : Below w.heap.size w w1 := h.trans (hb.mono h.size)
theorem dN {B : Nat} {w w1 : World} (h : Below B w w1) (n : Nat) : Below B w (w1.drewN n) := ⟨h.os, h.tape, h.output, h.size, h.block⟩
theorem lt1 {w W w1 : World} (h : w.heap.size < W.heap.size) (hb : Below W.heap.size W w1) : w.heap.size < w1.heap.size := Nat.lt_of_lt_of_le h hb.size
theorem hid {p : Prop} (h : p) : Hid p := h
theorem ret_bool {a b : Bool} (h : a = b) : Ending.returned (.bool a) = .returned (.bool b) := by rw [h]
theorem ret_int {k : IntKind} {a b : Int} (h : a = b) : Ending.returned (.int k a) = .returned (.int k b) := by rw [h]
theorem bcell {W w1 : World} (hb : Below W.heap.size W w1) : (∀ b o, b < W.heap.size → w1.cell? ⟨b, o, none⟩ = W.cell? ⟨b, o, none⟩) ∧ (∀ b o, b < W.heap.size → w1.frozen? ⟨b, o, none⟩ = W.frozen? ⟨b, o, none⟩) :=
  ⟨fun b o h => hb.cell (p := ⟨b, o, none⟩) h, fun b o h => hb.frozen (p := ⟨b, o, none⟩) h⟩
/-- Block g is just these cells, none frozen. -/
def Blk (w : World) (g : Nat) (t : TypeId) (cs : Array Value) : Prop := w.heap[g]? = some (.cells cs t (0, 0))
section
variable {w w' : World} {g : Nat} {t : TypeId} {cs : Array Value}
theorem Blk.lt (h : Blk w g t cs) : g < w.heap.size := by
  rcases Nat.lt_or_ge g w.heap.size with hlt | hge
  · exact hlt
  · unfold Blk at h; rw [Array.getElem?_eq_none hge] at h; cases h
theorem Blk.cell (h : Blk w g t cs) (i : Nat) {v : Value} (hv : cs[i]? = some v) : w.cell? ⟨g, i, none⟩ = some v := (cell_of_row w g i cs t (0, 0) h).trans hv
theorem Blk.free (h : Blk w g t cs) (i : Nat) : w.frozen? ⟨g, i, none⟩ = false := by
  unfold Blk at h
  simp [World.frozen?, h]
theorem Blk.new (w : World) (t : TypeId) (cs : Array Value) : Blk (w.alloc (.cells cs t)) w.heap.size t cs := heap_alloc_new w _
theorem Blk.drewN (h : Blk w g t cs) (n : Nat) : Blk (w.drewN n) g t cs := h
theorem Blk.drew (h : Blk w g t cs) : Blk w.drew g t cs := h
theorem Blk.alloc (h : Blk w g t cs) (o : Obj) : Blk (w.alloc o) g t cs := (Below.heap_alloc w o g h.lt).trans h
theorem Blk.set_ (h : Blk w g t cs) (i : Nat) (u : Value) : Blk (w.setCell ⟨g, i, none⟩ u) g t (cs.setIfInBounds i u) := by
  unfold Blk at h ⊢
  simp [World.setCell, Array.getElem?_modify, h]
theorem Blk.to (h : Blk w g t cs) (i : Nat) (u : Value) {cs' : Array Value} (e : cs.setIfInBounds i u = cs') : Blk (w.setCell ⟨g, i, none⟩ u) g t cs' := e ▸ h.set_ i u
theorem Blk.far (h : Blk w g t cs) {p : Addr} (hp : g ≠ p.block) (u : Value) : Blk (w.setCell p u) g t cs := (Below.heap_setCell w p u g hp).trans h
theorem Blk.below {B : Nat} (h : Blk w g t cs) (hb : Below B w w') (hg : g < B) : Blk w' g t cs := (hb.block g hg).trans h
theorem Blk.new_ (h : Blk w g t cs) (hb : Below w.heap.size w w') : Blk w' g t cs := h.below hb h.lt
end
/-- What was there is as it was, but for the blocks of S. -/
structure OnlyP (S : Nat → Prop) (w w' : World) : Prop where
  os : w'.os = w.os
  tape : w'.tape = w.tape
  output : w'.output = w.output
  size : w.heap.size ≤ w'.heap.size
  block : ∀ k, k < w.heap.size → ¬ S k → w'.heap[k]? = w.heap[k]?
section
variable {S : Nat → Prop} {w w1 w' : World}
theorem OnlyP.refl (S : Nat → Prop) (w : World) : OnlyP S w w := ⟨rfl, rfl, rfl, Nat.le_refl _, fun _ _ _ => rfl⟩
theorem OnlyP.trans (h : OnlyP S w w1) (k : OnlyP S w1 w') : OnlyP S w w' :=
  ⟨k.os.trans h.os, k.tape.trans h.tape, k.output.trans h.output, Nat.le_trans h.size k.size, fun i hi hb => (k.block i (Nat.lt_of_lt_of_le hi h.size) hb).trans (h.block i hi hb)⟩
/-- As trans, where the second step may write blocks that were not there at the first world. -/
theorem OnlyP.step {S' : Nat → Prop} (h : OnlyP S w w1) (k : OnlyP S' w1 w') (hs : ∀ i, i < w.heap.size → S' i → S i) : OnlyP S w w' :=
  ⟨k.os.trans h.os, k.tape.trans h.tape, k.output.trans h.output, Nat.le_trans h.size k.size, fun i hi hb => (k.block i (Nat.lt_of_lt_of_le hi h.size) (fun x => hb (hs i hi x))).trans (h.block i hi hb)⟩
theorem OnlyP.new (h : OnlyP S w w1) (k : Below w1.heap.size w1 w') : OnlyP S w w' :=
  ⟨k.os.trans h.os, k.tape.trans h.tape, k.output.trans h.output, Nat.le_trans h.size k.size, fun i hi hb => (k.block i (Nat.lt_of_lt_of_le hi h.size)).trans (h.block i hi hb)⟩
theorem OnlyP.alloc (h : OnlyP S w w1) (o : Obj) : OnlyP S w (w1.alloc o) := h.new ((Below.refl _ _).alloc (Nat.le_refl _) o)
theorem OnlyP.drewN (h : OnlyP S w w1) (n : Nat) : OnlyP S w (w1.drewN n) := ⟨h.os, h.tape, h.output, h.size, h.block⟩
theorem OnlyP.drew (h : OnlyP S w w1) : OnlyP S w w1.drew := ⟨h.os, h.tape, h.output, h.size, h.block⟩
theorem OnlyP.set (h : OnlyP S w w1) {p : Addr} (hp : S p.block ∨ w.heap.size ≤ p.block) (u : Value) : OnlyP S w (w1.setCell p u) :=
  ⟨h.os, h.tape, h.output, by simpa [World.setCell] using h.size, fun k hk hb => (Below.heap_setCell _ _ _ _ (by rintro rfl; rcases hp with hp | hp; exact hb hp; omega)).trans (h.block k hk hb)⟩
theorem OnlyP.grown {row : Option Nat} (h : OnlyP S w w1) (hg : w1.grownBy w' row) (hr : ∀ g, row = some g → S g ∨ w.heap.size ≤ g) : OnlyP S w w' :=
  ⟨hg.os.trans h.os, hg.tape.trans h.tape, hg.output.trans h.output, Nat.le_trans h.size hg.size, fun k hk hb => (hg.block k (Nat.lt_of_lt_of_le hk h.size) (fun e => by rcases hr k e.symm with h1 | h1; exact hb h1; omega)).trans (h.block k hk hb)⟩
theorem OnlyP.below {B : Nat} (h : OnlyP S w w') (hb : ∀ k, S k → B ≤ k) (hw : B ≤ w.heap.size) : Below B w w' := ⟨h.os, h.tape, h.output, h.size, fun k hk => h.block k (by omega) (fun x => by have := hb k x; omega)⟩
theorem OnlyP.of_below (h : Below w.heap.size w w') (S : Nat → Prop) : OnlyP S w w' := ⟨h.os, h.tape, h.output, h.size, fun k hk _ => h.block k hk⟩
theorem OnlyP.mono {S' : Nat → Prop} (h : OnlyP S w w') (hs : ∀ k, S k → S' k) : OnlyP S' w w' := ⟨h.os, h.tape, h.output, h.size, fun k hk hb => h.block k hk (fun x => hb (hs k x))⟩
theorem Blk.only {g : Nat} {t : TypeId} {cs : Array Value} (h : Blk w g t cs) (k : OnlyP S w w') (hne : ¬ S g) : Blk w' g t cs := (k.block g h.lt hne).trans h
theorem OnlyP.cells (h : OnlyP S w w') : (∀ k o, k < w.heap.size → ¬ S k → w'.cell? ⟨k, o, none⟩ = w.cell? ⟨k, o, none⟩) :=
  fun k o hk hb => World.cell?_of_block (w := w) (h.block k hk hb)
theorem joinP {B : Nat} {W : World} (h : Below B w W) (hb : OnlyP S W w1) (hB : ∀ k, S k → B ≤ k) (hw : B ≤ w.heap.size) : Below B w w1 := h.trans (hb.below hB (Nat.le_trans hw h.size))
end
end Go.Proofs.Ytjalegdfofogcaa
