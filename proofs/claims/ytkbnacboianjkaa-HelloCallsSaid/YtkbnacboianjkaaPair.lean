/- Hello: pair, and exchange over the two tables of a pair. -/
import Derived.Test.YtkbnacboianjkaaExch
import Derived.Test.YtkbnacboianjkaaPlainL
namespace Go.Proofs.Ytkbnacboianjkaa
set_option linter.unusedVariables false
set_option linter.unusedSimpArgs false
open Go.RowKit
/-- The two tables of a pair, behind block B. -/
structure Pr (w : World) (B n v : Nat) (s : Tb × Tb) : Prop where
  a : Table w (B + 1) B s.1
  b : Table w (B + 3) (B + 2) s.2
  da : Bd n v s.1
  db : Bd n v s.2
theorem Pr.below {w w' : World} {B n v : Nat} {s : Tb × Tb} (h : Pr w B n v s) (k : Below w.heap.size w w') : Pr w' B n v s := ⟨h.a.new_ k, h.b.new_ k, h.da, h.db⟩
theorem Pr.lt {w : World} {B n v : Nat} {s : Tb × Tb} (h : Pr w B n v s) : B + 3 < w.heap.size := h.b.tab.lt
def ExchP (w : World) (B n v : Nat) (r : Bool × Tb × Tb) (e : Ending) (w' : World) : Prop :=
  e = .returned (.bool r.1) ∧ Pr w' B (n + 1) (v + 16) r.2 ∧ Below B w w'
theorem exchP_c (s : Tb × Tb) (w : World) (B n v : Nat) (h : Pr w B n v s) (hn : n < 1000000) (hv : v < 1000000000) (la lb : Bool) :
    Calls Try.prog 13 #[.pointer (some ⟨B + 1, 0, none⟩), .pointer (some ⟨B + 3, 0, none⟩), .bool la, .bool lb] w (ExchP w B n v (exch la lb s.1 s.2)) := by
  refine (exch_c s.1 s.2 w (B + 1) B (B + 3) (B + 2) n v h.a h.b h.da h.db hn hv ⟨by omega, by omega, by omega, by omega⟩ la lb).mono ?_
  rintro e w' ⟨rfl, hA, hB, hO⟩
  have hx := bd_exch h.da h.db hn la lb
  exact ⟨rfl, ⟨hA, hB, hx.1, hx.2⟩, hO.below (B := B) (by rintro k (h | h | h | h) <;> omega) (by have := h.lt; omega)⟩
def Pairs (w : World) (every dead : Nat) (e : Ending) (w' : World) : Prop :=
  e = .returned (.tuple #[.pointer (some ⟨w.heap.size + 1, 0, none⟩), .pointer (some ⟨w.heap.size + 3, 0, none⟩), .bool true]) ∧ Pr w' w.heap.size 0 0 (pairT every dead) ∧ Below w.heap.size w w'
theorem bd_new (node inc : Int) (n every dead : Nat) (hn : n ≤ 8) (h1 : 1 ≤ every) (h2 : 1 ≤ dead) : Bd 0 0 (new node inc n every dead) :=
  ⟨⟨by simp [new], by simp [new], by simp [new], by simp [new]; omega, by simp [new]; omega, fun p hp => by simp [new, pt0] at hp; rw [hp.2]; simp [new]⟩, by simp [new], by simp [new], by simpa [new] using hn⟩
set_option maxHeartbeats 1000000 in
theorem pair_c (every dead : Nat) (w : World) (h1 : 1 ≤ every) (h2 : every ≤ 1000) (h3 : 1 ≤ dead) (h4 : dead ≤ 1000) :
    Calls Try.prog 12 #[.int .i64 (every : Int), .int .i64 (dead : Int)] w (Pairs w every dead) := by
  have n1 : newB 3 10 (2 : Nat) every dead = true := newB_iff.2 ⟨by omega, by omega, by omega, by omega, by omega⟩
  have n2 : newB 8 20 (2 : Nat) every dead = true := newB_iff.2 ⟨by omega, by omega, by omega, by omega, by omega⟩
  go_enter Try.func12, Try.ntmps12
  go_wp2_with fail
  refine (new_c 3 10 2 every dead _ n1).mono ?_
  rintro e w1 ⟨rfl, hA, hb1, hz1⟩
  go_wp2_with fail
  refine (new_c 8 20 2 every dead _ n2).mono ?_
  rintro e w2 ⟨rfl, hB, hb2, hz2⟩
  have hA2 := hA.new_ hb2
  have HB := hid (join hb1 hb2)
  rw [hz1] at hB
  have HZ := hid hz1
  clear hb1 hb2 hA hz1 hz2 n1 n2
  go_wp2_with fail
  go_ret3
  exact ⟨by rw [HZ.out]; rfl, ⟨hA2, hB, bd_new _ _ _ _ _ (by omega) h1 h3, bd_new _ _ _ _ _ (by omega) h1 h3⟩, HB.out⟩
end Go.Proofs.Ytkbnacboianjkaa
