/- Rational numbers: two boxes and a result; the formulas of Add. -/
import Derived.Test.YtjalegdfofogcaaRatF
namespace Go.Proofs.Ytjalegdfofogcaa
set_option linter.unusedVariables false
set_option linter.unusedSimpArgs false
open Go.RowKit
theorem size_nat (d : Nat) (w : World) (h : d ≤ 9223372036854775807) : Calls Try.prog 34 #[.int .i64 (d : Int)] w fun e w' => e = .returned (.int .u64 (d : Int)) ∧ w = w' := by
  have := size_c (d : Int) w (by omega) (by omega)
  rwa [Int.natAbs_natCast] at this
/-- Two boxes with two numbers, and the result's. -/
structure A2 (w W : World) (a b : Rq) : Prop where
  x : Blk W w.heap.size 32 #[.int .i64 a.n, .int .i64 a.d]
  y : Blk W (w.heap.size + 1) 32 #[.int .i64 b.n, .int .i64 b.d]
  z : Blk W (w.heap.size + 2) 32 #[.int .i64 0, .int .i64 0]
  blw : Below w.heap.size w W
section
variable {w W W' : World} {a b a' b' : Rq}
theorem A2.new_ (h : A2 w W a b) (hb : Below W.heap.size W W') : A2 w W' a b := ⟨h.x.new_ hb, h.y.new_ hb, h.z.new_ hb, join h.blw hb⟩
theorem A2.start (w : World) (a b : Rq) : A2 w (((w.alloc (.cells #[.int .i64 a.n, .int .i64 a.d] 32)).alloc (.cells #[.int .i64 b.n, .int .i64 b.d] 32)).alloc (.cells #[.int .i64 0, .int .i64 0] 32)) a b := by
  have h := Blk.new (w.alloc (.cells #[.int .i64 a.n, .int .i64 a.d] 32)) 32 #[.int .i64 b.n, .int .i64 b.d]
  have h2 := Blk.new ((w.alloc (.cells #[.int .i64 a.n, .int .i64 a.d] 32)).alloc (.cells #[.int .i64 b.n, .int .i64 b.d] 32)) 32 #[.int .i64 0, .int .i64 0]
  rw [World.size_alloc] at h
  rw [World.size_alloc, World.size_alloc] at h2
  exact ⟨((Blk.new _ _ _).alloc _).alloc _, h.alloc _, h2, by go_grown⟩
theorem A2.cells (h : A2 w W a b) : (W.cell? ⟨w.heap.size, 0, none⟩ = some (.int .i64 a.n) ∧ W.cell? ⟨w.heap.size, 1, none⟩ = some (.int .i64 a.d)) ∧ (W.cell? ⟨w.heap.size + 1, 0, none⟩ = some (.int .i64 b.n) ∧ W.cell? ⟨w.heap.size + 1, 1, none⟩ = some (.int .i64 b.d)) :=
  ⟨⟨h.x.cell 0 rfl, h.x.cell 1 rfl⟩, h.y.cell 0 rfl, h.y.cell 1 rfl⟩
theorem A2.fin (h : A2 w W a b) (x y : Value) : ∃ W', W' = (W.setCell ⟨w.heap.size + 2, 0, none⟩ x).setCell ⟨w.heap.size + 2, 1, none⟩ y ∧ W'.cell? ⟨w.heap.size + 2, 0, none⟩ = some x ∧ W'.cell? ⟨w.heap.size + 2, 1, none⟩ = some y ∧ Below w.heap.size w W' := by
  have hb : Blk ((W.setCell ⟨w.heap.size + 2, 0, none⟩ x).setCell ⟨w.heap.size + 2, 1, none⟩ y) (w.heap.size + 2) 32 #[x, y] := (h.z.set_ 0 x).to 1 y rfl
  exact ⟨_, rfl, hb.cell 0 rfl, hb.cell 1 rfl, (h.blw.setCell (by simp only; omega) _).setCell (by simp only; omega) _⟩
theorem A2.put1 (h : A2 w W a b) : A2 w ((W.setCell ⟨w.heap.size, 0, none⟩ (.int .i64 a'.n)).setCell ⟨w.heap.size, 1, none⟩ (.int .i64 a'.d)) a' b :=
  ⟨(h.x.set_ 0 _).to 1 _ rfl, (h.y.far (by simp only; omega) _).far (by simp only; omega) _, (h.z.far (by simp only; omega) _).far (by simp only; omega) _, (h.blw.setCell (Nat.le_refl _) _).setCell (Nat.le_refl _) _⟩
theorem A2.put2 (h : A2 w W a b) : A2 w ((W.setCell ⟨w.heap.size + 1, 0, none⟩ (.int .i64 b'.n)).setCell ⟨w.heap.size + 1, 1, none⟩ (.int .i64 b'.d)) a b' :=
  ⟨(h.x.far (by simp only; omega) _).far (by simp only; omega) _, (h.y.set_ 0 _).to 1 _ rfl, (h.z.far (by simp only; omega) _).far (by simp only; omega) _, (h.blw.setCell (by simp only; omega) _).setCell (by simp only; omega) _⟩
end
/-- The sum before it is reduced: its sign and its absolute value. -/
def plusS (p q : Rq) : Bool × Nat :=
  (addS (decide (p.n < 0)) (decide (q.n < 0)) (p.n.natAbs * (q.d.toNat / Nat.gcd p.d.toNat q.d.toNat)) (q.n.natAbs * (p.d.toNat / Nat.gcd p.d.toNat q.d.toNat)),
   addN (decide (p.n < 0)) (decide (q.n < 0)) (p.n.natAbs * (q.d.toNat / Nat.gcd p.d.toNat q.d.toNat)) (q.n.natAbs * (p.d.toNat / Nat.gcd p.d.toNat q.d.toNat)))
/-- What Add answers: the program's own formulas. -/
def plusR (p q : Rq) : Rq × Int :=
  if (plusS p q).2 = 0 then (⟨0, 1⟩, 0)
  else
    (resQ (plusS p q).1 false ((plusS p q).2 / Nat.gcd (Nat.gcd p.d.toNat q.d.toNat) ((plusS p q).2 % Nat.gcd p.d.toNat q.d.toNat)) (p.d.toNat / Nat.gcd p.d.toNat q.d.toNat * (q.d.toNat / Nat.gcd (Nat.gcd p.d.toNat q.d.toNat) ((plusS p q).2 % Nat.gcd p.d.toNat q.d.toNat))),
     resE ((plusS p q).2 / Nat.gcd (Nat.gcd p.d.toNat q.d.toNat) ((plusS p q).2 % Nat.gcd p.d.toNat q.d.toNat)) (p.d.toNat / Nat.gcd p.d.toNat q.d.toNat * (q.d.toNat / Nat.gcd (Nat.gcd p.d.toNat q.d.toNat) ((plusS p q).2 % Nat.gcd p.d.toNat q.d.toNat))))
end Go.Proofs.Ytjalegdfofogcaa
