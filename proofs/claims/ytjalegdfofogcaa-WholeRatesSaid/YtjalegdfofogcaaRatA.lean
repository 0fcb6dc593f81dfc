/- Rational numbers: the plain model; size, gcd, the product of 128 bits. -/
import Derived.Test.YtjalegdfofogcaaProg
import Derived.Test.YtjalegdfofogcaaWords
import Derived.Lib.Mul64
import Derived.Laws.Bits64b
namespace Go.Proofs.Ytjalegdfofogcaa
set_option linter.unusedVariables false
set_option linter.unusedSimpArgs false
open Go.RowKit
structure Kept (p : Prop) : Prop where
  out : p
def Drewn (w w' : World) : Prop := ∃ n, w' = w.drewN n
theorem Drewn.refl (w : World) : Drewn w w := ⟨0, rfl⟩
theorem Drewn.more {w w' : World} (h : Drewn w w') (n : Nat) : Drewn w (w'.drewN n) := by
  obtain ⟨k, rfl⟩ := h
  exact ⟨k + n, by rw [World.drewN_drewN]⟩
theorem Drewn.trans {w w1 w2 : World} (h : Drewn w w1) (k : Drewn w1 w2) : Drewn w w2 := by
  obtain ⟨n, rfl⟩ := k
  exact h.more n
theorem Drewn.below {w w' : World} (h : Drewn w w') : Below w.heap.size w w' := by
  obtain ⟨k, rfl⟩ := h; exact dN (Below.refl _ _) k
set_option maxHeartbeats 1000000 in
theorem size_c (n : Int) (w : World) (h0 : -9223372036854775808 ≤ n) (h1 : n ≤ 9223372036854775807) : Calls Try.prog 34 #[.int .i64 n] w fun e w' => e = .returned (.int .u64 n.natAbs) ∧ w = w' := by
  by_cases hn : n < 0
  · go_enter Try.func34, Try.ntmps34
    go_wp2_with fail
    go_ret
    exact ⟨ret_int (by rw [IntKind.wrap_u64, IntKind.wrap_u64]; omega), rfl⟩
  · have hn' : 0 ≤ n := by omega
    go_enter Try.func34, Try.ntmps34
    go_wp2_with fail
    go_ret
    exact ⟨ret_int (by omega), rfl⟩
set_option maxHeartbeats 1000000 in
theorem gcd_c (a b : Nat) (w : World) (ha : a < 18446744073709551616) (hb : b < 18446744073709551616) : Calls Try.prog 33 #[.int .u64 a, .int .u64 b] w fun e w' => e = .returned (.int .u64 (Nat.gcd a b)) ∧ Drewn w w' := by
  go_enter Try.func33, Try.ntmps33
  go_wp2_with fail
  go_loopw [0, 1] (fun v0 v1 wr => ∃ x y : Nat, x < 18446744073709551616 ∧ y < 18446744073709551616 ∧ v0 = .int .u64 x ∧ v1 = .int .u64 y ∧ Kept (Nat.gcd x y = Nat.gcd a b) ∧ Kept (Drewn w wr)) (fun _ v1 _ => (intOf v1).toNat)
  case atStart => exact ⟨a, b, ha, hb, rfl, rfl, ⟨rfl⟩, ⟨Drewn.refl _⟩⟩
  case round =>
    obtain ⟨x, y, hx, hy, rfl, rfl, HG, HD⟩ := hrel
    by_cases h0 : y = 0
    · subst h0
      go_wp2_with fail
      go_ret
      exact ⟨ret_int (by have := HG.out; rw [Nat.gcd_zero_right] at this; rw [this]), HD.out⟩
    · have hy0 : (y != 0) = true := by simpa using h0
      have hz : ((y : Int) == 0) = false := by rw [beq_eq_false_iff_ne]; omega
      have hyp : 0 < y := by omega
      have hr : x % y < y := Nat.mod_lt _ hyp
      go_wp2_with fail
      go_quiet (fail)
      go_wp2_with fail
      go_roundw
      case rel => exact ⟨y, x % y, hy, by omega, rfl, rfl, ⟨by rw [← HG.out, Nat.gcd_comm x y, Nat.gcd_rec y x, Nat.gcd_comm]⟩, ⟨HD.out.more nq⟩⟩
      case measure => simp [intOf]; omega
theorem maskN (a : Nat) (ha : a < 18446744073709551616) : bits .and .u64 (a : Int) 4294967295 = ((a % 4294967296 : Nat) : Int) := by
  have h := bits_and_u64_nat a 4294967295 ha (by omega)
  rw [show a &&& 4294967295 = a % 4294967296 from Nat.and_two_pow_sub_one_eq_mod a 32] at h
  exact h
theorem wN {a : Nat} (ha : a < 18446744073709551616) : IntKind.u64.wrap (a : Int) = (a : Int) := by rw [IntKind.wrap_u64]; omega
theorem mul_hi (x y : Nat) (hx : x < 18446744073709551616) (hy : y < 18446744073709551616) :
    IntKind.u64.wrap (IntKind.u64.wrap (IntKind.u64.wrap ((x : Int) / 4294967296 * ((y : Int) / 4294967296)) + IntKind.u64.wrap (IntKind.u64.wrap ((x : Int) / 4294967296 * bits BinOp.and IntKind.u64 (y : Int) 4294967295) + IntKind.u64.wrap (bits BinOp.and IntKind.u64 (x : Int) 4294967295 * bits BinOp.and IntKind.u64 (y : Int) 4294967295) / 4294967296) / 4294967296) +
      IntKind.u64.wrap (bits BinOp.and IntKind.u64 (IntKind.u64.wrap (IntKind.u64.wrap ((x : Int) / 4294967296 * bits BinOp.and IntKind.u64 (y : Int) 4294967295) + IntKind.u64.wrap (bits BinOp.and IntKind.u64 (x : Int) 4294967295 * bits BinOp.and IntKind.u64 (y : Int) 4294967295) / 4294967296)) 4294967295 + IntKind.u64.wrap (bits BinOp.and IntKind.u64 (x : Int) 4294967295 * ((y : Int) / 4294967296))) / 4294967296) = ((x * y / 18446744073709551616 : Nat) : Int) := by
  obtain ⟨l1, l2, l3, l4⟩ := Go.Lib.mul64_hi x y hx hy
  have lz : x * y / 18446744073709551616 < 18446744073709551616 := by
    have := Nat.mul_lt_mul'' hx hy
    omega
  rw [maskN x hx, maskN y hy, show (x : Int) / 4294967296 = ((x / 4294967296 : Nat) : Int) by omega, show (y : Int) / 4294967296 = ((y / 4294967296 : Nat) : Int) by omega]
  generalize x % 4294967296 = x0 at *
  generalize x / 4294967296 = x1 at *
  generalize y % 4294967296 = y0 at *
  generalize y / 4294967296 = y1 at *
  generalize x * y / 18446744073709551616 = z at *
  rw [← Int.natCast_mul, ← Int.natCast_mul, ← Int.natCast_mul, ← Int.natCast_mul]
  generalize x0 * y0 = p00 at *
  generalize x1 * y0 = p10 at *
  generalize x0 * y1 = p01 at *
  generalize x1 * y1 = p11 at *
  rw [wN l1, wN (show p10 < 18446744073709551616 by omega), show (p00 : Int) / 4294967296 = ((p00 / 4294967296 : Nat) : Int) by omega, ← Int.natCast_add, wN l2, maskN _ l2, wN (show p01 < 18446744073709551616 by omega), ← Int.natCast_add, wN l3, wN (show p11 < 18446744073709551616 by omega)]
  generalize p10 + p00 / 4294967296 = q at *
  rw [show (q : Int) / 4294967296 = ((q / 4294967296 : Nat) : Int) by omega, ← Int.natCast_add, wN (show p11 + q / 4294967296 < 18446744073709551616 by omega)]
  generalize q % 4294967296 + p01 = r at *
  rw [show (r : Int) / 4294967296 = ((r / 4294967296 : Nat) : Int) by omega, ← Int.natCast_add, l4, wN lz]
theorem mul_lo (x y : Nat) : IntKind.u64.wrap ((x : Int) * (y : Int)) = ((x * y % 18446744073709551616 : Nat) : Int) := by
  rw [← Int.natCast_mul, IntKind.wrap_u64]; omega
theorem ret_2 {a b c d : Int} (h : a = c) (k : b = d) : Ending.returned (.tuple #[.int .u64 a, .int .u64 b]) = .returned (.tuple #[.int .u64 c, .int .u64 d]) := by rw [h, k]
set_option maxHeartbeats 2000000 in
theorem mul64_c (x y : Nat) (w : World) (hx : x < 18446744073709551616) (hy : y < 18446744073709551616) :
    Calls Try.prog 35 #[.int .u64 x, .int .u64 y] w fun e w' => e = .returned (.tuple #[.int .u64 ((x * y / 18446744073709551616 : Nat) : Int), .int .u64 ((x * y % 18446744073709551616 : Nat) : Int)]) ∧ w = w' := by
  go_enter Try.func35, Try.ntmps35
  go_wp2_with fail
  go_ret2
  exact ⟨ret_2 (mul_hi x y hx hy) (mul_lo x y), rfl⟩
end Go.Proofs.Ytjalegdfofogcaa
