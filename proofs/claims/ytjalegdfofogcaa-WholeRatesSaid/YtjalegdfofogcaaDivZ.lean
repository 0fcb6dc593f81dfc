/- Division of two words by one, digit by digit to base 2^32: the plain arithmetic. Division of two words by one: words behind letters; the shift. Division of two words by one: the walk of Div64 where the high word is not 0. The division of a wide integer of two words. -/
import Derived.Test.YtjalegdfofogcaaRatF
import Derived.Test.YtjalegdfofogcaaShelf
import Derived.Lib.ItoaNum
import Derived.Deep.CutBlock
import Derived.Deep.DeepCutAuto
namespace Go.Proofs.Ytjalegdfofogcaa
/-- A digit under way: q guesses the digit of (u * 2^32 + w) / (y1 * 2^32 + y0). -/
structure Dig (u y1 y0 w q r : Nat) : Prop where
  eq : q * y1 + r = u
  up : (u * 4294967296 + w) / (y1 * 4294967296 + y0) ≤ q
  few : q ≤ 4294967297
structure DigIn (u y1 y0 w : Nat) : Prop where
  hy1 : 2147483648 ≤ y1 ∧ y1 < 4294967296
  hy0 : y0 < 4294967296
  hw : w < 4294967296
  hu : u < y1 * 4294967296 + y0
section
variable {u y1 y0 w q r : Nat}
theorem DigIn.lt (h : DigIn u y1 y0 w) : (u * 4294967296 + w) / (y1 * 4294967296 + y0) < 4294967296 := by
  have h1 := h.hy1
  have h2 := h.hw
  have h3 := h.hu
  rw [Nat.div_lt_iff_lt_mul (by omega)]
  obtain ⟨y, hy⟩ : ∃ y, y = y1 * 4294967296 + y0 := ⟨_, rfl⟩
  rw [← hy] at h3 ⊢
  clear hy
  omega
theorem Dig.start (h : DigIn u y1 y0 w) : Dig u y1 y0 w (u / y1) (u % y1) := by
  have h1 := h.hy1
  have h2 := h.hw
  have h3 := h.hu
  have h4 := h.hy0
  refine ⟨by rw [Nat.mul_comm]; exact Nat.div_add_mod u y1, ?_, ?_⟩
  · rw [Nat.le_div_iff_mul_le (by omega)]
    have e := Nat.div_mul_le_self (u * 4294967296 + w) (y1 * 4294967296 + y0)
    generalize (u * 4294967296 + w) / (y1 * 4294967296 + y0) = Q at *
    rw [Nat.mul_add, ← Nat.mul_assoc] at e
    generalize Q * y1 = a at *
    generalize Q * y0 = b at *
    omega
  · have : u / y1 < 4294967298 := by
      rw [Nat.div_lt_iff_lt_mul (by omega)]
      omega
    omega
theorem Dig.le_iff (h : Dig u y1 y0 w q r) (hi : DigIn u y1 y0 w) : q ≤ (u * 4294967296 + w) / (y1 * 4294967296 + y0) ↔ q * y0 ≤ r * 4294967296 + w := by
  have h1 := hi.hy1
  rw [Nat.le_div_iff_mul_le (by omega), Nat.mul_add, ← Nat.mul_assoc, ← h.eq, Nat.add_mul]
  obtain ⟨a, ha⟩ : ∃ a, a = q * y1 := ⟨_, rfl⟩
  obtain ⟨b, hb⟩ : ∃ b, b = q * y0 := ⟨_, rfl⟩
  rw [← ha, ← hb]
  clear ha hb
  omega
/-- The guess is right. -/
theorem Dig.done (h : Dig u y1 y0 w q r) (hi : DigIn u y1 y0 w) (h2 : q * y0 ≤ r * 4294967296 + w) : q = (u * 4294967296 + w) / (y1 * 4294967296 + y0) := Nat.le_antisymm ((h.le_iff hi).2 h2) h.up
/-- The guess is too great. -/
theorem Dig.down (h : Dig u y1 y0 w q r) (hi : DigIn u y1 y0 w) (h2 : 4294967296 ≤ q ∨ r * 4294967296 + w < q * y0) : 1 ≤ q ∧ Dig u y1 y0 w (q - 1) (r + y1) := by
  have h3 := hi.lt
  have h4 : (u * 4294967296 + w) / (y1 * 4294967296 + y0) < q := by
    rcases h2 with h2 | h2
    · exact Nat.lt_of_lt_of_le h3 h2
    · refine Nat.lt_of_not_le fun hle => ?_
      have := (h.le_iff hi).1 hle
      omega
  obtain ⟨Q, hQ⟩ : ∃ Q, Q = (u * 4294967296 + w) / (y1 * 4294967296 + y0) := ⟨_, rfl⟩
  rw [← hQ] at h4
  have h5 := h.few
  refine ⟨by omega, ?_, by rw [← hQ]; omega, by omega⟩
  have h6 := h.eq
  obtain ⟨p, rfl⟩ : ∃ p, q = p + 1 := ⟨q - 1, by omega⟩
  rw [Nat.add_sub_cancel]
  rw [Nat.succ_mul] at h6
  omega
/-- Behind a great rest no more is asked. -/
theorem Dig.stop (h : Dig u y1 y0 w q r) (hi : DigIn u y1 y0 w) (hq : q ≤ 4294967296) (hr : 4294967296 ≤ r) : q = (u * 4294967296 + w) / (y1 * 4294967296 + y0) := by
  refine h.done hi ?_
  have := Nat.mul_le_mul hq (Nat.le_of_lt_succ (Nat.lt_of_lt_of_le hi.hy0 (Nat.le_refl _)))
  have h2 := hi.hy0
  have h3 : q * y0 ≤ 4294967296 * 4294967295 := Nat.mul_le_mul hq (by omega)
  omega
end
/-- Two digits make the quotient. -/
theorem two_digits {u w1 w0 y : Nat} (hy : 0 < y) :
    (u * 18446744073709551616 + w1 * 4294967296 + w0) / y = (u * 4294967296 + w1) / y * 4294967296 + ((u * 4294967296 + w1) % y * 4294967296 + w0) / y ∧
    (u * 18446744073709551616 + w1 * 4294967296 + w0) % y = ((u * 4294967296 + w1) % y * 4294967296 + w0) % y := by
  have e : u * 18446744073709551616 + w1 * 4294967296 + w0 = y * ((u * 4294967296 + w1) / y * 4294967296) + ((u * 4294967296 + w1) % y * 4294967296 + w0) := by
    have h := Nat.div_add_mod (u * 4294967296 + w1) y
    generalize (u * 4294967296 + w1) / y = a at *
    generalize (u * 4294967296 + w1) % y = b at *
    rw [← Nat.mul_assoc]
    generalize y * a = c at *
    omega
  rw [e]
  exact ⟨Nat.mul_add_div hy _ _, Nat.mul_add_mod _ _ _⟩
end Go.Proofs.Ytjalegdfofogcaa
namespace Go.Proofs.Ytjalegdfofogcaa
set_option linter.unusedVariables false
set_option linter.unusedSimpArgs false
open Go.RowKit
theorem pow63 {s : Nat} (hs : s ≤ 63) : 1 ≤ 2 ^ s ∧ 2 ^ s * 2 ^ (64 - s) = 18446744073709551616 := by
  refine ⟨Nat.one_le_two_pow, ?_⟩
  rw [← Nat.pow_add, show s + (64 - s) = 64 by omega]
/-- What the shift by the number of leading zeros makes of the three words. -/
structure Shf (h x d s Y u v : Nat) : Prop where
  Y0 : Y = d * 2 ^ s
  Y1 : Y < 18446744073709551616
  Y2 : 9223372036854775808 ≤ Y
  v0 : v = x * 2 ^ s % 18446744073709551616
  u0 : u < Y
  e : u * 18446744073709551616 + v = (h * 18446744073709551616 + x) * 2 ^ s
  w1 : IntKind.u64.wrap ((d : Int) * 2 ^ s) = (Y : Int)
  w2 : bits BinOp.or IntKind.u64 (IntKind.u64.wrap ((h : Int) * 2 ^ s)) ((x : Int) / 2 ^ (64 - s)) = (u : Int)
  w3 : IntKind.u64.wrap ((x : Int) * 2 ^ s) = (v : Int)
theorem Shf.make {h x d s : Nat} (hx : x < 18446744073709551616) (hd2 : d < 18446744073709551616) (hhd : h < d) (hs : s ≤ 63) (hs2 : Lib.bitLen d + s = 64) : ∃ Y u v, Shf h x d s Y u v := by
  obtain ⟨p1, p2⟩ := pow63 hs
  obtain ⟨b1, b2, b3⟩ := Lib.bitLenAux_bounds 64 d (by omega) (by omega)
  have hL : Lib.bitLenAux 64 d = 64 - s := by
    have : Lib.bitLen d = Lib.bitLenAux 64 d := rfl
    omega
  rw [hL] at b2 b3
  have b4 : 2 * 2 ^ (64 - s - 1) = 2 ^ (64 - s) := by
    rw [← Nat.pow_succ', show (64 - s - 1).succ = 64 - s by omega]
  obtain ⟨P, hP⟩ : ∃ P, P = 2 ^ s := ⟨_, rfl⟩
  obtain ⟨Q, hQ⟩ : ∃ Q, Q = 2 ^ (64 - s) := ⟨_, rfl⟩
  have c3 : d * P < 18446744073709551616 := by
    rw [← p2, ← hP, ← hQ, Nat.mul_comm]
    exact Nat.mul_lt_mul_of_pos_left (by rw [hQ]; exact b3) (by omega)
  have c2 : 9223372036854775808 ≤ d * P := by
    have := Nat.mul_le_mul_right P b2
    have e2 : 2 * (2 ^ (64 - s - 1) * P) = 18446744073709551616 := by
      rw [← Nat.mul_assoc, b4, Nat.mul_comm, ← p2, ← hP]
    omega
  have c1 : h * P < d * P := Nat.mul_lt_mul_of_pos_right hhd (by omega)
  have xq : x / Q < P := by
    rw [Nat.div_lt_iff_lt_mul (by rw [hQ]; exact Nat.two_pow_pos _), hP, hQ, p2]
    exact hx
  have c4 : h * P + P ≤ d * P := by
    have := Nat.mul_le_mul_right P (show h + 1 ≤ d by omega)
    rwa [Nat.succ_mul] at this
  have xd : x * P = x / Q * 18446744073709551616 + x * P % 18446744073709551616 := by
    have e1 : x * P / 18446744073709551616 = x / Q := by
      rw [← p2, ← hP, ← hQ, Nat.mul_comm x P]
      exact Nat.mul_div_mul_left _ _ (by omega)
    have := Nat.div_add_mod (x * P) 18446744073709551616
    rw [e1, Nat.mul_comm 18446744073709551616] at this
    exact this.symm
  have i1 : (2 : Int) ^ s = (P : Int) := by rw [hP]; exact (Int.natCast_pow 2 s).symm
  have i2 : (2 : Int) ^ (64 - s) = (Q : Int) := by rw [hQ]; exact (Int.natCast_pow 2 (64 - s)).symm
  have hor : h * P + x / Q = h * P ||| x / Q := by
    have := Nat.shiftLeft_add_eq_or_of_lt (b := x / Q) (i := s) (by rw [← hP]; exact xq) h
    rwa [Nat.shiftLeft_eq, ← hP] at this
  refine ⟨d * P, h * P + x / Q, x * P % 18446744073709551616, ⟨by rw [hP], c3, c2, by rw [hP], by omega, ?_, ?_, ?_, ?_⟩⟩
  · rw [← hP, Nat.add_mul, Nat.add_mul, xd, Nat.mul_right_comm]
    omega
  · rw [i1, ← Int.natCast_mul, wN c3]
  · rw [i1, i2, ← Int.natCast_mul, wN (by omega), ← Int.natCast_ediv, hor]
    exact bits_or_u64_nat _ _ (by omega) (by omega)
  · rw [i1]; exact mul_lo x P
end Go.Proofs.Ytjalegdfofogcaa
namespace Go.Proofs.Ytjalegdfofogcaa
set_option linter.unusedVariables false
set_option linter.unusedSimpArgs false
open Go.RowKit
theorem wSub {a b : Nat} (h : b ≤ a) (ha : a < 18446744073709551616) : IntKind.u64.wrap ((a : Int) - (b : Int)) = ((a - b : Nat) : Int) := by rw [IntKind.wrap_u64]; omega
set_option maxRecDepth 100000 in
set_option maxHeartbeats 4000000 in
theorem div64_l (h x d : Nat) (s : Nat) (w : World) (hx : x < 18446744073709551616) (hd2 : d < 18446744073709551616) (hh : 0 < h) (hhd : h < d) (hs : s ≤ 63) (hs2 : Lib.bitLen d + s = 64) :
    Calls Try.prog 67 #[.int .u64 h, .int .u64 x, .int .u64 d] w fun e w' => e = .returned (.tuple #[.int .u64 (((h * 18446744073709551616 + x) / d : Nat) : Int), .int .u64 (((h * 18446744073709551616 + x) % d : Nat) : Int)]) ∧ ∃ m, w' = w.drewN m := by
  obtain ⟨Y, u, v, HS⟩ := Shf.make hx hd2 hhd hs hs2
  have hz : ((d : Int) == 0) = false := beq_false_of_ne (by omega)
  have hz2 : ((h : Int) == 0) = false := beq_false_of_ne (by omega)
  have hz3 : ¬ (d : Int) ≤ h := by omega
  have LZ := fun w => lz_c d w (by omega) (by omega)
  have e1 : (64 - (Lib.bitLen (d : Int).toNat : Int)) = s := by rw [Int.toNat_natCast]; omega
  rw [e1] at LZ
  have w1 := HS.w1
  have w2 := HS.w2
  have w3 := HS.w3
  have hY1 := HS.Y1
  have hY2 := HS.Y2
  have hu0 := HS.u0
  have hv : v < 18446744073709551616 := by rw [HS.v0]; omega
  replace HS := Kept.mk HS
  obtain ⟨y1, hy1⟩ : ∃ y1, y1 = Y / 4294967296 := ⟨_, rfl⟩
  obtain ⟨y0, hy0⟩ : ∃ y0, y0 = Y % 4294967296 := ⟨_, rfl⟩
  obtain ⟨v1, hv1⟩ : ∃ v1, v1 = v / 4294967296 := ⟨_, rfl⟩
  obtain ⟨v0, hv0⟩ : ∃ v0, v0 = v % 4294967296 := ⟨_, rfl⟩
  have f1 : (Y : Int) / 4294967296 = (y1 : Int) := by rw [hy1]; omega
  have f2 : bits BinOp.and IntKind.u64 (Y : Int) 4294967295 = (y0 : Int) := by rw [hy0]; exact maskN Y hY1
  have f3 : (v : Int) / 4294967296 = (v1 : Int) := by rw [hv1]; omega
  have f4 : bits BinOp.and IntKind.u64 (v : Int) 4294967295 = (v0 : Int) := by rw [hv0]; exact maskN v hv
  have HI : Kept (DigIn u y1 y0 v1) := ⟨⟨by omega, by omega, by omega, by omega⟩⟩
  have HY : Kept (Y = y1 * 4294967296 + y0) := ⟨by omega⟩
  have HV : Kept (v = v1 * 4294967296 + v0 ∧ v0 < 4294967296) := ⟨by omega⟩
  have hy1b : y1 < 4294967296 := by omega
  have hy1a : 2147483648 ≤ y1 := by omega
  have hy0b : y0 < 4294967296 := by omega
  have hv1b : v1 < 4294967296 := by omega
  have hv0b : v0 < 4294967296 := by omega
  have hub : u < 18446744073709551616 := by omega
  clear hy1 hy0 hv1 hv0 e1 hs2
  have hz4 : ((y1 : Int) == 0) = false := beq_false_of_ne (by omega)
  have hz5 : ¬ (y1 : Int) = 0 := by omega
  obtain ⟨q1, hq1⟩ : ∃ q1, q1 = u / y1 := ⟨_, rfl⟩
  obtain ⟨r1, hr1⟩ : ∃ r1, r1 = u % y1 := ⟨_, rfl⟩
  have f5 : (u : Int) / (y1 : Int) = (q1 : Int) := by rw [hq1]; exact (Int.natCast_ediv u y1).symm
  have f6 : IntKind.u64.wrap ((u : Int) - IntKind.u64.wrap ((q1 : Int) * (y1 : Int))) = (r1 : Int) := by
    have hle : q1 * y1 ≤ u := by rw [hq1]; exact Nat.div_mul_le_self u y1
    rw [← Int.natCast_mul, wN (by omega), wSub hle hub]
    have := Nat.div_add_mod u y1
    rw [← hq1, ← hr1, Nat.mul_comm] at this
    omega
  have f7 : IntKind.u64.wrap (q1 : Int) = (q1 : Int) := wN (by have := Nat.div_le_self u y1; omega)
  have D1 : Kept (Dig u y1 y0 v1 q1 r1) := ⟨by rw [hq1, hr1]; exact Dig.start HI.out⟩
  have hr1b : r1 < 4294967296 := by have := Nat.mod_lt u (show y1 > 0 by omega); omega
  clear hq1 hr1
  go_enter Try.func67, Try.ntmps67
  go_upto_region 8 with (go_at_call 77; refine (LZ _).mono ?_; rintro e w' ⟨rfl, rfl⟩)
  go_upto_block 0 with fail
  go_cut [15, 16] from 67 to 85 (fun s15 s16 wx => s15 = .int .u64 ((u * 4294967296 + v1) / (y1 * 4294967296 + y0) : Nat) ∧ wx = w')
  case first =>
    go_wp2_with fail
    go_loopw [15, 16] (fun v15 v16 wr => ∃ q r : Nat, v15 = .int .u64 q ∧ v16 = .int .u64 r ∧ r < 4294967296 ∧ Kept (Dig u y1 y0 v1 q r) ∧ wr = w') (fun v15 _ _ => (intOf v15).toNat)
    case atStart => exact ⟨q1, r1, rfl, rfl, hr1b, D1, rfl⟩
    case round =>
      obtain ⟨q, r, rfl, rfl, hr, HD, rfl⟩ := hrel
      have hfew := HD.out.few
      have hqb : q < 18446744073709551616 := by omega
      obtain ⟨m0, hm0⟩ : ∃ m, m = 4294967296 * r := ⟨_, rfl⟩
      obtain ⟨m1, hm1⟩ : ∃ m, m = 4294967296 * r + v1 := ⟨_, rfl⟩
      have g2 : IntKind.u64.wrap (4294967296 * (r : Int)) = (m0 : Int) := by rw [IntKind.wrap_u64]; omega
      have g3 : IntKind.u64.wrap ((m0 : Int) + (v1 : Int)) = (m1 : Int) := by rw [IntKind.wrap_u64]; omega
      replace hm0 := Kept.mk hm0
      replace hm1 := Kept.mk hm1
      by_cases ha : 4294967296 ≤ q
      · have hb : (4294967296 : Int) ≤ (q : Int) := by omega
        obtain ⟨d1, d2⟩ := HD.out.down HI.out (Or.inl ha)
        obtain ⟨q9, hq9⟩ : ∃ m, m = q - 1 := ⟨_, rfl⟩
        obtain ⟨r9, hr9⟩ : ∃ m, m = r + y1 := ⟨_, rfl⟩
        have g4 : IntKind.u64.wrap ((q : Int) - 1) = (q9 : Int) := by rw [IntKind.wrap_u64]; omega
        have g5 : IntKind.u64.wrap ((r : Int) + (y1 : Int)) = (r9 : Int) := by rw [IntKind.wrap_u64]; omega
        have hq9b : q9 < q ∧ q9 ≤ 4294967296 := by omega
        rw [← hq9, ← hr9] at d2
        replace d2 := Kept.mk d2
        clear hq9 hr9
        by_cases hc : 4294967296 ≤ r9
        · have hc' : (4294967296 : Int) ≤ (r9 : Int) := by omega
          have hs9 := Kept.mk (d2.out.stop HI.out hq9b.2 hc)
          go_wp2_with fail
          go_meet
          exact ⟨by rw [← hs9.out], rfl⟩
        · have hc' : ¬ (4294967296 : Int) ≤ (r9 : Int) := by omega
          go_wp2_with fail
          go_roundw
          case rel => exact ⟨q9, r9, rfl, rfl, by omega, d2, trivial⟩
          case measure => simp [intOf]; omega
      · have hb : ¬ (4294967296 : Int) ≤ (q : Int) := by omega
        have hqy : q * y0 < 18446744073709551616 := by
          have := Nat.mul_lt_mul'' (show q < 4294967296 by omega) hy0b
          omega
        have g1 : IntKind.u64.wrap ((q : Int) * (y0 : Int)) = ((q * y0 : Nat) : Int) := by rw [← Int.natCast_mul]; exact wN hqy
        obtain ⟨p, hp⟩ : ∃ p, p = q * y0 := ⟨_, rfl⟩
        rw [← hp] at g1 hqy
        by_cases ht : m1 < p
        · have ht' : (m1 : Int) < (p : Int) := by omega
          obtain ⟨d1, d2⟩ := HD.out.down HI.out (Or.inr (by rw [← hp]; have := hm1.out; omega))
          obtain ⟨q9, hq9⟩ : ∃ m, m = q - 1 := ⟨_, rfl⟩
          obtain ⟨r9, hr9⟩ : ∃ m, m = r + y1 := ⟨_, rfl⟩
          have g4 : IntKind.u64.wrap ((q : Int) - 1) = (q9 : Int) := by rw [IntKind.wrap_u64]; omega
          have g5 : IntKind.u64.wrap ((r : Int) + (y1 : Int)) = (r9 : Int) := by rw [IntKind.wrap_u64]; omega
          have hq9b : q9 < q ∧ q9 ≤ 4294967296 := by omega
          rw [← hq9, ← hr9] at d2
          replace d2 := Kept.mk d2
          clear hq9 hr9
          clear hp
          by_cases hc : 4294967296 ≤ r9
          · have hc' : (4294967296 : Int) ≤ (r9 : Int) := by omega
            have hs9 := Kept.mk (d2.out.stop HI.out hq9b.2 hc)
            go_wp2_with fail
            go_meet
            exact ⟨by rw [← hs9.out], rfl⟩
          · have hc' : ¬ (4294967296 : Int) ≤ (r9 : Int) := by omega
            go_wp2_with fail
            go_roundw
            case rel => exact ⟨q9, r9, rfl, rfl, by omega, d2, trivial⟩
            case measure => simp [intOf]; omega
        · have ht' : ¬ (m1 : Int) < (p : Int) := by omega
          have hs9 := Kept.mk (HD.out.done HI.out (by rw [← hp]; have := hm1.out; omega))
          clear hp
          go_wp2_with fail
          go_meet
          exact ⟨by rw [← hs9.out], rfl⟩
  case rest =>
    obtain ⟨rfl, rfl⟩ := hcut
    clear D1 hr1b
    obtain ⟨Q1, hQ1⟩ : ∃ Q1, Q1 = (u * 4294967296 + v1) / (y1 * 4294967296 + y0) := ⟨_, rfl⟩
    obtain ⟨R, hR⟩ : ∃ R, R = (u * 4294967296 + v1) % (y1 * 4294967296 + y0) := ⟨_, rfl⟩
    rw [← hQ1]
    have hQb : Q1 < 4294967296 := by rw [hQ1]; exact HI.out.lt
    have hRb : R < Y := by rw [hR, ← HY.out]; exact Nat.mod_lt _ (by omega)
    have hQR : Q1 * Y + R = u * 4294967296 + v1 := by rw [hQ1, hR, HY.out, Nat.mul_comm]; exact Nat.div_add_mod _ _
    have j1 : IntKind.u64.wrap (IntKind.u64.wrap (IntKind.u64.wrap ((u : Int) * 4294967296) + (v1 : Int)) - IntKind.u64.wrap ((Q1 : Int) * (Y : Int))) = (R : Int) := by
      have e2 : (u : Int) * 4294967296 + (v1 : Int) - (Q1 : Int) * (Y : Int) = (R : Int) := by
        have : ((Q1 * Y + R : Nat) : Int) = ((u * 4294967296 + v1 : Nat) : Int) := by rw [hQR]
        rw [Int.natCast_add, Int.natCast_mul] at this
        omega
      obtain ⟨z, hz9⟩ : ∃ z, z = (Q1 : Int) * (Y : Int) := ⟨_, rfl⟩
      rw [← hz9] at e2 ⊢
      simp only [IntKind.wrap_u64]
      omega
    clear hQR
    have HQ1 := Kept.mk hQ1
    have HR := Kept.mk hR
    clear hQ1 hR
    obtain ⟨q2, hq2⟩ : ∃ q2, q2 = R / y1 := ⟨_, rfl⟩
    obtain ⟨r2, hr2⟩ : ∃ r2, r2 = R % y1 := ⟨_, rfl⟩
    have HI2 : Kept (DigIn R y1 y0 v0) := ⟨⟨⟨hy1a, hy1b⟩, hy0b, hv0b, by rw [← HY.out]; exact hRb⟩⟩
    have hRw : R < 18446744073709551616 := by omega
    have j5 : (R : Int) / (y1 : Int) = (q2 : Int) := by rw [hq2]; exact (Int.natCast_ediv R y1).symm
    have j6 : IntKind.u64.wrap ((R : Int) - IntKind.u64.wrap ((q2 : Int) * (y1 : Int))) = (r2 : Int) := by
      have hle : q2 * y1 ≤ R := by rw [hq2]; exact Nat.div_mul_le_self R y1
      rw [← Int.natCast_mul, wN (by omega), wSub hle hRw]
      have := Nat.div_add_mod R y1
      rw [← hq2, ← hr2, Nat.mul_comm] at this
      omega
    have j7 : IntKind.u64.wrap (q2 : Int) = (q2 : Int) := wN (by have := Nat.div_le_self R y1; omega)
    have D2 : Kept (Dig R y1 y0 v0 q2 r2) := ⟨by rw [hq2, hr2]; exact Dig.start HI2.out⟩
    have hr2b : r2 < 4294967296 := by have := Nat.mod_lt R (show y1 > 0 by omega); omega
    clear hq2 hr2
    go_upto_block 2 with fail
    go_cut [18, 16] from 102 to 120 (fun s18 s16 wx => s18 = .int .u64 ((R * 4294967296 + v0) / (y1 * 4294967296 + y0) : Nat) ∧ wx = wc)
    case first =>
      go_wp2_with fail
      go_loopw [18, 16] (fun v18 v16 wr => ∃ q r : Nat, v18 = .int .u64 q ∧ v16 = .int .u64 r ∧ r < 4294967296 ∧ Kept (Dig R y1 y0 v0 q r) ∧ wr = wc) (fun v18 _ _ => (intOf v18).toNat)
      case atStart => exact ⟨q2, r2, rfl, rfl, hr2b, D2, rfl⟩
      case round =>
        obtain ⟨q, r, rfl, rfl, hr, HD, rfl⟩ := hrel
        have hfew := HD.out.few
        have hqb : q < 18446744073709551616 := by omega
        obtain ⟨m0, hm0⟩ : ∃ m, m = 4294967296 * r := ⟨_, rfl⟩
        obtain ⟨m1, hm1⟩ : ∃ m, m = 4294967296 * r + v0 := ⟨_, rfl⟩
        have g2 : IntKind.u64.wrap (4294967296 * (r : Int)) = (m0 : Int) := by rw [IntKind.wrap_u64]; omega
        have g3 : IntKind.u64.wrap ((m0 : Int) + (v0 : Int)) = (m1 : Int) := by rw [IntKind.wrap_u64]; omega
        replace hm0 := Kept.mk hm0
        replace hm1 := Kept.mk hm1
        by_cases ha : 4294967296 ≤ q
        · have hb : (4294967296 : Int) ≤ (q : Int) := by omega
          obtain ⟨d1, d2⟩ := HD.out.down HI2.out (Or.inl ha)
          obtain ⟨q9, hq9⟩ : ∃ m, m = q - 1 := ⟨_, rfl⟩
          obtain ⟨r9, hr9⟩ : ∃ m, m = r + y1 := ⟨_, rfl⟩
          have g4 : IntKind.u64.wrap ((q : Int) - 1) = (q9 : Int) := by rw [IntKind.wrap_u64]; omega
          have g5 : IntKind.u64.wrap ((r : Int) + (y1 : Int)) = (r9 : Int) := by rw [IntKind.wrap_u64]; omega
          have hq9b : q9 < q ∧ q9 ≤ 4294967296 := by omega
          rw [← hq9, ← hr9] at d2
          replace d2 := Kept.mk d2
          clear hq9 hr9
          by_cases hc : 4294967296 ≤ r9
          · have hc' : (4294967296 : Int) ≤ (r9 : Int) := by omega
            have hs9 := Kept.mk (d2.out.stop HI2.out hq9b.2 hc)
            go_wp2_with fail
            go_meet
            exact ⟨by rw [← hs9.out], rfl⟩
          · have hc' : ¬ (4294967296 : Int) ≤ (r9 : Int) := by omega
            go_wp2_with fail
            go_roundw
            case rel => exact ⟨q9, r9, rfl, rfl, by omega, d2, trivial⟩
            case measure => simp [intOf]; omega
        · have hb : ¬ (4294967296 : Int) ≤ (q : Int) := by omega
          have hqy : q * y0 < 18446744073709551616 := by
            have := Nat.mul_lt_mul'' (show q < 4294967296 by omega) hy0b
            omega
          have g1 : IntKind.u64.wrap ((q : Int) * (y0 : Int)) = ((q * y0 : Nat) : Int) := by rw [← Int.natCast_mul]; exact wN hqy
          obtain ⟨p, hp⟩ : ∃ p, p = q * y0 := ⟨_, rfl⟩
          rw [← hp] at g1 hqy
          by_cases ht : m1 < p
          · have ht' : (m1 : Int) < (p : Int) := by omega
            obtain ⟨d1, d2⟩ := HD.out.down HI2.out (Or.inr (by rw [← hp]; have := hm1.out; omega))
            obtain ⟨q9, hq9⟩ : ∃ m, m = q - 1 := ⟨_, rfl⟩
            obtain ⟨r9, hr9⟩ : ∃ m, m = r + y1 := ⟨_, rfl⟩
            have g4 : IntKind.u64.wrap ((q : Int) - 1) = (q9 : Int) := by rw [IntKind.wrap_u64]; omega
            have g5 : IntKind.u64.wrap ((r : Int) + (y1 : Int)) = (r9 : Int) := by rw [IntKind.wrap_u64]; omega
            have hq9b : q9 < q ∧ q9 ≤ 4294967296 := by omega
            rw [← hq9, ← hr9] at d2
            replace d2 := Kept.mk d2
            clear hq9 hr9
            clear hp
            by_cases hc : 4294967296 ≤ r9
            · have hc' : (4294967296 : Int) ≤ (r9 : Int) := by omega
              have hs9 := Kept.mk (d2.out.stop HI2.out hq9b.2 hc)
              go_wp2_with fail
              go_meet
              exact ⟨by rw [← hs9.out], rfl⟩
            · have hc' : ¬ (4294967296 : Int) ≤ (r9 : Int) := by omega
              go_wp2_with fail
              go_roundw
              case rel => exact ⟨q9, r9, rfl, rfl, by omega, d2, trivial⟩
              case measure => simp [intOf]; omega
          · have ht' : ¬ (m1 : Int) < (p : Int) := by omega
            have hs9 := Kept.mk (HD.out.done HI2.out (by rw [← hp]; have := hm1.out; omega))
            clear hp
            go_wp2_with fail
            go_meet
            exact ⟨by rw [← hs9.out], rfl⟩
    case rest =>
      obtain ⟨rfl, rfl⟩ := hcut
      obtain ⟨Q2, hQ2⟩ : ∃ Q2, Q2 = (R * 4294967296 + v0) / (y1 * 4294967296 + y0) := ⟨_, rfl⟩
      obtain ⟨T, hT⟩ : ∃ T, T = (R * 4294967296 + v0) % (y1 * 4294967296 + y0) := ⟨_, rfl⟩
      rw [← hQ2]
      have hQ2b : Q2 < 4294967296 := by rw [hQ2]; exact HI2.out.lt
      have hTb : T < Y := by rw [hT, ← HY.out]; exact Nat.mod_lt _ (by omega)
      have hQT : Q2 * Y + T = R * 4294967296 + v0 := by rw [hQ2, hT, HY.out, Nat.mul_comm]; exact Nat.div_add_mod _ _
      have k1 : IntKind.u64.wrap (IntKind.u64.wrap (IntKind.u64.wrap ((R : Int) * 4294967296) + (v0 : Int)) - IntKind.u64.wrap ((Q2 : Int) * (Y : Int))) = (T : Int) := by
        have e2 : (R : Int) * 4294967296 + (v0 : Int) - (Q2 : Int) * (Y : Int) = (T : Int) := by
          have : ((Q2 * Y + T : Nat) : Int) = ((R * 4294967296 + v0 : Nat) : Int) := by rw [hQT]
          rw [Int.natCast_add, Int.natCast_mul] at this
          omega
        obtain ⟨z, hz9⟩ : ∃ z, z = (Q2 : Int) * (Y : Int) := ⟨_, rfl⟩
        rw [← hz9] at e2 ⊢
        simp only [IntKind.wrap_u64]
        omega
      clear hQT
      have FIN : Kept ((h * 18446744073709551616 + x) / d = Q1 * 4294967296 + Q2 ∧ (h * 18446744073709551616 + x) % d = T / 2 ^ s) := by
        obtain ⟨n1, n2⟩ := two_digits (u := u) (w1 := v1) (w0 := v0) (y := Y) (by omega)
        rw [HY.out, ← HR.out, ← HQ1.out, ← hQ2, ← HY.out] at n1
        rw [HY.out, ← HR.out, ← hT, ← HY.out] at n2
        have n3 : u * 18446744073709551616 + v1 * 4294967296 + v0 = (h * 18446744073709551616 + x) * 2 ^ s := by
          rw [← HS.out.e, HV.out.1]; omega
        rw [n3, HS.out.Y0] at n1 n2
        rw [Nat.mul_div_mul_right _ _ (Nat.two_pow_pos s)] at n1
        rw [Nat.mul_mod_mul_right] at n2
        refine ⟨n1, ?_⟩
        rw [← n2, Nat.mul_div_cancel _ (Nat.two_pow_pos s)]
      have hTw : T < 18446744073709551616 := by omega
      clear hQ2 hT HQ1 HR D2 HI HI2 HS
      have k2 : IntKind.u64.wrap (IntKind.u64.wrap ((Q1 : Int) * 4294967296) + (Q2 : Int)) = ((Q1 * 4294967296 + Q2 : Nat) : Int) := by
        simp only [IntKind.wrap_u64]; omega
      obtain ⟨V, hV⟩ : ∃ V, V = T / 2 ^ s := ⟨_, rfl⟩
      have k3 : (T : Int) / 2 ^ s = (V : Int) := by rw [hV, Int.natCast_ediv, Int.natCast_pow]; rfl
      rw [← hV] at FIN
      clear hV
      go_wp2_with fail
      go_ret2
      exact ⟨ret_2n (by rw [FIN.out.1]; exact (Int.natCast_add _ _).symm) (by rw [FIN.out.2]), 0, rfl⟩
end Go.Proofs.Ytjalegdfofogcaa
namespace Go.Proofs.Ytjalegdfofogcaa
set_option linter.unusedVariables false
set_option linter.unusedSimpArgs false
open Go.RowKit
theorem div64_g (h x d : Nat) (w : World) (hx : x < 18446744073709551616) (hd2 : d < 18446744073709551616) (hhd : h < d) :
    Calls Try.prog 67 #[.int .u64 h, .int .u64 x, .int .u64 d] w fun e w' => e = .returned (.tuple #[.int .u64 (((h * 18446744073709551616 + x) / d : Nat) : Int), .int .u64 (((h * 18446744073709551616 + x) % d : Nat) : Int)]) ∧ ∃ m, w' = w.drewN m := by
  by_cases h0 : h = 0
  · subst h0
    rw [Nat.zero_mul, Nat.zero_add]
    exact div64_c x d w hx (by omega) hd2
  · obtain ⟨b1, b2, b3⟩ := Lib.bitLenAux_bounds 64 d (by omega) (by omega)
    have hL : Lib.bitLen d = Lib.bitLenAux 64 d := rfl
    have h64 : Lib.bitLen d ≤ 64 := Lib.bitLen_le d 64 (Nat.le_refl _) (by omega)
    exact div64_l h x d (64 - Lib.bitLen d) w hx hd2 (by omega) hhd (by omega) (by omega)
structure D2g (w W : World) (s : Bool) (h x : Nat) : Prop where
  x : Blk W w.heap.size 76 #[.bool s, .int .u64 (h : Int), .int .u64 (x : Int)]
  z : Blk W (w.heap.size + 1) 76 #[.bool false, .int .u64 0, .int .u64 0]
  blw : Below w.heap.size w W
theorem D2g.drewN {w W : World} {s : Bool} {h x : Nat} (H : D2g w W s h x) (n : Nat) : D2g w (W.drewN n) s h x := ⟨H.x.drewN n, H.z.drewN n, dN H.blw n⟩
theorem D2g.fin {w W : World} {s : Bool} {h x : Nat} (H : D2g w W s h x) (a b c : Value) : ∃ W', W' = (((W.setCell ⟨w.heap.size + 1, 0, none⟩ a).setCell ⟨w.heap.size + 1, 1, none⟩ b).setCell ⟨w.heap.size + 1, 2, none⟩ c).drew ∧ W'.cell? ⟨w.heap.size + 1, 0, none⟩ = some a ∧ W'.cell? ⟨w.heap.size + 1, 1, none⟩ = some b ∧ W'.cell? ⟨w.heap.size + 1, 2, none⟩ = some c ∧ Below w.heap.size w W' := by
  have hb : Blk ((((W.setCell ⟨w.heap.size + 1, 0, none⟩ a).setCell ⟨w.heap.size + 1, 1, none⟩ b).setCell ⟨w.heap.size + 1, 2, none⟩ c).drew) (w.heap.size + 1) 76 #[a, b, c] := (((H.z.set_ 0 a).set_ 1 b).to 2 c rfl).drew
  exact ⟨_, rfl, hb.cell 0 rfl, hb.cell 1 rfl, hb.cell 2 rfl, dN (((H.blw.setCell (by simp only; omega) _).setCell (by simp only; omega) _).setCell (by simp only; omega) _) 1⟩
theorem D2g.start (w : World) (s : Bool) (h x : Nat) : D2g w ((w.alloc (.cells #[.bool s, .int .u64 (h : Int), .int .u64 (x : Int)] 76)).alloc (.cells #[.bool false, .int .u64 0, .int .u64 0] 76)) s h x := by
  have g1 := Blk.new (w.alloc (.cells #[.bool s, .int .u64 (h : Int), .int .u64 (x : Int)] 76)) 76 #[.bool false, .int .u64 0, .int .u64 0]
  rw [World.size_alloc] at g1
  exact ⟨(Blk.new _ _ _).alloc _, g1, by go_grown⟩
/-- The long division word by word. -/
theorem long_div (h l d : Nat) (hd : 1 ≤ d) (hl : l < 18446744073709551616) :
    (h * 18446744073709551616 + l) / d = h / d * 18446744073709551616 + (h % d * 18446744073709551616 + l) / d ∧ (h % d * 18446744073709551616 + l) / d < 18446744073709551616 ∧
    (h * 18446744073709551616 + l) % d = (h % d * 18446744073709551616 + l) % d := by
  have e : h * 18446744073709551616 + l = d * (h / d * 18446744073709551616) + (h % d * 18446744073709551616 + l) := by
    have e1 := Nat.div_add_mod h d
    generalize h / d = a at *
    generalize h % d = b at *
    rw [← Nat.mul_assoc]
    generalize d * a = c at *
    omega
  have hr := Nat.mod_lt h hd
  refine ⟨?_, ?_, ?_⟩
  · rw [e]; exact Nat.mul_add_div hd _ _
  · rw [Nat.div_lt_iff_lt_mul hd]
    generalize h % d = r at *
    omega
  · rw [e]; exact Nat.mul_add_mod _ _ _
theorem pq_div (p q : Nat) (hq : q < 18446744073709551616) : (p * 18446744073709551616 + q) / 18446744073709551616 = p ∧ (p * 18446744073709551616 + q) % 18446744073709551616 = q := by omega
set_option maxRecDepth 100000 in
set_option maxHeartbeats 2000000 in
theorem divide_g (s : Bool) (x d : Nat) (w : World) (hx : x < 340282366920938463463374607431768211456) (hd : 1 ≤ d) (hd2 : d < 18446744073709551616) :
    Calls Try.prog 52 #[wv s x, .int .u64 d] w fun e w' => e = .returned (.tuple #[wv s (x / d), .int .u64 ((x % d : Nat) : Int)]) ∧ Below w.heap.size w w' := by
  obtain ⟨h, l, e1, e2, e3, hl⟩ := words x
  have hh : h < 18446744073709551616 := by omega
  obtain ⟨k1, k2, k3⟩ := long_div h l d hd hl
  obtain ⟨q, hq⟩ : ∃ q, q = (h % d * 18446744073709551616 + l) / d := ⟨_, rfl⟩
  obtain ⟨r, hr⟩ : ∃ r, r = (h % d * 18446744073709551616 + l) % d := ⟨_, rfl⟩
  obtain ⟨p, hp⟩ : ∃ p, p = h / d := ⟨_, rfl⟩
  obtain ⟨m, hm⟩ : ∃ m, m = h % d := ⟨_, rfl⟩
  have hpb : p ≤ h := by rw [hp]; exact Nat.div_le_self _ _
  have DV := fun w => div64_g m l d w hl hd2 (by rw [hm]; exact Nat.mod_lt _ hd)
  rw [← hm] at k1 k2 k3 hq hr
  rw [← hp, ← hq] at k1
  rw [← hr] at k3
  rw [← hq] at k2
  rw [← hq, ← hr] at DV
  have z1 : (h : Int) % (d : Int) = (m : Int) := by rw [hm]; exact (Int.natCast_emod h d).symm
  have z2 : (h : Int) / (d : Int) = (p : Int) := by rw [hp]; exact (Int.natCast_ediv h d).symm
  have hxd : x / d = p * 18446744073709551616 + q := by rw [e3]; exact k1
  have hxr : x % d = r := by rw [e3]; exact k3
  have hw1 : wv s x = .agg #[.bool s, .int .u64 (h : Int), .int .u64 (l : Int)] := by unfold wv; rw [e1, e2]
  have hw2 : wv s (x / d) = .agg #[.bool s, .int .u64 (p : Int), .int .u64 (q : Int)] := by
    unfold wv
    rw [hxd, (pq_div p q k2).1, (pq_div p q k2).2]
  rw [hw1, hw2, hxr]
  have z3 : IntKind.u64.wrap (p : Int) = (p : Int) := wN (by omega)
  clear hw1 hw2 hxr hxd hq hr hp hm k1 k3 e1 e2 e3 hx
  have hz : ((d : Int) == 0) = false := beq_false_of_ne (by omega)
  have hz2 : ¬ (d : Int) = 0 := by omega
  go_enter Try.func52, Try.ntmps52
  go_upto_region 1 with fail
  obtain ⟨X, hX, HX⟩ : ∃ X, X = (w.alloc (.cells #[.bool s, .int .u64 (h : Int), .int .u64 (l : Int)] 76)).alloc (.cells #[.bool false, .int .u64 0, .int .u64 0] 76) ∧ Kept (D2g w X s h l) := ⟨_, rfl, ⟨D2g.start w s h l⟩⟩
  rw [← hX]
  clear hX
  have k0 := HX.out.x.cell 0 (v := .bool s) rfl
  have k1 := HX.out.x.cell 1 (v := .int .u64 (h : Int)) rfl
  have k2 := HX.out.x.cell 2 (v := .int .u64 (l : Int)) rfl
  have lx := HX.out.x.lt
  go_quiet ((go_at_call 67; exact Calls.quiet_of (DV _)))
  go_upto_region 2 with fail
  obtain ⟨Y, hY, HY⟩ : ∃ Y, Y = X.drewN nq ∧ Kept (D2g w Y s h l) := ⟨_, rfl, ⟨HX.out.drewN nq⟩⟩
  rw [← hY]
  clear hY k0 k1 k2 lx HX
  have k0 := HY.out.x.cell 0 (v := .bool s) rfl
  have k1 := HY.out.x.cell 1 (v := .int .u64 (h : Int)) rfl
  have lx := HY.out.x.lt
  have z0 := HY.out.z.cell 0 (v := .bool false) rfl
  have y1 := HY.out.z.cell 1 (v := .int .u64 0) rfl
  have y2 := HY.out.z.cell 2 (v := .int .u64 0) rfl
  have zf0 := HY.out.z.free 0
  have zf1 := HY.out.z.free 1
  have zf2 := HY.out.z.free 2
  have lz := HY.out.z.lt
  go_region
  go_wp2_with fail
  obtain ⟨W9, hW9, s0, s1, s2, hb⟩ := HY.out.fin (.bool s) (.int .u64 (p : Int)) (.int .u64 (q : Int))
  rw [← hW9]
  clear hW9
  exact bodyPost_ret (v := .tuple #[.agg #[.bool s, .int .u64 (p : Int), .int .u64 (q : Int)], .int .u64 (r : Int)]) (by simp [results, Try.results52, go_sem, s0, s1, s2]) rfl ⟨rfl, hb⟩
end Go.Proofs.Ytjalegdfofogcaa
