/- Rational numbers: the division of a wide integer of one word. -/
import Derived.Test.YtjalegdfofogcaaRatE
namespace Go.Proofs.Ytjalegdfofogcaa
set_option linter.unusedVariables false
set_option linter.unusedSimpArgs false
open Go.RowKit
theorem ret_2n {a b c d : Int} (h : a = c) (k : b = d) : Ending.returned (.tuple #[.int .u64 a, .int .u64 b]) = .returned (.tuple #[.int .u64 c, .int .u64 d]) := by rw [h, k]
set_option maxRecDepth 100000 in
set_option maxHeartbeats 2000000 in
theorem div64_c (x d : Nat) (w : World) (hx : x < 18446744073709551616) (hd : 1 ≤ d) (hd2 : d < 18446744073709551616) :
    Calls Try.prog 67 #[.int .u64 0, .int .u64 x, .int .u64 d] w fun e w' => e = .returned (.tuple #[.int .u64 ((x / d : Nat) : Int), .int .u64 ((x % d : Nat) : Int)]) ∧ ∃ m, w' = w.drewN m := by
  have hz : ((d : Int) == 0) = false := beq_false_of_ne (by omega)
  have hq0 : x / d ≤ x := Nat.div_le_self _ _
  have hr0 : x % d < d := Nat.mod_lt _ (by omega)
  go_enter Try.func67, Try.ntmps67
  go_wp2_with fail
  go_quiet (fail)
  go_wp2_with fail
  go_ret2
  exact ⟨ret_2n (by rw [← Int.natCast_ediv]; exact wN (by omega)) (Int.natCast_emod x d).symm, _, rfl⟩
theorem wv_small (s : Bool) {x : Nat} (hx : x < 18446744073709551616) : wv s x = .agg #[.bool s, .int .u64 0, .int .u64 (x : Int)] := by
  unfold wv
  rw [show x / 18446744073709551616 = 0 by omega, show x % 18446744073709551616 = x by omega]
  rfl
structure D2 (w W : World) (s : Bool) (x : Nat) : Prop where
  x : Blk W w.heap.size 76 #[.bool s, .int .u64 0, .int .u64 (x : Int)]
  z : Blk W (w.heap.size + 1) 76 #[.bool false, .int .u64 0, .int .u64 0]
  blw : Below w.heap.size w W
theorem D2.drewN {w W : World} {s : Bool} {x : Nat} (h : D2 w W s x) (n : Nat) : D2 w (W.drewN n) s x := ⟨h.x.drewN n, h.z.drewN n, dN h.blw n⟩
theorem D2.fin {w W : World} {s : Bool} {x : Nat} (h : D2 w W s x) (a b c : Value) : ∃ W', W' = (((W.setCell ⟨w.heap.size + 1, 0, none⟩ a).setCell ⟨w.heap.size + 1, 1, none⟩ b).setCell ⟨w.heap.size + 1, 2, none⟩ c).drew ∧ W'.cell? ⟨w.heap.size + 1, 0, none⟩ = some a ∧ W'.cell? ⟨w.heap.size + 1, 1, none⟩ = some b ∧ W'.cell? ⟨w.heap.size + 1, 2, none⟩ = some c ∧ Below w.heap.size w W' := by
  have hb : Blk ((((W.setCell ⟨w.heap.size + 1, 0, none⟩ a).setCell ⟨w.heap.size + 1, 1, none⟩ b).setCell ⟨w.heap.size + 1, 2, none⟩ c).drew) (w.heap.size + 1) 76 #[a, b, c] := (((h.z.set_ 0 a).set_ 1 b).to 2 c rfl).drew
  exact ⟨_, rfl, hb.cell 0 rfl, hb.cell 1 rfl, hb.cell 2 rfl, dN (((h.blw.setCell (by simp only; omega) _).setCell (by simp only; omega) _).setCell (by simp only; omega) _) 1⟩
theorem D2.start (w : World) (s : Bool) (x : Nat) : D2 w ((w.alloc (.cells #[.bool s, .int .u64 0, .int .u64 (x : Int)] 76)).alloc (.cells #[.bool false, .int .u64 0, .int .u64 0] 76)) s x := by
  have g1 := Blk.new (w.alloc (.cells #[.bool s, .int .u64 0, .int .u64 (x : Int)] 76)) 76 #[.bool false, .int .u64 0, .int .u64 0]
  rw [World.size_alloc] at g1
  exact ⟨(Blk.new _ _ _).alloc _, g1, by go_grown⟩
set_option maxRecDepth 100000 in
set_option maxHeartbeats 2000000 in
theorem divide_c (s : Bool) (x d : Nat) (w : World) (hx : x < 18446744073709551616) (hd : 1 ≤ d) (hd2 : d < 18446744073709551616) :
    Calls Try.prog 52 #[wv s x, .int .u64 d] w fun e w' => e = .returned (.tuple #[wv s (x / d), .int .u64 ((x % d : Nat) : Int)]) ∧ Below w.heap.size w w' := by
  have hq0 : x / d ≤ x := Nat.div_le_self _ _
  obtain ⟨q, hq⟩ : ∃ q, q = x / d := ⟨_, rfl⟩
  obtain ⟨r, hr⟩ : ∃ r, r = x % d := ⟨_, rfl⟩
  have DV := fun w => div64_c x d w hx hd hd2
  rw [← hq, ← hr] at DV
  rw [wv_small s hx, ← hq, ← hr, wv_small s (show q < 18446744073709551616 by omega)]
  clear hq hr hq0
  have hz : ((d : Int) == 0) = false := beq_false_of_ne (by omega)
  have hz2 : ¬ (d : Int) = 0 := by omega
  go_enter Try.func52, Try.ntmps52
  go_upto_region 1 with fail
  obtain ⟨X, hX, HX⟩ : ∃ X, X = (w.alloc (.cells #[.bool s, .int .u64 0, .int .u64 (x : Int)] 76)).alloc (.cells #[.bool false, .int .u64 0, .int .u64 0] 76) ∧ Kept (D2 w X s x) := ⟨_, rfl, ⟨D2.start w s x⟩⟩
  rw [← hX]
  clear hX
  have k0 := HX.out.x.cell 0 (v := .bool s) rfl
  have k1 := HX.out.x.cell 1 (v := .int .u64 0) rfl
  have k2 := HX.out.x.cell 2 (v := .int .u64 (x : Int)) rfl
  have lx := HX.out.x.lt
  go_quiet ((go_at_call 67; exact Calls.quiet_of (DV _)))
  go_upto_region 2 with fail
  obtain ⟨Y, hY, HY⟩ : ∃ Y, Y = X.drewN nq ∧ Kept (D2 w Y s x) := ⟨_, rfl, ⟨HX.out.drewN nq⟩⟩
  rw [← hY]
  clear hY k0 k1 k2 lx HX
  have k0 := HY.out.x.cell 0 (v := .bool s) rfl
  have k1 := HY.out.x.cell 1 (v := .int .u64 0) rfl
  have lx := HY.out.x.lt
  have z0 := HY.out.z.cell 0 (v := .bool false) rfl
  have z1 := HY.out.z.cell 1 (v := .int .u64 0) rfl
  have z2 := HY.out.z.cell 2 (v := .int .u64 0) rfl
  have zf0 := HY.out.z.free 0
  have zf1 := HY.out.z.free 1
  have zf2 := HY.out.z.free 2
  have lz := HY.out.z.lt
  go_region
  go_wp2_with fail
  obtain ⟨W9, hW9, s0, s1, s2, hb⟩ := HY.out.fin (.bool s) (.int .u64 0) (.int .u64 (q : Int))
  rw [← hW9]
  clear hW9
  exact bodyPost_ret (v := .tuple #[.agg #[.bool s, .int .u64 0, .int .u64 (q : Int)], .int .u64 (r : Int)]) (by simp [results, Try.results52, go_sem, s0, s1, s2]) rfl ⟨rfl, hb⟩
end Go.Proofs.Ytjalegdfofogcaa
