/- Rational numbers: products and their comparison, validity, the normal form. -/
import Derived.Test.YtjalegdfofogcaaRatA
namespace Go.Proofs.Ytjalegdfofogcaa
set_option linter.unusedVariables false
set_option linter.unusedSimpArgs false
open Go.RowKit
/-- A wide integer with a sign: its absolute value in two words. -/
def wv (s : Bool) (x : Nat) : Value := .agg #[.bool s, .int .u64 ((x / 18446744073709551616 : Nat) : Int), .int .u64 ((x % 18446744073709551616 : Nat) : Int)]
set_option maxHeartbeats 1000000 in
theorem product_c (n : Int) (f : Nat) (w : World) (h0 : -9223372036854775808 ≤ n) (h1 : n ≤ 9223372036854775807) (hf : f < 18446744073709551616) :
    Calls Try.prog 37 #[.int .i64 n, .int .u64 f] w fun e w' => e = .returned (wv (decide (n < 0)) (n.natAbs * f)) ∧ Below w.heap.size w w' := by
  have hn : n.natAbs < 18446744073709551616 := by omega
  have HB0 := Kept.mk (Blk.new w 76 #[.bool false, .int .u64 0, .int .u64 0])
  have f0 := HB0.out.free 0
  have f1 := HB0.out.free 1
  have f2 := HB0.out.free 2
  go_enter Try.func37, Try.ntmps37
  go_wp2_with (first | (go_at_call 34; refine (size_c n _ h0 h1).mono ?_; rintro e w1 ⟨rfl, rfl⟩) | (go_at_call 35; refine (mul64_c n.natAbs f _ hn hf).mono ?_; rintro e w1 ⟨rfl, rfl⟩))
  have e1 : ((n.natAbs * f / 18446744073709551616 : Nat) : Int) = ↑n.natAbs * ↑f / 18446744073709551616 := by rw [Int.natCast_ediv, Int.natCast_mul]; rfl
  have e2 : ((n.natAbs * f % 18446744073709551616 : Nat) : Int) = ↑n.natAbs * ↑f % 18446744073709551616 := by rw [Int.natCast_emod, Int.natCast_mul]; rfl
  have HB := Blk.new w 76 #[.bool (decide (n < 0)), .int .u64 (↑n.natAbs * ↑f / 18446744073709551616), .int .u64 (↑n.natAbs * ↑f % 18446744073709551616)]
  have s0 := HB.cell 0 (v := .bool (decide (n < 0))) rfl
  have s1 := HB.cell 1 (v := .int .u64 (↑n.natAbs * ↑f / 18446744073709551616)) rfl
  have s2 := HB.cell 2 (v := .int .u64 (↑n.natAbs * ↑f % 18446744073709551616)) rfl
  exact bodyPost_ret (v := .agg #[.bool (decide (n < 0)), .int .u64 (↑n.natAbs * ↑f / 18446744073709551616), .int .u64 (↑n.natAbs * ↑f % 18446744073709551616)]) (by simp [results, Try.results37, go_sem, s0, s1, s2]) rfl ⟨by unfold wv; rw [e1, e2], by go_grown⟩
def cmpN (x y : Nat) : Int := if x < y then -1 else if x = y then 0 else 1
set_option maxHeartbeats 1000000 in
theorem compareW_c (s s' : Bool) (a b c d : Nat) (w : World) (z : Int) (hz : (z = -1 ∧ (a < c ∨ a = c ∧ b < d)) ∨ (z = 0 ∧ a = c ∧ b = d) ∨ (z = 1 ∧ (c < a ∨ a = c ∧ d < b))) :
    Calls Try.prog 38 #[.agg #[.bool s, .int .u64 (a : Int), .int .u64 (b : Int)], .agg #[.bool s', .int .u64 (c : Int), .int .u64 (d : Int)]] w fun e w' => e = .returned (.int .i64 z) ∧ Below w.heap.size w w' := by
  rcases hz with ⟨rfl, h | ⟨rfl, h⟩⟩ | ⟨rfl, rfl, rfl⟩ | ⟨rfl, h | ⟨rfl, h⟩⟩
  · have h1 : (a : Int) < c := by omega
    go_enter Try.func38, Try.ntmps38
    go_wp2_with fail
    go_ret
    exact ⟨rfl, by go_grown⟩
  · have h1 : (b : Int) < d := by omega
    go_enter Try.func38, Try.ntmps38
    go_wp2_with fail
    go_ret
    exact ⟨rfl, by go_grown⟩
  · go_enter Try.func38, Try.ntmps38
    go_wp2_with fail
    go_ret
    exact ⟨rfl, by go_grown⟩
  · have h1 : ¬ (a : Int) < c := by omega
    have h2 : ((a : Int) == c) = false := beq_false_of_ne (by omega)
    go_enter Try.func38, Try.ntmps38
    go_wp2_with fail
    go_ret
    exact ⟨rfl, by go_grown⟩
  · have h1 : ¬ (b : Int) < d := by omega
    have h2 : ((b : Int) == d) = false := beq_false_of_ne (by omega)
    go_enter Try.func38, Try.ntmps38
    go_wp2_with fail
    go_ret
    exact ⟨rfl, by go_grown⟩
theorem compare_c (s s' : Bool) (x y : Nat) (w : World) : Calls Try.prog 38 #[wv s x, wv s' y] w fun e w' => e = .returned (.int .i64 (cmpN x y)) ∧ Below w.heap.size w w' := by
  refine compareW_c s s' _ _ _ _ w _ ?_
  unfold cmpN
  split
  · exact .inl ⟨rfl, by omega⟩
  · split
    · rename_i h; subst h; exact .inr (.inl ⟨rfl, rfl, rfl⟩)
    · exact .inr (.inr ⟨rfl, by omega⟩)
structure Rq where
  n : Int
  d : Int
def rqv (r : Rq) : Value := .agg #[.int .i64 r.n, .int .i64 r.d]
def okQ (r : Rq) : Bool := (r.n == 0 && r.d == 0) || (decide (1 ≤ r.d) && decide (r.d ≤ 1152921504606846976) && decide (-1152921504606846976 ≤ r.n) && decide (r.n ≤ 1152921504606846976) && Nat.gcd r.n.natAbs r.d.natAbs == 1)
def normQ (r : Rq) : Rq := if r.d = 0 then ⟨r.n, 1⟩ else r
set_option maxHeartbeats 1000000 in
theorem normal_c (r : Rq) (w : World) : Calls Try.prog 32 #[rqv r] w fun e w' => e = .returned (rqv (normQ r)) ∧ Below w.heap.size w w' := by
  have HB0 := Kept.mk (Blk.new (w.alloc (.cells #[.int .i64 r.n, .int .i64 r.d] 32)) 32 #[.int .i64 0, .int .i64 0])
  unfold rqv
  by_cases h0 : r.d = 0
  · have hz : (r.d == 0) = true := by simpa using h0
    have E : Kept (normQ r = ⟨r.n, 1⟩) := ⟨by unfold normQ; rw [if_pos h0]⟩
    clear h0
    go_enter Try.func32, Try.ntmps32
    go_wp2_with fail
    have HB := Blk.new (w.alloc (.cells #[.int .i64 r.n, .int .i64 1] 32)) 32 #[.int .i64 r.n, .int .i64 1]
    rw [World.size_alloc] at HB
    have s0 := HB.cell 0 (v := .int .i64 r.n) rfl
    have s1 := HB.cell 1 (v := .int .i64 1) rfl
    exact bodyPost_ret (v := .agg #[.int .i64 r.n, .int .i64 1]) (by simp [results, Try.results32, go_sem, s0, s1]) rfl ⟨by rw [E.out], by go_grown⟩
  · have hz : (r.d == 0) = false := by simpa using h0
    have E : Kept (normQ r = r) := ⟨by unfold normQ; rw [if_neg h0]⟩
    clear h0
    go_enter Try.func32, Try.ntmps32
    go_wp2_with fail
    have HB := Blk.new (w.alloc (.cells #[.int .i64 r.n, .int .i64 r.d] 32)) 32 #[.int .i64 r.n, .int .i64 r.d]
    rw [World.size_alloc] at HB
    have s0 := HB.cell 0 (v := .int .i64 r.n) rfl
    have s1 := HB.cell 1 (v := .int .i64 r.d) rfl
    exact bodyPost_ret (v := .agg #[.int .i64 r.n, .int .i64 r.d]) (by simp [results, Try.results32, go_sem, s0, s1]) rfl ⟨by rw [E.out], by go_grown⟩
set_option maxHeartbeats 4000000 in
theorem valid_c (r : Rq) (w : World) (h0 : -9223372036854775808 ≤ r.n) (h1 : r.n ≤ 9223372036854775807) (h2 : -9223372036854775808 ≤ r.d) (h3 : r.d ≤ 9223372036854775807) :
    Calls Try.prog 22 #[rqv r] w fun e w' => e = .returned (.bool (okQ r)) ∧ Below w.heap.size w w' := by
  unfold rqv
  by_cases hz : (r.n == 0) = true ∧ (r.d == 0) = true
  · obtain ⟨z1, z2⟩ := hz
    have HG : Kept (okQ r = true) := ⟨by unfold okQ; rw [z1, z2]; rfl⟩
    go_enter Try.func22, Try.ntmps22
    go_wp2_with fail
    go_ret
    exact ⟨ret_bool (by rw [HG.out]), by go_grown⟩
  · have HZ : Kept ((r.n == 0 && r.d == 0) = false) := ⟨by rw [Bool.and_eq_false_iff]; cases hn : r.n == 0 with
      | false => exact .inl rfl
      | true => exact .inr (by cases hd : r.d == 0 with
        | false => rfl
        | true => exact absurd ⟨hn, hd⟩ hz)⟩
    have hz' : (r.n == 0) = false ∨ (r.n == 0) = true ∧ (r.d == 0) = false := by
      have := HZ.out
      cases hn : r.n == 0 with
      | false => exact .inl rfl
      | true => rw [hn, Bool.true_and] at this; exact .inr ⟨rfl, this⟩
    clear hz
    rcases hz' with z1 | ⟨z1, z2⟩
    all_goals
      by_cases g0 : 1 ≤ r.d
      · skip
        by_cases g1 : r.d ≤ 1152921504606846976
        · skip
          by_cases g2 : -1152921504606846976 ≤ r.n
          · skip
            by_cases g3 : r.n ≤ 1152921504606846976
            · skip
              have HG : Kept (okQ r = (Nat.gcd r.n.natAbs r.d.natAbs == 1)) := ⟨by unfold okQ; rw [HZ.out, decide_eq_true g0, decide_eq_true g1, decide_eq_true g2, decide_eq_true g3]; simp⟩
              go_enter Try.func22, Try.ntmps22
              go_wp2_with fail
              go_quiet (first | (go_at_call 34; exact Calls.quiet_of_same ((size_c _ _ (by omega) (by omega)).mono fun _ _ h => ⟨h.1, h.2.symm⟩)) | (go_at_call 33; exact Calls.quiet_of (gcd_c _ _ _ (by omega) (by omega))))
              go_wp2_with fail
              go_ret
              exact ⟨ret_bool (by rw [HG.out, Bool.eq_iff_iff, beq_iff_eq, beq_iff_eq]; omega), dN (by go_grown) _⟩
            · have HG : Kept (okQ r = false) := ⟨by unfold okQ; rw [HZ.out, decide_eq_true g0, decide_eq_true g1, decide_eq_true g2, decide_eq_false g3]; simp⟩
              have n3 : decide (r.n ≤ 1152921504606846976) = false := decide_eq_false g3
              clear h0 h1 h2 h3
              go_enter Try.func22, Try.ntmps22
              go_wp2_with fail
              go_quiet (fail)
              go_wp2_with fail
              go_ret
              exact ⟨ret_bool (by rw [HG.out] <;> rfl), dN (by go_grown) _⟩
          · have HG : Kept (okQ r = false) := ⟨by unfold okQ; rw [HZ.out, decide_eq_true g0, decide_eq_true g1, decide_eq_false g2]; simp⟩
            have n2 : decide (-1152921504606846976 ≤ r.n) = false := decide_eq_false g2
            clear h0 h1 h2 h3
            go_enter Try.func22, Try.ntmps22
            go_wp2_with fail
            go_quiet (fail)
            go_wp2_with fail
            go_ret
            exact ⟨ret_bool (by rw [HG.out] <;> rfl), dN (by go_grown) _⟩
        · have HG : Kept (okQ r = false) := ⟨by unfold okQ; rw [HZ.out, decide_eq_true g0, decide_eq_false g1]; simp⟩
          have n1 : decide (r.d ≤ 1152921504606846976) = false := decide_eq_false g1
          clear h0 h1 h2 h3
          go_enter Try.func22, Try.ntmps22
          go_wp2_with fail
          go_quiet (fail)
          go_wp2_with fail
          go_ret
          exact ⟨ret_bool (by rw [HG.out] <;> rfl), dN (by go_grown) _⟩
      · have HG : Kept (okQ r = false) := ⟨by unfold okQ; rw [HZ.out, decide_eq_false g0]; simp⟩
        have n0 : decide (1 ≤ r.d) = false := decide_eq_false g0
        clear h0 h1 h2 h3
        go_enter Try.func22, Try.ntmps22
        go_wp2_with fail
        go_quiet (fail)
        go_wp2_with fail
        go_ret
        exact ⟨ret_bool (by rw [HG.out] <;> rfl), dN (by go_grown) _⟩
end Go.Proofs.Ytjalegdfofogcaa
