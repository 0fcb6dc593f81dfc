/- Clock: the plain arithmetic of layer 13, no program in sight: what a clock shows, the least tick, the bounds. For all integers that meet each lemma's premises. -/
namespace Go.Proofs.Ythkilfainkcmgaa
set_option linter.unusedVariables false
theorem mul_bd {a b A B : Int} (h0 : 0 ≤ a) (h1 : a ≤ A) (h2 : 0 ≤ b) (h3 : b ≤ B) : 0 ≤ a * b ∧ a * b ≤ A * B :=
  ⟨Int.mul_nonneg h0 h2, Int.mul_le_mul h1 h3 h2 (by omega)⟩
theorem div_bd {a d A : Int} (h0 : 0 ≤ a) (h1 : a ≤ A) (hd : 1 ≤ d) : 0 ≤ a / d ∧ a / d ≤ A :=
  ⟨Int.ediv_nonneg h0 (by omega), Int.le_trans (Int.ediv_le_self _ h0) h1⟩
theorem div_mono {a b d : Int} (h : a ≤ b) (hd : 1 ≤ d) : a / d ≤ b / d := Int.ediv_le_ediv (by omega) h
/-- floor: q = a / d exactly if q*d ≤ a < q*d + d -/
theorem div_lt_of {a d q : Int} (hd : 1 ≤ d) (h : a < q * d) : a / d < q := Int.ediv_lt_of_lt_mul (by omega) h
theorem le_div_of {a d q : Int} (hd : 1 ≤ d) (h : q * d ≤ a) : q ≤ a / d := (Int.le_ediv_iff_mul_le (by omega)).2 h
theorem div_spec (a d : Int) (hd : 1 ≤ d) : a / d * d ≤ a ∧ a < a / d * d + d := by
  have h1 := Int.ediv_mul_add_emod a d
  have h2 := Int.emod_nonneg a (b := d) (by omega)
  have h3 := Int.emod_lt_of_pos a (b := d) (by omega)
  omega
theorem adv_bd {t n d : Int} (hn : 0 ≤ n) (hd : 1 ≤ d) (h : n ≤ 2 * d) : t * n / d ≤ (t + 1) * n / d ∧ (t + 1) * n / d ≤ t * n / d + 2 := by
  have e : (t + 1) * n = t * n + n := by rw [Int.add_mul, Int.one_mul]
  rw [e]
  refine ⟨div_mono (by omega) hd, ?_⟩
  have : (t * n + n) / d ≤ (t * n + 2 * d) / d := div_mono (by omega) hd
  rw [Int.add_mul_ediv_right _ _ (by omega)] at this
  exact this
/-- the least tick at which a clock shows at least x -/
def leastT (s n d x : Int) : Int := if x ≤ s then 0 else ((x - s) * d + n - 1) / n
theorem least_nonneg {s n d x : Int} (hn : 1 ≤ n) (hd : 1 ≤ d) : 0 ≤ leastT s n d x := by
  unfold leastT
  split
  · omega
  · have := Int.mul_nonneg (a := x - s) (b := d) (by omega) (by omega)
    exact Int.ediv_nonneg (by omega) (by omega)
theorem least_at {s n d x : Int} (hn : 1 ≤ n) (hd : 1 ≤ d) : x ≤ s + leastT s n d x * n / d := by
  unfold leastT
  split
  · simp; omega
  · have h := div_spec ((x - s) * d + n - 1) n hn
    have : x - s ≤ ((x - s) * d + n - 1) / n * n / d := le_div_of hd (by omega)
    omega
theorem least_before {s n d x t : Int} (hn : 1 ≤ n) (hd : 1 ≤ d) (h : t < leastT s n d x) (ht : 0 ≤ t) : s + t * n / d < x := by
  unfold leastT at h
  split at h
  · omega
  · have h1 := div_spec ((x - s) * d + n - 1) n hn
    have h2 : (t + 1) * n ≤ ((x - s) * d + n - 1) / n * n := Int.mul_le_mul_of_nonneg_right (by omega) (by omega)
    rw [Int.add_mul, Int.one_mul] at h2
    have := div_lt_of (a := t * n) (q := x - s) hd (by omega)
    omega
theorem least_mul {s n d x : Int} (hn : 1 ≤ n) (hd : 1 ≤ d) (hs : s < x) : leastT s n d x * n ≤ (x - s) * d + n - 1 := by
  unfold leastT
  rw [if_neg (by omega)]
  exact (div_spec ((x - s) * d + n - 1) n hn).1
theorem start_le {s n d x : Int} (hn : 1 ≤ n) (hd : 1 ≤ d) (hs : s < x) : (x - s) * d / n - 2 ≤ leastT s n d x := by
  unfold leastT
  rw [if_neg (by omega)]
  have := div_mono (a := (x - s) * d) (b := (x - s) * d + n - 1) (by omega) hn
  omega
/-! bounds -/
def lowI (e p : Int) : Int := if 0 < e then (e - 1) * 1000000 / (1000000 + p) + 1 else 0
def highI (e p : Int) : Int := ((e + 1) * 1000000 - 1) / (1000000 - p)
theorem low_bd {e p : Int} (he : 0 ≤ e) (hp : 0 ≤ p) : 0 ≤ lowI e p ∧ lowI e p ≤ e := by
  unfold lowI
  split
  · have a := Int.ediv_nonneg (a := (e - 1) * 1000000) (b := 1000000 + p) (by omega) (by omega)
    have b := div_lt_of (a := (e - 1) * 1000000) (d := 1000000 + p) (q := e) (by omega) (by
      rw [Int.mul_add]
      have := Int.mul_nonneg (a := e) (b := p) (by omega) (by omega)
      omega)
    omega
  · omega
theorem high_bd {e p : Int} (he : 0 ≤ e) (hp : 0 ≤ p) (hp2 : p ≤ 100000) : e ≤ highI e p ∧ highI e p ≤ (e + 1) * 1000000 - 1 := by
  unfold highI
  refine ⟨le_div_of (by omega) ?_, Int.ediv_le_self _ (by omega)⟩
  rw [Int.mul_sub]
  have := Int.mul_nonneg (a := e) (b := p) (by omega) (by omega)
  omega
theorem high_ref {e p : Int} (hp : 0 ≤ p) (hp2 : p ≤ 100000) :
    highI e p = if (e + 1) * 1000000 % (1000000 - p) = 0 then (e + 1) * 1000000 / (1000000 - p) - 1 else (e + 1) * 1000000 / (1000000 - p) := by
  unfold highI
  generalize (e + 1) * 1000000 = a
  have hd : 1 ≤ 1000000 - p := by omega
  generalize 1000000 - p = d at hd
  have h1 := Int.ediv_mul_add_emod a d
  have h2 := Int.emod_nonneg a (b := d) (by omega)
  have h3 := Int.emod_lt_of_pos a (b := d) (by omega)
  have key : ∀ q : Int, q * d ≤ a - 1 → a - 1 < q * d + d → (a - 1) / d = q := by
    intro q hq1 hq2
    have c1 := le_div_of hd hq1
    have c2 : (a - 1) / d < q + 1 := div_lt_of hd (by rw [Int.add_mul, Int.one_mul]; exact hq2)
    omega
  split
  · refine key _ ?_ ?_ <;> rw [Int.sub_mul, Int.one_mul] <;> omega
  · refine key _ ?_ ?_ <;> omega
theorem holds_bd {n d f L p : Int} (hn : 1 ≤ n) (hd : 1 ≤ d) (hL : 0 ≤ L) (hp : 0 ≤ p) (hp2 : p ≤ 100000)
    (h1 : (n - d) * 1000000 ≤ p * d) (h2 : (d - n) * 1000000 ≤ p * d) :
    lowI ((f + L) * n / d - f * n / d) p ≤ L ∧ L ≤ highI ((f + L) * n / d - f * n / d) p ∧ 0 ≤ (f + L) * n / d - f * n / d := by
  have a := div_spec ((f + L) * n) d hd
  have b := div_spec (f * n) d hd
  have e : (f + L) * n = f * n + L * n := Int.add_mul _ _ _
  have hm : 0 ≤ L * n := Int.mul_nonneg hL (by omega)
  have hD0 : f * n / d ≤ (f + L) * n / d := div_mono (by omega) hd
  generalize (f + L) * n / d = q2 at *
  generalize f * n / d = q1 at *
  have eD : (q2 - q1) * d = q2 * d - q1 * d := Int.sub_mul _ _ _
  have k1 : (q2 - q1) * d < L * n + d := by omega
  have k2 : L * n < (q2 - q1) * d + d := by omega
  have hD : 0 ≤ q2 - q1 := by omega
  generalize q2 - q1 = D at *
  have u1 : L * (n * 1000000) ≤ L * (d * (1000000 + p)) := Int.mul_le_mul_of_nonneg_left (by rw [Int.mul_add, Int.mul_comm d p]; omega) hL
  have u2 : L * (d * (1000000 - p)) ≤ L * (n * 1000000) := Int.mul_le_mul_of_nonneg_left (by rw [Int.mul_sub, Int.mul_comm d p]; omega) hL
  have v1 : L * (n * 1000000) = L * n * 1000000 := by rw [Int.mul_assoc]
  have v2 : L * (d * (1000000 + p)) = L * (1000000 + p) * d := by rw [Int.mul_assoc, Int.mul_comm d]
  have v3 : L * (d * (1000000 - p)) = L * (1000000 - p) * d := by rw [Int.mul_assoc, Int.mul_comm d]
  rw [v1, v2] at u1
  rw [v1, v3] at u2
  refine ⟨?_, ?_, hD⟩
  · unfold lowI
    split
    · have : (D - 1) * 1000000 < L * (1000000 + p) := by
        have : (D - 1) * 1000000 * d < L * (1000000 + p) * d := by
          have e1 : (D - 1) * 1000000 * d = D * d * 1000000 - d * 1000000 := by
            rw [Int.sub_mul, Int.sub_mul, Int.one_mul, Int.mul_right_comm, Int.mul_comm 1000000 d]
          omega
        exact Int.lt_of_mul_lt_mul_right this (by omega)
      have := div_lt_of (a := (D - 1) * 1000000) (d := 1000000 + p) (q := L) (by omega) this
      omega
    · omega
  · unfold highI
    refine le_div_of (by omega) ?_
    have : L * (1000000 - p) < (D + 1) * 1000000 := by
      have : L * (1000000 - p) * d < (D + 1) * 1000000 * d := by
        have e1 : (D + 1) * 1000000 * d = D * d * 1000000 + d * 1000000 := by
          rw [Int.add_mul, Int.add_mul, Int.one_mul, Int.mul_right_comm, Int.mul_comm 1000000 d]
        omega
      exact Int.lt_of_mul_lt_mul_right this (by omega)
    omega
end Go.Proofs.Ythkilfainkcmgaa
