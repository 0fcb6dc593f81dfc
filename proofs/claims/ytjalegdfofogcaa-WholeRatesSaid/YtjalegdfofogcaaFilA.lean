/- The filling: its numbers stay small, what a candidate is, and how its state lies in memory. -/
import Derived.Test.YtjalegdfofogcaaNetC
namespace Go.Proofs.Ytjalegdfofogcaa
set_option linter.unusedVariables false
set_option linter.unusedSimpArgs false
open Go.RowKit
/-- x is a whole multiple of 1 / D, at most M in absolute value. -/
def Gd (D M : Nat) (x : Rat) : Prop := ∃ z : Int, x * (D : Rat) = (z : Rat) ∧ z.natAbs ≤ M * D
theorem Gd.add {D M N : Nat} {x y : Rat} (h : Gd D M x) (k : Gd D N y) : Gd D (M + N) (x + y) := by
  obtain ⟨z, hz, bz⟩ := h
  obtain ⟨u, hu, bu⟩ := k
  refine ⟨z + u, ?_, ?_⟩
  · rw [Rat.add_mul, hz, hu, Rat.intCast_add]
  · rw [Nat.add_mul]; omega
theorem Gd.neg {D M : Nat} {x : Rat} (h : Gd D M x) : Gd D M (-x) := by
  obtain ⟨z, hz, bz⟩ := h
  refine ⟨-z, ?_, by rw [Int.natAbs_neg]; exact bz⟩
  rw [Rat.neg_mul, hz, Rat.intCast_neg]
theorem Gd.sub {D M N : Nat} {x y : Rat} (h : Gd D M x) (k : Gd D N y) : Gd D (M + N) (x - y) := by rw [Rat.sub_eq_add_neg]; exact h.add k.neg
theorem Gd.wide {D M N : Nat} {x : Rat} (h : Gd D M x) (k : M ≤ N) : Gd D N x := by
  obtain ⟨z, hz, bz⟩ := h
  exact ⟨z, hz, Nat.le_trans bz (Nat.mul_le_mul_right _ k)⟩
theorem Gd.fine {D M m : Nat} {x : Rat} (h : Gd D M x) : Gd (D * m) M x := by
  obtain ⟨z, hz, bz⟩ := h
  refine ⟨z * m, ?_, ?_⟩
  · rw [Rat.natCast_mul, ← Rat.mul_assoc, hz, Rat.intCast_mul, Rat.intCast_natCast]
  · rw [Int.natAbs_mul, Int.natAbs_natCast, ← Nat.mul_assoc]; exact Nat.mul_le_mul_right _ bz
theorem Gd.to {D E M : Nat} {x : Rat} (h : Gd D M x) (k : D ∣ E) : Gd E M x := by
  obtain ⟨m, rfl⟩ := k
  exact h.fine
theorem natCast_ne {k : Nat} (hk : 1 ≤ k) : (k : Rat) ≠ 0 := by
  intro h
  have : (0 : Rat) < (k : Rat) := Rat.natCast_pos.2 (by omega)
  rw [h] at this
  exact Rat.lt_irrefl this
theorem Gd.div {D M k : Nat} {x : Rat} (h : Gd D M x) (hk : 1 ≤ k) : Gd (D * k) M (x / (k : Rat)) := by
  obtain ⟨z, hz, bz⟩ := h
  refine ⟨z, ?_, ?_⟩
  · rw [Rat.natCast_mul, Rat.mul_comm (D : Rat), ← Rat.mul_assoc, Rat.div_mul_cancel (natCast_ne hk), hz]
  · have := Nat.mul_le_mul_left (M * D) hk
    rw [Nat.mul_one, Nat.mul_assoc] at this
    omega
theorem Gd.zero (D : Nat) : Gd D 0 0 := ⟨0, by rw [Rat.zero_mul]; rfl, by simp⟩
theorem Gd.eq {D M : Nat} {x : Rat} (hD : 1 ≤ D) (h : Gd D M x) : ∃ z : Int, x = mkRat z D ∧ z.natAbs ≤ M * D := by
  obtain ⟨z, hz, bz⟩ := h
  refine ⟨z, ?_, bz⟩
  rw [Rat.mkRat_eq_div, ← hz, Rat.mul_div_cancel (natCast_ne hD)]
theorem Gd.sm {D M : Nat} {x : Rat} (h : Gd D M x) (hD : 1 ≤ D) (h1 : D ≤ 1048576) (h2 : M * D ≤ 549755813888) : Sm x := by
  obtain ⟨z, rfl, bz⟩ := h.eq hD
  unfold Sm
  rw [Rat.num_mkRat, Rat.den_mkRat, if_neg (by omega), if_neg (by omega)]
  constructor
  · have : (z / ((D.gcd z.natAbs : Nat) : Int)).natAbs ≤ z.natAbs := by
      rw [Int.natAbs_ediv_of_dvd (by rw [← Int.dvd_natAbs, Int.ofNat_dvd]; exact Nat.gcd_dvd_right _ _), Int.natAbs_natCast]
      exact Nat.div_le_self _ _
    omega
  · have := Nat.div_le_self D (D.gcd z.natAbs)
    omega
/-- The state's memory: the struct's box g, the rates' row gr, the flags' row gz; the net lies below the three. -/
structure FillAt (w : World) (B g gr gz : Nat) (n : PNet) (rs : List Rq) (fz : List Bool) : Prop where
  box : Blk w g 100 #[.slice n.cA n.caps.length n.ck, .slice n.fA n.flows.length n.fk, .slice (some ⟨gr, 0, none⟩) n.flows.length n.flows.length, .slice (some ⟨gz, 0, none⟩) n.flows.length n.flows.length]
  net : NetAt w B n
  rr : RowBlk w gr 32 ccell rs
  rz : RowBlk w gz 4 boolc fz
  lr : rs.length = n.flows.length
  lz : fz.length = n.flows.length
  bg : B ≤ g ∧ B ≤ gr ∧ B ≤ gz
  r64 : ∀ r ∈ rs, R64 r.n ∧ R64 r.d
section
variable {w w' : World} {B g gr gz : Nat} {n : PNet} {rs : List Rq} {fz : List Bool}
theorem FillAt.new_ (h : FillAt w B g gr gz n rs fz) (hb : Below w.heap.size w w') : FillAt w' B g gr gz n rs fz :=
  ⟨h.box.new_ hb, h.net.keep (B' := B) fun p hp => hb.cell (by have := h.box.lt; have := h.bg; omega), h.rr.new_ hb, h.rz.new_ hb, h.lr, h.lz, h.bg, h.r64⟩
theorem FillAt.frozen (h : FillAt w B g gr gz n rs fz) {k : Nat} (hk : k < n.flows.length) : ∃ b, fz[k]? = some b ∧ w.cell? ⟨gz, k, none⟩ = some (.bool b) := by
  obtain ⟨b, hb⟩ := get_some (l := fz) (k := k) (by rw [h.lz]; exact hk)
  exact ⟨b, hb, by have := h.rz.cell boolc_len hb (j := 0) rfl; simpa using this⟩
theorem FillAt.rate (h : FillAt w B g gr gz n rs fz) {k : Nat} (hk : k < n.flows.length) : ∃ r, rs[k]? = some r ∧ w.cell? ⟨gr, k * 2, none⟩ = some (.int .i64 r.n) ∧ w.cell? ⟨gr, k * 2 + 1, none⟩ = some (.int .i64 r.d) ∧ (R64 r.n ∧ R64 r.d) := by
  obtain ⟨r, hr⟩ := get_some (l := rs) (k := k) (by rw [h.lr]; exact hk)
  exact ⟨r, hr, h.rr.cell ccell_len hr (j := 0) rfl, h.rr.cell ccell_len hr (j := 1) rfl, h.r64 r (List.mem_of_getElem? hr)⟩
end
/-- A flow of the list uses the link. -/
def usesL (flows : List PFlow) (i l : Nat) : Bool := ((flows[i]?).map fun p => p.ls.contains (l : Int)).getD false
def isF (fz : List Bool) (i : Nat) : Bool := fz.getD i false
/-- How many of the first k flows are open and use the link. -/
def ocnt (flows : List PFlow) (fz : List Bool) (l : Nat) : Nat → Nat
  | 0 => 0
  | k + 1 => ocnt flows fz l k + (if !isF fz k && usesL flows k l then 1 else 0)
/-- The sum of the frozen ones' rates. -/
def osum (flows : List PFlow) (fz : List Bool) (rs : List Rq) (l : Nat) : Nat → Rat
  | 0 => 0
  | k + 1 => osum flows fz rs l k + (if isF fz k && usesL flows k l then val (rs.getD k ⟨0, 0⟩) else 0)
/-- The candidate of a link. -/
def candQ (n : PNet) (fz : List Bool) (rs : List Rq) (l : Nat) : Rat := (val (n.caps.getD l ⟨0, 0⟩) - osum n.flows fz rs l n.flows.length) / ((ocnt n.flows fz l n.flows.length : Nat) : Rat)
theorem ocnt_le (flows : List PFlow) (fz : List Bool) (l k : Nat) : ocnt flows fz l k ≤ k := by
  induction k with
  | zero => exact Nat.le_refl _
  | succ k ih => unfold ocnt; split <;> omega
/-- The rates of the frozen flows are small. -/
def RatesOk (D M : Nat) (fz : List Bool) (rs : List Rq) : Prop := ∀ (k : Nat) (r : Rq), fz[k]? = some true → rs[k]? = some r → okQ r = true ∧ Gd D M (val r)
theorem osum_gd {D M : Nat} {flows : List PFlow} {fz : List Bool} {rs : List Rq} {l : Nat} (h : RatesOk D M fz rs) (hl : rs.length = fz.length) (k : Nat) : Gd D (k * M) (osum flows fz rs l k) := by
  induction k with
  | zero => unfold osum; rw [Nat.zero_mul]; exact Gd.zero D
  | succ k ih =>
    unfold osum
    rw [Nat.succ_mul]
    refine ih.add ?_
    split
    · rename_i hc
      simp only [Bool.and_eq_true] at hc
      have hf : fz[k]? = some true := by
        have h1 := hc.1
        unfold isF at h1
        rw [List.getD_eq_getElem?_getD] at h1
        cases hh : fz[k]? with
        | none => rw [hh] at h1; cases h1
        | some b => rw [hh] at h1; simp at h1; rw [h1]
      have hk : k < rs.length := by rw [hl]; exact (List.getElem?_eq_some_iff.1 hf).1
      obtain ⟨r, hr⟩ := get_some hk
      rw [List.getD_eq_getElem?_getD, hr]
      exact (h k r hf hr).2
    · exact (Gd.zero D).wide (Nat.zero_le _)
end Go.Proofs.Ytjalegdfofogcaa
