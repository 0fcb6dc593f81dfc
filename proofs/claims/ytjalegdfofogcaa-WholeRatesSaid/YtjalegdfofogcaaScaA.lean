/- WholeScales: the three other nets, in plain words. -/
import Derived.Test.YtjalegdfofogcaaLawB
import Derived.Test.YtjalegdfofogcaaNetC
namespace Go.Proofs.Ytjalegdfofogcaa
set_option linter.unusedVariables false
set_option linter.unusedSimpArgs false
open Go.RowKit
theorem cmpQ_le {a b : Rq} (ha : okQ a = true) (hb : okQ b = true) (h : val a ≤ val b) : cmpQ a b ≤ 0 := by
  rcases Rat.le_iff_lt_or_eq.1 h with h1 | h1
  · have := (cmpQ_val ha hb).1.2 h1; omega
  · have := (cmpQ_val ha hb).2.2 h1; omega
theorem netOk_iff {n : PNet} : netOk n = true ↔ n.caps.length ≤ 32 ∧ n.flows.length ≤ 32 ∧ (∀ c ∈ n.caps, capOk c = true) ∧ ∀ p ∈ n.flows, flowOk n.caps.length p = true := by
  unfold netOk
  simp only [Bool.and_eq_true, decide_eq_true_eq, List.all_eq_true]
theorem flowOk_iff {nl : Nat} {p : PFlow} : flowOk nl p = true ↔ 0 < p.ls.length ∧ (∀ i, i < p.ls.length → linkOk nl (p.ls.take i) (p.ls.getD i 0) = true) ∧ okQ p.d = true ∧ 0 ≤ p.d.n ∧ (p.b = true ∨ p.d.n = 0) := by
  unfold flowOk linksOk
  simp only [Bool.and_eq_true, decide_eq_true_eq, List.all_eq_true, List.mem_range, Bool.or_eq_true, beq_iff_eq]
theorem linkOk_iff {nl : Nat} {pre : List Int} {l : Int} : linkOk nl pre l = true ↔ 0 ≤ l ∧ l < nl ∧ pre.contains l = false := by
  unfold linkOk
  simp only [Bool.and_eq_true, decide_eq_true_eq, Bool.not_eq_true']
theorem flow_range {nl : Nat} {p : PFlow} (h : flowOk nl p = true) : p.ls ≠ [] ∧ ∀ x ∈ p.ls, 0 ≤ x ∧ x < nl := by
  obtain ⟨h1, h2, -⟩ := flowOk_iff.1 h
  refine ⟨fun e => by rw [e] at h1; simp at h1, fun x hx => ?_⟩
  obtain ⟨i, hi⟩ := List.getElem?_of_mem hx
  have := linkOk_iff.1 (h2 i (List.getElem?_eq_some_iff.1 hi).1)
  rw [List.getD_eq_getElem?_getD, hi, Option.getD_some] at this
  exact ⟨this.1, this.2.1⟩
theorem val_nonneg {r : Rq} (h : okQ r = true) (h0 : 0 ≤ r.n) : 0 ≤ val r := by
  unfold val
  rw [Rat.mkRat_eq_div]
  unfold okQ at h
  simp only [Bool.or_eq_true, Bool.and_eq_true, beq_iff_eq, decide_eq_true_eq] at h
  rcases h with ⟨h1, h2⟩ | ⟨⟨⟨⟨h1, h2⟩, h3⟩, h4⟩, h5⟩
  · rw [h1, h2]; decide +kernel
  · rw [le_div (Rat.natCast_pos.2 (by omega)), Rat.zero_mul]
    exact Rat.intCast_nonneg.2 h0
/-- A number with a small denominator. -/
theorem val_gd {r : Rq} (h : okQ r = true) (h0 : 0 ≤ r.n) (h1 : r.n ≤ 12) (h2 : r.d ≤ 4) : Gd 12 12 (val r) := by
  obtain ⟨x, d⟩ := r
  dsimp only at h0 h1 h2
  unfold okQ at h
  simp only [Bool.or_eq_true, Bool.and_eq_true, beq_iff_eq, decide_eq_true_eq] at h
  rcases h with ⟨rfl, rfl⟩ | ⟨⟨⟨⟨h3, h4⟩, h5⟩, h6⟩, h7⟩
  · exact (Gd.zero 12).wide (by omega)
  · have hd : d = 1 ∨ d = 2 ∨ d = 3 ∨ d = 4 := by omega
    have key : ∀ e f : Nat, e * f = 12 → 1 ≤ e → Gd 12 12 (val ⟨x, (e : Int)⟩) := fun e f hef he => by
      refine ⟨x * f, ?_, ?_⟩
      · unfold val
        dsimp only [Int.toNat_natCast]
        rw [Rat.mkRat_eq_div, ← hef, Rat.natCast_mul, ← Rat.mul_assoc, Rat.div_mul_cancel (natCast_ne he), Rat.intCast_mul, Rat.intCast_natCast]
      · rw [Int.natAbs_mul, Int.natAbs_natCast]
        have hf : f ≤ 12 := by
          have := Nat.mul_le_mul_right f he
          omega
        exact Nat.mul_le_mul (by omega) hf
    rcases hd with rfl | rfl | rfl | rfl
    · exact key 1 12 rfl (by omega)
    · exact key 2 6 rfl (by omega)
    · exact key 3 4 rfl (by omega)
    · exact key 4 3 rfl (by omega)
theorem gd_le {x : Rat} {D M : Nat} (hD : 1 ≤ D) (h : Gd D M x) : x ≤ (M : Rat) := by
  obtain ⟨z, hz, bz⟩ := h
  have hp : (0 : Rat) < (D : Rat) := Rat.natCast_pos.2 (by omega)
  refine Rat.le_of_mul_le_mul_right ?_ hp
  rw [hz, ← Rat.natCast_mul, ← Rat.intCast_natCast]
  exact Rat.intCast_le_intCast.2 (by omega)
theorem mod_ok {n : PNet} (h : modB n = true) : netOk n = true ∧ n.caps.length ≤ 4 ∧ n.flows.length ≤ 5 ∧ (∀ c ∈ n.caps, okQ c = true ∧ Gd 12 12 (val c) ∧ 0 ≤ val c) ∧ (∀ p ∈ n.flows, okQ p.d = true ∧ Gd 12 12 (val p.d) ∧ 0 ≤ val p.d) := by
  unfold modB at h
  simp only [Bool.and_eq_true, decide_eq_true_eq, List.all_eq_true] at h
  obtain ⟨h1, h2, h3, h4, h5⟩ := h
  obtain ⟨-, -, hc, hp⟩ := netOk_iff.1 h3
  refine ⟨h3, h1, h2, fun c hm => ?_, fun p hm => ?_⟩
  · have g := hc c hm
    have f := h4 c hm
    unfold capOk at g
    unfold fitB at f
    simp only [Bool.and_eq_true, decide_eq_true_eq] at g f
    exact ⟨g.1, val_gd g.1 g.2.1 f.1 f.2, val_nonneg g.1 g.2.1⟩
  · obtain ⟨-, -, g1, g2, -⟩ := flowOk_iff.1 (hp p hm)
    have f := h5 p hm
    unfold fitB at f
    simp only [Bool.and_eq_true, decide_eq_true_eq] at f
    exact ⟨g1, val_gd g1 g2 f.1 f.2, val_nonneg g1 g2⟩
theorem mod_net {n : PNet} (h : modB n = true) : NetOk n := by
  obtain ⟨h1, h2, h3, h4, h5⟩ := mod_ok h
  obtain ⟨-, -, -, hp⟩ := netOk_iff.1 h1
  exact ⟨by omega, h3, fun c hm => ⟨(h4 c hm).1, (h4 c hm).2.1.wide (by omega), (h4 c hm).2.2⟩, fun p hm => ⟨(h5 p hm).1, (h5 p hm).2.1.wide (by omega), (h5 p hm).2.2⟩, fun p hm => flow_range (hp p hm)⟩
/-- A number times k. -/
def scq (k : Nat) (c : Rq) : Rq := cq (val c * (k : Rat))
def sfl (k : Nat) (p : PFlow) : PFlow := ⟨p.ls, p.A, p.kap, p.b, scq k p.d⟩
theorem gd_mul {x : Rat} {M k : Nat} (h : Gd 12 M x) : Gd 12 (M * k) (x * (k : Rat)) := by
  obtain ⟨z, hz, bz⟩ := h
  refine ⟨z * k, ?_, ?_⟩
  · rw [Rat.mul_assoc, Rat.mul_comm (k : Rat), ← Rat.mul_assoc, hz, Rat.intCast_mul, Rat.intCast_natCast]
  · rw [Int.natAbs_mul, Int.natAbs_natCast]
    have := Nat.mul_le_mul_right k bz
    rw [Nat.mul_assoc, Nat.mul_comm 12 k, ← Nat.mul_assoc] at this
    exact this
theorem scq_ok {k : Nat} (hk : k ≤ 9) {c : Rq} (h : okQ c = true ∧ Gd 12 12 (val c) ∧ 0 ≤ val c) : okQ (scq k c) = true ∧ Gd 12 108 (val (scq k c)) ∧ 0 ≤ val (scq k c) ∧ val (scq k c) = val c * (k : Rat) ∧ Sm (val c * (k : Rat)) := by
  have hg : Gd 12 108 (val c * (k : Rat)) := (gd_mul h.2.1).wide (by omega)
  have hs : Sm (val c * (k : Rat)) := hg.sm (by omega) (by omega) (by omega)
  have e : val (scq k c) = val c * (k : Rat) := val_cq _
  exact ⟨hs.ok, by rw [e]; exact hg, by rw [e]; exact Rat.mul_nonneg h.2.2 (Rat.natCast_nonneg), e, hs⟩
theorem capOk_of {c : Rq} (h : okQ c = true ∧ Gd 12 108 (val c) ∧ 0 ≤ val c) (h0 : 0 ≤ c.n) : capOk c = true := by
  unfold capOk
  have hb : okQ ⟨1000, 1⟩ = true := by decide +kernel
  have hv : val ⟨1000, 1⟩ = (1000 : Rat) := by decide +kernel
  rw [h.1, decide_eq_true h0, decide_eq_true (cmpQ_le h.1 hb (by
    rw [hv]
    refine Rat.le_trans (gd_le (by omega) h.2.1) ?_
    decide +kernel))]
  rfl
theorem scaled_net {n n' : PNet} {k : Nat} (hk0 : 1 ≤ k) (hk : k ≤ 9) (h : modB n = true) (hc : n'.caps = n.caps.map (scq k)) (hf : n'.flows = n.flows.map (sfl k)) : netOk n' = true ∧ NetOk n' ∧ Sim n n' (k : Rat) id := by
  obtain ⟨h1, h2, h3, h4, h5⟩ := mod_ok h
  obtain ⟨-, -, hcap, hp⟩ := netOk_iff.1 h1
  have hcl : n'.caps.length = n.caps.length := by rw [hc, List.length_map]
  have hfl : n'.flows.length = n.flows.length := by rw [hf, List.length_map]
  have C : ∀ c ∈ n'.caps, okQ c = true ∧ Gd 12 108 (val c) ∧ 0 ≤ val c ∧ 0 ≤ c.n := fun c hm => by
    rw [hc, List.mem_map] at hm
    obtain ⟨c0, hm0, rfl⟩ := hm
    obtain ⟨g1, g2, g3, g4, -⟩ := scq_ok hk (h4 c0 hm0)
    refine ⟨g1, g2, g3, ?_⟩
    rw [g4] at g3
    exact Rat.num_nonneg.2 g3
  have F : ∀ p ∈ n'.flows, ∃ p0 ∈ n.flows, p = sfl k p0 ∧ (okQ p.d = true ∧ Gd 12 108 (val p.d) ∧ 0 ≤ val p.d ∧ 0 ≤ p.d.n) := fun p hm => by
    rw [hf, List.mem_map] at hm
    obtain ⟨p0, hm0, rfl⟩ := hm
    obtain ⟨g1, g2, g3, g4, -⟩ := scq_ok hk (h5 p0 hm0)
    refine ⟨p0, hm0, rfl, g1, g2, g3, ?_⟩
    rw [g4] at g3
    exact Rat.num_nonneg.2 g3
  have FO : ∀ p ∈ n'.flows, flowOk n'.caps.length p = true := fun p hm => by
    obtain ⟨p0, hm0, rfl, g1, g2, g3, g4⟩ := F p hm
    obtain ⟨f1, f2, f3, f4, f5⟩ := flowOk_iff.1 (hp p0 hm0)
    refine flowOk_iff.2 ⟨f1, by rw [hcl]; exact f2, g1, g4, ?_⟩
    rcases f5 with f5 | f5
    · exact .inl f5
    · refine .inr ?_
      have hv : val p0.d = 0 := by unfold val; rw [f5, Rat.zero_mkRat]
      show (cq (val p0.d * (k : Rat))).n = 0
      rw [hv, Rat.zero_mul]
      rfl
  refine ⟨netOk_iff.2 ⟨by omega, by omega, fun c hm => capOk_of ⟨(C c hm).1, (C c hm).2.1, (C c hm).2.2.1⟩ (C c hm).2.2.2, FO⟩,
    ⟨by omega, by omega, fun c hm => ⟨(C c hm).1, (C c hm).2.1, (C c hm).2.2.1⟩, fun p hm => by obtain ⟨p0, hm0, rfl, g1, g2, g3, g4⟩ := F p hm; exact ⟨g1, g2, g3⟩, fun p hm => flow_range (FO p hm)⟩, ?_⟩
  have FG : ∀ i, n'.flows[i]? = (n.flows[i]?).map (sfl k) := fun i => by rw [hf, List.getElem?_map]
  refine ⟨Rat.natCast_pos.2 (by omega), hfl, fun i hi => ?_, fun l hl => ⟨by rw [id, ← hcl]; exact hl, ?_, fun i hi => ?_⟩, fun l hl => ⟨l, by omega, rfl⟩⟩
  · obtain ⟨p, hp9⟩ := get_some hi
    have e := FG i
    rw [hp9, Option.map_some] at e
    unfold Dem
    rw [flo_of hp9, flo_of e]
    exact ⟨rfl, val_cq _⟩
  · have hl0 : l < n.caps.length := by omega
    obtain ⟨c, hc9⟩ := get_some hl0
    rw [id, hc, List.getD_eq_getElem?_getD, List.getD_eq_getElem?_getD, List.getElem?_map, hc9]
    exact val_cq _
  · unfold usesL
    rw [FG i]
    cases n.flows[i]? <;> rfl
/-- A flow's links, with the copy of link l. -/
def tw (l nl : Nat) (ls : List Int) : List Int := if ls.contains (l : Int) then ls ++ [(nl : Int)] else ls
theorem tw_contains {l nl x : Nat} {ls : List Int} (hx : x < nl) : (tw l nl ls).contains (x : Int) = ls.contains (x : Int) := by
  unfold tw
  split
  · rw [List.contains_eq_any_beq, List.any_append, ← List.contains_eq_any_beq, List.any_cons, List.any_nil]
    rw [beq_false_of_ne (by omega)]
    simp
  · rfl
theorem tw_copy {l nl : Nat} {ls : List Int} (h : ∀ x ∈ ls, 0 ≤ x ∧ x < (nl : Int)) : (tw l nl ls).contains (nl : Int) = ls.contains (l : Int) := by
  unfold tw
  split
  · rename_i hc
    rw [hc, List.contains_iff_mem]
    simp
  · rename_i hc
    rw [Bool.not_eq_true] at hc
    rw [hc, ← Bool.not_eq_true, List.contains_iff_mem]
    intro hm
    have := h _ hm
    omega
structure Twice (n n' : PNet) (l : Nat) : Prop where
  hl : l < n.caps.length
  caps : n'.caps = n.caps ++ [n.caps.getD l ⟨0, 0⟩]
  len : n'.flows.length = n.flows.length
  flow : ∀ (i : Nat) (p : PFlow), n.flows[i]? = some p → ∃ p', n'.flows[i]? = some p' ∧ p'.b = p.b ∧ p'.d = p.d ∧ p'.ls = tw l n.caps.length p.ls
theorem tw_ok {l nl : Nat} {p p' : PFlow} (hl : l < nl) (h : flowOk nl p = true) (h1 : p'.b = p.b) (h2 : p'.d = p.d) (h3 : p'.ls = tw l nl p.ls) : flowOk (nl + 1) p' = true := by
  obtain ⟨f1, f2, f3, f4, f5⟩ := flowOk_iff.1 h
  have hr := (flow_range h).2
  have old : ∀ i, i < p.ls.length → linkOk (nl + 1) (p.ls.take i) (p.ls.getD i 0) = true := fun i hi => by
    obtain ⟨g1, g2, g3⟩ := linkOk_iff.1 (f2 i hi)
    exact linkOk_iff.2 ⟨g1, by omega, g3⟩
  refine flowOk_iff.2 ⟨?_, fun i hi => ?_, by rw [h2]; exact f3, by rw [h2]; exact f4, by rw [h1, h2]; exact f5⟩
  · rw [h3]; unfold tw; split
    · rw [List.length_append]; omega
    · exact f1
  · rw [h3] at hi ⊢
    unfold tw at hi ⊢
    split at hi
    · rename_i hc
      rw [if_pos hc]
      rw [List.length_append, List.length_singleton] at hi
      by_cases hi2 : i < p.ls.length
      · rw [List.take_append_of_le_length (by omega), List.getD_eq_getElem?_getD, List.getElem?_append_left hi2, ← List.getD_eq_getElem?_getD]
        exact old i hi2
      · obtain rfl : i = p.ls.length := by omega
        rw [List.take_left, List.getD_eq_getElem?_getD, List.getElem?_append_right (by omega), Nat.sub_self]
        refine linkOk_iff.2 ⟨?_, ?_, ?_⟩
        · show (0 : Int) ≤ (nl : Int); omega
        · show (nl : Int) < ((nl + 1 : Nat) : Int); omega
        · show p.ls.contains (nl : Int) = false
          rw [← Bool.not_eq_true, List.contains_iff_mem]
          intro hm
          have := hr _ hm
          omega
    · rename_i hc
      rw [if_neg hc]
      exact old i hi
theorem twice_net {n n' : PNet} {l : Nat} (h : modB n = true) (ht : Twice n n' l) : netOk n' = true ∧ NetOk n' ∧ Sim n n' 1 (fun x => if x = n.caps.length then l else x) := by
  obtain ⟨h1, h2, h3, h4, h5⟩ := mod_ok h
  obtain ⟨-, -, hcap, hp⟩ := netOk_iff.1 h1
  have hl := ht.hl
  have hcl : n'.caps.length = n.caps.length + 1 := by rw [ht.caps, List.length_append]; rfl
  have C : ∀ c ∈ n'.caps, c ∈ n.caps := fun c hm => by
    rw [ht.caps, List.mem_append, List.mem_singleton] at hm
    rcases hm with hm | rfl
    · exact hm
    · rw [List.getD_eq_getElem?_getD, List.getElem?_eq_getElem hl]; exact List.getElem_mem hl
  have F : ∀ p' ∈ n'.flows, ∃ p ∈ n.flows, p'.b = p.b ∧ p'.d = p.d ∧ p'.ls = tw l n.caps.length p.ls := fun p' hm => by
    obtain ⟨i, hi⟩ := List.getElem?_of_mem hm
    have hlt : i < n.flows.length := by rw [← ht.len]; exact (List.getElem?_eq_some_iff.1 hi).1
    obtain ⟨p, hp9⟩ := get_some hlt
    obtain ⟨q, hq, e⟩ := ht.flow i p hp9
    rw [hi] at hq
    injection hq with hq
    subst hq
    exact ⟨p, List.mem_of_getElem? hp9, e⟩
  have FO : ∀ p ∈ n'.flows, flowOk n'.caps.length p = true := fun p' hm => by
    obtain ⟨p, hm0, e1, e2, e3⟩ := F p' hm
    rw [hcl]
    exact tw_ok hl (hp p hm0) e1 e2 e3
  have hfl := ht.len
  refine ⟨netOk_iff.2 ⟨by omega, by omega, fun c hm => hcap c (C c hm), FO⟩, ⟨by omega, by omega, fun c hm => ⟨(h4 c (C c hm)).1, (h4 c (C c hm)).2.1.wide (by omega), (h4 c (C c hm)).2.2⟩, fun p' hm => ?_, fun p hm => flow_range (FO p hm)⟩, ?_⟩
  · obtain ⟨p, hm0, e1, e2, e3⟩ := F p' hm
    rw [e2]
    exact ⟨(h5 p hm0).1, (h5 p hm0).2.1.wide (by omega), (h5 p hm0).2.2⟩
  · have US : ∀ (i x : Nat), i < n.flows.length → x < n.caps.length + 1 → usesL n'.flows i x = usesL n.flows i (if x = n.caps.length then l else x) := fun i x hi hx => by
      obtain ⟨p, hp9⟩ := get_some hi
      obtain ⟨p', hp', e1, e2, e3⟩ := ht.flow i p hp9
      rw [uses_of hp9, uses_of hp', e3]
      have hr := (flow_range (hp p (List.mem_of_getElem? hp9))).2
      by_cases e : x = n.caps.length
      · rw [if_pos e, e]; exact tw_copy hr
      · rw [if_neg e]; exact tw_contains (by omega)
    refine ⟨by decide, hfl, fun i hi => ?_, fun x hx => ⟨?_, ?_, fun i hi => US i x hi (by omega)⟩, fun x hx => ⟨x, by omega, if_neg (by omega)⟩⟩
    · obtain ⟨p, hp9⟩ := get_some hi
      obtain ⟨p', hp', e1, e2, e3⟩ := ht.flow i p hp9
      unfold Dem
      rw [flo_of hp9, flo_of hp', e1, e2, Rat.mul_one]
      exact ⟨rfl, rfl⟩
    · show (if x = n.caps.length then l else x) < n.caps.length
      split
      · exact hl
      · omega
    · show val (n'.caps.getD x ⟨0, 0⟩) = val (n.caps.getD (if x = n.caps.length then l else x) ⟨0, 0⟩) * 1
      rw [Rat.mul_one, ht.caps]
      by_cases e : x = n.caps.length
      · rw [if_pos e, List.getD_eq_getElem?_getD, List.getElem?_append_right (by omega), e, Nat.sub_self]
        rfl
      · rw [if_neg e, List.getD_eq_getElem?_getD, List.getElem?_append_left (by omega), ← List.getD_eq_getElem?_getD]
theorem less_net {n n' : PNet} {q : Nat} (h : modB n = true) (hq : q < n.flows.length) (hc : n'.caps = n.caps) (hf : n'.flows = n.flows.eraseIdx q) : netOk n' = true ∧ NetOk n' ∧ Less n n' q := by
  obtain ⟨h1, h2, h3, h4, h5⟩ := mod_ok h
  obtain ⟨-, -, hcap, hp⟩ := netOk_iff.1 h1
  have hle : n'.flows.length + 1 = n.flows.length := by rw [hf, List.length_eraseIdx, if_pos hq]; omega
  have M : ∀ p ∈ n'.flows, p ∈ n.flows := fun p hm => by rw [hf] at hm; exact List.mem_of_mem_eraseIdx hm
  refine ⟨netOk_iff.2 ⟨by rw [hc]; omega, by omega, by rw [hc]; exact hcap, fun p hm => by rw [hc]; exact hp p (M p hm)⟩, ⟨by rw [hc]; omega, by omega, fun c hm => ?_, fun p hm => ?_, fun p hm => ?_⟩, ⟨hq, hc, hle, fun i hi => ?_⟩⟩
  · rw [hc] at hm
    exact ⟨(h4 c hm).1, (h4 c hm).2.1.wide (by omega), (h4 c hm).2.2⟩
  · exact ⟨(h5 p (M p hm)).1, (h5 p (M p hm)).2.1.wide (by omega), (h5 p (M p hm)).2.2⟩
  · rw [hc]; exact flow_range (hp p (M p hm))
  · rw [hf, List.getElem?_eraseIdx]
    split <;> rfl
/-- A valid flow's links are no more than the net's. -/
theorem links_few {nl : Nat} {p : PFlow} (h : flowOk nl p = true) : p.ls.length ≤ nl := by
  obtain ⟨-, h2, -⟩ := flowOk_iff.1 h
  have hr := (flow_range h).2
  have hnd : (p.ls.map Int.toNat).Nodup := by
    rw [List.nodup_iff_pairwise_ne, List.pairwise_iff_getElem]
    intro i j hi hj hij he
    rw [List.length_map] at hi hj
    rw [List.getElem_map, List.getElem_map] at he
    have g := (linkOk_iff.1 (h2 j hj)).2.2
    rw [List.getD_eq_getElem?_getD, List.getElem?_eq_getElem hj, Option.getD_some, ← Bool.not_eq_true, List.contains_iff_mem] at g
    apply g
    have h3 := hr _ (List.getElem_mem hi)
    have h4 := hr _ (List.getElem_mem hj)
    have e : p.ls[j] = p.ls[i] := by omega
    rw [e, List.mem_take_iff_getElem]
    exact ⟨i, by omega, rfl⟩
  have hsub : (p.ls.map Int.toNat) ⊆ List.range nl := fun x hx => by
    obtain ⟨y, hy, rfl⟩ := List.mem_map.1 hx
    have := hr y hy
    exact List.mem_range.2 (by omega)
  have := List.Nodup.length_le_of_subset hnd hsub
  rw [List.length_map, List.length_range] at this
  exact this
end Go.Proofs.Ytjalegdfofogcaa
