/- For all votes the statement ElectionOrder returns true: being better is a strict total order of votes. No condition. -/
import Derived.Test.YtckigonkcjceeaaEBase
namespace Go.Proofs.Ytckigonkcjceeaa
open Go.ChangeShapes Go.WideShapes Go.ChangeAt Go.RowKit
set_option linter.unusedVariables false
set_option linter.unusedSimpArgs false
theorem better_irr (a : Vt) : betterB a a = false := by simp [betterB]
theorem better_tot {a b : Vt} (h : a ≠ b) : betterB a b = !betterB b a := by
  obtain ⟨a1, a2, a3⟩ := a
  obtain ⟨b1, b2, b3⟩ := b
  unfold betterB
  by_cases h1 : a1 = b1
  · by_cases h2 : a2 = b2
    · have h3 : a3 ≠ b3 := fun h3 => h (by rw [h1, h2, h3])
      simp only [h1, h2, if_true]
      by_cases h4 : a3 < b3
      · rw [decide_eq_true h4, decide_eq_false (by omega)]; rfl
      · rw [decide_eq_false h4, decide_eq_true (by omega)]; rfl
    · have h2' : ¬ b2 = a2 := fun e => h2 e.symm
      simp only [h1, if_true, if_neg h2, if_neg h2']
      by_cases h4 : a2 < b2
      · rw [decide_eq_true h4, decide_eq_false (by omega)]; rfl
      · rw [decide_eq_false h4, decide_eq_true (by omega)]; rfl
  · have h1' : ¬ b1 = a1 := fun e => h1 e.symm
    simp only [if_neg h1, if_neg h1']
    by_cases h4 : a1 < b1
    · rw [decide_eq_true h4, decide_eq_false (by omega)]; rfl
    · rw [decide_eq_false h4, decide_eq_true (by omega)]; rfl
theorem better_lt {a b : Vt} : betterB a b = true ↔ a.root < b.root ∨ a.root = b.root ∧ (a.dist < b.dist ∨ a.dist = b.dist ∧ a.port < b.port) := by
  unfold betterB
  split
  · split
    · simp; omega
    · simp; omega
  · simp; omega
theorem better_trans {a b c : Vt} (h1 : betterB a b = true) (h2 : betterB b c = true) : betterB a c = true := by
  rw [better_lt] at *; omega
set_option maxRecDepth 100000 in
set_option maxHeartbeats 8000000 in
theorem order_walk (a b c : Vt) (w : World) :
    Calls Try.prog 3 #[.agg #[.int .i64 a.root, .int .i64 a.dist, .int .i64 a.port], .agg #[.int .i64 b.root, .int .i64 b.dist, .int .i64 b.port], .agg #[.int .i64 c.root, .int .i64 c.dist, .int .i64 c.port]] w fun e w' => e = .returned (.bool true) ∧ Below w.heap.size w w' := by
  have heq := fun w => neqVtP w a.root a.dist a.port b.root b.dist b.port
  rw [show vB a.root a.dist a.port b.root b.dist b.port = decide (a = b) from vB_vt a b] at heq
  have HBA := Kept.mk (((Blk.new w 23 (va a)).alloc (.cells (va b) 23)).alloc (.cells (va c) 23))
  have HBB := Kept.mk ((Blk.new (w.alloc (.cells (va a) 23)) 23 (va b)).alloc (.cells (va c) 23))
  have HBC := Kept.mk (Blk.new ((w.alloc (.cells (va a) 23)).alloc (.cells (va b) 23)) 23 (va c))
  simp only [World.size_alloc] at HBA HBB HBC
  obtain ⟨x, hx⟩ : ∃ x, betterB a b = x := ⟨_, rfl⟩
  obtain ⟨y, hy⟩ : ∃ y, betterB b a = y := ⟨_, rfl⟩
  have HX := Kept.mk hx
  have HY := Kept.mk hy
  have tok1 : True := trivial
  have tok2 : True := trivial
  go_enter Try.func3, Try.ntmps3
  go_wp2_with (go_at_call 11; refine (awake_c _).mono ?_; rintro e w1 ⟨rfl, hb1⟩; have HA1 := Kept.mk (HBA.out.new_ hb1); have HB1 := Kept.mk (HBB.out.new_ hb1); have HC1 := Kept.mk (HBC.out.new_ hb1); have HD1 := Kept.mk (join (w := w) (by go_grown) hb1); clear hb1)
  go_region_held3 (fun w' => w'.cell? ⟨w.heap.size, 0, none⟩ = some (.int .i64 a.root) ∧ w'.cell? ⟨w.heap.size, 1, none⟩ = some (.int .i64 a.dist) ∧ w'.cell? ⟨w.heap.size, 2, none⟩ = some (.int .i64 a.port) ∧ w'.cell? ⟨w.heap.size + 1, 0, none⟩ = some (.int .i64 b.root) ∧ w'.cell? ⟨w.heap.size + 1, 1, none⟩ = some (.int .i64 b.dist) ∧ w'.cell? ⟨w.heap.size + 1, 2, none⟩ = some (.int .i64 b.port) ∧ w'.cell? ⟨w.heap.size + 1 + 1, 0, none⟩ = some (.int .i64 c.root) ∧ w'.cell? ⟨w.heap.size + 1 + 1, 1, none⟩ = some (.int .i64 c.dist) ∧ w'.cell? ⟨w.heap.size + 1 + 1, 2, none⟩ = some (.int .i64 c.port)) (first | exact ⟨HA1.out.cell 0 rfl, HA1.out.cell 1 rfl, HA1.out.cell 2 rfl, HB1.out.cell 0 rfl, HB1.out.cell 1 rfl, HB1.out.cell 2 rfl, HC1.out.cell 0 rfl, HC1.out.cell 1 rfl, HC1.out.cell 2 rfl⟩ | exact ⟨HA2.out.cell 0 rfl, HA2.out.cell 1 rfl, HA2.out.cell 2 rfl, HB2.out.cell 0 rfl, HB2.out.cell 1 rfl, HB2.out.cell 2 rfl, HC2.out.cell 0 rfl, HC2.out.cell 1 rfl, HC2.out.cell 2 rfl⟩ | exact ⟨HA3.out.cell 0 rfl, HA3.out.cell 1 rfl, HA3.out.cell 2 rfl, HB3.out.cell 0 rfl, HB3.out.cell 1 rfl, HB3.out.cell 2 rfl, HC3.out.cell 0 rfl, HC3.out.cell 1 rfl, HC3.out.cell 2 rfl⟩) (first | (go_at_call 12; have _t := tok1; refine (better_c a b _).mono ?_; rintro e w2 ⟨rfl, hb2⟩; rw [HX.out]; have HA2 := Kept.mk (HA1.out.drew.new_ hb2); have HB2 := Kept.mk (HB1.out.drew.new_ hb2); have HC2 := Kept.mk (HC1.out.drew.new_ hb2); have HD2 := Kept.mk (join (bdrew HD1.out) hb2); clear tok1 _t hb2) | (go_at_call 12; have _t := tok2; refine (better_c b a _).mono ?_; rintro e w3 ⟨rfl, hb3⟩; rw [HY.out]; have HA3 := Kept.mk (HA2.out.new_ hb3); have HB3 := Kept.mk (HB2.out.new_ hb3); have HC3 := Kept.mk (HC2.out.new_ hb3); have HD3 := Kept.mk (join HD2.out hb3); clear tok2 _t hb3))
  have ka0 := HA3.out.cell 0 (v := .int .i64 a.root) rfl
  have ka1 := HA3.out.cell 1 (v := .int .i64 a.dist) rfl
  have ka2 := HA3.out.cell 2 (v := .int .i64 a.port) rfl
  have kb0 := HB3.out.cell 0 (v := .int .i64 b.root) rfl
  have kb1 := HB3.out.cell 1 (v := .int .i64 b.dist) rfl
  have kb2 := HB3.out.cell 2 (v := .int .i64 b.port) rfl
  have kc0 := HC3.out.cell 0 (v := .int .i64 c.root) rfl
  have kc1 := HC3.out.cell 1 (v := .int .i64 c.dist) rfl
  have kc2 := HC3.out.cell 2 (v := .int .i64 c.port) rfl
  have z3 := HC3.out.lt
  have tok3 : True := trivial
  have tok4 : True := trivial
  have tok5 : True := trivial
  by_cases hab : a = b
  · obtain rfl : x = false := by rw [← hx, hab, better_irr]
    obtain rfl : y = false := by rw [← hy, hab, better_irr]
    have heq2 : ∀ w, (binOp .neq 23 (.agg #[.int .i64 a.root, .int .i64 a.dist, .int .i64 a.port]) (.agg #[.int .i64 b.root, .int .i64 b.dist, .int .i64 b.port])).run Try.prog w = .ok (.bool false) w := fun w => (heq w).trans (by rw [decide_eq_true hab]; rfl)
    clear heq hx hy hab
    go_wp2_with (go_at_call 13; have _t := tok5; refine (refBetter_c a b _).mono ?_; rintro e w4 ⟨rfl, hb4⟩; rw [HX.out]; have HA4 := Kept.mk (HA3.out.new_ hb4); have HB4 := Kept.mk (HB3.out.new_ hb4); have HC4 := Kept.mk (HC3.out.new_ hb4); have HD4 := Kept.mk (join HD3.out hb4); clear tok5 _t hb4 ka0 ka1 ka2 kb0 kb1 kb2 kc0 kc1 kc2 z3; have ka0 := HA4.out.cell 0 (v := .int .i64 a.root) rfl; have ka1 := HA4.out.cell 1 (v := .int .i64 a.dist) rfl; have ka2 := HA4.out.cell 2 (v := .int .i64 a.port) rfl; have kb0 := HB4.out.cell 0 (v := .int .i64 b.root) rfl; have kb1 := HB4.out.cell 1 (v := .int .i64 b.dist) rfl; have kb2 := HB4.out.cell 2 (v := .int .i64 b.port) rfl; have kc0 := HC4.out.cell 0 (v := .int .i64 c.root) rfl; have kc1 := HC4.out.cell 1 (v := .int .i64 c.dist) rfl; have kc2 := HC4.out.cell 2 (v := .int .i64 c.port) rfl; have z4 := HC4.out.lt)
    go_ret
    exact ⟨rfl, HD4.out⟩
  · have heq2 : ∀ w, (binOp .neq 23 (.agg #[.int .i64 a.root, .int .i64 a.dist, .int .i64 a.port]) (.agg #[.int .i64 b.root, .int .i64 b.dist, .int .i64 b.port])).run Try.prog w = .ok (.bool true) w := fun w => (heq w).trans (by rw [decide_eq_false hab]; rfl)
    have hxy : x = !y := by rw [← hx, ← hy]; exact better_tot hab
    cases hyv : y
    · subst hyv
      obtain rfl : x = true := hxy
      cases hz : betterB b c with
      | true =>
        have HZ := Kept.mk hz
        have HT := Kept.mk (better_trans hx hz)
        clear heq hx hy hab hz
        go_wp2_with (first | (go_at_call 12; have _t := tok3; refine (better_c b c _).mono ?_; rintro e w4 ⟨rfl, hb4⟩; rw [HZ.out]; have HA4 := Kept.mk (HA3.out.new_ hb4); have HB4 := Kept.mk (HB3.out.new_ hb4); have HC4 := Kept.mk (HC3.out.new_ hb4); have HD4 := Kept.mk (join HD3.out hb4); clear tok3 _t hb4 ka0 ka1 ka2 kb0 kb1 kb2 kc0 kc1 kc2 z3; have ka0 := HA4.out.cell 0 (v := .int .i64 a.root) rfl; have ka1 := HA4.out.cell 1 (v := .int .i64 a.dist) rfl; have ka2 := HA4.out.cell 2 (v := .int .i64 a.port) rfl; have kb0 := HB4.out.cell 0 (v := .int .i64 b.root) rfl; have kb1 := HB4.out.cell 1 (v := .int .i64 b.dist) rfl; have kb2 := HB4.out.cell 2 (v := .int .i64 b.port) rfl; have kc0 := HC4.out.cell 0 (v := .int .i64 c.root) rfl; have kc1 := HC4.out.cell 1 (v := .int .i64 c.dist) rfl; have kc2 := HC4.out.cell 2 (v := .int .i64 c.port) rfl; have z4 := HC4.out.lt) | (go_at_call 12; have _t := tok4; refine (better_c a c _).mono ?_; rintro e w5 ⟨rfl, hb5⟩; rw [HT.out]; have HA5 := Kept.mk (HA4.out.new_ hb5); have HB5 := Kept.mk (HB4.out.new_ hb5); have HC5 := Kept.mk (HC4.out.new_ hb5); have HD5 := Kept.mk (join HD4.out hb5); clear tok4 _t hb5 ka0 ka1 ka2 kb0 kb1 kb2 kc0 kc1 kc2 z4; have ka0 := HA5.out.cell 0 (v := .int .i64 a.root) rfl; have ka1 := HA5.out.cell 1 (v := .int .i64 a.dist) rfl; have ka2 := HA5.out.cell 2 (v := .int .i64 a.port) rfl; have kb0 := HB5.out.cell 0 (v := .int .i64 b.root) rfl; have kb1 := HB5.out.cell 1 (v := .int .i64 b.dist) rfl; have kb2 := HB5.out.cell 2 (v := .int .i64 b.port) rfl; have kc0 := HC5.out.cell 0 (v := .int .i64 c.root) rfl; have kc1 := HC5.out.cell 1 (v := .int .i64 c.dist) rfl; have kc2 := HC5.out.cell 2 (v := .int .i64 c.port) rfl; have z5 := HC5.out.lt) | (go_at_call 13; have _t := tok5; refine (refBetter_c a b _).mono ?_; rintro e w6 ⟨rfl, hb6⟩; rw [HX.out]; have HA6 := Kept.mk (HA5.out.new_ hb6); have HB6 := Kept.mk (HB5.out.new_ hb6); have HC6 := Kept.mk (HC5.out.new_ hb6); have HD6 := Kept.mk (join HD5.out hb6); clear tok5 _t hb6 ka0 ka1 ka2 kb0 kb1 kb2 kc0 kc1 kc2 z5; have ka0 := HA6.out.cell 0 (v := .int .i64 a.root) rfl; have ka1 := HA6.out.cell 1 (v := .int .i64 a.dist) rfl; have ka2 := HA6.out.cell 2 (v := .int .i64 a.port) rfl; have kb0 := HB6.out.cell 0 (v := .int .i64 b.root) rfl; have kb1 := HB6.out.cell 1 (v := .int .i64 b.dist) rfl; have kb2 := HB6.out.cell 2 (v := .int .i64 b.port) rfl; have kc0 := HC6.out.cell 0 (v := .int .i64 c.root) rfl; have kc1 := HC6.out.cell 1 (v := .int .i64 c.dist) rfl; have kc2 := HC6.out.cell 2 (v := .int .i64 c.port) rfl; have z6 := HC6.out.lt))
        go_ret
        exact ⟨rfl, HD6.out⟩
      | false =>
        have HZ := Kept.mk hz
        clear heq hx hy hab hz
        go_wp2_with (first | (go_at_call 12; have _t := tok3; refine (better_c b c _).mono ?_; rintro e w4 ⟨rfl, hb4⟩; rw [HZ.out]; have HA4 := Kept.mk (HA3.out.new_ hb4); have HB4 := Kept.mk (HB3.out.new_ hb4); have HC4 := Kept.mk (HC3.out.new_ hb4); have HD4 := Kept.mk (join HD3.out hb4); clear tok3 _t hb4 ka0 ka1 ka2 kb0 kb1 kb2 kc0 kc1 kc2 z3; have ka0 := HA4.out.cell 0 (v := .int .i64 a.root) rfl; have ka1 := HA4.out.cell 1 (v := .int .i64 a.dist) rfl; have ka2 := HA4.out.cell 2 (v := .int .i64 a.port) rfl; have kb0 := HB4.out.cell 0 (v := .int .i64 b.root) rfl; have kb1 := HB4.out.cell 1 (v := .int .i64 b.dist) rfl; have kb2 := HB4.out.cell 2 (v := .int .i64 b.port) rfl; have kc0 := HC4.out.cell 0 (v := .int .i64 c.root) rfl; have kc1 := HC4.out.cell 1 (v := .int .i64 c.dist) rfl; have kc2 := HC4.out.cell 2 (v := .int .i64 c.port) rfl; have z4 := HC4.out.lt) | (go_at_call 13; have _t := tok5; refine (refBetter_c a b _).mono ?_; rintro e w5 ⟨rfl, hb5⟩; rw [HX.out]; have HA5 := Kept.mk (HA4.out.new_ hb5); have HB5 := Kept.mk (HB4.out.new_ hb5); have HC5 := Kept.mk (HC4.out.new_ hb5); have HD5 := Kept.mk (join HD4.out hb5); clear tok5 _t hb5 ka0 ka1 ka2 kb0 kb1 kb2 kc0 kc1 kc2 z4; have ka0 := HA5.out.cell 0 (v := .int .i64 a.root) rfl; have ka1 := HA5.out.cell 1 (v := .int .i64 a.dist) rfl; have ka2 := HA5.out.cell 2 (v := .int .i64 a.port) rfl; have kb0 := HB5.out.cell 0 (v := .int .i64 b.root) rfl; have kb1 := HB5.out.cell 1 (v := .int .i64 b.dist) rfl; have kb2 := HB5.out.cell 2 (v := .int .i64 b.port) rfl; have kc0 := HC5.out.cell 0 (v := .int .i64 c.root) rfl; have kc1 := HC5.out.cell 1 (v := .int .i64 c.dist) rfl; have kc2 := HC5.out.cell 2 (v := .int .i64 c.port) rfl; have z5 := HC5.out.lt))
        go_ret
        exact ⟨rfl, HD5.out⟩
    · subst hyv
      obtain rfl : x = false := hxy
      clear heq hx hy hab
      go_wp2_with (go_at_call 13; have _t := tok5; refine (refBetter_c a b _).mono ?_; rintro e w4 ⟨rfl, hb4⟩; rw [HX.out]; have HA4 := Kept.mk (HA3.out.new_ hb4); have HB4 := Kept.mk (HB3.out.new_ hb4); have HC4 := Kept.mk (HC3.out.new_ hb4); have HD4 := Kept.mk (join HD3.out hb4); clear tok5 _t hb4 ka0 ka1 ka2 kb0 kb1 kb2 kc0 kc1 kc2 z3; have ka0 := HA4.out.cell 0 (v := .int .i64 a.root) rfl; have ka1 := HA4.out.cell 1 (v := .int .i64 a.dist) rfl; have ka2 := HA4.out.cell 2 (v := .int .i64 a.port) rfl; have kb0 := HB4.out.cell 0 (v := .int .i64 b.root) rfl; have kb1 := HB4.out.cell 1 (v := .int .i64 b.dist) rfl; have kb2 := HB4.out.cell 2 (v := .int .i64 b.port) rfl; have kc0 := HC4.out.cell 0 (v := .int .i64 c.root) rfl; have kc1 := HC4.out.cell 1 (v := .int .i64 c.dist) rfl; have kc2 := HC4.out.cell 2 (v := .int .i64 c.port) rfl; have z4 := HC4.out.lt)
      go_ret
      exact ⟨rfl, HD4.out⟩
theorem walkElectionOrder (a1 a2 a3 b1 b2 b3 c1 c2 c3 : Int) (w : World) (_ : (Lit.int .i64 a1).wf = true) (_ : (Lit.int .i64 a2).wf = true) (_ : (Lit.int .i64 a3).wf = true) (_ : (Lit.int .i64 b1).wf = true) (_ : (Lit.int .i64 b2).wf = true) (_ : (Lit.int .i64 b3).wf = true) (_ : (Lit.int .i64 c1).wf = true) (_ : (Lit.int .i64 c2).wf = true) (_ : (Lit.int .i64 c3).wf = true) :
    Calls Try.prog 3 #[.agg #[.int .i64 a1, .int .i64 a2, .int .i64 a3], .agg #[.int .i64 b1, .int .i64 b2, .int .i64 b3], .agg #[.int .i64 c1, .int .i64 c2, .int .i64 c3]] w fun e w' => e = .returned (.bool true) ∧ Below w.heap.size w w' :=
  order_walk ⟨a1, a2, a3⟩ ⟨b1, b2, b3⟩ ⟨c1, c2, c3⟩ w

set_option maxRecDepth 100000 in
theorem liftedElectionOrder (os : Os) (started : os.Started) (H : Type) (enc : TypeId × Value → H) :
    ReturnsInHanded {} Try.checked os 3 .any (Rows.electionOrderSpec.pre6 enc Try.prog Try.f3 Rows.electionOrderRow.domain false) (Rows.electionOrderSpec.post enc Try.prog Try.f3 false true false false) := by
  refine returnsInHanded_of_change (C := Try.checked) own started (by kernel_rfl) Try.func3
    (ChangeSpec.witness6 (enc := enc) (C := Try.checked) false ⟨#[], #[.agg #[.int .i64 0, .int .i64 0, .int .i64 0], .agg #[.int .i64 0, .int .i64 0, .int .i64 0], .agg #[.int .i64 0, .int .i64 0, .int .i64 0]], []⟩ 8 (by kernel_rfl) (by kernel_rfl) (by kernel_rfl) (by kernel_rfl)) ?_
  intro W base args ds gs before hval0 hW hcnd _
  have hval : ∀ (j : Nat) t v, Try.f3.params[j]? = some t → args[j]? = some v → Value.okWide Try.prog W .any base t v := hval0
  have hW' := hW
  obtain ⟨p, q, hA0, hV, rfl, hfz, hnd⟩ := hW
  have hA : DataW.TrodAll enc Try.prog W 0 (fun _ => true) true Try.f3.params.toList args.toList ds p := hA0
  rw [Try.params3] at hA hval
  obtain ⟨v0, vs0, d0, ds0, p0, q0, hargs, rfl, rfl, h0, r0⟩ := trodAll_cons hA
  obtain ⟨v1, vs1, d1, ds1, p1, q1, rfl, rfl, rfl, h1, r1⟩ := trodAll_cons r0
  obtain ⟨v2, vs2, d2, ds2, p2, q2, rfl, rfl, rfl, h2, r2⟩ := trodAll_cons r1
  obtain ⟨rfl, rfl, rfl⟩ := trodAll_nil r2
  obtain rfl : args = #[v0, v1, v2] := by cases args; simp_all
  obtain ⟨rfl, rfl⟩ := trodVars_none hV
  have k0 := h0
  have lt0 : ∀ x ∈ p0, x.block < W.heap.size := by obtain ⟨m, hm⟩ := k0; exact DataW.trod_lt m _ _ _ hm
  have k1 := h1
  have lt1 : ∀ x ∈ p1, x.block < W.heap.size := by obtain ⟨m, hm⟩ := k1; exact DataW.trod_lt m _ _ _ hm
  have k2 := h2
  have lt2 : ∀ x ∈ p2, x.block < W.heap.size := by obtain ⟨m, hm⟩ := k2; exact DataW.trod_lt m _ _ _ hm
  obtain ⟨c0_0, c0_1, c0_2, y0_0, y0_1, y0_2, m0, rfl, -, -, hy0_0, hy0_1, hy0_2⟩ := Joins.open_agg3 Try.underlying23 (by kernel_rfl) (show Try.prog.cellsOf 23 = 3 by kernel_rfl) (hval 0 23 v0 rfl rfl) h0
  obtain ⟨a0_0, e0_0, -, w0_0⟩ := DataW.trod_int Try.underlying3 hy0_0
  simp only [List.cons.injEq, and_true] at e0_0; subst e0_0
  obtain ⟨a0_1, e0_1, -, w0_1⟩ := DataW.trod_int Try.underlying3 hy0_1
  simp only [List.cons.injEq, and_true] at e0_1; subst e0_1
  obtain ⟨a0_2, e0_2, -, w0_2⟩ := DataW.trod_int Try.underlying3 hy0_2
  simp only [List.cons.injEq, and_true] at e0_2; subst e0_2
  obtain ⟨c1_0, c1_1, c1_2, y1_0, y1_1, y1_2, m1, rfl, -, -, hy1_0, hy1_1, hy1_2⟩ := Joins.open_agg3 Try.underlying23 (by kernel_rfl) (show Try.prog.cellsOf 23 = 3 by kernel_rfl) (hval 1 23 v1 rfl rfl) h1
  obtain ⟨a1_0, e1_0, -, w1_0⟩ := DataW.trod_int Try.underlying3 hy1_0
  simp only [List.cons.injEq, and_true] at e1_0; subst e1_0
  obtain ⟨a1_1, e1_1, -, w1_1⟩ := DataW.trod_int Try.underlying3 hy1_1
  simp only [List.cons.injEq, and_true] at e1_1; subst e1_1
  obtain ⟨a1_2, e1_2, -, w1_2⟩ := DataW.trod_int Try.underlying3 hy1_2
  simp only [List.cons.injEq, and_true] at e1_2; subst e1_2
  obtain ⟨c2_0, c2_1, c2_2, y2_0, y2_1, y2_2, m2, rfl, -, -, hy2_0, hy2_1, hy2_2⟩ := Joins.open_agg3 Try.underlying23 (by kernel_rfl) (show Try.prog.cellsOf 23 = 3 by kernel_rfl) (hval 2 23 v2 rfl rfl) h2
  obtain ⟨a2_0, e2_0, -, w2_0⟩ := DataW.trod_int Try.underlying3 hy2_0
  simp only [List.cons.injEq, and_true] at e2_0; subst e2_0
  obtain ⟨a2_1, e2_1, -, w2_1⟩ := DataW.trod_int Try.underlying3 hy2_1
  simp only [List.cons.injEq, and_true] at e2_1; subst e2_1
  obtain ⟨a2_2, e2_2, -, w2_2⟩ := DataW.trod_int Try.underlying3 hy2_2
  simp only [List.cons.injEq, and_true] at e2_2; subst e2_2
  clear hA0 hval0
  refine (walkElectionOrder a0_0 a0_1 a0_2 a1_0 a1_1 a1_2 a2_0 a2_1 a2_2 W w0_0 w0_1 w0_2 w1_0 w1_1 w1_2 w2_0 w2_1 w2_2).mono fun e W' ⟨he, bel⟩ => ?_
  subst he
  exact ⟨_, rfl, _, _, _, [], _, [], hW', trodAll_mk1 (shut_bool Try.underlying4 _), (trodAll_cons_mk (Below.trod laidOut (by kernel_rfl) (of_decide_eq_true (by kernel_rfl)) k0 bel lt0) (trodAll_cons_mk (Below.trod laidOut (by kernel_rfl) (of_decide_eq_true (by kernel_rfl)) k1 bel lt1) (trodAll_cons_mk (Below.trod laidOut (by kernel_rfl) (of_decide_eq_true (by kernel_rfl)) k2 bel lt2) trodAll_mk0))), rfl, bel.frame _, fun h => by cases h⟩
/-- The given statement. -/
theorem electionOrder_holds : Rows.ElectionOrderSaid :=
  OpenClaim.holds_of_wide 3 Try.f3 rfl rfl rfl rfl rfl rfl rfl ⟨rfl, rfl, rfl, rfl, rfl⟩ rfl rfl rfl rfl rfl (by kernel_rfl) Try.func3 (by kernel_rfl)
    (of_decide_eq_true (by kernel_rfl)) (by unfold Func.isWrapper; first | (rw [if_pos (by decide +kernel)]; kernel_rfl) | (rw [if_neg (by decide +kernel)]; exact ⟨rfl, rfl⟩))
    (fun os started H enc _ => liftedElectionOrder os started H enc)
#print axioms electionOrder_holds
end Go.Proofs.Ytckigonkcjceeaa
