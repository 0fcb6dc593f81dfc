/- Rational numbers: Mul. -/
import Derived.Test.YtjalegdfofogcaaRatM
namespace Go.Proofs.Ytjalegdfofogcaa
set_option linter.unusedVariables false
set_option linter.unusedSimpArgs false
open Go.RowKit
/-- What Mul answers: the program's own formulas. -/
def mulR (p q : Rq) : Rq × Int :=
  if p.n = 0 ∨ q.n = 0 then (⟨0, 1⟩, 0)
  else
    (resQ (decide (p.n < 0) != decide (q.n < 0)) false (p.n.natAbs / Nat.gcd p.n.natAbs q.d.toNat * (q.n.natAbs / Nat.gcd q.n.natAbs p.d.toNat)) (p.d.toNat / Nat.gcd q.n.natAbs p.d.toNat * (q.d.toNat / Nat.gcd p.n.natAbs q.d.toNat)),
     resE (p.n.natAbs / Nat.gcd p.n.natAbs q.d.toNat * (q.n.natAbs / Nat.gcd q.n.natAbs p.d.toNat)) (p.d.toNat / Nat.gcd q.n.natAbs p.d.toNat * (q.d.toNat / Nat.gcd p.n.natAbs q.d.toNat)))
set_option maxRecDepth 100000 in
set_option maxHeartbeats 4000000 in
theorem times_c (a b : Rq) (w : World) (ha0 : R64 a.n ∧ R64 a.d) (hb0 : R64 b.n ∧ R64 b.d) (hA : okQ a = true) (hB : okQ b = true) : Calls Try.prog 8 #[rqv a, rqv b] w fun e w' => e = .returned (.tuple #[rqv (mulR (normQ a) (normQ b)).1, .int .i64 (mulR (normQ a) (normQ b)).2]) ∧ Below w.heap.size w w' := by
  obtain ⟨a0, a1⟩ := ha0
  obtain ⟨b0, b1⟩ := hb0
  have V1 := fun w => valid_c a w a0.1 a0.2 a1.1 a1.2
  have V2 := fun w => valid_c b w b0.1 b0.2 b1.1 b1.2
  obtain ⟨R, hR⟩ : ∃ R, R = Value.tuple #[rqv (mulR (normQ a) (normQ b)).1, .int .i64 (mulR (normQ a) (normQ b)).2] := ⟨_, rfl⟩
  rw [← hR]
  have HRR := Kept.mk hR
  clear hR
  unfold rqv
  go_enter Try.func8, Try.ntmps8
  go_upto_region 1 with fail
  obtain ⟨X, hX, HX⟩ : ∃ X, X = ((w.alloc (.cells #[.int .i64 a.n, .int .i64 a.d] 32)).alloc (.cells #[.int .i64 b.n, .int .i64 b.d] 32)).alloc (.cells #[.int .i64 0, .int .i64 0] 32) ∧ Kept (A2 w X a b) := ⟨_, rfl, ⟨A2.start w a b⟩⟩
  rw [← hX]
  clear hX
  obtain ⟨⟨k0, k1⟩, m0, m1⟩ := HX.out.cells
  have tok1 : True := trivial
  have HBA := Kept.mk (okQ_bd hA)
  have HBB := Kept.mk (okQ_bd hB)
  go_upto_region 3 with (first | (go_at_call 22; have _t := tok1; refine (V1 _).mono ?_; rintro e w1 ⟨rfl, hb1⟩; rw [hA]; have HX1 := Kept.mk (HX.out.new_ hb1); clear hb1 tok1 _t k0 k1 m0 m1; obtain ⟨⟨k0, k1⟩, m0, m1⟩ := HX1.out.cells; have tok3 : True := trivial) | (go_at_call 22; have _t := tok3; refine (V2 _).mono ?_; rintro e w2 ⟨rfl, hb2⟩; rw [hB]; have HX2 := Kept.mk (HX1.out.new_ hb2); clear hb2 tok3 _t k0 k1 m0 m1; obtain ⟨⟨k0, k1⟩, m0, m1⟩ := HX2.out.cells))
  go_cut [] (fun wx => Kept (A2 w wx (normQ a) (normQ b)))
  case first =>
    refine with_act fun aq haq => ?_
    refine wp_region_inv (fun L az w1z => ∃ (x20 x21 x22 x23 : Value), az = ((((aq.put (some 20) x20).put (some 21) x21).put (some 22) x22).put (some 23) x23) ∧ (A2 w w1z (if L.getD 4 false = true then normQ a else a) (if L.getD 5 false = true then normQ b else b)) ∧ (L.getD 0 false = true → x20 = .agg #[.int .i64 a.n, .int .i64 a.d]) ∧ (L.getD 1 false = true → x21 = .agg #[.int .i64 (normQ a).n, .int .i64 (normQ a).d]) ∧ (L.getD 2 false = true → x22 = .agg #[.int .i64 b.n, .int .i64 b.d]) ∧ (L.getD 3 false = true → x23 = .agg #[.int .i64 (normQ b).n, .int .i64 (normQ b).d]) ∧ (L.getD 4 false = true → ∀ j, j < 4 → L.getD j false = true) ∧ (L.getD 5 false = true → L.getD 4 false = true) ∧ (L.getD 3 false = true → L.getD 2 false = true)) (by kernel_rfl) (by kernel_rfl) ?start ?oper ?done
    case start =>
      refine ⟨aq.tmps.getD 20 undef, aq.tmps.getD 21 undef, aq.tmps.getD 22 undef, aq.tmps.getD 23 undef, by subst haq; simp only [Act.put, List.setIfInBounds_toArray, List.set_cons_zero, List.set_cons_succ, Array.getD_eq_getD_getElem?, List.getElem?_toArray, List.getElem?_cons_zero, List.getElem?_cons_succ, Option.getD_some], by rw [show (Array.replicate _ false).getD 4 false = false from rfl]; exact HX2.out.new_ (dN (Below.refl w2.heap.size w2) 1), none_yet, none_yet, none_yet, none_yet, none_yet, none_yet, none_yet⟩
    case oper =>
      intro L az w1z i hI hr
      obtain ⟨x20, x21, x22, x23, rfl, f0, f1, f2, f3, f4, f5, f6, f7⟩ := hI
      subst haq
      have hi : i < 6 := ready_lt hr
      have hcase : i = 0 ∨ i = 1 ∨ i = 2 ∨ i = 3 ∨ i = 4 ∨ i = 5 := by omega
      clear hi
      rcases hcase with rfl | rfl | rfl | rfl | rfl | rfl
      · have h4 : L.getD 4 false = false := by
          cases hh : L.getD 4 false with
          | false => rfl
          | true => exact absurd (f5 hh 0 (by omega)) (by rw [ready_not hr]; decide)
        have h5 : L.getD 5 false = false := by
          cases hh : L.getD 5 false with
          | false => rfl
          | true => exact absurd (f6 hh) (by rw [h4]; decide)
        rw [h4, h5] at f0
        obtain ⟨⟨k0, k1⟩, m0, m1⟩ := f0.cells
        refine inv_op rfl (fun K hK => ?_)
        try simp only [Act.put, List.setIfInBounds_toArray, List.set_cons_zero, List.set_cons_succ]
        go_simp
        refine hK.out _ _ ⟨.agg #[.int .i64 a.n, .int .i64 a.d], x21, x22, x23, (by simp only [Act.put, List.setIfInBounds_toArray, List.set_cons_zero, List.set_cons_succ]), (by rw [set_other (by decide), set_other (by decide), h4, h5]; exact f0), (fun _ => rfl), (fun h => by first | exact f2 (by rwa [set_other (by decide)] at h) | (rw [set_other (by decide)] at h ⊢; exact f2 h)), (fun h => by first | exact f3 (by rwa [set_other (by decide)] at h) | (rw [set_other (by decide)] at h ⊢; exact f3 h)), (fun h => by first | exact f4 (by rwa [set_other (by decide)] at h) | (rw [set_other (by decide)] at h ⊢; exact f4 h)), (fun h => absurd h (by rw [set_other (by decide), h4]; decide)), (fun h => absurd h (by rw [set_other (by decide), h5]; decide)), (fun h => by first | exact f7 (by rwa [set_other (by decide)] at h) | (rw [set_other (by decide)] at h ⊢; exact f7 h))⟩
      · have h4 : L.getD 4 false = false := by
          cases hh : L.getD 4 false with
          | false => rfl
          | true => exact absurd (f5 hh 1 (by omega)) (by rw [ready_not hr]; decide)
        have h5 : L.getD 5 false = false := by
          cases hh : L.getD 5 false with
          | false => rfl
          | true => exact absurd (f6 hh) (by rw [h4]; decide)
        rw [h4, h5] at f0
        obtain rfl := f1 (ready_dep hr (d := 0) (by kernel_rfl))
        refine inv_op rfl (fun K hK => ?_)
        try simp only [Act.put, List.setIfInBounds_toArray, List.set_cons_zero, List.set_cons_succ]
        go_simp
        refine (normal_c a _).mono ?_
        rintro e w9 ⟨rfl, hb9⟩
        unfold rqv
        try go_wp2_with fail
        refine hK.out _ _ ⟨.agg #[.int .i64 a.n, .int .i64 a.d], .agg #[.int .i64 (normQ a).n, .int .i64 (normQ a).d], x22, x23, (by simp only [Act.put, List.setIfInBounds_toArray, List.set_cons_zero, List.set_cons_succ]), (by rw [set_other (by decide), set_other (by decide), h4, h5]; exact f0.new_ hb9), (fun _ => rfl), (fun _ => rfl), (fun h => by first | exact f3 (by rwa [set_other (by decide)] at h) | (rw [set_other (by decide)] at h ⊢; exact f3 h)), (fun h => by first | exact f4 (by rwa [set_other (by decide)] at h) | (rw [set_other (by decide)] at h ⊢; exact f4 h)), (fun h => absurd h (by rw [set_other (by decide), h4]; decide)), (fun h => absurd h (by rw [set_other (by decide), h5]; decide)), (fun h => by first | exact f7 (by rwa [set_other (by decide)] at h) | (rw [set_other (by decide)] at h ⊢; exact f7 h))⟩
      · have h4 : L.getD 4 false = false := by
          cases hh : L.getD 4 false with
          | false => rfl
          | true => exact absurd (f5 hh 2 (by omega)) (by rw [ready_not hr]; decide)
        have h5 : L.getD 5 false = false := by
          cases hh : L.getD 5 false with
          | false => rfl
          | true => exact absurd (f6 hh) (by rw [h4]; decide)
        rw [h4, h5] at f0
        obtain ⟨⟨k0, k1⟩, m0, m1⟩ := f0.cells
        refine inv_op rfl (fun K hK => ?_)
        try simp only [Act.put, List.setIfInBounds_toArray, List.set_cons_zero, List.set_cons_succ]
        go_simp
        refine hK.out _ _ ⟨x20, x21, .agg #[.int .i64 b.n, .int .i64 b.d], x23, (by simp only [Act.put, List.setIfInBounds_toArray, List.set_cons_zero, List.set_cons_succ]), (by rw [set_other (by decide), set_other (by decide), h4, h5]; exact f0), (fun h => by first | exact f1 (by rwa [set_other (by decide)] at h) | (rw [set_other (by decide)] at h ⊢; exact f1 h)), (fun h => by first | exact f2 (by rwa [set_other (by decide)] at h) | (rw [set_other (by decide)] at h ⊢; exact f2 h)), (fun _ => rfl), (fun h => by first | exact f4 (by rwa [set_other (by decide)] at h) | (rw [set_other (by decide)] at h ⊢; exact f4 h)), (fun h => absurd h (by rw [set_other (by decide), h4]; decide)), (fun h => absurd h (by rw [set_other (by decide), h5]; decide)), (fun _ => set_self hr)⟩
      · have h4 : L.getD 4 false = false := by
          cases hh : L.getD 4 false with
          | false => rfl
          | true => exact absurd (f5 hh 3 (by omega)) (by rw [ready_not hr]; decide)
        have h5 : L.getD 5 false = false := by
          cases hh : L.getD 5 false with
          | false => rfl
          | true => exact absurd (f6 hh) (by rw [h4]; decide)
        rw [h4, h5] at f0
        obtain rfl := f3 (ready_dep hr (d := 2) (by kernel_rfl))
        refine inv_op rfl (fun K hK => ?_)
        try simp only [Act.put, List.setIfInBounds_toArray, List.set_cons_zero, List.set_cons_succ]
        go_simp
        refine (normal_c b _).mono ?_
        rintro e w9 ⟨rfl, hb9⟩
        unfold rqv
        try go_wp2_with fail
        refine hK.out _ _ ⟨x20, x21, .agg #[.int .i64 b.n, .int .i64 b.d], .agg #[.int .i64 (normQ b).n, .int .i64 (normQ b).d], (by simp only [Act.put, List.setIfInBounds_toArray, List.set_cons_zero, List.set_cons_succ]), (by rw [set_other (by decide), set_other (by decide), h4, h5]; exact f0.new_ hb9), (fun h => by first | exact f1 (by rwa [set_other (by decide)] at h) | (rw [set_other (by decide)] at h ⊢; exact f1 h)), (fun h => by first | exact f2 (by rwa [set_other (by decide)] at h) | (rw [set_other (by decide)] at h ⊢; exact f2 h)), (fun _ => rfl), (fun _ => rfl), (fun h => absurd h (by rw [set_other (by decide), h4]; decide)), (fun h => absurd h (by rw [set_other (by decide), h5]; decide)), (fun _ => by rw [set_other (by decide)]; exact ready_dep hr (by kernel_rfl))⟩
      · have h4 := ready_not hr
        have h5 : L.getD 5 false = false := by
          cases hh : L.getD 5 false with
          | false => rfl
          | true => exact absurd (f6 hh) (by rw [h4]; decide)
        rw [h4, h5] at f0
        obtain ⟨⟨k0, k1⟩, m0, m1⟩ := f0.cells
        have q0 := f0.x.free 0
        have q1 := f0.x.free 1
        have lx := f0.x.lt
        obtain rfl := f2 (ready_dep hr (d := 1) (by kernel_rfl))
        have hj0 := ready_dep hr (d := 0) (by kernel_rfl)
        have hj1 := ready_dep hr (d := 1) (by kernel_rfl)
        have hj3 := ready_dep hr (d := 3) (by kernel_rfl)
        have hj2 := f7 hj3
        obtain rfl := f1 hj0
        obtain rfl := f3 hj2
        obtain rfl := f4 hj3
        refine inv_op rfl (fun K hK => ?_)
        try simp only [Act.put, List.setIfInBounds_toArray, List.set_cons_zero, List.set_cons_succ]
        go_simp
        refine hK.out _ _ ⟨.agg #[.int .i64 a.n, .int .i64 a.d], .agg #[.int .i64 (normQ a).n, .int .i64 (normQ a).d], .agg #[.int .i64 b.n, .int .i64 b.d], .agg #[.int .i64 (normQ b).n, .int .i64 (normQ b).d], (by simp only [Act.put, List.setIfInBounds_toArray, List.set_cons_zero, List.set_cons_succ]), (by rw [set_self hr, set_other (by decide), h5]; exact f0.put1), (fun _ => rfl), (fun _ => rfl), (fun _ => rfl), (fun _ => rfl), (fun _ j hj => by rcases (by omega : j = 0 ∨ j = 1 ∨ j = 2 ∨ j = 3) with rfl | rfl | rfl | rfl <;> (rw [set_other (by decide)]; first | exact hj2 | exact hj0 | exact hj1 | exact hj3)), (fun _ => set_self hr), (fun h => by first | exact f7 (by rwa [set_other (by decide)] at h) | (rw [set_other (by decide)] at h ⊢; exact f7 h))⟩
      · have h5 := ready_not hr
        have h4 := ready_dep hr (d := 4) (by kernel_rfl)
        rw [h4, h5] at f0
        obtain ⟨⟨k0, k1⟩, m0, m1⟩ := f0.cells
        have q0 := f0.y.free 0
        have q1 := f0.y.free 1
        have lx := f0.y.lt
        obtain rfl := f4 (ready_dep hr (d := 3) (by kernel_rfl))
        obtain rfl := f1 (f5 h4 0 (by omega))
        obtain rfl := f2 (f5 h4 1 (by omega))
        obtain rfl := f3 (f5 h4 2 (by omega))
        refine inv_op rfl (fun K hK => ?_)
        try simp only [Act.put, List.setIfInBounds_toArray, List.set_cons_zero, List.set_cons_succ]
        go_simp
        refine hK.out _ _ ⟨.agg #[.int .i64 a.n, .int .i64 a.d], .agg #[.int .i64 (normQ a).n, .int .i64 (normQ a).d], .agg #[.int .i64 b.n, .int .i64 b.d], .agg #[.int .i64 (normQ b).n, .int .i64 (normQ b).d], (by simp only [Act.put, List.setIfInBounds_toArray, List.set_cons_zero, List.set_cons_succ]), (by rw [set_self hr, set_other (by decide), h4]; exact f0.put2), (fun _ => rfl), (fun _ => rfl), (fun _ => rfl), (fun _ => rfl), (fun _ j hj => by rw [set_other (by omega)]; exact f5 h4 j hj), (fun _ => by rw [set_other (by decide)]; exact h4), (fun h => by first | exact f7 (by rwa [set_other (by decide)] at h) | (rw [set_other (by decide)] at h ⊢; exact f7 h))⟩
    case done =>
      intro L az w1z hI hall
      obtain ⟨x20, x21, x22, x23, rfl, f0, f1, f2, f3, f4, f5, f6, f7⟩ := hI
      subst haq
      simp only [Act.put, List.setIfInBounds_toArray, List.set_cons_zero, List.set_cons_succ]
      go_wp2_with fail
      go_meet
      have hh4 := hall 4 (by decide)
      have hh5 := hall 5 (by decide)
      rw [hh4, hh5] at f0
      exact ⟨f0⟩
  case rest =>
    replace HX2 := hcut
    clear hcut k0 k1 m0 m1 HX HX1
    obtain ⟨NA, hna⟩ : ∃ NA, NA = normQ a := ⟨_, rfl⟩
    obtain ⟨NB, hnb⟩ : ∃ NB, NB = normQ b := ⟨_, rfl⟩
    rw [← hna, ← hnb] at HX2
    rw [← hna] at HBA
    rw [← hnb] at HBB
    have HNA := Kept.mk hna
    have HNB := Kept.mk hnb
    clear hna hnb
    obtain ⟨⟨k0, k1⟩, m0, m1⟩ := HX2.out.cells
    obtain ⟨n1, n2, n3, n4⟩ := HBA.out
    obtain ⟨p1, p2, p3, p4⟩ := HBB.out
    obtain ⟨NAn, NAd⟩ := NA
    obtain ⟨NBn, NBd⟩ := NB
    dsimp only at k0 k1 m0 m1 n1 n2 n3 n4 p1 p2 p3 p4
    obtain ⟨d1, rfl⟩ : ∃ d : Nat, NAd = d := ⟨NAd.toNat, by omega⟩
    obtain ⟨d2, rfl⟩ : ∃ d : Nat, NBd = d := ⟨NBd.toNat, by omega⟩
    have hd1 : 1 ≤ d1 := by omega
    have hd2 : 1 ≤ d2 := by omega
    have HRQ : Kept (R = Value.tuple #[rqv (mulR ⟨NAn, (d1 : Int)⟩ ⟨NBn, (d2 : Int)⟩).1, .int .i64 (mulR ⟨NAn, (d1 : Int)⟩ ⟨NBn, (d2 : Int)⟩).2]) := ⟨by rw [HRR.out, HNA.out, HNB.out]⟩
    by_cases hz1 : NAn = 0
    · subst hz1
      have HPR : Kept (mulR ⟨0, (d1 : Int)⟩ ⟨NBn, (d2 : Int)⟩ = (⟨0, 1⟩, 0)) := ⟨by unfold mulR; rw [if_pos (Or.inl rfl)]⟩
      go_upto_region 5 with fail
      obtain ⟨U, hU, HU⟩ : ∃ U, U = wc ∧ Kept (A2 w U ⟨0, d1⟩ ⟨NBn, d2⟩) := ⟨_, rfl, ⟨HX2.out⟩⟩
      rw [← hU]
      clear hU k0 k1 m0 m1
      have z0 := HU.out.z.cell 0 (v := .int .i64 0) rfl
      have z1 := HU.out.z.cell 1 (v := .int .i64 0) rfl
      have zf0 := HU.out.z.free 0
      have zf1 := HU.out.z.free 1
      have lz := HU.out.z.lt
      go_wp2_with fail
      obtain ⟨W9, hW9, s0, s1, hb⟩ := HU.out.fin (.int .i64 0) (.int .i64 1)
      rw [← hW9]
      clear hW9
      rw [HRQ.out, HPR.out]
      exact bodyPost_ret (v := .tuple #[.agg #[.int .i64 0, .int .i64 1], .int .i64 0]) (by simp [results, Try.results8, go_sem, s0, s1]) rfl ⟨rfl, hb⟩
    have hzz1 : (NAn == 0) = false := beq_false_of_ne hz1
    by_cases hz2 : NBn = 0
    · subst hz2
      have HPR : Kept (mulR ⟨NAn, (d1 : Int)⟩ ⟨0, (d2 : Int)⟩ = (⟨0, 1⟩, 0)) := ⟨by unfold mulR; rw [if_pos (Or.inr rfl)]⟩
      go_upto_region 5 with fail
      obtain ⟨U, hU, HU⟩ : ∃ U, U = wc ∧ Kept (A2 w U ⟨NAn, d1⟩ ⟨0, d2⟩) := ⟨_, rfl, ⟨HX2.out⟩⟩
      rw [← hU]
      clear hU k0 k1 m0 m1
      have z0 := HU.out.z.cell 0 (v := .int .i64 0) rfl
      have z1 := HU.out.z.cell 1 (v := .int .i64 0) rfl
      have zf0 := HU.out.z.free 0
      have zf1 := HU.out.z.free 1
      have lz := HU.out.z.lt
      go_wp2_with fail
      obtain ⟨W9, hW9, s0, s1, hb⟩ := HU.out.fin (.int .i64 0) (.int .i64 1)
      rw [← hW9]
      clear hW9
      rw [HRQ.out, HPR.out]
      exact bodyPost_ret (v := .tuple #[.agg #[.int .i64 0, .int .i64 1], .int .i64 0]) (by simp [results, Try.results8, go_sem, s0, s1]) rfl ⟨rfl, hb⟩
    have hzz2 : (NBn == 0) = false := beq_false_of_ne hz2
    go_upto_region 6 with fail
    obtain ⟨A1, e1⟩ : ∃ A1, NAn.natAbs = A1 := ⟨_, rfl⟩
    obtain ⟨B1, e2⟩ : ∃ B1, NBn.natAbs = B1 := ⟨_, rfl⟩
    have e3 : (d1 : Int).natAbs = d1 := Int.natAbs_natCast _
    have e4 : (d2 : Int).natAbs = d2 := Int.natAbs_natCast _
    have bA1 : A1 ≤ 1152921504606846976 := by omega
    have bB1 : B1 ≤ 1152921504606846976 := by omega
    obtain ⟨f1, g1⟩ : ∃ f, Nat.gcd A1 d2 = f := ⟨_, rfl⟩
    obtain ⟨f2, g2⟩ : ∃ f, Nat.gcd B1 d1 = f := ⟨_, rfl⟩
    have hf1 : 1 ≤ f1 := by rw [← g1]; exact Nat.gcd_pos_of_pos_right _ (by omega)
    have hf2 : 1 ≤ f2 := by rw [← g2]; exact Nat.gcd_pos_of_pos_right _ (by omega)
    have bf1 : f1 ≤ d2 := by rw [← g1]; exact Nat.gcd_le_right _ (by omega)
    have bf2 : f2 ≤ d1 := by rw [← g2]; exact Nat.gcd_le_right _ (by omega)
    go_quiet (first | (go_at_call 34; exact Calls.quiet_of_same ((size_c _ _ (by omega) (by omega)).mono fun _ _ h => ⟨h.1, h.2.symm⟩)) | (go_at_call 33; exact Calls.quiet_of (gcd_c _ _ _ (by omega) (by omega))))
    go_upto_region 7 with fail
    obtain ⟨Y, hY, HY⟩ : ∃ yy, yy = wc.drewN nq ∧ Kept (A2 w yy ⟨NAn, d1⟩ ⟨NBn, d2⟩) := ⟨_, rfl, ⟨HX2.out.new_ (dN (Below.refl _ _) nq)⟩⟩
    rw [← hY]
    clear hY k0 k1 m0 m1
    obtain ⟨⟨k0, k1⟩, m0, m1⟩ := HY.out.cells
    dsimp only at k0 k1 m0 m1
    go_quiet (first | (go_at_call 34; exact Calls.quiet_of_same ((size_c _ _ (by omega) (by omega)).mono fun _ _ h => ⟨h.1, h.2.symm⟩)) | (go_at_call 33; exact Calls.quiet_of (gcd_c _ _ _ (by omega) (by omega))))
    go_upto_region 8 with fail
    obtain ⟨Z, hZ, HZ⟩ : ∃ yy, yy = Y.drewN nq ∧ Kept (A2 w yy ⟨NAn, d1⟩ ⟨NBn, d2⟩) := ⟨_, rfl, ⟨HY.out.new_ (dN (Below.refl _ _) nq)⟩⟩
    rw [← hZ]
    clear hZ k0 k1 m0 m1
    obtain ⟨⟨k0, k1⟩, m0, m1⟩ := HZ.out.cells
    dsimp only at k0 k1 m0 m1
    have fz1 : ((f1 : Int) == 0) = false := beq_false_of_ne (by omega)
    have fy1 : ¬ (f1 : Int) = 0 := by omega
    have fz2 : ((f2 : Int) == 0) = false := beq_false_of_ne (by omega)
    have fy2 : ¬ (f2 : Int) = 0 := by omega
    obtain ⟨u1, hu1⟩ : ∃ z, z = A1 / f1 := ⟨_, rfl⟩
    have bu1 : u1 ≤ A1 := by rw [hu1]; exact Nat.div_le_self _ _
    have wu1 : IntKind.u64.wrap ((A1 : Int) / (f1 : Int)) = (u1 : Int) := by rw [hu1, ← Int.natCast_ediv]; exact wN (by have := Nat.div_le_self A1 f1; omega)
    have Ku1 := Kept.mk hu1
    clear hu1
    obtain ⟨u2, hu2⟩ : ∃ z, z = B1 / f2 := ⟨_, rfl⟩
    have bu2 : u2 ≤ B1 := by rw [hu2]; exact Nat.div_le_self _ _
    have wu2 : IntKind.u64.wrap ((B1 : Int) / (f2 : Int)) = (u2 : Int) := by rw [hu2, ← Int.natCast_ediv]; exact wN (by have := Nat.div_le_self B1 f2; omega)
    have Ku2 := Kept.mk hu2
    clear hu2
    obtain ⟨v1, hv1⟩ : ∃ z, z = d1 / f2 := ⟨_, rfl⟩
    have bv1 : v1 ≤ d1 := by rw [hv1]; exact Nat.div_le_self _ _
    have wv1 : IntKind.u64.wrap ((d1 : Int) / (f2 : Int)) = (v1 : Int) := by rw [hv1, ← Int.natCast_ediv]; exact wN (by have := Nat.div_le_self d1 f2; omega)
    have Kv1 := Kept.mk hv1
    clear hv1
    obtain ⟨v2, hv2⟩ : ∃ z, z = d2 / f1 := ⟨_, rfl⟩
    have bv2 : v2 ≤ d2 := by rw [hv2]; exact Nat.div_le_self _ _
    have wv2 : IntKind.u64.wrap ((d2 : Int) / (f1 : Int)) = (v2 : Int) := by rw [hv2, ← Int.natCast_ediv]; exact wN (by have := Nat.div_le_self d2 f1; omega)
    have Kv2 := Kept.mk hv2
    clear hv2
    obtain ⟨hh, e5⟩ : ∃ z, u1 * u2 / 18446744073709551616 = z := ⟨_, rfl⟩
    obtain ⟨ll, e6⟩ : ∃ z, u1 * u2 % 18446744073709551616 = z := ⟨_, rfl⟩
    obtain ⟨h2, e7⟩ : ∃ z, v1 * v2 / 18446744073709551616 = z := ⟨_, rfl⟩
    obtain ⟨l2, e8⟩ : ∃ z, v1 * v2 % 18446744073709551616 = z := ⟨_, rfl⟩
    go_quiet (first | (go_at_call 34; exact Calls.quiet_of_same ((size_c _ _ (by omega) (by omega)).mono fun _ _ h => ⟨h.1, h.2.symm⟩)) | (go_at_call 35; exact Calls.quiet_of_same ((mul64_c _ _ _ (by omega) (by omega)).mono fun _ _ h => ⟨h.1, h.2.symm⟩)))
    go_upto_region 9 with fail
    obtain ⟨P, hP, HP⟩ : ∃ yy, yy = Z.drewN nq ∧ Kept (A2 w yy ⟨NAn, d1⟩ ⟨NBn, d2⟩) := ⟨_, rfl, ⟨HZ.out.new_ (dN (Below.refl _ _) nq)⟩⟩
    rw [← hP]
    clear hP k0 k1 m0 m1
    obtain ⟨⟨k0, k1⟩, m0, m1⟩ := HP.out.cells
    dsimp only at k0 k1 m0 m1
    obtain ⟨T, hT⟩ : ∃ T, (!(decide (NAn < 0) == decide (NBn < 0))) = T := ⟨_, rfl⟩
    have HT := Kept.mk hT
    go_upto_region 10 with fail
    try rw [HT.out]
    try clear hT
    obtain ⟨U, hU, HU⟩ : ∃ U, U = P.alloc (Obj.cells #[.bool T, .int .u64 (hh : Int), .int .u64 (ll : Int)] 76) ∧ Kept (A2 w U ⟨NAn, d1⟩ ⟨NBn, d2⟩ ∧ Blk U P.heap.size 76 #[.bool T, .int .u64 (hh : Int), .int .u64 (ll : Int)]) := ⟨_, rfl, ⟨HP.out.new_ ((Below.refl _ _).alloc (Nat.le_refl _) _), Blk.new _ _ _⟩⟩
    obtain ⟨bn, hbn⟩ : ∃ b, b = P.heap.size := ⟨_, rfl⟩
    rw [← hU, ← hbn]
    rw [← hbn] at HU
    clear hU hbn k0 k1 m0 m1
    obtain ⟨⟨k0, k1⟩, m0, m1⟩ := HU.out.1.cells
    dsimp only at k0 k1 m0 m1
    go_quiet (first | (go_at_call 34; exact Calls.quiet_of_same ((size_c _ _ (by omega) (by omega)).mono fun _ _ h => ⟨h.1, h.2.symm⟩)) | (go_at_call 35; exact Calls.quiet_of_same ((mul64_c _ _ _ (by omega) (by omega)).mono fun _ _ h => ⟨h.1, h.2.symm⟩)))
    go_upto_region 11 with fail
    obtain ⟨V, hV, HV⟩ : ∃ V, V = U.drewN nq ∧ Kept (A2 w V ⟨NAn, d1⟩ ⟨NBn, d2⟩ ∧ Blk V bn 76 #[.bool T, .int .u64 (hh : Int), .int .u64 (ll : Int)]) := ⟨_, rfl, ⟨HU.out.1.new_ (dN (Below.refl _ _) nq), HU.out.2.drewN nq⟩⟩
    rw [← hV]
    clear hV k0 k1 m0 m1
    have RS := fun w => result_c T false (u1 * u2) (v1 * v2) w
    obtain ⟨Q, hQ⟩ : ∃ Q, Q = resQ T false (u1 * u2) (v1 * v2) := ⟨_, rfl⟩
    obtain ⟨E, hE⟩ : ∃ E, E = resE (u1 * u2) (v1 * v2) := ⟨_, rfl⟩
    rw [← hQ, ← hE] at RS
    unfold wv rqv at RS
    rw [e5, e6, e7, e8] at RS
    have HPR : Kept (mulR ⟨NAn, (d1 : Int)⟩ ⟨NBn, (d2 : Int)⟩ = (Q, E)) := ⟨by
      unfold mulR
      rw [if_neg (fun h => h.elim hz1 hz2)]
      dsimp only [Int.toNat_natCast]
      rw [e1, e2, g1, g2, ← Ku1.out, ← Ku2.out, ← Kv1.out, ← Kv2.out, show (decide (NAn < 0) != decide (NBn < 0)) = T from HT.out, ← hQ, ← hE]⟩
    clear hQ hE e1 e2 e3 e4 e5 e6 e7 e8 g1 g2
    have q0 := HV.out.2.cell 0 (v := .bool T) rfl
    have q1 := HV.out.2.cell 1 (v := .int .u64 hh) rfl
    have q2 := HV.out.2.cell 2 (v := .int .u64 ll) rfl
    have q3 := HV.out.2.lt
    have z0 := HV.out.1.z.cell 0 (v := .int .i64 0) rfl
    have z1 := HV.out.1.z.cell 1 (v := .int .i64 0) rfl
    have zf0 := HV.out.1.z.free 0
    have zf1 := HV.out.1.z.free 1
    have lz := HV.out.1.z.lt
    go_wp2_with (go_at_call 36; refine (RS _).mono ?_; rintro e w6 ⟨rfl, hb6⟩; have HU6 := Kept.mk (HV.out.1.new_ hb6); clear z0 z1 zf0 zf1 lz q0 q1 q2 q3; have z0 := HU6.out.z.cell 0 (v := .int .i64 0) rfl; have z1 := HU6.out.z.cell 1 (v := .int .i64 0) rfl; have zf0 := HU6.out.z.free 0; have zf1 := HU6.out.z.free 1; have lz := HU6.out.z.lt)
    obtain ⟨W9, hW9, s0, s1, hb⟩ := HU6.out.fin (.int .i64 Q.n) (.int .i64 Q.d)
    rw [← hW9]
    clear hW9
    rw [HRQ.out, HPR.out]
    exact bodyPost_ret (v := .tuple #[.agg #[.int .i64 Q.n, .int .i64 Q.d], .int .i64 E]) (by simp [results, Try.results8, go_sem, s0, s1]) rfl ⟨rfl, hb⟩
end Go.Proofs.Ytjalegdfofogcaa
