/- Rational numbers: Add at all valid numbers. -/
import Derived.Test.YtjalegdfofogcaaRatM
import Derived.Test.YtjalegdfofogcaaDivZ
namespace Go.Proofs.Ytjalegdfofogcaa
set_option linter.unusedVariables false
set_option linter.unusedSimpArgs false
open Go.RowKit
set_option maxRecDepth 100000 in
set_option maxHeartbeats 4000000 in
theorem plus_g (a b : Rq) (w : World) (ha0 : R64 a.n ∧ R64 a.d) (hb0 : R64 b.n ∧ R64 b.d) (hA : okQ a = true) (hB : okQ b = true) : Calls Try.prog 26 #[rqv a, rqv b] w fun e w' => e = .returned (.tuple #[rqv (plusR (normQ a) (normQ b)).1, .int .i64 (plusR (normQ a) (normQ b)).2]) ∧ Below w.heap.size w w' := by
  obtain ⟨a0, a1⟩ := ha0
  obtain ⟨b0, b1⟩ := hb0
  have V1 := fun w => valid_c a w a0.1 a0.2 a1.1 a1.2
  have V2 := fun w => valid_c b w b0.1 b0.2 b1.1 b1.2
  obtain ⟨R, hR⟩ : ∃ R, R = Value.tuple #[rqv (plusR (normQ a) (normQ b)).1, .int .i64 (plusR (normQ a) (normQ b)).2] := ⟨_, rfl⟩
  rw [← hR]
  have HRR := Kept.mk hR
  clear hR
  unfold rqv
  go_enter Try.func26, Try.ntmps26
  go_upto_region 1 with fail
  obtain ⟨X, hX, HX⟩ : ∃ X, X = ((w.alloc (.cells #[.int .i64 a.n, .int .i64 a.d] 32)).alloc (.cells #[.int .i64 b.n, .int .i64 b.d] 32)).alloc (.cells #[.int .i64 0, .int .i64 0] 32) ∧ Kept (A2 w X a b) := ⟨_, rfl, ⟨A2.start w a b⟩⟩
  rw [← hX]
  clear hX
  obtain ⟨⟨k0, k1⟩, m0, m1⟩ := HX.out.cells
  have tok1 : True := trivial
  have HBA := Kept.mk (okQ_bd hA)
  have HBB := Kept.mk (okQ_bd hB)
  go_upto_region 3 with (first | (go_at_call 22; have _t := tok1; refine (V1 _).mono ?_; rintro e w1 ⟨rfl, hb1⟩; rw [hA]; have HX1 := Kept.mk (HX.out.new_ hb1); clear hb1 tok1 _t k0 k1 m0 m1; obtain ⟨⟨k0, k1⟩, m0, m1⟩ := HX1.out.cells; have tok3 : True := trivial) | (go_at_call 22; have _t := tok3; refine (V2 _).mono ?_; rintro e w2 ⟨rfl, hb2⟩; rw [hB]; have HX2 := Kept.mk (HX1.out.new_ hb2); clear hb2 tok3 _t k0 k1 m0 m1; obtain ⟨⟨k0, k1⟩, m0, m1⟩ := HX2.out.cells))
  go_cut [] (fun wx => Kept (A2 w wx (normQ a) (normQ b)))
  case first =>
    refine with_act fun aq haq => ?_
    refine wp_region_inv (fun L az w1z => ∃ (x26 x27 x28 x29 : Value), az = ((((aq.put (some 26) x26).put (some 27) x27).put (some 28) x28).put (some 29) x29) ∧ (A2 w w1z (if L.getD 4 false = true then normQ a else a) (if L.getD 5 false = true then normQ b else b)) ∧ (L.getD 0 false = true → x26 = .agg #[.int .i64 a.n, .int .i64 a.d]) ∧ (L.getD 1 false = true → x27 = .agg #[.int .i64 (normQ a).n, .int .i64 (normQ a).d]) ∧ (L.getD 2 false = true → x28 = .agg #[.int .i64 b.n, .int .i64 b.d]) ∧ (L.getD 3 false = true → x29 = .agg #[.int .i64 (normQ b).n, .int .i64 (normQ b).d]) ∧ (L.getD 4 false = true → ∀ j, j < 4 → L.getD j false = true) ∧ (L.getD 5 false = true → L.getD 4 false = true) ∧ (L.getD 3 false = true → L.getD 2 false = true)) (by kernel_rfl) (by kernel_rfl) ?start ?oper ?done
    case start =>
      refine ⟨aq.tmps.getD 26 undef, aq.tmps.getD 27 undef, aq.tmps.getD 28 undef, aq.tmps.getD 29 undef, by subst haq; simp only [Act.put, List.setIfInBounds_toArray, List.set_cons_zero, List.set_cons_succ, Array.getD_eq_getD_getElem?, List.getElem?_toArray, List.getElem?_cons_zero, List.getElem?_cons_succ, Option.getD_some], by rw [show (Array.replicate _ false).getD 4 false = false from rfl]; exact HX2.out.new_ (dN (Below.refl w2.heap.size w2) 1), none_yet, none_yet, none_yet, none_yet, none_yet, none_yet, none_yet⟩
    case oper =>
      intro L az w1z i hI hr
      obtain ⟨x26, x27, x28, x29, rfl, f0, f1, f2, f3, f4, f5, f6, f7⟩ := hI
      subst haq
      have hi : i < 6 := ready_lt hr
      have hcase : i = 0 ∨ i = 1 ∨ i = 2 ∨ i = 3 ∨ i = 4 ∨ i = 5 := by omega
      clear hi
      rcases hcase with rfl | rfl | rfl | rfl | rfl | rfl
      · have h4 : L.getD 4 false = false := by
          cases hh : L.getD 4 false with
          | false => rfl
          | true => exact absurd (f5 hh 0 (by omega)) (by rw [ready_not hr]; decide)
        have h5 : L.getD 5 false = false := by
          cases hh : L.getD 5 false with
          | false => rfl
          | true => exact absurd (f6 hh) (by rw [h4]; decide)
        rw [h4, h5] at f0
        obtain ⟨⟨k0, k1⟩, m0, m1⟩ := f0.cells
        refine inv_op rfl (fun K hK => ?_)
        try simp only [Act.put, List.setIfInBounds_toArray, List.set_cons_zero, List.set_cons_succ]
        go_simp
        refine hK.out _ _ ⟨.agg #[.int .i64 a.n, .int .i64 a.d], x27, x28, x29, (by simp only [Act.put, List.setIfInBounds_toArray, List.set_cons_zero, List.set_cons_succ]), (by rw [set_other (by decide), set_other (by decide), h4, h5]; exact f0), (fun _ => rfl), (fun h => by first | exact f2 (by rwa [set_other (by decide)] at h) | (rw [set_other (by decide)] at h ⊢; exact f2 h)), (fun h => by first | exact f3 (by rwa [set_other (by decide)] at h) | (rw [set_other (by decide)] at h ⊢; exact f3 h)), (fun h => by first | exact f4 (by rwa [set_other (by decide)] at h) | (rw [set_other (by decide)] at h ⊢; exact f4 h)), (fun h => absurd h (by rw [set_other (by decide), h4]; decide)), (fun h => absurd h (by rw [set_other (by decide), h5]; decide)), (fun h => by first | exact f7 (by rwa [set_other (by decide)] at h) | (rw [set_other (by decide)] at h ⊢; exact f7 h))⟩
      · have h4 : L.getD 4 false = false := by
          cases hh : L.getD 4 false with
          | false => rfl
          | true => exact absurd (f5 hh 1 (by omega)) (by rw [ready_not hr]; decide)
        have h5 : L.getD 5 false = false := by
          cases hh : L.getD 5 false with
          | false => rfl
          | true => exact absurd (f6 hh) (by rw [h4]; decide)
        rw [h4, h5] at f0
        obtain rfl := f1 (ready_dep hr (d := 0) (by kernel_rfl))
        refine inv_op rfl (fun K hK => ?_)
        try simp only [Act.put, List.setIfInBounds_toArray, List.set_cons_zero, List.set_cons_succ]
        go_simp
        refine (normal_c a _).mono ?_
        rintro e w9 ⟨rfl, hb9⟩
        unfold rqv
        try go_wp2_with fail
        refine hK.out _ _ ⟨.agg #[.int .i64 a.n, .int .i64 a.d], .agg #[.int .i64 (normQ a).n, .int .i64 (normQ a).d], x28, x29, (by simp only [Act.put, List.setIfInBounds_toArray, List.set_cons_zero, List.set_cons_succ]), (by rw [set_other (by decide), set_other (by decide), h4, h5]; exact f0.new_ hb9), (fun _ => rfl), (fun _ => rfl), (fun h => by first | exact f3 (by rwa [set_other (by decide)] at h) | (rw [set_other (by decide)] at h ⊢; exact f3 h)), (fun h => by first | exact f4 (by rwa [set_other (by decide)] at h) | (rw [set_other (by decide)] at h ⊢; exact f4 h)), (fun h => absurd h (by rw [set_other (by decide), h4]; decide)), (fun h => absurd h (by rw [set_other (by decide), h5]; decide)), (fun h => by first | exact f7 (by rwa [set_other (by decide)] at h) | (rw [set_other (by decide)] at h ⊢; exact f7 h))⟩
      · have h4 : L.getD 4 false = false := by
          cases hh : L.getD 4 false with
          | false => rfl
          | true => exact absurd (f5 hh 2 (by omega)) (by rw [ready_not hr]; decide)
        have h5 : L.getD 5 false = false := by
          cases hh : L.getD 5 false with
          | false => rfl
          | true => exact absurd (f6 hh) (by rw [h4]; decide)
        rw [h4, h5] at f0
        obtain ⟨⟨k0, k1⟩, m0, m1⟩ := f0.cells
        refine inv_op rfl (fun K hK => ?_)
        try simp only [Act.put, List.setIfInBounds_toArray, List.set_cons_zero, List.set_cons_succ]
        go_simp
        refine hK.out _ _ ⟨x26, x27, .agg #[.int .i64 b.n, .int .i64 b.d], x29, (by simp only [Act.put, List.setIfInBounds_toArray, List.set_cons_zero, List.set_cons_succ]), (by rw [set_other (by decide), set_other (by decide), h4, h5]; exact f0), (fun h => by first | exact f1 (by rwa [set_other (by decide)] at h) | (rw [set_other (by decide)] at h ⊢; exact f1 h)), (fun h => by first | exact f2 (by rwa [set_other (by decide)] at h) | (rw [set_other (by decide)] at h ⊢; exact f2 h)), (fun _ => rfl), (fun h => by first | exact f4 (by rwa [set_other (by decide)] at h) | (rw [set_other (by decide)] at h ⊢; exact f4 h)), (fun h => absurd h (by rw [set_other (by decide), h4]; decide)), (fun h => absurd h (by rw [set_other (by decide), h5]; decide)), (fun _ => set_self hr)⟩
      · have h4 : L.getD 4 false = false := by
          cases hh : L.getD 4 false with
          | false => rfl
          | true => exact absurd (f5 hh 3 (by omega)) (by rw [ready_not hr]; decide)
        have h5 : L.getD 5 false = false := by
          cases hh : L.getD 5 false with
          | false => rfl
          | true => exact absurd (f6 hh) (by rw [h4]; decide)
        rw [h4, h5] at f0
        obtain rfl := f3 (ready_dep hr (d := 2) (by kernel_rfl))
        refine inv_op rfl (fun K hK => ?_)
        try simp only [Act.put, List.setIfInBounds_toArray, List.set_cons_zero, List.set_cons_succ]
        go_simp
        refine (normal_c b _).mono ?_
        rintro e w9 ⟨rfl, hb9⟩
        unfold rqv
        try go_wp2_with fail
        refine hK.out _ _ ⟨x26, x27, .agg #[.int .i64 b.n, .int .i64 b.d], .agg #[.int .i64 (normQ b).n, .int .i64 (normQ b).d], (by simp only [Act.put, List.setIfInBounds_toArray, List.set_cons_zero, List.set_cons_succ]), (by rw [set_other (by decide), set_other (by decide), h4, h5]; exact f0.new_ hb9), (fun h => by first | exact f1 (by rwa [set_other (by decide)] at h) | (rw [set_other (by decide)] at h ⊢; exact f1 h)), (fun h => by first | exact f2 (by rwa [set_other (by decide)] at h) | (rw [set_other (by decide)] at h ⊢; exact f2 h)), (fun _ => rfl), (fun _ => rfl), (fun h => absurd h (by rw [set_other (by decide), h4]; decide)), (fun h => absurd h (by rw [set_other (by decide), h5]; decide)), (fun _ => by rw [set_other (by decide)]; exact ready_dep hr (by kernel_rfl))⟩
      · have h4 := ready_not hr
        have h5 : L.getD 5 false = false := by
          cases hh : L.getD 5 false with
          | false => rfl
          | true => exact absurd (f6 hh) (by rw [h4]; decide)
        rw [h4, h5] at f0
        obtain ⟨⟨k0, k1⟩, m0, m1⟩ := f0.cells
        have q0 := f0.x.free 0
        have q1 := f0.x.free 1
        have lx := f0.x.lt
        obtain rfl := f2 (ready_dep hr (d := 1) (by kernel_rfl))
        have hj0 := ready_dep hr (d := 0) (by kernel_rfl)
        have hj1 := ready_dep hr (d := 1) (by kernel_rfl)
        have hj3 := ready_dep hr (d := 3) (by kernel_rfl)
        have hj2 := f7 hj3
        obtain rfl := f1 hj0
        obtain rfl := f3 hj2
        obtain rfl := f4 hj3
        refine inv_op rfl (fun K hK => ?_)
        try simp only [Act.put, List.setIfInBounds_toArray, List.set_cons_zero, List.set_cons_succ]
        go_simp
        refine hK.out _ _ ⟨.agg #[.int .i64 a.n, .int .i64 a.d], .agg #[.int .i64 (normQ a).n, .int .i64 (normQ a).d], .agg #[.int .i64 b.n, .int .i64 b.d], .agg #[.int .i64 (normQ b).n, .int .i64 (normQ b).d], (by simp only [Act.put, List.setIfInBounds_toArray, List.set_cons_zero, List.set_cons_succ]), (by rw [set_self hr, set_other (by decide), h5]; exact f0.put1), (fun _ => rfl), (fun _ => rfl), (fun _ => rfl), (fun _ => rfl), (fun _ j hj => by rcases (by omega : j = 0 ∨ j = 1 ∨ j = 2 ∨ j = 3) with rfl | rfl | rfl | rfl <;> (rw [set_other (by decide)]; first | exact hj2 | exact hj0 | exact hj1 | exact hj3)), (fun _ => set_self hr), (fun h => by first | exact f7 (by rwa [set_other (by decide)] at h) | (rw [set_other (by decide)] at h ⊢; exact f7 h))⟩
      · have h5 := ready_not hr
        have h4 := ready_dep hr (d := 4) (by kernel_rfl)
        rw [h4, h5] at f0
        obtain ⟨⟨k0, k1⟩, m0, m1⟩ := f0.cells
        have q0 := f0.y.free 0
        have q1 := f0.y.free 1
        have lx := f0.y.lt
        obtain rfl := f4 (ready_dep hr (d := 3) (by kernel_rfl))
        obtain rfl := f1 (f5 h4 0 (by omega))
        obtain rfl := f2 (f5 h4 1 (by omega))
        obtain rfl := f3 (f5 h4 2 (by omega))
        refine inv_op rfl (fun K hK => ?_)
        try simp only [Act.put, List.setIfInBounds_toArray, List.set_cons_zero, List.set_cons_succ]
        go_simp
        refine hK.out _ _ ⟨.agg #[.int .i64 a.n, .int .i64 a.d], .agg #[.int .i64 (normQ a).n, .int .i64 (normQ a).d], .agg #[.int .i64 b.n, .int .i64 b.d], .agg #[.int .i64 (normQ b).n, .int .i64 (normQ b).d], (by simp only [Act.put, List.setIfInBounds_toArray, List.set_cons_zero, List.set_cons_succ]), (by rw [set_self hr, set_other (by decide), h4]; exact f0.put2), (fun _ => rfl), (fun _ => rfl), (fun _ => rfl), (fun _ => rfl), (fun _ j hj => by rw [set_other (by omega)]; exact f5 h4 j hj), (fun _ => by rw [set_other (by decide)]; exact h4), (fun h => by first | exact f7 (by rwa [set_other (by decide)] at h) | (rw [set_other (by decide)] at h ⊢; exact f7 h))⟩
    case done =>
      intro L az w1z hI hall
      obtain ⟨x26, x27, x28, x29, rfl, f0, f1, f2, f3, f4, f5, f6, f7⟩ := hI
      subst haq
      simp only [Act.put, List.setIfInBounds_toArray, List.set_cons_zero, List.set_cons_succ]
      go_wp2_with fail
      go_meet
      have hh4 := hall 4 (by decide)
      have hh5 := hall 5 (by decide)
      rw [hh4, hh5] at f0
      exact ⟨f0⟩
  case rest =>
    replace HX2 := hcut
    clear hcut k0 k1 m0 m1 HX HX1
    obtain ⟨NA, hna⟩ : ∃ NA, NA = normQ a := ⟨_, rfl⟩
    obtain ⟨NB, hnb⟩ : ∃ NB, NB = normQ b := ⟨_, rfl⟩
    rw [← hna, ← hnb] at HX2
    rw [← hna] at HBA
    rw [← hnb] at HBB
    have HNA := Kept.mk hna
    have HNB := Kept.mk hnb
    clear hna hnb
    obtain ⟨⟨k0, k1⟩, m0, m1⟩ := HX2.out.cells
    obtain ⟨n1, n2, n3, n4⟩ := HBA.out
    obtain ⟨p1, p2, p3, p4⟩ := HBB.out
    obtain ⟨NAn, NAd⟩ := NA
    obtain ⟨NBn, NBd⟩ := NB
    dsimp only at k0 k1 m0 m1 n1 n2 n3 n4 p1 p2 p3 p4
    obtain ⟨d1, rfl⟩ : ∃ d : Nat, NAd = d := ⟨NAd.toNat, by omega⟩
    obtain ⟨d2, rfl⟩ : ∃ d : Nat, NBd = d := ⟨NBd.toNat, by omega⟩
    have hd1 : 1 ≤ d1 := by omega
    have hd2 : 1 ≤ d2 := by omega
    obtain ⟨g, hg⟩ : ∃ g, g = Nat.gcd d1 d2 := ⟨_, rfl⟩
    have hg0 : 1 ≤ g := by rw [hg]; exact Nat.gcd_pos_of_pos_left _ (by omega)
    have hg1 : g ≤ d1 := by rw [hg]; exact Nat.gcd_le_left _ (by omega)
    have S1 := fun w => size_nat d1 w (by omega)
    have S2 := fun w => size_nat d2 w (by omega)
    have GG := fun w => gcd_c d1 d2 w (by omega) (by omega)
    rw [← hg] at GG
    have HG := Kept.mk hg
    clear hg
    go_upto_region 4 with fail
    go_quiet (first | (go_at_call 34; exact Calls.quiet_of_same ((size_nat _ _ (by omega)).mono fun _ _ h => ⟨h.1, h.2.symm⟩)) | (go_at_call 33; exact Calls.quiet_of (GG _)))
    go_upto_region 5 with fail
    obtain ⟨Y, hY, HY⟩ : ∃ Y, Y = wc.drewN nq ∧ Kept (A2 w Y ⟨NAn, d1⟩ ⟨NBn, d2⟩) := ⟨_, rfl, ⟨HX2.out.new_ (dN (Below.refl _ _) nq)⟩⟩
    rw [← hY]
    clear hY HX2 k0 k1 m0 m1
    obtain ⟨⟨k0, k1⟩, m0, m1⟩ := HY.out.cells
    dsimp only at k0 k1 m0 m1
    obtain ⟨le, hle⟩ : ∃ le, le = d1 / g := ⟨_, rfl⟩
    obtain ⟨ri, hri⟩ : ∃ ri, ri = d2 / g := ⟨_, rfl⟩
    have q1 : IntKind.u64.wrap ((d1 : Int) / (g : Int)) = (le : Int) := by rw [hle, ← Int.natCast_ediv]; exact wN (by have := Nat.div_le_self d1 g; omega)
    have q2 : IntKind.u64.wrap ((d2 : Int) / (g : Int)) = (ri : Int) := by rw [hri, ← Int.natCast_ediv]; exact wN (by have := Nat.div_le_self d2 g; omega)
    have hgz : ((g : Int) == 0) = false := beq_false_of_ne (by omega)
    have hgz2 : ¬ (g : Int) = 0 := by omega
    have hleb : le ≤ d1 := by rw [hle]; exact Nat.div_le_self _ _
    have hrib : ri ≤ d2 := by rw [hri]; exact Nat.div_le_self _ _
    have HLE := Kept.mk hle
    have HRI := Kept.mk hri
    clear hle hri
    go_quiet (first | (go_at_call 34; exact Calls.quiet_of_same ((size_nat _ _ (by omega)).mono fun _ _ h => ⟨h.1, h.2.symm⟩)))
    go_upto_region 6 with fail
    obtain ⟨Z, hZ, HZ⟩ : ∃ Z, Z = Y.drewN nq ∧ Kept (A2 w Z ⟨NAn, d1⟩ ⟨NBn, d2⟩) := ⟨_, rfl, ⟨HY.out.new_ (dN (Below.refl _ _) nq)⟩⟩
    rw [← hZ]
    clear hZ HY k0 k1 m0 m1 q1 q2
    obtain ⟨s1, hs1⟩ : ∃ s, s = decide (NAn < 0) := ⟨_, rfl⟩
    obtain ⟨s2, hs2⟩ : ∃ s, s = decide (NBn < 0) := ⟨_, rfl⟩
    obtain ⟨x1, hx1⟩ : ∃ x, x = NAn.natAbs * ri := ⟨_, rfl⟩
    obtain ⟨x2, hx2⟩ : ∃ x, x = NBn.natAbs * le := ⟨_, rfl⟩
    have hxb1 : x1 < 170141183460469231731687303715884105728 := by
      have := Nat.mul_le_mul (show NAn.natAbs ≤ 1152921504606846976 by omega) (show ri ≤ 1152921504606846976 by omega)
      omega
    have hxb2 : x2 < 170141183460469231731687303715884105728 := by
      have := Nat.mul_le_mul (show NBn.natAbs ≤ 1152921504606846976 by omega) (show le ≤ 1152921504606846976 by omega)
      omega
    have PR1 := fun w => product_c NAn ri w (by omega) (by omega) (by omega)
    have PR2 := fun w => product_c NBn le w (by omega) (by omega) (by omega)
    have AD := fun w => add_c s1 s2 x1 x2 w hxb1 hxb2
    rw [← hs1, ← hx1] at PR1
    rw [← hs2, ← hx2] at PR2
    obtain ⟨t1, h1, l1, hw1⟩ : ∃ s h l, wv s1 x1 = .agg #[.bool s, .int .u64 h, .int .u64 l] := ⟨_, _, _, rfl⟩
    obtain ⟨t2, h2, l2, hw2⟩ : ∃ s h l, wv s2 x2 = .agg #[.bool s, .int .u64 h, .int .u64 l] := ⟨_, _, _, rfl⟩
    obtain ⟨t3, h3, l3, hw3⟩ : ∃ s h l, wv (addS s1 s2 x1 x2) (addN s1 s2 x1 x2) = .agg #[.bool s, .int .u64 h, .int .u64 l] := ⟨_, _, _, rfl⟩
    rw [hw1] at PR1 AD
    rw [hw2] at PR2 AD
    rw [hw3] at AD
    have HW3 := Kept.mk hw3
    have HS1 := Kept.mk hs1
    have HS2 := Kept.mk hs2
    have HX1 := Kept.mk hx1
    have HX2 := Kept.mk hx2
    clear hw1 hw2 hw3 hs1 hs2 hx1 hx2
    go_cut [9] (fun s9 wx => ∃ b9 : Nat, s9 = .pointer (some ⟨b9, 0, none⟩) ∧ Kept (Blk wx b9 76 #[.bool t3, .int .u64 h3, .int .u64 l3] ∧ Below Z.heap.size Z wx))
    case first =>
      refine with_act fun aq haq => ?_
      refine wp_region_inv (fun L az w1z => ∃ (x9 x47 x48 x49 x50 x51 x52 x53 x54 x55 : Value), az = ((((((((((aq.put (some 9) x9).put (some 47) x47).put (some 48) x48).put (some 49) x49).put (some 50) x50).put (some 51) x51).put (some 52) x52).put (some 53) x53).put (some 54) x54).put (some 55) x55) ∧ (Below Z.heap.size Z w1z) ∧ (L.getD 0 false = true → x47 = .pointer (some ⟨w.heap.size, 0, none⟩)) ∧ (L.getD 1 false = true → x48 = .int .i64 NAn) ∧ (L.getD 2 false = true → x49 = .int .u64 (ri : Int)) ∧ (L.getD 3 false = true → x50 = .agg #[.bool t1, .int .u64 h1, .int .u64 l1]) ∧ (L.getD 4 false = true → x51 = .pointer (some ⟨w.heap.size + 1, 0, none⟩)) ∧ (L.getD 5 false = true → x52 = .int .i64 NBn) ∧ (L.getD 6 false = true → x53 = .int .u64 (le : Int)) ∧ (L.getD 7 false = true → x54 = .agg #[.bool t2, .int .u64 h2, .int .u64 l2]) ∧ (L.getD 8 false = true → x55 = .agg #[.bool t3, .int .u64 h3, .int .u64 l3]) ∧ (L.getD 9 false = true → ∃ b : Nat, x9 = .pointer (some ⟨b, 0, none⟩) ∧ Z.heap.size ≤ b ∧ Blk w1z b 76 (if L.getD 10 false = true then #[.bool t3, .int .u64 h3, .int .u64 l3] else #[.bool false, .int .u64 0, .int .u64 0])) ∧ (L.getD 10 false = true → L.getD 9 false = true)) (by kernel_rfl) (by kernel_rfl) ?start ?oper ?done
      case start =>
        refine ⟨aq.tmps.getD 9 undef, aq.tmps.getD 47 undef, aq.tmps.getD 48 undef, aq.tmps.getD 49 undef, aq.tmps.getD 50 undef, aq.tmps.getD 51 undef, aq.tmps.getD 52 undef, aq.tmps.getD 53 undef, aq.tmps.getD 54 undef, aq.tmps.getD 55 undef, by subst haq; simp only [Act.put, List.setIfInBounds_toArray, List.set_cons_zero, List.set_cons_succ, Array.getD_eq_getD_getElem?, List.getElem?_toArray, List.getElem?_cons_zero, List.getElem?_cons_succ, Option.getD_some], dN (Below.refl Z.heap.size Z) 1, none_yet, none_yet, none_yet, none_yet, none_yet, none_yet, none_yet, none_yet, none_yet, none_yet, none_yet⟩
      case oper =>
        intro L az w1z i hI hr
        obtain ⟨x9, x47, x48, x49, x50, x51, x52, x53, x54, x55, rfl, f0, f1, f2, f3, f4, f5, f6, f7, f8, f9, f10, f11⟩ := hI
        subst haq
        have hi : i < 11 := ready_lt hr
        have hcase : i = 0 ∨ i = 1 ∨ i = 2 ∨ i = 3 ∨ i = 4 ∨ i = 5 ∨ i = 6 ∨ i = 7 ∨ i = 8 ∨ i = 9 ∨ i = 10 := by omega
        clear hi
        rcases hcase with rfl | rfl | rfl | rfl | rfl | rfl | rfl | rfl | rfl | rfl | rfl
        · refine inv_op rfl (fun K hK => ?_)
          try simp only [Act.put, List.setIfInBounds_toArray, List.set_cons_zero, List.set_cons_succ]
          go_simp
          refine hK.out _ _ ⟨x9, .pointer (some ⟨w.heap.size, 0, none⟩), x48, x49, x50, x51, x52, x53, x54, x55, (by simp only [Act.put, List.setIfInBounds_toArray, List.set_cons_zero, List.set_cons_succ]), f0, (fun _ => rfl), (fun h => by first | exact f2 (by rwa [set_other (by decide)] at h) | (rw [set_other (by decide)] at h ⊢; exact f2 h)), (fun h => by first | exact f3 (by rwa [set_other (by decide)] at h) | (rw [set_other (by decide)] at h ⊢; exact f3 h)), (fun h => by first | exact f4 (by rwa [set_other (by decide)] at h) | (rw [set_other (by decide)] at h ⊢; exact f4 h)), (fun h => by first | exact f5 (by rwa [set_other (by decide)] at h) | (rw [set_other (by decide)] at h ⊢; exact f5 h)), (fun h => by first | exact f6 (by rwa [set_other (by decide)] at h) | (rw [set_other (by decide)] at h ⊢; exact f6 h)), (fun h => by first | exact f7 (by rwa [set_other (by decide)] at h) | (rw [set_other (by decide)] at h ⊢; exact f7 h)), (fun h => by first | exact f8 (by rwa [set_other (by decide)] at h) | (rw [set_other (by decide)] at h ⊢; exact f8 h)), (fun h => by first | exact f9 (by rwa [set_other (by decide)] at h) | (rw [set_other (by decide)] at h ⊢; exact f9 h)), (fun h => by first | exact f10 (by rwa [set_other (by decide)] at h) | (rw [set_other (by decide)] at h ⊢; exact f10 h)), (fun h => by first | exact f11 (by rwa [set_other (by decide)] at h) | (rw [set_other (by decide)] at h ⊢; exact f11 h))⟩
        · obtain rfl := f1 (ready_dep hr (d := 0) (by kernel_rfl))
          obtain ⟨⟨k0, k1⟩, m0, m1⟩ := (HZ.out.new_ f0).cells
          dsimp only at k0 k1 m0 m1
          refine inv_op rfl (fun K hK => ?_)
          try simp only [Act.put, List.setIfInBounds_toArray, List.set_cons_zero, List.set_cons_succ]
          go_simp
          refine hK.out _ _ ⟨x9, .pointer (some ⟨w.heap.size, 0, none⟩), .int .i64 NAn, x49, x50, x51, x52, x53, x54, x55, (by simp only [Act.put, List.setIfInBounds_toArray, List.set_cons_zero, List.set_cons_succ]), f0, (fun _ => rfl), (fun _ => rfl), (fun h => by first | exact f3 (by rwa [set_other (by decide)] at h) | (rw [set_other (by decide)] at h ⊢; exact f3 h)), (fun h => by first | exact f4 (by rwa [set_other (by decide)] at h) | (rw [set_other (by decide)] at h ⊢; exact f4 h)), (fun h => by first | exact f5 (by rwa [set_other (by decide)] at h) | (rw [set_other (by decide)] at h ⊢; exact f5 h)), (fun h => by first | exact f6 (by rwa [set_other (by decide)] at h) | (rw [set_other (by decide)] at h ⊢; exact f6 h)), (fun h => by first | exact f7 (by rwa [set_other (by decide)] at h) | (rw [set_other (by decide)] at h ⊢; exact f7 h)), (fun h => by first | exact f8 (by rwa [set_other (by decide)] at h) | (rw [set_other (by decide)] at h ⊢; exact f8 h)), (fun h => by first | exact f9 (by rwa [set_other (by decide)] at h) | (rw [set_other (by decide)] at h ⊢; exact f9 h)), (fun h => by first | exact f10 (by rwa [set_other (by decide)] at h) | (rw [set_other (by decide)] at h ⊢; exact f10 h)), (fun h => by first | exact f11 (by rwa [set_other (by decide)] at h) | (rw [set_other (by decide)] at h ⊢; exact f11 h))⟩
        · refine inv_op rfl (fun K hK => ?_)
          try simp only [Act.put, List.setIfInBounds_toArray, List.set_cons_zero, List.set_cons_succ]
          go_simp
          refine hK.out _ _ ⟨x9, x47, x48, .int .u64 (ri : Int), x50, x51, x52, x53, x54, x55, (by simp only [Act.put, List.setIfInBounds_toArray, List.set_cons_zero, List.set_cons_succ]), f0, (fun h => by first | exact f1 (by rwa [set_other (by decide)] at h) | (rw [set_other (by decide)] at h ⊢; exact f1 h)), (fun h => by first | exact f2 (by rwa [set_other (by decide)] at h) | (rw [set_other (by decide)] at h ⊢; exact f2 h)), (fun _ => rfl), (fun h => by first | exact f4 (by rwa [set_other (by decide)] at h) | (rw [set_other (by decide)] at h ⊢; exact f4 h)), (fun h => by first | exact f5 (by rwa [set_other (by decide)] at h) | (rw [set_other (by decide)] at h ⊢; exact f5 h)), (fun h => by first | exact f6 (by rwa [set_other (by decide)] at h) | (rw [set_other (by decide)] at h ⊢; exact f6 h)), (fun h => by first | exact f7 (by rwa [set_other (by decide)] at h) | (rw [set_other (by decide)] at h ⊢; exact f7 h)), (fun h => by first | exact f8 (by rwa [set_other (by decide)] at h) | (rw [set_other (by decide)] at h ⊢; exact f8 h)), (fun h => by first | exact f9 (by rwa [set_other (by decide)] at h) | (rw [set_other (by decide)] at h ⊢; exact f9 h)), (fun h => by first | exact f10 (by rwa [set_other (by decide)] at h) | (rw [set_other (by decide)] at h ⊢; exact f10 h)), (fun h => by first | exact f11 (by rwa [set_other (by decide)] at h) | (rw [set_other (by decide)] at h ⊢; exact f11 h))⟩
        · obtain rfl := f2 (ready_dep hr (d := 1) (by kernel_rfl))
          obtain rfl := f3 (ready_dep hr (d := 2) (by kernel_rfl))
          refine inv_op rfl (fun K hK => ?_)
          try simp only [Act.put, List.setIfInBounds_toArray, List.set_cons_zero, List.set_cons_succ]
          go_simp
          refine (PR1 _).mono ?_
          rintro e w9 ⟨rfl, hb9⟩
          try simp only []
          refine hK.out _ _ ⟨x9, x47, .int .i64 NAn, .int .u64 (ri : Int), .agg #[.bool t1, .int .u64 h1, .int .u64 l1], x51, x52, x53, x54, x55, (by simp only [Act.put, List.setIfInBounds_toArray, List.set_cons_zero, List.set_cons_succ]), join f0 hb9, (fun h => by first | exact f1 (by rwa [set_other (by decide)] at h) | (rw [set_other (by decide)] at h ⊢; exact f1 h)), (fun _ => rfl), (fun _ => rfl), (fun _ => rfl), (fun h => by first | exact f5 (by rwa [set_other (by decide)] at h) | (rw [set_other (by decide)] at h ⊢; exact f5 h)), (fun h => by first | exact f6 (by rwa [set_other (by decide)] at h) | (rw [set_other (by decide)] at h ⊢; exact f6 h)), (fun h => by first | exact f7 (by rwa [set_other (by decide)] at h) | (rw [set_other (by decide)] at h ⊢; exact f7 h)), (fun h => by first | exact f8 (by rwa [set_other (by decide)] at h) | (rw [set_other (by decide)] at h ⊢; exact f8 h)), (fun h => by first | exact f9 (by rwa [set_other (by decide)] at h) | (rw [set_other (by decide)] at h ⊢; exact f9 h)), (fun h => by rw [set_other (by decide)] at h ⊢; obtain ⟨b, e, hb, hB⟩ := f10 h; exact ⟨b, e, hb, hB.new_ hb9⟩), (fun h => by first | exact f11 (by rwa [set_other (by decide)] at h) | (rw [set_other (by decide)] at h ⊢; exact f11 h))⟩
        · refine inv_op rfl (fun K hK => ?_)
          try simp only [Act.put, List.setIfInBounds_toArray, List.set_cons_zero, List.set_cons_succ]
          go_simp
          refine hK.out _ _ ⟨x9, x47, x48, x49, x50, .pointer (some ⟨w.heap.size + 1, 0, none⟩), x52, x53, x54, x55, (by simp only [Act.put, List.setIfInBounds_toArray, List.set_cons_zero, List.set_cons_succ]), f0, (fun h => by first | exact f1 (by rwa [set_other (by decide)] at h) | (rw [set_other (by decide)] at h ⊢; exact f1 h)), (fun h => by first | exact f2 (by rwa [set_other (by decide)] at h) | (rw [set_other (by decide)] at h ⊢; exact f2 h)), (fun h => by first | exact f3 (by rwa [set_other (by decide)] at h) | (rw [set_other (by decide)] at h ⊢; exact f3 h)), (fun h => by first | exact f4 (by rwa [set_other (by decide)] at h) | (rw [set_other (by decide)] at h ⊢; exact f4 h)), (fun _ => rfl), (fun h => by first | exact f6 (by rwa [set_other (by decide)] at h) | (rw [set_other (by decide)] at h ⊢; exact f6 h)), (fun h => by first | exact f7 (by rwa [set_other (by decide)] at h) | (rw [set_other (by decide)] at h ⊢; exact f7 h)), (fun h => by first | exact f8 (by rwa [set_other (by decide)] at h) | (rw [set_other (by decide)] at h ⊢; exact f8 h)), (fun h => by first | exact f9 (by rwa [set_other (by decide)] at h) | (rw [set_other (by decide)] at h ⊢; exact f9 h)), (fun h => by first | exact f10 (by rwa [set_other (by decide)] at h) | (rw [set_other (by decide)] at h ⊢; exact f10 h)), (fun h => by first | exact f11 (by rwa [set_other (by decide)] at h) | (rw [set_other (by decide)] at h ⊢; exact f11 h))⟩
        · obtain rfl := f5 (ready_dep hr (d := 4) (by kernel_rfl))
          obtain ⟨⟨k0, k1⟩, m0, m1⟩ := (HZ.out.new_ f0).cells
          dsimp only at k0 k1 m0 m1
          refine inv_op rfl (fun K hK => ?_)
          try simp only [Act.put, List.setIfInBounds_toArray, List.set_cons_zero, List.set_cons_succ]
          go_simp
          refine hK.out _ _ ⟨x9, x47, x48, x49, x50, .pointer (some ⟨w.heap.size + 1, 0, none⟩), .int .i64 NBn, x53, x54, x55, (by simp only [Act.put, List.setIfInBounds_toArray, List.set_cons_zero, List.set_cons_succ]), f0, (fun h => by first | exact f1 (by rwa [set_other (by decide)] at h) | (rw [set_other (by decide)] at h ⊢; exact f1 h)), (fun h => by first | exact f2 (by rwa [set_other (by decide)] at h) | (rw [set_other (by decide)] at h ⊢; exact f2 h)), (fun h => by first | exact f3 (by rwa [set_other (by decide)] at h) | (rw [set_other (by decide)] at h ⊢; exact f3 h)), (fun h => by first | exact f4 (by rwa [set_other (by decide)] at h) | (rw [set_other (by decide)] at h ⊢; exact f4 h)), (fun _ => rfl), (fun _ => rfl), (fun h => by first | exact f7 (by rwa [set_other (by decide)] at h) | (rw [set_other (by decide)] at h ⊢; exact f7 h)), (fun h => by first | exact f8 (by rwa [set_other (by decide)] at h) | (rw [set_other (by decide)] at h ⊢; exact f8 h)), (fun h => by first | exact f9 (by rwa [set_other (by decide)] at h) | (rw [set_other (by decide)] at h ⊢; exact f9 h)), (fun h => by first | exact f10 (by rwa [set_other (by decide)] at h) | (rw [set_other (by decide)] at h ⊢; exact f10 h)), (fun h => by first | exact f11 (by rwa [set_other (by decide)] at h) | (rw [set_other (by decide)] at h ⊢; exact f11 h))⟩
        · refine inv_op rfl (fun K hK => ?_)
          try simp only [Act.put, List.setIfInBounds_toArray, List.set_cons_zero, List.set_cons_succ]
          go_simp
          refine hK.out _ _ ⟨x9, x47, x48, x49, x50, x51, x52, .int .u64 (le : Int), x54, x55, (by simp only [Act.put, List.setIfInBounds_toArray, List.set_cons_zero, List.set_cons_succ]), f0, (fun h => by first | exact f1 (by rwa [set_other (by decide)] at h) | (rw [set_other (by decide)] at h ⊢; exact f1 h)), (fun h => by first | exact f2 (by rwa [set_other (by decide)] at h) | (rw [set_other (by decide)] at h ⊢; exact f2 h)), (fun h => by first | exact f3 (by rwa [set_other (by decide)] at h) | (rw [set_other (by decide)] at h ⊢; exact f3 h)), (fun h => by first | exact f4 (by rwa [set_other (by decide)] at h) | (rw [set_other (by decide)] at h ⊢; exact f4 h)), (fun h => by first | exact f5 (by rwa [set_other (by decide)] at h) | (rw [set_other (by decide)] at h ⊢; exact f5 h)), (fun h => by first | exact f6 (by rwa [set_other (by decide)] at h) | (rw [set_other (by decide)] at h ⊢; exact f6 h)), (fun _ => rfl), (fun h => by first | exact f8 (by rwa [set_other (by decide)] at h) | (rw [set_other (by decide)] at h ⊢; exact f8 h)), (fun h => by first | exact f9 (by rwa [set_other (by decide)] at h) | (rw [set_other (by decide)] at h ⊢; exact f9 h)), (fun h => by first | exact f10 (by rwa [set_other (by decide)] at h) | (rw [set_other (by decide)] at h ⊢; exact f10 h)), (fun h => by first | exact f11 (by rwa [set_other (by decide)] at h) | (rw [set_other (by decide)] at h ⊢; exact f11 h))⟩
        · obtain rfl := f6 (ready_dep hr (d := 5) (by kernel_rfl))
          obtain rfl := f7 (ready_dep hr (d := 6) (by kernel_rfl))
          refine inv_op rfl (fun K hK => ?_)
          try simp only [Act.put, List.setIfInBounds_toArray, List.set_cons_zero, List.set_cons_succ]
          go_simp
          refine (PR2 _).mono ?_
          rintro e w9 ⟨rfl, hb9⟩
          try simp only []
          refine hK.out _ _ ⟨x9, x47, x48, x49, x50, x51, .int .i64 NBn, .int .u64 (le : Int), .agg #[.bool t2, .int .u64 h2, .int .u64 l2], x55, (by simp only [Act.put, List.setIfInBounds_toArray, List.set_cons_zero, List.set_cons_succ]), join f0 hb9, (fun h => by first | exact f1 (by rwa [set_other (by decide)] at h) | (rw [set_other (by decide)] at h ⊢; exact f1 h)), (fun h => by first | exact f2 (by rwa [set_other (by decide)] at h) | (rw [set_other (by decide)] at h ⊢; exact f2 h)), (fun h => by first | exact f3 (by rwa [set_other (by decide)] at h) | (rw [set_other (by decide)] at h ⊢; exact f3 h)), (fun h => by first | exact f4 (by rwa [set_other (by decide)] at h) | (rw [set_other (by decide)] at h ⊢; exact f4 h)), (fun h => by first | exact f5 (by rwa [set_other (by decide)] at h) | (rw [set_other (by decide)] at h ⊢; exact f5 h)), (fun _ => rfl), (fun _ => rfl), (fun _ => rfl), (fun h => by first | exact f9 (by rwa [set_other (by decide)] at h) | (rw [set_other (by decide)] at h ⊢; exact f9 h)), (fun h => by rw [set_other (by decide)] at h ⊢; obtain ⟨b, e, hb, hB⟩ := f10 h; exact ⟨b, e, hb, hB.new_ hb9⟩), (fun h => by first | exact f11 (by rwa [set_other (by decide)] at h) | (rw [set_other (by decide)] at h ⊢; exact f11 h))⟩
        · obtain rfl := f4 (ready_dep hr (d := 3) (by kernel_rfl))
          obtain rfl := f8 (ready_dep hr (d := 7) (by kernel_rfl))
          refine inv_op rfl (fun K hK => ?_)
          try simp only [Act.put, List.setIfInBounds_toArray, List.set_cons_zero, List.set_cons_succ]
          go_simp
          refine (AD _).mono ?_
          rintro e w9 ⟨rfl, hb9⟩
          try simp only []
          refine hK.out _ _ ⟨x9, x47, x48, x49, .agg #[.bool t1, .int .u64 h1, .int .u64 l1], x51, x52, x53, .agg #[.bool t2, .int .u64 h2, .int .u64 l2], .agg #[.bool t3, .int .u64 h3, .int .u64 l3], (by simp only [Act.put, List.setIfInBounds_toArray, List.set_cons_zero, List.set_cons_succ]), join f0 hb9, (fun h => by first | exact f1 (by rwa [set_other (by decide)] at h) | (rw [set_other (by decide)] at h ⊢; exact f1 h)), (fun h => by first | exact f2 (by rwa [set_other (by decide)] at h) | (rw [set_other (by decide)] at h ⊢; exact f2 h)), (fun h => by first | exact f3 (by rwa [set_other (by decide)] at h) | (rw [set_other (by decide)] at h ⊢; exact f3 h)), (fun _ => rfl), (fun h => by first | exact f5 (by rwa [set_other (by decide)] at h) | (rw [set_other (by decide)] at h ⊢; exact f5 h)), (fun h => by first | exact f6 (by rwa [set_other (by decide)] at h) | (rw [set_other (by decide)] at h ⊢; exact f6 h)), (fun h => by first | exact f7 (by rwa [set_other (by decide)] at h) | (rw [set_other (by decide)] at h ⊢; exact f7 h)), (fun _ => rfl), (fun _ => rfl), (fun h => by rw [set_other (by decide)] at h ⊢; obtain ⟨b, e, hb, hB⟩ := f10 h; exact ⟨b, e, hb, hB.new_ hb9⟩), (fun h => by first | exact f11 (by rwa [set_other (by decide)] at h) | (rw [set_other (by decide)] at h ⊢; exact f11 h))⟩
        · have h10 : L.getD 10 false = false := by
            cases hh : L.getD 10 false with
            | false => rfl
            | true => exact absurd (f11 hh) (by rw [ready_not hr]; decide)
          refine inv_op rfl (fun K hK => ?_)
          try simp only [Act.put, List.setIfInBounds_toArray, List.set_cons_zero, List.set_cons_succ]
          go_simp
          refine hK.out _ _ ⟨.pointer (some ⟨w1z.heap.size, 0, none⟩), x47, x48, x49, x50, x51, x52, x53, x54, x55, (by simp only [Act.put, List.setIfInBounds_toArray, List.set_cons_zero, List.set_cons_succ]), f0.alloc f0.size _, (fun h => by first | exact f1 (by rwa [set_other (by decide)] at h) | (rw [set_other (by decide)] at h ⊢; exact f1 h)), (fun h => by first | exact f2 (by rwa [set_other (by decide)] at h) | (rw [set_other (by decide)] at h ⊢; exact f2 h)), (fun h => by first | exact f3 (by rwa [set_other (by decide)] at h) | (rw [set_other (by decide)] at h ⊢; exact f3 h)), (fun h => by first | exact f4 (by rwa [set_other (by decide)] at h) | (rw [set_other (by decide)] at h ⊢; exact f4 h)), (fun h => by first | exact f5 (by rwa [set_other (by decide)] at h) | (rw [set_other (by decide)] at h ⊢; exact f5 h)), (fun h => by first | exact f6 (by rwa [set_other (by decide)] at h) | (rw [set_other (by decide)] at h ⊢; exact f6 h)), (fun h => by first | exact f7 (by rwa [set_other (by decide)] at h) | (rw [set_other (by decide)] at h ⊢; exact f7 h)), (fun h => by first | exact f8 (by rwa [set_other (by decide)] at h) | (rw [set_other (by decide)] at h ⊢; exact f8 h)), (fun h => by first | exact f9 (by rwa [set_other (by decide)] at h) | (rw [set_other (by decide)] at h ⊢; exact f9 h)), (fun _ => ⟨w1z.heap.size, rfl, f0.size, by rw [set_other (by decide), h10]; exact Blk.new _ _ _⟩), (fun h => set_self hr)⟩
        · have h10 := ready_not hr
          have ha := ready_dep hr (d := 9) (by kernel_rfl)
          obtain ⟨b, eb, hb, hB⟩ := f10 ha
          rw [h10] at hB
          have q0 := hB.cell 0 (v := .bool false) rfl
          have q1 := hB.cell 1 (v := .int .u64 0) rfl
          have q2 := hB.cell 2 (v := .int .u64 0) rfl
          have q3 := hB.free 0
          have q4 := hB.free 1
          have q5 := hB.free 2
          have q6 := hB.lt
          obtain rfl := f9 (ready_dep hr (d := 8) (by kernel_rfl))
          subst eb
          refine inv_op rfl (fun K hK => ?_)
          try simp only [Act.put, List.setIfInBounds_toArray, List.set_cons_zero, List.set_cons_succ]
          go_simp
          refine hK.out _ _ ⟨(.pointer (some ⟨b, 0, none⟩)), x47, x48, x49, x50, x51, x52, x53, x54, .agg #[.bool t3, .int .u64 h3, .int .u64 l3], (by simp only [Act.put, List.setIfInBounds_toArray, List.set_cons_zero, List.set_cons_succ]), (((f0.setCell hb _).setCell hb _).setCell hb _), (fun h => by first | exact f1 (by rwa [set_other (by decide)] at h) | (rw [set_other (by decide)] at h ⊢; exact f1 h)), (fun h => by first | exact f2 (by rwa [set_other (by decide)] at h) | (rw [set_other (by decide)] at h ⊢; exact f2 h)), (fun h => by first | exact f3 (by rwa [set_other (by decide)] at h) | (rw [set_other (by decide)] at h ⊢; exact f3 h)), (fun h => by first | exact f4 (by rwa [set_other (by decide)] at h) | (rw [set_other (by decide)] at h ⊢; exact f4 h)), (fun h => by first | exact f5 (by rwa [set_other (by decide)] at h) | (rw [set_other (by decide)] at h ⊢; exact f5 h)), (fun h => by first | exact f6 (by rwa [set_other (by decide)] at h) | (rw [set_other (by decide)] at h ⊢; exact f6 h)), (fun h => by first | exact f7 (by rwa [set_other (by decide)] at h) | (rw [set_other (by decide)] at h ⊢; exact f7 h)), (fun h => by first | exact f8 (by rwa [set_other (by decide)] at h) | (rw [set_other (by decide)] at h ⊢; exact f8 h)), (fun _ => rfl), (fun _ => ⟨b, rfl, hb, by rw [set_self hr]; exact ((hB.set_ 0 _).set_ 1 _).to 2 _ rfl⟩), (fun _ => by rw [set_other (by decide)]; exact ha)⟩
      case done =>
        intro L az w1z hI hall
        obtain ⟨x9, x47, x48, x49, x50, x51, x52, x53, x54, x55, rfl, f0, f1, f2, f3, f4, f5, f6, f7, f8, f9, f10, f11⟩ := hI
        subst haq
        simp only [Act.put, List.setIfInBounds_toArray, List.set_cons_zero, List.set_cons_succ]
        go_wp2_with fail
        go_meet
        obtain ⟨b9, e9, -, hB9⟩ := f10 (hall 9 (by decide))
        rw [hall 10 (by decide)] at hB9
        exact ⟨b9, e9, ⟨hB9, f0⟩⟩
    case rest =>
      obtain ⟨b9, rfl, HB9⟩ := hcut
      have HV := Kept.mk (HZ.out.new_ HB9.out.2)
      have HB := Kept.mk HB9.out.1
      clear HZ
      obtain ⟨S, hS⟩ : ∃ S, S = addN s1 s2 x1 x2 := ⟨_, rfl⟩
      obtain ⟨T, hT⟩ : ∃ T, T = addS s1 s2 x1 x2 := ⟨_, rfl⟩
      have HPS : Kept (plusS ⟨NAn, (d1 : Int)⟩ ⟨NBn, (d2 : Int)⟩ = (T, S)) := ⟨by
        unfold plusS
        dsimp only [Int.toNat_natCast]
        rw [hS, hT, HX1.out, HX2.out, HS1.out, HS2.out, HLE.out, HRI.out, HG.out]⟩
      have hSm : S < 340282366920938463463374607431768211456 := by
        rw [hS]; unfold addN; split
        · omega
        · split <;> omega
      obtain ⟨Sh, Sl, g1, g2, g3, hSl⟩ := words S
      have hSh : Sh < 18446744073709551616 := by omega
      have hwS : wv T S = .agg #[.bool T, .int .u64 (Sh : Int), .int .u64 (Sl : Int)] := by unfold wv; rw [g1, g2]
      have e := HW3.out
      rw [← hS, ← hT, hwS] at e
      injection e with e
      injection e with e
      injection e with e1 e
      injection e with e2 e
      injection e with e3 e
      injection e1 with e1
      injection e2 with e2 e2'
      injection e3 with e3 e3'
      subst e1 e2' e3'
      clear e e2 e3 hS hT
      have HSW := Kept.mk g3
      clear g1 g2 g3
      have HRQ : Kept (R = Value.tuple #[rqv (plusR ⟨NAn, (d1 : Int)⟩ ⟨NBn, (d2 : Int)⟩).1, .int .i64 (plusR ⟨NAn, (d1 : Int)⟩ ⟨NBn, (d2 : Int)⟩).2]) := ⟨by rw [HRR.out, HNA.out, HNB.out]⟩
      have q0 := HB.out.cell 0 (v := .bool T) rfl
      have q1 := HB.out.cell 1 (v := .int .u64 (Sh : Int)) rfl
      have q2 := HB.out.cell 2 (v := .int .u64 (Sl : Int)) rfl
      have q3 := HB.out.lt
      by_cases hS0 : S = 0
      · obtain ⟨rfl, rfl⟩ : Sh = 0 ∧ Sl = 0 := by have := HSW.out; omega
        subst hS0
        have HPR : Kept (plusR ⟨NAn, (d1 : Int)⟩ ⟨NBn, (d2 : Int)⟩ = (⟨0, 1⟩, 0)) := ⟨by unfold plusR; rw [HPS.out]; rfl⟩
        go_upto_region 8 with fail
        obtain ⟨U, hU, HU⟩ : ∃ U, U = wc ∧ Kept (A2 w U ⟨NAn, d1⟩ ⟨NBn, d2⟩) := ⟨_, rfl, ⟨HV.out⟩⟩
        rw [← hU]
        clear hU q0 q1 q2 q3
        have z0 := HU.out.z.cell 0 (v := .int .i64 0) rfl
        have z1 := HU.out.z.cell 1 (v := .int .i64 0) rfl
        have zf0 := HU.out.z.free 0
        have zf1 := HU.out.z.free 1
        have lz := HU.out.z.lt
        go_wp2_with fail
        obtain ⟨W9, hW9, s0, s1, hb⟩ := HU.out.fin (.int .i64 0) (.int .i64 1)
        rw [← hW9]
        clear hW9
        rw [HRQ.out, HPR.out]
        exact bodyPost_ret (v := .tuple #[.agg #[.int .i64 0, .int .i64 1], .int .i64 0]) (by simp [results, Try.results26, go_sem, s0, s1]) rfl ⟨rfl, hb⟩
      · have hcz : ((Sh : Int) == 0) = false ∨ ((Sh : Int) == 0) = true ∧ ((Sl : Int) == 0) = false := by
          have := HSW.out
          by_cases q : Sh = 0
          · right; subst q; exact ⟨rfl, beq_false_of_ne (by omega)⟩
          · left; exact beq_false_of_ne (by omega)
        have HS0 := Kept.mk hS0
        clear hS0
        go_upto_region 7 with fail
        obtain ⟨V0, hV0⟩ : ∃ V, V = wc := ⟨_, rfl⟩
        rw [← hV0] at HV HB q0 q1 q2 q3 ⊢
        clear hV0
        go_cut [63] (fun s63 wx => s63 = .bool false ∧ wx = V0)
        case first =>
          rcases hcz with y1 | ⟨y1, y2⟩
          all_goals
            go_wp2_with fail
            go_meet
            exact ⟨rfl, rfl⟩
        case rest =>
          obtain ⟨rfl, hwc⟩ := hcut
          subst hwc
          clear hcz
          go_upto_region 9 with fail
          obtain ⟨cm, hcm⟩ : ∃ c, c = Nat.gcd g (S % g) := ⟨_, rfl⟩
          have hcm0 : 1 ≤ cm := by rw [hcm]; exact Nat.gcd_pos_of_pos_left _ (by omega)
          have hcm1 : cm ≤ g := by rw [hcm]; exact Nat.gcd_le_left _ (by omega)
          have hr0 : S % g < g := Nat.mod_lt _ (by omega)
          obtain ⟨r1, hr1⟩ : ∃ r, r = S % g := ⟨_, rfl⟩
          obtain ⟨y1, hy1⟩ : ∃ y, y = S / g := ⟨_, rfl⟩
          obtain ⟨y2, hy2⟩ : ∃ y, y = S / cm := ⟨_, rfl⟩
          obtain ⟨r2, hr2⟩ : ∃ y, y = S % cm := ⟨_, rfl⟩
          have DV1 := fun w => divide_g T S g w hSm (by omega) (by omega)
          have DV2 := fun w => divide_g T S cm w hSm (by omega) (by omega)
          obtain ⟨yh1, yl1, hwy1⟩ : ∃ h l : Nat, wv T y1 = .agg #[.bool T, .int .u64 (h : Int), .int .u64 (l : Int)] := ⟨_, _, rfl⟩
          obtain ⟨yh2, yl2, hwy2⟩ : ∃ h l : Nat, wv T y2 = .agg #[.bool T, .int .u64 (h : Int), .int .u64 (l : Int)] := ⟨_, _, rfl⟩
          have GG2 := fun w => gcd_c g r1 w (by omega) (by omega)
          rw [← hy1, ← hr1, hwS, hwy1] at DV1
          rw [← hy2, ← hr2, hwS, hwy2] at DV2
          replace hwy2 := Kept.mk hwy2
          clear hwy1 hwS
          rw [← hr1] at hcm hr0
          rw [← hcm] at GG2
          have tok1 : True := trivial
          obtain ⟨HR1, HY1, HY2, HR2, HCM⟩ : Kept (r1 = S % g) ∧ Kept (y1 = S / g) ∧ Kept (y2 = S / cm) ∧ Kept (r2 = S % cm) ∧ Kept (cm = Nat.gcd g r1) := ⟨⟨hr1⟩, ⟨hy1⟩, ⟨hy2⟩, ⟨hr2⟩, ⟨hcm⟩⟩
          clear hr1 hy1 hy2 hr2 hcm
          go_upto_region 11 with (first | (go_at_call 52; have _t := tok1; refine (DV1 _).mono ?_; rintro e w1 ⟨rfl, hb1⟩; clear tok1 _t) | (go_at_call 33; refine (GG2 _).mono ?_; rintro e w2 ⟨rfl, hb2⟩))
          have hj := join (hb1.alloc hb1.size (Obj.cells #[.bool T, .int .u64 (yh1 : Int), .int .u64 (yl1 : Int)] 76)) hb2.below
          have HV2 := Kept.mk (HV.out.new_ hj)
          have HB2 := Kept.mk (HB.out.new_ hj)
          clear hj hb1 hb2 q0 q1 q2 q3
          have q0 := HB2.out.cell 0 (v := .bool T) rfl
          have q1 := HB2.out.cell 1 (v := .int .u64 (Sh : Int)) rfl
          have q2 := HB2.out.cell 2 (v := .int .u64 (Sl : Int)) rfl
          have q3 := HB2.out.lt
          go_upto_region 12 with (go_at_call 52; refine (DV2 _).mono ?_; rintro e w3 ⟨rfl, hb3⟩)
          obtain ⟨U, hU, HU⟩ : ∃ U, U = w3.alloc (Obj.cells #[.bool T, .int .u64 (yh2 : Int), .int .u64 (yl2 : Int)] 76) ∧ Kept (A2 w U ⟨NAn, d1⟩ ⟨NBn, d2⟩ ∧ Blk U w3.heap.size 76 #[.bool T, .int .u64 (yh2 : Int), .int .u64 (yl2 : Int)]) := ⟨_, rfl, ⟨HV2.out.new_ (hb3.alloc hb3.size _), Blk.new _ _ _⟩⟩
          obtain ⟨bn, hbn⟩ : ∃ b, b = w3.heap.size := ⟨_, rfl⟩
          rw [← hU, ← hbn]
          rw [← hbn] at HU
          clear hU hbn hb3 q0 q1 q2 q3 HV2 HB2 HB HB9 HV
          obtain ⟨⟨k0, k1⟩, m0, m1⟩ := HU.out.1.cells
          dsimp only at k0 k1 m0 m1
          obtain ⟨v2, hv2⟩ : ∃ v, v = d2 / cm := ⟨_, rfl⟩
          have q4 : IntKind.u64.wrap ((d2 : Int) / (cm : Int)) = (v2 : Int) := by rw [hv2, ← Int.natCast_ediv]; exact wN (by have := Nat.div_le_self d2 cm; omega)
          have hcz : ((cm : Int) == 0) = false := beq_false_of_ne (by omega)
          have hcz2 : ¬ (cm : Int) = 0 := by omega
          have hvb : v2 ≤ d2 := by rw [hv2]; exact Nat.div_le_self _ _
          have HV2 := Kept.mk hv2
          clear hv2
          obtain ⟨x9, hx9⟩ : ∃ x, x = le * v2 := ⟨_, rfl⟩
          have MU := fun w => mul64_c le v2 w (by omega) (by omega)
          have RS := fun w => result_c T false y2 x9 w
          obtain ⟨Q, hQ⟩ : ∃ Q, Q = resQ T false y2 x9 := ⟨_, rfl⟩
          obtain ⟨E, hE⟩ : ∃ E, E = resE y2 x9 := ⟨_, rfl⟩
          have HPR : Kept (plusR ⟨NAn, (d1 : Int)⟩ ⟨NBn, (d2 : Int)⟩ = (Q, E)) := ⟨by
            unfold plusR
            rw [HPS.out]
            dsimp only [Int.toNat_natCast]
            rw [if_neg HS0.out, ← HG.out, ← HR1.out, ← HCM.out, ← HY2.out, ← HLE.out, ← HV2.out, ← hx9, ← hQ, ← hE]⟩
          rw [← hx9] at MU
          rw [hwy2.out, ← hQ, ← hE] at RS
          unfold rqv at RS
          rw [wv] at RS
          obtain ⟨hh, hhh⟩ : ∃ x, x = x9 / 18446744073709551616 := ⟨_, rfl⟩
          obtain ⟨ll, hll⟩ : ∃ x, x = x9 % 18446744073709551616 := ⟨_, rfl⟩
          rw [← hhh, ← hll] at MU RS
          clear hx9 hhh hll hQ hE
          go_upto_region 13 with (first | (go_at_call 34; refine (S2 _).mono ?_; rintro e w4 ⟨rfl, rfl⟩) | (go_at_call 35; refine (MU _).mono ?_; rintro e w5 ⟨rfl, rfl⟩))
          have q0 := HU.out.2.cell 0 (v := .bool T) rfl
          have q1 := HU.out.2.cell 1 (v := .int .u64 (yh2 : Int)) rfl
          have q2 := HU.out.2.cell 2 (v := .int .u64 (yl2 : Int)) rfl
          have q3 := HU.out.2.lt
          have z0 := HU.out.1.z.cell 0 (v := .int .i64 0) rfl
          have z1 := HU.out.1.z.cell 1 (v := .int .i64 0) rfl
          have zf0 := HU.out.1.z.free 0
          have zf1 := HU.out.1.z.free 1
          have lz := HU.out.1.z.lt
          go_wp2_with (go_at_call 36; refine (RS _).mono ?_; rintro e w6 ⟨rfl, hb6⟩; have HU6 := Kept.mk (HU.out.1.new_ hb6); clear z0 z1 zf0 zf1 lz q0 q1 q2 q3; have z0 := HU6.out.z.cell 0 (v := .int .i64 0) rfl; have z1 := HU6.out.z.cell 1 (v := .int .i64 0) rfl; have zf0 := HU6.out.z.free 0; have zf1 := HU6.out.z.free 1; have lz := HU6.out.z.lt)
          obtain ⟨W9, hW9, s0, s1, hb⟩ := HU6.out.fin (.int .i64 Q.n) (.int .i64 Q.d)
          rw [← hW9]
          clear hW9
          rw [HRQ.out, HPR.out]
          exact bodyPost_ret (v := .tuple #[.agg #[.int .i64 Q.n, .int .i64 Q.d], .int .i64 E]) (by simp [results, Try.results26, go_sem, s0, s1]) rfl ⟨rfl, hb⟩
end Go.Proofs.Ytjalegdfofogcaa
