/- Rational numbers: the comparison. -/
import Derived.Test.YtjalegdfofogcaaRatB
import Derived.Test.YtjalegdfofogcaaRegI
namespace Go.Proofs.Ytjalegdfofogcaa
set_option linter.unusedVariables false
set_option linter.unusedSimpArgs false
open Go.RowKit
/-- Two boxes with two numbers. -/
structure B2 (w W : World) (a b : Rq) : Prop where
  x : Blk W w.heap.size 32 #[.int .i64 a.n, .int .i64 a.d]
  y : Blk W (w.heap.size + 1) 32 #[.int .i64 b.n, .int .i64 b.d]
  blw : Below w.heap.size w W
theorem B2.new_ {w W W' : World} {a b : Rq} (h : B2 w W a b) (hb : Below W.heap.size W W') : B2 w W' a b := ⟨h.x.new_ hb, h.y.new_ hb, join h.blw hb⟩
theorem B2.start (w : World) (a b : Rq) : B2 w ((w.alloc (.cells #[.int .i64 a.n, .int .i64 a.d] 32)).alloc (.cells #[.int .i64 b.n, .int .i64 b.d] 32)) a b := by
  have h := Blk.new (w.alloc (.cells #[.int .i64 a.n, .int .i64 a.d] 32)) 32 #[.int .i64 b.n, .int .i64 b.d]
  rw [World.size_alloc] at h
  exact ⟨(Blk.new _ _ _).alloc _, h, by go_grown⟩
theorem B2.cells {w W : World} {a b : Rq} (h : B2 w W a b) : (W.cell? ⟨w.heap.size, 0, none⟩ = some (.int .i64 a.n) ∧ W.cell? ⟨w.heap.size, 1, none⟩ = some (.int .i64 a.d)) ∧ (W.cell? ⟨w.heap.size + 1, 0, none⟩ = some (.int .i64 b.n) ∧ W.cell? ⟨w.heap.size + 1, 1, none⟩ = some (.int .i64 b.d)) :=
  ⟨⟨h.x.cell 0 rfl, h.x.cell 1 rfl⟩, h.y.cell 0 rfl, h.y.cell 1 rfl⟩
theorem B2.put {w W : World} {a b a' b' : Rq} (h : B2 w W a b) :
    B2 w ((((W.setCell ⟨w.heap.size, 0, none⟩ (.int .i64 a'.n)).setCell ⟨w.heap.size, 1, none⟩ (.int .i64 a'.d)).setCell ⟨w.heap.size + 1, 0, none⟩ (.int .i64 b'.n)).setCell ⟨w.heap.size + 1, 1, none⟩ (.int .i64 b'.d)) a' b' :=
  ⟨((((h.x.set_ 0 _).to 1 _ rfl).far (by simp only; omega) _).far (by simp only; omega) _), (((h.y.far (by simp only; omega) _).far (by simp only; omega) _).set_ 0 _).to 1 _ rfl,
    (((h.blw.setCell (Nat.le_refl _) _).setCell (Nat.le_refl _) _).setCell (by simp only; omega) _).setCell (by simp only; omega) _⟩
theorem B2.put1 {w W : World} {a b a' : Rq} (h : B2 w W a b) : B2 w ((W.setCell ⟨w.heap.size, 0, none⟩ (.int .i64 a'.n)).setCell ⟨w.heap.size, 1, none⟩ (.int .i64 a'.d)) a' b :=
  ⟨(h.x.set_ 0 _).to 1 _ rfl, (h.y.far (by simp only; omega) _).far (by simp only; omega) _, (h.blw.setCell (Nat.le_refl _) _).setCell (Nat.le_refl _) _⟩
theorem B2.put2 {w W : World} {a b b' : Rq} (h : B2 w W a b) : B2 w ((W.setCell ⟨w.heap.size + 1, 0, none⟩ (.int .i64 b'.n)).setCell ⟨w.heap.size + 1, 1, none⟩ (.int .i64 b'.d)) a b' :=
  ⟨(h.x.far (by simp only; omega) _).far (by simp only; omega) _, (h.y.set_ 0 _).to 1 _ rfl, (h.blw.setCell (by simp only; omega) _).setCell (by simp only; omega) _⟩
def R64 (x : Int) : Prop := -9223372036854775808 ≤ x ∧ x ≤ 9223372036854775807
def sgn (x y : Int) : Int := if x < y then -1 else if x = y then 0 else 1
/-- The comparison as the program makes it. -/
def cmpQ (a b : Rq) : Int := if okQ a && okQ b then sgn ((normQ a).n * (normQ b).d) ((normQ b).n * (normQ a).d) else 0
theorem okQ_bd {a : Rq} (h : okQ a = true) : -1152921504606846976 ≤ (normQ a).n ∧ (normQ a).n ≤ 1152921504606846976 ∧ 1 ≤ (normQ a).d ∧ (normQ a).d ≤ 1152921504606846976 := by
  unfold okQ at h
  unfold normQ
  simp only [Bool.or_eq_true, Bool.and_eq_true, decide_eq_true_eq, beq_iff_eq] at h
  rcases h with ⟨h1, h2⟩ | ⟨⟨⟨⟨h1, h2⟩, h3⟩, h4⟩, h5⟩
  · rw [if_pos h2]; simp only; omega
  · rw [if_neg (by omega)]; omega
theorem prod_pos {n e : Int} (hn : 0 ≤ n) (he : 1 ≤ e) : n * e = ((n.natAbs * e.natAbs : Nat) : Int) := by
  rw [Int.natCast_mul]
  congr 1 <;> omega
theorem prod_neg {n e : Int} (hn : n < 0) (he : 1 ≤ e) : n * e = -((n.natAbs * e.natAbs : Nat) : Int) := by
  rw [Int.natCast_mul, ← Int.neg_mul]
  congr 1 <;> omega
theorem natMul_pos {n e : Int} (hn : n < 0) (he : 1 ≤ e) : 0 < n.natAbs * e.natAbs := Nat.mul_pos (by omega) (by omega)
theorem sgn_pp {n m d e : Int} (hn : 0 ≤ n) (hm : 0 ≤ m) (hd : 1 ≤ d) (he : 1 ≤ e) : cmpN (n.natAbs * e.natAbs) (m.natAbs * d.natAbs) = sgn (n * e) (m * d) := by
  rw [prod_pos hn he, prod_pos hm hd]
  generalize n.natAbs * e.natAbs = X
  generalize m.natAbs * d.natAbs = Y
  unfold cmpN sgn
  split <;> split <;> first | rfl | omega | (split <;> split <;> first | rfl | omega) | (split <;> first | rfl | omega)
theorem sgn_nn {n m d e : Int} (hn : n < 0) (hm : m < 0) (hd : 1 ≤ d) (he : 1 ≤ e) : cmpN (m.natAbs * d.natAbs) (n.natAbs * e.natAbs) = sgn (n * e) (m * d) := by
  rw [prod_neg hn he, prod_neg hm hd]
  generalize n.natAbs * e.natAbs = X
  generalize m.natAbs * d.natAbs = Y
  unfold cmpN sgn
  split <;> split <;> first | rfl | omega | (split <;> split <;> first | rfl | omega) | (split <;> first | rfl | omega)
theorem sgn_np {n m d e : Int} (hn : n < 0) (hm : 0 ≤ m) (hd : 1 ≤ d) (he : 1 ≤ e) : sgn (n * e) (m * d) = -1 := by
  rw [prod_neg hn he, prod_pos hm hd]
  have := natMul_pos hn he
  unfold sgn
  rw [if_pos (by omega)]
theorem sgn_pn {n m d e : Int} (hn : 0 ≤ n) (hm : m < 0) (hd : 1 ≤ d) (he : 1 ≤ e) : sgn (n * e) (m * d) = 1 := by
  rw [prod_pos hn he, prod_neg hm hd]
  have := natMul_pos hm hd
  unfold sgn
  rw [if_neg (by omega), if_neg (by omega)]
theorem wv_sign {s t : Bool} {x : Nat} {h l : Int} (e : wv s x = .agg #[.bool t, .int .u64 h, .int .u64 l]) : t = s := by
  unfold wv at e
  injection e with e
  injection e with e
  injection e with e _
  injection e with e
  exact e.symm
set_option maxRecDepth 100000 in
set_option maxHeartbeats 4000000 in
theorem cmp_c (a b : Rq) (w : World) (a0 : R64 a.n) (a1 : R64 a.d) (b0 : R64 b.n) (b1 : R64 b.d) : Calls Try.prog 9 #[rqv a, rqv b] w fun e w' => e = .returned (.int .i64 (cmpQ a b)) ∧ Below w.heap.size w w' := by
  have V1 := fun w => valid_c a w a0.1 a0.2 a1.1 a1.2
  have V2 := fun w => valid_c b w b0.1 b0.2 b1.1 b1.2
  unfold rqv
  go_enter Try.func9, Try.ntmps9
  go_upto_region 1 with fail
  obtain ⟨X, hX, HX⟩ : ∃ X, X = (w.alloc (.cells #[.int .i64 a.n, .int .i64 a.d] 32)).alloc (.cells #[.int .i64 b.n, .int .i64 b.d] 32) ∧ Kept (B2 w X a b) := ⟨_, rfl, ⟨B2.start w a b⟩⟩
  rw [← hX]
  clear hX
  obtain ⟨⟨k0, k1⟩, m0, m1⟩ := HX.out.cells
  have tok1 : True := trivial
  have tok2 : True := trivial
  cases hA : okQ a with
  | false =>
    have HC : Kept (cmpQ a b = 0) := ⟨by unfold cmpQ; rw [hA]; rfl⟩
    go_wp2_with (go_at_call 22; have _t := tok1; refine (V1 _).mono ?_; rintro e w1 ⟨rfl, hb1⟩; rw [hA]; have HJ := Kept.mk (join HX.out.blw hb1); clear hb1 tok1 _t)
    go_ret
    exact ⟨ret_int (by rw [HC.out]), HJ.out⟩
  | true =>
    cases hB : okQ b with
    | false =>
      have HC : Kept (cmpQ a b = 0) := ⟨by unfold cmpQ; rw [hA, hB]; rfl⟩
      go_upto_region 2 with (first | (go_at_call 22; have _t := tok1; refine (V1 _).mono ?_; rintro e w1 ⟨rfl, hb1⟩; rw [hA]; have HX1 := Kept.mk (HX.out.new_ hb1); clear hb1 tok1 _t k0 k1 m0 m1; obtain ⟨⟨k0, k1⟩, m0, m1⟩ := HX1.out.cells; have tok3 : True := trivial) | (go_at_call 22; have _t := tok3; refine (V2 _).mono ?_; rintro e w2 ⟨rfl, hb2⟩; rw [hB]; have HJ := Kept.mk (join HX1.out.blw hb2); clear hb2 tok3 _t))
      go_wp2_with fail
      go_ret
      exact ⟨ret_int (by rw [HC.out]), HJ.out⟩
    | true =>
      have HBA := Kept.mk (okQ_bd hA)
      have HBB := Kept.mk (okQ_bd hB)
      have HC : Kept (cmpQ a b = sgn ((normQ a).n * (normQ b).d) ((normQ b).n * (normQ a).d)) := ⟨by unfold cmpQ; rw [hA, hB]; rfl⟩
      go_upto_region 3 with (first | (go_at_call 22; have _t := tok1; refine (V1 _).mono ?_; rintro e w1 ⟨rfl, hb1⟩; rw [hA]; have HX1 := Kept.mk (HX.out.new_ hb1); clear hb1 tok1 _t k0 k1 m0 m1; obtain ⟨⟨k0, k1⟩, m0, m1⟩ := HX1.out.cells; have tok3 : True := trivial) | (go_at_call 22; have _t := tok3; refine (V2 _).mono ?_; rintro e w2 ⟨rfl, hb2⟩; rw [hB]; have HX2 := Kept.mk (HX1.out.new_ hb2); clear hb2 tok3 _t k0 k1 m0 m1; obtain ⟨⟨k0, k1⟩, m0, m1⟩ := HX2.out.cells))
      go_cut [] (fun wx => Kept (B2 w wx (normQ a) (normQ b)))
      case first =>
        refine with_act fun aq haq => ?_
        refine wp_region_inv (fun L az w1z => ∃ (x15 x16 x17 x18 : Value), az = ((((aq.put (some 15) x15).put (some 16) x16).put (some 17) x17).put (some 18) x18) ∧ (B2 w w1z (if L.getD 4 false = true then normQ a else a) (if L.getD 5 false = true then normQ b else b)) ∧ (L.getD 0 false = true → x15 = .agg #[.int .i64 a.n, .int .i64 a.d]) ∧ (L.getD 1 false = true → x16 = .agg #[.int .i64 (normQ a).n, .int .i64 (normQ a).d]) ∧ (L.getD 2 false = true → x17 = .agg #[.int .i64 b.n, .int .i64 b.d]) ∧ (L.getD 3 false = true → x18 = .agg #[.int .i64 (normQ b).n, .int .i64 (normQ b).d]) ∧ (L.getD 4 false = true → ∀ j, j < 4 → L.getD j false = true) ∧ (L.getD 5 false = true → L.getD 4 false = true) ∧ (L.getD 3 false = true → L.getD 2 false = true)) (by kernel_rfl) (by kernel_rfl) ?start ?oper ?done
        case start =>
          refine ⟨aq.tmps.getD 15 undef, aq.tmps.getD 16 undef, aq.tmps.getD 17 undef, aq.tmps.getD 18 undef, by subst haq; simp only [Act.put, List.setIfInBounds_toArray, List.set_cons_zero, List.set_cons_succ, Array.getD_eq_getD_getElem?, List.getElem?_toArray, List.getElem?_cons_zero, List.getElem?_cons_succ, Option.getD_some], by rw [show (Array.replicate _ false).getD 4 false = false from rfl]; exact HX2.out.new_ (dN (Below.refl w2.heap.size w2) 1), none_yet, none_yet, none_yet, none_yet, none_yet, none_yet, none_yet⟩
        case oper =>
          intro L az w1z i hI hr
          obtain ⟨x15, x16, x17, x18, rfl, f0, f1, f2, f3, f4, f5, f6, f7⟩ := hI
          subst haq
          have hi : i < 6 := ready_lt hr
          have hcase : i = 0 ∨ i = 1 ∨ i = 2 ∨ i = 3 ∨ i = 4 ∨ i = 5 := by omega
          clear hi
          rcases hcase with rfl | rfl | rfl | rfl | rfl | rfl
          · have h4 : L.getD 4 false = false := by
              cases hh : L.getD 4 false with
              | false => rfl
              | true => exact absurd (f5 hh 0 (by omega)) (by rw [ready_not hr]; decide)
            have h5 : L.getD 5 false = false := by
              cases hh : L.getD 5 false with
              | false => rfl
              | true => exact absurd (f6 hh) (by rw [h4]; decide)
            rw [h4, h5] at f0
            obtain ⟨⟨k0, k1⟩, m0, m1⟩ := f0.cells
            refine inv_op rfl (fun K hK => ?_)
            try simp only [Act.put, List.setIfInBounds_toArray, List.set_cons_zero, List.set_cons_succ]
            go_simp
            refine hK.out _ _ ⟨.agg #[.int .i64 a.n, .int .i64 a.d], x16, x17, x18, (by simp only [Act.put, List.setIfInBounds_toArray, List.set_cons_zero, List.set_cons_succ]), (by rw [set_other (by decide), set_other (by decide), h4, h5]; exact f0), (fun _ => rfl), (fun h => by first | exact f2 (by rwa [set_other (by decide)] at h) | (rw [set_other (by decide)] at h ⊢; exact f2 h)), (fun h => by first | exact f3 (by rwa [set_other (by decide)] at h) | (rw [set_other (by decide)] at h ⊢; exact f3 h)), (fun h => by first | exact f4 (by rwa [set_other (by decide)] at h) | (rw [set_other (by decide)] at h ⊢; exact f4 h)), (fun h => absurd h (by rw [set_other (by decide), h4]; decide)), (fun h => absurd h (by rw [set_other (by decide), h5]; decide)), (fun h => by first | exact f7 (by rwa [set_other (by decide)] at h) | (rw [set_other (by decide)] at h ⊢; exact f7 h))⟩
          · have h4 : L.getD 4 false = false := by
              cases hh : L.getD 4 false with
              | false => rfl
              | true => exact absurd (f5 hh 1 (by omega)) (by rw [ready_not hr]; decide)
            have h5 : L.getD 5 false = false := by
              cases hh : L.getD 5 false with
              | false => rfl
              | true => exact absurd (f6 hh) (by rw [h4]; decide)
            rw [h4, h5] at f0
            obtain rfl := f1 (ready_dep hr (d := 0) (by kernel_rfl))
            refine inv_op rfl (fun K hK => ?_)
            try simp only [Act.put, List.setIfInBounds_toArray, List.set_cons_zero, List.set_cons_succ]
            go_simp
            refine (normal_c a _).mono ?_
            rintro e w9 ⟨rfl, hb9⟩
            unfold rqv
            try go_wp2_with fail
            refine hK.out _ _ ⟨.agg #[.int .i64 a.n, .int .i64 a.d], .agg #[.int .i64 (normQ a).n, .int .i64 (normQ a).d], x17, x18, (by simp only [Act.put, List.setIfInBounds_toArray, List.set_cons_zero, List.set_cons_succ]), (by rw [set_other (by decide), set_other (by decide), h4, h5]; exact f0.new_ hb9), (fun _ => rfl), (fun _ => rfl), (fun h => by first | exact f3 (by rwa [set_other (by decide)] at h) | (rw [set_other (by decide)] at h ⊢; exact f3 h)), (fun h => by first | exact f4 (by rwa [set_other (by decide)] at h) | (rw [set_other (by decide)] at h ⊢; exact f4 h)), (fun h => absurd h (by rw [set_other (by decide), h4]; decide)), (fun h => absurd h (by rw [set_other (by decide), h5]; decide)), (fun h => by first | exact f7 (by rwa [set_other (by decide)] at h) | (rw [set_other (by decide)] at h ⊢; exact f7 h))⟩
          · have h4 : L.getD 4 false = false := by
              cases hh : L.getD 4 false with
              | false => rfl
              | true => exact absurd (f5 hh 2 (by omega)) (by rw [ready_not hr]; decide)
            have h5 : L.getD 5 false = false := by
              cases hh : L.getD 5 false with
              | false => rfl
              | true => exact absurd (f6 hh) (by rw [h4]; decide)
            rw [h4, h5] at f0
            obtain ⟨⟨k0, k1⟩, m0, m1⟩ := f0.cells
            refine inv_op rfl (fun K hK => ?_)
            try simp only [Act.put, List.setIfInBounds_toArray, List.set_cons_zero, List.set_cons_succ]
            go_simp
            refine hK.out _ _ ⟨x15, x16, .agg #[.int .i64 b.n, .int .i64 b.d], x18, (by simp only [Act.put, List.setIfInBounds_toArray, List.set_cons_zero, List.set_cons_succ]), (by rw [set_other (by decide), set_other (by decide), h4, h5]; exact f0), (fun h => by first | exact f1 (by rwa [set_other (by decide)] at h) | (rw [set_other (by decide)] at h ⊢; exact f1 h)), (fun h => by first | exact f2 (by rwa [set_other (by decide)] at h) | (rw [set_other (by decide)] at h ⊢; exact f2 h)), (fun _ => rfl), (fun h => by first | exact f4 (by rwa [set_other (by decide)] at h) | (rw [set_other (by decide)] at h ⊢; exact f4 h)), (fun h => absurd h (by rw [set_other (by decide), h4]; decide)), (fun h => absurd h (by rw [set_other (by decide), h5]; decide)), (fun _ => set_self hr)⟩
          · have h4 : L.getD 4 false = false := by
              cases hh : L.getD 4 false with
              | false => rfl
              | true => exact absurd (f5 hh 3 (by omega)) (by rw [ready_not hr]; decide)
            have h5 : L.getD 5 false = false := by
              cases hh : L.getD 5 false with
              | false => rfl
              | true => exact absurd (f6 hh) (by rw [h4]; decide)
            rw [h4, h5] at f0
            obtain rfl := f3 (ready_dep hr (d := 2) (by kernel_rfl))
            refine inv_op rfl (fun K hK => ?_)
            try simp only [Act.put, List.setIfInBounds_toArray, List.set_cons_zero, List.set_cons_succ]
            go_simp
            refine (normal_c b _).mono ?_
            rintro e w9 ⟨rfl, hb9⟩
            unfold rqv
            try go_wp2_with fail
            refine hK.out _ _ ⟨x15, x16, .agg #[.int .i64 b.n, .int .i64 b.d], .agg #[.int .i64 (normQ b).n, .int .i64 (normQ b).d], (by simp only [Act.put, List.setIfInBounds_toArray, List.set_cons_zero, List.set_cons_succ]), (by rw [set_other (by decide), set_other (by decide), h4, h5]; exact f0.new_ hb9), (fun h => by first | exact f1 (by rwa [set_other (by decide)] at h) | (rw [set_other (by decide)] at h ⊢; exact f1 h)), (fun h => by first | exact f2 (by rwa [set_other (by decide)] at h) | (rw [set_other (by decide)] at h ⊢; exact f2 h)), (fun _ => rfl), (fun _ => rfl), (fun h => absurd h (by rw [set_other (by decide), h4]; decide)), (fun h => absurd h (by rw [set_other (by decide), h5]; decide)), (fun _ => by rw [set_other (by decide)]; exact ready_dep hr (by kernel_rfl))⟩
          · have h4 := ready_not hr
            have h5 : L.getD 5 false = false := by
              cases hh : L.getD 5 false with
              | false => rfl
              | true => exact absurd (f6 hh) (by rw [h4]; decide)
            rw [h4, h5] at f0
            obtain ⟨⟨k0, k1⟩, m0, m1⟩ := f0.cells
            have q0 := f0.x.free 0
            have q1 := f0.x.free 1
            have lx := f0.x.lt
            obtain rfl := f2 (ready_dep hr (d := 1) (by kernel_rfl))
            have hj0 := ready_dep hr (d := 0) (by kernel_rfl)
            have hj1 := ready_dep hr (d := 1) (by kernel_rfl)
            have hj3 := ready_dep hr (d := 3) (by kernel_rfl)
            have hj2 := f7 hj3
            obtain rfl := f1 hj0
            obtain rfl := f3 hj2
            obtain rfl := f4 hj3
            refine inv_op rfl (fun K hK => ?_)
            try simp only [Act.put, List.setIfInBounds_toArray, List.set_cons_zero, List.set_cons_succ]
            go_simp
            refine hK.out _ _ ⟨.agg #[.int .i64 a.n, .int .i64 a.d], .agg #[.int .i64 (normQ a).n, .int .i64 (normQ a).d], .agg #[.int .i64 b.n, .int .i64 b.d], .agg #[.int .i64 (normQ b).n, .int .i64 (normQ b).d], (by simp only [Act.put, List.setIfInBounds_toArray, List.set_cons_zero, List.set_cons_succ]), (by rw [set_self hr, set_other (by decide), h5]; exact f0.put1), (fun _ => rfl), (fun _ => rfl), (fun _ => rfl), (fun _ => rfl), (fun _ j hj => by rcases (by omega : j = 0 ∨ j = 1 ∨ j = 2 ∨ j = 3) with rfl | rfl | rfl | rfl <;> (rw [set_other (by decide)]; first | exact hj2 | exact hj0 | exact hj1 | exact hj3)), (fun _ => set_self hr), (fun h => by first | exact f7 (by rwa [set_other (by decide)] at h) | (rw [set_other (by decide)] at h ⊢; exact f7 h))⟩
          · have h5 := ready_not hr
            have h4 := ready_dep hr (d := 4) (by kernel_rfl)
            rw [h4, h5] at f0
            obtain ⟨⟨k0, k1⟩, m0, m1⟩ := f0.cells
            have q0 := f0.y.free 0
            have q1 := f0.y.free 1
            have lx := f0.y.lt
            obtain rfl := f4 (ready_dep hr (d := 3) (by kernel_rfl))
            obtain rfl := f1 (f5 h4 0 (by omega))
            obtain rfl := f2 (f5 h4 1 (by omega))
            obtain rfl := f3 (f5 h4 2 (by omega))
            refine inv_op rfl (fun K hK => ?_)
            try simp only [Act.put, List.setIfInBounds_toArray, List.set_cons_zero, List.set_cons_succ]
            go_simp
            refine hK.out _ _ ⟨.agg #[.int .i64 a.n, .int .i64 a.d], .agg #[.int .i64 (normQ a).n, .int .i64 (normQ a).d], .agg #[.int .i64 b.n, .int .i64 b.d], .agg #[.int .i64 (normQ b).n, .int .i64 (normQ b).d], (by simp only [Act.put, List.setIfInBounds_toArray, List.set_cons_zero, List.set_cons_succ]), (by rw [set_self hr, set_other (by decide), h4]; exact f0.put2), (fun _ => rfl), (fun _ => rfl), (fun _ => rfl), (fun _ => rfl), (fun _ j hj => by rw [set_other (by omega)]; exact f5 h4 j hj), (fun _ => by rw [set_other (by decide)]; exact h4), (fun h => by first | exact f7 (by rwa [set_other (by decide)] at h) | (rw [set_other (by decide)] at h ⊢; exact f7 h))⟩
        case done =>
          intro L az w1z hI hall
          obtain ⟨x15, x16, x17, x18, rfl, f0, f1, f2, f3, f4, f5, f6, f7⟩ := hI
          subst haq
          simp only [Act.put, List.setIfInBounds_toArray, List.set_cons_zero, List.set_cons_succ]
          go_wp2_with fail
          go_meet
          have hh4 := hall 4 (by decide)
          have hh5 := hall 5 (by decide)
          rw [hh4, hh5] at f0
          exact ⟨f0⟩
      case rest =>
        replace HX2 := hcut
        clear hcut k0 k1 m0 m1 HX HX1
        obtain ⟨⟨k0, k1⟩, m0, m1⟩ := HX2.out.cells
        obtain ⟨NA, hna⟩ : ∃ NA, NA = normQ a := ⟨_, rfl⟩
        obtain ⟨NB, hnb⟩ : ∃ NB, NB = normQ b := ⟨_, rfl⟩
        rw [← hna, ← hnb] at HX2 HC
        rw [← hna] at HBA k0 k1
        rw [← hnb] at HBB m0 m1
        clear hna hnb
        obtain ⟨n1, n2, n3, n4⟩ := HBA.out
        obtain ⟨p1, p2, p3, p4⟩ := HBB.out
        obtain ⟨s1, h1, l1, hw1⟩ : ∃ s h l, wv (decide (NA.n < 0)) (NA.n.natAbs * NB.d.natAbs) = .agg #[.bool s, .int .u64 h, .int .u64 l] := ⟨_, _, _, rfl⟩
        obtain ⟨s2, h2, l2, hw2⟩ : ∃ s h l, wv (decide (NB.n < 0)) (NB.n.natAbs * NA.d.natAbs) = .agg #[.bool s, .int .u64 h, .int .u64 l] := ⟨_, _, _, rfl⟩
        have HW1 := Kept.mk hw1
        have HW2 := Kept.mk hw2
        clear hw1 hw2
        go_upto_region 4 with fail
        go_cut [5, 6] (fun s5 s6 wx => ∃ b5 b6 : Nat, s5 = .pointer (some ⟨b5, 0, none⟩) ∧ s6 = .pointer (some ⟨b6, 0, none⟩) ∧ Kept (Blk wx b5 76 #[.bool s1, .int .u64 h1, .int .u64 l1] ∧ Blk wx b6 76 #[.bool s2, .int .u64 h2, .int .u64 l2] ∧ Below wc.heap.size wc wx))
        case first =>
          refine with_act fun aq haq => ?_
          refine wp_region_inv (fun L az w1z => ∃ (x5 x6 x19 x20 x21 x22 x23 x24 x25 x26 x27 x28 x29 x30 : Value), az = ((((((((((((((aq.put (some 5) x5).put (some 6) x6).put (some 19) x19).put (some 20) x20).put (some 21) x21).put (some 22) x22).put (some 23) x23).put (some 24) x24).put (some 25) x25).put (some 26) x26).put (some 27) x27).put (some 28) x28).put (some 29) x29).put (some 30) x30) ∧ (Below wc.heap.size wc w1z) ∧ (L.getD 0 false = true → x19 = .pointer (some ⟨w.heap.size, 0, none⟩)) ∧ (L.getD 1 false = true → x20 = .int .i64 NA.n) ∧ (L.getD 2 false = true → x21 = .pointer (some ⟨w.heap.size + 1, 1, none⟩)) ∧ (L.getD 3 false = true → x22 = .int .i64 NB.d) ∧ (L.getD 4 false = true → x23 = .int .u64 NB.d.natAbs) ∧ (L.getD 5 false = true → x24 = .agg #[.bool s1, .int .u64 h1, .int .u64 l1]) ∧ (L.getD 6 false = true → x25 = .pointer (some ⟨w.heap.size + 1, 0, none⟩)) ∧ (L.getD 7 false = true → x26 = .int .i64 NB.n) ∧ (L.getD 8 false = true → x27 = .pointer (some ⟨w.heap.size, 1, none⟩)) ∧ (L.getD 9 false = true → x28 = .int .i64 NA.d) ∧ (L.getD 10 false = true → x29 = .int .u64 NA.d.natAbs) ∧ (L.getD 11 false = true → x30 = .agg #[.bool s2, .int .u64 h2, .int .u64 l2]) ∧ (L.getD 12 false = true → ∃ b : Nat, x5 = .pointer (some ⟨b, 0, none⟩) ∧ wc.heap.size ≤ b ∧ Blk w1z b 76 (if L.getD 14 false = true then #[.bool s1, .int .u64 h1, .int .u64 l1] else #[.bool false, .int .u64 0, .int .u64 0])) ∧ (L.getD 13 false = true → ∃ b : Nat, x6 = .pointer (some ⟨b, 0, none⟩) ∧ wc.heap.size ≤ b ∧ Blk w1z b 76 (if L.getD 15 false = true then #[.bool s2, .int .u64 h2, .int .u64 l2] else #[.bool false, .int .u64 0, .int .u64 0])) ∧ (L.getD 12 false = true → L.getD 13 false = true → ∀ b b6 : Nat, x5 = .pointer (some ⟨b, 0, none⟩) → x6 = .pointer (some ⟨b6, 0, none⟩) → b ≠ b6) ∧ (L.getD 14 false = true → L.getD 12 false = true) ∧ (L.getD 15 false = true → L.getD 13 false = true)) (by kernel_rfl) (by kernel_rfl) ?start ?oper ?done
          case start =>
            refine ⟨aq.tmps.getD 5 undef, aq.tmps.getD 6 undef, aq.tmps.getD 19 undef, aq.tmps.getD 20 undef, aq.tmps.getD 21 undef, aq.tmps.getD 22 undef, aq.tmps.getD 23 undef, aq.tmps.getD 24 undef, aq.tmps.getD 25 undef, aq.tmps.getD 26 undef, aq.tmps.getD 27 undef, aq.tmps.getD 28 undef, aq.tmps.getD 29 undef, aq.tmps.getD 30 undef, by subst haq; simp only [Act.put, List.setIfInBounds_toArray, List.set_cons_zero, List.set_cons_succ, Array.getD_eq_getD_getElem?, List.getElem?_toArray, List.getElem?_cons_zero, List.getElem?_cons_succ, Option.getD_some], dN (Below.refl wc.heap.size wc) 1, none_yet, none_yet, none_yet, none_yet, none_yet, none_yet, none_yet, none_yet, none_yet, none_yet, none_yet, none_yet, none_yet, none_yet, none_yet, none_yet, none_yet⟩
          case oper =>
            intro L az w1z i hI hr
            obtain ⟨x5, x6, x19, x20, x21, x22, x23, x24, x25, x26, x27, x28, x29, x30, rfl, f0, f1, f2, f3, f4, f5, f6, f7, f8, f9, f10, f11, f12, f13, f14, f15, f16, f17⟩ := hI
            subst haq
            have hi : i < 16 := ready_lt hr
            have hcase : i = 0 ∨ i = 1 ∨ i = 2 ∨ i = 3 ∨ i = 4 ∨ i = 5 ∨ i = 6 ∨ i = 7 ∨ i = 8 ∨ i = 9 ∨ i = 10 ∨ i = 11 ∨ i = 12 ∨ i = 13 ∨ i = 14 ∨ i = 15 := by omega
            clear hi
            rcases hcase with rfl | rfl | rfl | rfl | rfl | rfl | rfl | rfl | rfl | rfl | rfl | rfl | rfl | rfl | rfl | rfl
            · refine inv_op rfl (fun K hK => ?_)
              try simp only [Act.put, List.setIfInBounds_toArray, List.set_cons_zero, List.set_cons_succ]
              go_simp
              refine hK.out _ _ ⟨x5, x6, .pointer (some ⟨w.heap.size, 0, none⟩), x20, x21, x22, x23, x24, x25, x26, x27, x28, x29, x30, (by simp only [Act.put, List.setIfInBounds_toArray, List.set_cons_zero, List.set_cons_succ]), f0, (fun _ => rfl), (fun h => by first | exact f2 (by rwa [set_other (by decide)] at h) | (rw [set_other (by decide)] at h ⊢; exact f2 h)), (fun h => by first | exact f3 (by rwa [set_other (by decide)] at h) | (rw [set_other (by decide)] at h ⊢; exact f3 h)), (fun h => by first | exact f4 (by rwa [set_other (by decide)] at h) | (rw [set_other (by decide)] at h ⊢; exact f4 h)), (fun h => by first | exact f5 (by rwa [set_other (by decide)] at h) | (rw [set_other (by decide)] at h ⊢; exact f5 h)), (fun h => by first | exact f6 (by rwa [set_other (by decide)] at h) | (rw [set_other (by decide)] at h ⊢; exact f6 h)), (fun h => by first | exact f7 (by rwa [set_other (by decide)] at h) | (rw [set_other (by decide)] at h ⊢; exact f7 h)), (fun h => by first | exact f8 (by rwa [set_other (by decide)] at h) | (rw [set_other (by decide)] at h ⊢; exact f8 h)), (fun h => by first | exact f9 (by rwa [set_other (by decide)] at h) | (rw [set_other (by decide)] at h ⊢; exact f9 h)), (fun h => by first | exact f10 (by rwa [set_other (by decide)] at h) | (rw [set_other (by decide)] at h ⊢; exact f10 h)), (fun h => by first | exact f11 (by rwa [set_other (by decide)] at h) | (rw [set_other (by decide)] at h ⊢; exact f11 h)), (fun h => by first | exact f12 (by rwa [set_other (by decide)] at h) | (rw [set_other (by decide)] at h ⊢; exact f12 h)), (fun h => by first | exact f13 (by rwa [set_other (by decide)] at h) | (rw [set_other (by decide)] at h ⊢; exact f13 h)), (fun h => by first | exact f14 (by rwa [set_other (by decide)] at h) | (rw [set_other (by decide)] at h ⊢; exact f14 h)), (fun h h2 => f15 (by rwa [set_other (by decide)] at h) (by rwa [set_other (by decide)] at h2)), (fun h => by first | exact f16 (by rwa [set_other (by decide)] at h) | (rw [set_other (by decide)] at h ⊢; exact f16 h)), (fun h => by first | exact f17 (by rwa [set_other (by decide)] at h) | (rw [set_other (by decide)] at h ⊢; exact f17 h))⟩
            · obtain rfl := f1 (ready_dep hr (d := 0) (by kernel_rfl))
              obtain ⟨⟨k0, k1⟩, m0, m1⟩ := (HX2.out.new_ f0).cells
              refine inv_op rfl (fun K hK => ?_)
              try simp only [Act.put, List.setIfInBounds_toArray, List.set_cons_zero, List.set_cons_succ]
              go_simp
              refine hK.out _ _ ⟨x5, x6, .pointer (some ⟨w.heap.size, 0, none⟩), .int .i64 NA.n, x21, x22, x23, x24, x25, x26, x27, x28, x29, x30, (by simp only [Act.put, List.setIfInBounds_toArray, List.set_cons_zero, List.set_cons_succ]), f0, (fun _ => rfl), (fun _ => rfl), (fun h => by first | exact f3 (by rwa [set_other (by decide)] at h) | (rw [set_other (by decide)] at h ⊢; exact f3 h)), (fun h => by first | exact f4 (by rwa [set_other (by decide)] at h) | (rw [set_other (by decide)] at h ⊢; exact f4 h)), (fun h => by first | exact f5 (by rwa [set_other (by decide)] at h) | (rw [set_other (by decide)] at h ⊢; exact f5 h)), (fun h => by first | exact f6 (by rwa [set_other (by decide)] at h) | (rw [set_other (by decide)] at h ⊢; exact f6 h)), (fun h => by first | exact f7 (by rwa [set_other (by decide)] at h) | (rw [set_other (by decide)] at h ⊢; exact f7 h)), (fun h => by first | exact f8 (by rwa [set_other (by decide)] at h) | (rw [set_other (by decide)] at h ⊢; exact f8 h)), (fun h => by first | exact f9 (by rwa [set_other (by decide)] at h) | (rw [set_other (by decide)] at h ⊢; exact f9 h)), (fun h => by first | exact f10 (by rwa [set_other (by decide)] at h) | (rw [set_other (by decide)] at h ⊢; exact f10 h)), (fun h => by first | exact f11 (by rwa [set_other (by decide)] at h) | (rw [set_other (by decide)] at h ⊢; exact f11 h)), (fun h => by first | exact f12 (by rwa [set_other (by decide)] at h) | (rw [set_other (by decide)] at h ⊢; exact f12 h)), (fun h => by first | exact f13 (by rwa [set_other (by decide)] at h) | (rw [set_other (by decide)] at h ⊢; exact f13 h)), (fun h => by first | exact f14 (by rwa [set_other (by decide)] at h) | (rw [set_other (by decide)] at h ⊢; exact f14 h)), (fun h h2 => f15 (by rwa [set_other (by decide)] at h) (by rwa [set_other (by decide)] at h2)), (fun h => by first | exact f16 (by rwa [set_other (by decide)] at h) | (rw [set_other (by decide)] at h ⊢; exact f16 h)), (fun h => by first | exact f17 (by rwa [set_other (by decide)] at h) | (rw [set_other (by decide)] at h ⊢; exact f17 h))⟩
            · refine inv_op rfl (fun K hK => ?_)
              try simp only [Act.put, List.setIfInBounds_toArray, List.set_cons_zero, List.set_cons_succ]
              go_simp
              refine hK.out _ _ ⟨x5, x6, x19, x20, .pointer (some ⟨w.heap.size + 1, 1, none⟩), x22, x23, x24, x25, x26, x27, x28, x29, x30, (by simp only [Act.put, List.setIfInBounds_toArray, List.set_cons_zero, List.set_cons_succ]), f0, (fun h => by first | exact f1 (by rwa [set_other (by decide)] at h) | (rw [set_other (by decide)] at h ⊢; exact f1 h)), (fun h => by first | exact f2 (by rwa [set_other (by decide)] at h) | (rw [set_other (by decide)] at h ⊢; exact f2 h)), (fun _ => rfl), (fun h => by first | exact f4 (by rwa [set_other (by decide)] at h) | (rw [set_other (by decide)] at h ⊢; exact f4 h)), (fun h => by first | exact f5 (by rwa [set_other (by decide)] at h) | (rw [set_other (by decide)] at h ⊢; exact f5 h)), (fun h => by first | exact f6 (by rwa [set_other (by decide)] at h) | (rw [set_other (by decide)] at h ⊢; exact f6 h)), (fun h => by first | exact f7 (by rwa [set_other (by decide)] at h) | (rw [set_other (by decide)] at h ⊢; exact f7 h)), (fun h => by first | exact f8 (by rwa [set_other (by decide)] at h) | (rw [set_other (by decide)] at h ⊢; exact f8 h)), (fun h => by first | exact f9 (by rwa [set_other (by decide)] at h) | (rw [set_other (by decide)] at h ⊢; exact f9 h)), (fun h => by first | exact f10 (by rwa [set_other (by decide)] at h) | (rw [set_other (by decide)] at h ⊢; exact f10 h)), (fun h => by first | exact f11 (by rwa [set_other (by decide)] at h) | (rw [set_other (by decide)] at h ⊢; exact f11 h)), (fun h => by first | exact f12 (by rwa [set_other (by decide)] at h) | (rw [set_other (by decide)] at h ⊢; exact f12 h)), (fun h => by first | exact f13 (by rwa [set_other (by decide)] at h) | (rw [set_other (by decide)] at h ⊢; exact f13 h)), (fun h => by first | exact f14 (by rwa [set_other (by decide)] at h) | (rw [set_other (by decide)] at h ⊢; exact f14 h)), (fun h h2 => f15 (by rwa [set_other (by decide)] at h) (by rwa [set_other (by decide)] at h2)), (fun h => by first | exact f16 (by rwa [set_other (by decide)] at h) | (rw [set_other (by decide)] at h ⊢; exact f16 h)), (fun h => by first | exact f17 (by rwa [set_other (by decide)] at h) | (rw [set_other (by decide)] at h ⊢; exact f17 h))⟩
            · obtain rfl := f3 (ready_dep hr (d := 2) (by kernel_rfl))
              obtain ⟨⟨k0, k1⟩, m0, m1⟩ := (HX2.out.new_ f0).cells
              refine inv_op rfl (fun K hK => ?_)
              try simp only [Act.put, List.setIfInBounds_toArray, List.set_cons_zero, List.set_cons_succ]
              go_simp
              refine hK.out _ _ ⟨x5, x6, x19, x20, .pointer (some ⟨w.heap.size + 1, 1, none⟩), .int .i64 NB.d, x23, x24, x25, x26, x27, x28, x29, x30, (by simp only [Act.put, List.setIfInBounds_toArray, List.set_cons_zero, List.set_cons_succ]), f0, (fun h => by first | exact f1 (by rwa [set_other (by decide)] at h) | (rw [set_other (by decide)] at h ⊢; exact f1 h)), (fun h => by first | exact f2 (by rwa [set_other (by decide)] at h) | (rw [set_other (by decide)] at h ⊢; exact f2 h)), (fun _ => rfl), (fun _ => rfl), (fun h => by first | exact f5 (by rwa [set_other (by decide)] at h) | (rw [set_other (by decide)] at h ⊢; exact f5 h)), (fun h => by first | exact f6 (by rwa [set_other (by decide)] at h) | (rw [set_other (by decide)] at h ⊢; exact f6 h)), (fun h => by first | exact f7 (by rwa [set_other (by decide)] at h) | (rw [set_other (by decide)] at h ⊢; exact f7 h)), (fun h => by first | exact f8 (by rwa [set_other (by decide)] at h) | (rw [set_other (by decide)] at h ⊢; exact f8 h)), (fun h => by first | exact f9 (by rwa [set_other (by decide)] at h) | (rw [set_other (by decide)] at h ⊢; exact f9 h)), (fun h => by first | exact f10 (by rwa [set_other (by decide)] at h) | (rw [set_other (by decide)] at h ⊢; exact f10 h)), (fun h => by first | exact f11 (by rwa [set_other (by decide)] at h) | (rw [set_other (by decide)] at h ⊢; exact f11 h)), (fun h => by first | exact f12 (by rwa [set_other (by decide)] at h) | (rw [set_other (by decide)] at h ⊢; exact f12 h)), (fun h => by first | exact f13 (by rwa [set_other (by decide)] at h) | (rw [set_other (by decide)] at h ⊢; exact f13 h)), (fun h => by first | exact f14 (by rwa [set_other (by decide)] at h) | (rw [set_other (by decide)] at h ⊢; exact f14 h)), (fun h h2 => f15 (by rwa [set_other (by decide)] at h) (by rwa [set_other (by decide)] at h2)), (fun h => by first | exact f16 (by rwa [set_other (by decide)] at h) | (rw [set_other (by decide)] at h ⊢; exact f16 h)), (fun h => by first | exact f17 (by rwa [set_other (by decide)] at h) | (rw [set_other (by decide)] at h ⊢; exact f17 h))⟩
            · obtain rfl := f4 (ready_dep hr (d := 3) (by kernel_rfl))
              refine inv_op rfl (fun K hK => ?_)
              try simp only [Act.put, List.setIfInBounds_toArray, List.set_cons_zero, List.set_cons_succ]
              go_simp
              refine (size_c NB.d _ (by omega) (by omega)).mono ?_
              rintro e w9 ⟨rfl, rfl⟩
              try simp only []
              refine hK.out _ _ ⟨x5, x6, x19, x20, x21, .int .i64 NB.d, .int .u64 NB.d.natAbs, x24, x25, x26, x27, x28, x29, x30, (by simp only [Act.put, List.setIfInBounds_toArray, List.set_cons_zero, List.set_cons_succ]), f0, (fun h => by first | exact f1 (by rwa [set_other (by decide)] at h) | (rw [set_other (by decide)] at h ⊢; exact f1 h)), (fun h => by first | exact f2 (by rwa [set_other (by decide)] at h) | (rw [set_other (by decide)] at h ⊢; exact f2 h)), (fun h => by first | exact f3 (by rwa [set_other (by decide)] at h) | (rw [set_other (by decide)] at h ⊢; exact f3 h)), (fun _ => rfl), (fun _ => rfl), (fun h => by first | exact f6 (by rwa [set_other (by decide)] at h) | (rw [set_other (by decide)] at h ⊢; exact f6 h)), (fun h => by first | exact f7 (by rwa [set_other (by decide)] at h) | (rw [set_other (by decide)] at h ⊢; exact f7 h)), (fun h => by first | exact f8 (by rwa [set_other (by decide)] at h) | (rw [set_other (by decide)] at h ⊢; exact f8 h)), (fun h => by first | exact f9 (by rwa [set_other (by decide)] at h) | (rw [set_other (by decide)] at h ⊢; exact f9 h)), (fun h => by first | exact f10 (by rwa [set_other (by decide)] at h) | (rw [set_other (by decide)] at h ⊢; exact f10 h)), (fun h => by first | exact f11 (by rwa [set_other (by decide)] at h) | (rw [set_other (by decide)] at h ⊢; exact f11 h)), (fun h => by first | exact f12 (by rwa [set_other (by decide)] at h) | (rw [set_other (by decide)] at h ⊢; exact f12 h)), (fun h => by first | exact f13 (by rwa [set_other (by decide)] at h) | (rw [set_other (by decide)] at h ⊢; exact f13 h)), (fun h => by first | exact f14 (by rwa [set_other (by decide)] at h) | (rw [set_other (by decide)] at h ⊢; exact f14 h)), (fun h h2 => f15 (by rwa [set_other (by decide)] at h) (by rwa [set_other (by decide)] at h2)), (fun h => by first | exact f16 (by rwa [set_other (by decide)] at h) | (rw [set_other (by decide)] at h ⊢; exact f16 h)), (fun h => by first | exact f17 (by rwa [set_other (by decide)] at h) | (rw [set_other (by decide)] at h ⊢; exact f17 h))⟩
            · obtain rfl := f2 (ready_dep hr (d := 1) (by kernel_rfl))
              obtain rfl := f5 (ready_dep hr (d := 4) (by kernel_rfl))
              refine inv_op rfl (fun K hK => ?_)
              try simp only [Act.put, List.setIfInBounds_toArray, List.set_cons_zero, List.set_cons_succ]
              go_simp
              refine (product_c NA.n NB.d.natAbs _ (by omega) (by omega) (by omega)).mono ?_
              rintro e w9 ⟨rfl, hb9⟩
              rw [HW1.out]
              try simp only []
              refine hK.out _ _ ⟨x5, x6, x19, .int .i64 NA.n, x21, x22, .int .u64 NB.d.natAbs, .agg #[.bool s1, .int .u64 h1, .int .u64 l1], x25, x26, x27, x28, x29, x30, (by simp only [Act.put, List.setIfInBounds_toArray, List.set_cons_zero, List.set_cons_succ]), join f0 hb9, (fun h => by first | exact f1 (by rwa [set_other (by decide)] at h) | (rw [set_other (by decide)] at h ⊢; exact f1 h)), (fun _ => rfl), (fun h => by first | exact f3 (by rwa [set_other (by decide)] at h) | (rw [set_other (by decide)] at h ⊢; exact f3 h)), (fun h => by first | exact f4 (by rwa [set_other (by decide)] at h) | (rw [set_other (by decide)] at h ⊢; exact f4 h)), (fun _ => rfl), (fun _ => rfl), (fun h => by first | exact f7 (by rwa [set_other (by decide)] at h) | (rw [set_other (by decide)] at h ⊢; exact f7 h)), (fun h => by first | exact f8 (by rwa [set_other (by decide)] at h) | (rw [set_other (by decide)] at h ⊢; exact f8 h)), (fun h => by first | exact f9 (by rwa [set_other (by decide)] at h) | (rw [set_other (by decide)] at h ⊢; exact f9 h)), (fun h => by first | exact f10 (by rwa [set_other (by decide)] at h) | (rw [set_other (by decide)] at h ⊢; exact f10 h)), (fun h => by first | exact f11 (by rwa [set_other (by decide)] at h) | (rw [set_other (by decide)] at h ⊢; exact f11 h)), (fun h => by first | exact f12 (by rwa [set_other (by decide)] at h) | (rw [set_other (by decide)] at h ⊢; exact f12 h)), (fun h => by rw [set_other (by decide)] at h ⊢; obtain ⟨b, e, hb, hB⟩ := f13 h; exact ⟨b, e, hb, hB.new_ hb9⟩), (fun h => by rw [set_other (by decide)] at h ⊢; obtain ⟨b, e, hb, hB⟩ := f14 h; exact ⟨b, e, hb, hB.new_ hb9⟩), (fun h h2 => f15 (by rwa [set_other (by decide)] at h) (by rwa [set_other (by decide)] at h2)), (fun h => by first | exact f16 (by rwa [set_other (by decide)] at h) | (rw [set_other (by decide)] at h ⊢; exact f16 h)), (fun h => by first | exact f17 (by rwa [set_other (by decide)] at h) | (rw [set_other (by decide)] at h ⊢; exact f17 h))⟩
            · refine inv_op rfl (fun K hK => ?_)
              try simp only [Act.put, List.setIfInBounds_toArray, List.set_cons_zero, List.set_cons_succ]
              go_simp
              refine hK.out _ _ ⟨x5, x6, x19, x20, x21, x22, x23, x24, .pointer (some ⟨w.heap.size + 1, 0, none⟩), x26, x27, x28, x29, x30, (by simp only [Act.put, List.setIfInBounds_toArray, List.set_cons_zero, List.set_cons_succ]), f0, (fun h => by first | exact f1 (by rwa [set_other (by decide)] at h) | (rw [set_other (by decide)] at h ⊢; exact f1 h)), (fun h => by first | exact f2 (by rwa [set_other (by decide)] at h) | (rw [set_other (by decide)] at h ⊢; exact f2 h)), (fun h => by first | exact f3 (by rwa [set_other (by decide)] at h) | (rw [set_other (by decide)] at h ⊢; exact f3 h)), (fun h => by first | exact f4 (by rwa [set_other (by decide)] at h) | (rw [set_other (by decide)] at h ⊢; exact f4 h)), (fun h => by first | exact f5 (by rwa [set_other (by decide)] at h) | (rw [set_other (by decide)] at h ⊢; exact f5 h)), (fun h => by first | exact f6 (by rwa [set_other (by decide)] at h) | (rw [set_other (by decide)] at h ⊢; exact f6 h)), (fun _ => rfl), (fun h => by first | exact f8 (by rwa [set_other (by decide)] at h) | (rw [set_other (by decide)] at h ⊢; exact f8 h)), (fun h => by first | exact f9 (by rwa [set_other (by decide)] at h) | (rw [set_other (by decide)] at h ⊢; exact f9 h)), (fun h => by first | exact f10 (by rwa [set_other (by decide)] at h) | (rw [set_other (by decide)] at h ⊢; exact f10 h)), (fun h => by first | exact f11 (by rwa [set_other (by decide)] at h) | (rw [set_other (by decide)] at h ⊢; exact f11 h)), (fun h => by first | exact f12 (by rwa [set_other (by decide)] at h) | (rw [set_other (by decide)] at h ⊢; exact f12 h)), (fun h => by first | exact f13 (by rwa [set_other (by decide)] at h) | (rw [set_other (by decide)] at h ⊢; exact f13 h)), (fun h => by first | exact f14 (by rwa [set_other (by decide)] at h) | (rw [set_other (by decide)] at h ⊢; exact f14 h)), (fun h h2 => f15 (by rwa [set_other (by decide)] at h) (by rwa [set_other (by decide)] at h2)), (fun h => by first | exact f16 (by rwa [set_other (by decide)] at h) | (rw [set_other (by decide)] at h ⊢; exact f16 h)), (fun h => by first | exact f17 (by rwa [set_other (by decide)] at h) | (rw [set_other (by decide)] at h ⊢; exact f17 h))⟩
            · obtain rfl := f7 (ready_dep hr (d := 6) (by kernel_rfl))
              obtain ⟨⟨k0, k1⟩, m0, m1⟩ := (HX2.out.new_ f0).cells
              refine inv_op rfl (fun K hK => ?_)
              try simp only [Act.put, List.setIfInBounds_toArray, List.set_cons_zero, List.set_cons_succ]
              go_simp
              refine hK.out _ _ ⟨x5, x6, x19, x20, x21, x22, x23, x24, .pointer (some ⟨w.heap.size + 1, 0, none⟩), .int .i64 NB.n, x27, x28, x29, x30, (by simp only [Act.put, List.setIfInBounds_toArray, List.set_cons_zero, List.set_cons_succ]), f0, (fun h => by first | exact f1 (by rwa [set_other (by decide)] at h) | (rw [set_other (by decide)] at h ⊢; exact f1 h)), (fun h => by first | exact f2 (by rwa [set_other (by decide)] at h) | (rw [set_other (by decide)] at h ⊢; exact f2 h)), (fun h => by first | exact f3 (by rwa [set_other (by decide)] at h) | (rw [set_other (by decide)] at h ⊢; exact f3 h)), (fun h => by first | exact f4 (by rwa [set_other (by decide)] at h) | (rw [set_other (by decide)] at h ⊢; exact f4 h)), (fun h => by first | exact f5 (by rwa [set_other (by decide)] at h) | (rw [set_other (by decide)] at h ⊢; exact f5 h)), (fun h => by first | exact f6 (by rwa [set_other (by decide)] at h) | (rw [set_other (by decide)] at h ⊢; exact f6 h)), (fun _ => rfl), (fun _ => rfl), (fun h => by first | exact f9 (by rwa [set_other (by decide)] at h) | (rw [set_other (by decide)] at h ⊢; exact f9 h)), (fun h => by first | exact f10 (by rwa [set_other (by decide)] at h) | (rw [set_other (by decide)] at h ⊢; exact f10 h)), (fun h => by first | exact f11 (by rwa [set_other (by decide)] at h) | (rw [set_other (by decide)] at h ⊢; exact f11 h)), (fun h => by first | exact f12 (by rwa [set_other (by decide)] at h) | (rw [set_other (by decide)] at h ⊢; exact f12 h)), (fun h => by first | exact f13 (by rwa [set_other (by decide)] at h) | (rw [set_other (by decide)] at h ⊢; exact f13 h)), (fun h => by first | exact f14 (by rwa [set_other (by decide)] at h) | (rw [set_other (by decide)] at h ⊢; exact f14 h)), (fun h h2 => f15 (by rwa [set_other (by decide)] at h) (by rwa [set_other (by decide)] at h2)), (fun h => by first | exact f16 (by rwa [set_other (by decide)] at h) | (rw [set_other (by decide)] at h ⊢; exact f16 h)), (fun h => by first | exact f17 (by rwa [set_other (by decide)] at h) | (rw [set_other (by decide)] at h ⊢; exact f17 h))⟩
            · refine inv_op rfl (fun K hK => ?_)
              try simp only [Act.put, List.setIfInBounds_toArray, List.set_cons_zero, List.set_cons_succ]
              go_simp
              refine hK.out _ _ ⟨x5, x6, x19, x20, x21, x22, x23, x24, x25, x26, .pointer (some ⟨w.heap.size, 1, none⟩), x28, x29, x30, (by simp only [Act.put, List.setIfInBounds_toArray, List.set_cons_zero, List.set_cons_succ]), f0, (fun h => by first | exact f1 (by rwa [set_other (by decide)] at h) | (rw [set_other (by decide)] at h ⊢; exact f1 h)), (fun h => by first | exact f2 (by rwa [set_other (by decide)] at h) | (rw [set_other (by decide)] at h ⊢; exact f2 h)), (fun h => by first | exact f3 (by rwa [set_other (by decide)] at h) | (rw [set_other (by decide)] at h ⊢; exact f3 h)), (fun h => by first | exact f4 (by rwa [set_other (by decide)] at h) | (rw [set_other (by decide)] at h ⊢; exact f4 h)), (fun h => by first | exact f5 (by rwa [set_other (by decide)] at h) | (rw [set_other (by decide)] at h ⊢; exact f5 h)), (fun h => by first | exact f6 (by rwa [set_other (by decide)] at h) | (rw [set_other (by decide)] at h ⊢; exact f6 h)), (fun h => by first | exact f7 (by rwa [set_other (by decide)] at h) | (rw [set_other (by decide)] at h ⊢; exact f7 h)), (fun h => by first | exact f8 (by rwa [set_other (by decide)] at h) | (rw [set_other (by decide)] at h ⊢; exact f8 h)), (fun _ => rfl), (fun h => by first | exact f10 (by rwa [set_other (by decide)] at h) | (rw [set_other (by decide)] at h ⊢; exact f10 h)), (fun h => by first | exact f11 (by rwa [set_other (by decide)] at h) | (rw [set_other (by decide)] at h ⊢; exact f11 h)), (fun h => by first | exact f12 (by rwa [set_other (by decide)] at h) | (rw [set_other (by decide)] at h ⊢; exact f12 h)), (fun h => by first | exact f13 (by rwa [set_other (by decide)] at h) | (rw [set_other (by decide)] at h ⊢; exact f13 h)), (fun h => by first | exact f14 (by rwa [set_other (by decide)] at h) | (rw [set_other (by decide)] at h ⊢; exact f14 h)), (fun h h2 => f15 (by rwa [set_other (by decide)] at h) (by rwa [set_other (by decide)] at h2)), (fun h => by first | exact f16 (by rwa [set_other (by decide)] at h) | (rw [set_other (by decide)] at h ⊢; exact f16 h)), (fun h => by first | exact f17 (by rwa [set_other (by decide)] at h) | (rw [set_other (by decide)] at h ⊢; exact f17 h))⟩
            · obtain rfl := f9 (ready_dep hr (d := 8) (by kernel_rfl))
              obtain ⟨⟨k0, k1⟩, m0, m1⟩ := (HX2.out.new_ f0).cells
              refine inv_op rfl (fun K hK => ?_)
              try simp only [Act.put, List.setIfInBounds_toArray, List.set_cons_zero, List.set_cons_succ]
              go_simp
              refine hK.out _ _ ⟨x5, x6, x19, x20, x21, x22, x23, x24, x25, x26, .pointer (some ⟨w.heap.size, 1, none⟩), .int .i64 NA.d, x29, x30, (by simp only [Act.put, List.setIfInBounds_toArray, List.set_cons_zero, List.set_cons_succ]), f0, (fun h => by first | exact f1 (by rwa [set_other (by decide)] at h) | (rw [set_other (by decide)] at h ⊢; exact f1 h)), (fun h => by first | exact f2 (by rwa [set_other (by decide)] at h) | (rw [set_other (by decide)] at h ⊢; exact f2 h)), (fun h => by first | exact f3 (by rwa [set_other (by decide)] at h) | (rw [set_other (by decide)] at h ⊢; exact f3 h)), (fun h => by first | exact f4 (by rwa [set_other (by decide)] at h) | (rw [set_other (by decide)] at h ⊢; exact f4 h)), (fun h => by first | exact f5 (by rwa [set_other (by decide)] at h) | (rw [set_other (by decide)] at h ⊢; exact f5 h)), (fun h => by first | exact f6 (by rwa [set_other (by decide)] at h) | (rw [set_other (by decide)] at h ⊢; exact f6 h)), (fun h => by first | exact f7 (by rwa [set_other (by decide)] at h) | (rw [set_other (by decide)] at h ⊢; exact f7 h)), (fun h => by first | exact f8 (by rwa [set_other (by decide)] at h) | (rw [set_other (by decide)] at h ⊢; exact f8 h)), (fun _ => rfl), (fun _ => rfl), (fun h => by first | exact f11 (by rwa [set_other (by decide)] at h) | (rw [set_other (by decide)] at h ⊢; exact f11 h)), (fun h => by first | exact f12 (by rwa [set_other (by decide)] at h) | (rw [set_other (by decide)] at h ⊢; exact f12 h)), (fun h => by first | exact f13 (by rwa [set_other (by decide)] at h) | (rw [set_other (by decide)] at h ⊢; exact f13 h)), (fun h => by first | exact f14 (by rwa [set_other (by decide)] at h) | (rw [set_other (by decide)] at h ⊢; exact f14 h)), (fun h h2 => f15 (by rwa [set_other (by decide)] at h) (by rwa [set_other (by decide)] at h2)), (fun h => by first | exact f16 (by rwa [set_other (by decide)] at h) | (rw [set_other (by decide)] at h ⊢; exact f16 h)), (fun h => by first | exact f17 (by rwa [set_other (by decide)] at h) | (rw [set_other (by decide)] at h ⊢; exact f17 h))⟩
            · obtain rfl := f10 (ready_dep hr (d := 9) (by kernel_rfl))
              refine inv_op rfl (fun K hK => ?_)
              try simp only [Act.put, List.setIfInBounds_toArray, List.set_cons_zero, List.set_cons_succ]
              go_simp
              refine (size_c NA.d _ (by omega) (by omega)).mono ?_
              rintro e w9 ⟨rfl, rfl⟩
              try simp only []
              refine hK.out _ _ ⟨x5, x6, x19, x20, x21, x22, x23, x24, x25, x26, x27, .int .i64 NA.d, .int .u64 NA.d.natAbs, x30, (by simp only [Act.put, List.setIfInBounds_toArray, List.set_cons_zero, List.set_cons_succ]), f0, (fun h => by first | exact f1 (by rwa [set_other (by decide)] at h) | (rw [set_other (by decide)] at h ⊢; exact f1 h)), (fun h => by first | exact f2 (by rwa [set_other (by decide)] at h) | (rw [set_other (by decide)] at h ⊢; exact f2 h)), (fun h => by first | exact f3 (by rwa [set_other (by decide)] at h) | (rw [set_other (by decide)] at h ⊢; exact f3 h)), (fun h => by first | exact f4 (by rwa [set_other (by decide)] at h) | (rw [set_other (by decide)] at h ⊢; exact f4 h)), (fun h => by first | exact f5 (by rwa [set_other (by decide)] at h) | (rw [set_other (by decide)] at h ⊢; exact f5 h)), (fun h => by first | exact f6 (by rwa [set_other (by decide)] at h) | (rw [set_other (by decide)] at h ⊢; exact f6 h)), (fun h => by first | exact f7 (by rwa [set_other (by decide)] at h) | (rw [set_other (by decide)] at h ⊢; exact f7 h)), (fun h => by first | exact f8 (by rwa [set_other (by decide)] at h) | (rw [set_other (by decide)] at h ⊢; exact f8 h)), (fun h => by first | exact f9 (by rwa [set_other (by decide)] at h) | (rw [set_other (by decide)] at h ⊢; exact f9 h)), (fun _ => rfl), (fun _ => rfl), (fun h => by first | exact f12 (by rwa [set_other (by decide)] at h) | (rw [set_other (by decide)] at h ⊢; exact f12 h)), (fun h => by first | exact f13 (by rwa [set_other (by decide)] at h) | (rw [set_other (by decide)] at h ⊢; exact f13 h)), (fun h => by first | exact f14 (by rwa [set_other (by decide)] at h) | (rw [set_other (by decide)] at h ⊢; exact f14 h)), (fun h h2 => f15 (by rwa [set_other (by decide)] at h) (by rwa [set_other (by decide)] at h2)), (fun h => by first | exact f16 (by rwa [set_other (by decide)] at h) | (rw [set_other (by decide)] at h ⊢; exact f16 h)), (fun h => by first | exact f17 (by rwa [set_other (by decide)] at h) | (rw [set_other (by decide)] at h ⊢; exact f17 h))⟩
            · obtain rfl := f8 (ready_dep hr (d := 7) (by kernel_rfl))
              obtain rfl := f11 (ready_dep hr (d := 10) (by kernel_rfl))
              refine inv_op rfl (fun K hK => ?_)
              try simp only [Act.put, List.setIfInBounds_toArray, List.set_cons_zero, List.set_cons_succ]
              go_simp
              refine (product_c NB.n NA.d.natAbs _ (by omega) (by omega) (by omega)).mono ?_
              rintro e w9 ⟨rfl, hb9⟩
              rw [HW2.out]
              try simp only []
              refine hK.out _ _ ⟨x5, x6, x19, x20, x21, x22, x23, x24, x25, .int .i64 NB.n, x27, x28, .int .u64 NA.d.natAbs, .agg #[.bool s2, .int .u64 h2, .int .u64 l2], (by simp only [Act.put, List.setIfInBounds_toArray, List.set_cons_zero, List.set_cons_succ]), join f0 hb9, (fun h => by first | exact f1 (by rwa [set_other (by decide)] at h) | (rw [set_other (by decide)] at h ⊢; exact f1 h)), (fun h => by first | exact f2 (by rwa [set_other (by decide)] at h) | (rw [set_other (by decide)] at h ⊢; exact f2 h)), (fun h => by first | exact f3 (by rwa [set_other (by decide)] at h) | (rw [set_other (by decide)] at h ⊢; exact f3 h)), (fun h => by first | exact f4 (by rwa [set_other (by decide)] at h) | (rw [set_other (by decide)] at h ⊢; exact f4 h)), (fun h => by first | exact f5 (by rwa [set_other (by decide)] at h) | (rw [set_other (by decide)] at h ⊢; exact f5 h)), (fun h => by first | exact f6 (by rwa [set_other (by decide)] at h) | (rw [set_other (by decide)] at h ⊢; exact f6 h)), (fun h => by first | exact f7 (by rwa [set_other (by decide)] at h) | (rw [set_other (by decide)] at h ⊢; exact f7 h)), (fun _ => rfl), (fun h => by first | exact f9 (by rwa [set_other (by decide)] at h) | (rw [set_other (by decide)] at h ⊢; exact f9 h)), (fun h => by first | exact f10 (by rwa [set_other (by decide)] at h) | (rw [set_other (by decide)] at h ⊢; exact f10 h)), (fun _ => rfl), (fun _ => rfl), (fun h => by rw [set_other (by decide)] at h ⊢; obtain ⟨b, e, hb, hB⟩ := f13 h; exact ⟨b, e, hb, hB.new_ hb9⟩), (fun h => by rw [set_other (by decide)] at h ⊢; obtain ⟨b, e, hb, hB⟩ := f14 h; exact ⟨b, e, hb, hB.new_ hb9⟩), (fun h h2 => f15 (by rwa [set_other (by decide)] at h) (by rwa [set_other (by decide)] at h2)), (fun h => by first | exact f16 (by rwa [set_other (by decide)] at h) | (rw [set_other (by decide)] at h ⊢; exact f16 h)), (fun h => by first | exact f17 (by rwa [set_other (by decide)] at h) | (rw [set_other (by decide)] at h ⊢; exact f17 h))⟩
            · have h14 : L.getD 14 false = false := by
                cases hh : L.getD 14 false with
                | false => rfl
                | true => exact absurd (f16 hh) (by rw [ready_not hr]; decide)
              refine inv_op rfl (fun K hK => ?_)
              try simp only [Act.put, List.setIfInBounds_toArray, List.set_cons_zero, List.set_cons_succ]
              go_simp
              refine hK.out _ _ ⟨.pointer (some ⟨w1z.heap.size, 0, none⟩), x6, x19, x20, x21, x22, x23, x24, x25, x26, x27, x28, x29, x30, (by simp only [Act.put, List.setIfInBounds_toArray, List.set_cons_zero, List.set_cons_succ]), f0.alloc f0.size _, (fun h => by first | exact f1 (by rwa [set_other (by decide)] at h) | (rw [set_other (by decide)] at h ⊢; exact f1 h)), (fun h => by first | exact f2 (by rwa [set_other (by decide)] at h) | (rw [set_other (by decide)] at h ⊢; exact f2 h)), (fun h => by first | exact f3 (by rwa [set_other (by decide)] at h) | (rw [set_other (by decide)] at h ⊢; exact f3 h)), (fun h => by first | exact f4 (by rwa [set_other (by decide)] at h) | (rw [set_other (by decide)] at h ⊢; exact f4 h)), (fun h => by first | exact f5 (by rwa [set_other (by decide)] at h) | (rw [set_other (by decide)] at h ⊢; exact f5 h)), (fun h => by first | exact f6 (by rwa [set_other (by decide)] at h) | (rw [set_other (by decide)] at h ⊢; exact f6 h)), (fun h => by first | exact f7 (by rwa [set_other (by decide)] at h) | (rw [set_other (by decide)] at h ⊢; exact f7 h)), (fun h => by first | exact f8 (by rwa [set_other (by decide)] at h) | (rw [set_other (by decide)] at h ⊢; exact f8 h)), (fun h => by first | exact f9 (by rwa [set_other (by decide)] at h) | (rw [set_other (by decide)] at h ⊢; exact f9 h)), (fun h => by first | exact f10 (by rwa [set_other (by decide)] at h) | (rw [set_other (by decide)] at h ⊢; exact f10 h)), (fun h => by first | exact f11 (by rwa [set_other (by decide)] at h) | (rw [set_other (by decide)] at h ⊢; exact f11 h)), (fun h => by first | exact f12 (by rwa [set_other (by decide)] at h) | (rw [set_other (by decide)] at h ⊢; exact f12 h)), (fun _ => ⟨w1z.heap.size, rfl, f0.size, by rw [set_other (by decide), h14]; exact Blk.new _ _ _⟩), (fun h => by rw [set_other (by decide)] at h ⊢; obtain ⟨b, e, hb, hB⟩ := f14 h; exact ⟨b, e, hb, hB.alloc _⟩), (fun _ h2 b b6 e e6 => by rw [set_other (by decide)] at h2; obtain ⟨c, ec, -, hB⟩ := f14 h2; have := hB.lt; rw [ec] at e6; simp only [Value.pointer.injEq, Option.some.injEq, Addr.mk.injEq, and_true] at e e6; omega), (fun h => set_self hr), (fun h => by first | exact f17 (by rwa [set_other (by decide)] at h) | (rw [set_other (by decide)] at h ⊢; exact f17 h))⟩
            · have h15 : L.getD 15 false = false := by
                cases hh : L.getD 15 false with
                | false => rfl
                | true => exact absurd (f17 hh) (by rw [ready_not hr]; decide)
              refine inv_op rfl (fun K hK => ?_)
              try simp only [Act.put, List.setIfInBounds_toArray, List.set_cons_zero, List.set_cons_succ]
              go_simp
              refine hK.out _ _ ⟨x5, .pointer (some ⟨w1z.heap.size, 0, none⟩), x19, x20, x21, x22, x23, x24, x25, x26, x27, x28, x29, x30, (by simp only [Act.put, List.setIfInBounds_toArray, List.set_cons_zero, List.set_cons_succ]), f0.alloc f0.size _, (fun h => by first | exact f1 (by rwa [set_other (by decide)] at h) | (rw [set_other (by decide)] at h ⊢; exact f1 h)), (fun h => by first | exact f2 (by rwa [set_other (by decide)] at h) | (rw [set_other (by decide)] at h ⊢; exact f2 h)), (fun h => by first | exact f3 (by rwa [set_other (by decide)] at h) | (rw [set_other (by decide)] at h ⊢; exact f3 h)), (fun h => by first | exact f4 (by rwa [set_other (by decide)] at h) | (rw [set_other (by decide)] at h ⊢; exact f4 h)), (fun h => by first | exact f5 (by rwa [set_other (by decide)] at h) | (rw [set_other (by decide)] at h ⊢; exact f5 h)), (fun h => by first | exact f6 (by rwa [set_other (by decide)] at h) | (rw [set_other (by decide)] at h ⊢; exact f6 h)), (fun h => by first | exact f7 (by rwa [set_other (by decide)] at h) | (rw [set_other (by decide)] at h ⊢; exact f7 h)), (fun h => by first | exact f8 (by rwa [set_other (by decide)] at h) | (rw [set_other (by decide)] at h ⊢; exact f8 h)), (fun h => by first | exact f9 (by rwa [set_other (by decide)] at h) | (rw [set_other (by decide)] at h ⊢; exact f9 h)), (fun h => by first | exact f10 (by rwa [set_other (by decide)] at h) | (rw [set_other (by decide)] at h ⊢; exact f10 h)), (fun h => by first | exact f11 (by rwa [set_other (by decide)] at h) | (rw [set_other (by decide)] at h ⊢; exact f11 h)), (fun h => by first | exact f12 (by rwa [set_other (by decide)] at h) | (rw [set_other (by decide)] at h ⊢; exact f12 h)), (fun h => by rw [set_other (by decide)] at h ⊢; obtain ⟨b, e, hb, hB⟩ := f13 h; exact ⟨b, e, hb, hB.alloc _⟩), (fun _ => ⟨w1z.heap.size, rfl, f0.size, by rw [set_other (by decide), h15]; exact Blk.new _ _ _⟩), (fun h2 _ b b6 e e6 => by rw [set_other (by decide)] at h2; obtain ⟨c, ec, -, hB⟩ := f13 h2; have := hB.lt; rw [ec] at e; simp only [Value.pointer.injEq, Option.some.injEq, Addr.mk.injEq, and_true] at e e6; omega), (fun h => by first | exact f16 (by rwa [set_other (by decide)] at h) | (rw [set_other (by decide)] at h ⊢; exact f16 h)), (fun h => set_self hr)⟩
            · have h14 := ready_not hr
              have ha := ready_dep hr (d := 12) (by kernel_rfl)
              obtain ⟨b, eb, hb, hB⟩ := f13 ha
              rw [h14] at hB
              have q0 := hB.cell 0 (v := .bool false) rfl
              have q1 := hB.cell 1 (v := .int .u64 0) rfl
              have q2 := hB.cell 2 (v := .int .u64 0) rfl
              have q3 := hB.free 0
              have q4 := hB.free 1
              have q5 := hB.free 2
              have q6 := hB.lt
              obtain rfl := f6 (ready_dep hr (d := 5) (by kernel_rfl))
              subst eb
              refine inv_op rfl (fun K hK => ?_)
              try simp only [Act.put, List.setIfInBounds_toArray, List.set_cons_zero, List.set_cons_succ]
              go_simp
              refine hK.out _ _ ⟨(.pointer (some ⟨b, 0, none⟩)), x6, x19, x20, x21, x22, x23, .agg #[.bool s1, .int .u64 h1, .int .u64 l1], x25, x26, x27, x28, x29, x30, (by simp only [Act.put, List.setIfInBounds_toArray, List.set_cons_zero, List.set_cons_succ]), (((f0.setCell hb _).setCell hb _).setCell hb _), (fun h => by first | exact f1 (by rwa [set_other (by decide)] at h) | (rw [set_other (by decide)] at h ⊢; exact f1 h)), (fun h => by first | exact f2 (by rwa [set_other (by decide)] at h) | (rw [set_other (by decide)] at h ⊢; exact f2 h)), (fun h => by first | exact f3 (by rwa [set_other (by decide)] at h) | (rw [set_other (by decide)] at h ⊢; exact f3 h)), (fun h => by first | exact f4 (by rwa [set_other (by decide)] at h) | (rw [set_other (by decide)] at h ⊢; exact f4 h)), (fun h => by first | exact f5 (by rwa [set_other (by decide)] at h) | (rw [set_other (by decide)] at h ⊢; exact f5 h)), (fun _ => rfl), (fun h => by first | exact f7 (by rwa [set_other (by decide)] at h) | (rw [set_other (by decide)] at h ⊢; exact f7 h)), (fun h => by first | exact f8 (by rwa [set_other (by decide)] at h) | (rw [set_other (by decide)] at h ⊢; exact f8 h)), (fun h => by first | exact f9 (by rwa [set_other (by decide)] at h) | (rw [set_other (by decide)] at h ⊢; exact f9 h)), (fun h => by first | exact f10 (by rwa [set_other (by decide)] at h) | (rw [set_other (by decide)] at h ⊢; exact f10 h)), (fun h => by first | exact f11 (by rwa [set_other (by decide)] at h) | (rw [set_other (by decide)] at h ⊢; exact f11 h)), (fun h => by first | exact f12 (by rwa [set_other (by decide)] at h) | (rw [set_other (by decide)] at h ⊢; exact f12 h)), (fun _ => ⟨b, rfl, hb, by rw [set_self hr]; exact ((hB.set_ 0 _).set_ 1 _).to 2 _ rfl⟩), (fun h => by rw [set_other (by decide)] at h ⊢; obtain ⟨c, ec, hc, hC⟩ := f14 h; have hne := f15 ha h b c rfl ec; exact ⟨c, ec, hc, ((hC.far (by simp only; omega) _).far (by simp only; omega) _).far (by simp only; omega) _⟩), (fun h h2 => f15 (by rwa [set_other (by decide)] at h) (by rwa [set_other (by decide)] at h2)), (fun _ => by rw [set_other (by decide)]; exact ha), (fun h => by first | exact f17 (by rwa [set_other (by decide)] at h) | (rw [set_other (by decide)] at h ⊢; exact f17 h))⟩
            · have h15 := ready_not hr
              have ha := ready_dep hr (d := 13) (by kernel_rfl)
              obtain ⟨b, eb, hb, hB⟩ := f14 ha
              rw [h15] at hB
              have q0 := hB.cell 0 (v := .bool false) rfl
              have q1 := hB.cell 1 (v := .int .u64 0) rfl
              have q2 := hB.cell 2 (v := .int .u64 0) rfl
              have q3 := hB.free 0
              have q4 := hB.free 1
              have q5 := hB.free 2
              have q6 := hB.lt
              obtain rfl := f12 (ready_dep hr (d := 11) (by kernel_rfl))
              subst eb
              refine inv_op rfl (fun K hK => ?_)
              try simp only [Act.put, List.setIfInBounds_toArray, List.set_cons_zero, List.set_cons_succ]
              go_simp
              refine hK.out _ _ ⟨x5, (.pointer (some ⟨b, 0, none⟩)), x19, x20, x21, x22, x23, x24, x25, x26, x27, x28, x29, .agg #[.bool s2, .int .u64 h2, .int .u64 l2], (by simp only [Act.put, List.setIfInBounds_toArray, List.set_cons_zero, List.set_cons_succ]), (((f0.setCell hb _).setCell hb _).setCell hb _), (fun h => by first | exact f1 (by rwa [set_other (by decide)] at h) | (rw [set_other (by decide)] at h ⊢; exact f1 h)), (fun h => by first | exact f2 (by rwa [set_other (by decide)] at h) | (rw [set_other (by decide)] at h ⊢; exact f2 h)), (fun h => by first | exact f3 (by rwa [set_other (by decide)] at h) | (rw [set_other (by decide)] at h ⊢; exact f3 h)), (fun h => by first | exact f4 (by rwa [set_other (by decide)] at h) | (rw [set_other (by decide)] at h ⊢; exact f4 h)), (fun h => by first | exact f5 (by rwa [set_other (by decide)] at h) | (rw [set_other (by decide)] at h ⊢; exact f5 h)), (fun h => by first | exact f6 (by rwa [set_other (by decide)] at h) | (rw [set_other (by decide)] at h ⊢; exact f6 h)), (fun h => by first | exact f7 (by rwa [set_other (by decide)] at h) | (rw [set_other (by decide)] at h ⊢; exact f7 h)), (fun h => by first | exact f8 (by rwa [set_other (by decide)] at h) | (rw [set_other (by decide)] at h ⊢; exact f8 h)), (fun h => by first | exact f9 (by rwa [set_other (by decide)] at h) | (rw [set_other (by decide)] at h ⊢; exact f9 h)), (fun h => by first | exact f10 (by rwa [set_other (by decide)] at h) | (rw [set_other (by decide)] at h ⊢; exact f10 h)), (fun h => by first | exact f11 (by rwa [set_other (by decide)] at h) | (rw [set_other (by decide)] at h ⊢; exact f11 h)), (fun _ => rfl), (fun h => by rw [set_other (by decide)] at h ⊢; obtain ⟨c, ec, hc, hC⟩ := f13 h; have hne := f15 h ha c b ec rfl; exact ⟨c, ec, hc, ((hC.far (by simp only; omega) _).far (by simp only; omega) _).far (by simp only; omega) _⟩), (fun _ => ⟨b, rfl, hb, by rw [set_self hr]; exact ((hB.set_ 0 _).set_ 1 _).to 2 _ rfl⟩), (fun h h2 => f15 (by rwa [set_other (by decide)] at h) (by rwa [set_other (by decide)] at h2)), (fun h => by first | exact f16 (by rwa [set_other (by decide)] at h) | (rw [set_other (by decide)] at h ⊢; exact f16 h)), (fun _ => by rw [set_other (by decide)]; exact ha)⟩
          case done =>
            intro L az w1z hI hall
            obtain ⟨x5, x6, x19, x20, x21, x22, x23, x24, x25, x26, x27, x28, x29, x30, rfl, f0, f1, f2, f3, f4, f5, f6, f7, f8, f9, f10, f11, f12, f13, f14, f15, f16, f17⟩ := hI
            subst haq
            simp only [Act.put, List.setIfInBounds_toArray, List.set_cons_zero, List.set_cons_succ]
            go_wp2_with fail
            go_meet
            obtain ⟨b5, e5, -, hB5⟩ := f13 (hall 12 (by decide))
            obtain ⟨b6, e6, -, hB6⟩ := f14 (hall 13 (by decide))
            rw [hall 14 (by decide)] at hB5
            rw [hall 15 (by decide)] at hB6
            exact ⟨b5, b6, e5, e6, ⟨hB5, hB6, f0⟩⟩
        case rest =>
          obtain ⟨b5, b6, rfl, rfl, HZ⟩ := hcut
          clear k0 k1 m0 m1
          have HC1 := Kept.mk (compare_c (decide (NA.n < 0)) (decide (NB.n < 0)) (NA.n.natAbs * NB.d.natAbs) (NB.n.natAbs * NA.d.natAbs))
          have HC2 := Kept.mk (compare_c (decide (NB.n < 0)) (decide (NA.n < 0)) (NB.n.natAbs * NA.d.natAbs) (NA.n.natAbs * NB.d.natAbs))
          rw [HW1.out, HW2.out] at HC1 HC2
          have hs1 := wv_sign HW1.out
          have hs2 := wv_sign HW2.out
          have HJ := Kept.mk (join HX2.out.blw HZ.out.2.2)
          have r0 := HZ.out.1.cell 0 (v := .bool s1) rfl
          have r1 := HZ.out.1.cell 1 (v := .int .u64 h1) rfl
          have r2 := HZ.out.1.cell 2 (v := .int .u64 l1) rfl
          have t0 := HZ.out.2.1.cell 0 (v := .bool s2) rfl
          have t1 := HZ.out.2.1.cell 1 (v := .int .u64 h2) rfl
          have t2 := HZ.out.2.1.cell 2 (v := .int .u64 l2) rfl
          by_cases g1 : NA.n < 0
          · obtain rfl : s1 = true := by rw [hs1]; exact decide_eq_true g1
            by_cases g2 : NB.n < 0
            · obtain rfl : s2 = true := by rw [hs2]; exact decide_eq_true g2
              have HE := Kept.mk (sgn_nn g1 g2 n3 p3)
              clear hs1 hs2 g1 g2 n1 n2 n3 n4 p1 p2 p3 p4
              go_wp2_with (go_at_call 38; refine (HC2.out _).mono ?_; rintro e w9 ⟨rfl, hb9⟩; have HJ9 := Kept.mk (join HJ.out hb9); clear hb9)
              go_ret
              exact ⟨ret_int (by rw [HC.out, HE.out]), HJ9.out⟩
            · obtain rfl : s2 = false := by rw [hs2]; exact decide_eq_false g2
              have HE := Kept.mk (sgn_np (m := NB.n) g1 (by omega) n3 p3)
              clear hs1 hs2 g1 g2 n1 n2 n3 n4 p1 p2 p3 p4
              go_wp2_with fail
              go_ret
              exact ⟨ret_int (by rw [HC.out, HE.out]), HJ.out⟩
          · obtain rfl : s1 = false := by rw [hs1]; exact decide_eq_false g1
            by_cases g2 : NB.n < 0
            · obtain rfl : s2 = true := by rw [hs2]; exact decide_eq_true g2
              have HE := Kept.mk (sgn_pn (n := NA.n) (by omega) g2 n3 p3)
              clear hs1 hs2 g1 g2 n1 n2 n3 n4 p1 p2 p3 p4
              go_wp2_with fail
              go_ret
              exact ⟨ret_int (by rw [HC.out, HE.out]), HJ.out⟩
            · obtain rfl : s2 = false := by rw [hs2]; exact decide_eq_false g2
              have HE := Kept.mk (sgn_pp (n := NA.n) (m := NB.n) (by omega) (by omega) n3 p3)
              clear hs1 hs2 g1 g2 n1 n2 n3 n4 p1 p2 p3 p4
              go_wp2_with (go_at_call 38; refine (HC1.out _).mono ?_; rintro e w9 ⟨rfl, hb9⟩; have HJ9 := Kept.mk (join HJ.out hb9); clear hb9)
              go_ret
              exact ⟨ret_int (by rw [HC.out, HE.out]), HJ9.out⟩
end Go.Proofs.Ytjalegdfofogcaa
