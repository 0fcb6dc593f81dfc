/- Rational numbers: from wide integers back to numbers. -/
import Derived.Test.YtjalegdfofogcaaRatC
namespace Go.Proofs.Ytjalegdfofogcaa
set_option linter.unusedVariables false
set_option linter.unusedSimpArgs false
open Go.RowKit
/-- The two words of a wide integer. -/
theorem words (x : Nat) : ∃ h l : Nat, x / 18446744073709551616 = h ∧ x % 18446744073709551616 = l ∧ x = h * 18446744073709551616 + l ∧ l < 18446744073709551616 := ⟨_, _, rfl, rfl, by omega, by omega⟩
set_option maxHeartbeats 1000000 in
theorem fits_c (s : Bool) (x : Nat) (w : World) : Calls Try.prog 56 #[wv s x] w fun e w' => e = .returned (.bool (decide (x ≤ 1152921504606846976))) ∧ Below w.heap.size w w' := by
  obtain ⟨h, l, e1, e2, e3, e4⟩ := words x
  unfold wv
  rw [e1, e2]
  by_cases h0 : h = 0
  · subst h0
    by_cases hl : (l : Int) ≤ 1152921504606846976
    · have E : Kept (decide (x ≤ 1152921504606846976) = true) := ⟨decide_eq_true (by omega)⟩
      clear e1 e2 e3
      go_enter Try.func56, Try.ntmps56
      go_wp2_with fail
      go_ret
      exact ⟨ret_bool (by rw [E.out] <;> first | rfl | exact decide_eq_true hl), by go_grown⟩
    · have E : Kept (decide (x ≤ 1152921504606846976) = false) := ⟨decide_eq_false (by omega)⟩
      clear e1 e2 e3
      go_enter Try.func56, Try.ntmps56
      go_wp2_with fail
      go_ret
      exact ⟨ret_bool (by rw [E.out] <;> first | rfl | exact decide_eq_false hl), by go_grown⟩
  · have hz : ((h : Int) == 0) = false := beq_false_of_ne (by omega)
    have E : Kept (decide (x ≤ 1152921504606846976) = false) := ⟨decide_eq_false (by omega)⟩
    clear e1 e2 e3
    go_enter Try.func56, Try.ntmps56
    go_wp2_with fail
    go_ret
    exact ⟨ret_bool (by rw [E.out] <;> rfl), by go_grown⟩
def sg (s : Bool) (x : Nat) : Int := if s then -(x : Int) else x
set_option maxHeartbeats 1000000 in
theorem signed_c (s : Bool) (x : Nat) (w : World) (hx : x ≤ 1152921504606846976) : Calls Try.prog 57 #[wv s x] w fun e w' => e = .returned (.int .i64 (sg s x)) ∧ Below w.heap.size w w' := by
  obtain ⟨h, l, e1, e2, e3, e4⟩ := words x
  unfold wv
  rw [e1, e2]
  have h0 : h = 0 := by omega
  subst h0
  have hl : (l : Int) ≤ 1152921504606846976 := by omega
  obtain rfl : x = l := by omega
  clear e1 e2 e3
  cases s
  · go_enter Try.func57, Try.ntmps57
    go_wp2_with fail
    go_ret
    exact ⟨ret_int (by simp [sg]), by go_grown⟩
  · go_enter Try.func57, Try.ntmps57
    go_wp2_with fail
    go_ret
    exact ⟨ret_int (by simp [sg]), by go_grown⟩
/-- Two boxes with wide integers, one with a number. -/
structure B3 (w W : World) (s t : Bool) (h1 l1 h2 l2 : Nat) : Prop where
  x : Blk W w.heap.size 76 #[.bool s, .int .u64 (h1 : Int), .int .u64 (l1 : Int)]
  y : Blk W (w.heap.size + 1) 76 #[.bool t, .int .u64 (h2 : Int), .int .u64 (l2 : Int)]
  z : Blk W (w.heap.size + 2) 32 #[.int .i64 0, .int .i64 0]
  blw : Below w.heap.size w W
section
variable {w W W' : World} {s t : Bool} {h1 l1 h2 l2 : Nat}
theorem B3.new_ (h : B3 w W s t h1 l1 h2 l2) (hb : Below W.heap.size W W') : B3 w W' s t h1 l1 h2 l2 := ⟨h.x.new_ hb, h.y.new_ hb, h.z.new_ hb, join h.blw hb⟩
theorem B3.start (w : World) (s t : Bool) (h1 l1 h2 l2 : Nat) : B3 w (((w.alloc (.cells #[.bool s, .int .u64 (h1 : Int), .int .u64 (l1 : Int)] 76)).alloc (.cells #[.bool t, .int .u64 (h2 : Int), .int .u64 (l2 : Int)] 76)).alloc (.cells #[.int .i64 0, .int .i64 0] 32)) s t h1 l1 h2 l2 := by
  have g1 := Blk.new (w.alloc (.cells #[.bool s, .int .u64 (h1 : Int), .int .u64 (l1 : Int)] 76)) 76 #[.bool t, .int .u64 (h2 : Int), .int .u64 (l2 : Int)]
  have g2 := Blk.new ((w.alloc (.cells #[.bool s, .int .u64 (h1 : Int), .int .u64 (l1 : Int)] 76)).alloc (.cells #[.bool t, .int .u64 (h2 : Int), .int .u64 (l2 : Int)] 76)) 32 #[.int .i64 0, .int .i64 0]
  rw [World.size_alloc] at g1
  rw [World.size_alloc, World.size_alloc] at g2
  exact ⟨((Blk.new _ _ _).alloc _).alloc _, g1.alloc _, g2, by go_grown⟩
theorem B3.cells (h : B3 w W s t h1 l1 h2 l2) : (W.cell? ⟨w.heap.size, 0, none⟩ = some (.bool s) ∧ W.cell? ⟨w.heap.size, 1, none⟩ = some (.int .u64 (h1 : Int)) ∧ W.cell? ⟨w.heap.size, 2, none⟩ = some (.int .u64 (l1 : Int))) ∧ (W.cell? ⟨w.heap.size + 1, 0, none⟩ = some (.bool t) ∧ W.cell? ⟨w.heap.size + 1, 1, none⟩ = some (.int .u64 (h2 : Int)) ∧ W.cell? ⟨w.heap.size + 1, 2, none⟩ = some (.int .u64 (l2 : Int))) :=
  ⟨⟨h.x.cell 0 rfl, h.x.cell 1 rfl, h.x.cell 2 rfl⟩, h.y.cell 0 rfl, h.y.cell 1 rfl, h.y.cell 2 rfl⟩
theorem B3.zero (h : B3 w W s t h1 l1 h2 l2) : (W.cell? ⟨w.heap.size + 2, 0, none⟩ = some (.int .i64 0) ∧ W.cell? ⟨w.heap.size + 2, 1, none⟩ = some (.int .i64 0)) ∧ W.frozen? ⟨w.heap.size + 2, 0, none⟩ = false ∧ W.frozen? ⟨w.heap.size + 2, 1, none⟩ = false := ⟨⟨h.z.cell 0 rfl, h.z.cell 1 rfl⟩, h.z.free 0, h.z.free 1⟩
theorem B3.fin (h : B3 w W s t h1 l1 h2 l2) (x y : Value) : ∃ W', W' = (W.setCell ⟨w.heap.size + 2, 0, none⟩ x).setCell ⟨w.heap.size + 2, 1, none⟩ y ∧ W'.cell? ⟨w.heap.size + 2, 0, none⟩ = some x ∧ W'.cell? ⟨w.heap.size + 2, 1, none⟩ = some y ∧ Below w.heap.size w W' := by
  have hb : Blk ((W.setCell ⟨w.heap.size + 2, 0, none⟩ x).setCell ⟨w.heap.size + 2, 1, none⟩ y) (w.heap.size + 2) 32 #[x, y] := (h.z.set_ 0 x).to 1 y rfl
  exact ⟨_, rfl, hb.cell 0 rfl, hb.cell 1 rfl, (h.blw.setCell (by simp only; omega) _).setCell (by simp only; omega) _⟩
end
/-- What 'result' answers. -/
def resQ (s t : Bool) (x y : Nat) : Rq := if x = 0 then ⟨0, 1⟩ else if x ≤ 1152921504606846976 ∧ y ≤ 1152921504606846976 then ⟨sg s x, sg t y⟩ else ⟨0, 0⟩
def resE (x y : Nat) : Int := if x = 0 then 0 else if x ≤ 1152921504606846976 ∧ y ≤ 1152921504606846976 then 0 else 10
set_option maxRecDepth 100000 in
set_option maxHeartbeats 4000000 in
theorem result_c (s t : Bool) (x y : Nat) (w : World) : Calls Try.prog 36 #[wv s x, wv t y] w fun e w' => e = .returned (.tuple #[rqv (resQ s t x y), .int .i64 (resE x y)]) ∧ Below w.heap.size w w' := by
  obtain ⟨h1, l1, e1, e2, e3, e4⟩ := words x
  obtain ⟨h2, l2, g1, g2, g3, g4⟩ := words y
  have F1 := fun w => fits_c s x w
  have F2 := fun w => fits_c t y w
  have G1 := fun w h => signed_c s x w h
  have G2 := fun w h => signed_c t y w h
  unfold wv at F1 F2 G1 G2 ⊢
  rw [e1, e2] at F1 G1 ⊢
  rw [g1, g2] at F2 G2 ⊢
  go_enter Try.func36, Try.ntmps36
  go_upto_region 1 with fail
  obtain ⟨X, hX, HX⟩ : ∃ X, X = ((w.alloc (.cells #[.bool s, .int .u64 (h1 : Int), .int .u64 (l1 : Int)] 76)).alloc (.cells #[.bool t, .int .u64 (h2 : Int), .int .u64 (l2 : Int)] 76)).alloc (.cells #[.int .i64 0, .int .i64 0] 32) ∧ Kept (B3 w X s t h1 l1 h2 l2) := ⟨_, rfl, ⟨B3.start w s t h1 l1 h2 l2⟩⟩
  rw [← hX]
  clear hX
  obtain ⟨⟨k0, k1, k2⟩, m0, m1, m2⟩ := HX.out.cells
  obtain ⟨⟨z0, z1⟩, zf0, zf1⟩ := HX.out.zero
  have lz := HX.out.z.lt
  have HXN := Kept.mk e3
  have HYN := Kept.mk g3
  clear e1 e2 e3 g1 g2 g3
  by_cases hx0 : x = 0
  · have h0 : h1 = 0 ∧ l1 = 0 := by have := HXN.out; omega
    obtain ⟨rfl, rfl⟩ := h0
    have HQ : Kept (resQ s t x y = ⟨0, 1⟩ ∧ resE x y = 0) := ⟨by unfold resQ resE; rw [if_pos hx0, if_pos hx0]; exact ⟨rfl, rfl⟩⟩
    go_wp2_with fail
    obtain ⟨W9, hW9, s0, s1, hb⟩ := HX.out.fin (.int .i64 0) (.int .i64 1)
    rw [← hW9]
    clear hW9
    rw [HQ.out.1, HQ.out.2]
    exact bodyPost_ret (v := .tuple #[.agg #[.int .i64 0, .int .i64 1], .int .i64 0]) (by simp [results, Try.results36, go_sem, s0, s1]) rfl ⟨rfl, hb⟩
  · have hcz : ((h1 : Int) == 0) = false ∨ ((h1 : Int) == 0) = true ∧ ((l1 : Int) == 0) = false := by
      have := HXN.out
      by_cases q : h1 = 0
      · right; subst q; exact ⟨rfl, beq_false_of_ne (by omega)⟩
      · left; exact beq_false_of_ne (by omega)
    have HX0 := Kept.mk hx0
    clear hx0
    go_cut [13] (fun s13 wx => s13 = .bool false ∧ wx = X)
    case first =>
      rcases hcz with y1 | ⟨y1, y2⟩
      all_goals
        go_wp2_with fail
        go_meet
        exact ⟨rfl, rfl⟩
    case rest =>
      obtain ⟨rfl, hwc⟩ := hcut
      subst hwc
      clear hcz
      have tok1 : True := trivial
      by_cases hx : x ≤ 1152921504606846976
      · have dx : decide (x ≤ 1152921504606846976) = true := decide_eq_true hx
        by_cases hy : y ≤ 1152921504606846976
        · have dy : decide (y ≤ 1152921504606846976) = true := decide_eq_true hy
          have HQ : Kept (resQ s t x y = ⟨sg s x, sg t y⟩ ∧ resE x y = 0) := ⟨by unfold resQ resE; rw [if_neg HX0.out, if_neg HX0.out, if_pos ⟨hx, hy⟩, if_pos ⟨hx, hy⟩]; exact ⟨rfl, rfl⟩⟩
          have G1' := fun w => G1 w hx
          have G2' := fun w => G2 w hy
          clear G1 G2 hx hy
          go_upto_region 5 with (first | (go_at_call 56; have _t := tok1; refine (F1 _).mono ?_; rintro e w9 ⟨rfl, hb9⟩; rw [dx]; have HX1 := Kept.mk (HX.out.new_ hb9); clear hb9 tok1 _t k0 k1 k2 m0 m1 m2 z0 z1 zf0 zf1 lz; obtain ⟨⟨k0, k1, k2⟩, m0, m1, m2⟩ := HX1.out.cells; obtain ⟨⟨z0, z1⟩, zf0, zf1⟩ := HX1.out.zero; have lz := HX1.out.z.lt; have tok2 : True := trivial) | (go_at_call 56; have _t := tok2; refine (F2 _).mono ?_; rintro e w9 ⟨rfl, hb9⟩; rw [dy]; have HX2 := Kept.mk (HX1.out.new_ hb9); clear hb9 tok2 _t k0 k1 k2 m0 m1 m2 z0 z1 zf0 zf1 lz; obtain ⟨⟨k0, k1, k2⟩, m0, m1, m2⟩ := HX2.out.cells; obtain ⟨⟨z0, z1⟩, zf0, zf1⟩ := HX2.out.zero; have lz := HX2.out.z.lt; have tok3 : True := trivial))
          go_region_held3 (fun w' => (w'.cell? ⟨w.heap.size, 0, none⟩ = some (.bool s) ∧ w'.cell? ⟨w.heap.size, 1, none⟩ = some (.int .u64 (h1 : Int)) ∧ w'.cell? ⟨w.heap.size, 2, none⟩ = some (.int .u64 (l1 : Int))) ∧ (w'.cell? ⟨w.heap.size + 1, 0, none⟩ = some (.bool t) ∧ w'.cell? ⟨w.heap.size + 1, 1, none⟩ = some (.int .u64 (h2 : Int)) ∧ w'.cell? ⟨w.heap.size + 1, 2, none⟩ = some (.int .u64 (l2 : Int)))) (first | exact HXb.out.cells | exact HXa.out.cells | exact HX2.out.cells | (go_keep; done) | (simp [World.cell?_setCell_other, k0, k1, k2, m0, m1, m2]; done)) (first | (go_at_call 57; have _t := tok3; refine (G1' _).mono ?_; rintro e wa ⟨rfl, hba⟩; have HXa := Kept.mk ((HX2.out.new_ (dN (Below.refl _ _) 1)).new_ hba); clear hba tok3 _t; have tok4 : True := trivial) | (go_at_call 57; have _t := tok4; refine (G2' _).mono ?_; rintro e wb ⟨rfl, hbb⟩; have HXb := Kept.mk (HXa.out.new_ hbb); clear hbb tok4 _t k0 k1 k2 m0 m1 m2 z0 z1 zf0 zf1 lz; obtain ⟨⟨k0, k1, k2⟩, m0, m1, m2⟩ := HXb.out.cells; obtain ⟨⟨z0, z1⟩, zf0, zf1⟩ := HXb.out.zero; have lz := HXb.out.z.lt))
          go_wp2_with fail
          obtain ⟨W9, hW9, s0, s1, hb⟩ := HXb.out.fin (.int .i64 (sg s x)) (.int .i64 (sg t y))
          rw [← hW9]
          clear hW9
          rw [HQ.out.1, HQ.out.2]
          exact bodyPost_ret (v := .tuple #[.agg #[.int .i64 (sg s x), .int .i64 (sg t y)], .int .i64 0]) (by simp [results, Try.results36, go_sem, s0, s1]) rfl ⟨rfl, hb⟩
        · have dy : decide (y ≤ 1152921504606846976) = false := decide_eq_false hy
          have HQ : Kept (resQ s t x y = ⟨0, 0⟩ ∧ resE x y = 10) := ⟨by unfold resQ resE; rw [if_neg HX0.out, if_neg HX0.out, if_neg (fun h => hy h.2), if_neg (fun h => hy h.2)]; exact ⟨rfl, rfl⟩⟩
          clear hx hy
          go_wp2_with (first | (go_at_call 56; have _t := tok1; refine (F1 _).mono ?_; rintro e w9 ⟨rfl, hb9⟩; rw [dx]; have HX1 := Kept.mk (HX.out.new_ hb9); clear hb9 tok1 _t k0 k1 k2 m0 m1 m2 z0 z1 zf0 zf1 lz; obtain ⟨⟨k0, k1, k2⟩, m0, m1, m2⟩ := HX1.out.cells; obtain ⟨⟨z0, z1⟩, zf0, zf1⟩ := HX1.out.zero; have lz := HX1.out.z.lt; have tok2 : True := trivial) | (go_at_call 56; have _t := tok2; refine (F2 _).mono ?_; rintro e w9 ⟨rfl, hb9⟩; rw [dy]; have HX2 := Kept.mk (HX1.out.new_ hb9); clear hb9 tok2 _t k0 k1 k2 m0 m1 m2 z0 z1 zf0 zf1 lz; obtain ⟨⟨k0, k1, k2⟩, m0, m1, m2⟩ := HX2.out.cells; obtain ⟨⟨z0, z1⟩, zf0, zf1⟩ := HX2.out.zero; have lz := HX2.out.z.lt; have tok3 : True := trivial))
          obtain ⟨W9, hW9, s0, s1, hb⟩ := HX2.out.fin (.int .i64 0) (.int .i64 0)
          rw [← hW9]
          clear hW9
          rw [HQ.out.1, HQ.out.2]
          exact bodyPost_ret (v := .tuple #[.agg #[.int .i64 0, .int .i64 0], .int .i64 10]) (by simp [results, Try.results36, go_sem, s0, s1]) rfl ⟨rfl, hb⟩
      · have dx : decide (x ≤ 1152921504606846976) = false := decide_eq_false hx
        have HQ : Kept (resQ s t x y = ⟨0, 0⟩ ∧ resE x y = 10) := ⟨by unfold resQ resE; rw [if_neg HX0.out, if_neg HX0.out, if_neg (fun h => hx h.1), if_neg (fun h => hx h.1)]; exact ⟨rfl, rfl⟩⟩
        clear hx
        go_wp2_with (go_at_call 56; have _t := tok1; refine (F1 _).mono ?_; rintro e w9 ⟨rfl, hb9⟩; rw [dx]; have HX1 := Kept.mk (HX.out.new_ hb9); clear hb9 tok1 _t k0 k1 k2 m0 m1 m2 z0 z1 zf0 zf1 lz; obtain ⟨⟨k0, k1, k2⟩, m0, m1, m2⟩ := HX1.out.cells; obtain ⟨⟨z0, z1⟩, zf0, zf1⟩ := HX1.out.zero; have lz := HX1.out.z.lt; have tok2 : True := trivial)
        obtain ⟨W9, hW9, s0, s1, hb⟩ := HX1.out.fin (.int .i64 0) (.int .i64 0)
        rw [← hW9]
        clear hW9
        rw [HQ.out.1, HQ.out.2]
        exact bodyPost_ret (v := .tuple #[.agg #[.int .i64 0, .int .i64 0], .int .i64 10]) (by simp [results, Try.results36, go_sem, s0, s1]) rfl ⟨rfl, hb⟩
end Go.Proofs.Ytjalegdfofogcaa
