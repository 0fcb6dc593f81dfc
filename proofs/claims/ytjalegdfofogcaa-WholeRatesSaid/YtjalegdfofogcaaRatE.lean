/- Rational numbers: sums of wide integers. -/
import Derived.Test.YtjalegdfofogcaaRatD
import Derived.Laws.Externs
import Derived.Shelf.Spec.BitsCarry
namespace Go.Proofs.Ytjalegdfofogcaa
set_option linter.unusedVariables false
set_option linter.unusedSimpArgs false
open Go.RowKit
theorem add64_run (x y c : Nat) (hc : c ≤ 1) (w : World) :
    (callFunc 65 #[.int .u64 x, .int .u64 y, .int .u64 c]).run Try.prog w = .ok (.value (.tuple #[.int .u64 (((x + y + c) % 18446744073709551616 : Nat) : Int), .int .u64 (((x + y + c) / 18446744073709551616 : Nat) : Int)])) w := by
  rw [run_callFunc_extern Try.func65 (by kernel_rfl) (by kernel_rfl) (by kernel_rfl) (e := add64Entry) (by kernel_rfl), run_add64 x y c (by omega) (by omega) (by omega) (by omega)]
  simp only [Result.andThen]
  congr 5 <;> omega
theorem sub64_run (x y b : Nat) (hb : b ≤ 1) (w : World) :
    (callFunc 66 #[.int .u64 x, .int .u64 y, .int .u64 b]).run Try.prog w = .ok (.value (.tuple #[.int .u64 (((x + 18446744073709551616 - y - b) % 18446744073709551616 : Nat) : Int), .int .u64 ((if x < y + b then 1 else 0 : Nat) : Int)])) w := by
  rw [run_callFunc_extern Try.func66 (by kernel_rfl) (by kernel_rfl) (by kernel_rfl) (e := sub64Entry) (by kernel_rfl), run_sub64 x y b hb]
  rfl
/-- Three boxes with wide integers. -/
structure W3 (w W : World) (s t : Bool) (h1 l1 h2 l2 : Nat) : Prop where
  x : Blk W w.heap.size 76 #[.bool s, .int .u64 (h1 : Int), .int .u64 (l1 : Int)]
  y : Blk W (w.heap.size + 1) 76 #[.bool t, .int .u64 (h2 : Int), .int .u64 (l2 : Int)]
  z : Blk W (w.heap.size + 2) 76 #[.bool false, .int .u64 0, .int .u64 0]
  blw : Below w.heap.size w W
section
variable {w W W' : World} {s t : Bool} {h1 l1 h2 l2 : Nat}
theorem W3.new_ (h : W3 w W s t h1 l1 h2 l2) (hb : Below W.heap.size W W') : W3 w W' s t h1 l1 h2 l2 := ⟨h.x.new_ hb, h.y.new_ hb, h.z.new_ hb, join h.blw hb⟩
theorem W3.start (w : World) (s t : Bool) (h1 l1 h2 l2 : Nat) : W3 w (((w.alloc (.cells #[.bool s, .int .u64 (h1 : Int), .int .u64 (l1 : Int)] 76)).alloc (.cells #[.bool t, .int .u64 (h2 : Int), .int .u64 (l2 : Int)] 76)).alloc (.cells #[.bool false, .int .u64 0, .int .u64 0] 76)) s t h1 l1 h2 l2 := by
  have g1 := Blk.new (w.alloc (.cells #[.bool s, .int .u64 (h1 : Int), .int .u64 (l1 : Int)] 76)) 76 #[.bool t, .int .u64 (h2 : Int), .int .u64 (l2 : Int)]
  have g2 := Blk.new ((w.alloc (.cells #[.bool s, .int .u64 (h1 : Int), .int .u64 (l1 : Int)] 76)).alloc (.cells #[.bool t, .int .u64 (h2 : Int), .int .u64 (l2 : Int)] 76)) 76 #[.bool false, .int .u64 0, .int .u64 0]
  rw [World.size_alloc] at g1
  rw [World.size_alloc, World.size_alloc] at g2
  exact ⟨((Blk.new _ _ _).alloc _).alloc _, g1.alloc _, g2, by go_grown⟩
theorem W3.cells (h : W3 w W s t h1 l1 h2 l2) : (W.cell? ⟨w.heap.size, 0, none⟩ = some (.bool s) ∧ W.cell? ⟨w.heap.size, 1, none⟩ = some (.int .u64 (h1 : Int)) ∧ W.cell? ⟨w.heap.size, 2, none⟩ = some (.int .u64 (l1 : Int))) ∧ (W.cell? ⟨w.heap.size + 1, 0, none⟩ = some (.bool t) ∧ W.cell? ⟨w.heap.size + 1, 1, none⟩ = some (.int .u64 (h2 : Int)) ∧ W.cell? ⟨w.heap.size + 1, 2, none⟩ = some (.int .u64 (l2 : Int))) ∧ (W.cell? ⟨w.heap.size + 2, 0, none⟩ = some (.bool false) ∧ W.cell? ⟨w.heap.size + 2, 1, none⟩ = some (.int .u64 0) ∧ W.cell? ⟨w.heap.size + 2, 2, none⟩ = some (.int .u64 0)) ∧ W.frozen? ⟨w.heap.size + 2, 0, none⟩ = false ∧ W.frozen? ⟨w.heap.size + 2, 1, none⟩ = false ∧ W.frozen? ⟨w.heap.size + 2, 2, none⟩ = false ∧ w.heap.size + 2 < W.heap.size :=
  ⟨⟨h.x.cell 0 rfl, h.x.cell 1 rfl, h.x.cell 2 rfl⟩, ⟨h.y.cell 0 rfl, h.y.cell 1 rfl, h.y.cell 2 rfl⟩, ⟨h.z.cell 0 rfl, h.z.cell 1 rfl, h.z.cell 2 rfl⟩, h.z.free 0, h.z.free 1, h.z.free 2, h.z.lt⟩
theorem W3.fin (h : W3 w W s t h1 l1 h2 l2) (x y z : Value) : ∃ W', W' = ((W.setCell ⟨w.heap.size + 2, 0, none⟩ x).setCell ⟨w.heap.size + 2, 1, none⟩ y).setCell ⟨w.heap.size + 2, 2, none⟩ z ∧ W'.cell? ⟨w.heap.size + 2, 0, none⟩ = some x ∧ W'.cell? ⟨w.heap.size + 2, 1, none⟩ = some y ∧ W'.cell? ⟨w.heap.size + 2, 2, none⟩ = some z ∧ Below w.heap.size w W' := by
  have hb : Blk (((W.setCell ⟨w.heap.size + 2, 0, none⟩ x).setCell ⟨w.heap.size + 2, 1, none⟩ y).setCell ⟨w.heap.size + 2, 2, none⟩ z) (w.heap.size + 2) 76 #[x, y, z] := ((h.z.set_ 0 x).set_ 1 y).to 2 z rfl
  exact ⟨_, rfl, hb.cell 0 rfl, hb.cell 1 rfl, hb.cell 2 rfl, ((h.blw.setCell (by simp only; omega) _).setCell (by simp only; omega) _).setCell (by simp only; omega) _⟩
/-- Both boxes exchanged. -/
theorem W3.swap (h : W3 w W s t h1 l1 h2 l2) : W3 w ((((((W.setCell ⟨w.heap.size, 0, none⟩ (.bool t)).setCell ⟨w.heap.size, 1, none⟩ (.int .u64 h2)).setCell ⟨w.heap.size, 2, none⟩ (.int .u64 l2)).setCell ⟨w.heap.size + 1, 0, none⟩ (.bool s)).setCell ⟨w.heap.size + 1, 1, none⟩ (.int .u64 h1)).setCell ⟨w.heap.size + 1, 2, none⟩ (.int .u64 l1)) t s h2 l2 h1 l1 := by
  refine ⟨?_, ?_, ?_, ?_⟩
  · exact ((((((h.x.set_ 0 _).set_ 1 _).to 2 _ rfl).far (by simp only; omega) _).far (by simp only; omega) _).far (by simp only; omega) _)
  · exact (((((h.y.far (by simp only; omega) _).far (by simp only; omega) _).far (by simp only; omega) _).set_ 0 _).set_ 1 _).to 2 _ rfl
  · exact (((((h.z.far (by simp only; omega) _).far (by simp only; omega) _).far (by simp only; omega) _).far (by simp only; omega) _).far (by simp only; omega) _).far (by simp only; omega) _
  · exact (((((h.blw.setCell (Nat.le_refl _) _).setCell (Nat.le_refl _) _).setCell (Nat.le_refl _) _).setCell (by simp only; omega) _).setCell (by simp only; omega) _).setCell (by simp only; omega) _
end
/-- The sum of two wide integers: its sign and its absolute value. -/
def addS (s t : Bool) (x y : Nat) : Bool := if s = t then s else if x < y then t else s
def addN (s t : Bool) (x y : Nat) : Nat := if s = t then x + y else if x < y then y - x else x - y
set_option maxRecDepth 100000 in
set_option maxHeartbeats 4000000 in
theorem add_c (s t : Bool) (x y : Nat) (w : World) (hx : x < 170141183460469231731687303715884105728) (hy : y < 170141183460469231731687303715884105728) : Calls Try.prog 51 #[wv s x, wv t y] w fun e w' => e = .returned (wv (addS s t x y) (addN s t x y)) ∧ Below w.heap.size w w' := by
  obtain ⟨h1, l1, e1, e2, e3, e4⟩ := words x
  obtain ⟨h2, l2, g1, g2, g3, g4⟩ := words y
  obtain ⟨R, hR⟩ : ∃ R, R = wv (addS s t x y) (addN s t x y) := ⟨_, rfl⟩
  rw [← hR]
  have HRR := Kept.mk hR
  clear hR
  have CM := fun w => compare_c s t x y w
  unfold wv at CM ⊢
  rw [e1, e2, g1, g2] at CM
  rw [e1, e2, g1, g2]
  go_enter Try.func51, Try.ntmps51
  go_upto_region 1 with fail
  obtain ⟨X, hX, HX⟩ : ∃ X, X = ((w.alloc (.cells #[.bool s, .int .u64 (h1 : Int), .int .u64 (l1 : Int)] 76)).alloc (.cells #[.bool t, .int .u64 (h2 : Int), .int .u64 (l2 : Int)] 76)).alloc (.cells #[.bool false, .int .u64 0, .int .u64 0] 76) ∧ Kept (W3 w X s t h1 l1 h2 l2) := ⟨_, rfl, ⟨W3.start w s t h1 l1 h2 l2⟩⟩
  rw [← hX]
  clear hX
  obtain ⟨⟨k0, k1, k2⟩, ⟨m0, m1, m2⟩, ⟨z0, z1, z2⟩, zf0, zf1, zf2, lz⟩ := HX.out.cells
  have HXN := Kept.mk e3
  have HYN := Kept.mk g3
  have HLB := Kept.mk (And.intro e4 g4)
  clear e1 e2 e3 e4 g1 g2 g3 g4
  cases hst : s == t with
  | true =>
    obtain rfl : s = t := by simpa using hst
    obtain ⟨lo, c, ha, hlo, hc⟩ : ∃ lo c : Nat, (∀ w, (callFunc 65 #[.int .u64 (l1 : Int), .int .u64 (l2 : Int), .int .u64 0]).run Try.prog w = .ok (.value (.tuple #[.int .u64 (lo : Int), .int .u64 (c : Int)])) w) ∧ lo = (l1 + l2) % 18446744073709551616 ∧ c = (l1 + l2) / 18446744073709551616 := ⟨_, _, fun w => add64_run l1 l2 0 (by omega) w, rfl, rfl⟩
    have hc1 : c ≤ 1 := by have := HLB.out; omega
    obtain ⟨hi, c2, hb, hhi⟩ : ∃ hi c2 : Nat, (∀ w, (callFunc 65 #[.int .u64 (h1 : Int), .int .u64 (h2 : Int), .int .u64 (c : Int)]).run Try.prog w = .ok (.value (.tuple #[.int .u64 (hi : Int), .int .u64 (c2 : Int)])) w) ∧ hi = (h1 + h2 + c) % 18446744073709551616 := ⟨_, _, fun w => add64_run h1 h2 c hc1 w, rfl⟩
    have HR : Kept (wv (addS s s x y) (addN s s x y) = .agg #[.bool s, .int .u64 (hi : Int), .int .u64 (lo : Int)]) := ⟨by
      have a1 := HXN.out
      have a2 := HYN.out
      have a3 := HLB.out
      have b1 : (x + y) / 18446744073709551616 = hi := by omega
      have b2 : (x + y) % 18446744073709551616 = lo := by omega
      unfold addS addN wv
      rw [if_pos rfl, if_pos rfl, b1, b2]⟩
    clear hlo hc hc1 hhi hst
    go_wp2_with (simp only [ha, hb])
    obtain ⟨W9, hW9, s0, s1, s2, hb9⟩ := HX.out.fin (.bool s) (.int .u64 (hi : Int)) (.int .u64 (lo : Int))
    rw [← hW9]
    clear hW9
    exact bodyPost_ret (v := .agg #[.bool s, .int .u64 (hi : Int), .int .u64 (lo : Int)]) (by simp [results, Try.results51, go_sem, s0, s1, s2]) rfl ⟨by rw [HRR.out, HR.out], hb9⟩
  | false =>
    have hst' : ¬ s = t := by simpa using hst
    by_cases hxy : x < y
    · have hcm : cmpN x y = -1 := by unfold cmpN; rw [if_pos hxy]
      rw [hcm] at CM
      obtain ⟨lo, c, ha, hlo, hc⟩ : ∃ lo c : Nat, (∀ w, (callFunc 66 #[.int .u64 (l2 : Int), .int .u64 (l1 : Int), .int .u64 0]).run Try.prog w = .ok (.value (.tuple #[.int .u64 (lo : Int), .int .u64 (c : Int)])) w) ∧ lo = (l2 + 18446744073709551616 - l1 - 0) % 18446744073709551616 ∧ c = (if l2 < l1 + 0 then 1 else 0) := ⟨_, _, fun w => sub64_run l2 l1 0 (by omega) w, rfl, rfl⟩
      have hc1 : c ≤ 1 := by rw [hc]; split <;> omega
      obtain ⟨hi, c2, hb, hhi⟩ : ∃ hi c2 : Nat, (∀ w, (callFunc 66 #[.int .u64 (h2 : Int), .int .u64 (h1 : Int), .int .u64 (c : Int)]).run Try.prog w = .ok (.value (.tuple #[.int .u64 (hi : Int), .int .u64 (c2 : Int)])) w) ∧ hi = (h2 + 18446744073709551616 - h1 - c) % 18446744073709551616 := ⟨_, _, fun w => sub64_run h2 h1 c hc1 w, rfl⟩
      have HR : Kept (wv (addS s t x y) (addN s t x y) = .agg #[.bool t, .int .u64 (hi : Int), .int .u64 (lo : Int)]) := ⟨by
        have a1 := HXN.out
        have a2 := HYN.out
        have a3 := HLB.out
        have b0 : c = 1 ∧ l2 < l1 ∨ c = 0 ∧ l1 ≤ l2 := by
          rw [hc]; split <;> omega
        have b1 : (y - x) / 18446744073709551616 = hi := by omega
        have b2 : (y - x) % 18446744073709551616 = lo := by omega
        unfold addS addN wv
        rw [if_neg hst', if_neg hst', if_pos hxy, if_pos hxy, b1, b2]⟩
      clear hlo hc hc1 hhi
      clear hcm hst'
      go_upto_region 7 with (go_at_call 38; refine (CM _).mono ?_; rintro e w9 ⟨rfl, hb9⟩; have HX1 := Kept.mk (HX.out.new_ hb9); clear hb9 k0 k1 k2 m0 m1 m2 z0 z1 z2 zf0 zf1 zf2 lz; obtain ⟨⟨k0, k1, k2⟩, ⟨m0, m1, m2⟩, ⟨z0, z1, z2⟩, zf0, zf1, zf2, lz⟩ := HX1.out.cells; have xf0 := HX1.out.x.free 0; have xf1 := HX1.out.x.free 1; have xf2 := HX1.out.x.free 2; have yf0 := HX1.out.y.free 0; have yf1 := HX1.out.y.free 1; have yf2 := HX1.out.y.free 2; have lx := HX1.out.x.lt; have ly := HX1.out.y.lt)
      obtain ⟨V, hV, HV⟩ : ∃ V, V = ((((((w9.setCell ⟨w.heap.size, 0, none⟩ (.bool t)).setCell ⟨w.heap.size, 1, none⟩ (.int .u64 h2)).setCell ⟨w.heap.size, 2, none⟩ (.int .u64 l2)).setCell ⟨w.heap.size + 1, 0, none⟩ (.bool s)).setCell ⟨w.heap.size + 1, 1, none⟩ (.int .u64 h1)).setCell ⟨w.heap.size + 1, 2, none⟩ (.int .u64 l1)) ∧ Kept (W3 w V t s h2 l2 h1 l1) := ⟨_, rfl, ⟨HX1.out.swap⟩⟩
      rw [← hV]
      clear hV k0 k1 k2 m0 m1 m2 z0 z1 z2 zf0 zf1 zf2 lz xf0 xf1 xf2 yf0 yf1 yf2 lx ly
      obtain ⟨⟨k0, k1, k2⟩, ⟨m0, m1, m2⟩, ⟨z0, z1, z2⟩, zf0, zf1, zf2, lz⟩ := HV.out.cells
      go_wp2_with (simp only [ha, hb])
      obtain ⟨W9, hW9, s0, s1, s2, hb9⟩ := HV.out.fin (.bool t) (.int .u64 (hi : Int)) (.int .u64 (lo : Int))
      rw [← hW9]
      clear hW9
      exact bodyPost_ret (v := .agg #[.bool t, .int .u64 (hi : Int), .int .u64 (lo : Int)]) (by simp [results, Try.results51, go_sem, s0, s1, s2]) rfl ⟨by rw [HRR.out, HR.out], hb9⟩
    · have hcm : cmpN x y = 0 ∨ cmpN x y = 1 := by unfold cmpN; rw [if_neg hxy]; split; exact .inl rfl; exact .inr rfl
      obtain ⟨lo, c, ha, hlo, hc⟩ : ∃ lo c : Nat, (∀ w, (callFunc 66 #[.int .u64 (l1 : Int), .int .u64 (l2 : Int), .int .u64 0]).run Try.prog w = .ok (.value (.tuple #[.int .u64 (lo : Int), .int .u64 (c : Int)])) w) ∧ lo = (l1 + 18446744073709551616 - l2 - 0) % 18446744073709551616 ∧ c = (if l1 < l2 + 0 then 1 else 0) := ⟨_, _, fun w => sub64_run l1 l2 0 (by omega) w, rfl, rfl⟩
      have hc1 : c ≤ 1 := by rw [hc]; split <;> omega
      obtain ⟨hi, c2, hb, hhi⟩ : ∃ hi c2 : Nat, (∀ w, (callFunc 66 #[.int .u64 (h1 : Int), .int .u64 (h2 : Int), .int .u64 (c : Int)]).run Try.prog w = .ok (.value (.tuple #[.int .u64 (hi : Int), .int .u64 (c2 : Int)])) w) ∧ hi = (h1 + 18446744073709551616 - h2 - c) % 18446744073709551616 := ⟨_, _, fun w => sub64_run h1 h2 c hc1 w, rfl⟩
      have HR : Kept (wv (addS s t x y) (addN s t x y) = .agg #[.bool s, .int .u64 (hi : Int), .int .u64 (lo : Int)]) := ⟨by
        have a1 := HXN.out
        have a2 := HYN.out
        have a3 := HLB.out
        have b0 : c = 1 ∧ l1 < l2 ∨ c = 0 ∧ l2 ≤ l1 := by
          rw [hc]; split <;> omega
        have b1 : (x - y) / 18446744073709551616 = hi := by omega
        have b2 : (x - y) % 18446744073709551616 = lo := by omega
        unfold addS addN wv
        rw [if_neg hst', if_neg hst', if_neg hxy, if_neg hxy, b1, b2]⟩
      clear hlo hc hc1 hhi
      obtain ⟨z, hz, hz0⟩ : ∃ z, cmpN x y = z ∧ ¬ z < 0 := ⟨_, rfl, by omega⟩
      rw [hz] at CM
      clear hcm hst' hz
      go_wp2_with (first | (simp only [ha, hb]) | (go_at_call 38; refine (CM _).mono ?_; rintro e w9 ⟨rfl, hb9⟩; have HX1 := Kept.mk (HX.out.new_ hb9); clear hb9 k0 k1 k2 m0 m1 m2 z0 z1 z2 zf0 zf1 zf2 lz; obtain ⟨⟨k0, k1, k2⟩, ⟨m0, m1, m2⟩, ⟨z0, z1, z2⟩, zf0, zf1, zf2, lz⟩ := HX1.out.cells))
      obtain ⟨W9, hW9, s0, s1, s2, hb9⟩ := HX1.out.fin (.bool s) (.int .u64 (hi : Int)) (.int .u64 (lo : Int))
      rw [← hW9]
      clear hW9
      exact bodyPost_ret (v := .agg #[.bool s, .int .u64 (hi : Int), .int .u64 (lo : Int)]) (by simp [results, Try.results51, go_sem, s0, s1, s2]) rfl ⟨by rw [HRR.out, HR.out], hb9⟩
end Go.Proofs.Ytjalegdfofogcaa
