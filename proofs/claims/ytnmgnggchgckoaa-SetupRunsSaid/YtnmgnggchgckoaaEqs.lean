/- Setup: two messages compared whole; slices.Equal on messages; the comparison with the reference's. -/
import Derived.Test.YtnmgnggchgckoaaNew
import Derived.WalkSpells
namespace Go.Proofs.Ytnmgnggchgckoaa
set_option linter.unusedVariables false
set_option linter.unusedSimpArgs false
open Go.RowKit
theorem eq3 (w : World) (d : Nat) (a b : Int) : (Op.equalIn (d + 1) 3 (.int .i64 a) (.int .i64 b)).run Try.prog w = .ok (a == b) w := by
  simp [Op.equalIn, run_underlying Try.underlying3]
theorem cells3 : Try.prog.cellsOf 3 = 1 := by kernel_rfl
def mB (a b c a' b' c' : Int) : Bool := a == a' && (b == b' && c == c')
set_option maxHeartbeats 1000000 in
theorem eq38 (w : World) (d : Nat) (a b c a' b' c' : Int) : (Op.equalIn (d + 2) 38 (.agg #[.int .i64 a, .int .i64 b, .int .i64 c]) (.agg #[.int .i64 a', .int .i64 b', .int .i64 c'])).run Try.prog w = .ok (mB a b c a' b' c') w := by
  rw [Op.equalIn]
  simp [run_underlying Try.underlying38, eq3]
  by_cases h1 : a = a' <;> by_cases h2 : b = b' <;> by_cases h4 : c = c' <;> simp [mB, List.range'_succ, part, cells3, eq3, h1, h2, h4, run_underlying Try.underlying3]
set_option maxHeartbeats 1000000 in
theorem eq58 (w : World) (d : Nat) (a b c a' b' c' : Int) : (Op.equalIn (d + 2) 58 (.agg #[.int .i64 a, .int .i64 b, .int .i64 c]) (.agg #[.int .i64 a', .int .i64 b', .int .i64 c'])).run Try.prog w = .ok (mB a b c a' b' c') w := by
  rw [Op.equalIn]
  simp [run_underlying Try.underlying58, eq3]
  by_cases h1 : a = a' <;> by_cases h2 : b = b' <;> by_cases h4 : c = c' <;> simp [mB, List.range'_succ, part, cells3, eq3, h1, h2, h4, run_underlying Try.underlying3]
theorem neq38 (w : World) (a b c a' b' c' : Int) : (binOp .neq 38 (.agg #[.int .i64 a, .int .i64 b, .int .i64 c]) (.agg #[.int .i64 a', .int .i64 b', .int .i64 c'])).run Try.prog w = .ok (.bool (!(mB a b c a' b' c'))) w := by
  simp only [binOp]
  simp [Op.equal, Op.maxDepth, eq38 w 9998]
theorem eql58 (w : World) (a b c a' b' c' : Int) : (binOp .eql 58 (.agg #[.int .i64 a, .int .i64 b, .int .i64 c]) (.agg #[.int .i64 a', .int .i64 b', .int .i64 c'])).run Try.prog w = .ok (.bool (mB a b c a' b' c')) w := by
  simp only [binOp]
  simp [Op.equal, Op.maxDepth, eq58 w 9998]
theorem mB_iff {a b c a' b' c' : Int} : mB a b c a' b' c' = true ↔ (⟨a, b, c⟩ : Msg) = ⟨a', b', c'⟩ := by simp [mB]
theorem mB_msg (x y : Msg) : mB x.kind x.conn x.dest y.kind y.conn y.dest = decide (x = y) := by
  obtain ⟨a, b, c⟩ := x
  obtain ⟨a', b', c'⟩ := y
  rw [Bool.eq_iff_iff, mB_iff]; simp
/-- The slice's cells lie in a row of plain cells. -/
theorem Reads.spot {w : World} {B sz n : Nat} {A : Option Addr} {xs : List Value} (h : Reads w B sz A n xs) (hn : 0 < n) (hs : 0 < sz) :
    ∃ b off, A = some ⟨b, off, none⟩ ∧ b < B ∧ b < w.heap.size ∧ ∀ j u, xs[j]? = some u → w.cell? ⟨b, off + j, none⟩ = some u := by
  obtain ⟨ad, rfl, hb, hc⟩ := h.2 hn
  have hl : 0 < xs.length := by rw [h.1]; exact Nat.mul_pos hn hs
  obtain ⟨b, off, spot⟩ := ad
  have h0 := hc 0 _ (List.getElem?_eq_getElem hl)
  rw [show (Addr.add ⟨b, off, spot⟩ 0) = ⟨b, off, spot⟩ by simp [Addr.add]] at h0
  have hsp : spot = none := World.cell?_spot h0
  subst hsp
  refine ⟨b, off, rfl, hb, World.block_lt_of_cell? w _ h0, fun j u hu => ?_⟩
  have := hc j u hu
  rw [← this]
  congr 1
  unfold Addr.add
  split
  · rename_i h; subst h; simp
  · rfl
def Drewn (w w' : World) : Prop := ∃ n, w' = w.drewN n
theorem Drewn.reads {w w' : World} {B sz n : Nat} {A : Option Addr} {xs : List Value} (h : Drewn w w') (hr : Reads w B sz A n xs) : Reads w' B sz A n xs := by
  obtain ⟨k, rfl⟩ := h; exact hr.drewN k
theorem Drewn.step {w w' : World} (h : Drewn w w') (n : Nat) : Drewn w (w'.drewN n) := by
  obtain ⟨k, rfl⟩ := h; exact ⟨k + n, by simp⟩
theorem Drewn.below {w w' : World} (h : Drewn w w') : Below w.heap.size w w' := by
  obtain ⟨k, rfl⟩ := h; exact dN (Below.refl _ _) k
theorem take_eq_succ {α : Type} {l m : List α} {k : Nat} {x y : α} (hl : l[k]? = some x) (hm : m[k]? = some y) (h : l.take k = m.take k) (hxy : x = y) : l.take (k + 1) = m.take (k + 1) := by
  rw [List.take_add_one, List.take_add_one, h, hl, hm, hxy]
theorem ne_of_at {α : Type} {l m : List α} {k : Nat} {x y : α} (hl : l[k]? = some x) (hm : m[k]? = some y) (hxy : x ≠ y) : l ≠ m := by
  rintro rfl; rw [hl] at hm; injection hm with hm; exact hxy hm
theorem get_some {α : Type} {l : List α} {k : Nat} (h : k < l.length) : ∃ x, l[k]? = some x := ⟨l[k], List.getElem?_eq_getElem h⟩
set_option maxHeartbeats 2000000 in
theorem eqm_c (l m : List Msg) (A A' : Option Addr) (kap kap' : Nat) (w : World) (B B' : Nat) (hl : Reads w B 3 A l.length (mcells l)) (hm : Reads w B' 3 A' m.length (mcells m)) (hn : l.length ≤ 1000000) (hn2 : m.length ≤ 1000000) :
    Calls Try.prog 23 #[.slice A l.length kap, .slice A' m.length kap'] w fun e w' => e = .returned (.bool (decide (l = m))) ∧ Drewn w w' := by
  have HL := Kept.mk hl
  have HM := Kept.mk hm
  clear hl hm
  by_cases hlen : l.length = m.length
  · have HE := Kept.mk hlen
    have hle : l.length ≤ m.length := by omega
    have hle2 : m.length ≤ l.length := by omega
    clear hlen
    go_enter Try.func23, Try.ntmps23
    go_wp2_with fail
    go_loopw [13] (fun v13 wr => ∃ k : Nat, k ≤ l.length ∧ v13 = .int .i64 k ∧ Kept (l.take k = m.take k) ∧ Kept (Drewn w wr)) (fun v13 _ => l.length - (intOf v13).toNat)
    case atStart => exact ⟨0, by omega, rfl, ⟨rfl⟩, ⟨⟨0, rfl⟩⟩⟩
    case round =>
      obtain ⟨k, hk, rfl, HT, HD⟩ := hrel
      by_cases hlt : k < l.length
      · obtain ⟨b, off, rfl, -, hb, hc⟩ := (HD.out.reads HL.out).spot (by omega) (by omega)
        obtain ⟨b', off', rfl, -, hb', hc'⟩ := (HD.out.reads HM.out).spot (by omega) (by omega)
        obtain ⟨x, hx⟩ := get_some hlt
        obtain ⟨y, hy⟩ := get_some (show k < m.length by omega)
        obtain ⟨g1, g2, g3⟩ := mcells_get hx
        obtain ⟨g1', g2', g3'⟩ := mcells_get hy
        have c1 := hc _ _ g1
        have c2 := hc _ _ g2
        have c3 := hc _ _ g3
        have c1' := hc' _ _ g1'
        have c2' := hc' _ _ g2'
        have c3' := hc' _ _ g3'
        rw [show off + (k * 3 + 1) = off + k * 3 + 1 by omega] at c2
        rw [show off + (k * 3 + 2) = off + k * 3 + 2 by omega] at c3
        rw [show off' + (k * 3 + 1) = off' + k * 3 + 1 by omega] at c2'
        rw [show off' + (k * 3 + 2) = off' + k * 3 + 2 by omega] at c3'
        have HX := Kept.mk hx
        have HY := Kept.mk hy
        have HB := Kept.mk (mB_msg x y)
        clear hx hy hc hc' g1 g2 g3 g1' g2' g3'
        by_cases hxy : x = y
        · have HN := Kept.mk (take_eq_succ HX.out HY.out HT.out hxy)
          have hq := fun W => neq38 W x.kind x.conn x.dest y.kind y.conn y.dest
          have HB2 : Kept (mB x.kind x.conn x.dest y.kind y.conn y.dest = true) := ⟨by rw [HB.out]; simpa using hxy⟩
          simp only [HB2.out, Bool.not_true] at hq
          clear hxy
          generalize x.kind = x1 at *
          generalize x.conn = x2 at *
          generalize x.dest = x3 at *
          generalize y.kind = y1 at *
          generalize y.conn = y2 at *
          generalize y.dest = y3 at *
          go_wp2_with fail
          go_quiet (fail)
          go_wp2_with fail
          go_roundw
          case rel => exact ⟨k + 1, by omega, by go_num, HN, ⟨HD.out.step _⟩⟩
          case measure => simp [intOf]; omega
        · have HN := Kept.mk (ne_of_at HX.out HY.out hxy)
          have hq := fun W => neq38 W x.kind x.conn x.dest y.kind y.conn y.dest
          have HB2 : Kept (mB x.kind x.conn x.dest y.kind y.conn y.dest = false) := ⟨by rw [HB.out]; simpa using hxy⟩
          simp only [HB2.out, Bool.not_false] at hq
          clear hxy
          generalize x.kind = x1 at *
          generalize x.conn = x2 at *
          generalize x.dest = x3 at *
          generalize y.kind = y1 at *
          generalize y.conn = y2 at *
          generalize y.dest = y3 at *
          go_wp2_with fail
          go_quiet (fail)
          go_wp2_with fail
          go_ret
          exact ⟨ret_bool (by simpa using HN.out), HD.out.step _⟩
      · obtain rfl : k = l.length := by omega
        have HN : Kept (l = m) := ⟨by have h1 := HT.out; rw [List.take_length] at h1; rw [h1]; exact List.take_of_length_le (by omega)⟩
        clear HT
        go_wp2_with fail
        go_ret
        exact ⟨ret_bool (by simpa using HN.out), HD.out⟩
  · have HN : Kept (l ≠ m) := ⟨fun e => hlen (by rw [e])⟩
    have hne : l.length < m.length ∨ m.length < l.length := by omega
    clear hlen
    rcases hne with hne | hne
    all_goals
      go_enter Try.func23, Try.ntmps23
      go_wp2_with fail
      go_ret
      exact ⟨ret_bool (by simpa using HN.out), ⟨0, rfl⟩⟩
end Go.Proofs.Ytnmgnggchgckoaa
