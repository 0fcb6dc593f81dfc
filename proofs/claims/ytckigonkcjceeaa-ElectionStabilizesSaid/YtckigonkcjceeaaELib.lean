/- Votes compared whole; slices.Equal on votes and the reference's Same; slices.Clone on votes and on bools. -/
import Derived.Test.YtckigonkcjceeaaERound
namespace Go.Proofs.Ytckigonkcjceeaa
set_option linter.unusedVariables false
set_option linter.unusedSimpArgs false
open Go.RowKit
theorem eq3' (w : World) (d : Nat) (a b : Int) : (Op.equalIn (d + 1) 3 (.int .i64 a) (.int .i64 b)).run Try.prog w = .ok (a == b) w := by
  simp [Op.equalIn, run_underlying Try.underlying3]
theorem cells3' : Try.prog.cellsOf 3 = 1 := by kernel_rfl
def vB (a b c a' b' c' : Int) : Bool := a == a' && (b == b' && c == c')
theorem vB_vt (x y : Vt) : vB x.root x.dist x.port y.root y.dist y.port = decide (x = y) := by
  obtain ⟨a, b, c⟩ := x
  obtain ⟨a', b', c'⟩ := y
  rw [Bool.eq_iff_iff]; simp [vB]
theorem take_eq_succ {α : Type} {l m : List α} {k : Nat} {x y : α} (hl : l[k]? = some x) (hm : m[k]? = some y) (h : l.take k = m.take k) (hxy : x = y) : l.take (k + 1) = m.take (k + 1) := by
  rw [List.take_add_one, List.take_add_one, h, hl, hm, hxy]
theorem ne_of_at {α : Type} {l m : List α} {k : Nat} {x y : α} (hl : l[k]? = some x) (hm : m[k]? = some y) (hxy : x ≠ y) : l ≠ m := by
  rintro rfl; rw [hl] at hm; injection hm with hm; exact hxy hm
set_option maxHeartbeats 1000000 in
theorem eqVtP (w : World) (d : Nat) (a b c a' b' c' : Int) : (Op.equalIn (d + 2) 23 (.agg #[.int .i64 a, .int .i64 b, .int .i64 c]) (.agg #[.int .i64 a', .int .i64 b', .int .i64 c'])).run Try.prog w = .ok (vB a b c a' b' c') w := by
  rw [Op.equalIn]
  simp [run_underlying Try.underlying23, eq3']
  by_cases h1 : a = a' <;> by_cases h2 : b = b' <;> by_cases h4 : c = c' <;> simp [vB, List.range'_succ, part, cells3', eq3', h1, h2, h4, run_underlying Try.underlying3]
theorem neqVtP (w : World) (a b c a' b' c' : Int) : (binOp .neq 23 (.agg #[.int .i64 a, .int .i64 b, .int .i64 c]) (.agg #[.int .i64 a', .int .i64 b', .int .i64 c'])).run Try.prog w = .ok (.bool (!(vB a b c a' b' c'))) w := by
  simp only [binOp]
  simp [Op.equal, Op.maxDepth, eqVtP w 9998]
theorem eqlVtP (w : World) (a b c a' b' c' : Int) : (binOp .eql 23 (.agg #[.int .i64 a, .int .i64 b, .int .i64 c]) (.agg #[.int .i64 a', .int .i64 b', .int .i64 c'])).run Try.prog w = .ok (.bool (vB a b c a' b' c')) w := by
  simp only [binOp]
  simp [Op.equal, Op.maxDepth, eqVtP w 9998]
set_option maxHeartbeats 1000000 in
theorem eqVtR (w : World) (d : Nat) (a b c a' b' c' : Int) : (Op.equalIn (d + 2) 27 (.agg #[.int .i64 a, .int .i64 b, .int .i64 c]) (.agg #[.int .i64 a', .int .i64 b', .int .i64 c'])).run Try.prog w = .ok (vB a b c a' b' c') w := by
  rw [Op.equalIn]
  simp [run_underlying Try.underlying27, eq3']
  by_cases h1 : a = a' <;> by_cases h2 : b = b' <;> by_cases h4 : c = c' <;> simp [vB, List.range'_succ, part, cells3', eq3', h1, h2, h4, run_underlying Try.underlying3]
theorem neqVtR (w : World) (a b c a' b' c' : Int) : (binOp .neq 27 (.agg #[.int .i64 a, .int .i64 b, .int .i64 c]) (.agg #[.int .i64 a', .int .i64 b', .int .i64 c'])).run Try.prog w = .ok (.bool (!(vB a b c a' b' c'))) w := by
  simp only [binOp]
  simp [Op.equal, Op.maxDepth, eqVtR w 9998]
theorem eqlVtR (w : World) (a b c a' b' c' : Int) : (binOp .eql 27 (.agg #[.int .i64 a, .int .i64 b, .int .i64 c]) (.agg #[.int .i64 a', .int .i64 b', .int .i64 c'])).run Try.prog w = .ok (.bool (vB a b c a' b' c')) w := by
  simp only [binOp]
  simp [Op.equal, Op.maxDepth, eqVtR w 9998]
set_option maxRecDepth 100000 in
set_option maxHeartbeats 4000000 in
theorem equal_c (l m : List Vt) (A A' : Option Addr) (kap kap' : Nat) (w : World) (B B' : Nat) (hl : RowsAt w B 3 vcell A l) (hm : RowsAt w B' 3 vcell A' m) (hn : l.length ≤ 1000000) (hn2 : m.length ≤ 1000000) :
    Calls Try.prog 19 #[.slice A l.length kap, .slice A' m.length kap'] w fun e w' => e = .returned (.bool (decide (l = m))) ∧ Below w.heap.size w w' := by
  have HL := Kept.mk (hl.more (Nat.le_max_left B w.heap.size))
  have HM := Kept.mk (hm.more (Nat.le_max_left B' w.heap.size))
  have HLR := Kept.mk hl
  have HMR := Kept.mk hm
  clear hl hm
  by_cases hlen : l.length = m.length
  · have HE := Kept.mk hlen
    have hle : l.length ≤ m.length := by omega
    have hle2 : m.length ≤ l.length := by omega
    have q0 : ((l.length : Int) != (m.length : Int)) = false := by simp; omega
    clear hlen
    go_enter Try.func19, Try.ntmps19
    go_wp2_with fail
    go_loopw [13] (fun v wr => ∃ k : Nat, k ≤ l.length ∧ v = .int .i64 k ∧ Kept (l.take k = m.take k) ∧ Kept (∃ n, wr = w.drewN n)) (fun v _ => l.length - (intOf v).toNat)
    case atStart => exact ⟨0, by omega, rfl, ⟨rfl⟩, ⟨0, rfl⟩⟩
    case round =>
      obtain ⟨k, hk, rfl, HT, HD⟩ := hrel
      obtain ⟨dn, rfl⟩ := HD.out
      clear HD
      by_cases hlt : k < l.length
      · obtain ⟨x, b, off, hx, rfl, -, hb, hcx⟩ := HLR.out.at_ hlt
        obtain ⟨y, b2, off2, hy, rfl, -, hb2, hcy⟩ := HMR.out.at_ (show k < m.length by omega)
        have HX := Kept.mk hx
        have HY := Kept.mk hy
        have HVB := Kept.mk (vB_vt x y)
        obtain ⟨x1, x2, x3⟩ := x
        obtain ⟨y1, y2, y3⟩ := y
        have c0 := hcx 0 (.int .i64 x1) rfl
        have c1 := hcx 1 (.int .i64 x2) rfl
        have c2 := hcx 2 (.int .i64 x3) rfl
        have e0 := hcy 0 (.int .i64 y1) rfl
        have e1 := hcy 1 (.int .i64 y2) rfl
        have e2 := hcy 2 (.int .i64 y3) rfl
        simp only [Nat.add_zero] at c0 e0
        have j3 : (0 : Int) ≤ k := by omega
        have j4 : (k : Int) < l.length := by omega
        have j5 : (k : Int) < m.length := by omega
        clear hx hy hcx hcy
        have heq := fun w => neqVtP w x1 x2 x3 y1 y2 y3
        by_cases he : (⟨x1, x2, x3⟩ : Vt) = ⟨y1, y2, y3⟩
        · have HT2 := Kept.mk (take_eq_succ HX.out HY.out HT.out he)
          have q : vB x1 x2 x3 y1 y2 y3 = true := by have := HVB.out; simp only at this; rw [this]; simpa using he
          have heq2 : ∀ w, (binOp .neq 23 (.agg #[.int .i64 x1, .int .i64 x2, .int .i64 x3]) (.agg #[.int .i64 y1, .int .i64 y2, .int .i64 y3])).run Try.prog w = .ok (.bool false) w := fun w => (heq w).trans (by rw [q]; rfl)
          clear he heq q
          go_wp2_with fail
          go_quiet (fail)
          go_wp2_with fail
          go_roundw
          case rel => exact ⟨k + 1, by omega, by go_num, HT2, ⟨⟨_, rfl⟩⟩⟩
          case measure => simp [intOf]; omega
        · have HR : Kept (decide (l = m) = false) := ⟨decide_eq_false (ne_of_at HX.out HY.out he)⟩
          have q : vB x1 x2 x3 y1 y2 y3 = false := by have := HVB.out; simp only at this; rw [this]; simpa using he
          have heq2 : ∀ w, (binOp .neq 23 (.agg #[.int .i64 x1, .int .i64 x2, .int .i64 x3]) (.agg #[.int .i64 y1, .int .i64 y2, .int .i64 y3])).run Try.prog w = .ok (.bool true) w := fun w => (heq w).trans (by rw [q]; rfl)
          clear he heq q
          go_wp2_with fail
          go_quiet (fail)
          go_wp2_with fail
          go_ret
          exact ⟨ret_bool HR.out.symm, dN (dN (Below.refl _ _) _) _⟩
      · have HR : Kept (decide (l = m) = true) := ⟨decide_eq_true (by
          have h1 := HT.out
          rwa [List.take_of_length_le (by omega), List.take_of_length_le (by omega)] at h1)⟩
        go_wp2_with fail
        go_ret
        exact ⟨ret_bool HR.out.symm, dN (Below.refl _ _) _⟩
  · have HR : Kept (decide (l = m) = false) := ⟨decide_eq_false (fun h => hlen (by rw [h]))⟩
    have q : ((l.length : Int) != (m.length : Int)) = true := by simp; omega
    have q1 : ((l.length : Int) == (m.length : Int)) = false := by simp; omega
    clear hlen
    go_enter Try.func19, Try.ntmps19
    go_wp2_with fail
    go_ret
    exact ⟨ret_bool HR.out.symm, Below.refl _ _⟩
set_option maxRecDepth 100000 in
set_option maxHeartbeats 4000000 in
theorem same_c (l m : List Vt) (A A' : Option Addr) (kap kap' : Nat) (w : World) (B B' : Nat) (hl : RowsAt w B 3 vcell A l) (hm : RowsAt w B' 3 vcell A' m) (hn : l.length ≤ 1000000) (hn2 : m.length ≤ 1000000) :
    Calls Try.prog 24 #[.slice A l.length kap, .slice A' m.length kap'] w fun e w' => e = .returned (.bool (decide (l = m))) ∧ Below w.heap.size w w' := by
  have HL := Kept.mk (hl.more (Nat.le_max_left B w.heap.size))
  have HM := Kept.mk (hm.more (Nat.le_max_left B' w.heap.size))
  have HLR := Kept.mk hl
  have HMR := Kept.mk hm
  clear hl hm
  by_cases hlen : l.length = m.length
  · have HE := Kept.mk hlen
    have hle : l.length ≤ m.length := by omega
    have hle2 : m.length ≤ l.length := by omega
    have q0 : ((l.length : Int) != (m.length : Int)) = false := by simp; omega
    clear hlen
    go_enter Try.func24, Try.ntmps24
    go_wp2_with fail
    go_loopw [5] (fun v wr => ∃ k : Nat, k ≤ l.length ∧ v = .int .i64 k ∧ Kept (l.take k = m.take k) ∧ Kept (∃ n, wr = w.drewN n)) (fun v _ => l.length - (intOf v).toNat)
    case atStart => exact ⟨0, by omega, rfl, ⟨rfl⟩, ⟨0, rfl⟩⟩
    case round =>
      obtain ⟨k, hk, rfl, HT, HD⟩ := hrel
      obtain ⟨dn, rfl⟩ := HD.out
      clear HD
      by_cases hlt : k < l.length
      · obtain ⟨x, b, off, hx, rfl, -, hb, hcx⟩ := HLR.out.at_ hlt
        obtain ⟨y, b2, off2, hy, rfl, -, hb2, hcy⟩ := HMR.out.at_ (show k < m.length by omega)
        have HX := Kept.mk hx
        have HY := Kept.mk hy
        have HVB := Kept.mk (vB_vt x y)
        obtain ⟨x1, x2, x3⟩ := x
        obtain ⟨y1, y2, y3⟩ := y
        have c0 := hcx 0 (.int .i64 x1) rfl
        have c1 := hcx 1 (.int .i64 x2) rfl
        have c2 := hcx 2 (.int .i64 x3) rfl
        have e0 := hcy 0 (.int .i64 y1) rfl
        have e1 := hcy 1 (.int .i64 y2) rfl
        have e2 := hcy 2 (.int .i64 y3) rfl
        simp only [Nat.add_zero] at c0 e0
        have j3 : (0 : Int) ≤ k := by omega
        have j4 : (k : Int) < l.length := by omega
        have j5 : (k : Int) < m.length := by omega
        clear hx hy hcx hcy
        have heq := fun w => neqVtR w x1 x2 x3 y1 y2 y3
        by_cases he : (⟨x1, x2, x3⟩ : Vt) = ⟨y1, y2, y3⟩
        · have HT2 := Kept.mk (take_eq_succ HX.out HY.out HT.out he)
          have q : vB x1 x2 x3 y1 y2 y3 = true := by have := HVB.out; simp only at this; rw [this]; simpa using he
          have heq2 : ∀ w, (binOp .neq 27 (.agg #[.int .i64 x1, .int .i64 x2, .int .i64 x3]) (.agg #[.int .i64 y1, .int .i64 y2, .int .i64 y3])).run Try.prog w = .ok (.bool false) w := fun w => (heq w).trans (by rw [q]; rfl)
          clear he heq q
          go_wp2_with fail
          go_quiet (fail)
          go_wp2_with fail
          go_roundw
          case rel => exact ⟨k + 1, by omega, by go_num, HT2, ⟨⟨_, rfl⟩⟩⟩
          case measure => simp [intOf]; omega
        · have HR : Kept (decide (l = m) = false) := ⟨decide_eq_false (ne_of_at HX.out HY.out he)⟩
          have q : vB x1 x2 x3 y1 y2 y3 = false := by have := HVB.out; simp only at this; rw [this]; simpa using he
          have heq2 : ∀ w, (binOp .neq 27 (.agg #[.int .i64 x1, .int .i64 x2, .int .i64 x3]) (.agg #[.int .i64 y1, .int .i64 y2, .int .i64 y3])).run Try.prog w = .ok (.bool true) w := fun w => (heq w).trans (by rw [q]; rfl)
          clear he heq q
          go_wp2_with fail
          go_quiet (fail)
          go_wp2_with fail
          go_ret
          exact ⟨ret_bool HR.out.symm, dN (dN (Below.refl _ _) _) _⟩
      · have HR : Kept (decide (l = m) = true) := ⟨decide_eq_true (by
          have h1 := HT.out
          rwa [List.take_of_length_le (by omega), List.take_of_length_le (by omega)] at h1)⟩
        go_wp2_with fail
        go_ret
        exact ⟨ret_bool HR.out.symm, dN (Below.refl _ _) _⟩
  · have HR : Kept (decide (l = m) = false) := ⟨decide_eq_false (fun h => hlen (by rw [h]))⟩
    have q : ((l.length : Int) != (m.length : Int)) = true := by simp; omega
    have q1 : ((l.length : Int) == (m.length : Int)) = false := by simp; omega
    clear hlen
    go_enter Try.func24, Try.ntmps24
    go_wp2_with fail
    go_ret
    exact ⟨ret_bool HR.out.symm, Below.refl _ _⟩
theorem infoB : (Try.prog.info? 4).map (fun i => (i.zero, i.size, i.bytes)) = some (some (.bool false), 1, 1) := by kernel_rfl
theorem bcell1_one (l : List Bool) : ∀ u ∈ l.flatMap bcell1, u.oneCell' = true := by
  intro u hu
  obtain ⟨x, -, hx⟩ := List.mem_flatMap.1 hu
  simp [bcell1] at hx
  subst hx; rfl
set_option maxHeartbeats 1000000 in
theorem cloneV_c (A : Option Addr) (kap : Nat) (l : List Vt) (w : World) (B : Nat) (h : RowsAt w B 3 vcell A l) (hB : B ≤ w.heap.size) (hm : l.length ≤ 1000000) :
    Calls Try.prog 34 #[.slice A l.length kap] w fun e w' => ∃ v, e = .returned v ∧ w'.ownsRow w.heap.size 23 3 v l.length (l.flatMap vcell) ∧ Below w.heap.size w w' := by
  obtain ⟨jj, hjj, hy0, hy1, hy2⟩ := info_parts infoVt
  rcases A with _ | ad
  · obtain ⟨h0, h1⟩ := reads_nil h.rd
    have hx : l = [] := List.eq_nil_of_length_eq_zero h0
    subst hx
    have hq := fun (w : World) => Lib.run_eql_slice_nil w 37 23 none 0 kap 0 0 Try.underlying37
    simp only [Option.isNone] at hq
    clear h h1 h0
    go_enter Try.func34, Try.ntmps34
    go_wp2_with fail
    go_ret
    exact ⟨_, rfl, World.ownsRow_nil _ _ _ _, Below.refl _ _⟩
  · have hq := fun (w : World) => Lib.run_eql_slice_nil w 37 23 (some ad) l.length kap 0 0 Try.underlying37
    simp only [Option.isNone] at hq
    have HR := Kept.mk (h.rd.alloc hB (.cells #[] 23))
    have HO := Kept.mk (World.ownsRow_lit (base := w.heap.size) (e := 23) (size := 3) w #[] 0 (Nat.le_refl _) (by unfold maxLen; omega) rfl)
    clear h hB
    go_enter Try.func34, Try.ntmps34
    go_wp2_with (at_builtin; refine wpList_append_any _ rfl _ _ _ rfl w.heap.size 23 jj _ 3 24 Try.underlying37 hjj hy0 hy1 hy2 rfl (by omega) _ 0 _ rfl HO.out B (some ad) l.length kap (l.flatMap vcell) rfl HR.out (vcell_one l) (by unfold maxLen; omega) (by omega) (by simp) ?_; intro v' w2 ho hg hat)
    go_ret
    exact ⟨v', rfl, by simpa using ho, ((Below.refl _ _).alloc (Nat.le_refl _) _).grown hg (by simp) (fun k hk => (HO.out.lt k hk).1)⟩
set_option maxHeartbeats 1000000 in
theorem cloneB_c (A : Option Addr) (kap : Nat) (l : List Bool) (w : World) (B : Nat) (h : RowsAt w B 1 bcell1 A l) (hB : B ≤ w.heap.size) (hm : l.length ≤ 1000000) :
    Calls Try.prog 18 #[.slice A l.length kap] w fun e w' => ∃ v, e = .returned v ∧ w'.ownsRow w.heap.size 4 1 v l.length (l.flatMap bcell1) ∧ Below w.heap.size w w' := by
  obtain ⟨jj, hjj, hy0, hy1, hy2⟩ := info_parts infoB
  rcases A with _ | ad
  · obtain ⟨h0, h1⟩ := reads_nil h.rd
    have hx : l = [] := List.eq_nil_of_length_eq_zero h0
    subst hx
    have hq := fun (w : World) => Lib.run_eql_slice_nil w 33 4 none 0 kap 0 0 Try.underlying33
    simp only [Option.isNone] at hq
    clear h h1 h0
    go_enter Try.func18, Try.ntmps18
    go_wp2_with fail
    go_ret
    exact ⟨_, rfl, World.ownsRow_nil _ _ _ _, Below.refl _ _⟩
  · have hq := fun (w : World) => Lib.run_eql_slice_nil w 33 4 (some ad) l.length kap 0 0 Try.underlying33
    simp only [Option.isNone] at hq
    have HR := Kept.mk (h.rd.alloc hB (.cells #[] 4))
    have HO := Kept.mk (World.ownsRow_lit (base := w.heap.size) (e := 4) (size := 1) w #[] 0 (Nat.le_refl _) (by unfold maxLen; omega) rfl)
    clear h hB
    go_enter Try.func18, Try.ntmps18
    go_wp2_with (at_builtin; refine wpList_append_any _ rfl _ _ _ rfl w.heap.size 4 jj _ 1 1 Try.underlying33 hjj hy0 hy1 hy2 rfl (by omega) _ 0 _ rfl HO.out B (some ad) l.length kap (l.flatMap bcell1) rfl HR.out (bcell1_one l) (by unfold maxLen; omega) (by omega) (by simp) ?_; intro v' w2 ho hg hat)
    go_ret
    exact ⟨v', rfl, by simpa using ho, ((Below.refl _ _).alloc (Nat.le_refl _) _).grown hg (by simp) (fun k hk => (HO.out.lt k hk).1)⟩
end Go.Proofs.Ytckigonkcjceeaa
