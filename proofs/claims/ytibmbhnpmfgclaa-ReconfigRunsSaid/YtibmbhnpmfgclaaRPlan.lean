/- Reconfig: the statements' plan (a chain of switches) and tree (from any numbers). -/
import Derived.Test.YtibmbhnpmfgclaaRMem
import Derived.Test.YtibmbhnpmfgclaaGPlain
namespace Go.Proofs.Ytibmbhnpmfgclaa
set_option linter.unusedVariables false
set_option linter.unusedSimpArgs false
open Go.RowKit Go.Maps
def runeB (i : Nat) : ByteArray := ⟨#[UInt8.ofNat (97 + i)]⟩
def nameI (i : Nat) : ByteArray := ⟨#[115, UInt8.ofNat (97 + i)]⟩
def planN (n : Nat) : List Nd := (List.range n).map fun i => ⟨nameI i, true, 2⟩
def planC (n : Nat) : List Cb := (List.range (n - 1)).map fun (i : Nat) => ⟨i, 1, (i : Int) + 1, 0, 1, 1⟩
theorem planN_succ (k : Nat) : planN (k + 1) = planN k ++ [⟨nameI k, true, 2⟩] := by unfold planN; rw [List.range_succ, List.map_append]; rfl
theorem planC_succ {k : Nat} (hk : 0 < k) : planC (k + 1) = planC k ++ [⟨(k : Int) - 1, 1, k, 0, 1, 1⟩] := by
  unfold planC
  obtain ⟨j, rfl⟩ : ∃ j, k = j + 1 := ⟨k - 1, by omega⟩
  rw [show j + 1 + 1 - 1 = j + 1 by omega, show j + 1 - 1 = j by omega, List.range_succ, List.map_append]
  simp
theorem planC_zero : planC 0 = [] := rfl
theorem planC_one : planC 1 = [] := rfl
theorem planN_len (n : Nat) : (planN n).length = n := by simp [planN]
theorem planC_len (n : Nat) : (planC n).length = n - 1 := by simp [planC]
theorem run_rune {i : Nat} (h : i < 10) (w : World) : (convert 21 9 (.int .i32 (97 + (i : Int)))).run Try.prog w = .ok (.string (runeB i)) w := by
  rcases (by omega : i = 0 ∨ i = 1 ∨ i = 2 ∨ i = 3 ∨ i = 4 ∨ i = 5 ∨ i = 6 ∨ i = 7 ∨ i = 8 ∨ i = 9) with rfl | rfl | rfl | rfl | rfl | rfl | rfl | rfl | rfl | rfl <;> kernel_rfl
theorem name_is (i : Nat) : (⟨#[115]⟩ : ByteArray) ++ runeB i = nameI i := by
  unfold runeB nameI
  apply ByteArray.ext
  simp
theorem infoNd : (Try.prog.info? 76).map (fun i => (i.zero, i.size, i.bytes)) = some (some (.agg #[.string ⟨#[]⟩, .bool false, .int .i64 0]), 3, 32) := by kernel_rfl
theorem infoCb : (Try.prog.info? 78).map (fun i => (i.zero, i.size, i.bytes)) = some (some (.agg #[.int .i64 0, .int .i64 0, .int .i64 0, .int .i64 0, .int .i64 0, .int .i64 0]), 6, 48) := by kernel_rfl
theorem size_set' (w : World) (p : Addr) (u : Value) : (w.setCell p u).heap.size = w.heap.size := by simp [World.setCell]
/-- What plan returns. -/
def PlanR (n : Nat) (w : World) (e : Ending) (w' : World) : Prop := ∃ p : Pl, e = .returned (pv p) ∧ p.nodes = planN n ∧ p.cables = planC n ∧ PlanAt w' w'.heap.size p ∧ Below w.heap.size w w'
theorem plan_at {w : World} {n : Nat} {B : Nat} {An Ac : Option Addr} {kn kc : Nat} (hn : n ≤ 10) (h1 : w.ownsRow B 76 3 (.slice An (planN n).length kn) (planN n).length ((planN n).flatMap ncell)) (h2 : w.ownsRow B 78 6 (.slice Ac (planC n).length kc) (planC n).length ((planC n).flatMap ccell)) :
    PlanAt w w.heap.size ⟨planN n, planC n, An, kn, Ac, kc⟩ := by
  have c1 := own_cap h1
  have c2 := own_cap h2
  refine ⟨RowsAt.of_own h1 ncell_len (by omega) rfl, RowsAt.of_own h2 ccell_len (by omega) rfl, fun x hx => ?_, fun x hx => ?_, c1.1, c2.1, c1.2, c2.2⟩
  · unfold planN at hx
    obtain ⟨i, hi, rfl⟩ := List.mem_map.1 hx
    exact ⟨by unfold maxLen nameI; simp [ByteArray.size], by unfold I64; simp⟩
  · unfold planC at hx
    obtain ⟨i, hi, rfl⟩ := List.mem_map.1 hx
    have := List.mem_range.1 hi
    unfold CbOk I64; simp only; omega
set_option maxRecDepth 100000 in
set_option maxHeartbeats 8000000 in
theorem plan_c (n : Nat) (w : World) (hn : n ≤ 10) : Calls Try.prog 11 #[.int .i64 n] w (PlanR n w) := by
  obtain ⟨jn, hjn, n0, n1, n2⟩ := info_parts infoNd
  obtain ⟨jc, hjc, m0, m1, m2⟩ := info_parts infoCb
  go_enter Try.func11, Try.ntmps11
  go_wp2_with fail
  have HR : Kept (∀ k, k < n → ∀ w, (convert 21 9 (.int .i32 (97 + (k : Int)))).run Try.prog w = .ok (.string (runeB k)) w) := ⟨fun k hk w => run_rune (by omega) w⟩
  have HR2 : Kept True := ⟨trivial⟩
  go_loopw [6] (fun v6 wr => ∃ (k : Nat) (An Ac : Option Addr) (kn kc : Nat), k ≤ n ∧ v6 = .int .i64 k ∧ Kept (Blk wr (w.heap.size + 1) 27 #[.slice An k kn, .slice Ac (k - 1) kc]) ∧ Kept (Blk wr w.heap.size 27 #[.slice none 0 0, .slice none 0 0]) ∧ Kept (wr.ownsRow w.heap.size 76 3 (.slice An k kn) k ((planN k).flatMap ncell)) ∧ Kept (wr.ownsRow w.heap.size 78 6 (.slice Ac (k - 1) kc) (k - 1) ((planC k).flatMap ccell)) ∧ Kept (Below w.heap.size w wr)) (fun v6 _ => n - (intOf v6).toNat)
  case atStart => exact ⟨0, none, none, 0, 0, Nat.zero_le _, rfl, ⟨by simpa using Blk.new (w.alloc (.cells #[.slice none 0 0, .slice none 0 0] 27)) 27 #[.slice none 0 0, .slice none 0 0]⟩, ⟨(Blk.new _ _ _).alloc _⟩, ⟨World.ownsRow_nil _ _ _ _⟩, ⟨World.ownsRow_nil _ _ _ _⟩, ⟨by go_grown⟩⟩
  case round =>
    obtain ⟨k, An, Ac, kn, kc, hk, rfl, HB, HB0, HON, HOC, HD⟩ := hrel
    have zb := HB.out.lt
    have zb0 := HB0.out.lt
    have hz := HD.out.size
    have k0 := HB.out.cell 0 (v := .slice An k kn) rfl
    have k1 := HB.out.cell 1 (v := .slice Ac (k - 1) kc) rfl
    have f0 := HB.out.free 0
    have f1 := HB.out.free 1
    by_cases hlt : k < n
    · have hcv := HR.out k hlt
      have HNS := Kept.mk (planN_succ k)
      have HNM := Kept.mk (name_is k)
      have HM6 := Kept.mk (reads_made wr #[.string (⟨#[115]⟩ ++ runeB k), .bool true, .int .i64 2] 76 3 1 rfl)
      have HO6 := Kept.mk (HON.out.alloc (.cells #[.string (⟨#[115]⟩ ++ runeB k), .bool true, .int .i64 2] 76))
      have HC6 := Kept.mk (HOC.out.alloc (.cells #[.string (⟨#[115]⟩ ++ runeB k), .bool true, .int .i64 2] 76))
      have HB6 := Kept.mk (HB.out.alloc (.cells #[.string (⟨#[115]⟩ ++ runeB k), .bool true, .int .i64 2] 76))
      have HB06 := Kept.mk (HB0.out.alloc (.cells #[.string (⟨#[115]⟩ ++ runeB k), .bool true, .int .i64 2] 76))
      have HD6 := Kept.mk (HD.out.alloc hz (.cells #[.string (⟨#[115]⟩ ++ runeB k), .bool true, .int .i64 2] 76))
      have g1 : ∀ u ∈ (#[Value.string (⟨#[115]⟩ ++ runeB k), .bool true, .int .i64 2]).toList, u.oneCell' = true := (by intro u hu; simp at hu; rcases hu with rfl | rfl | rfl <;> rfl)
      have tok1 : True := trivial
      have tok2 : True := trivial
      by_cases hk0 : 0 < k
      · have q0 := decide_eq_true (show (0 : Int) < k by omega)
        have HCS := Kept.mk (planC_succ hk0)
        have g2 : ∀ u ∈ (#[Value.int .i64 ((k : Int) - 1), .int .i64 1, .int .i64 k, .int .i64 0, .int .i64 1, .int .i64 1]).toList, u.oneCell' = true := (by intro u hu; simp at hu; rcases hu with rfl | rfl | rfl | rfl | rfl | rfl <;> rfl)
        go_wp2_with (first | (at_builtin; have _t := tok1; refine wpList_append_any _ rfl _ _ _ rfl w.heap.size 76 jn _ 3 32 Try.underlying24 hjn n0 n1 n2 rfl (by omega) _ k _ rfl HO6.out _ _ 1 1 _ rfl HM6.out g1 (by unfold maxLen; omega) (by omega) (by simp; omega) ?_; intro v' w4 ho hgw hat; obtain ⟨Av, kv, rfl⟩ := own_slice ho; have HO7 := Kept.mk ho; have HB7 : Kept (Blk w4 (w.heap.size + 1) 27 #[.slice An k kn, .slice Ac (k - 1) kc]) := ⟨HB6.out.grown hgw (fun e => own_blk_ne HO6.out HB6.out (by decide) e.symm)⟩; have HB07 : Kept (Blk w4 w.heap.size 27 #[.slice none 0 0, .slice none 0 0]) := ⟨HB06.out.grown hgw (fun e => own_blk_ne HO6.out HB06.out (by decide) e.symm)⟩; have HC7 := Kept.mk (own_grown HC6.out hgw (fun g hg => own_own_ne HC6.out HO6.out (by decide) hg)); have HD7 := Kept.mk (HD6.out.grown hgw (by simp; omega) (fun j hj => (HO6.out.lt j hj).1)); have zb7 := HB7.out.lt; have k07 := HB7.out.cell 0 (v := .slice An k kn) rfl; have k17 := HB7.out.cell 1 (v := .slice Ac (k - 1) kc) rfl; have f07 := HB7.out.free 0; have f17 := HB7.out.free 1; have hms := reads_made (w4.setCell ⟨w.heap.size + 1, 0, none⟩ (.slice Av (k + 1) kv)) #[.int .i64 ((k : Int) - 1), .int .i64 1, .int .i64 k, .int .i64 0, .int .i64 1, .int .i64 1] 78 6 1 rfl; rw [size_set'] at hms; have HMS := Kept.mk hms; have HCS7 := Kept.mk ((ownsRow_setCell_other HC7.out (a := ⟨w.heap.size + 1, 0, none⟩) (own_blk_ne HC7.out HB7.out (by decide)) (.slice Av (k + 1) kv)).alloc (.cells #[.int .i64 ((k : Int) - 1), .int .i64 1, .int .i64 k, .int .i64 0, .int .i64 1, .int .i64 1] 78)); have HDS7 : Kept (w.heap.size ≤ ((w4.setCell ⟨w.heap.size + 1, 0, none⟩ (.slice Av (k + 1) kv)).alloc (.cells #[.int .i64 ((k : Int) - 1), .int .i64 1, .int .i64 k, .int .i64 0, .int .i64 1, .int .i64 1] 78)).heap.size) := ⟨by have := HD7.out.size; rw [World.size_alloc, size_set']; omega⟩; clear hms ho hgw hat tok1 _t) | (at_builtin; have _t := tok2; refine wpList_append_any _ rfl _ _ _ rfl w.heap.size 78 jc _ 6 48 Try.underlying25 hjc m0 m1 m2 rfl (by omega) _ (k - 1) _ rfl HCS7.out _ _ 1 1 _ rfl HMS.out g2 (by unfold maxLen; omega) (by omega) HDS7.out ?_; intro v'' w5 ho hgw hat; obtain ⟨Aw, kw, rfl⟩ := own_slice ho; have HC8 := Kept.mk ho; have HG8 := Kept.mk hgw; have HB8 := Kept.mk (((HB7.out.set_ 0 (.slice Av (k + 1) kv)).alloc (.cells #[.int .i64 ((k : Int) - 1), .int .i64 1, .int .i64 k, .int .i64 0, .int .i64 1, .int .i64 1] 78)).grown hgw (fun e => own_blk_ne HCS7.out ((HB7.out.set_ 0 (.slice Av (k + 1) kv)).alloc _) (by decide) e.symm)); have zb8 := HB8.out.lt; have k18 := HB8.out.cell 1 (v := .slice Ac (k - 1) kc) rfl; have f18 := HB8.out.free 1; clear ho hgw hat tok2 _t))
        have HN8 := Kept.mk ((ownsRow_setCell_other HO7.out (a := ⟨w.heap.size + 1, 0, none⟩) (own_blk_ne HO7.out HB7.out (by decide)) (.slice Av (k + 1) kv)).alloc (.cells #[.int .i64 ((k : Int) - 1), .int .i64 1, .int .i64 k, .int .i64 0, .int .i64 1, .int .i64 1] 78))
        have HN9 := Kept.mk (own_grown HN8.out HG8.out (fun g hg => own_own_ne HN8.out HCS7.out (by decide) hg))
        have HB09 := Kept.mk (((HB07.out.far (p := ⟨w.heap.size + 1, 0, none⟩) (by show w.heap.size ≠ w.heap.size + 1; omega) (.slice Av (k + 1) kv)).alloc (.cells #[.int .i64 ((k : Int) - 1), .int .i64 1, .int .i64 k, .int .i64 0, .int .i64 1, .int .i64 1] 78)).grown HG8.out (fun e => own_blk_ne HCS7.out ((HB07.out.far (p := ⟨w.heap.size + 1, 0, none⟩) (by show w.heap.size ≠ w.heap.size + 1; omega) (.slice Av (k + 1) kv)).alloc _) (by decide) e.symm))
        have HD8 : Kept (Below w.heap.size w w5) := ⟨((HD7.out.setCell (p := ⟨w.heap.size + 1, 0, none⟩) (by show w.heap.size ≤ w.heap.size + 1; omega) (.slice Av (k + 1) kv)).alloc (by have := HD7.out.size; rw [size_set']; omega) (.cells #[.int .i64 ((k : Int) - 1), .int .i64 1, .int .i64 k, .int .i64 0, .int .i64 1, .int .i64 1] 78)).grown HG8.out HDS7.out (fun j hj => (HCS7.out.lt j hj).1)⟩
        have e1 : k - 1 + 1 = k := by omega
        rw [e1]
        rw [e1] at HC8
        go_roundw
        case rel => exact ⟨k + 1, Av, Aw, kv, kw, by omega, by go_num, ⟨HB8.out.to 1 _ rfl⟩, ⟨HB09.out.far (by show w.heap.size ≠ w.heap.size + 1; omega) _⟩, ⟨by
          have h := ownsRow_setCell_other HN9.out (a := ⟨w.heap.size + 1, 1, none⟩) (own_blk_ne HN9.out HB8.out (by decide)) (.slice Aw k kw)
          rw [HNM.out] at h
          rw [HNS.out, List.flatMap_append]
          simpa [ncell] using h⟩, ⟨by
          have h := ownsRow_setCell_other HC8.out (a := ⟨w.heap.size + 1, 1, none⟩) (own_blk_ne HC8.out HB8.out (by decide)) (.slice Aw k kw)
          rw [HCS.out, List.flatMap_append]
          simpa [ccell] using h⟩, ⟨HD8.out.setCell (by show w.heap.size ≤ w.heap.size + 1; omega) _⟩⟩
        case measure => simp [intOf]; omega
      · have q0 := decide_eq_false (show ¬ (0 : Int) < k by omega)
        have HCS : Kept (planC (k + 1) = planC k) := ⟨by obtain rfl : k = 0 := by omega
                                                         rfl⟩
        go_wp2_with (at_builtin; have _t := tok1; refine wpList_append_any _ rfl _ _ _ rfl w.heap.size 76 jn _ 3 32 Try.underlying24 hjn n0 n1 n2 rfl (by omega) _ k _ rfl HO6.out _ _ 1 1 _ rfl HM6.out g1 (by unfold maxLen; omega) (by omega) (by simp; omega) ?_; intro v' w4 ho hgw hat; obtain ⟨Av, kv, rfl⟩ := own_slice ho; have HO7 := Kept.mk ho; have HB7 : Kept (Blk w4 (w.heap.size + 1) 27 #[.slice An k kn, .slice Ac (k - 1) kc]) := ⟨HB6.out.grown hgw (fun e => own_blk_ne HO6.out HB6.out (by decide) e.symm)⟩; have HB07 : Kept (Blk w4 w.heap.size 27 #[.slice none 0 0, .slice none 0 0]) := ⟨HB06.out.grown hgw (fun e => own_blk_ne HO6.out HB06.out (by decide) e.symm)⟩; have HC7 := Kept.mk (own_grown HC6.out hgw (fun g hg => own_own_ne HC6.out HO6.out (by decide) hg)); have HD7 := Kept.mk (HD6.out.grown hgw (by simp; omega) (fun j hj => (HO6.out.lt j hj).1)); have zb7 := HB7.out.lt; have k07 := HB7.out.cell 0 (v := .slice An k kn) rfl; have k17 := HB7.out.cell 1 (v := .slice Ac (k - 1) kc) rfl; have f07 := HB7.out.free 0; have f17 := HB7.out.free 1; have hms := reads_made (w4.setCell ⟨w.heap.size + 1, 0, none⟩ (.slice Av (k + 1) kv)) #[.int .i64 ((k : Int) - 1), .int .i64 1, .int .i64 k, .int .i64 0, .int .i64 1, .int .i64 1] 78 6 1 rfl; rw [size_set'] at hms; have HMS := Kept.mk hms; have HCS7 := Kept.mk ((ownsRow_setCell_other HC7.out (a := ⟨w.heap.size + 1, 0, none⟩) (own_blk_ne HC7.out HB7.out (by decide)) (.slice Av (k + 1) kv)).alloc (.cells #[.int .i64 ((k : Int) - 1), .int .i64 1, .int .i64 k, .int .i64 0, .int .i64 1, .int .i64 1] 78)); have HDS7 : Kept (w.heap.size ≤ ((w4.setCell ⟨w.heap.size + 1, 0, none⟩ (.slice Av (k + 1) kv)).alloc (.cells #[.int .i64 ((k : Int) - 1), .int .i64 1, .int .i64 k, .int .i64 0, .int .i64 1, .int .i64 1] 78)).heap.size) := ⟨by have := HD7.out.size; rw [World.size_alloc, size_set']; omega⟩; clear hms ho hgw hat tok1 _t)
        have e0 : k = 0 := by omega
        go_roundw
        case rel => exact ⟨k + 1, Av, Ac, kv, kc, by omega, by go_num, ⟨by
          have h := HB7.out.to 0 (.slice Av (k + 1) kv) (cs' := #[.slice Av (k + 1) kv, .slice Ac (k - 1) kc]) rfl
          rw [e0] at h ⊢
          exact h⟩, ⟨HB07.out.far (by show w.heap.size ≠ w.heap.size + 1; omega) _⟩, ⟨by
          have h := ownsRow_setCell_other HO7.out (a := ⟨w.heap.size + 1, 0, none⟩) (own_blk_ne HO7.out HB7.out (by decide)) (.slice Av (k + 1) kv)
          rw [HNM.out] at h
          rw [HNS.out, List.flatMap_append]
          simpa [ncell] using h⟩, ⟨by
          have h := ownsRow_setCell_other HC7.out (a := ⟨w.heap.size + 1, 0, none⟩) (own_blk_ne HC7.out HB7.out (by decide)) (.slice Av (k + 1) kv)
          rw [HCS.out]
          rw [e0] at h ⊢
          exact h⟩, ⟨HD7.out.setCell (by show w.heap.size ≤ w.heap.size + 1; omega) _⟩⟩
        case measure => simp [intOf]; omega
    · obtain rfl : k = n := by omega
      have k00 := HB0.out.cell 0 (v := .slice none 0 0) rfl
      have k01 := HB0.out.cell 1 (v := .slice none 0 0) rfl
      have f00 := HB0.out.free 0
      have f01 := HB0.out.free 1
      have HNB := Kept.mk (own_blk_ne HON.out HB0.out (by decide))
      have HNC := Kept.mk (own_blk_ne HOC.out HB0.out (by decide))
      have HN7 := Kept.mk (ownsRow_setCell_other (ownsRow_setCell_other HON.out (a := ⟨w.heap.size, 0, none⟩) HNB.out (.slice An k kn)) (a := ⟨w.heap.size, 1, none⟩) HNB.out (.slice Ac (k - 1) kc))
      have HC7 := Kept.mk (ownsRow_setCell_other (ownsRow_setCell_other HOC.out (a := ⟨w.heap.size, 0, none⟩) HNC.out (.slice An k kn)) (a := ⟨w.heap.size, 1, none⟩) HNC.out (.slice Ac (k - 1) kc))
      have HD7 := Kept.mk ((HD.out.setCell (p := ⟨w.heap.size, 0, none⟩) (Nat.le_refl _) (.slice An k kn)).setCell (p := ⟨w.heap.size, 1, none⟩) (Nat.le_refl _) (.slice Ac (k - 1) kc))
      clear hlt
      go_wp2_with fail
      have s0 := ((HB0.out.set_ 0 (.slice An k kn)).set_ 1 (.slice Ac (k - 1) kc)).cell 0 (v := .slice An k kn) rfl
      have s1 := ((HB0.out.set_ 0 (.slice An k kn)).set_ 1 (.slice Ac (k - 1) kc)).cell 1 (v := .slice Ac (k - 1) kc) rfl
      have a1 := HN7.out
      have a2 := HC7.out
      have a3 := HD7.out
      clear HN7 HC7 HD7
      generalize ((wr.setCell ⟨w.heap.size, 0, none⟩ (.slice An k kn)).setCell ⟨w.heap.size, 1, none⟩ (.slice Ac (k - 1) kc)) = W at *
      refine bodyPost_ret (v := .agg #[.slice An k kn, .slice Ac (k - 1) kc]) (by simp [results, Try.results11, go_sem, s0, s1]) rfl ?_
      have q1 := planN_len k
      have q2 := planC_len k
      refine ⟨⟨planN k, planC k, An, kn, Ac, kc⟩, by unfold pv; simp only; rw [q1, q2], rfl, rfl, plan_at hn (B := w.heap.size) (by rw [q1]; exact a1) (by rw [q2]; exact a2), a3⟩
end Go.Proofs.Ytibmbhnpmfgclaa
