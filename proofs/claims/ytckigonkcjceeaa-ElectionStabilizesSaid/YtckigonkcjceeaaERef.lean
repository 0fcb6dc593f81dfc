/- The reference: votes converted, the fault of arguments, Start, what is heard. -/
import Derived.Test.YtckigonkcjceeaaEStart
import Derived.Test.YtckigonkcjceeaaGRValid
namespace Go.Proofs.Ytckigonkcjceeaa
set_option linter.unusedVariables false
set_option linter.unusedSimpArgs false
open Go.RowKit
theorem infoVr : (Try.prog.info? 27).map (fun i => (i.zero, i.size, i.bytes)) = some (some (.agg #[.int .i64 0, .int .i64 0, .int .i64 0]), 3, 24) := by kernel_rfl
theorem va_list (v : Vt) : (va v).toList = vcell v := rfl
theorem va_one (v : Vt) : ∀ u ∈ (va v).toList, u.oneCell' = true := by intro u hu; simp [va] at hu; rcases hu with rfl | rfl | rfl <;> rfl
/-- A list of the reference's votes of the call's own is returned. -/
def RetO (w : World) (L : List Vt) (e : Ending) (w' : World) : Prop := ∃ v, e = .returned v ∧ w'.ownsRow w.heap.size 27 3 v L.length (L.flatMap vcell) ∧ Below w.heap.size w w'
set_option maxHeartbeats 2000000 in
theorem plain_c (A : Option Addr) (kap : Nat) (l : List Vt) (w : World) (h : RowsAt w w.heap.size 3 vcell A l) (hm : l.length ≤ 1000000) :
    Calls Try.prog 21 #[.slice A l.length kap] w (RetO w l) := by
  have HR := Kept.mk h
  clear h
  obtain ⟨jj, hjj, hy0, hy1, hy2⟩ := info_parts infoVr
  go_enter Try.func21, Try.ntmps21
  go_wp2_with fail
  go_loopw [3, 8] (fun v3 v wr => ∃ k : Nat, k ≤ l.length ∧ v = .int .i64 k ∧ Kept (wr.ownsRow w.heap.size 27 3 v3 k ((l.take k).flatMap vcell)) ∧ Kept (Below w.heap.size w wr)) (fun _ v _ => l.length - (intOf v).toNat)
  case atStart => exact ⟨0, Nat.zero_le _, rfl, ⟨World.ownsRow_nil _ _ _ _⟩, ⟨Below.refl _ _⟩⟩
  case round =>
    obtain ⟨k, hk, rfl, HO, HD⟩ := hrel
    have z4 := HD.out.size
    by_cases hlt : k < l.length
    · obtain ⟨x, b, off, hx, rfl, -, hb, hc⟩ := (HR.out.below HD.out).at_ hlt
      have c0 := hc 0 (.int .i64 x.root) rfl
      have c1 := hc 1 (.int .i64 x.dist) rfl
      have c2 := hc 2 (.int .i64 x.port) rfl
      simp only [Nat.add_zero] at c0
      have HN := Kept.mk (take_next hx)
      have HRM := Kept.mk (reads_made (wr.alloc (.cells (va x) 23)) (va x) 27 3 1 rfl)
      have HO2 := Kept.mk ((HO.out.alloc (.cells (va x) 23)).alloc (.cells (va x) 27))
      have h1 := va_one x
      simp only [World.size_alloc] at HRM
      clear hx hc
      go_wp2_with (at_builtin; refine wpList_append_any _ rfl _ _ _ rfl w.heap.size 27 jj _ 3 24 Try.underlying47 hjj hy0 hy1 hy2 rfl (by omega) _ k _ rfl HO2.out _ _ 1 1 _ rfl HRM.out h1 (by unfold maxLen; omega) (by omega) (by simp; omega) ?_; intro v' w4 ho hgw hat; have HO3 := Kept.mk ho; have HGW := Kept.mk hgw; clear ho hgw hat)
      go_roundw
      case rel => exact ⟨k + 1, by omega, by go_num, ⟨by have h2 := HO3.out; rw [HN.out, List.flatMap_append]; simpa [va, vcell] using h2⟩, ⟨((HD.out.alloc z4 _).alloc (by simp; omega) _).grown HGW.out (by simp; omega) (fun j hj => by have := HO2.out.lt j hj; omega)⟩⟩
      case measure => simp [intOf]; omega
    · obtain rfl : k = l.length := by omega
      have HO2 := HO.out
      rw [List.take_length] at HO2
      have HO3 := Kept.mk HO2
      clear HO2 hlt
      go_wp2_with fail
      go_ret
      exact ⟨_, rfl, HO3.out, HD.out⟩
set_option maxHeartbeats 2000000 in
theorem refStart_c (n : Nat) (w : World) (hm : n ≤ 1000000) :
    Calls Try.prog 27 #[.int .i64 (n : Int)] w (RetO w (startP n)) := by
  obtain ⟨jj, hjj, hy0, hy1, hy2⟩ := info_parts infoVr
  go_enter Try.func27, Try.ntmps27
  go_wp2_with fail
  go_loopw [3, 4] (fun v3 v wr => ∃ k : Nat, k ≤ n ∧ v = .int .i64 k ∧ Kept (wr.ownsRow w.heap.size 27 3 v3 k (((startP n).take k).flatMap vcell)) ∧ Kept (Below w.heap.size w wr)) (fun _ v _ => n - (intOf v).toNat)
  case atStart => exact ⟨0, Nat.zero_le _, rfl, ⟨World.ownsRow_nil _ _ _ _⟩, ⟨Below.refl _ _⟩⟩
  case round =>
    obtain ⟨k, hk, rfl, HO, HD⟩ := hrel
    have z4 := HD.out.size
    by_cases hlt : k < n
    · have HN := Kept.mk (take_next (startP_get hlt))
      have HRM := Kept.mk (reads_made wr (va (selfV (k : Int))) 27 3 1 rfl)
      have HO2 := Kept.mk (HO.out.alloc (.cells (va (selfV (k : Int))) 27))
      have h1 := va_one (selfV (k : Int))
      go_wp2_with (at_builtin; refine wpList_append_any _ rfl _ _ _ rfl w.heap.size 27 jj _ 3 24 Try.underlying47 hjj hy0 hy1 hy2 rfl (by omega) _ k _ rfl HO2.out _ _ 1 1 _ rfl HRM.out h1 (by unfold maxLen; omega) (by omega) (by simp; omega) ?_; intro v' w4 ho hgw hat; have HO3 := Kept.mk ho; have HGW := Kept.mk hgw; clear ho hgw hat)
      go_roundw
      case rel => exact ⟨k + 1, by omega, by go_num, ⟨by have h2 := HO3.out; rw [HN.out, List.flatMap_append]; simpa [va, vcell, selfV] using h2⟩, ⟨(HD.out.alloc z4 _).grown HGW.out (by simp; omega) (fun j hj => by have := HO2.out.lt j hj; omega)⟩⟩
      case measure => simp [intOf]; omega
    · obtain rfl : k = n := by omega
      have HO2 := HO.out
      rw [List.take_of_length_le (by rw [startP_len]; omega)] at HO2
      have HO3 := Kept.mk HO2
      clear HO2 hlt
      go_wp2_with fail
      go_ret
      exact ⟨_, rfl, by rw [startP_len]; exact HO3.out, HD.out⟩
set_option maxHeartbeats 2000000 in
theorem heard_c (v best : Vt) (port : Int) (n : Nat) (w : World) (hn : n ≤ 1000000) (hd : 0 ≤ v.dist ∧ v.dist ≤ 1000000) :
    Calls Try.prog 43 #[.agg #[.int .i64 v.root, .int .i64 v.dist, .int .i64 v.port], .int .i64 port, .agg #[.int .i64 best.root, .int .i64 best.dist, .int .i64 best.port], .int .i64 (n : Int)] w fun e w' => e = .returned (vv (heardV n v port best)) ∧ Below w.heap.size w w' := by
  obtain ⟨d0, d1⟩ := hd
  have HQ1 := Kept.mk ((((Blk.new (w.alloc (.cells (va v) 27)) 27 (va best)).alloc (.cells (va ⟨0, 0, 0⟩) 27)).alloc (.cells (va ⟨v.root, v.dist + 1, port⟩) 27)))
  have HQ2 := Kept.mk (((Blk.new ((w.alloc (.cells (va v) 27)).alloc (.cells (va best) 27)) 27 (va ⟨0, 0, 0⟩)).alloc (.cells (va ⟨v.root, v.dist + 1, port⟩) 27)))
  have HQ3 := Kept.mk ((Blk.new (((w.alloc (.cells (va v) 27)).alloc (.cells (va best) 27)).alloc (.cells (va ⟨0, 0, 0⟩) 27)) 27 (va ⟨v.root, v.dist + 1, port⟩)))
  simp only [World.size_alloc] at HQ1 HQ2 HQ3
  by_cases hlt : v.dist + 1 < (n : Int)
  · have q := decide_eq_false (show ¬ (n : Int) ≤ v.dist + 1 by omega)
    cases hb : betterB ⟨v.root, v.dist + 1, port⟩ best with
    | true =>
      have HBT := Kept.mk hb
      have HH : Kept (heardV n v port best = ⟨v.root, v.dist + 1, port⟩) := ⟨by unfold heardV; rw [if_pos hlt, if_pos hb]⟩
      clear hb hlt
      go_enter Try.func43, Try.ntmps43
      go_wp2_with (go_at_call 13; refine (refBetter_c ⟨v.root, v.dist + 1, port⟩ best _).mono ?_; rintro e w1 ⟨rfl, hb1⟩; rw [HBT.out]; have HR1 := Kept.mk (HQ1.out.new_ hb1); have HR2 := Kept.mk (HQ2.out.new_ hb1); have HR3 := Kept.mk (HQ3.out.new_ hb1); have HD := Kept.mk (join (w := w) (by go_grown) hb1); clear hb1; have a0 := HR1.out.cell 0 (v := .int .i64 best.root) rfl; have a1 := HR1.out.cell 1 (v := .int .i64 best.dist) rfl; have a2 := HR1.out.cell 2 (v := .int .i64 best.port) rfl; have b0 := HR2.out.cell 0 (v := .int .i64 0) rfl; have b1 := HR2.out.cell 1 (v := .int .i64 0) rfl; have b2 := HR2.out.cell 2 (v := .int .i64 0) rfl; have f0 := HR2.out.free 0; have f1 := HR2.out.free 1; have f2 := HR2.out.free 2; have e0 := HR3.out.cell 0 (v := .int .i64 v.root) rfl; have e1 := HR3.out.cell 1 (v := .int .i64 (v.dist + 1)) rfl; have e2 := HR3.out.cell 2 (v := .int .i64 port) rfl; have z1 := HR3.out.lt)
      have HF := Kept.mk (((HR2.out.set_ 0 (.int .i64 v.root)).set_ 1 (.int .i64 (v.dist + 1))).set_ 2 (.int .i64 port))
      have HDF := Kept.mk (((HD.out.setCell (p := ⟨w.heap.size + 1 + 1, 0, none⟩) (by simp; omega) (.int .i64 v.root)).setCell (p := ⟨w.heap.size + 1 + 1, 1, none⟩) (by simp; omega) (.int .i64 (v.dist + 1))).setCell (p := ⟨w.heap.size + 1 + 1, 2, none⟩) (by simp; omega) (.int .i64 port))
      generalize World.setCell _ _ _ = WF at *
      have r0 := HF.out.cell 0 (v := .int .i64 v.root) rfl
      have r1 := HF.out.cell 1 (v := .int .i64 (v.dist + 1)) rfl
      have r2 := HF.out.cell 2 (v := .int .i64 port) rfl
      exact bodyPost_ret (v := .agg #[.int .i64 v.root, .int .i64 (v.dist + 1), .int .i64 port]) (by simp [results, Try.results43, go_sem, r0, r1, r2]) rfl ⟨by rw [HH.out]; rfl, HDF.out⟩
    | false =>
      have HBT := Kept.mk hb
      have HH : Kept (heardV n v port best = best) := ⟨by unfold heardV; rw [if_pos hlt, if_neg (by rw [hb]; decide)]⟩
      clear hb hlt
      go_enter Try.func43, Try.ntmps43
      go_wp2_with (go_at_call 13; refine (refBetter_c ⟨v.root, v.dist + 1, port⟩ best _).mono ?_; rintro e w1 ⟨rfl, hb1⟩; rw [HBT.out]; have HR1 := Kept.mk (HQ1.out.new_ hb1); have HR2 := Kept.mk (HQ2.out.new_ hb1); have HR3 := Kept.mk (HQ3.out.new_ hb1); have HD := Kept.mk (join (w := w) (by go_grown) hb1); clear hb1; have a0 := HR1.out.cell 0 (v := .int .i64 best.root) rfl; have a1 := HR1.out.cell 1 (v := .int .i64 best.dist) rfl; have a2 := HR1.out.cell 2 (v := .int .i64 best.port) rfl; have b0 := HR2.out.cell 0 (v := .int .i64 0) rfl; have b1 := HR2.out.cell 1 (v := .int .i64 0) rfl; have b2 := HR2.out.cell 2 (v := .int .i64 0) rfl; have f0 := HR2.out.free 0; have f1 := HR2.out.free 1; have f2 := HR2.out.free 2; have e0 := HR3.out.cell 0 (v := .int .i64 v.root) rfl; have e1 := HR3.out.cell 1 (v := .int .i64 (v.dist + 1)) rfl; have e2 := HR3.out.cell 2 (v := .int .i64 port) rfl; have z1 := HR3.out.lt)
      have HF := Kept.mk (((HR2.out.set_ 0 (.int .i64 best.root)).set_ 1 (.int .i64 best.dist)).set_ 2 (.int .i64 best.port))
      have HDF := Kept.mk (((HD.out.setCell (p := ⟨w.heap.size + 1 + 1, 0, none⟩) (by simp; omega) (.int .i64 best.root)).setCell (p := ⟨w.heap.size + 1 + 1, 1, none⟩) (by simp; omega) (.int .i64 best.dist)).setCell (p := ⟨w.heap.size + 1 + 1, 2, none⟩) (by simp; omega) (.int .i64 best.port))
      generalize World.setCell _ _ _ = WF at *
      have r0 := HF.out.cell 0 (v := .int .i64 best.root) rfl
      have r1 := HF.out.cell 1 (v := .int .i64 best.dist) rfl
      have r2 := HF.out.cell 2 (v := .int .i64 best.port) rfl
      exact bodyPost_ret (v := .agg #[.int .i64 best.root, .int .i64 best.dist, .int .i64 best.port]) (by simp [results, Try.results43, go_sem, r0, r1, r2]) rfl ⟨by rw [HH.out]; rfl, HDF.out⟩
  · have q := decide_eq_true (show (n : Int) ≤ v.dist + 1 by omega)
    have HH : Kept (heardV n v port best = best) := ⟨by unfold heardV; rw [if_neg hlt]⟩
    clear hlt HQ1 HQ2 HQ3
    go_enter Try.func43, Try.ntmps43
    go_wp2_with fail
    exact bodyPost_ret (v := .agg #[.int .i64 best.root, .int .i64 best.dist, .int .i64 best.port]) (by simp [results, Try.results43, go_sem]) rfl ⟨by rw [HH.out]; rfl, by go_grown⟩
end Go.Proofs.Ytckigonkcjceeaa
