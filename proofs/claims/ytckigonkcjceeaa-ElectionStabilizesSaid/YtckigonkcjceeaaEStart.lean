/- The program's Start. -/
import Derived.Test.YtckigonkcjceeaaERun
namespace Go.Proofs.Ytckigonkcjceeaa
set_option linter.unusedVariables false
set_option linter.unusedSimpArgs false
open Go.RowKit
theorem startP_len (n : Nat) : (startP n).length = n := by simp [startP]
theorem startP_get {n k : Nat} (h : k < n) : (startP n)[k]? = some (selfV (k : Int)) := by unfold startP; rw [List.getElem?_map, List.getElem?_range h]; rfl
theorem RetV.nil_ {w w' : World} (hb : Below w.heap.size w w') : RetV w [] (.returned (.slice none 0 0)) w' := ⟨none, 0, rfl, RowsAt.nil_ _ _ _ _ vcell_len (by omega), Nat.le_refl _, by unfold maxLen; omega, hb⟩
set_option maxRecDepth 100000 in
set_option maxHeartbeats 4000000 in
theorem Start_bad (N : List Nd) (C : List Cb) (An Ac : Option Addr) (kn kc : Nat) (w : World) (h : PlanAt w w.heap.size ⟨N, C, An, kn, Ac, kc⟩) (hf : validE N C ≠ 0) :
    Calls Try.prog 17 #[.agg #[.slice An N.length kn, .slice Ac C.length kc]] w (RetV w []) := by
  have HG : Kept (Below w.heap.size w (w.alloc (.cells #[.slice An N.length kn, .slice Ac C.length kc] 32))) := ⟨(Below.refl _ _).alloc (Nat.le_refl _) _⟩
  have HA1 := Kept.mk (h.new_ HG.out)
  clear h
  obtain ⟨f, hfe⟩ : ∃ f, validE N C = f := ⟨_, rfl⟩
  rw [hfe] at hf
  have q1 : (f != 0) = true := by simpa using hf
  have q2 : (f == 0) = false := by simpa using hf
  have HF := Kept.mk hfe
  clear hf hfe
  go_enter Try.func17, Try.ntmps17
  go_wp2_with (go_at_call 15; refine (valid_ N C An Ac kn kc _ HA1.out).mono ?_; rintro e w1 ⟨rfl, hb1⟩; rw [HF.out]; have HD1 := Kept.mk (join HG.out hb1); clear hb1)
  go_ret
  exact RetV.nil_ HD1.out
set_option maxRecDepth 100000 in
set_option maxHeartbeats 4000000 in
theorem Start_ok (N : List Nd) (C : List Cb) (An Ac : Option Addr) (kn kc : Nat) (w : World) (h : PlanAt w w.heap.size ⟨N, C, An, kn, Ac, kc⟩) (hf : validE N C = 0) :
    Calls Try.prog 17 #[.agg #[.slice An N.length kn, .slice Ac C.length kc]] w (RetV w (startP N.length)) := by
  have HG : Kept (Below w.heap.size w (w.alloc (.cells #[.slice An N.length kn, .slice Ac C.length kc] 32))) := ⟨(Below.refl _ _).alloc (Nat.le_refl _) _⟩
  have HA1 := Kept.mk (h.new_ HG.out)
  have HB := Kept.mk (Blk.new w 32 #[.slice An N.length kn, .slice Ac C.length kc])
  have HF := Kept.mk hf
  have hn := (valid_spec hf).1
  clear h hf
  have hmk := fun w => run_make_flat (P := Try.prog) vcell_len (by omega) (⟨0, 0, 0⟩ : Vt) 37 23 _ 24 Try.underlying37 infoVt rfl N.length (by omega) (by omega) w
  go_enter Try.func17, Try.ntmps17
  go_wp2_with (go_at_call 15; refine (valid_ N C An Ac kn kc _ HA1.out).mono ?_; rintro e w1 ⟨rfl, hb1⟩; rw [HF.out]; have HB1 := Kept.mk (HB.out.new_ hb1); have HD1 := Kept.mk (join HG.out hb1); clear hb1; have k0 := HB1.out.cell 0 (v := .slice An N.length kn) rfl; have k1 := HB1.out.cell 1 (v := .slice Ac C.length kc) rfl; have z1 := HB1.out.lt)
  have HF0 := Kept.mk (Blk.new w1 23 ((List.replicate N.length (⟨0, 0, 0⟩ : Vt)).flatMap vcell).toArray)
  go_loopw [14] (fun v wr => ∃ k : Nat, k ≤ N.length ∧ v = .int .i64 k ∧ Kept (Filled wr w1.heap.size N.length k (startP N.length)) ∧ Kept (Below w.heap.size w wr)) (fun v _ => N.length - (intOf v).toNat)
  case atStart => exact ⟨0, Nat.zero_le _, rfl, ⟨List.replicate N.length ⟨0, 0, 0⟩, by simp, by simp, HF0.out⟩, ⟨HD1.out.alloc HD1.out.size _⟩⟩
  case round =>
    clear HF0
    have hzw := HD1.out.size
    obtain ⟨k, hk, rfl, HFI, HD⟩ := hrel
    by_cases hlt : k < N.length
    · obtain ⟨L, hL1, hL2, hL3⟩ := HFI.out
      have HL := Kept.mk hL3
      have hkL : k < L.length := by omega
      obtain ⟨y, hy⟩ := get_some hkL
      have g0 := HL.out.cell vcell_len hy (j := 0) (u := .int .i64 y.root) rfl
      have g1 := HL.out.cell vcell_len hy (j := 1) (u := .int .i64 y.dist) rfl
      have g2 := HL.out.cell vcell_len hy (j := 2) (u := .int .i64 y.port) rfl
      have f0 := HL.out.free (k * 3)
      have f1 := HL.out.free (k * 3 + 1)
      have f2 := HL.out.free (k * 3 + 2)
      simp only [Nat.add_zero] at g0
      have HNX : Kept ((L.set k (selfV (k : Int))).take (k + 1) = (startP N.length).take (k + 1)) := ⟨by
        rw [take_next (List.getElem?_set_self hkL), take_next (startP_get hlt), List.take_set_of_le (Nat.le_refl k), hL2]⟩
      have HLS : Kept ((L.set k (selfV (k : Int))).length = N.length) := ⟨by rw [List.length_set]; exact hL1⟩
      have HLK := Kept.mk hkL
      clear hL1 hL2 hL3 hy
      go_wp2_with fail
      go_roundw
      case rel => exact ⟨k + 1, by omega, by go_num, ⟨L.set k (selfV (k : Int)), HLS.out, HNX.out, HL.out.set3 vcell_len HLK.out rfl⟩, ⟨((HD.out.setCell (by simp <;> omega) _).setCell (by simp <;> omega) _).setCell (by simp <;> omega) _⟩⟩
      case measure => simp [intOf]; omega
    · obtain rfl : k = N.length := by omega
      obtain ⟨L, hL1, hL2, hL3⟩ := HFI.out
      have HLE : Kept (L = startP N.length) := ⟨by
        have h1 := hL2
        rwa [← hL1, List.take_length, List.take_of_length_le (by rw [startP_len]; omega), hL1] at h1⟩
      have HL := Kept.mk hL3
      clear hL1 hL2 hL3 hlt
      go_wp2_with fail
      go_ret
      exact ⟨some ⟨w1.heap.size, 0, none⟩, N.length, by rw [startP_len]; rfl, by rw [← HLE.out]; exact HL.out.rows vcell_len (by omega) HL.out.lt, by rw [startP_len]; exact Nat.le_refl _, by unfold maxLen; omega, HD.out⟩
theorem Start_ (N : List Nd) (C : List Cb) (An Ac : Option Addr) (kn kc : Nat) (w : World) (h : PlanAt w w.heap.size ⟨N, C, An, kn, Ac, kc⟩) :
    Calls Try.prog 17 #[.agg #[.slice An N.length kn, .slice Ac C.length kc]] w (RetV w (if validE N C = 0 then startP N.length else [])) := by
  by_cases hf : validE N C = 0
  · rw [if_pos hf]; exact Start_ok N C An Ac kn kc w h hf
  · rw [if_neg hf]; exact Start_bad N C An Ac kn kc w h hf
end Go.Proofs.Ytckigonkcjceeaa
