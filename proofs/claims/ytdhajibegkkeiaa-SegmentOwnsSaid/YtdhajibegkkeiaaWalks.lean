/- Segment: the walks of Valid (the program's and the reference's), slices.Clone at bytes, Cut, the reference's Same. -/
import Derived.Test.YtdhajibegkkeiaaProg
import Derived.Test.YtdhajibegkkeiaaPlain
namespace Go.Proofs.Ytdhajibegkkeiaa
set_option linter.unusedVariables false
set_option linter.unusedSimpArgs false
open Go.RowKit
theorem info5 : (Try.prog.info? 5).map (fun i => (i.zero, i.size, i.bytes)) = some (some (.int .u8 0), 1, 1) := by kernel_rfl
theorem info24 : (Try.prog.info? 24).map (fun i => (i.zero, i.size, i.bytes)) = some (some (.agg #[.int .i64 0, .slice none 0 0, .bool false]), 3, 40) := by kernel_rfl
set_option maxHeartbeats 1000000 in
theorem valid_c (s : Seg) (A : Option Addr) (kap : Nat) (w : World) (hm : s.data.length ≤ maxLen) :
    Calls Try.prog 14 #[segVal s A kap] w fun e w' => e = .returned (.bool (validB s)) ∧ Below w.heap.size w w' := by
  unfold maxLen at hm
  have HV : Kept (validB s = (decide (0 ≤ s.off) && decide (s.data.length ≤ 64) && decide (s.off ≤ 1099511627776 - s.data.length))) := ⟨rfl⟩
  unfold segVal
  rw [HV.out]
  generalize s.off = o at *
  generalize s.data.length = n at *
  clear HV
  have hn0 : (0 : Int) ≤ n := by omega
  by_cases y1 : 0 ≤ o
  · by_cases y2 : n ≤ 64
    · have y2' : (n : Int) ≤ 64 := by omega
      rw [show (decide (0 ≤ o) && decide (n ≤ 64) && decide (o ≤ 1099511627776 - (n : Int))) = decide (o ≤ 1099511627776 - (n : Int)) by simp [y1, y2]]
      go_enter Try.func14, Try.ntmps14
      go_wp2_with fail
      go_ret
      exact ⟨rfl, by go_grown⟩
    · have y2' : ¬ (n : Int) ≤ 64 := by omega
      have y3 : decide ((n : Int) ≤ 64) = false := by simpa using y2'
      rw [show (decide (0 ≤ o) && decide (n ≤ 64) && decide (o ≤ 1099511627776 - (n : Int))) = false by simp [y2]]
      go_enter Try.func14, Try.ntmps14
      go_wp2_with fail
      go_ret
      exact ⟨rfl, by go_grown⟩
  · have y3 : decide (0 ≤ o) = false := by simpa using y1
    rw [show (decide (0 ≤ o) && decide (n ≤ 64) && decide (o ≤ 1099511627776 - (n : Int))) = false by simp [y1]]
    go_enter Try.func14, Try.ntmps14
    go_wp2_with fail
    go_ret
    exact ⟨rfl, by go_grown⟩
set_option maxHeartbeats 1000000 in
theorem refValid_c (s : Seg) (A : Option Addr) (kap : Nat) (w : World) (hm : s.data.length ≤ maxLen) :
    Calls Try.prog 13 #[segVal s A kap] w fun e w' => e = .returned (.bool (validB s)) ∧ Below w.heap.size w w' := by
  unfold maxLen at hm
  have HV : Kept (validB s = (decide (0 ≤ s.off) && decide (s.data.length ≤ 64) && decide (s.off ≤ 1099511627776 - s.data.length))) := ⟨rfl⟩
  unfold segVal
  rw [HV.out]
  generalize s.off = o at *
  generalize s.data.length = n at *
  clear HV
  have hn0 : (0 : Int) ≤ n := by omega
  by_cases y1 : 0 ≤ o
  · by_cases y2 : n ≤ 64
    · have y2' : (n : Int) ≤ 64 := by omega
      rw [show (decide (0 ≤ o) && decide (n ≤ 64) && decide (o ≤ 1099511627776 - (n : Int))) = decide (o ≤ 1099511627776 - (n : Int)) by simp [y1, y2]]
      go_enter Try.func13, Try.ntmps13
      go_wp2_with fail
      go_ret
      exact ⟨rfl, by go_grown⟩
    · have y2' : ¬ (n : Int) ≤ 64 := by omega
      have y3 : decide ((n : Int) ≤ 64) = false := by simpa using y2'
      rw [show (decide (0 ≤ o) && decide (n ≤ 64) && decide (o ≤ 1099511627776 - (n : Int))) = false by simp [y2]]
      go_enter Try.func13, Try.ntmps13
      go_wp2_with fail
      go_ret
      exact ⟨rfl, by go_grown⟩
  · have y3 : decide (0 ≤ o) = false := by simpa using y1
    rw [show (decide (0 ≤ o) && decide (n ≤ 64) && decide (o ≤ 1099511627776 - (n : Int))) = false by simp [y1]]
    go_enter Try.func13, Try.ntmps13
    go_wp2_with fail
    go_ret
    exact ⟨rfl, by go_grown⟩
def Clones (w : World) (xs : List Int) (r : Ending) (w' : World) : Prop :=
  ∃ v, r = .returned v ∧ w'.ownsRow w.heap.size 5 1 v xs.length (bv xs) ∧ Below w.heap.size w w'
set_option maxHeartbeats 1000000 in
theorem clone_c (A : Option Addr) (kap : Nat) (xs : List Int) (w : World) (B : Nat) (h : Reads w B 1 A xs.length (bv xs)) (hB : B ≤ w.heap.size) (hn : xs.length ≤ 1000000) :
    Calls Try.prog 27 #[.slice A xs.length kap] w (Clones w xs) := by
  obtain ⟨i0, hi0, hz0, hz1, hz2⟩ := info_parts info5
  rcases A with _ | ad
  · obtain ⟨h0, h1⟩ := reads_nil h
    have hx : xs = [] := List.eq_nil_of_length_eq_zero h0
    subst hx
    have hq := fun (w : World) => Lib.run_eql_slice_nil w 22 5 none 0 kap 0 0 Try.underlying22
    simp only [Option.isNone] at hq
    clear h h0 h1
    show Calls Try.prog 27 #[.slice none 0 kap] w (Clones w [])
    go_enter Try.func27, Try.ntmps27
    go_wp2_with fail
    go_ret
    exact ⟨_, rfl, World.ownsRow_nil _ _ _ _, Below.refl _ _⟩
  · have hq := fun (w : World) => Lib.run_eql_slice_nil w 22 5 (some ad) xs.length kap 0 0 Try.underlying22
    simp only [Option.isNone] at hq
    have HR := Kept.mk (h.alloc hB (.cells #[] 5))
    have HO := Kept.mk (World.ownsRow_lit (base := w.heap.size) (e := 5) (size := 1) w #[] 0 (Nat.le_refl _) (by unfold maxLen; omega) rfl)
    clear h hB
    go_enter Try.func27, Try.ntmps27
    go_wp2_with (at_builtin; refine wpList_append_any _ rfl _ _ _ rfl w.heap.size 5 i0 _ 1 1 Try.underlying22 hi0 hz0 hz1 hz2 rfl (by omega) _ 0 _ rfl HO.out B (some ad) xs.length kap (bv xs) rfl HR.out (bv_one xs) (by unfold maxLen; omega) (by omega) (by simp) ?_; intro v' w2 ho hg hat)
    go_ret
    exact ⟨v', rfl, by simpa using ho, ((Below.refl _ _).alloc (Nat.le_refl _) _).grown hg (by simp) (fun k hk => (HO.out.lt k hk).1)⟩
end Go.Proofs.Ytdhajibegkkeiaa
