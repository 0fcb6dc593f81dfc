/- Linecode: the statements' own list of valid symbols. -/
import Derived.Test.YtkpnggnanacaaaaDoorRd
namespace Go.Proofs.YtkpnggnanacaaaaDoor
set_option linter.unusedVariables false
set_option linter.unusedSimpArgs false
open Go.RowKit
def symB (xs : List Int) : List Int := xs.map fun n => T.getD (n % 20).toNat 0
theorem symB_len (xs : List Int) : (symB xs).length = xs.length := by simp [symB]
theorem symB_snoc (xs : List Int) (k : Nat) (h : k < xs.length) : symB (xs.take (k + 1)) = symB (xs.take k) ++ [T.getD (xs.getD k 0 % 20).toNat 0] := by
  rw [take_snoc xs k h]; simp [symB]
theorem symB_get (xs : List Int) (k : Nat) (h : k < xs.length) : (symB xs).getD k 0 = T.getD (xs.getD k 0 % 20).toNat 0 := by
  unfold symB
  rw [List.getD_eq_getElem?_getD, List.getElem?_map, getD_at h]; rfl
theorem symB_byt (xs : List Int) : Byt (symB xs) := by
  intro y hy
  obtain ⟨x, _, rfl⟩ := List.mem_map.1 hy
  exact T_byt _
set_option maxHeartbeats 1000000 in
theorem valid_c (v : Value) (xs : List Int) (w : World) (ht : Tab w) (hr : Rd w v xs) (hx : Byt xs) (hl : xs.length ≤ 100000) :
    Calls Tryd.prog 18 #[v] w fun e w' => ∃ u, e = .returned u ∧ Owns w w' u (symB xs) := by
  obtain ⟨i0, hi, hz0, hz1, hz2⟩ := info_parts info5
  obtain ⟨A, cap, rfl, hcap, hmax, hc⟩ := hr
  have HC := hid hc
  have HX := hid hx
  have HT := hid ht
  have HL := hid (symB_len xs)
  unfold maxLen at hmax
  generalize hn : xs.length = n at *
  have HN := hid hn
  clear hc hx hn ht
  go_enter Tryd.func18, Tryd.ntmps18
  go_wp2_with fail
  go_loopw [3, 11] (fun v3 v11 wr => ∃ k : Nat, k ≤ n ∧ v11 = .int .i64 k ∧ wr.ownsRow w.heap.size 5 1 v3 k ((symB (xs.take k)).map (Value.int .u8)) ∧ Below w.heap.size w wr) (fun _ v11 _ => n - (intOf v11).toNat)
  case atStart => exact ⟨0, by omega, rfl, ⟨rfl, .inl ⟨rfl, rfl⟩⟩, Below.refl _ _⟩
  case round =>
    obtain ⟨k, hk, rfl, hown, hb⟩ := hrel
    have HO := hid hown
    have HB := hid hb
    clear hown hb
    by_cases hlt : k < n
    · obtain ⟨b, off, rfl, hbl, hcell⟩ := HC.out (by omega)
      have c0 := (HB.out.cell (p := ⟨b, off + k, none⟩) hbl).trans (hcell k hlt)
      have hS := symB_snoc xs k (by rw [HN.out]; exact hlt)
      have HS := hid hS
      have hxk := HX.out.at_ k
      have HT2 := hid (HT.out.below HB.out)
      have hbz := HB.out.size
      clear hcell hS
      generalize xs.getD k 0 = x at *
      obtain ⟨m, hm⟩ : ∃ m : Int, x % 20 = m := ⟨_, rfl⟩
      rw [hm] at HS
      have g1 : 0 ≤ m := by omega
      have g2 : m < 20 := by omega
      have D1 := hid (show 16 ≤ m → ctrlV (m - 16) = T.getD m.toNat 0 from fun h => by unfold ctrlV; rw [if_pos (by omega)]; congr 1; omega)
      have D2 := hid (show m < 16 → dataV m = T.getD m.toNat 0 from fun h => by unfold dataV; rw [if_pos (by omega)])
      generalize T.getD m.toNat 0 = y at *
      have HM := hid hm
      by_cases h16 : m < 16
      · go_wp2_with fail
        refine (data_c _ _ HT2.out).mono ?_
        rintro e w' ⟨rfl, rfl⟩
        rw [D2.out h16]
        generalize dataE m = e0
        go_wp2_with (at_builtin; refine wpList_append_own _ rfl _ _ 23 rfl w.heap.size 5 i0 (.int .u8 0) 1 1 Tryd.underlying23 hi hz0 hz1 hz2 rfl (by decide) _ _ _ rfl (HO.out.alloc _) ⟨wr.heap.size, 0, none⟩ 1 1 [.int .u8 y] rfl rfl (cell_one_new _ _ _) (fun x hx => by simp at hx; subst hx; rfl) (by unfold maxLen; omega) (by omega) (by simp; omega) ?_; intro v' w1 hown1 hgrow1 _)
        go_roundw
        case rel => exact ⟨k + 1, by omega, by go_num, by rw [HS.out]; simpa using hown1, (HB.out.alloc hbz _).grown hgrow1 (by simp; omega) (fun j hj => (HO.out.lt j hj).1)⟩
        case measure => simp [intOf]; omega
      · go_wp2_with fail
        refine (data_c _ _ HT2.out).mono ?_
        rintro e w' ⟨rfl, rfl⟩
        generalize dataV m = y0
        generalize dataE m = e0
        go_wp2_with fail
        refine (ctrl_c _ _ HT2.out).mono ?_
        rintro e w' ⟨rfl, rfl⟩
        rw [D1.out (by omega)]
        generalize ctrlE (m - 16) = e1
        go_wp2_with (at_builtin; refine wpList_append_own _ rfl _ _ 23 rfl w.heap.size 5 i0 (.int .u8 0) 1 1 Tryd.underlying23 hi hz0 hz1 hz2 rfl (by decide) _ _ _ rfl (HO.out.alloc _) ⟨wr.heap.size, 0, none⟩ 1 1 [.int .u8 y] rfl rfl (cell_one_new _ _ _) (fun x hx => by simp at hx; subst hx; rfl) (by unfold maxLen; omega) (by omega) (by simp; omega) ?_; intro v' w1 hown1 hgrow1 _)
        go_roundw
        case rel => exact ⟨k + 1, by omega, by go_num, by rw [HS.out]; simpa using hown1, (HB.out.alloc hbz _).grown hgrow1 (by simp; omega) (fun j hj => (HO.out.lt j hj).1)⟩
        case measure => simp [intOf]; omega
    · have hk' : k = n := by omega
      go_wp2_with fail
      go_ret
      exact ⟨_, rfl, by rw [HL.out]; rw [hk', List.take_of_length_le (by rw [HN.out]; exact Nat.le_refl _)] at HO; exact HO.out, HB.out⟩
end Go.Proofs.YtkpnggnanacaaaaDoor
