/- Linecode: Encode. -/
import Derived.Test.YtkpnggnanacaaaaDoorRd
import Derived.Laws.BitsLemmas
namespace Go.Proofs.YtkpnggnanacaaaaDoor
set_option linter.unusedVariables false
set_option linter.unusedSimpArgs false
open Go.RowKit
set_option maxHeartbeats 1000000 in
theorem encode_c (v : Value) (xs : List Int) (w : World) (ht : Tab w) (hr : Rd w v xs) (hx : Byt xs) (hl : xs.length ≤ 100000) :
    Calls Tryd.prog 20 #[v] w fun e w' => ∃ u, e = .returned u ∧ Owns w w' u (encB xs) := by
  obtain ⟨i0, hi, hz0, hz1, hz2⟩ := info_parts info5
  obtain ⟨A, cap, rfl, hcap, hmax, hc⟩ := hr
  have HC := hid hc
  have HT := hid ht
  have HX := hid hx
  have HL := hid (encB_len xs)
  have h0 := ht.1
  unfold maxLen at hmax
  generalize hn : xs.length = n at *
  have HN := hid hn
  clear hc ht hx hn
  go_enter Tryd.func20, Tryd.ntmps20
  go_wp2_with (refine wpList_make_own _ rfl _ _ 23 rfl w.heap.size 5 i0 _ 1 Tryd.underlying23 hi hz0 hz1 .i64 .i64 _ (2 * n) rfl rfl (by omega) (by rw [hz2]; omega) (by unfold maxLen; omega) (Nat.le_refl _) ?_; intro w1 hown1 hg1)
  have HO1 := hid hown1
  have HB1 := hid (show Below w.heap.size w w1 from (Below.refl _ _).grown hg1 (Nat.le_refl _) (fun k hk => by cases hk))
  clear hown1 hg1
  go_loopw [3, 12] (fun v3 v12 wr => ∃ k : Nat, k ≤ n ∧ v12 = .int .i64 k ∧ wr.ownsRow w.heap.size 5 1 v3 (2 * k) ((encB (xs.take k)).map (Value.int .u8)) ∧ Below w.heap.size w wr) (fun _ v12 _ => n - (intOf v12).toNat)
  case atStart => exact ⟨0, by omega, rfl, HO1.out, HB1.out⟩
  case round =>
    obtain ⟨k, hk, rfl, hown, hb⟩ := hrel
    clear HO1 HB1
    have HO := hid hown
    have HB := hid hb
    clear hown hb
    by_cases hlt : k < n
    · obtain ⟨b, off, rfl, hbl, hcell⟩ := HC.out (by omega)
      have c0 := (HB.out.cell (p := ⟨b, off + k, none⟩) hbl).trans (hcell k hlt)
      have hS := encB_snoc xs k (by rw [HN.out]; exact hlt)
      have HS := hid hS
      have hxk := HX.out.at_ k
      clear hcell hS
      generalize xs.getD k 0 = x at *
      have t1 := (HB.out.cell (p := ⟨0, (x / 16).toNat, none⟩) h0).trans (HT.out.2 (x / 16).toNat (by omega))
      have t2 := (HB.out.cell (p := ⟨0, (x % 16).toNat, none⟩) h0).trans (HT.out.2 (x % 16).toNat (by omega))
      have E1 := hid (show enc1 x = [T.getD (x / 16).toNat 0, T.getD (x % 16).toNat 0] from rfl)
      generalize T.getD (x / 16).toNat 0 = y at *
      generalize T.getD (x % 16).toNat 0 = z at *
      obtain ⟨p, hp⟩ : ∃ p, x / 16 = p := ⟨_, rfl⟩
      obtain ⟨q, hq⟩ : ∃ q, x % 16 = q := ⟨_, rfl⟩
      rw [hp] at t1
      rw [hq] at t2
      have hqb : bits BinOp.and IntKind.u8 x 15 = q := (bits_mask .u8 8 (by decide) wraps_u8 4 (by decide) x hxk.1 (by omega)).trans hq
      have g1 : 0 ≤ p := by omega
      have g2 : p < 20 := by omega
      have g3 : 0 ≤ q := by omega
      have g4 : q < 20 := by omega
      have hbz := HB.out.size
      go_wp2_with fail
      go_region_held3 (fun w' => w'.cell? ⟨0, p.toNat, none⟩ = some (.int .u8 y) ∧ w'.cell? ⟨0, q.toNat, none⟩ = some (.int .u8 z)) (first | (go_keep; done) | (exact ⟨(hgrow.cell_far _ hlt3 hne3).trans ((World.cell?_alloc_lt wr _ _ hlt4).trans t1), (hgrow.cell_far _ hlt3 hne3).trans ((World.cell?_alloc_lt wr _ _ hlt4).trans t2)⟩))
        ((refine step_append_lies _ (by rfl) (.tmp 16) (.tmp 25) 23 (by rfl) w.heap.size 5 i0 _ 1 1 Tryd.underlying23 hi hz0 hz1 hz2 rfl (by decide) _ _ _ (by rfl) (HO.out.alloc _).drew ⟨wr.heap.size, 0, none⟩ 2 2 [.int .u8 y, .int .u8 z] (by rfl) rfl (World.news_of_block (heap_alloc_new wr _)) (by intro u hu; simp at hu; rcases hu with rfl | rfl <;> rfl) (by decide) (by unfold maxLen; omega) (by omega) (by simp; omega) _ rfl ?_; intro g cap2 w2 hown2 hgrow hat hlt2; have hlt4 : 0 < wr.heap.size := (by omega); have hlt3 : 0 < (wr.alloc (.cells #[.int .u8 y, .int .u8 z] 5)).drew.heap.size := (by simp); have hne3 : some 0 ≠ u3.ownBlock := (fun e => by have := (HO.out.lt 0 e.symm).1; omega)))
      go_wp2_with fail
      go_roundw
      case rel => exact ⟨k + 1, by omega, by go_num, by rw [HS.out, E1.out, show 2 * (k + 1) = 2 * k + 2 by omega]; simpa using hown2, (HB.out.alloc hbz _).grown (show (wr.alloc (.cells #[.int .u8 y, .int .u8 z] 5)).grownBy w2 _ from ⟨hgrow.os, hgrow.tape, hgrow.output, hgrow.size, hgrow.block⟩) (by simp; omega) (fun j hj => (HO.out.lt j hj).1)⟩
      case measure => simp [intOf]; omega
    · have hk' : k = n := by omega
      go_wp2_with fail
      go_ret
      exact ⟨_, rfl, by rw [HL.out]; rw [hk', List.take_of_length_le (by rw [HN.out]; exact Nat.le_refl _)] at HO; exact HO.out, HB.out⟩
end Go.Proofs.YtkpnggnanacaaaaDoor
