/- Linecode: Encode of the reference. -/
import Derived.Test.YtkpnggnanacaaaaDoorRd
namespace Go.Proofs.YtkpnggnanacaaaaDoor
set_option linter.unusedVariables false
set_option linter.unusedSimpArgs false
open Go.RowKit
theorem own_mono {w : World} {base base' : Nat} {e : TypeId} {size n : Nat} {v : Value} {xs : List Value} (h : w.ownsRow base e size v n xs) (hb : base' ≤ base) : w.ownsRow base' e size v n xs := by
  refine ⟨h.1, ?_⟩
  rcases h.2 with h | ⟨g, cap, cur, h1, h2, h3⟩
  · exact .inl h
  · exact .inr ⟨g, cap, cur, h1, by omega, h3⟩
set_option maxHeartbeats 1000000 in
theorem encodeR_c (v : Value) (xs : List Int) (w : World) (hr : Rd w v xs) (hx : Byt xs) (hl : xs.length ≤ 100000) :
    Calls Tryd.prog 23 #[v] w fun e w' => ∃ u, e = .returned u ∧ Owns w w' u (encB xs) := by
  obtain ⟨i0, hi, hz0, hz1, hz2⟩ := info_parts info5
  obtain ⟨A, cap, rfl, hcap, hmax, hc⟩ := hr
  have HC := hid hc
  have HX := hid hx
  have HL := hid (encB_len xs)
  unfold maxLen at hmax
  generalize hn : xs.length = n at *
  have HN := hid hn
  clear hc hx hn
  go_enter Tryd.func23, Tryd.ntmps23
  go_wp2_with fail
  refine (symbols_c _).mono ?_
  rintro e w1 ⟨v1, rfl, hown, hb⟩
  obtain ⟨g, capg, rfl, hg, hgl, hcapg, hcell⟩ := own_form hown (by decide)
  have HS0 := hid (show ∀ j, j < 20 → w1.cell? ⟨g, j, none⟩ = some (.int .u8 (T.getD j 0)) from fun j hj => hcell j _ (by rw [List.getElem?_map, getD_at (show j < T.length from hj)]; rfl))
  have HB1 := hid hb
  have hbz1 := hb.size
  rw [T_len] at hcapg ⊢
  clear hcell hb hown
  go_wp2_with fail
  go_loopw [4, 5] (fun v4 v5 wr => ∃ k : Nat, k ≤ n ∧ v5 = .int .i64 k ∧ wr.ownsRow w1.heap.size 5 1 v4 (2 * k) ((encB (xs.take k)).map (Value.int .u8)) ∧ Below w1.heap.size w1 wr) (fun _ v5 _ => n - (intOf v5).toNat)
  case atStart => exact ⟨0, by omega, rfl, ⟨rfl, .inl ⟨rfl, rfl⟩⟩, Below.refl _ _⟩
  case round =>
    obtain ⟨k, hk, rfl, hown, hb⟩ := hrel
    have HO := hid hown
    have HB := hid hb
    clear hown hb
    by_cases hlt : k < n
    · obtain ⟨b, off, rfl, hbl, hcell⟩ := HC.out (by omega)
      have c0 := (HB.out.cell (p := ⟨b, off + k, none⟩) (Nat.lt_of_lt_of_le hbl hbz1)).trans ((HB1.out.cell (p := ⟨b, off + k, none⟩) hbl).trans (hcell k hlt))
      have hS := encB_snoc xs k (by rw [HN.out]; exact hlt)
      have HS := hid hS
      have hxk := HX.out.at_ k
      clear hcell hS
      generalize xs.getD k 0 = x at *
      have t1 := (HB.out.cell (p := ⟨g, (x / 16).toNat, none⟩) hgl).trans (HS0.out (x / 16).toNat (by omega))
      have t2 := (HB.out.cell (p := ⟨g, (x % 16).toNat, none⟩) hgl).trans (HS0.out (x % 16).toNat (by omega))
      have E1 := hid (show enc1 x = [T.getD (x / 16).toNat 0, T.getD (x % 16).toNat 0] from rfl)
      generalize T.getD (x / 16).toNat 0 = y at *
      generalize T.getD (x % 16).toNat 0 = z at *
      obtain ⟨p, hp⟩ : ∃ p, x / 16 = p := ⟨_, rfl⟩
      obtain ⟨q, hq⟩ : ∃ q, x % 16 = q := ⟨_, rfl⟩
      rw [hp] at t1
      rw [hq] at t2
      have hpb : IntKind.u8.wrap (x.tdiv 16) = p := by rw [IntKind.wrap_u8, Int.tdiv_eq_ediv_of_nonneg (by omega)]; omega
      have hqb : x.tmod 16 = q := by rw [Int.tmod_eq_emod_of_nonneg (by omega)]; omega
      have hqb2 : IntKind.u8.wrap q = q := by rw [IntKind.wrap_u8]; omega
      have g1 : 0 ≤ p := by omega
      have g2 : p < 20 := by omega
      have g3 : 0 ≤ q := by omega
      have g4 : q < 20 := by omega
      have hbz := HB.out.size
      go_wp2_with fail
      go_region_held3 (fun w' => w'.cell? ⟨b, off + k, none⟩ = some (.int .u8 x) ∧ w'.cell? ⟨g, p.toNat, none⟩ = some (.int .u8 y) ∧ w'.cell? ⟨g, q.toNat, none⟩ = some (.int .u8 z)) (first | (go_keep; done) | (exact ⟨(hgrow.cell_far _ hlt5 hne5).trans ((World.cell?_alloc_lt wr _ _ hlt6).trans c0), (hgrow.cell_far _ hlt3 hne3).trans ((World.cell?_alloc_lt wr _ _ hlt4).trans t1), (hgrow.cell_far _ hlt3 hne3).trans ((World.cell?_alloc_lt wr _ _ hlt4).trans t2)⟩))
        ((refine step_append_lies _ (by rfl) (.tmp 13) (.tmp 30) 23 (by rfl) w1.heap.size 5 i0 _ 1 1 Tryd.underlying23 hi hz0 hz1 hz2 rfl (by decide) _ _ _ (by rfl) (HO.out.alloc _).drew ⟨wr.heap.size, 0, none⟩ 2 2 [.int .u8 y, .int .u8 z] (by rfl) rfl (World.news_of_block (heap_alloc_new wr _)) (by intro u hu; simp at hu; rcases hu with rfl | rfl <;> rfl) (by decide) (by unfold maxLen; omega) (by omega) (by simp; omega) _ rfl ?_; intro g' cap2 w2 hown2 hgrow hat hlt2; have hlt4 : g < wr.heap.size := (by omega); have hlt6 : b < wr.heap.size := (by omega); have hlt3 : g < (wr.alloc (.cells #[.int .u8 y, .int .u8 z] 5)).drew.heap.size := (by simp; omega); have hlt5 : b < (wr.alloc (.cells #[.int .u8 y, .int .u8 z] 5)).drew.heap.size := (by simp; omega); have hne3 : some g ≠ u4.ownBlock := (fun e => by have := (HO.out.lt g e.symm).1; omega); have hne5 : some b ≠ u4.ownBlock := (fun e => by have := (HO.out.lt b e.symm).1; omega)))
      go_wp2_with fail
      go_roundw
      case rel => exact ⟨k + 1, by omega, by go_num, by rw [HS.out, E1.out, show 2 * (k + 1) = 2 * k + 2 by omega]; simpa using hown2, (HB.out.alloc hbz _).grown (show (wr.alloc (.cells #[.int .u8 y, .int .u8 z] 5)).grownBy w2 _ from ⟨hgrow.os, hgrow.tape, hgrow.output, hgrow.size, hgrow.block⟩) (by simp; omega) (fun j hj => (HO.out.lt j hj).1)⟩
      case measure => simp [intOf]; omega
    · have hk' : k = n := by omega
      go_wp2_with fail
      go_ret
      exact ⟨_, rfl, by rw [HL.out]; rw [hk', List.take_of_length_le (by rw [HN.out]; exact Nat.le_refl _)] at HO; exact own_mono HO.out hbz1, join HB1.out HB.out⟩
end Go.Proofs.YtkpnggnanacaaaaDoor
