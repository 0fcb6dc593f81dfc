/- Linecode: Decode of the reference. -/
import Derived.Test.YtkpnggnanacaaaaDoorDec
namespace Go.Proofs.YtkpnggnanacaaaaDoor
set_option linter.unusedVariables false
set_option linter.unusedSimpArgs false
open Go.RowKit
theorem index_w (x : Int) (w : World) (h0 : 0 ≤ x) (h1 : x ≤ 255) (i : Nat) (hi : idx x = i) (h : i < 20) : Calls Tryd.prog 17 #[.int .u8 x] w fun e w' => e = .returned (.int .i64 i) ∧ Below w.heap.size w w' :=
  (index_c x w h0 h1).mono fun e w' h2 => ⟨by rw [h2.1]; unfold indexV; rw [hi, if_pos h], h2.2⟩
theorem own_below {w w' : World} {base : Nat} {e : TypeId} {size n : Nat} {v : Value} {xs : List Value} (h : w.ownsRow base e size v n xs) (hb : Below w.heap.size w w') : w'.ownsRow base e size v n xs := by
  refine ⟨h.1, ?_⟩
  rcases h.2 with h0 | ⟨g, cap, cur, hv, hbb, hg, hr⟩
  · exact .inl h0
  · refine .inr ⟨g, cap, cur, hv, hbb, ?_, hr⟩
    have hlt : g < w.heap.size := by
      rcases Nat.lt_or_ge g w.heap.size with hlt | hge
      · exact hlt
      · rw [Array.getElem?_eq_none hge] at hg; cases hg
    rw [hb.block g hlt]; exact hg
set_option maxHeartbeats 4000000 in
theorem decodeR_c (v : Value) (xs : List Int) (w : World) (hr : Rd w v xs) (hx : Byt xs) (hl : xs.length ≤ 100000) :
    Calls Tryd.prog 24 #[v] w (DecP w xs) := by
  obtain ⟨i0, hi, hz0, hz1, hz2⟩ := info_parts info5
  obtain ⟨A, cap, rfl, hcap, hmax, hc⟩ := hr
  have HC := hid hc
  have HX := hid hx
  have HL := hid (badD_le xs)
  unfold maxLen at hmax
  generalize hn : xs.length = n at *
  have HN := hid hn
  clear hc hx hn
  go_enter Tryd.func24, Tryd.ntmps24
  go_wp2_with fail
  go_loopw [5, 6] (fun v5 v6 wr => ∃ k : Nat, k ≤ n ∧ k ≤ badD xs ∧ v5 = .int .i64 k ∧ Below w.heap.size w wr) (fun v5 _ _ => n - (intOf v5).toNat)
  case atStart => exact ⟨0, by omega, by omega, rfl, Below.refl _ _⟩
  case round =>
    obtain ⟨k, hk, hkb, rfl, hb⟩ := hrel
    have HB := hid hb
    clear hb
    by_cases hlt : k < n
    · obtain ⟨b, off, rfl, hbl, hcell⟩ := HC.out (by omega)
      have c0 := (HB.out.cell (p := ⟨b, off + k, none⟩) hbl).trans (hcell k hlt)
      have hxk := HX.out.at_ k
      have hix := idx_le (xs.getD k 0)
      have HG := hid (fun h => badD_lt hkb (by rw [HN.out]; exact hlt) h)
      have HGB := hid (fun h => badD_eq hkb (by rw [HN.out]; exact hlt) h)
      obtain ⟨ix, hixe⟩ : ∃ i, idx (xs.getD k 0) = i := ⟨_, rfl⟩
      have E1 := hid (show ix < 20 → indexV (xs.getD k 0) = ix from fun h => by unfold indexV; rw [hixe, if_pos h])
      have E3 := hid (show ¬ ix < 20 → indexV (xs.getD k 0) = -1 from fun h => by unfold indexV; rw [hixe, if_neg h])
      rw [hixe] at hix HG HGB
      clear hcell hixe
      generalize xs.getD k 0 = x at *
      by_cases h16 : ix < 16
      · have hk2 := HG.out h16
        go_wp2_with fail
        refine (index_c _ _ (by omega) (by omega)).mono ?_
        rintro e w' ⟨rfl, hb'⟩
        have HB' := hid (HB.out.trans (hb'.mono HB.out.size))
        rw [E1.out (by omega)]
        clear hb'
        go_wp2_with fail
        go_roundw
        case rel => exact ⟨k + 1, by omega, by omega, by go_num, HB'.out⟩
        case measure => simp [intOf]; omega
      · have hbad := HGB.out (by omega)
        have HBD := hid hbad
        clear hbad
        by_cases h20 : ix < 20
        · go_wp2_with fail
          refine (index_c _ _ (by omega) (by omega)).mono ?_
          rintro e w' ⟨rfl, hb'⟩
          have HB' := hid (HB.out.trans (hb'.mono HB.out.size))
          rw [E1.out (by omega)]
          clear hb'
          go_wp2_with fail
          go_ret3
          exact decP_bad (by rw [HN.out]; exact hlt) HBD.out rfl HB'.out
        · go_wp2_with fail
          refine (index_c _ _ (by omega) (by omega)).mono ?_
          rintro e w' ⟨rfl, hb'⟩
          have HB' := hid (HB.out.trans (hb'.mono HB.out.size))
          rw [E3.out (by omega)]
          clear hb'
          go_wp2_with fail
          go_ret3
          exact decP_bad (by rw [HN.out]; exact hlt) HBD.out rfl HB'.out
    · have hk' : k = n := by omega
      have HBD := hid (show badD xs = xs.length by rw [HN.out]; have := HL.out; omega)
      clear hk'
      rcases Nat.mod_two_eq_zero_or_one n with hpar | hpar
      · have hp1 : ((n : Int) % 2 != 0) = false := by simp; omega
        have HP := hid hpar
        have hkk := hk
        obtain ⟨m, hm⟩ : ∃ m, n = 2 * m := ⟨n / 2, by omega⟩
        have hm1 : 2 * m ≤ n := by omega
        have hm2 : n ≤ 2 * m := by omega
        have HM := hid hm
        obtain ⟨wo, rfl⟩ : ∃ wo : World, wo = wr := ⟨_, rfl⟩
        have hwo := HB.out.size
        clear hpar hm
        go_wp2_with fail
        go_loopw [7, 8] (fun v7 v8 wr => ∃ j p : Nat, j ≤ m ∧ p ≤ n ∧ Hid (p = 2 * j) ∧ v8 = .int .i64 p ∧ wr.ownsRow w.heap.size 5 1 v7 j ((pr xs j).map (Value.int .u8)) ∧ Below w.heap.size w wr) (fun _ v8 _ => n - (intOf v8).toNat)
        case atStart => exact ⟨0, 0, by omega, by omega, rfl, rfl, ⟨rfl, .inl ⟨rfl, rfl⟩⟩, HB.out⟩
        case round =>
          obtain ⟨j, p, hj, hpn, hpj, rfl, hown, hb⟩ := hrel
          clear HB
          have HO := hid hown
          have HB := hid hb
          clear hown hb
          have hbz := HB.out.size
          by_cases hlt : p < n
          · obtain ⟨b, off, rfl, hbl, hcell⟩ := HC.out (by omega)
            have hjm : j < m := by have := hpj.out; omega
            obtain ⟨p1, hp1'⟩ : ∃ p1, p1 = p + 1 := ⟨_, rfl⟩
            have hp1n : p1 < n := by have := hpj.out; omega
            have c0 := (HB.out.cell (p := ⟨b, off + p, none⟩) hbl).trans (hcell p (by omega))
            have c1 := (HB.out.cell (p := ⟨b, off + p1, none⟩) hbl).trans (hcell p1 (by omega))
            have hx0 := HX.out.at_ p
            have hx1 := HX.out.at_ p1
            have i0' := badD_at (xs := xs) (k := p) (by rw [HBD.out, HN.out]; omega)
            have i1' := badD_at (xs := xs) (k := p1) (by rw [HBD.out, HN.out]; omega)
            have HPR : Hid (pr xs (j + 1) = pr xs j ++ [16 * (idx (xs.getD p 0) : Int) + (idx (xs.getD p1 0) : Int)]) := by rw [hp1', hpj.out]; rfl
            obtain ⟨a1, ha1⟩ : ∃ i, idx (xs.getD p 0) = i := ⟨_, rfl⟩
            obtain ⟨a2, ha2⟩ : ∃ i, idx (xs.getD p1 0) = i := ⟨_, rfl⟩
            rw [ha1] at i0' HPR
            rw [ha2] at i1' HPR
            have v1 : indexV (xs.getD p 0) = a1 := by unfold indexV; rw [ha1, if_pos (by omega)]
            have v2 : indexV (xs.getD p1 0) = a2 := by unfold indexV; rw [ha2, if_pos (by omega)]
            clear hcell ha1 ha2
            generalize xs.getD p 0 = x0 at *
            generalize xs.getD p1 0 = x1 at *
            have s1 : IntKind.i64.wrap ((p : Int) + 1) = (p1 : Int) := by rw [IntWalk.i64_in _ (by omega)]; omega
            have s2 : IntKind.i64.wrap (16 * (a1 : Int)) = 16 * (a1 : Int) := IntWalk.i64_in _ (by omega)
            have s3 : IntKind.i64.wrap (16 * (a1 : Int) + (a2 : Int)) = 16 * (a1 : Int) + (a2 : Int) := IntWalk.i64_in _ (by omega)
            have s4 : IntKind.u8.wrap (16 * (a1 : Int) + (a2 : Int)) = 16 * (a1 : Int) + (a2 : Int) := by rw [IntKind.wrap_u8]; omega
            have HP1 := hid hp1'
            have hbr : b < wr.heap.size := Nat.lt_of_lt_of_le hbl hbz
            clear hp1'
            go_wp2_with fail
            go_region_held3 (fun w' => w'.cell? ⟨b, off + p, none⟩ = some (.int .u8 x0) ∧ w'.cell? ⟨b, off + p1, none⟩ = some (.int .u8 x1)) (first | (go_keep; done) | (exact ⟨(hgrow.cell_far ⟨b, off + p, none⟩ hlt5 hne5).trans ((World.cell?_alloc_lt w1 _ _ hlt6).trans k0), (hgrow.cell_far ⟨b, off + p1, none⟩ hlt5 hne5).trans ((World.cell?_alloc_lt w1 _ _ hlt6).trans k1)⟩))
              (first
                | (go_at_call 17; refine (index_c _ _ (by omega) (by omega)).mono ?_; rintro e w1 ⟨rfl, hbN⟩; have hz : wr.heap.size ≤ w1.heap.size := Nat.le_trans (by first | assumption | exact Nat.le_refl _) hbN.size; have k0 : w1.cell? ⟨b, off + p, none⟩ = some (.int .u8 x0) := (hbN.cell (p := ⟨b, off + p, none⟩) (by simp; omega)).trans (by simp [*]); have k1 : w1.cell? ⟨b, off + p1, none⟩ = some (.int .u8 x1) := (hbN.cell (p := ⟨b, off + p1, none⟩) (by simp; omega)).trans (by simp [*]); have hBB : Hid (Below wr.heap.size wr w1) := Below.trans (by first | exact Hid.out (by assumption) | exact dr (Below.refl _ _)) (hbN.mono (by first | exact Nat.le_refl _ | assumption)); have hO1 := hid (own_below HO.out hBB.out); clear hbN)
                | (refine step_append_lies _ (by rfl) (.tmp 39) (.tmp 54) 23 (by rfl) w.heap.size 5 i0 _ 1 1 Tryd.underlying23 hi hz0 hz1 hz2 rfl (by decide) _ j _ (by rfl) (hO1.out.alloc _) ⟨w1.heap.size, 0, none⟩ 1 1 [.int .u8 (16 * (a1 : Int) + (a2 : Int))] (by rfl) rfl (World.news_of_block (heap_alloc_new w1 _)) (by intro u hu; simp at hu; subst hu; rfl) (by decide) (by unfold maxLen; omega) (by omega) (by first | omega | (simp; omega)) _ rfl ?_; intro g' cap2 w2 hown2 hgrow hat hlt2; have hlt6 : b < w1.heap.size := (by omega); have hlt5 : b < (w1.alloc (.cells #[.int .u8 (16 * (a1 : Int) + (a2 : Int))] 5)).heap.size := (by first | omega | (simp; omega)); have hne5 : some b ≠ u7.ownBlock := (fun e => by have := (HO.out.lt b e.symm).1; omega)))
            all_goals
              go_wp2_with fail
              go_roundw
              case rel => exact ⟨j + 1, p + 2, by omega, by have := HP1.out; omega, by have := hpj.out; show _ = _; omega, by go_num, by rw [HPR.out]; simpa using hown2, (((HB.out.trans (hBB.out.mono hbz)).alloc (Nat.le_trans hbz hz) _).grown hgrow (by simp; omega) (fun j hj => (HO.out.lt j hj).1))⟩
              case measure => simp [intOf]; omega
          · have hjm : j = m := by have := hpj.out; omega
            have hm2' : m = n / 2 := by omega
            go_wp2_with fail
            go_ret3
            exact decP_ok HBD.out (by rw [HN.out, HP.out]; decide) rfl HB.out (by rw [HN.out, ← hm2', ← hjm]; exact HO.out)
      · have hp1 : ((n : Int) % 2 != 0) = true := by simp; omega
        have HP := hid hpar
        clear hpar
        go_wp2_with fail
        go_ret3
        exact decP_odd HBD.out (by rw [HN.out, HP.out]) (by rw [HN.out] <;> rfl) HB.out
end Go.Proofs.YtkpnggnanacaaaaDoor
