/- Linecode: Decode. -/
import Derived.Test.YtkpnggnanacaaaaDoorRd
import Derived.Laws.BitsLemmas
namespace Go.Proofs.YtkpnggnanacaaaaDoor
set_option linter.unusedVariables false
set_option linter.unusedSimpArgs false
open Go.RowKit
theorem wraps_i64 (n : Int) (h₀ : 0 ≤ n) (h₁ : n < 2 ^ 60) : IntKind.i64.wrap n = n := IntWalk.i64_in n (by omega)
theorem or_join (a b : Nat) (ha : a < 16) (hb : b < 16) : bits BinOp.or IntKind.i64 (16 * (a : Int)) (b : Int) = 16 * (a : Int) + (b : Int) :=
  bits_join .i64 60 (by decide) wraps_i64 4 (16 * (a : Int)) (b : Int) (by omega) (by omega) (by omega) (by omega) (by omega) (by omega)
def DecP (w : World) (xs : List Int) (e : Ending) (w' : World) : Prop :=
  ∃ u, e = .returned (.tuple #[u, .int .i64 (decI xs), .int .i64 (decE xs)]) ∧ Owns w w' u (decV xs)
theorem decP_bad {w : World} {xs : List Int} {e : Ending} {w' : World} {k : Nat} (hk : k < xs.length) (hb : badD xs = k) (he : e = .returned (.tuple #[.slice none 0 0, .int .i64 (k : Int), .int .i64 3])) (hw : Below w.heap.size w w') : DecP w xs e w' := by
  refine ⟨.slice none 0 0, ?_, ?_⟩
  · rw [he]; unfold decI decE; rw [if_pos (by omega), if_pos (by omega), hb]
  · unfold decV; rw [if_pos (by omega)]; exact ⟨⟨rfl, .inl ⟨rfl, rfl⟩⟩, hw⟩
theorem decP_odd {w : World} {xs : List Int} {e : Ending} {w' : World} (hb : badD xs = xs.length) (ho : xs.length % 2 = 1) (he : e = .returned (.tuple #[.slice none 0 0, .int .i64 (xs.length : Int), .int .i64 4])) (hw : Below w.heap.size w w') : DecP w xs e w' := by
  refine ⟨.slice none 0 0, ?_, ?_⟩
  · rw [he]; simp only [decI, decE, if_neg (show ¬ badD xs < xs.length by omega), if_pos ho]
  · unfold decV; rw [if_neg (by omega), if_pos ho]; exact ⟨⟨rfl, .inl ⟨rfl, rfl⟩⟩, hw⟩
theorem decP_ok {w : World} {xs : List Int} {e : Ending} {w' : World} {u : Value} (hb : badD xs = xs.length) (ho : ¬ xs.length % 2 = 1) (he : e = .returned (.tuple #[u, .int .i64 (-1), .int .i64 0])) (hw : Below w.heap.size w w')
    (hu : w'.ownsRow w.heap.size 5 1 u (xs.length / 2) ((pr xs (xs.length / 2)).map (Value.int .u8))) : DecP w xs e w' := by
  refine ⟨u, ?_, ?_⟩
  · rw [he]; simp only [decI, decE, if_neg (show ¬ badD xs < xs.length by omega), if_neg ho]
  · unfold decV; rw [if_neg (by omega), if_neg ho]; exact ⟨by rw [pr_len]; exact hu, hw⟩
set_option maxHeartbeats 2000000 in
theorem decode_c (v : Value) (xs : List Int) (w : World) (ht : Tab w) (hr : Rd w v xs) (hx : Byt xs) (hl : xs.length ≤ 100000) :
    Calls Tryd.prog 21 #[v] w (DecP w xs) := by
  obtain ⟨i0, hi, hz0, hz1, hz2⟩ := info_parts info5
  obtain ⟨A, cap, rfl, hcap, hmax, hc⟩ := hr
  have HC := hid hc
  have HX := hid hx
  have HT := hid ht
  have HL := hid (badD_le xs)
  unfold maxLen at hmax
  generalize hn : xs.length = n at *
  have HN := hid hn
  clear hc hx hn ht
  go_enter Tryd.func21, Tryd.ntmps21
  go_wp2_with (refine wpList_make_own _ rfl _ _ 23 rfl w.heap.size 5 i0 _ 1 Tryd.underlying23 hi hz0 hz1 .i64 .i64 _ (n / 2) rfl rfl (by omega) (by rw [hz2]; omega) (by unfold maxLen; omega) (Nat.le_refl _) ?_; intro w1 hown1 hg1)
  have HO1 := hid hown1
  have HB1 := hid (show Below w.heap.size w w1 from (Below.refl _ _).grown hg1 (Nat.le_refl _) (fun k hk => by cases hk))
  clear hown1 hg1
  go_loopw [5, 6, 18] (fun v5 v6 v18 wr => ∃ k a : Nat, k ≤ n ∧ k ≤ badD xs ∧ a < 16 ∧ v18 = .int .i64 k ∧ v6 = .int .i64 a ∧ Hid (k % 2 = 1 → a = idx (xs.getD (2 * (k / 2)) 0)) ∧ wr.ownsRow w.heap.size 5 1 v5 (k / 2) ((pr xs (k / 2)).map (Value.int .u8)) ∧ Below w.heap.size w wr) (fun _ _ v18 _ => n - (intOf v18).toNat)
  case atStart => exact ⟨0, 0, by omega, by omega, by omega, rfl, rfl, fun h => by omega, HO1.out, HB1.out⟩
  case round =>
    obtain ⟨k, a, hk, hkb, ha, rfl, rfl, hup, hown, hb⟩ := hrel
    clear HO1 HB1
    have HO := hid hown
    have HB := hid hb
    clear hown hb
    by_cases hlt : k < n
    · obtain ⟨b, off, rfl, hbl, hcell⟩ := HC.out (by omega)
      have c0 := (HB.out.cell (p := ⟨b, off + k, none⟩) hbl).trans (hcell k hlt)
      have hxk := HX.out.at_ k
      have HT2 := hid (HT.out.below HB.out)
      have hbz := HB.out.size
      have hix := idx_le (xs.getD k 0)
      have HG := hid (fun h => badD_lt hkb (by rw [HN.out]; exact hlt) h)
      have HGB := hid (fun h => badD_eq hkb (by rw [HN.out]; exact hlt) h)
      obtain ⟨ix, hixe⟩ : ∃ i, idx (xs.getD k 0) = i := ⟨_, rfl⟩
      have HI := hid hixe
      have E1 := hid (show ix < 16 → valV (xs.getD k 0) = ix ∧ valC (xs.getD k 0) = false ∧ valE (xs.getD k 0) = 0 from fun h => ⟨by unfold valV; rw [hixe, if_pos h], by unfold valC; rw [hixe]; simp; omega, by unfold valE; rw [hixe, if_pos (by omega)]⟩)
      have E2 := hid (show 16 ≤ ix → ix < 20 → valC (xs.getD k 0) = true ∧ valE (xs.getD k 0) = 0 from fun h h2 => ⟨by unfold valC; rw [hixe]; simp; omega, by unfold valE; rw [hixe, if_pos (by omega)]⟩)
      have E3 := hid (show ¬ ix < 20 → valC (xs.getD k 0) = false ∧ valE (xs.getD k 0) = 3 from fun h => ⟨by unfold valC; rw [hixe]; simp; omega, by unfold valE; rw [hixe, if_neg (by omega)]⟩)
      rw [hixe] at hix HG HGB
      have HXK : Hid (∃ q, q = xs.getD k 0) := ⟨_, rfl⟩
      clear hcell hixe
      generalize hxx : xs.getD k 0 = x at *
      have HXX := hid hxx
      clear hxx
      by_cases h16 : ix < 16
      · have hk2 := HG.out h16
        obtain ⟨e1, e2, e3⟩ := E1.out h16
        have E1 := hid e1
        have E2 := hid e2
        have E3 := hid e3
        clear e1 e2 e3
        rcases Nat.mod_two_eq_zero_or_one k with hpar | hpar
        · have hp1 : ((k : Int) % 2 == 0) = true := by simp; omega
          have HP := hid hpar
          clear hpar
          go_wp2_with fail
          refine (value_c _ _ HT2.out (by omega) (by omega)).mono ?_
          rintro e w' ⟨rfl, rfl⟩
          rw [E1.out, E2.out, E3.out]
          go_wp2_with fail
          go_roundw
          case rel => exact ⟨k + 1, ix, by omega, by omega, h16, by go_num, rfl, (fun _ => by have := HP.out; rw [show 2 * ((k + 1) / 2) = k by omega, HXX.out, HI.out]), by rw [show (k + 1) / 2 = k / 2 by have := HP.out; omega]; exact HO.out, HB.out⟩
          case measure => simp [intOf]; omega
        · have hp1 : ((k : Int) % 2 == 0) = false := by simp; omega
          have HP := hid hpar
          have HU := hid (hup.out hpar)
          have hor := or_join a ix ha h16
          have hor2 : bits BinOp.or IntKind.i64 ((a : Int) * 16) (ix : Int) = 16 * (a : Int) + (ix : Int) := by rw [Int.mul_comm]; exact hor
          have HPR := hid (show pr xs ((k + 1) / 2) = pr xs (k / 2) ++ [16 * (a : Int) + (ix : Int)] by
            rw [show (k + 1) / 2 = k / 2 + 1 by omega, pr, ← HU.out, show 2 * (k / 2) + 1 = k by omega, HXX.out, HI.out])
          clear hpar hup
          go_wp2_with fail
          refine (value_c _ _ HT2.out (by omega) (by omega)).mono ?_
          rintro e w' ⟨rfl, rfl⟩
          rw [E1.out, E2.out, E3.out]
          go_wp2_with (at_builtin; refine wpList_append_own _ rfl _ _ 23 rfl w.heap.size 5 i0 (.int .u8 0) 1 1 Tryd.underlying23 hi hz0 hz1 hz2 rfl (by decide) _ _ _ rfl (HO.out.alloc _) ⟨wr.heap.size, 0, none⟩ 1 1 [.int .u8 (16 * (a : Int) + (ix : Int))] rfl rfl (cell_one_new _ _ _) (fun x hx => by simp at hx; subst hx; rfl) (by unfold maxLen; omega) (by omega) (by simp; omega) ?_; intro v' w1 hown1 hgrow1 _)
          go_roundw
          case rel => exact ⟨k + 1, a, by omega, by omega, ha, by go_num, rfl, (fun h => by have := HP.out; omega), by rw [HPR.out, show (k + 1) / 2 = k / 2 + 1 by have := HP.out; omega]; simpa using hown1, (HB.out.alloc hbz _).grown hgrow1 (by simp; omega) (fun j hj => (HO.out.lt j hj).1)⟩
          case measure => simp [intOf]; omega
      · have hbad := HGB.out (by omega)
        have HBD := hid hbad
        clear hbad
        by_cases h20 : ix < 20
        · obtain ⟨e2, e3⟩ := E2.out (by omega) h20
          have E2 := hid e2
          have E3 := hid e3
          clear e2 e3
          generalize valV x = vv at *
          go_wp2_with fail
          refine (value_c _ _ HT2.out (by omega) (by omega)).mono ?_
          rintro e w' ⟨rfl, rfl⟩
          rw [E2.out, E3.out]
          generalize valV x = vv at *
          go_wp2_with fail
          go_ret3
          exact decP_bad (by rw [HN.out]; exact hlt) HBD.out rfl HB.out
        · obtain ⟨e2, e3⟩ := E3.out h20
          have E2 := hid e2
          have E3 := hid e3
          clear e2 e3
          go_wp2_with fail
          refine (value_c _ _ HT2.out (by omega) (by omega)).mono ?_
          rintro e w' ⟨rfl, rfl⟩
          rw [E2.out, E3.out]
          generalize valV x = vv at *
          go_wp2_with fail
          go_ret3
          exact decP_bad (by rw [HN.out]; exact hlt) HBD.out rfl HB.out
    · have hk' : k = n := by omega
      have HK := hid hk'
      have HBD := hid (show badD xs = xs.length by rw [HN.out]; have := HL.out; omega)
      clear hk'
      rcases Nat.mod_two_eq_zero_or_one n with hpar | hpar
      · have hp1 : ((n : Int) % 2 != 0) = false := by simp; omega
        have HP := hid hpar
        clear hpar
        go_wp2_with fail
        go_ret3
        exact decP_ok HBD.out (by rw [HN.out, HP.out]; decide) rfl HB.out (by rw [HN.out, ← HK.out]; exact HO.out)
      · have hp1 : ((n : Int) % 2 != 0) = true := by simp; omega
        have HP := hid hpar
        clear hpar
        go_wp2_with fail
        go_ret3
        exact decP_odd HBD.out (by rw [HN.out, HP.out]) (by rw [HN.out] <;> rfl) HB.out
end Go.Proofs.YtkpnggnanacaaaaDoor
