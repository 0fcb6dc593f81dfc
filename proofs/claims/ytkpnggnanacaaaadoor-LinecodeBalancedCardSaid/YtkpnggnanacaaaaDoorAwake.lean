/- Linecode: the statements' own example. -/
import Derived.Test.YtkpnggnanacaaaaDoorEnc
import Derived.Test.YtkpnggnanacaaaaDoorSame
namespace Go.Proofs.YtkpnggnanacaaaaDoor
set_option linter.unusedVariables false
set_option linter.unusedSimpArgs false
open Go.RowKit
theorem rd_new (w : World) (xs : List Int) (cs : Array Value) (h : cs = (xs.map (Value.int .u8)).toArray) (n : Nat) (hn : n = xs.length) (hm : xs.length ≤ 1000) :
    Rd (w.alloc (.cells cs 5)) (.slice (some ⟨w.heap.size, 0, none⟩) n n) xs := by
  subst h hn
  refine ⟨_, _, rfl, Nat.le_refl _, by unfold maxLen; omega, fun hp => ⟨w.heap.size, 0, rfl, by simp, fun i hi => ?_⟩⟩
  rw [Nat.zero_add, cell_of_row (w.alloc _) w.heap.size i _ 5 (0, 0) (heap_alloc_new w _)]
  rw [List.getElem?_toArray, List.getElem?_map, getD_at hi]; rfl
set_option maxRecDepth 100000 in
theorem awake_c (w : World) (ht : Tab w) : Calls Tryd.prog 12 #[] w fun e w' => e = .returned (.bool true) ∧ Below w.heap.size w w' := by
  have HT := hid ht
  have h0 := ht.1
  clear ht
  go_enter Tryd.func12, Tryd.ntmps12
  go_wp2_with fail
  refine (data_c _ _ HT.out).mono ?_
  rintro e w' ⟨rfl, rfl⟩
  rw [show dataV 15 = 44 by decide +kernel, show dataE 15 = 0 by decide +kernel]
  go_wp2_with fail
  refine (ctrl_c _ _ HT.out).mono ?_
  rintro e w' ⟨rfl, rfl⟩
  rw [show ctrlV 3 = 56 by decide +kernel, show ctrlE 3 = 0 by decide +kernel]
  go_wp2_with fail
  refine (encode_c _ [31] _ (HT.out.alloc _) (rd_new w [31] _ rfl _ rfl (by decide)) (by intro x hx; simp at hx; omega) (by decide)).mono ?_
  rintro e w1 ⟨u, rfl, hO⟩
  have hz : w.heap.size + 1 ≤ w1.heap.size := by have := hO.2.size; simpa using this
  have HB := hid (show Below w.heap.size w w1 from ((Below.refl _ _).alloc (Nat.le_refl _) _).trans (hO.2.mono (by simp)))
  have HR := hid hO.rd
  clear hO
  go_wp2_with fail
  refine (same_c _ _ _ [11, 44] _ (HR.out.alloc _) (rd_new w1 [11, 44] _ rfl _ rfl (by decide))).mono ?_
  rintro e w2 ⟨rfl, hb⟩
  have HB2 := hid ((HB.out.alloc (by omega) (.cells #[.int .u8 11, .int .u8 44] 5)).trans (hb.mono (by simp; omega)))
  rw [show sameB (encB [31]) [11, 44] = true by decide +kernel]
  clear hb
  go_wp2_with fail
  go_ret
  exact ⟨rfl, HB2.out⟩
end Go.Proofs.YtkpnggnanacaaaaDoor
