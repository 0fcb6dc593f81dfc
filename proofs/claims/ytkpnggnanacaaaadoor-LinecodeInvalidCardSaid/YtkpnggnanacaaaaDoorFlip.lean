/- Linecode: Flip. -/
import Derived.Test.YtkpnggnanacaaaaDoorRd
import Derived.Laws.BitsLemmas
import Derived.Laws.BitsAllLaws
namespace Go.Proofs.YtkpnggnanacaaaaDoor
set_option linter.unusedVariables false
set_option linter.unusedSimpArgs false
open Go.RowKit
theorem xor_nat : ∀ x : Fin 256, ∀ j : Fin 6, (((x.val ^^^ 2 ^ j.val : Nat) : Int)) = flipI x.val j.val := by decide +kernel
theorem xor_flip (x : Int) (j : Nat) (h0 : 0 ≤ x) (h1 : x ≤ 255) (hj : j < 6) : bits BinOp.xor IntKind.u8 x (2 ^ j) = flipI x j := by
  obtain ⟨n, rfl⟩ := Int.eq_ofNat_of_zero_le h0
  have := xor_nat ⟨n, by omega⟩ ⟨j, hj⟩
  rw [show ((2 : Int) ^ j) = ((2 ^ j : Nat) : Int) by simp]
  have hb : 2 ^ j < 256 := by
    have : 2 ^ j ≤ 2 ^ 5 := Nat.pow_le_pow_right (by decide) (by omega)
    omega
  rw [u8_xor_nat n (2 ^ j) (by omega) hb]
  exact this
theorem flipI_u8 : ∀ x : Fin 256, ∀ j : Fin 6, 0 ≤ flipI x.val j.val ∧ flipI x.val j.val ≤ 255 := by decide +kernel
theorem flipI_byt (x : Int) (j : Nat) (h0 : 0 ≤ x) (h1 : x ≤ 255) (hj : j < 6) : 0 ≤ flipI x j ∧ flipI x j ≤ 255 := by
  obtain ⟨n, rfl⟩ := Int.eq_ofNat_of_zero_le h0
  exact flipI_u8 ⟨n, by omega⟩ ⟨j, hj⟩
theorem flipB_byt {xs : List Int} (h : Byt xs) (n : Nat) : Byt (flipB xs n) := by
  intro x hx
  rcases List.mem_or_eq_of_mem_set hx with hx | rfl
  · exact h x hx
  · have := h.at_ (n / 6)
    exact flipI_byt _ _ this.1 this.2 (by omega)
set_option maxHeartbeats 1000000 in
theorem flip_no (v : Value) (xs : List Int) (m : Int) (w : World) (hr : Rd w v xs) (hl : xs.length ≤ 100000) (hm : m < 0 ∨ 6 * (xs.length : Int) ≤ m) :
    Calls Tryd.prog 19 #[v, .int .i64 m] w fun e w' => e = .returned (.tuple #[.slice none 0 0, .int .i64 2]) ∧ w = w' := by
  obtain ⟨A, cap, rfl, hcap, hmax, hc⟩ := hr
  unfold maxLen at hmax
  generalize xs.length = n at *
  clear hc
  by_cases h0 : m < 0
  · go_enter Tryd.func19, Tryd.ntmps19
    go_wp2_with fail
    go_ret2
    exact ⟨rfl, rfl⟩
  · have h1 : 6 * (n : Int) ≤ m := by omega
    clear hm
    go_enter Tryd.func19, Tryd.ntmps19
    go_wp2_with fail
    go_ret2
    exact ⟨rfl, rfl⟩
def FlipP (w : World) (xs : List Int) (e : Ending) (w' : World) : Prop := ∃ u, e = .returned (.tuple #[u, .int .i64 0]) ∧ Owns w w' u xs
set_option maxHeartbeats 1000000 in
theorem flip_0 (v : Value) (xs : List Int) (n q : Nat) (w : World) (hr : Rd w v xs) (hx : Byt xs) (hl : xs.length ≤ 100000) (hm : n < 6 * xs.length) (hq : n = 6 * q + 0) :
    Calls Tryd.prog 19 #[v, .int .i64 (n : Int)] w (FlipP w (flipB xs n)) := by
  obtain ⟨i0, hi, hz0, hz1, hz2⟩ := info_parts info5
  obtain ⟨A, cap, rfl, hcap, hmax, hc⟩ := hr
  obtain ⟨b, off, rfl, hbl, hcell⟩ := hc (by omega)
  unfold maxLen at hmax
  have hn6 : (n : Int) % 6 = 0 := by omega
  have hnd : (n : Int) / 6 = q := by omega
  have hnt : IntKind.i64.wrap ((n : Int).tdiv 6) = q := by rw [Int.tdiv_eq_ediv_of_nonneg (by omega), IntWalk.i64_in _ (by omega)]; omega
  have hnm : (n : Int).tmod 6 = 0 := by rw [Int.tmod_eq_emod_of_nonneg (by omega)]; omega
  have hqm : q < xs.length := by omega
  have hxq := hx.at_ q
  have hxor := xor_flip (xs.getD q 0) 5 hxq.1 hxq.2 (by omega)
  have hfl : flipB xs n = xs.set q (flipI (xs.getD q 0) 5) := by
    unfold flipB; rw [show n / 6 = q by omega, show 5 - n % 6 = 5 by omega]
  rw [show (2 : Int) ^ 5 = 32 from rfl] at hxor
  have HF := hid hfl
  have HCE := hid hcell
  clear hfl hcell hc hq
  generalize hxl : xs.length = m at *
  have HXL := hid hxl
  generalize hxx : xs.getD q 0 = x at *
  have HXX := hid hxx
  clear hxx
  generalize flipI x 5 = y at *
  clear hxl
  go_enter Tryd.func19, Tryd.ntmps19
  go_wp2_with (at_builtin; refine wpList_append_lies _ rfl _ _ 23 rfl w.heap.size 5 i0 (.int .u8 0) 1 1 Tryd.underlying23 hi hz0 hz1 hz2 rfl (by decide) (.slice none 0 0) 0 [] rfl ⟨rfl, .inl ⟨rfl, rfl⟩⟩ ⟨b, off, none⟩ m cap (xs.map (.int .u8)) rfl (by rw [List.length_map, HXL.out]; omega) (news_at (fun i hi => HCE.out i (by rw [← HXL.out]; exact hi))) (one_map xs) (by omega) (by unfold maxLen; omega) (by omega) (Nat.le_refl _) w.heap.size rfl ?_; intro g cap2 w1 hown1 hgrow1 hat hlt)
  have hg : g = w.heap.size := by rcases hat with h | h; cases h; exact h
  have hown2 : w1.ownsRow w.heap.size 5 1 (.slice (some ⟨g, 0, none⟩) m cap2) m (xs.map (.int .u8)) := by simpa using hown1
  have hcg : w1.cell? ⟨g, q, none⟩ = some (.int .u8 x) := by
    refine (World.ownsRow.cellAt hown2 q (by omega)).trans ?_
    rw [List.getElem?_map, getD_at (by rw [HXL.out]; exact hqm), HXX.out]; rfl
  have hfz := World.ownsRow.frozenAt hown2 q
  have H2 := hid hown2
  have HG := hid hgrow1
  have HGE := hid hg
  clear hown1 hown2 hgrow1 hat hg
  go_region
  go_wp2_with fail
  go_ret2
  have hst := World.ownsRow.stored H2.out q (.int .u8 y)
  refine ⟨_, rfl, ?_, ?_⟩
  · rw [HF.out, List.length_set, HXL.out, List.map_set]
    exact hst.1
  · exact dr (((Below.refl _ _).grown HG.out (Nat.le_refl _) (fun k hk => by cases hk)).setCell (a := w) (p := ⟨g, q, none⟩) (by show w.heap.size ≤ g; rw [HGE.out]; exact Nat.le_refl _) _)
set_option maxHeartbeats 1000000 in
theorem flip_1 (v : Value) (xs : List Int) (n q : Nat) (w : World) (hr : Rd w v xs) (hx : Byt xs) (hl : xs.length ≤ 100000) (hm : n < 6 * xs.length) (hq : n = 6 * q + 1) :
    Calls Tryd.prog 19 #[v, .int .i64 (n : Int)] w (FlipP w (flipB xs n)) := by
  obtain ⟨i0, hi, hz0, hz1, hz2⟩ := info_parts info5
  obtain ⟨A, cap, rfl, hcap, hmax, hc⟩ := hr
  obtain ⟨b, off, rfl, hbl, hcell⟩ := hc (by omega)
  unfold maxLen at hmax
  have hn6 : (n : Int) % 6 = 1 := by omega
  have hnd : (n : Int) / 6 = q := by omega
  have hnt : IntKind.i64.wrap ((n : Int).tdiv 6) = q := by rw [Int.tdiv_eq_ediv_of_nonneg (by omega), IntWalk.i64_in _ (by omega)]; omega
  have hnm : (n : Int).tmod 6 = 1 := by rw [Int.tmod_eq_emod_of_nonneg (by omega)]; omega
  have hqm : q < xs.length := by omega
  have hxq := hx.at_ q
  have hxor := xor_flip (xs.getD q 0) 4 hxq.1 hxq.2 (by omega)
  have hfl : flipB xs n = xs.set q (flipI (xs.getD q 0) 4) := by
    unfold flipB; rw [show n / 6 = q by omega, show 5 - n % 6 = 4 by omega]
  rw [show (2 : Int) ^ 4 = 16 from rfl] at hxor
  have HF := hid hfl
  have HCE := hid hcell
  clear hfl hcell hc hq
  generalize hxl : xs.length = m at *
  have HXL := hid hxl
  generalize hxx : xs.getD q 0 = x at *
  have HXX := hid hxx
  clear hxx
  generalize flipI x 4 = y at *
  clear hxl
  go_enter Tryd.func19, Tryd.ntmps19
  go_wp2_with (at_builtin; refine wpList_append_lies _ rfl _ _ 23 rfl w.heap.size 5 i0 (.int .u8 0) 1 1 Tryd.underlying23 hi hz0 hz1 hz2 rfl (by decide) (.slice none 0 0) 0 [] rfl ⟨rfl, .inl ⟨rfl, rfl⟩⟩ ⟨b, off, none⟩ m cap (xs.map (.int .u8)) rfl (by rw [List.length_map, HXL.out]; omega) (news_at (fun i hi => HCE.out i (by rw [← HXL.out]; exact hi))) (one_map xs) (by omega) (by unfold maxLen; omega) (by omega) (Nat.le_refl _) w.heap.size rfl ?_; intro g cap2 w1 hown1 hgrow1 hat hlt)
  have hg : g = w.heap.size := by rcases hat with h | h; cases h; exact h
  have hown2 : w1.ownsRow w.heap.size 5 1 (.slice (some ⟨g, 0, none⟩) m cap2) m (xs.map (.int .u8)) := by simpa using hown1
  have hcg : w1.cell? ⟨g, q, none⟩ = some (.int .u8 x) := by
    refine (World.ownsRow.cellAt hown2 q (by omega)).trans ?_
    rw [List.getElem?_map, getD_at (by rw [HXL.out]; exact hqm), HXX.out]; rfl
  have hfz := World.ownsRow.frozenAt hown2 q
  have H2 := hid hown2
  have HG := hid hgrow1
  have HGE := hid hg
  clear hown1 hown2 hgrow1 hat hg
  go_region
  go_wp2_with fail
  go_ret2
  have hst := World.ownsRow.stored H2.out q (.int .u8 y)
  refine ⟨_, rfl, ?_, ?_⟩
  · rw [HF.out, List.length_set, HXL.out, List.map_set]
    exact hst.1
  · exact dr (((Below.refl _ _).grown HG.out (Nat.le_refl _) (fun k hk => by cases hk)).setCell (a := w) (p := ⟨g, q, none⟩) (by show w.heap.size ≤ g; rw [HGE.out]; exact Nat.le_refl _) _)
set_option maxHeartbeats 1000000 in
theorem flip_2 (v : Value) (xs : List Int) (n q : Nat) (w : World) (hr : Rd w v xs) (hx : Byt xs) (hl : xs.length ≤ 100000) (hm : n < 6 * xs.length) (hq : n = 6 * q + 2) :
    Calls Tryd.prog 19 #[v, .int .i64 (n : Int)] w (FlipP w (flipB xs n)) := by
  obtain ⟨i0, hi, hz0, hz1, hz2⟩ := info_parts info5
  obtain ⟨A, cap, rfl, hcap, hmax, hc⟩ := hr
  obtain ⟨b, off, rfl, hbl, hcell⟩ := hc (by omega)
  unfold maxLen at hmax
  have hn6 : (n : Int) % 6 = 2 := by omega
  have hnd : (n : Int) / 6 = q := by omega
  have hnt : IntKind.i64.wrap ((n : Int).tdiv 6) = q := by rw [Int.tdiv_eq_ediv_of_nonneg (by omega), IntWalk.i64_in _ (by omega)]; omega
  have hnm : (n : Int).tmod 6 = 2 := by rw [Int.tmod_eq_emod_of_nonneg (by omega)]; omega
  have hqm : q < xs.length := by omega
  have hxq := hx.at_ q
  have hxor := xor_flip (xs.getD q 0) 3 hxq.1 hxq.2 (by omega)
  have hfl : flipB xs n = xs.set q (flipI (xs.getD q 0) 3) := by
    unfold flipB; rw [show n / 6 = q by omega, show 5 - n % 6 = 3 by omega]
  rw [show (2 : Int) ^ 3 = 8 from rfl] at hxor
  have HF := hid hfl
  have HCE := hid hcell
  clear hfl hcell hc hq
  generalize hxl : xs.length = m at *
  have HXL := hid hxl
  generalize hxx : xs.getD q 0 = x at *
  have HXX := hid hxx
  clear hxx
  generalize flipI x 3 = y at *
  clear hxl
  go_enter Tryd.func19, Tryd.ntmps19
  go_wp2_with (at_builtin; refine wpList_append_lies _ rfl _ _ 23 rfl w.heap.size 5 i0 (.int .u8 0) 1 1 Tryd.underlying23 hi hz0 hz1 hz2 rfl (by decide) (.slice none 0 0) 0 [] rfl ⟨rfl, .inl ⟨rfl, rfl⟩⟩ ⟨b, off, none⟩ m cap (xs.map (.int .u8)) rfl (by rw [List.length_map, HXL.out]; omega) (news_at (fun i hi => HCE.out i (by rw [← HXL.out]; exact hi))) (one_map xs) (by omega) (by unfold maxLen; omega) (by omega) (Nat.le_refl _) w.heap.size rfl ?_; intro g cap2 w1 hown1 hgrow1 hat hlt)
  have hg : g = w.heap.size := by rcases hat with h | h; cases h; exact h
  have hown2 : w1.ownsRow w.heap.size 5 1 (.slice (some ⟨g, 0, none⟩) m cap2) m (xs.map (.int .u8)) := by simpa using hown1
  have hcg : w1.cell? ⟨g, q, none⟩ = some (.int .u8 x) := by
    refine (World.ownsRow.cellAt hown2 q (by omega)).trans ?_
    rw [List.getElem?_map, getD_at (by rw [HXL.out]; exact hqm), HXX.out]; rfl
  have hfz := World.ownsRow.frozenAt hown2 q
  have H2 := hid hown2
  have HG := hid hgrow1
  have HGE := hid hg
  clear hown1 hown2 hgrow1 hat hg
  go_region
  go_wp2_with fail
  go_ret2
  have hst := World.ownsRow.stored H2.out q (.int .u8 y)
  refine ⟨_, rfl, ?_, ?_⟩
  · rw [HF.out, List.length_set, HXL.out, List.map_set]
    exact hst.1
  · exact dr (((Below.refl _ _).grown HG.out (Nat.le_refl _) (fun k hk => by cases hk)).setCell (a := w) (p := ⟨g, q, none⟩) (by show w.heap.size ≤ g; rw [HGE.out]; exact Nat.le_refl _) _)
set_option maxHeartbeats 1000000 in
theorem flip_3 (v : Value) (xs : List Int) (n q : Nat) (w : World) (hr : Rd w v xs) (hx : Byt xs) (hl : xs.length ≤ 100000) (hm : n < 6 * xs.length) (hq : n = 6 * q + 3) :
    Calls Tryd.prog 19 #[v, .int .i64 (n : Int)] w (FlipP w (flipB xs n)) := by
  obtain ⟨i0, hi, hz0, hz1, hz2⟩ := info_parts info5
  obtain ⟨A, cap, rfl, hcap, hmax, hc⟩ := hr
  obtain ⟨b, off, rfl, hbl, hcell⟩ := hc (by omega)
  unfold maxLen at hmax
  have hn6 : (n : Int) % 6 = 3 := by omega
  have hnd : (n : Int) / 6 = q := by omega
  have hnt : IntKind.i64.wrap ((n : Int).tdiv 6) = q := by rw [Int.tdiv_eq_ediv_of_nonneg (by omega), IntWalk.i64_in _ (by omega)]; omega
  have hnm : (n : Int).tmod 6 = 3 := by rw [Int.tmod_eq_emod_of_nonneg (by omega)]; omega
  have hqm : q < xs.length := by omega
  have hxq := hx.at_ q
  have hxor := xor_flip (xs.getD q 0) 2 hxq.1 hxq.2 (by omega)
  have hfl : flipB xs n = xs.set q (flipI (xs.getD q 0) 2) := by
    unfold flipB; rw [show n / 6 = q by omega, show 5 - n % 6 = 2 by omega]
  rw [show (2 : Int) ^ 2 = 4 from rfl] at hxor
  have HF := hid hfl
  have HCE := hid hcell
  clear hfl hcell hc hq
  generalize hxl : xs.length = m at *
  have HXL := hid hxl
  generalize hxx : xs.getD q 0 = x at *
  have HXX := hid hxx
  clear hxx
  generalize flipI x 2 = y at *
  clear hxl
  go_enter Tryd.func19, Tryd.ntmps19
  go_wp2_with (at_builtin; refine wpList_append_lies _ rfl _ _ 23 rfl w.heap.size 5 i0 (.int .u8 0) 1 1 Tryd.underlying23 hi hz0 hz1 hz2 rfl (by decide) (.slice none 0 0) 0 [] rfl ⟨rfl, .inl ⟨rfl, rfl⟩⟩ ⟨b, off, none⟩ m cap (xs.map (.int .u8)) rfl (by rw [List.length_map, HXL.out]; omega) (news_at (fun i hi => HCE.out i (by rw [← HXL.out]; exact hi))) (one_map xs) (by omega) (by unfold maxLen; omega) (by omega) (Nat.le_refl _) w.heap.size rfl ?_; intro g cap2 w1 hown1 hgrow1 hat hlt)
  have hg : g = w.heap.size := by rcases hat with h | h; cases h; exact h
  have hown2 : w1.ownsRow w.heap.size 5 1 (.slice (some ⟨g, 0, none⟩) m cap2) m (xs.map (.int .u8)) := by simpa using hown1
  have hcg : w1.cell? ⟨g, q, none⟩ = some (.int .u8 x) := by
    refine (World.ownsRow.cellAt hown2 q (by omega)).trans ?_
    rw [List.getElem?_map, getD_at (by rw [HXL.out]; exact hqm), HXX.out]; rfl
  have hfz := World.ownsRow.frozenAt hown2 q
  have H2 := hid hown2
  have HG := hid hgrow1
  have HGE := hid hg
  clear hown1 hown2 hgrow1 hat hg
  go_region
  go_wp2_with fail
  go_ret2
  have hst := World.ownsRow.stored H2.out q (.int .u8 y)
  refine ⟨_, rfl, ?_, ?_⟩
  · rw [HF.out, List.length_set, HXL.out, List.map_set]
    exact hst.1
  · exact dr (((Below.refl _ _).grown HG.out (Nat.le_refl _) (fun k hk => by cases hk)).setCell (a := w) (p := ⟨g, q, none⟩) (by show w.heap.size ≤ g; rw [HGE.out]; exact Nat.le_refl _) _)
set_option maxHeartbeats 1000000 in
theorem flip_4 (v : Value) (xs : List Int) (n q : Nat) (w : World) (hr : Rd w v xs) (hx : Byt xs) (hl : xs.length ≤ 100000) (hm : n < 6 * xs.length) (hq : n = 6 * q + 4) :
    Calls Tryd.prog 19 #[v, .int .i64 (n : Int)] w (FlipP w (flipB xs n)) := by
  obtain ⟨i0, hi, hz0, hz1, hz2⟩ := info_parts info5
  obtain ⟨A, cap, rfl, hcap, hmax, hc⟩ := hr
  obtain ⟨b, off, rfl, hbl, hcell⟩ := hc (by omega)
  unfold maxLen at hmax
  have hn6 : (n : Int) % 6 = 4 := by omega
  have hnd : (n : Int) / 6 = q := by omega
  have hnt : IntKind.i64.wrap ((n : Int).tdiv 6) = q := by rw [Int.tdiv_eq_ediv_of_nonneg (by omega), IntWalk.i64_in _ (by omega)]; omega
  have hnm : (n : Int).tmod 6 = 4 := by rw [Int.tmod_eq_emod_of_nonneg (by omega)]; omega
  have hqm : q < xs.length := by omega
  have hxq := hx.at_ q
  have hxor := xor_flip (xs.getD q 0) 1 hxq.1 hxq.2 (by omega)
  have hfl : flipB xs n = xs.set q (flipI (xs.getD q 0) 1) := by
    unfold flipB; rw [show n / 6 = q by omega, show 5 - n % 6 = 1 by omega]
  rw [show (2 : Int) ^ 1 = 2 from rfl] at hxor
  have HF := hid hfl
  have HCE := hid hcell
  clear hfl hcell hc hq
  generalize hxl : xs.length = m at *
  have HXL := hid hxl
  generalize hxx : xs.getD q 0 = x at *
  have HXX := hid hxx
  clear hxx
  generalize flipI x 1 = y at *
  clear hxl
  go_enter Tryd.func19, Tryd.ntmps19
  go_wp2_with (at_builtin; refine wpList_append_lies _ rfl _ _ 23 rfl w.heap.size 5 i0 (.int .u8 0) 1 1 Tryd.underlying23 hi hz0 hz1 hz2 rfl (by decide) (.slice none 0 0) 0 [] rfl ⟨rfl, .inl ⟨rfl, rfl⟩⟩ ⟨b, off, none⟩ m cap (xs.map (.int .u8)) rfl (by rw [List.length_map, HXL.out]; omega) (news_at (fun i hi => HCE.out i (by rw [← HXL.out]; exact hi))) (one_map xs) (by omega) (by unfold maxLen; omega) (by omega) (Nat.le_refl _) w.heap.size rfl ?_; intro g cap2 w1 hown1 hgrow1 hat hlt)
  have hg : g = w.heap.size := by rcases hat with h | h; cases h; exact h
  have hown2 : w1.ownsRow w.heap.size 5 1 (.slice (some ⟨g, 0, none⟩) m cap2) m (xs.map (.int .u8)) := by simpa using hown1
  have hcg : w1.cell? ⟨g, q, none⟩ = some (.int .u8 x) := by
    refine (World.ownsRow.cellAt hown2 q (by omega)).trans ?_
    rw [List.getElem?_map, getD_at (by rw [HXL.out]; exact hqm), HXX.out]; rfl
  have hfz := World.ownsRow.frozenAt hown2 q
  have H2 := hid hown2
  have HG := hid hgrow1
  have HGE := hid hg
  clear hown1 hown2 hgrow1 hat hg
  go_region
  go_wp2_with fail
  go_ret2
  have hst := World.ownsRow.stored H2.out q (.int .u8 y)
  refine ⟨_, rfl, ?_, ?_⟩
  · rw [HF.out, List.length_set, HXL.out, List.map_set]
    exact hst.1
  · exact dr (((Below.refl _ _).grown HG.out (Nat.le_refl _) (fun k hk => by cases hk)).setCell (a := w) (p := ⟨g, q, none⟩) (by show w.heap.size ≤ g; rw [HGE.out]; exact Nat.le_refl _) _)
set_option maxHeartbeats 1000000 in
theorem flip_5 (v : Value) (xs : List Int) (n q : Nat) (w : World) (hr : Rd w v xs) (hx : Byt xs) (hl : xs.length ≤ 100000) (hm : n < 6 * xs.length) (hq : n = 6 * q + 5) :
    Calls Tryd.prog 19 #[v, .int .i64 (n : Int)] w (FlipP w (flipB xs n)) := by
  obtain ⟨i0, hi, hz0, hz1, hz2⟩ := info_parts info5
  obtain ⟨A, cap, rfl, hcap, hmax, hc⟩ := hr
  obtain ⟨b, off, rfl, hbl, hcell⟩ := hc (by omega)
  unfold maxLen at hmax
  have hn6 : (n : Int) % 6 = 5 := by omega
  have hnd : (n : Int) / 6 = q := by omega
  have hnt : IntKind.i64.wrap ((n : Int).tdiv 6) = q := by rw [Int.tdiv_eq_ediv_of_nonneg (by omega), IntWalk.i64_in _ (by omega)]; omega
  have hnm : (n : Int).tmod 6 = 5 := by rw [Int.tmod_eq_emod_of_nonneg (by omega)]; omega
  have hqm : q < xs.length := by omega
  have hxq := hx.at_ q
  have hxor := xor_flip (xs.getD q 0) 0 hxq.1 hxq.2 (by omega)
  have hfl : flipB xs n = xs.set q (flipI (xs.getD q 0) 0) := by
    unfold flipB; rw [show n / 6 = q by omega, show 5 - n % 6 = 0 by omega]
  rw [show (2 : Int) ^ 0 = 1 from rfl] at hxor
  have HF := hid hfl
  have HCE := hid hcell
  clear hfl hcell hc hq
  generalize hxl : xs.length = m at *
  have HXL := hid hxl
  generalize hxx : xs.getD q 0 = x at *
  have HXX := hid hxx
  clear hxx
  generalize flipI x 0 = y at *
  clear hxl
  go_enter Tryd.func19, Tryd.ntmps19
  go_wp2_with (at_builtin; refine wpList_append_lies _ rfl _ _ 23 rfl w.heap.size 5 i0 (.int .u8 0) 1 1 Tryd.underlying23 hi hz0 hz1 hz2 rfl (by decide) (.slice none 0 0) 0 [] rfl ⟨rfl, .inl ⟨rfl, rfl⟩⟩ ⟨b, off, none⟩ m cap (xs.map (.int .u8)) rfl (by rw [List.length_map, HXL.out]; omega) (news_at (fun i hi => HCE.out i (by rw [← HXL.out]; exact hi))) (one_map xs) (by omega) (by unfold maxLen; omega) (by omega) (Nat.le_refl _) w.heap.size rfl ?_; intro g cap2 w1 hown1 hgrow1 hat hlt)
  have hg : g = w.heap.size := by rcases hat with h | h; cases h; exact h
  have hown2 : w1.ownsRow w.heap.size 5 1 (.slice (some ⟨g, 0, none⟩) m cap2) m (xs.map (.int .u8)) := by simpa using hown1
  have hcg : w1.cell? ⟨g, q, none⟩ = some (.int .u8 x) := by
    refine (World.ownsRow.cellAt hown2 q (by omega)).trans ?_
    rw [List.getElem?_map, getD_at (by rw [HXL.out]; exact hqm), HXX.out]; rfl
  have hfz := World.ownsRow.frozenAt hown2 q
  have H2 := hid hown2
  have HG := hid hgrow1
  have HGE := hid hg
  clear hown1 hown2 hgrow1 hat hg
  go_region
  go_wp2_with fail
  go_ret2
  have hst := World.ownsRow.stored H2.out q (.int .u8 y)
  refine ⟨_, rfl, ?_, ?_⟩
  · rw [HF.out, List.length_set, HXL.out, List.map_set]
    exact hst.1
  · exact dr (((Below.refl _ _).grown HG.out (Nat.le_refl _) (fun k hk => by cases hk)).setCell (a := w) (p := ⟨g, q, none⟩) (by show w.heap.size ≤ g; rw [HGE.out]; exact Nat.le_refl _) _)
/-- Flip, at every bit that is there. -/
theorem flip_c (v : Value) (xs : List Int) (n : Nat) (w : World) (hr : Rd w v xs) (hx : Byt xs) (hl : xs.length ≤ 100000) (hm : n < 6 * xs.length) :
    Calls Tryd.prog 19 #[v, .int .i64 (n : Int)] w (FlipP w (flipB xs n)) := by
  rcases (by omega : n = 6 * (n / 6) + 0 ∨ n = 6 * (n / 6) + 1 ∨ n = 6 * (n / 6) + 2 ∨ n = 6 * (n / 6) + 3 ∨ n = 6 * (n / 6) + 4 ∨ n = 6 * (n / 6) + 5) with h | h | h | h | h | h
  · exact flip_0 v xs n _ w hr hx hl hm h
  · exact flip_1 v xs n _ w hr hx hl hm h
  · exact flip_2 v xs n _ w hr hx hl hm h
  · exact flip_3 v xs n _ w hr hx hl hm h
  · exact flip_4 v xs n _ w hr hx hl hm h
  · exact flip_5 v xs n _ w hr hx hl hm h
end Go.Proofs.YtkpnggnanacaaaaDoor
