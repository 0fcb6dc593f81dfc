import Derived.Test.YtnmgnggchgckoaaRefB
namespace Go.Proofs.Ytnmgnggchgckoaa
set_option linter.unusedVariables false
set_option linter.unusedSimpArgs false
open Go.RowKit
theorem set_cA (c : Ch) (a : At) (A : Option Addr) (hA : a.A = A) (i : Nat) (s k d dd : Int) (hd : d = dd) (ii : Int) (hii : (i : Int) = ii) (w : World) (h : RefV w c a) (hi : i < c.n) (s0 : 0 ≤ s) (s5 : s ≤ 5) :
    Calls Try.prog 40 #[.agg #[.int .i64 c.conn, .int .i64 c.need, .slice A c.n a.k, .slice a.D c.n a.m], .int .i64 ii, .int .i64 s, .int .i64 k, .int .i64 dd] w (RSets w a (c.put i s) (sendP c k d)) := by
  subst hA; subst hd; subst hii; exact set_c c a i s k d w h hi s0 s5
def opensP (c : Ch) (i : Nat) : Ch × List Msg :=
  if c.room i < c.need then (c.put i 3, sendP c 3 ((i : Int) - 1)) else if i + 1 = c.n then (c.put i 2, sendP c 2 ((i : Int) - 1)) else (c.put i 1, sendP c 1 ((i : Int) + 1))
theorem room_cell {w : World} {g : Nat} {c : Ch} {cur : Array Value} (h : Blk w g 3 cur) (h5 : cur.toList.take c.n = iv c.rooms) (hr : c.rooms.length = c.n) {i : Nat} (hi : i < c.n) : w.cell? ⟨g, i, none⟩ = some (.int .i64 (c.room i)) := by
  refine h.cell i ?_
  have := iv_get (l := c.rooms) (by rw [hr]; exact hi)
  rw [← h5, List.getElem?_take_of_lt hi] at this
  simpa [Ch.room] using this
set_option maxHeartbeats 4000000 in
theorem open_c' (c : Ch) (a : At) (i : Nat) (w : World) (h : RefV w c a) (hi : i < c.n) :
    Calls Try.prog 39 #[refVal c a, .int .i64 i] w (RSets w a (opensP c i).1 (opensP c i).2) := by
  have hn := h.ok.n2
  have hn1 := h.ok.n1
  have HH := Kept.mk h
  obtain ⟨gA, curA, eA, hA1, hA2⟩ := h.roomsR
  have cr := room_cell hA1 hA2 h.ok.len hi
  have lA := hA1.lt
  have hrr := h.ok.room i hi
  have HW2 := Kept.mk ((h.alloc (.cells (refCells c a) 51)).alloc (.cells #[.int .i64 0, .int .i64 0, .slice none 0 0, .slice none 0 0] 51))
  have HD2 : Kept (Blk ((w.alloc (.cells (refCells c a) 51)).alloc (.cells #[.int .i64 0, .int .i64 0, .slice none 0 0, .slice none 0 0] 51)) (w.heap.size + 1) 51 #[.int .i64 0, .int .i64 0, .slice none 0 0, .slice none 0 0]) := ⟨by have := Blk.new (w.alloc (.cells (refCells c a) 51)) 51 #[.int .i64 0, .int .i64 0, .slice none 0 0, .slice none 0 0]; simpa using this⟩
  have HB2 : Kept (Below w.heap.size w ((w.alloc (.cells (refCells c a) 51)).alloc (.cells #[.int .i64 0, .int .i64 0, .slice none 0 0, .slice none 0 0] 51))) := ⟨((Below.refl _ _).alloc (Nat.le_refl _) _).alloc (by simp) _⟩
  have HA := Kept.mk hA1
  clear h hA1 hA2
  unfold opensP
  unfold refVal refCells at *
  rw [eA] at HW2 HD2 HB2 ⊢
  have aA := Kept.mk eA
  clear eA
  by_cases hq : c.room i < c.need
  · rw [if_pos hq]
    go_enter Try.func39, Try.ntmps39
    go_wp2_with fail
    go_quiet (fail)
    go_wp2_with (go_at_call 40; refine (set_cA c a _ aA.out i 3 3 ((i : Int) - 1) _ (by omega) _ (by omega) _ (HW2.out.drewN _) hi (by omega) (by omega)).mono ?_; rintro e w2 ⟨a2, v2, rfl, hr2, ho2, hb2, hf2⟩; have F2 := Kept.mk (hf2.of (w := w) (by first | exact HB2.out.size | exact (dN HB2.out _).size)); clear hf2; have D2 := (HD2.out.drewN _).new_ hb2; have lD := D2.lt; have d0 := D2.cell 0 (v := .int .i64 0) rfl; have d1 := D2.cell 1 (v := .int .i64 0) rfl; have d2 := D2.cell 2 (v := .slice none 0 0) rfl; have d3 := D2.cell 3 (v := .slice none 0 0) rfl; have e0 := D2.free 0; have e1 := D2.free 1; have e2 := D2.free 2; have e3 := D2.free 3; have K2 := Kept.mk D2; have R2 := Kept.mk hr2; have O2 := Kept.mk ho2; have B2 := Kept.mk (join (dN HB2.out _) hb2); clear D2 hr2 ho2 hb2; unfold refVal)
    obtain ⟨q1, q2, q3, q4⟩ := box_out (x := .int .i64 (c.put i 3).conn) (y := .int .i64 (c.put i 3).need) (z := .slice a2.A (c.put i 3).n a2.k) (u := .slice a2.D (c.put i 3).n a2.m) R2.out K2.out rfl B2.out (by omega)
    have oO := ownsRow_base (B' := w.heap.size) (q4 O2.out) (by simp; omega)
    generalize ((((w2.setCell ⟨w.heap.size + 1, 0, none⟩ (.int .i64 (c.put i 3).conn)).setCell ⟨w.heap.size + 1, 1, none⟩ (.int .i64 (c.put i 3).need)).setCell ⟨w.heap.size + 1, 2, none⟩ (.slice a2.A (c.put i 3).n a2.k)).setCell ⟨w.heap.size + 1, 3, none⟩ (.slice a2.D (c.put i 3).n a2.m)) = WF at *
    have k0 := q1.cell 0 (v := .int .i64 (c.put i 3).conn) rfl
    have k1 := q1.cell 1 (v := .int .i64 (c.put i 3).need) rfl
    have k2 := q1.cell 2 (v := .slice a2.A (c.put i 3).n a2.k) rfl
    have k3 := q1.cell 3 (v := .slice a2.D (c.put i 3).n a2.m) rfl
    exact bodyPost_ret (v := .tuple #[refVal (c.put i 3) a2, v2]) (by simp [results, Try.results39, go_sem, refVal, k0, k1, k2, k3]) rfl ⟨a2, v2, rfl, q2, oO, q3, F2.out⟩
  · rw [if_neg hq]
    by_cases hl : i + 1 = c.n
    · rw [if_pos hl]
      have hq' : c.need ≤ c.room i := by omega
      go_enter Try.func39, Try.ntmps39
      go_wp2_with fail
      go_quiet (fail)
      have hl' : (i : Int) = (c.n : Int) - 1 := by omega
      go_wp2_with (go_at_call 40; refine (set_cA c a _ aA.out i 2 2 ((i : Int) - 1) _ (by omega) _ (by omega) _ (HW2.out.drewN _) hi (by omega) (by omega)).mono ?_; rintro e w2 ⟨a2, v2, rfl, hr2, ho2, hb2, hf2⟩; have F2 := Kept.mk (hf2.of (w := w) (by first | exact HB2.out.size | exact (dN HB2.out _).size)); clear hf2; have D2 := (HD2.out.drewN _).new_ hb2; have lD := D2.lt; have d0 := D2.cell 0 (v := .int .i64 0) rfl; have d1 := D2.cell 1 (v := .int .i64 0) rfl; have d2 := D2.cell 2 (v := .slice none 0 0) rfl; have d3 := D2.cell 3 (v := .slice none 0 0) rfl; have e0 := D2.free 0; have e1 := D2.free 1; have e2 := D2.free 2; have e3 := D2.free 3; have K2 := Kept.mk D2; have R2 := Kept.mk hr2; have O2 := Kept.mk ho2; have B2 := Kept.mk (join (dN HB2.out _) hb2); clear D2 hr2 ho2 hb2; unfold refVal)
      obtain ⟨q1, q2, q3, q4⟩ := box_out (x := .int .i64 (c.put i 2).conn) (y := .int .i64 (c.put i 2).need) (z := .slice a2.A (c.put i 2).n a2.k) (u := .slice a2.D (c.put i 2).n a2.m) R2.out K2.out rfl B2.out (by omega)
      have oO := ownsRow_base (B' := w.heap.size) (q4 O2.out) (by simp; omega)
      generalize ((((w2.setCell ⟨w.heap.size + 1, 0, none⟩ (.int .i64 (c.put i 2).conn)).setCell ⟨w.heap.size + 1, 1, none⟩ (.int .i64 (c.put i 2).need)).setCell ⟨w.heap.size + 1, 2, none⟩ (.slice a2.A (c.put i 2).n a2.k)).setCell ⟨w.heap.size + 1, 3, none⟩ (.slice a2.D (c.put i 2).n a2.m)) = WF at *
      have k0 := q1.cell 0 (v := .int .i64 (c.put i 2).conn) rfl
      have k1 := q1.cell 1 (v := .int .i64 (c.put i 2).need) rfl
      have k2 := q1.cell 2 (v := .slice a2.A (c.put i 2).n a2.k) rfl
      have k3 := q1.cell 3 (v := .slice a2.D (c.put i 2).n a2.m) rfl
      exact bodyPost_ret (v := .tuple #[refVal (c.put i 2) a2, v2]) (by simp [results, Try.results39, go_sem, refVal, k0, k1, k2, k3]) rfl ⟨a2, v2, rfl, q2, oO, q3, F2.out⟩
    · rw [if_neg hl]
      have hl' : (i : Int) ≠ (c.n : Int) - 1 := by omega
      have hq' : c.need ≤ c.room i := by omega
      go_enter Try.func39, Try.ntmps39
      go_wp2_with fail
      go_quiet (fail)
      go_wp2_with (go_at_call 40; refine (set_cA c a _ aA.out i 1 1 ((i : Int) + 1) _ (by omega) _ (by omega) _ (HW2.out.drewN _) hi (by omega) (by omega)).mono ?_; rintro e w2 ⟨a2, v2, rfl, hr2, ho2, hb2, hf2⟩; have F2 := Kept.mk (hf2.of (w := w) (by first | exact HB2.out.size | exact (dN HB2.out _).size)); clear hf2; have D2 := (HD2.out.drewN _).new_ hb2; have lD := D2.lt; have d0 := D2.cell 0 (v := .int .i64 0) rfl; have d1 := D2.cell 1 (v := .int .i64 0) rfl; have d2 := D2.cell 2 (v := .slice none 0 0) rfl; have d3 := D2.cell 3 (v := .slice none 0 0) rfl; have e0 := D2.free 0; have e1 := D2.free 1; have e2 := D2.free 2; have e3 := D2.free 3; have K2 := Kept.mk D2; have R2 := Kept.mk hr2; have O2 := Kept.mk ho2; have B2 := Kept.mk (join (dN HB2.out _) hb2); clear D2 hr2 ho2 hb2; unfold refVal)
      obtain ⟨q1, q2, q3, q4⟩ := box_out (x := .int .i64 (c.put i 1).conn) (y := .int .i64 (c.put i 1).need) (z := .slice a2.A (c.put i 1).n a2.k) (u := .slice a2.D (c.put i 1).n a2.m) R2.out K2.out rfl B2.out (by omega)
      have oO := ownsRow_base (B' := w.heap.size) (q4 O2.out) (by simp; omega)
      generalize ((((w2.setCell ⟨w.heap.size + 1, 0, none⟩ (.int .i64 (c.put i 1).conn)).setCell ⟨w.heap.size + 1, 1, none⟩ (.int .i64 (c.put i 1).need)).setCell ⟨w.heap.size + 1, 2, none⟩ (.slice a2.A (c.put i 1).n a2.k)).setCell ⟨w.heap.size + 1, 3, none⟩ (.slice a2.D (c.put i 1).n a2.m)) = WF at *
      have k0 := q1.cell 0 (v := .int .i64 (c.put i 1).conn) rfl
      have k1 := q1.cell 1 (v := .int .i64 (c.put i 1).need) rfl
      have k2 := q1.cell 2 (v := .slice a2.A (c.put i 1).n a2.k) rfl
      have k3 := q1.cell 3 (v := .slice a2.D (c.put i 1).n a2.m) rfl
      exact bodyPost_ret (v := .tuple #[refVal (c.put i 1) a2, v2]) (by simp [results, Try.results39, go_sem, refVal, k0, k1, k2, k3]) rfl ⟨a2, v2, rfl, q2, oO, q3, F2.out⟩
end Go.Proofs.Ytnmgnggchgckoaa
