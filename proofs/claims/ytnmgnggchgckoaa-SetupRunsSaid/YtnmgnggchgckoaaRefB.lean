import Derived.Test.YtnmgnggchgckoaaRef
namespace Go.Proofs.Ytnmgnggchgckoaa
set_option linter.unusedVariables false
set_option linter.unusedSimpArgs false
open Go.RowKit
/-- A result box of the struct, filled. -/
theorem box_out {w W : World} {p : Nat} {c : Ch} {a : At} {es : Array Value} {x y z u : Value} (h : RefV W c a) (hD : Blk W p 51 es) (he : es.size = 4) (hW : Below w.heap.size w W) (hp : w.heap.size ≤ p) :
    Blk ((((W.setCell ⟨p, 0, none⟩ x).setCell ⟨p, 1, none⟩ y).setCell ⟨p, 2, none⟩ z).setCell ⟨p, 3, none⟩ u) p 51 #[x, y, z, u] ∧ RefV ((((W.setCell ⟨p, 0, none⟩ x).setCell ⟨p, 1, none⟩ y).setCell ⟨p, 2, none⟩ z).setCell ⟨p, 3, none⟩ u) c a ∧ Below w.heap.size w ((((W.setCell ⟨p, 0, none⟩ x).setCell ⟨p, 1, none⟩ y).setCell ⟨p, 2, none⟩ z).setCell ⟨p, 3, none⟩ u) ∧
    ∀ {v : Value} {B n : Nat} {xs : List Value}, W.ownsRow B 58 3 v n xs → ((((W.setCell ⟨p, 0, none⟩ x).setCell ⟨p, 1, none⟩ y).setCell ⟨p, 2, none⟩ z).setCell ⟨p, 3, none⟩ u).ownsRow B 58 3 v n xs := by
  obtain ⟨l⟩ := es
  match l, he with
  | [e0, e1, e2, e3], _ =>
  have up : ∀ {W : World} (o : Nat) (v : Value), Below w.heap.size w W → Below w.heap.size w (W.setCell ⟨p, o, none⟩ v) := fun o v h => h.setCell (p := ⟨p, o, none⟩) hp v
  have o1 : ∀ {W : World} {es : Array Value} (o : Nat) (t : Value) {v : Value} {B n : Nat} {xs : List Value}, Blk W p 51 es → W.ownsRow B 58 3 v n xs → (W.setCell ⟨p, o, none⟩ t).ownsRow B 58 3 v n xs := by
    intro W es o t v B n xs hb hw
    refine ⟨hw.1, ?_⟩
    rcases hw.2 with h2 | ⟨g, cap, cur, h1, h2, h3, h4⟩
    · exact .inl h2
    · exact .inr ⟨g, cap, cur, h1, h2, Blk.far (p := ⟨p, o, none⟩) (w := W) (g := g) (t := 58) h3 (Blk.ne_ (w := W) h3 hb (by decide)) t, h4⟩
  have b1 := hD.set_ 0 x
  have b2 := b1.set_ 1 y
  have b3 := b2.set_ 2 z
  exact ⟨b3.to 3 u (by simp), (((h.far hD 0 x).far b1 1 y).far b2 2 z).far b3 3 u, up _ _ (up _ _ (up _ _ (up _ _ hW))), fun hw => o1 3 u b3 (o1 2 z b2 (o1 1 y b1 (o1 0 x hD hw)))⟩
def shutP (c : Ch) (i : Nat) : Ch × List Msg := if i + 1 = c.n then (c.put i 5, sendP c 5 ((i : Int) - 1)) else (c.put i 4, sendP c 4 ((i : Int) + 1))
set_option maxHeartbeats 4000000 in
theorem shut_c (c : Ch) (a : At) (i : Nat) (w : World) (h : RefV w c a) (hi : i < c.n) :
    Calls Try.prog 41 #[refVal c a, .int .i64 i] w (RSets w a (shutP c i).1 (shutP c i).2) := by
  have hn := h.ok.n2
  have hn1 := h.ok.n1
  have HH := Kept.mk h
  have HW2 := Kept.mk ((h.alloc (.cells (refCells c a) 51)).alloc (.cells #[.int .i64 0, .int .i64 0, .slice none 0 0, .slice none 0 0] 51))
  have HD2 : Kept (Blk ((w.alloc (.cells (refCells c a) 51)).alloc (.cells #[.int .i64 0, .int .i64 0, .slice none 0 0, .slice none 0 0] 51)) (w.heap.size + 1) 51 #[.int .i64 0, .int .i64 0, .slice none 0 0, .slice none 0 0]) := ⟨by have := Blk.new (w.alloc (.cells (refCells c a) 51)) 51 #[.int .i64 0, .int .i64 0, .slice none 0 0, .slice none 0 0]; simpa using this⟩
  have HB2 : Kept (Below w.heap.size w ((w.alloc (.cells (refCells c a) 51)).alloc (.cells #[.int .i64 0, .int .i64 0, .slice none 0 0, .slice none 0 0] 51))) := ⟨((Below.refl _ _).alloc (Nat.le_refl _) _).alloc (by simp) _⟩
  clear h
  unfold shutP
  by_cases hl : i + 1 = c.n
  · rw [if_pos hl]
    have hl' : (i : Int) = (c.n : Int) - 1 := by omega
    unfold refVal refCells at *
    go_enter Try.func41, Try.ntmps41
    go_wp2_with (go_at_call 40; have ec := set_c c a i 5 5 ((i : Int) - 1) _ HW2.out hi (by omega) (by omega); rw [hl'] at ec; refine ec.mono ?_; rintro e w2 ⟨a2, v2, rfl, hr2, ho2, hb2, hf2⟩; have F2 := Kept.mk (hf2.of (w := w) (by first | exact HB2.out.size | exact (dN HB2.out _).size)); clear hf2; have D2 := HD2.out.new_ hb2; have lD := D2.lt; have d0 := D2.cell 0 (v := .int .i64 0) rfl; have d1 := D2.cell 1 (v := .int .i64 0) rfl; have d2 := D2.cell 2 (v := .slice none 0 0) rfl; have d3 := D2.cell 3 (v := .slice none 0 0) rfl; have e0 := D2.free 0; have e1 := D2.free 1; have e2 := D2.free 2; have e3 := D2.free 3; have K2 := Kept.mk D2; have R2 := Kept.mk hr2; have O2 := Kept.mk ho2; have B2 := Kept.mk (join HB2.out hb2); clear D2 hr2 ho2 hb2; unfold refVal)
    obtain ⟨q1, q2, q3, q4⟩ := box_out (x := .int .i64 (c.put i 5).conn) (y := .int .i64 (c.put i 5).need) (z := .slice a2.A (c.put i 5).n a2.k) (u := .slice a2.D (c.put i 5).n a2.m) R2.out K2.out rfl B2.out (by omega)
    have oO := ownsRow_base (B' := w.heap.size) (q4 O2.out) (by simp; omega)
    generalize ((((w2.setCell ⟨w.heap.size + 1, 0, none⟩ (.int .i64 (c.put i 5).conn)).setCell ⟨w.heap.size + 1, 1, none⟩ (.int .i64 (c.put i 5).need)).setCell ⟨w.heap.size + 1, 2, none⟩ (.slice a2.A (c.put i 5).n a2.k)).setCell ⟨w.heap.size + 1, 3, none⟩ (.slice a2.D (c.put i 5).n a2.m)) = WF at *
    have k0 := q1.cell 0 (v := .int .i64 (c.put i 5).conn) rfl
    have k1 := q1.cell 1 (v := .int .i64 (c.put i 5).need) rfl
    have k2 := q1.cell 2 (v := .slice a2.A (c.put i 5).n a2.k) rfl
    have k3 := q1.cell 3 (v := .slice a2.D (c.put i 5).n a2.m) rfl
    rw [hl']
    exact bodyPost_ret (v := .tuple #[refVal (c.put i 5) a2, v2]) (by simp [results, Try.results41, go_sem, refVal, k0, k1, k2, k3]) rfl ⟨a2, v2, rfl, q2, oO, q3, F2.out⟩
  · rw [if_neg hl]
    have hl' : (i : Int) ≠ (c.n : Int) - 1 := by omega
    unfold refVal refCells at *
    go_enter Try.func41, Try.ntmps41
    go_wp2_with (go_at_call 40; have ec := set_c c a i 4 4 ((i : Int) + 1) _ HW2.out hi (by omega) (by omega); refine ec.mono ?_; rintro e w2 ⟨a2, v2, rfl, hr2, ho2, hb2, hf2⟩; have F2 := Kept.mk (hf2.of (w := w) (by first | exact HB2.out.size | exact (dN HB2.out _).size)); clear hf2; have D2 := HD2.out.new_ hb2; have lD := D2.lt; have d0 := D2.cell 0 (v := .int .i64 0) rfl; have d1 := D2.cell 1 (v := .int .i64 0) rfl; have d2 := D2.cell 2 (v := .slice none 0 0) rfl; have d3 := D2.cell 3 (v := .slice none 0 0) rfl; have e0 := D2.free 0; have e1 := D2.free 1; have e2 := D2.free 2; have e3 := D2.free 3; have K2 := Kept.mk D2; have R2 := Kept.mk hr2; have O2 := Kept.mk ho2; have B2 := Kept.mk (join HB2.out hb2); clear D2 hr2 ho2 hb2; unfold refVal)
    obtain ⟨q1, q2, q3, q4⟩ := box_out (x := .int .i64 (c.put i 4).conn) (y := .int .i64 (c.put i 4).need) (z := .slice a2.A (c.put i 4).n a2.k) (u := .slice a2.D (c.put i 4).n a2.m) R2.out K2.out rfl B2.out (by omega)
    have oO := ownsRow_base (B' := w.heap.size) (q4 O2.out) (by simp; omega)
    generalize ((((w2.setCell ⟨w.heap.size + 1, 0, none⟩ (.int .i64 (c.put i 4).conn)).setCell ⟨w.heap.size + 1, 1, none⟩ (.int .i64 (c.put i 4).need)).setCell ⟨w.heap.size + 1, 2, none⟩ (.slice a2.A (c.put i 4).n a2.k)).setCell ⟨w.heap.size + 1, 3, none⟩ (.slice a2.D (c.put i 4).n a2.m)) = WF at *
    have k0 := q1.cell 0 (v := .int .i64 (c.put i 4).conn) rfl
    have k1 := q1.cell 1 (v := .int .i64 (c.put i 4).need) rfl
    have k2 := q1.cell 2 (v := .slice a2.A (c.put i 4).n a2.k) rfl
    have k3 := q1.cell 3 (v := .slice a2.D (c.put i 4).n a2.m) rfl
    exact bodyPost_ret (v := .tuple #[refVal (c.put i 4) a2, v2]) (by simp [results, Try.results41, go_sem, refVal, k0, k1, k2, k3]) rfl ⟨a2, v2, rfl, q2, oO, q3, F2.out⟩
end Go.Proofs.Ytnmgnggchgckoaa
