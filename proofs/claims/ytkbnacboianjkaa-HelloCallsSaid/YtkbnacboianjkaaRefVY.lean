/- Hello: the reference's Receive, an accepted message. -/
import Derived.Test.YtkbnacboianjkaaRefVS
namespace Go.Proofs.Ytkbnacboianjkaa
set_option linter.unusedVariables false
set_option linter.unusedSimpArgs false
open Go.RowKit
structure RX (w W : World) (t : Tb) (A : Option Addr) (k : Nat) (m : Msg) (b8 b9 : Nat) (p : Pt) (rn st : Int) : Prop where
  c8 : Blk W b8 54 #[.int .i64 p.state, .int .i64 rn, .int .i64 p.last.inc, .int .i64 p.last.port, .int .i64 (t.ticks - p.since)]
  c9 : Blk W b9 54 #[.int .i64 st, .int .i64 m.node, .int .i64 m.inc, .int .i64 m.port, .int .i64 0]
  rw_ : RW w W t A k m
  h8 : w.heap.size + 2 < b8
  h9 : b8 < b9
theorem RX.start {w W : World} {t : Tb} {A : Option Addr} {k b8 b9 : Nat} {m : Msg} {p : Pt} {rn : Int} (h8 : w.heap.size + 2 < b8) (h9 : W.heap.size = b9) (hb : b8 < b9) (h : Blk W b8 54 #[.int .i64 p.state, .int .i64 rn, .int .i64 p.last.inc, .int .i64 p.last.port, .int .i64 (t.ticks - p.since)]) (hw : RW w W t A k m) :
    RX w (W.alloc (.cells #[.int .i64 1, .int .i64 m.node, .int .i64 m.inc, .int .i64 m.port, .int .i64 0] 54)) t A k m b8 b9 p rn 1 :=
  ⟨h.alloc _, h9 ▸ Blk.new _ _ _, hw.new_ ((Below.refl _ _).alloc (Nat.le_refl _) _), h8, hb⟩
section
variable {w W W' : World} {t : Tb} {A : Option Addr} {k b8 b9 : Nat} {m : Msg} {p : Pt} {rn st : Int}
theorem RX.set9 (h : RX w W t A k m b8 b9 p rn st) (x : Int) : RX w (W.setCell ⟨b9, 0, none⟩ (.int .i64 x)) t A k m b8 b9 p rn x := by
  have h8 := h.h8
  have h9 := h.h9
  exact ⟨h.c8.far (by simp only; omega) _, h.c9.to 0 _ rfl, ⟨h.rw_.b0.far (by simp only; omega) _, h.rw_.b1.far (by simp only; omega) _, h.rw_.b2.far (by simp only; omega) _, h.rw_.blw.setCell (by simp only; omega) _⟩, h8, h9⟩
theorem RX.ver (h : RX w W t A k m b8 b9 p rn st) (x : Int) : RX w (W.setCell ⟨w.heap.size, 6, none⟩ (.int .i64 x)) { t with version := x } A k m b8 b9 p rn st := by
  have h8 := h.h8
  have h9 := h.h9
  exact ⟨h.c8.far (by simp only; omega) _, h.c9.far (by simp only; omega) _, ⟨h.rw_.b0.to 6 _ rfl, h.rw_.b1.far (by simp only; omega) _, h.rw_.b2.far (by simp only; omega) _, h.rw_.blw.setCell (Nat.le_refl _) _⟩, h8, h9⟩
theorem RX.new_ (h : RX w W t A k m b8 b9 p rn st) (hb : Below W.heap.size W W') : RX w W' t A k m b8 b9 p rn st := ⟨h.c8.new_ hb, h.c9.new_ hb, h.rw_.new_ hb, h.h8, h.h9⟩
/-- The copy of the ports is the own one, now. -/
structure RY (w W : World) (t : Tb) (g k b9 : Nat) (m : Msg) (st : Int) (B : Nat) (xs : List Value) : Prop where
  c9 : Blk W b9 54 #[.int .i64 st, .int .i64 m.node, .int .i64 m.inc, .int .i64 m.port, .int .i64 0]
  b0 : Blk W w.heap.size 35 #[.int .i64 t.node, .int .i64 t.inc, .int .i64 t.every, .int .i64 t.dead, .slice (some ⟨g, 0, none⟩) t.ports.length k, .int .i64 t.ticks, .int .i64 t.version]
  b2 : Blk W (w.heap.size + 2) 35 #[.int .i64 0, .int .i64 0, .int .i64 0, .int .i64 0, .slice none 0 0, .int .i64 0, .int .i64 0]
  own : W.ownsRow B 54 5 (.slice (some ⟨g, 0, none⟩) t.ports.length k) t.ports.length xs
  blw : Below w.heap.size w W
  hB : w.heap.size + 2 < B
  hg : B ≤ g
  h9 : b9 < B
  h2 : w.heap.size + 2 < b9
theorem RX.copied {w9 : World} {g k' : Nat} {xs : List Value} (h : RX w W t A k m b8 b9 p rn st) (hgw : (W.alloc (.cells #[] 54)).grownBy w9 (some W.heap.size)) (ho : w9.ownsRow W.heap.size 54 5 (.slice (some ⟨g, 0, none⟩) t.ports.length k') t.ports.length xs) (hn : 0 < t.ports.length) :
    RY w (w9.setCell ⟨w.heap.size, 4, none⟩ (.slice (some ⟨g, 0, none⟩) t.ports.length k')) t g k' b9 m st W.heap.size xs := by
  have hb : Below W.heap.size W w9 := ((Below.refl _ _).alloc (Nat.le_refl _) _).grown hgw (by simp) (fun j hj => by injection hj with hj; omega)
  have hx := h.new_ hb
  have h8 := h.h8
  have h9 := h.h9
  have l9 := h.c9.lt
  have l2 := h.rw_.b2.lt
  have hg := (ho.lt g rfl).1
  refine ⟨hx.c9.far (by simp only; omega) _, hx.rw_.b0.to 4 _ rfl, hx.rw_.b2.far (by simp only; omega) _, ?_, hx.rw_.blw.setCell (Nat.le_refl _) _, l2, hg, l9, by omega⟩
  exact own_move ho (fun j hj => Below.heap_setCell _ ⟨w.heap.size, 4, none⟩ _ _ (by have := (ho.lt j hj).1; simp only; omega))
theorem row_lt5 {w : World} {B g n m : Nat} {xs : List Value} (h : w.ownsRow B 54 5 (.slice (some ⟨g, 0, none⟩) n m) n xs) : g < w.heap.size := (h.lt g rfl).2
theorem RY.slots {w V : World} {t : Tb} {g k b9 : Nat} {m : Msg} {st : Int} {B : Nat} {xs : List Value} {l : List RP} {r : RP} (h : RY w V t g k b9 m st B xs) (hx : xs = rrow l) {i : Nat} (hr : l[i]? = some r) (hi : i < t.ports.length) :
    (V.cell? ⟨g, i * 5, none⟩ = some (.int .i64 r.s) ∧ V.frozen? ⟨g, i * 5, none⟩ = false) ∧ (V.cell? ⟨g, i * 5 + 1, none⟩ = some (.int .i64 r.n) ∧ V.frozen? ⟨g, i * 5 + 1, none⟩ = false) ∧ (V.cell? ⟨g, i * 5 + 2, none⟩ = some (.int .i64 r.i) ∧ V.frozen? ⟨g, i * 5 + 2, none⟩ = false) ∧ (V.cell? ⟨g, i * 5 + 3, none⟩ = some (.int .i64 r.t) ∧ V.frozen? ⟨g, i * 5 + 3, none⟩ = false) ∧ (V.cell? ⟨g, i * 5 + 4, none⟩ = some (.int .i64 r.q) ∧ V.frozen? ⟨g, i * 5 + 4, none⟩ = false) := by
  subst hx
  have hl := h.own.1
  rw [rrow_len] at hl
  have c := fun j v (hj : (rpc r)[j]? = some v) (hj5 : j < 5) => (World.ownsRow.cellAt h.own (i * 5 + j) (by have := (List.getElem?_eq_some_iff.1 hr).1; omega)).trans (rrow_get hr hj)
  exact ⟨⟨c 0 _ rfl (by omega), World.ownsRow.frozenAt h.own _⟩, ⟨c 1 _ rfl (by omega), World.ownsRow.frozenAt h.own _⟩, ⟨c 2 _ rfl (by omega), World.ownsRow.frozenAt h.own _⟩, ⟨c 3 _ rfl (by omega), World.ownsRow.frozenAt h.own _⟩, c 4 _ rfl (by omega), World.ownsRow.frozenAt h.own _⟩
/-- A port written whole. -/
theorem RY.put {w V : World} {t : Tb} {g k b9 : Nat} {m : Msg} {st : Int} {B : Nat} {l : List RP} {r : RP} (h : RY w V t g k b9 m st B (rrow l)) {i : Nat} (hr : l[i]? = some r) (q : RP) :
    RY w (((((V.setCell ⟨g, i * 5, none⟩ (.int .i64 q.s)).setCell ⟨g, i * 5 + 1, none⟩ (.int .i64 q.n)).setCell ⟨g, i * 5 + 2, none⟩ (.int .i64 q.i)).setCell ⟨g, i * 5 + 3, none⟩ (.int .i64 q.t)).setCell ⟨g, i * 5 + 4, none⟩ (.int .i64 q.q)) t g k b9 m st B (rrow (l.set i q)) := by
  have hg := h.hg
  have hB := h.hB
  have h9 := h.h9
  have hi := (List.getElem?_eq_some_iff.1 hr).1
  have hs := fun p' => List.getElem?_set_self (l := l) (a := p') hi
  have e1 := rrow_set hr (j := 0) (p' := ⟨q.s, r.n, r.i, r.t, r.q⟩) (v := .int .i64 q.s) (by omega) rfl
  have e2 := rrow_set (hs ⟨q.s, r.n, r.i, r.t, r.q⟩) (j := 1) (p' := ⟨q.s, q.n, r.i, r.t, r.q⟩) (v := .int .i64 q.n) (by omega) rfl
  have e3 := rrow_set (l := l.set i ⟨q.s, q.n, r.i, r.t, r.q⟩) (List.getElem?_set_self hi) (j := 2) (p' := ⟨q.s, q.n, q.i, r.t, r.q⟩) (v := .int .i64 q.i) (by omega) rfl
  have e4 := rrow_set (l := l.set i ⟨q.s, q.n, q.i, r.t, r.q⟩) (List.getElem?_set_self hi) (j := 3) (p' := ⟨q.s, q.n, q.i, q.t, r.q⟩) (v := .int .i64 q.t) (by omega) rfl
  have e5 := rrow_set (l := l.set i ⟨q.s, q.n, q.i, q.t, r.q⟩) (List.getElem?_set_self hi) (j := 4) (p' := q) (v := .int .i64 q.q) (by omega) rfl
  rw [List.set_set] at e2 e3 e4 e5
  refine ⟨?_, ?_, ?_, ?_, ?_, h.hB, h.hg, h.h9, h.h2⟩
  · exact ((((h.c9.far (by simp only; omega) _).far (by simp only; omega) _).far (by simp only; omega) _).far (by simp only; omega) _).far (by simp only; omega) _
  · exact ((((h.b0.far (by simp only; omega) _).far (by simp only; omega) _).far (by simp only; omega) _).far (by simp only; omega) _).far (by simp only; omega) _
  · exact ((((h.b2.far (by simp only; omega) _).far (by simp only; omega) _).far (by simp only; omega) _).far (by simp only; omega) _).far (by simp only; omega) _
  · have o1 := (World.ownsRow.stored h.own (i * 5) (.int .i64 q.s)).1
    rw [show i * 5 = i * 5 + 0 by omega, e1] at o1
    have o2 := (World.ownsRow.stored o1 (i * 5 + 1) (.int .i64 q.n)).1
    rw [e2] at o2
    have o3 := (World.ownsRow.stored o2 (i * 5 + 2) (.int .i64 q.i)).1
    rw [e3] at o3
    have o4 := (World.ownsRow.stored o3 (i * 5 + 3) (.int .i64 q.t)).1
    rw [e4] at o4
    have o5 := (World.ownsRow.stored o4 (i * 5 + 4) (.int .i64 q.q)).1
    rw [e5] at o5
    exact o5
  · exact ((((h.blw.setCell (by simp only; omega) _).setCell (by simp only; omega) _).setCell (by simp only; omega) _).setCell (by simp only; omega) _).setCell (by simp only; omega) _
end
theorem turns_eq {t : Tb} {p : Pt} {m : Msg} (hm : 1 ≤ m.inc) (hn : 0 ≤ m.node) : turns t p m = ((stateOf t m != p.state) || ((m.node != (rof t.ticks p).n) || ((m.inc != p.last.inc) || (m.port != p.last.port)))) := by
  have hb : ∀ a b : Int, (a != b) = !(a == b) := fun a b => rfl
  unfold turns sameB
  rw [hb, hb, hb, hb]
  by_cases h0 : p.last.inc = 0
  · have e1 : (m.inc == p.last.inc) = false := by rw [beq_eq_false_iff_ne]; omega
    rw [e1]
    simp
  · have e1 : (rof t.ticks p).n = p.last.node := by simp only [rof, if_neg h0]
    rw [e1]
    cases m.node == p.last.node <;> cases m.inc == p.last.inc <;> cases m.port == p.last.port <;> cases stateOf t m == p.state <;> rfl
set_option maxRecDepth 100000 in
set_option maxHeartbeats 4000000 in
theorem rrecvYes_c (t : Tb) (i : Nat) (p : Pt) (m : Msg) (A : Option Addr) (k : Nat) (w : World) (h : RT w t A k) (hi : i < t.ports.length) (hp : t.ports[i]? = some p) (hm : msgB m = true) (hv0 : 0 ≤ t.version) (hv1 : t.version < 4611686018427387904) (hst : stale p m = false) :
    Calls Try.prog 18 #[rval t A k, .int .i64 (i : Int), .agg #[.int .i64 m.node, .int .i64 m.inc, .int .i64 m.port, .int .i64 m.heard]] w (RNews w (recvAt t i p m) (.int .i64 0)) := by
  have HRT := Kept.mk h
  have n1 := h.pos
  have n8 := h.few
  have hk := h.le
  have hkm := h.max
  unfold maxLen at hkm
  obtain ⟨⟨⟨c1, c2⟩, c3⟩, c4⟩ : ((inB m.node 0 15 = true ∧ inB m.inc 1 1099511627775 = true) ∧ inB m.port 0 7 = true) ∧ inB m.heard 0 1099511627775 = true := by simpa [msgB] using hm
  have c0 : inB (i : Int) 0 ((t.ports.length : Int) - 1) = true := inB_iff.2 ⟨by omega, by omega⟩
  have ci := inB_iff.1 c2
  obtain ⟨rb, roff, rfl, hrb, hrow⟩ := h.at_
  obtain ⟨r0, r1, r2, r3, r4⟩ := hrow i p hp
  have HRD := Kept.mk h.rd
  clear h hrow
  have hst' : ((rof t.ticks p).n == m.node) = false ∨ ((rof t.ticks p).n == m.node) = true ∧ ¬ m.inc < p.last.inc := by
    by_cases h0 : p.last.inc = 0
    · left; rw [beq_eq_false_iff_ne]; simp only [rof, if_pos h0]; have := (inB_iff.1 c1).1; omega
    · have e1 : (rof t.ticks p).n = p.last.node := by simp only [rof, if_neg h0]
      rw [e1]
      have hb : (p.last.node == m.node) = (m.node == p.last.node) := by rw [Bool.eq_iff_iff, beq_iff_eq, beq_iff_eq]; exact eq_comm
      rw [hb]
      cases hq : (m.node == p.last.node) with
      | false => exact .inl rfl
      | true => exact .inr ⟨rfl, by simpa [stale, hq] using hst⟩
  have HTU := Kept.mk (turns_eq (t := t) (p := p) ci.1 (inB_iff.1 c1).1)
  clear hst hm
  generalize (rof t.ticks p).n = rn at *
  unfold rval rcs
  go_enter Try.func18, Try.ntmps18
  go_upto_region 1 with fail
  obtain ⟨X, HX⟩ : ∃ X, X = ((w.alloc (.cells #[.int .i64 t.node, .int .i64 t.inc, .int .i64 t.every, .int .i64 t.dead, .slice (some ⟨rb, roff, none⟩) t.ports.length k, .int .i64 t.ticks, .int .i64 t.version] 35)).alloc (.cells #[.int .i64 m.node, .int .i64 m.inc, .int .i64 m.port, .int .i64 m.heard] 44)).alloc (.cells #[.int .i64 0, .int .i64 0, .int .i64 0, .int .i64 0, .slice none 0 0, .int .i64 0, .int .i64 0] 35) ∧ Kept (RW w X t (some ⟨rb, roff, none⟩) k m) := ⟨_, rfl, ⟨RW.start w t (some ⟨rb, roff, none⟩) k m⟩⟩
  obtain ⟨hX, HX⟩ := HX
  rw [← hX]
  clear hX
  have k0 := HX.out.b0.cell 0 (v := .int .i64 t.node) rfl
  have k1 := HX.out.b0.cell 1 (v := .int .i64 t.inc) rfl
  have k2 := HX.out.b0.cell 2 (v := .int .i64 t.every) rfl
  have k3 := HX.out.b0.cell 3 (v := .int .i64 t.dead) rfl
  have k4 := HX.out.b0.cell 4 (v := .slice (some ⟨rb, roff, none⟩) t.ports.length k) rfl
  have k5 := HX.out.b0.cell 5 (v := .int .i64 t.ticks) rfl
  have k6 := HX.out.b0.cell 6 (v := .int .i64 t.version) rfl
  have m0 := HX.out.b1.cell 0 (v := .int .i64 m.node) rfl
  have m1 := HX.out.b1.cell 1 (v := .int .i64 m.inc) rfl
  have m2 := HX.out.b1.cell 2 (v := .int .i64 m.port) rfl
  have m3 := HX.out.b1.cell 3 (v := .int .i64 m.heard) rfl
  have z0 := HX.out.b2.cell 0 (v := .int .i64 0) rfl
  have z1 := HX.out.b2.cell 1 (v := .int .i64 0) rfl
  have z2 := HX.out.b2.cell 2 (v := .int .i64 0) rfl
  have z3 := HX.out.b2.cell 3 (v := .int .i64 0) rfl
  have z4 := HX.out.b2.cell 4 (v := .slice none 0 0) rfl
  have z5 := HX.out.b2.cell 5 (v := .int .i64 0) rfl
  have z6 := HX.out.b2.cell 6 (v := .int .i64 0) rfl
  have zf0 := HX.out.b2.free 0
  have zf1 := HX.out.b2.free 1
  have zf2 := HX.out.b2.free 2
  have zf3 := HX.out.b2.free 3
  have zf4 := HX.out.b2.free 4
  have zf5 := HX.out.b2.free 5
  have zf6 := HX.out.b2.free 6
  have l0 := HX.out.b0.lt
  have l1 := HX.out.b1.lt
  have l2 := HX.out.b2.lt
  have lw := HX.out.blw.size
  have q0 : X.cell? ⟨rb, roff + i * 5, none⟩ = some (.int .i64 p.state) := (HX.out.blw.cell (p := ⟨rb, roff + i * 5, none⟩) hrb).trans r0
  have q1 : X.cell? ⟨rb, roff + i * 5 + 1, none⟩ = some (.int .i64 rn) := (HX.out.blw.cell (p := ⟨rb, roff + i * 5 + 1, none⟩) hrb).trans r1
  have q2 : X.cell? ⟨rb, roff + i * 5 + 2, none⟩ = some (.int .i64 p.last.inc) := (HX.out.blw.cell (p := ⟨rb, roff + i * 5 + 2, none⟩) hrb).trans r2
  have q3 : X.cell? ⟨rb, roff + i * 5 + 3, none⟩ = some (.int .i64 p.last.port) := (HX.out.blw.cell (p := ⟨rb, roff + i * 5 + 3, none⟩) hrb).trans r3
  have q4 : X.cell? ⟨rb, roff + i * 5 + 4, none⟩ = some (.int .i64 (t.ticks - p.since)) := (HX.out.blw.cell (p := ⟨rb, roff + i * 5 + 4, none⟩) hrb).trans r4
  go_upto_region 3 with (go_at_call 24; refine (in_c _ _ _ _).mono ?_; rintro e wq ⟨rfl, rfl⟩)
  go_upto_region 4 with fail
  obtain ⟨Y, HY⟩ : ∃ Y, Y = X.alloc (.cells #[.int .i64 p.state, .int .i64 rn, .int .i64 p.last.inc, .int .i64 p.last.port, .int .i64 (t.ticks - p.since)] 54) ∧ Kept (Blk Y X.heap.size 54 #[.int .i64 p.state, .int .i64 rn, .int .i64 p.last.inc, .int .i64 p.last.port, .int .i64 (t.ticks - p.since)] ∧ RW w Y t (some ⟨rb, roff, none⟩) k m) := ⟨_, rfl, ⟨Blk.new _ _ _, HX.out.new_ ((Below.refl _ _).alloc (Nat.le_refl _) _)⟩⟩
  obtain ⟨hY, HY⟩ := HY
  rw [← hY]
  have hYs : Y.heap.size = X.heap.size + 1 := by rw [hY]; simp
  clear hY k0 k1 k2 k3 k4 k5 k6 m0 m1 m2 m3 z0 z1 z2 z3 z4 z5 z6 zf0 zf1 zf2 zf3 zf4 zf5 zf6 q0 q1 q2 q3 q4
  obtain ⟨b8, hb8⟩ : ∃ b, b = X.heap.size := ⟨_, rfl⟩
  rw [← hb8] at HY ⊢
  have hb8l : w.heap.size + 2 < b8 := by omega
  have hYs' : Y.heap.size = b8 + 1 := by omega
  clear hb8 hYs l0 l1 l2 lw
  have y0 := HY.out.1.cell 0 (v := .int .i64 p.state) rfl
  have y1 := HY.out.1.cell 1 (v := .int .i64 rn) rfl
  have y2 := HY.out.1.cell 2 (v := .int .i64 p.last.inc) rfl
  have y3 := HY.out.1.cell 3 (v := .int .i64 p.last.port) rfl
  have y4 := HY.out.1.cell 4 (v := .int .i64 (t.ticks - p.since)) rfl
  have k0 := HY.out.2.b0.cell 0 (v := .int .i64 t.node) rfl
  have k1 := HY.out.2.b0.cell 1 (v := .int .i64 t.inc) rfl
  have k2 := HY.out.2.b0.cell 2 (v := .int .i64 t.every) rfl
  have k3 := HY.out.2.b0.cell 3 (v := .int .i64 t.dead) rfl
  have k4 := HY.out.2.b0.cell 4 (v := .slice (some ⟨rb, roff, none⟩) t.ports.length k) rfl
  have k5 := HY.out.2.b0.cell 5 (v := .int .i64 t.ticks) rfl
  have k6 := HY.out.2.b0.cell 6 (v := .int .i64 t.version) rfl
  have m0 := HY.out.2.b1.cell 0 (v := .int .i64 m.node) rfl
  have m1 := HY.out.2.b1.cell 1 (v := .int .i64 m.inc) rfl
  have m2 := HY.out.2.b1.cell 2 (v := .int .i64 m.port) rfl
  have m3 := HY.out.2.b1.cell 3 (v := .int .i64 m.heard) rfl
  have z0 := HY.out.2.b2.cell 0 (v := .int .i64 0) rfl
  have z1 := HY.out.2.b2.cell 1 (v := .int .i64 0) rfl
  have z2 := HY.out.2.b2.cell 2 (v := .int .i64 0) rfl
  have z3 := HY.out.2.b2.cell 3 (v := .int .i64 0) rfl
  have z4 := HY.out.2.b2.cell 4 (v := .slice none 0 0) rfl
  have z5 := HY.out.2.b2.cell 5 (v := .int .i64 0) rfl
  have z6 := HY.out.2.b2.cell 6 (v := .int .i64 0) rfl
  have zf0 := HY.out.2.b2.free 0
  have zf1 := HY.out.2.b2.free 1
  have zf2 := HY.out.2.b2.free 2
  have zf3 := HY.out.2.b2.free 3
  have zf4 := HY.out.2.b2.free 4
  have zf5 := HY.out.2.b2.free 5
  have zf6 := HY.out.2.b2.free 6
  have l0 := HY.out.2.b0.lt
  have l1 := HY.out.2.b1.lt
  have l2 := HY.out.2.b2.lt
  have lw := HY.out.2.blw.size
  go_cut [58] (fun s58 wx => s58 = .bool false ∧ wx = Y)
  case first =>
    rcases hst' with e1 | ⟨e1, e2⟩
    all_goals
      go_wp2_with fail
      go_meet
      first | exact ⟨rfl, rfl⟩ | exact ⟨by rw [decide_eq_false (by omega)], rfl⟩
  case rest =>
    obtain ⟨rfl, hwc⟩ := hcut
    subst hwc
    go_upto_region 7 with fail
    obtain ⟨Z, hZ, HZ⟩ : ∃ Z, Z = wc.alloc (.cells #[.int .i64 1, .int .i64 m.node, .int .i64 m.inc, .int .i64 m.port, .int .i64 0] 54) ∧ Kept (RX w Z t (some ⟨rb, roff, none⟩) k m b8 (b8 + 1) p rn 1) := ⟨_, rfl, ⟨RX.start hb8l hYs' (by omega) HY.out.1 HY.out.2⟩⟩
    rw [← hZ]
    clear hZ HY HX y0 y1 y2 y3 y4 l0 l1 l2 lw hYs'
    clear k0 k1 k2 k3 k4 k5 k6 m0 m1 m2 m3 z0 z1 z2 z3 z4 z5 z6 zf0 zf1 zf2 zf3 zf4 zf5 zf6
    obtain ⟨ST, hST⟩ : ∃ ST, ST = stateOf t m := ⟨_, rfl⟩
    obtain ⟨TU, hTU⟩ : ∃ TU, TU = turns t p m := ⟨_, rfl⟩
    have HST := Kept.mk hST
    have HTV := Kept.mk hTU
    have HT2 : Kept (TU = ((ST != p.state) || ((m.node != rn) || ((m.inc != p.last.inc) || (m.port != p.last.port))))) := ⟨by rw [hTU, HTU.out, hST]⟩
    clear hST hTU HTU
    have k1 := HZ.out.rw_.b0.cell 1 (v := .int .i64 t.inc) rfl
    have m3 := HZ.out.rw_.b1.cell 3 (v := .int .i64 m.heard) rfl
    have l0 := HZ.out.rw_.b0.lt
    have l1 := HZ.out.rw_.b1.lt
    go_upto_if 71 with fail
    go_cut [] (fun wx => Kept (RX w wx t (some ⟨rb, roff, none⟩) k m b8 (b8 + 1) p rn ST))
    case first =>
      have y0 := HZ.out.c9.cell 0 (v := .int .i64 1) rfl
      have yf := HZ.out.c9.free 0
      have l9 := HZ.out.c9.lt
      rcases bool_int m.heard t.inc with ⟨s1, s2⟩ | ⟨s1, s2⟩
      · have E : Kept (ST = 2) := ⟨by rw [HST.out]; simp [stateOf, show m.heard = t.inc by simpa using s1]⟩
        go_wp2_with fail
        go_meet
        exact ⟨by rw [E.out]; exact HZ.out.set9 2⟩
      · have E : Kept (ST = 1) := ⟨by rw [HST.out]; simp [stateOf, show ¬ m.heard = t.inc by simpa using s1]⟩
        go_wp2_with fail
        go_meet
        exact ⟨by rw [E.out]; exact HZ.out⟩
    case rest =>
      replace HZ := hcut
      clear hcut
      go_upto_region 9 with fail
      clear k1 m3 l0 l1
      have k6 := HZ.out.rw_.b0.cell 6 (v := .int .i64 t.version) rfl
      have kf := HZ.out.rw_.b0.free 6
      have l0 := HZ.out.rw_.b0.lt
      go_cut [98] (fun s98 wx => s98 = .bool TU ∧ wx = wc)
      case first =>
        have y0 := HZ.out.c9.cell 0 (v := .int .i64 ST) rfl
        have y1 := HZ.out.c9.cell 1 (v := .int .i64 m.node) rfl
        have y2 := HZ.out.c9.cell 2 (v := .int .i64 m.inc) rfl
        have y3 := HZ.out.c9.cell 3 (v := .int .i64 m.port) rfl
        have x0 := HZ.out.c8.cell 0 (v := .int .i64 p.state) rfl
        have x1 := HZ.out.c8.cell 1 (v := .int .i64 rn) rfl
        have x2 := HZ.out.c8.cell 2 (v := .int .i64 p.last.inc) rfl
        have x3 := HZ.out.c8.cell 3 (v := .int .i64 p.last.port) rfl
        have l9 := HZ.out.c9.lt
        have l8 := HZ.out.c8.lt
        cases d1 : (ST != p.state) with
        | true =>
          have E : Kept (TU = true) := ⟨by rw [HT2.out, d1]; rfl⟩
          go_wp2_with fail
          go_meet
          exact ⟨by rw [E.out], rfl⟩
        | false =>
          cases d2 : (m.node != rn) with
          | true =>
            have E : Kept (TU = true) := ⟨by rw [HT2.out, d1, d2]; rfl⟩
            go_wp2_with fail
            go_meet
            exact ⟨by rw [E.out], rfl⟩
          | false =>
            cases d3 : (m.inc != p.last.inc) with
            | true =>
              have E : Kept (TU = true) := ⟨by rw [HT2.out, d1, d2, d3]; rfl⟩
              go_wp2_with fail
              go_meet
              exact ⟨by rw [E.out], rfl⟩
            | false =>
              cases d4 : (m.port != p.last.port) with
              | true =>
                have E : Kept (TU = true) := ⟨by rw [HT2.out, d1, d2, d3, d4]; rfl⟩
                go_wp2_with fail
                go_meet
                exact ⟨by rw [E.out], rfl⟩
              | false =>
                have E : Kept (TU = false) := ⟨by rw [HT2.out, d1, d2, d3, d4]; rfl⟩
                go_wp2_with fail
                go_meet
                exact ⟨by rw [E.out], rfl⟩
      case rest =>
       obtain ⟨rfl, hwd⟩ := hcut
       subst hwd
       go_upto_if 98 with fail
       go_cut [] (fun wx => Kept (RX w wx { t with version := t.version + if TU then 1 else 0 } (some ⟨rb, roff, none⟩) k m b8 (b8 + 1) p rn ST))
       case first =>
        cases TU with
        | true =>
          go_wp2_with fail
          go_meet
          exact ⟨HZ.out.ver _⟩
        | false =>
          go_wp2_with fail
          go_meet
          refine ⟨?_⟩
          rw [if_neg (by decide), Int.add_zero]
          exact HZ.out
       case rest =>
        clear k6 kf l0
        replace HZ := hcut
        clear hcut
        have k4 := HZ.out.rw_.b0.cell 4 (v := .slice (some ⟨rb, roff, none⟩) t.ports.length k) rfl
        have l0 := HZ.out.rw_.b0.lt
        have HE6 := Kept.mk (own_lit wc 54 5 0 #[] rfl (by omega))
        have HR6 : Kept (Reads (wc.alloc (.cells #[] 54)) w.heap.size 5 (some ⟨rb, roff, none⟩) t.ports.length (rrow (rports t))) := ⟨(HRD.out.below HZ.out.rw_.blw).alloc HZ.out.rw_.blw.size _⟩
        obtain ⟨jj, hjj, hy0, hy1, hy2⟩ := info_parts info54
        go_upto_region 12 with (at_builtin; refine wpList_append_any _ rfl _ _ _ rfl wc.heap.size 54 jj _ 5 40 Try.underlying33 hjj hy0 hy1 hy2 rfl (by omega) _ 0 _ rfl HE6.out _ _ t.ports.length k _ ?a1 HR6.out (rrow_one _) (by unfold maxLen; omega) (by omega) (by simp) ?_; (case a1 => rfl); intro v' w9 ho hgw hat; replace ho : w9.ownsRow wc.heap.size 54 5 v' t.ports.length (rrow (rports t)) := (by simpa using ho); change World.grownBy _ _ (some wc.heap.size) at hgw; obtain ⟨gq, kq, rfl, -, -⟩ := ho.form n1; have HRY := Kept.mk (HZ.out.copied hgw ho n1); have HZ9 := Kept.mk (HZ.out.new_ (((Below.refl wc.heap.size wc).alloc (Nat.le_refl _) _).grown hgw (by simp) (fun j hj => by injection hj with hj; omega))); clear ho hgw hat k4 l0; have k4 := HZ9.out.rw_.b0.cell 4 (v := .slice (some ⟨rb, roff, none⟩) t.ports.length k) rfl; have kf4 := HZ9.out.rw_.b0.free 4; have l0 := HZ9.out.rw_.b0.lt)
        obtain ⟨V, hV, HV⟩ : ∃ V, V = w9.setCell ⟨w.heap.size, 4, none⟩ (.slice (some ⟨gq, 0, none⟩) t.ports.length kq) ∧ Kept (RY w V { t with version := t.version + if TU then 1 else 0 } gq kq (b8 + 1) m ST wc.heap.size (rrow (rports t))) := ⟨_, rfl, HRY⟩
        rw [← hV]
        clear hV HRY HZ9 HZ HE6 HR6 k4 kf4 l0
        have k4 := HV.out.b0.cell 4 (v := .slice (some ⟨gq, 0, none⟩) t.ports.length kq) rfl
        have l0 := HV.out.b0.lt
        have l9 := HV.out.c9.lt
        have y0 := HV.out.c9.cell 0 (v := .int .i64 ST) rfl
        have y1 := HV.out.c9.cell 1 (v := .int .i64 m.node) rfl
        have y2 := HV.out.c9.cell 2 (v := .int .i64 m.inc) rfl
        have y3 := HV.out.c9.cell 3 (v := .int .i64 m.port) rfl
        have y4 := HV.out.c9.cell 4 (v := .int .i64 0) rfl
        have hi8 : (i : Int) < t.ports.length := by omega
        obtain ⟨r, hr⟩ : ∃ r, (rports t)[i]? = some r := ⟨_, rports_get hp⟩
        have lg := row_lt5 HV.out.own
        obtain ⟨⟨p0, pf0⟩, ⟨p1, pf1⟩, ⟨p2, pf2⟩, ⟨p3, pf3⟩, p4, pf4⟩ := HV.out.slots rfl hr hi
        have hkq := (own_cap HV.out.own).1
        go_upto_region 13 with fail
        obtain ⟨U, hU, HU⟩ : ∃ U, U = ((((V.setCell ⟨gq, i * 5, none⟩ (.int .i64 ST)).setCell ⟨gq, i * 5 + 1, none⟩ (.int .i64 m.node)).setCell ⟨gq, i * 5 + 2, none⟩ (.int .i64 m.inc)).setCell ⟨gq, i * 5 + 3, none⟩ (.int .i64 m.port)).setCell ⟨gq, i * 5 + 4, none⟩ (.int .i64 0) ∧ Kept (RY w U { t with version := t.version + if TU then 1 else 0 } gq kq (b8 + 1) m ST wc.heap.size (rrow ((rports t).set i ⟨ST, m.node, m.inc, m.port, 0⟩))) := ⟨_, rfl, ⟨HV.out.put hr ⟨ST, m.node, m.inc, m.port, 0⟩⟩⟩
        rw [← hU]
        clear hU HV k4 l0 l9 y0 y1 y2 y3 y4 p0 p1 p2 p3 p4 pf0 pf1 pf2 pf3 pf4 hr lg
        obtain ⟨ver, hver⟩ : ∃ ver, ver = t.version + if TU then 1 else 0 := ⟨_, rfl⟩
        rw [← hver] at HU
        have k0 := HU.out.b0.cell 0 (v := .int .i64 t.node) rfl
        have k1 := HU.out.b0.cell 1 (v := .int .i64 t.inc) rfl
        have k2 := HU.out.b0.cell 2 (v := .int .i64 t.every) rfl
        have k3 := HU.out.b0.cell 3 (v := .int .i64 t.dead) rfl
        have k4 := HU.out.b0.cell 4 (v := .slice (some ⟨gq, 0, none⟩) t.ports.length kq) rfl
        have k5 := HU.out.b0.cell 5 (v := .int .i64 t.ticks) rfl
        have k6 := HU.out.b0.cell 6 (v := .int .i64 ver) rfl
        have z0 := HU.out.b2.cell 0 (v := .int .i64 0) rfl
        have z1 := HU.out.b2.cell 1 (v := .int .i64 0) rfl
        have z2 := HU.out.b2.cell 2 (v := .int .i64 0) rfl
        have z3 := HU.out.b2.cell 3 (v := .int .i64 0) rfl
        have z4 := HU.out.b2.cell 4 (v := .slice none 0 0) rfl
        have z5 := HU.out.b2.cell 5 (v := .int .i64 0) rfl
        have z6 := HU.out.b2.cell 6 (v := .int .i64 0) rfl
        have zf0 := HU.out.b2.free 0
        have zf1 := HU.out.b2.free 1
        have zf2 := HU.out.b2.free 2
        have zf3 := HU.out.b2.free 3
        have zf4 := HU.out.b2.free 4
        have zf5 := HU.out.b2.free 5
        have zf6 := HU.out.b2.free 6
        have l0 := HU.out.b0.lt
        have l2 := HU.out.b2.lt
        have HVER := Kept.mk hver
        clear hver
        iterate 14 go_step
        obtain ⟨W9, hW9, hB9, hO9⟩ := fill7 HU.out.b2 (.int .i64 t.node) (.int .i64 t.inc) (.int .i64 t.every) (.int .i64 t.dead) (.slice (some ⟨gq, 0, none⟩) t.ports.length kq) (.int .i64 t.ticks) (.int .i64 ver)
        rw [← hW9]
        have s0 := hB9.cell 0 (v := .int .i64 t.node) rfl
        have s1 := hB9.cell 1 (v := .int .i64 t.inc) rfl
        have s2 := hB9.cell 2 (v := .int .i64 t.every) rfl
        have s3 := hB9.cell 3 (v := .int .i64 t.dead) rfl
        have s4 := hB9.cell 4 (v := .slice (some ⟨gq, 0, none⟩) t.ports.length kq) rfl
        have s5 := hB9.cell 5 (v := .int .i64 t.ticks) rfl
        have s6 := hB9.cell 6 (v := .int .i64 ver) rfl
        have HL9 := Kept.mk (low HU.out.blw hO9 (by omega))
        have HO9 := Kept.mk (own_only HU.out.own hO9 HU.out.hB)
        clear hB9 hO9 hW9
        refine bodyPost_ret (v := .tuple #[.agg #[.int .i64 t.node, .int .i64 t.inc, .int .i64 t.every, .int .i64 t.dead, .slice (some ⟨gq, 0, none⟩) t.ports.length kq, .int .i64 t.ticks, .int .i64 ver], .int .i64 0]) (by simp [results, Try.results18, go_sem, s0, s1, s2, s3, s4, s5, s6]) rfl ?_
        have hlen : (recvAt t i p m).ports.length = t.ports.length := by simp [recvAt]
        have hve : (recvAt t i p m).version = ver := by rw [HVER.out, HTV.out]; rfl
        refine ⟨some ⟨gq, 0, none⟩, kq, by simp only [rval, rcs, hlen, hve]; rfl, RT.made (B := wc.heap.size) ?_ (by omega) (by omega), HL9.out⟩
        have hrp : rports (recvAt t i p m) = (rports t).set i ⟨ST, m.node, m.inc, m.port, 0⟩ := by
          have hq : rof t.ticks ⟨stateOf t m, m, t.ticks⟩ = ⟨ST, m.node, m.inc, m.port, 0⟩ := by
            simp only [rof, if_neg (show m.inc ≠ 0 by omega), HST.out]
            rw [show t.ticks - t.ticks = 0 by omega]
          show (t.ports.set i ⟨stateOf t m, m, t.ticks⟩).map (rof t.ticks) = _
          rw [List.map_set, hq]; rfl
        rw [hlen, hrp]
        exact HO9.out
end Go.Proofs.Ytkbnacboianjkaa
