/- Setup: the reference's functions, by the same plain rules (printed by gen_ref.py). -/
import Derived.Test.YtnmgnggchgckoaaRun
import Derived.Test.YtnmgnggchgckoaaEnd
namespace Go.Proofs.Ytnmgnggchgckoaa
set_option linter.unusedVariables false
set_option linter.unusedSimpArgs false
open Go.RowKit
theorem info58 : (Try.prog.info? 58).map (fun i => (i.zero, i.size, i.bytes)) = some (some (.agg #[.int .i64 0, .int .i64 0, .int .i64 0]), 3, 24) := by kernel_rfl
/-- The reference's chain, by value: where its two lists lie. -/
structure At where
  A : Option Addr
  k : Nat
  D : Option Addr
  m : Nat
def refVal (c : Ch) (a : At) : Value := .agg #[.int .i64 c.conn, .int .i64 c.need, .slice a.A c.n a.k, .slice a.D c.n a.m]
def refCells (c : Ch) (a : At) : Array Value := #[.int .i64 c.conn, .int .i64 c.need, .slice a.A c.n a.k, .slice a.D c.n a.m]
theorem reads_row {w : World} {g n : Nat} {cur : Array Value} {l : List Int} (h : Blk w g 3 cur) (hc : cur.toList.take n = iv l) (hl : l.length = n) : Reads w w.heap.size 1 (some ⟨g, 0, none⟩) n (iv l) :=
  ⟨by simp [iv, hl], fun _ => ⟨_, rfl, h.lt, fun j u hu => by
    have hj : j < n := by have := (List.getElem?_eq_some_iff.1 hu).1; simp [iv] at this; omega
    have hadd : (⟨g, 0, none⟩ : Addr).add j = ⟨g, j, none⟩ := by unfold Addr.add; split <;> simp_all
    rw [hadd, h.cell j ?_]
    rw [← hc, List.getElem?_take_of_lt hj] at hu
    simpa using hu⟩⟩
structure RefV (w : World) (c : Ch) (a : At) : Prop where
  roomsR : ∃ g cur, a.A = some ⟨g, 0, none⟩ ∧ Blk w g 3 cur ∧ cur.toList.take c.n = iv c.rooms
  stsR : ∃ g cur, a.D = some ⟨g, 0, none⟩ ∧ Blk w g 3 cur ∧ cur.toList.take c.n = iv c.states
  ok : Ok c
theorem RefV.rooms {w : World} {c : Ch} {a : At} (h : RefV w c a) : Reads w w.heap.size 1 a.A c.n (iv c.rooms) := by
  obtain ⟨g, cur, e, h1, h2⟩ := h.roomsR
  rw [e]; exact reads_row h1 h2 h.ok.len
theorem RefV.sts {w : World} {c : Ch} {a : At} (h : RefV w c a) : Reads w w.heap.size 1 a.D c.n (iv c.states) := by
  obtain ⟨g, cur, e, h1, h2⟩ := h.stsR
  rw [e]; exact reads_row h1 h2 rfl
/-- A store into a box of another type leaves it. -/
theorem RefV.far {w : World} {c : Ch} {a : At} (h : RefV w c a) {p : Nat} {es : Array Value} (hp : Blk w p 51 es) (o : Nat) (v : Value) : RefV (w.setCell ⟨p, o, none⟩ v) c a := by
  obtain ⟨g, cur, e, h1, h2⟩ := h.roomsR
  obtain ⟨g', cur', e', h1', h2'⟩ := h.stsR
  exact ⟨⟨g, cur, e, h1.far (p := ⟨p, o, none⟩) (h1.ne_ hp (by decide)) v, h2⟩, ⟨g', cur', e', h1'.far (p := ⟨p, o, none⟩) (h1'.ne_ hp (by decide)) v, h2'⟩, h.ok⟩
theorem RefV.new_ {w w' : World} {c : Ch} {a : At} (h : RefV w c a) (hb : Below w.heap.size w w') : RefV w' c a :=
  by
  obtain ⟨g, cur, e, h1, h2⟩ := h.roomsR
  obtain ⟨g', cur', e', h1', h2'⟩ := h.stsR
  exact ⟨⟨g, cur, e, h1.new_ hb, h2⟩, ⟨g', cur', e', h1'.new_ hb, h2'⟩, h.ok⟩
theorem RefV.alloc {w : World} {c : Ch} {a : At} (h : RefV w c a) (o : Obj) : RefV (w.alloc o) c a := h.new_ ((Below.refl _ _).alloc (Nat.le_refl _) o)
theorem RefV.drewN {w : World} {c : Ch} {a : At} (h : RefV w c a) (n : Nat) : RefV (w.drewN n) c a := h.new_ (dN (Below.refl _ _) n)
theorem RefV.state {w : World} {c : Ch} {a : At} (h : RefV w c a) {i : Nat} (hi : i < c.n) : ∃ b off, a.D = some ⟨b, off, none⟩ ∧ b < w.heap.size ∧ w.cell? ⟨b, off + i, none⟩ = some (.int .i64 (c.st i)) := by
  obtain ⟨b, off, e, hb, -, hc⟩ := h.sts.spot (by have := h.ok.n1; omega) (by omega)
  exact ⟨b, off, e, hb, hc i _ (iv_get hi)⟩
theorem RefV.room {w : World} {c : Ch} {a : At} (h : RefV w c a) {i : Nat} (hi : i < c.n) : ∃ b off, a.A = some ⟨b, off, none⟩ ∧ b < w.heap.size ∧ w.cell? ⟨b, off + i, none⟩ = some (.int .i64 (c.room i)) := by
  obtain ⟨b, off, e, hb, -, hc⟩ := h.rooms.spot (by have := h.ok.n1; omega) (by omega)
  exact ⟨b, off, e, hb, hc i _ (iv_get (by rw [h.ok.len]; exact hi))⟩
/-- Where the lists lie behind: the rooms stay, the states' row is the old one or new. -/
structure Fr (w : World) (a0 a : At) : Prop where
  A : a.A = a0.A
  D : a.D = a0.D ∨ ∃ g, a.D = some ⟨g, 0, none⟩ ∧ w.heap.size ≤ g
theorem Fr.of {w W : World} {a0 a : At} (h : Fr W a0 a) (hw : w.heap.size ≤ W.heap.size) : Fr w a0 a :=
  ⟨h.A, h.D.imp id fun ⟨g, e, hg⟩ => ⟨g, e, Nat.le_trans hw hg⟩⟩
def RSets (w : World) (a0 : At) (c : Ch) (ms : List Msg) (e : Ending) (w' : World) : Prop :=
  ∃ (a : At) (v : Value), e = .returned (.tuple #[refVal c a, v]) ∧ RefV w' c a ∧ w'.ownsRow w.heap.size 58 3 v ms.length (mcells ms) ∧ Below w.heap.size w w' ∧ Fr w a0 a
def RRecvs (w : World) (r : Ch × List Msg × Int) (e : Ending) (w' : World) : Prop :=
  ∃ (a : At) (v : Value), e = .returned (.tuple #[refVal r.1 a, v, .int .i64 r.2.2]) ∧ RefV w' r.1 a ∧ w'.ownsRow w.heap.size 58 3 v r.2.1.length (mcells r.2.1) ∧ Below w.heap.size w w'

theorem Blk.grown {w w' : World} {g : Nat} {t : TypeId} {cs : Array Value} {row : Option Nat} (h : Blk w g t cs) (hb : w.grownBy w' row) (hg : some g ≠ row) : Blk w' g t cs := (hb.block g h.lt hg).trans h
theorem boxC {w : World} {cs ds : Array Value} {t u : TypeId} (o : Obj) : Blk (((w.alloc (.cells cs t)).alloc (.cells ds u)).alloc o) w.heap.size t cs := ((Blk.new w t cs).alloc _).alloc _
theorem boxD {w : World} {cs ds : Array Value} {t u : TypeId} (o : Obj) : Blk (((w.alloc (.cells cs t)).alloc (.cells ds u)).alloc o) (w.heap.size + 1) u ds := by
  have := (Blk.new (w.alloc (.cells cs t)) u ds).alloc o; simpa using this
theorem take_set {cur : Array Value} {l : List Int} {n : Nat} (h : cur.toList.take n = iv l) (i : Nat) (s : Int) : (cur.setIfInBounds i (.int .i64 s)).toList.take n = iv (l.set i s) := by
  rw [Array.toList_setIfInBounds, List.take_set, h]
  simp [iv, List.map_set]
theorem grown_below {B : Nat} {w w' w1 : World} {row : Option Nat} (h : Below B w w') (hg : w'.grownBy w1 row) (hw : B ≤ w.heap.size) (hr : ∀ k, row = some k → B ≤ k) : Below B w w1 :=
  ⟨hg.os.trans h.os, hg.tape.trans h.tape, hg.output.trans h.output, Nat.le_trans h.size hg.size, fun k hk => (hg.block k (Nat.lt_of_lt_of_le hk (Nat.le_trans hw h.size)) (fun e => by have := hr k e.symm; omega)).trans (h.block k hk)⟩
theorem own_msg {W : World} {B g : Nat} (m : Msg) (hB : B ≤ g) (h : Blk W g 58 #[.int .i64 m.kind, .int .i64 m.conn, .int .i64 m.dest]) : W.ownsRow B 58 3 (.slice (some ⟨g, 0, none⟩) 1 1) 1 (mcells [m]) :=
  ⟨by simp [mcells], .inr ⟨g, 1, _, rfl, hB, h, Nat.le_refl _, by unfold maxLen; omega, by simp, by simp [mcells]⟩⟩
theorem ref_end {w W : World} {c : Ch} {a : At} (h : RefV w c a) (hb : Below w.heap.size w W) {g kk i : Nat} {s : Int} {cur : Array Value} (hB : Blk W g 3 (cur.setIfInBounds i (.int .i64 s))) (h5 : cur.toList.take c.n = iv c.states) (hi : i < c.n) (s0 : 0 ≤ s) (s5 : s ≤ 5) :
    RefV W (c.put i s) { a with D := some ⟨g, 0, none⟩, m := kk } :=
  by
  obtain ⟨g1, cur1, e1, h1, h2⟩ := h.roomsR
  exact ⟨⟨g1, cur1, e1, by exact h1.new_ hb, by rw [put_n]; exact h2⟩, ⟨g, _, rfl, hB, by rw [put_n]; exact take_set h5 i s⟩, h.ok.put hi s0 s5⟩
theorem ne_row {a b : Nat} (h : a ≠ b) : some a ≠ some b := by simp [h]
theorem row_cell {w : World} {g : Nat} {c : Ch} {cur : Array Value} (h : Blk w g 3 cur) (h5 : cur.toList.take c.n = iv c.states) {i : Nat} (hi : i < c.n) : w.cell? ⟨g, i, none⟩ = some (.int .i64 (c.st i)) := by
  refine h.cell i ?_
  have := iv_get (l := c.states) hi
  rw [← h5, List.getElem?_take_of_lt hi] at this
  simpa [Ch.st] using this
theorem hB_no (c : Ch) {d : Int} (h : d < 0 ∨ (c.n : Int) ≤ d) : c.hasB d = false := by
  unfold Ch.hasB
  rcases h with h | h <;> simp <;> omega
/-- The row is new, the boxes are two more: what the walk ends with. -/
theorem set_mid {w w1 : World} {g i : Nat} {s : Int} {cur ds es : Array Value} (hC : Blk w1 w.heap.size 51 ds) (hD : Blk w1 (w.heap.size + 1) 51 es) (hG : Blk w1 g 3 cur) (hW : Below w.heap.size w w1) (hg : w.heap.size + 2 ≤ g) (V : Value) :
    Blk ((w1.setCell ⟨w.heap.size, 3, none⟩ V).setCell ⟨g, i, none⟩ (.int .i64 s)) w.heap.size 51 (ds.setIfInBounds 3 V) ∧ Blk ((w1.setCell ⟨w.heap.size, 3, none⟩ V).setCell ⟨g, i, none⟩ (.int .i64 s)) (w.heap.size + 1) 51 es ∧ Blk ((w1.setCell ⟨w.heap.size, 3, none⟩ V).setCell ⟨g, i, none⟩ (.int .i64 s)) g 3 (cur.setIfInBounds i (.int .i64 s)) ∧ Below w.heap.size w ((w1.setCell ⟨w.heap.size, 3, none⟩ V).setCell ⟨g, i, none⟩ (.int .i64 s)) :=
  ⟨(hC.set_ 3 V).far (p := ⟨g, i, none⟩) (by show w.heap.size ≠ g; omega) _, (hD.far (p := ⟨w.heap.size, 3, none⟩) (by show w.heap.size + 1 ≠ w.heap.size; omega) _).far (p := ⟨g, i, none⟩) (by show w.heap.size + 1 ≠ g; omega) _,
    (hG.far (p := ⟨w.heap.size, 3, none⟩) (by show g ≠ w.heap.size; omega) _).set_ i _, (hW.setCell (p := ⟨w.heap.size, 3, none⟩) (Nat.le_refl _) _).setCell (p := ⟨g, i, none⟩) (by show w.heap.size ≤ g; omega) _⟩
theorem set_out {w W : World} {g : Nat} {es cur : Array Value} {x y z u : Value} (hD : Blk W (w.heap.size + 1) 51 es) (he : es.size = 4) (hG : Blk W g 3 cur) (hW : Below w.heap.size w W) (hg : w.heap.size + 2 ≤ g) :
    Blk ((((W.setCell ⟨w.heap.size + 1, 0, none⟩ x).setCell ⟨w.heap.size + 1, 1, none⟩ y).setCell ⟨w.heap.size + 1, 2, none⟩ z).setCell ⟨w.heap.size + 1, 3, none⟩ u) (w.heap.size + 1) 51 #[x, y, z, u] ∧ Blk ((((W.setCell ⟨w.heap.size + 1, 0, none⟩ x).setCell ⟨w.heap.size + 1, 1, none⟩ y).setCell ⟨w.heap.size + 1, 2, none⟩ z).setCell ⟨w.heap.size + 1, 3, none⟩ u) g 3 cur ∧ Below w.heap.size w ((((W.setCell ⟨w.heap.size + 1, 0, none⟩ x).setCell ⟨w.heap.size + 1, 1, none⟩ y).setCell ⟨w.heap.size + 1, 2, none⟩ z).setCell ⟨w.heap.size + 1, 3, none⟩ u) := by
  obtain ⟨l⟩ := es
  match l, he with
  | [e0, e1, e2, e3], _ =>
  have far : ∀ {W : World} (o : Nat) (v : Value), Blk W g 3 cur → Blk (W.setCell ⟨w.heap.size + 1, o, none⟩ v) g 3 cur := fun o v h => h.far (p := ⟨w.heap.size + 1, o, none⟩) (by show g ≠ w.heap.size + 1; omega) v
  have up : ∀ {W : World} (o : Nat) (v : Value), Below w.heap.size w W → Below w.heap.size w (W.setCell ⟨w.heap.size + 1, o, none⟩ v) := fun o v h => h.setCell (p := ⟨w.heap.size + 1, o, none⟩) (by show w.heap.size ≤ w.heap.size + 1; omega) v
  exact ⟨(((hD.set_ 0 x).set_ 1 y).set_ 2 z).to 3 u (by simp), far _ _ (far _ _ (far _ _ (far _ _ hG))), up _ _ (up _ _ (up _ _ (up _ _ hW)))⟩
theorem set4 {W : World} {p : Nat} {x y z u : Value} : ((((W.setCell ⟨p, 0, none⟩ x).setCell ⟨p, 1, none⟩ y).setCell ⟨p, 2, none⟩ z).setCell ⟨p, 3, none⟩ u).heap.size = W.heap.size := by simp only [setSize]
set_option maxHeartbeats 4000000 in
theorem set_c (c : Ch) (a : At) (i : Nat) (s k d : Int) (w : World) (h : RefV w c a) (hi : i < c.n) (s0 : 0 ≤ s) (s5 : s ≤ 5) :
    Calls Try.prog 40 #[refVal c a, .int .i64 i, .int .i64 s, .int .i64 k, .int .i64 d] w (RSets w a (c.put i s) (sendP c k d)) := by
  obtain ⟨i0, hi0, hz0, hz1, hz2⟩ := info_parts info3
  have hn := h.ok.n2
  have hn1 := h.ok.n1
  have HH := Kept.mk h
  have HRS := Kept.mk ((((h.alloc (.cells (refCells c a) 51)).alloc (.cells #[.int .i64 0, .int .i64 0, .slice none 0 0, .slice none 0 0] 51)).alloc (.cells #[] 3))).sts
  have HO : Kept ((((w.alloc (.cells (refCells c a) 51)).alloc (.cells #[.int .i64 0, .int .i64 0, .slice none 0 0, .slice none 0 0] 51)).alloc (.cells #[] 3)).ownsRow (w.heap.size + 2) 3 1 (.slice (some ⟨w.heap.size + 1 + 1, 0, none⟩) 0 0) 0 []) := ⟨by
    have h0 := World.ownsRow_lit (base := w.heap.size + 2) (e := 3) (size := 1) ((w.alloc (.cells (refCells c a) 51)).alloc (.cells #[.int .i64 0, .int .i64 0, .slice none 0 0, .slice none 0 0] 51)) #[] 0 (by simp) (by unfold maxLen; omega) rfl
    simp only [World.size_alloc] at h0
    exact h0⟩
  have HBC := Kept.mk (boxC (w := w) (cs := refCells c a) (ds := #[.int .i64 0, .int .i64 0, .slice none 0 0, .slice none 0 0]) (t := 51) (u := 51) (.cells #[] 3))
  have HBD := Kept.mk (boxD (w := w) (cs := refCells c a) (ds := #[.int .i64 0, .int .i64 0, .slice none 0 0, .slice none 0 0]) (t := 51) (u := 51) (.cells #[] 3))
  have HB3 : Kept (Below w.heap.size w (((w.alloc (.cells (refCells c a) 51)).alloc (.cells #[.int .i64 0, .int .i64 0, .slice none 0 0, .slice none 0 0] 51)).alloc (.cells #[] 3))) := ⟨(((Below.refl _ _).alloc (Nat.le_refl _) _).alloc (by simp) _).alloc (by simp; omega) _⟩
  unfold refVal refCells at *
  clear h
  have HCASE : d < 0 ∨ ((c.n : Int) ≤ d ∧ 0 ≤ d ∧ ¬ d < 0) ∨ (0 ≤ d ∧ d < (c.n : Int) ∧ ¬ d < 0 ∧ ¬ (c.n : Int) ≤ d) := by omega
  rcases HCASE with y1 | ⟨y1, y2, y3⟩ | ⟨y1, y2, y3, y4⟩
  all_goals go_enter Try.func40, Try.ntmps40
  all_goals go_wp2_with (at_builtin; go_loud (refine wpList_append_any _ rfl _ _ _ rfl (w.heap.size + 2) 3 i0 _ 1 8 Try.underlying22 hi0 hz0 hz1 hz2 rfl (by omega) _ 0 _ rfl HO.out _ a.D c.n a.m (iv c.states) rfl HRS.out (iv_one _) (by unfold maxLen; omega) (by omega) (by simp) ?_); intro v1 w1 ho hg _; go_loud (simp only [Nat.zero_add, List.nil_append] at ho); go_loud (obtain ⟨g, kk, cur, rfl, hg1, hg2, hg3, hg4, hg5⟩ := own_form ho (by omega)); have HC1 := Kept.mk (HBC.out.grown (row := some (w.heap.size + 1 + 1)) hg (ne_row (by omega))); have HD1 := Kept.mk (HBD.out.grown (row := some (w.heap.size + 1 + 1)) hg (ne_row (by omega))); have cC := HC1.out.cell 3 (v := .slice a.D c.n a.m) rfl; have fC := HC1.out.free 3; have c0 := HC1.out.cell 0 (v := .int .i64 c.conn) rfl; have c1 := HC1.out.cell 1 (v := .int .i64 c.need) rfl; have c2 := HC1.out.cell 2 (v := .slice a.A c.n a.k) rfl; have f0 := HC1.out.free 0; have f1 := HC1.out.free 1; have f2 := HC1.out.free 2; have d0 := HD1.out.cell 0 (v := .int .i64 0) rfl; have d1 := HD1.out.cell 1 (v := .int .i64 0) rfl; have d2 := HD1.out.cell 2 (v := .slice none 0 0) rfl; have d3 := HD1.out.cell 3 (v := .slice none 0 0) rfl; have e0 := HD1.out.free 0; have e1 := HD1.out.free 1; have e2 := HD1.out.free 2; have e3 := HD1.out.free 3; have lD := HD1.out.lt; have n3 : g ≠ w.heap.size + 1 := (by omega); have n4 : w.heap.size + 1 ≠ g := (by omega); have n5 : w.heap.size + 1 ≠ w.heap.size := (by omega); have n6 : w.heap.size ≠ w.heap.size + 1 := (by omega); have lC := HC1.out.lt; have hcg := row_cell hg2 hg5 hi; have fg := hg2.free i; have lg := hg2.lt; have n1 : g ≠ w.heap.size := (by omega); have n2 : w.heap.size ≠ g := (by omega); have HG := Kept.mk hg2; have HW1 := Kept.mk (grown_below (row := some (w.heap.size + 1 + 1)) HB3.out hg (Nat.le_refl _) (fun k e => by cases e; omega)); clear ho hg)
  · rw [sendP, hB_no c (.inl y1)]
    obtain ⟨m1, m2, m3, m4⟩ := set_mid (i := i) (s := s) HC1.out HD1.out HG.out HW1.out hg1 (.slice (some ⟨g, 0, none⟩) c.n kk)
    obtain ⟨q1, q2, q3⟩ := set_out (x := .int .i64 c.conn) (y := .int .i64 c.need) (z := .slice a.A c.n a.k) (u := .slice (some ⟨g, 0, none⟩) c.n kk) m2 rfl m3 m4 hg1
    generalize World.setCell _ _ _ = WF at *
    have k0 := q1.cell 0 (v := .int .i64 c.conn) rfl
    have k1 := q1.cell 1 (v := .int .i64 c.need) rfl
    have k2 := q1.cell 2 (v := .slice a.A c.n a.k) rfl
    have k3 := q1.cell 3 (v := .slice (some ⟨g, 0, none⟩) c.n kk) rfl
    exact bodyPost_ret (v := .tuple #[.agg #[.int .i64 c.conn, .int .i64 c.need, .slice a.A c.n a.k, .slice (some ⟨g, 0, none⟩) c.n kk], .slice none 0 0]) (by simp [results, Try.results40, go_sem, k0, k1, k2, k3]) rfl ⟨{ a with D := some ⟨g, 0, none⟩, m := kk }, .slice none 0 0, by rw [refVal, put_n]; rfl, ref_end HH.out q3 q2 hg5 hi s0 s5, World.ownsRow_nil _ _ _ _, q3, ⟨rfl, .inr ⟨g, rfl, by omega⟩⟩⟩
  · rw [sendP, hB_no c (.inr y1)]
    obtain ⟨m1, m2, m3, m4⟩ := set_mid (i := i) (s := s) HC1.out HD1.out HG.out HW1.out hg1 (.slice (some ⟨g, 0, none⟩) c.n kk)
    obtain ⟨q1, q2, q3⟩ := set_out (x := .int .i64 c.conn) (y := .int .i64 c.need) (z := .slice a.A c.n a.k) (u := .slice (some ⟨g, 0, none⟩) c.n kk) m2 rfl m3 m4 hg1
    generalize World.setCell _ _ _ = WF at *
    have k0 := q1.cell 0 (v := .int .i64 c.conn) rfl
    have k1 := q1.cell 1 (v := .int .i64 c.need) rfl
    have k2 := q1.cell 2 (v := .slice a.A c.n a.k) rfl
    have k3 := q1.cell 3 (v := .slice (some ⟨g, 0, none⟩) c.n kk) rfl
    exact bodyPost_ret (v := .tuple #[.agg #[.int .i64 c.conn, .int .i64 c.need, .slice a.A c.n a.k, .slice (some ⟨g, 0, none⟩) c.n kk], .slice none 0 0]) (by simp [results, Try.results40, go_sem, k0, k1, k2, k3]) rfl ⟨{ a with D := some ⟨g, 0, none⟩, m := kk }, .slice none 0 0, by rw [refVal, put_n]; rfl, ref_end HH.out q3 q2 hg5 hi s0 s5, World.ownsRow_nil _ _ _ _, q3, ⟨rfl, .inr ⟨g, rfl, by omega⟩⟩⟩
  · obtain ⟨m1, m2, m3, m4⟩ := set_mid (i := i) (s := s) HC1.out HD1.out HG.out HW1.out hg1 (.slice (some ⟨g, 0, none⟩) c.n kk)
    generalize ((w1.setCell ⟨w.heap.size, 3, none⟩ (.slice (some ⟨g, 0, none⟩) c.n kk)).setCell ⟨g, i, none⟩ (.int .i64 s)) = W2 at *
    clear cC fC c0 c1 c2 f0 f1 f2 d0 d1 d2 d3 e0 e1 e2 e3 lD n1 n2 n3 n4 n5 n6 lC hcg fg lg HC1 HD1 HG HW1 HRS HO HBC HBD HB3
    have c0 := m1.cell 0 (v := .int .i64 c.conn) rfl
    have c1 := m1.cell 1 (v := .int .i64 c.need) rfl
    have c2 := m1.cell 2 (v := .slice a.A c.n a.k) rfl
    have c3 := m1.cell 3 (v := .slice (some ⟨g, 0, none⟩) c.n kk) rfl
    have d0 := m2.cell 0 (v := .int .i64 0) rfl
    have d1 := m2.cell 1 (v := .int .i64 0) rfl
    have d2 := m2.cell 2 (v := .slice none 0 0) rfl
    have d3 := m2.cell 3 (v := .slice none 0 0) rfl
    have e0 := m2.free 0
    have e1 := m2.free 1
    have e2 := m2.free 2
    have e3 := m2.free 3
    have lD := m2.lt
    have lC := m1.lt
    have M1 := Kept.mk m1
    have M2 := Kept.mk m2
    have M3 := Kept.mk m3
    have M4 := Kept.mk m4
    have HQ := Kept.mk hg5
    clear m1 m2 m3 m4 hg5
    go_region
    all_goals go_wp2_with fail
    obtain ⟨q1, q2, q3⟩ := set_out (x := .int .i64 c.conn) (y := .int .i64 c.need) (z := .slice a.A c.n a.k) (u := .slice (some ⟨g, 0, none⟩) c.n kk) M2.out rfl M3.out M4.out hg1
    have hz := set4 (W := W2) (p := w.heap.size + 1) (x := .int .i64 c.conn) (y := .int .i64 c.need) (z := .slice a.A c.n a.k) (u := .slice (some ⟨g, 0, none⟩) c.n kk)
    rw [sendP, if_pos (by simp [Ch.hasB, y1, y2])]
    generalize ((((W2.setCell ⟨w.heap.size + 1, 0, none⟩ (.int .i64 c.conn)).setCell ⟨w.heap.size + 1, 1, none⟩ (.int .i64 c.need)).setCell ⟨w.heap.size + 1, 2, none⟩ (.slice a.A c.n a.k)).setCell ⟨w.heap.size + 1, 3, none⟩ (.slice (some ⟨g, 0, none⟩) c.n kk)) = WF at *
    have bm := (Blk.new WF 58 #[.int .i64 k, .int .i64 c.conn, .int .i64 d]).drew
    rw [hz] at bm
    have p1 := (q1.alloc (.cells #[.int .i64 k, .int .i64 c.conn, .int .i64 d] 58)).drew
    have p2 := (q2.alloc (.cells #[.int .i64 k, .int .i64 c.conn, .int .i64 d] 58)).drew
    have p3 : Below w.heap.size w (WF.alloc (.cells #[.int .i64 k, .int .i64 c.conn, .int .i64 d] 58)).drew := dN (q3.alloc q3.size _) 1
    generalize (WF.alloc (.cells #[.int .i64 k, .int .i64 c.conn, .int .i64 d] 58)).drew = WG at *
    have k0 := p1.cell 0 (v := .int .i64 c.conn) rfl
    have k1 := p1.cell 1 (v := .int .i64 c.need) rfl
    have k2 := p1.cell 2 (v := .slice a.A c.n a.k) rfl
    have k3 := p1.cell 3 (v := .slice (some ⟨g, 0, none⟩) c.n kk) rfl
    exact bodyPost_ret (v := .tuple #[.agg #[.int .i64 c.conn, .int .i64 c.need, .slice a.A c.n a.k, .slice (some ⟨g, 0, none⟩) c.n kk], .slice (some ⟨W2.heap.size, 0, none⟩) 1 1]) (by simp [results, Try.results40, go_sem, k0, k1, k2, k3]) rfl ⟨{ a with D := some ⟨g, 0, none⟩, m := kk }, .slice (some ⟨W2.heap.size, 0, none⟩) 1 1, by rw [refVal, put_n]; rfl, ref_end HH.out p3 p2 HQ.out hi s0 s5, own_msg ⟨k, c.conn, d⟩ (by omega) bm, p3, ⟨rfl, .inr ⟨g, rfl, by omega⟩⟩⟩
end Go.Proofs.Ytnmgnggchgckoaa
