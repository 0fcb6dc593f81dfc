/- Segment: what results keep while arguments are written over: rows and boxes outside some blocks. -/
import Derived.Test.YtdhajibegkkeiaaPieces
import Derived.Test.YtdhajibegkkeiaaDec
namespace Go.Proofs.Ytdhajibegkkeiaa
set_option linter.unusedVariables false
set_option linter.unusedSimpArgs false
open Go.RowKit
/-- A slice reads as these cells, and lies in no block of S. -/
def Sp (w : World) (S : Nat → Prop) (sz : Nat) (A : Option Addr) (n : Nat) (xs : List Value) : Prop :=
  xs.length = n * sz ∧ (0 < n → ∃ ad, A = some ad ∧ ad.block < w.heap.size ∧ ¬ S ad.block ∧ ∀ j u, xs[j]? = some u → w.cell? (ad.add j) = some u)
/-- A box whose second cell is a slice of bytes that reads so; neither lies in a block of S. -/
def Bx (w : World) (S : Nat → Prop) (b : Nat) (A : Option Addr) (k : Nat) (xs : List Int) : Prop :=
  w.cell? ⟨b, 1, none⟩ = some (.slice A xs.length k) ∧ ¬ S b ∧ b < w.heap.size ∧ Sp w S 1 A xs.length (bv xs)
section
variable {w w' : World} {S S' : Nat → Prop} {sz n k b : Nat} {A : Option Addr} {xs : List Value} {zs : List Int}
theorem Sp.reads (h : Sp w S sz A n xs) : Reads w w.heap.size sz A n xs :=
  ⟨h.1, fun hn => by obtain ⟨ad, e, hb, _, hc⟩ := h.2 hn; exact ⟨ad, e, hb, hc⟩⟩
theorem Sp.new_ (h : Sp w S sz A n xs) (hb : Below w.heap.size w w') : Sp w' S sz A n xs :=
  ⟨h.1, fun hn => by
    obtain ⟨ad, e, hlt, hs, hc⟩ := h.2 hn
    exact ⟨ad, e, Nat.lt_of_lt_of_le hlt hb.size, hs, fun j u hu => (hb.cell (p := ad.add j) (by rw [block_of_add]; exact hlt)).trans (hc j u hu)⟩⟩
theorem Sp.wide (h : Sp w S sz A n xs) (hS : ∀ g, S' g → S g ∨ w.heap.size ≤ g) : Sp w S' sz A n xs :=
  ⟨h.1, fun hn => by
    obtain ⟨ad, e, hlt, hs, hc⟩ := h.2 hn
    exact ⟨ad, e, hlt, fun x => by rcases hS _ x with h1 | h1; exact hs h1; omega, hc⟩⟩
theorem Sp.set (h : Sp w S sz A n xs) {p : Addr} (hp : S p.block) (u : Value) : Sp (w.setCell p u) S sz A n xs :=
  ⟨h.1, fun hn => by
    obtain ⟨ad, e, hlt, hs, hc⟩ := h.2 hn
    exact ⟨ad, e, by simpa [World.setCell] using hlt, hs, fun j v hv => (World.cell?_setCell_other w p (ad.add j) u (fun e => hs (by rw [← block_of_add ad j, ← e]; exact hp))).trans (hc j v hv)⟩⟩
theorem Sp.of_reads {B : Nat} (h : Reads w B sz A n xs) (hB : B ≤ w.heap.size) (hS : ∀ g, S g → B ≤ g) : Sp w S sz A n xs :=
  ⟨h.1, fun hn => by obtain ⟨ad, e, hb, hc⟩ := h.2 hn; exact ⟨ad, e, by omega, fun x => by have := hS _ x; omega, hc⟩⟩
theorem Sp.of_own {B : Nat} {e : TypeId} (h : w.ownsRow B e sz (.slice A n k) n xs) (hS : ∀ g, S g → g < B) : Sp w S sz A n xs := by
  refine ⟨h.1, fun hn => ?_⟩
  obtain ⟨g, cap, hv, hge, hlt⟩ := h.form hn
  have hA : A = some ⟨g, 0, none⟩ := by injection hv
  subst hA
  exact ⟨_, rfl, hlt, fun x => by have := hS _ x; simp only at this; omega, h.cells (g := g) rfl⟩
theorem Bx.new_ (h : Bx w S b A k zs) (hb : Below w.heap.size w w') : Bx w' S b A k zs :=
  ⟨(hb.cell (p := ⟨b, 1, none⟩) h.2.2.1).trans h.1, h.2.1, Nat.lt_of_lt_of_le h.2.2.1 hb.size, h.2.2.2.new_ hb⟩
theorem Bx.wide (h : Bx w S b A k zs) (hS : ∀ g, S' g → S g ∨ w.heap.size ≤ g) : Bx w S' b A k zs :=
  ⟨h.1, fun x => by rcases hS _ x with h1 | h1; exact h.2.1 h1; have := h.2.2.1; omega, h.2.2.1, h.2.2.2.wide hS⟩
theorem Bx.set (h : Bx w S b A k zs) {p : Addr} (hp : S p.block) (u : Value) : Bx (w.setCell p u) S b A k zs :=
  ⟨(World.cell?_setCell_other w p ⟨b, 1, none⟩ u (fun e => h.2.1 (by rw [e] at hp; exact hp))).trans h.1, h.2.1, by simpa [World.setCell] using h.2.2.1, h.2.2.2.set hp u⟩
theorem Bx.of_blk {B : Nat} {x z : Value} (h : Blk w b 24 #[x, .slice A zs.length k, z]) (ho : w.ownsRow B 5 1 (.slice A zs.length k) zs.length (bv zs)) (hb : ¬ S b) (hS : ∀ g, S g → g < B) : Bx w S b A k zs :=
  ⟨h.cell 1 rfl, hb, h.lt, Sp.of_own ho hS⟩
end
/-- Behind the clone: the own row, its box, the argument. -/
structure T0 (w W : World) (d : List Int) (A0 : Option Addr) (g0 m0 b6 : Nat) : Prop where
  bel : Below w.heap.size w W
  own : W.ownsRow w.heap.size 5 1 (.slice (some ⟨g0, 0, none⟩) d.length m0) d.length (bv d)
  hg : w.heap.size ≤ g0
  lt : g0 < W.heap.size
  arg : Sp W (fun g => g = g0) 1 A0 d.length (bv d)
  bx : Blk W b6 24 #[.int .i64 5, .slice (some ⟨g0, 0, none⟩) d.length m0, .bool false]
  by_ : Bytes d
theorem T0.new_ {w W W' : World} {d : List Int} {A0 : Option Addr} {g0 m0 b6 : Nat} (h : T0 w W d A0 g0 m0 b6) (hb : Below W.heap.size W W') : T0 w W' d A0 g0 m0 b6 :=
  ⟨join h.bel hb, own_new h.own hb, h.hg, Nat.lt_of_lt_of_le h.lt hb.size, h.arg.new_ hb, h.bx.new_ hb, h.by_⟩
theorem T0.made {w W w1 : World} {d : List Int} {A0 A2 : Option Addr} {m0 : Nat} (hr : Reads w w.heap.size 1 A0 d.length (bv d)) (hby : Bytes d) (h1 : Below w.heap.size w w1) (ho : W.ownsRow w1.heap.size 5 1 (.slice A2 d.length m0) d.length (bv d)) (hb : Below w1.heap.size w1 W) (hn : 0 < d.length) :
    ∃ g0, A2 = some ⟨g0, 0, none⟩ ∧ T0 w (W.alloc (.cells #[.int .i64 5, .slice A2 d.length m0, .bool false] 24)) d A0 g0 m0 W.heap.size := by
  rcases ho.2 with ⟨_, h2⟩ | ⟨g, cap, cur, e1, h2, h3, _⟩
  · omega
  · injection e1 with e1
    subst e1
    have hlt : g < W.heap.size := by
      rcases Nat.lt_or_ge g W.heap.size with hlt | hge
      · exact hlt
      · rw [Array.getElem?_eq_none hge] at h3; cases h3
    have hJ := join h1 hb
    refine ⟨g, rfl, hJ.alloc hJ.size _, (own_base ho h1.size).alloc _, by have := h1.size; omega, by simp only [World.size_alloc]; omega, ?_, Blk.new _ _ _, hby⟩
    exact Sp.of_reads (hr.below (hJ.alloc hJ.size _)) (by have := hJ.size; simp only [World.size_alloc]; omega) (fun x hx => by have := h1.size; subst hx; omega)
theorem T0.seg {w W : World} {d : List Int} {A0 : Option Addr} {g0 m0 b6 : Nat} (h : T0 w W d A0 g0 m0 b6) : SegAt W W.heap.size ⟨5, d, false⟩ (some ⟨g0, 0, none⟩) m0 := own_seg h.own h.by_
theorem T0.cells {w W : World} {d : List Int} {A0 : Option Addr} {g0 m0 b6 : Nat} (h : T0 w W d A0 g0 m0 b6) : W.cell? ⟨b6, 0, none⟩ = some (.int .i64 5) ∧ W.cell? ⟨b6, 1, none⟩ = some (.slice (some ⟨g0, 0, none⟩) d.length m0) ∧ W.cell? ⟨b6, 2, none⟩ = some (.bool false) :=
  ⟨h.bx.cell 0 rfl, h.bx.cell 1 rfl, h.bx.cell 2 rfl⟩
/-- All that is read at the end, outside the blocks of S. -/
structure T1 (W : World) (S : Nat → Prop) (d : List Int) (A9 : Option Addr) (g7 : Nat) (A7 : Option Addr) (k7 : Nat) : Prop where
  l7 : Bx W S g7 A7 k7 d
  b9 : Sp W S 1 A9 d.length (bv d)
theorem T1.new_ {W W' : World} {S : Nat → Prop} {d : List Int} {A9 A7 : Option Addr} {g7 k7 : Nat} (h : T1 W S d A9 g7 A7 k7) (hb : Below W.heap.size W W') : T1 W' S d A9 g7 A7 k7 := ⟨h.l7.new_ hb, h.b9.new_ hb⟩
structure Fin (w W : World) (d : List Int) (k g0 m0 gc mc n8 : Nat) (A0 A9 : Option Addr) (g7 : Nat) (A7 : Option Addr) (k7 b15 : Nat) (A15 : Option Addr) (k15 b17 : Nat) (A17 : Option Addr) (k17 b18 : Nat) (A18 : Option Addr) (k18 : Nat) : Prop where
  bel : Below w.heap.size w W
  own : ∃ zs : List Int, W.ownsRow w.heap.size 5 1 (.slice (some ⟨g0, 0, none⟩) d.length m0) d.length (bv zs)
  cod : ∃ zs : List Int, W.ownsRow w.heap.size 5 1 (.slice (some ⟨gc, 0, none⟩) n8 mc) n8 (bv zs)
  hne : g0 ≠ gc
  h0 : w.heap.size ≤ g0
  hc : w.heap.size ≤ gc
  arg : Sp W (fun g => g = g0 ∨ g = gc) 1 A0 d.length (bv d)
  b9 : Sp W (fun g => g = g0 ∨ g = gc) 1 A9 d.length (bv d)
  l7 : Bx W (fun g => g = g0 ∨ g = gc) g7 A7 k7 d
  d15 : Bx W (fun g => g = g0 ∨ g = gc) b15 A15 k15 d
  x17 : Bx W (fun g => g = g0 ∨ g = gc) b17 A17 k17 (d.take k)
  x18 : Bx W (fun g => g = g0 ∨ g = gc) b18 A18 k18 (d.drop k)
section
variable {w W : World} {d : List Int} {k g0 m0 gc mc n8 : Nat} {A0 A9 : Option Addr} {g7 : Nat} {A7 : Option Addr} {k7 b15 : Nat} {A15 : Option Addr} {k15 b17 : Nat} {A17 : Option Addr} {k17 b18 : Nat} {A18 : Option Addr} {k18 : Nat}
theorem bv_set (zs : List Int) (i : Nat) (y : Int) : (bv zs).set i (.int .u8 y) = bv (zs.set i y) := by simp [bv, List.map_set]
theorem row_at {W : World} {B g n m : Nat} {zs : List Int} (h : W.ownsRow B 5 1 (.slice (some ⟨g, 0, none⟩) n m) n (bv zs)) {i : Nat} (hi : i < n) : W.cell? ⟨g, i, none⟩ = some (.int .u8 (zs.getD i 0)) ∧ W.frozen? ⟨g, i, none⟩ = false := by
  have hl : zs.length = n := by have := h.1; rw [bv_len] at this; omega
  exact ⟨by rw [World.ownsRow.cellAt h i (by omega), bv_get (by omega)], World.ownsRow.frozenAt h i⟩
theorem Fin.at0 (h : Fin w W d k g0 m0 gc mc n8 A0 A9 g7 A7 k7 b15 A15 k15 b17 A17 k17 b18 A18 k18) {i : Nat} (hi : i < d.length) : ∃ x, W.cell? ⟨g0, i, none⟩ = some (.int .u8 x) ∧ W.frozen? ⟨g0, i, none⟩ = false := by
  obtain ⟨zs, hz⟩ := h.own
  exact ⟨_, row_at hz hi⟩
theorem Fin.at1 (h : Fin w W d k g0 m0 gc mc n8 A0 A9 g7 A7 k7 b15 A15 k15 b17 A17 k17 b18 A18 k18) {i : Nat} (hi : i < n8) : ∃ x, W.cell? ⟨gc, i, none⟩ = some (.int .u8 x) ∧ W.frozen? ⟨gc, i, none⟩ = false := by
  obtain ⟨zs, hz⟩ := h.cod
  exact ⟨_, row_at hz hi⟩
theorem row_far {W : World} {B g n m g' i : Nat} {xs : List Value} (h : W.ownsRow B 5 1 (.slice (some ⟨g, 0, none⟩) n m) n xs) (hne : g ≠ g') (u : Value) : (W.setCell ⟨g', i, none⟩ u).ownsRow B 5 1 (.slice (some ⟨g, 0, none⟩) n m) n xs :=
  own_move h fun x hx => by
    have : g = x := by simpa [Value.ownBlock] using hx
    subst this
    exact Below.heap_setCell W ⟨g', i, none⟩ u _ hne
theorem Fin.put0 (h : Fin w W d k g0 m0 gc mc n8 A0 A9 g7 A7 k7 b15 A15 k15 b17 A17 k17 b18 A18 k18) (i : Nat) (y : Int) : Fin w (W.setCell ⟨g0, i, none⟩ (.int .u8 y)) d k g0 m0 gc mc n8 A0 A9 g7 A7 k7 b15 A15 k15 b17 A17 k17 b18 A18 k18 := by
  obtain ⟨zs, hz⟩ := h.own
  obtain ⟨ys, hy⟩ := h.cod
  refine ⟨h.bel.setCell (p := ⟨g0, i, none⟩) h.h0 _, ⟨zs.set i y, ?_⟩, ⟨ys, row_far hy (fun e => h.hne e.symm) _⟩, h.hne, h.h0, h.hc, h.arg.set (.inl rfl) _, h.b9.set (.inl rfl) _, h.l7.set (.inl rfl) _, h.d15.set (.inl rfl) _, h.x17.set (.inl rfl) _, h.x18.set (.inl rfl) _⟩
  rw [← bv_set]
  exact (World.ownsRow.stored hz i (.int .u8 y)).1
theorem Fin.put1 (h : Fin w W d k g0 m0 gc mc n8 A0 A9 g7 A7 k7 b15 A15 k15 b17 A17 k17 b18 A18 k18) (i : Nat) (y : Int) : Fin w (W.setCell ⟨gc, i, none⟩ (.int .u8 y)) d k g0 m0 gc mc n8 A0 A9 g7 A7 k7 b15 A15 k15 b17 A17 k17 b18 A18 k18 := by
  obtain ⟨zs, hz⟩ := h.own
  obtain ⟨ys, hy⟩ := h.cod
  refine ⟨h.bel.setCell (p := ⟨gc, i, none⟩) h.hc _, ⟨zs, row_far hz h.hne _⟩, ⟨ys.set i y, ?_⟩, h.hne, h.h0, h.hc, h.arg.set (.inr rfl) _, h.b9.set (.inr rfl) _, h.l7.set (.inr rfl) _, h.d15.set (.inr rfl) _, h.x17.set (.inr rfl) _, h.x18.set (.inr rfl) _⟩
  rw [← bv_set]
  exact (World.ownsRow.stored hy i (.int .u8 y)).1
theorem Fin.new_ {W' : World} (h : Fin w W d k g0 m0 gc mc n8 A0 A9 g7 A7 k7 b15 A15 k15 b17 A17 k17 b18 A18 k18) (hb : Below W.heap.size W W') : Fin w W' d k g0 m0 gc mc n8 A0 A9 g7 A7 k7 b15 A15 k15 b17 A17 k17 b18 A18 k18 := by
  obtain ⟨zs, hz⟩ := h.own
  obtain ⟨ys, hy⟩ := h.cod
  exact ⟨join h.bel hb, ⟨zs, own_new hz hb⟩, ⟨ys, own_new hy hb⟩, h.hne, h.h0, h.hc, h.arg.new_ hb, h.b9.new_ hb, h.l7.new_ hb, h.d15.new_ hb, h.x17.new_ hb, h.x18.new_ hb⟩
end
/-- Ahead of the cut. -/
structure Pv (w W : World) (d : List Int) (k g0 m0 gc mc n8 : Nat) (A0 A9 : Option Addr) (g7 : Nat) (A7 : Option Addr) (k7 b15 : Nat) (A15 : Option Addr) (k15 : Nat) : Prop where
  bel : Below w.heap.size w W
  own : W.ownsRow w.heap.size 5 1 (.slice (some ⟨g0, 0, none⟩) d.length m0) d.length (bv d)
  cod : ∃ zs : List Int, W.ownsRow w.heap.size 5 1 (.slice (some ⟨gc, 0, none⟩) n8 mc) n8 (bv zs)
  hne : g0 ≠ gc
  h0 : w.heap.size ≤ g0
  hc : w.heap.size ≤ gc
  arg : Sp W (fun g => g = g0 ∨ g = gc) 1 A0 d.length (bv d)
  b9 : Sp W (fun g => g = g0 ∨ g = gc) 1 A9 d.length (bv d)
  l7 : Bx W (fun g => g = g0 ∨ g = gc) g7 A7 k7 d
  d15 : Bx W (fun g => g = g0 ∨ g = gc) b15 A15 k15 d
theorem row_lt {w : World} {B g n m : Nat} {xs : List Value} (h : w.ownsRow B 5 1 (.slice (some ⟨g, 0, none⟩) n m) n xs) : g < w.heap.size := (h.lt g rfl).2
theorem own_ne5 {w : World} {B n k g b : Nat} {cs : Array Value} {xs : List Value} (h : w.ownsRow B 5 1 (.slice (some ⟨g, 0, none⟩) n k) n xs) (hb : Blk w b 24 cs) : b ≠ g := by
  rintro rfl
  rcases h.2 with ⟨h1, _⟩ | ⟨g1, c1, u1, h1, _, h3, _⟩
  · cases h1
  · injection h1 with h1
    injection h1 with h1
    injection h1 with h1
    subst h1
    unfold Blk at hb
    rw [hb] at h3
    injection h3 with h3
    injection h3 with _ h4
    cases h4
theorem Pv.fin {w V W : World} {d d17 d18 : List Int} {k g0 m0 gc mc n8 : Nat} {A0 A9 : Option Addr} {g7 : Nat} {A7 : Option Addr} {k7 b15 : Nat} {A15 : Option Addr} {k15 b17 b18 : Nat} {A17 A18 : Option Addr} {k17 k18 : Nat} {o17 o18 : Int} {la17 la18 : Bool} (h : Pv w V d k g0 m0 gc mc n8 A0 A9 g7 A7 k7 b15 A15 k15) (hp : Pc V W b17 b18 ⟨⟨o17, d17, la17⟩, A17, k17⟩ ⟨⟨o18, d18, la18⟩, A18, k18⟩) (e1 : d17 = d.take k) (e2 : d18 = d.drop k) :
    Fin w W d k g0 m0 gc mc n8 A0 A9 g7 A7 k7 b15 A15 k15 b17 A17 k17 b18 A18 k18 := by
  obtain ⟨zs, hz⟩ := h.cod
  have l0 := row_lt h.own
  have l1 := row_lt hz
  have hS : ∀ g, (g = g0 ∨ g = gc) → g < V.heap.size := fun g hg => by rcases hg with rfl | rfl; exact l0; exact l1
  have hb := hp.bel
  have r0 := own_new h.own hb
  have r1 := own_new hz hb
  refine ⟨join h.bel hb, ⟨d, r0⟩, ⟨zs, r1⟩, h.hne, h.h0, h.hc, h.arg.new_ hb, h.b9.new_ hb, h.l7.new_ hb, h.d15.new_ hb, ?_, ?_⟩
  · rw [← e1]
    exact Bx.of_blk hp.x8 hp.o8.1 (fun x => by rcases x with x | x; exact own_ne5 r0 hp.x8 x; exact own_ne5 r1 hp.x8 x) hS
  · rw [← e2]
    exact Bx.of_blk hp.x9 hp.o9.1 (fun x => by rcases x with x | x; exact own_ne5 r0 hp.x9 x; exact own_ne5 r1 hp.x9 x) hS
theorem splitP_one {d : List Int} (h0 : 0 < d.length) (h1 : d.length ≤ 64) : splitE d.length 5 64 false = 0 ∧ splitP d 5 64 false = [⟨5, d, false⟩] := by
  have hn : nP d.length 64 false = 1 := by
    unfold nP pieces
    rw [if_neg (by simp)]
    omega
  have hE : splitE d.length 5 64 false = 0 := by
    unfold splitE
    have hb : badB d.length 5 64 = false := by
      simp only [badB, Bool.or_eq_false_iff, decide_eq_false_iff_not]
      omega
    rw [hb]
    show (if 1000 < nP d.length 64 false then (5 : Int) else 0) = 0
    rw [hn]; rfl
  refine ⟨hE, ?_⟩
  unfold splitP
  rw [if_pos hE]
  show splitK d 5 64 false (nP d.length 64 false) (nP d.length 64 false) = _
  rw [hn]
  simp [splitK, segI]
  rw [Nat.min_eq_right h1, List.take_length]
end Go.Proofs.Ytdhajibegkkeiaa
