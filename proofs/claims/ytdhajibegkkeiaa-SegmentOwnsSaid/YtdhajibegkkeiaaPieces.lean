/- Segment: two boxes with a cut segment's pieces, step by step in any order. -/
import Derived.Test.YtdhajibegkkeiaaCutB
import Derived.Test.YtdhajibegkkeiaaGreat
import Derived.Test.YtdhajibegkkeiaaJoin
import Derived.Test.YtdhajibegkkeiaaPlainK
import Derived.Test.YtdhajibegkkeiaaLits
import Derived.Deep.RegionHeld3
import Derived.Deep.DeepCutAuto
namespace Go.Proofs.Ytdhajibegkkeiaa
set_option linter.unusedVariables false
set_option linter.unusedSimpArgs false
open Go.RowKit
theorem al_step (W : World) (cs : Array Value) : ∃ W' b, W' = W.alloc (.cells cs 24) ∧ b = W.heap.size ∧ Below W.heap.size W W' ∧ Blk W' b 24 cs := ⟨_, _, rfl, rfl, (Below.refl _ _).alloc (Nat.le_refl _) _, Blk.new _ _ _⟩
theorem st_step {X : World} {b : Nat} {a0 a1 a2 : Value} (h : Blk X b 24 #[a0, a1, a2]) (x y z : Value) : ∃ X', X' = ((X.setCell ⟨b, 0, none⟩ x).setCell ⟨b, 1, none⟩ y).setCell ⟨b, 2, none⟩ z ∧ Blk X' b 24 #[x, y, z] ∧ OnlyP (fun g => g = b) X X' :=
  ⟨_, rfl, ((h.set_ 0 x).set_ 1 y).to 2 z (by simp), (((OnlyP.refl (fun g => g = b) X).set (p := ⟨b, 0, none⟩) (.inl rfl) _).set (p := ⟨b, 1, none⟩) (.inl rfl) _).set (p := ⟨b, 2, none⟩) (.inl rfl) _⟩
theorem own_mv {w w' : World} {B sz n : Nat} {e : TypeId} {v : Value} {xs : List Value} (h : w.ownsRow B e sz v n xs) (hk : ∀ g, v.ownBlock = some g → w'.heap[g]? = w.heap[g]?) : w'.ownsRow B e sz v n xs := by
  refine ⟨h.1, ?_⟩
  rcases h.2 with h2 | ⟨g, cap, cur, rfl, h2, h3, h4⟩
  · exact .inl h2
  · exact .inr ⟨g, cap, cur, rfl, h2, (hk g rfl).trans h3, h4⟩
theorem OwnS.new_ {w w' : World} {B : Nat} {p : PSeg} (h : OwnS w B p) (hb : Below w.heap.size w w') : OwnS w' B p := ⟨own_mv h.1 fun g hg => hb.block g (h.1.lt g hg).2, h.2⟩
theorem OwnS.base {w : World} {B B' : Nat} {p : PSeg} (h : OwnS w B p) (hB : B' ≤ B) : OwnS w B' p := by
  refine ⟨⟨h.1.1, ?_⟩, h.2⟩
  rcases h.1.2 with h2 | ⟨g, cap, cur, h1, h2, h3⟩
  · exact .inl h2
  · exact .inr ⟨g, cap, cur, h1, by omega, h3⟩
theorem OwnS.only {w w' : World} {B b : Nat} {p : PSeg} {cs : Array Value} (h : OwnS w B p) (hk : OnlyP (fun g => g = b) w w') (hb : Blk w b 24 cs) : OwnS w' B p :=
  ⟨own_mv h.1 (fun g hg => hk.block g (h.1.lt g hg).2 (fun e => by
    subst e
    rcases h.1.2 with ⟨h2, _⟩ | ⟨g', cap, cur, h1, _, h3, _⟩
    · rw [h2] at hg; simp [Value.ownBlock] at hg
    · rw [h1] at hg
      simp [Value.ownBlock] at hg
      subst hg
      unfold Blk at hb
      rw [hb] at h3
      injection h3 with h3
      injection h3 with _ h3
      exact absurd h3 (by decide))), h.2⟩
theorem pc_keep {w2 W : World} {b0 o : Nat} {v0 v1 v2 : Value} (h : Below w2.heap.size w2 W) (hb : b0 < w2.heap.size) (c1 : w2.cell? ⟨b0, o, none⟩ = some v0) (c2 : w2.cell? ⟨b0, o + 1, none⟩ = some v1) (c3 : w2.cell? ⟨b0, o + 2, none⟩ = some v2) : W.cell? ⟨b0, o, none⟩ = some v0 ∧ W.cell? ⟨b0, o + 1, none⟩ = some v1 ∧ W.cell? ⟨b0, o + 2, none⟩ = some v2 :=
  ⟨(h.cell (p := ⟨b0, o, none⟩) hb).trans c1, (h.cell (p := ⟨b0, o + 1, none⟩) hb).trans c2, (h.cell (p := ⟨b0, o + 2, none⟩) hb).trans c3⟩
structure Pc (w2 W : World) (b8 b9 : Nat) (p1 q1 : PSeg) : Prop where
  x8 : Blk W b8 24 #[.int .i64 p1.s.off, .slice p1.A p1.s.data.length p1.kap, .bool p1.s.last]
  x9 : Blk W b9 24 #[.int .i64 q1.s.off, .slice q1.A q1.s.data.length q1.kap, .bool q1.s.last]
  o8 : OwnS W w2.heap.size p1
  o9 : OwnS W w2.heap.size q1
  bel : Below w2.heap.size w2 W
theorem Pc.new_ {w2 W W' : World} {b8 b9 : Nat} {p1 q1 : PSeg} (h : Pc w2 W b8 b9 p1 q1) (hb : Below W.heap.size W W') : Pc w2 W' b8 b9 p1 q1 := ⟨h.x8.new_ hb, h.x9.new_ hb, h.o8.new_ hb, h.o9.new_ hb, join h.bel hb⟩
theorem Pc.cells {w2 W : World} {b8 b9 : Nat} {p1 q1 : PSeg} (h : Pc w2 W b8 b9 p1 q1) : W.cell? ⟨b8, 0, none⟩ = some (.int .i64 p1.s.off) ∧ W.cell? ⟨b8, 1, none⟩ = some (.slice p1.A p1.s.data.length p1.kap) ∧ W.cell? ⟨b8, 2, none⟩ = some (.bool p1.s.last) ∧ W.cell? ⟨b9, 0, none⟩ = some (.int .i64 q1.s.off) ∧ W.cell? ⟨b9, 1, none⟩ = some (.slice q1.A q1.s.data.length q1.kap) ∧ W.cell? ⟨b9, 2, none⟩ = some (.bool q1.s.last) :=
  ⟨h.x8.cell 0 rfl, h.x8.cell 1 rfl, h.x8.cell 2 rfl, h.x9.cell 0 rfl, h.x9.cell 1 rfl, h.x9.cell 2 rfl⟩
structure Pq (w2 : World) (Bc b8 b9 : Nat) (p1 q1 : PSeg) (X : World) : Prop where
  pc : Pc w2 X b8 b9 p1 q1
  h8 : b8 < Bc
  h9 : b9 < Bc
  hB : w2.heap.size ≤ Bc
  l8 : ∀ g, (Value.slice p1.A p1.s.data.length p1.kap).ownBlock = some g → g < Bc
  l9 : ∀ g, (Value.slice q1.A q1.s.data.length q1.kap).ownBlock = some g → g < Bc
theorem Pc.q {w2 X : World} {b8 b9 : Nat} {p1 q1 : PSeg} (h : Pc w2 X b8 b9 p1 q1) : Pq w2 X.heap.size b8 b9 p1 q1 X :=
  ⟨h, h.x8.lt, h.x9.lt, h.bel.size, fun g hg => (h.o8.1.lt g hg).2, fun g hg => (h.o9.1.lt g hg).2⟩
theorem Pq.new_ {w2 X X' : World} {Bc b8 b9 : Nat} {p1 q1 : PSeg} (h : Pq w2 Bc b8 b9 p1 q1 X) (hb : Below X.heap.size X X') : Pq w2 Bc b8 b9 p1 q1 X' := ⟨h.pc.new_ hb, h.h8, h.h9, h.hB, h.l8, h.l9⟩
theorem Pq.grown {w2 X X' : World} {Bc b8 b9 : Nat} {p1 q1 : PSeg} {row : Option Nat} (h : Pq w2 Bc b8 b9 p1 q1 X) (hg : X.grownBy X' row) (hr : ∀ g, row = some g → Bc ≤ g) : Pq w2 Bc b8 b9 p1 q1 X' := by
  have ne : ∀ g, g < Bc → some g ≠ row := fun g hlt e => by have := hr g e.symm; omega
  exact ⟨⟨(hg.block _ h.pc.x8.lt (ne _ h.h8)).trans h.pc.x8, (hg.block _ h.pc.x9.lt (ne _ h.h9)).trans h.pc.x9, ⟨own_mv h.pc.o8.1 fun g e => hg.block g (h.pc.o8.1.lt g e).2 (ne _ (h.l8 g e)), h.pc.o8.2⟩, ⟨own_mv h.pc.o9.1 fun g e => hg.block g (h.pc.o9.1.lt g e).2 (ne _ (h.l9 g e)), h.pc.o9.2⟩, h.pc.bel.grown hg h.pc.bel.size (fun g e => Nat.le_trans h.hB (hr g e))⟩, h.h8, h.h9, h.hB, h.l8, h.l9⟩
theorem rd6 {W : World} {b : Nat} {ps : List PSeg} {cs : Array Value} (h : Blk W b 24 cs) (he : cs.toList = scells ps) : Reads W W.heap.size 3 (some ⟨b, 0, none⟩) ps.length (scells ps) :=
  ⟨scells_len ps, fun _ => ⟨_, rfl, h.lt, fun j u hu => by
    have hadd : (⟨b, 0, none⟩ : Addr).add j = ⟨b, j, none⟩ := by unfold Addr.add; split <;> simp_all
    rw [hadd]
    rw [← he] at hu
    exact h.cell j (by simpa using hu)⟩⟩
theorem scells_take (l : List PSeg) (k : Nat) : scells (l.take k) = (scells l).take (k * 3) := by
  induction l generalizing k with
  | nil => simp [scells]
  | cons a l ih =>
    cases k with
    | zero => simp [scells]
    | succ k => rw [show (k + 1) * 3 = k * 3 + 3 by omega, List.take_succ_cons, scells_cons, scells_cons, ih]; rfl
theorem scells_drop (l : List PSeg) (k : Nat) : scells (l.drop k) = (scells l).drop (k * 3) := by
  induction l generalizing k with
  | nil => simp [scells]
  | cons a l ih =>
    cases k with
    | zero => simp
    | succ k => rw [show (k + 1) * 3 = k * 3 + 3 by omega, List.drop_succ_cons, scells_cons, ih]; rfl
theorem Reads.take3 {w : World} {B n k : Nat} {A : Option Addr} {l : List PSeg} (h : Reads w B 3 A n (scells l)) (hn : l.length = n) (hk : k ≤ n) : Reads w B 3 A k (scells (l.take k)) := by
  refine ⟨by rw [scells_len, List.length_take]; omega, fun h0 => ?_⟩
  obtain ⟨ad, e, hlt, hc⟩ := h.2 (by omega)
  refine ⟨ad, e, hlt, fun j u hu => hc j u ?_⟩
  rw [scells_take] at hu
  have hj := (List.getElem?_eq_some_iff.1 hu).1
  rw [List.length_take] at hj
  rwa [List.getElem?_take_of_lt (by omega)] at hu
theorem Reads.tail3 {w : World} {B n kap i b0 off : Nat} {A' : Option Addr} {l : List PSeg} (h : Reads w B 3 (some ⟨b0, off, none⟩) n (scells l)) (hn : l.length = n) (hi : i < n) (hnk : n ≤ kap) (hA : A' = if kap = i + 1 then some (⟨b0, off, none⟩ : Addr) else (some (⟨b0, off, none⟩ : Addr)).map fun x => x.add ((i + 1) * 3)) : Reads w B 3 A' (n - (i + 1)) (scells (l.drop (i + 1))) := by
  refine ⟨by rw [scells_len, List.length_drop]; omega, fun h0 => ?_⟩
  obtain ⟨ad, e, hlt, hc⟩ := h.2 (by omega)
  injection e with e
  subst e
  rw [if_neg (by omega)] at hA
  have hadd : ∀ x j : Nat, (⟨b0, x, none⟩ : Addr).add j = ⟨b0, x + j, none⟩ := fun x j => by unfold Addr.add; split <;> simp_all
  refine ⟨⟨b0, off + (i + 1) * 3, none⟩, by rw [hA, Option.map_some, hadd], hlt, fun j u hu => ?_⟩
  rw [scells_drop, List.getElem?_drop] at hu
  have := hc _ u hu
  rw [hadd] at this ⊢
  rw [Nat.add_assoc]; exact this
theorem pieces_join {l : List PSeg} {k n : Nat} {p p1 q1 : PSeg} {r r' : Res} (hp : l[k]? = some p) (hl : l.length ≤ 40) (hv : validB p.s = true) (hn : n ≤ p.s.data.length) (h1 : p1.s = ⟨p.s.off, p.s.data.take n, false⟩) (h2 : q1.s = ⟨p.s.off + n, p.s.data.drop n, p.s.last⟩)
    (j1 : JoinIs (segs l) r) (j2 : JoinIs (segs (l.take k ++ [p1, q1] ++ l.drop (k + 1))) r') : r = r' := by
  have hkl : k < l.length := (List.getElem?_eq_some_iff.1 hp).1
  have hlen : (segs (l.take k ++ [p1, q1] ++ l.drop (k + 1))).length ≤ 1000 := by rw [segs_len]; simp; omega
  have hlen1 : (segs l).length ≤ 1000 := by rw [segs_len]; omega
  have hsplit : l = l.take k ++ p :: l.drop (k + 1) := by
    have := List.take_append_drop k l
    rw [List.drop_eq_getElem_cons hkl] at this
    rw [(List.getElem?_eq_some_iff.1 hp).2] at this
    exact this.symm
  have m1 : ∀ t, t ∈ segs l ↔ t ∈ segs (l.take k) ++ segs (l.drop (k + 1)) ∨ t = p.s := fun t => by
    conv => lhs; rw [hsplit]
    simp only [segs, List.map_append, List.map_cons, List.mem_append, List.mem_cons]
    constructor
    · rintro (h | h | h)
      · exact .inl (.inl h)
      · exact .inr h
      · exact .inl (.inr h)
    · rintro ((h | h) | h)
      · exact .inl h
      · exact .inr (.inr h)
      · exact .inr (.inl h)
  have m2 : ∀ t, t ∈ segs (l.take k ++ [p1, q1] ++ l.drop (k + 1)) ↔ t ∈ segs (l.take k) ++ segs (l.drop (k + 1)) ∨ t = ⟨p.s.off, p.s.data.take n, false⟩ ∨ t = ⟨p.s.off + n, p.s.data.drop n, p.s.last⟩ := fun t => by
    simp only [segs, List.map_append, List.map_cons, List.map_nil, List.mem_append, List.mem_cons, List.not_mem_nil, or_false, h1, h2]
    constructor
    · rintro ((h | h) | h)
      · exact .inl (.inl h)
      · exact .inr h
      · exact .inl (.inr h)
    · rintro ((h | h) | h)
      · exact .inl (.inl h)
      · exact .inr h
      · exact .inl (.inr h)
  obtain ⟨v1, v2⟩ := valid_pieces hv hn
  have hne1 : segs l ≠ [] := fun e => by have h9 := congrArg List.length e; rw [segs_len] at h9; simp only [List.length_append, List.length_cons, List.length_nil] at h9; omega
  have hne2 : segs (l.take k ++ [p1, q1] ++ l.drop (k + 1)) ≠ [] := fun e => by have h9 := congrArg List.length e; rw [segs_len] at h9; simp only [List.length_append, List.length_cons, List.length_nil] at h9; omega
  by_cases hall : AllV (segs l)
  · refine joinIs_uniq ((alike_cut hn m1 m2).join j1 hlen1 hlen hall (fun t ht => ?_) hne1 hne2) j2
    rcases (m2 t).1 ht with h | h | h
    · exact hall t ((m1 t).2 (.inl h))
    · rw [h]; exact v1
    · rw [h]; exact v2
  · have hall2 : ¬ AllV (segs (l.take k ++ [p1, q1] ++ l.drop (k + 1))) := fun ha => hall fun t ht => by
      rcases (m1 t).1 ht with h | h
      · exact ha t ((m2 t).2 (.inl h))
      · rw [h]; exact hv
    rw [joinIs_uniq j1 (.bad hlen1 hall), joinIs_uniq j2 (.bad hlen hall2)]
theorem seg_tail {A A' : Option Addr} {n kap i : Nat} (w : World) (hi : i < n) (hA : A' = if kap = i + 1 then A else A.map fun x => x.add ((i + 1) * 3)) :
    (Instr.sliceAt 34 (.slice A n kap) (some (.int .i64 ((i : Int) + 1))) none none).run Try.prog w = .ok (.slice A' (n - (i + 1)) (kap - (i + 1))) w := by
  rw [run_sliceAt_slice w 34 _ _ _ _ (show Try.prog.underlying 34 = some (.slice (Try.prog.elem 34)) by kernel_rfl)]
  rw [run_slice_l w 34 A n kap (show Try.prog.underlying 34 = some (.slice (Try.prog.elem 34)) by kernel_rfl) .i64 ((i : Int) + 1) (by omega) (by omega), hA]
  have hs : (sizeOf (Try.prog.elem 34)).run Try.prog w = .ok 3 w := by kernel_rfl
  have ht : ((i : Int) + 1).toNat = i + 1 := by omega
  simp [hs, Result.andThen, sliced, ht]
theorem seg_head {A : Option Addr} {n kap i : Nat} (w : World) (hi : i ≤ kap) (h0 : 0 < kap) :
    (Instr.sliceAt 34 (.slice A n kap) none (some (.int .i64 (i : Int))) none).run Try.prog w = .ok (.slice A i kap) w := by
  rw [run_sliceAt_slice w 34 _ _ _ _ (show Try.prog.underlying 34 = some (.slice (Try.prog.elem 34)) by kernel_rfl)]
  rw [run_slice_h w 34 A n kap (show Try.prog.underlying 34 = some (.slice (Try.prog.elem 34)) by kernel_rfl) .i64 (i : Int) (by omega) (by omega)]
  have hs : (sizeOf (Try.prog.elem 34)).run Try.prog w = .ok 3 w := by kernel_rfl
  have hz : ∀ a : Addr, a.add 0 = a := fun a => by obtain ⟨x, y, z⟩ := a; simp [Addr.add]
  cases A with
  | none => simp [hs, Result.andThen, sliced]
  | some a => simp [hs, Result.andThen, sliced, hz]
end Go.Proofs.Ytdhajibegkkeiaa
