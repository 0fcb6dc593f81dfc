/- A queue: a slice of ints whose head has been cut off, appended to. -/
import Derived.Test.YtckigonkcjceeaaEBfs
import Derived.Test.YtckigonkcjceeaaETreeW
import Derived.Deep.AppendSrc
import Derived.Deep.LoopGhost
namespace Go.Proofs.Ytckigonkcjceeaa
set_option linter.unusedVariables false
set_option linter.unusedSimpArgs false
open Go.RowKit
/-- The ints Q lie in block g from offset off on; there is room for cap of them. -/
structure QAt (w : World) (g off cap : Nat) (Q : List Int) : Prop where
  lt : g < w.heap.size
  le : Q.length ≤ cap
  max : cap ≤ maxLen
  cells : ∀ j x, Q[j]? = some x → w.cell? ⟨g, off + j, none⟩ = some (.int .i64 x)
  there : ∀ j, j < cap → (w.cell? ⟨g, off + j, none⟩).isSome = true ∧ w.frozen? ⟨g, off + j, none⟩ = false
section
variable {w w' : World} {g off cap : Nat} {Q : List Int}
theorem QAt.block (h : QAt w g off cap Q) (hs : w.heap.size ≤ w'.heap.size) (hb : w'.heap[g]? = w.heap[g]?) : QAt w' g off cap Q :=
  ⟨Nat.lt_of_lt_of_le h.lt hs, h.le, h.max, fun j x hx => (World.cell?_of_block (a := ⟨g, off + j, none⟩) hb).trans (h.cells j x hx), fun j hj => ⟨by rw [World.cell?_of_block (a := ⟨g, off + j, none⟩) hb]; exact (h.there j hj).1, (World.frozen?_of_block (a := ⟨g, off + j, none⟩) hb).trans (h.there j hj).2⟩⟩
theorem QAt.new_ (h : QAt w g off cap Q) (hb : Below w.heap.size w w') : QAt w' g off cap Q := h.block hb.size (hb.block g h.lt)
theorem QAt.only {S : Nat → Prop} (h : QAt w g off cap Q) (k : OnlyP S w w') (hne : ¬ S g) : QAt w' g off cap Q := h.block k.size (k.block g h.lt hne)
theorem QAt.far (h : QAt w g off cap Q) {p : Addr} (hp : g ≠ p.block) (u : Value) : QAt (w.setCell p u) g off cap Q := h.block (by simp) (Below.heap_setCell w p u g hp)
theorem QAt.alloc (h : QAt w g off cap Q) (o : Obj) : QAt (w.alloc o) g off cap Q := h.block (by simp) (Below.heap_alloc w o g h.lt)
theorem QAt.drewN (h : QAt w g off cap Q) (n : Nat) : QAt (w.drewN n) g off cap Q := ⟨h.lt, h.le, h.max, h.cells, h.there⟩
theorem QAt.drew (h : QAt w g off cap Q) : QAt w.drew g off cap Q := ⟨h.lt, h.le, h.max, h.cells, h.there⟩
theorem QAt.tail {x : Int} (h : QAt w g off cap (x :: Q)) : QAt w g (off + 1) (cap - 1) Q := by
  have h1 := h.le
  rw [List.length_cons] at h1
  refine ⟨h.lt, by omega, by have := h.max; omega, fun j y hy => ?_, fun j hj => ?_⟩
  · have := h.cells (j + 1) y (by simpa using hy)
    rwa [show off + (j + 1) = off + 1 + j by omega] at this
  · have := h.there (j + 1) (by omega)
    rwa [show off + (j + 1) = off + 1 + j by omega] at this
theorem QAt.one (w : World) (x : Int) : QAt (w.alloc (.cells #[.int .i64 x] 3)) w.heap.size 0 1 [x] := by
  have hb := Blk.new w 3 #[.int .i64 x]
  refine ⟨by simp, by simp, by unfold maxLen; omega, fun j y hy => ?_, fun j hj => ?_⟩
  · have hj : j = 0 := by
      rcases Nat.eq_zero_or_pos j with h | h
      · exact h
      · rw [List.getElem?_eq_none (by simp; omega)] at hy; cases hy
    subst hj
    simp at hy
    subst hy
    exact hb.cell 0 rfl
  · obtain rfl : j = 0 := by omega
    exact ⟨by rw [show (0 : Nat) + 0 = 0 from rfl, hb.cell 0 (v := .int .i64 x) rfl]; rfl, hb.free 0⟩
end
theorem infoI' : ∃ i : TypeInfo, Try.prog.info? 3 = some i ∧ i.zero = some (.int .i64 0) ∧ i.size = 1 ∧ i.bytes = 8 := by
  obtain ⟨i, h, h0, h1, h2⟩ := info_parts infoI
  exact ⟨i, h, h0, h1, h2⟩
/-- append of one int onto the queue. -/
theorem run_append_q (w : World) (ty : TypeId) {g off cap : Nat} {Q : List Int} (h : QAt w g off cap Q) (ad : Addr) (x : Int) (c : Nat) (hx : w.cell? ad = some (.int .i64 x)) (hQ : Q.length ≤ 1000000) :
    ∃ v' w' g' off' cap', (Builtin.append_ #[61, 61] ty #[.slice (some ⟨g, off, none⟩) Q.length cap, .slice (some ad) 1 c]).run Try.prog w = .ok v' w' ∧ v' = .slice (some ⟨g', off', none⟩) (Q.length + 1) cap' ∧ QAt w' g' off' cap' (Q ++ [x]) ∧ OnlyP (· = g) w w' ∧ (g' = g ∨ g' = w.heap.size) := by
  obtain ⟨i, hi, h0, h1, h2⟩ := infoI'
  have ht : Try.prog.underlying 61 = some (.slice 3) := Try.underlying61
  have hsrc : Src Try.prog i.size 61 (.slice (some ad) 1 c) 1 [.int .i64 x] w := by
    rw [h1]
    refine Src.ofSlice w ht ad 1 c _ rfl (fun j u hu => ?_) (fun u hu => by simp at hu; subst hu; rfl)
    have hj : j = 0 := by
      rcases Nat.eq_zero_or_pos j with h | h
      · exact h
      · rw [List.getElem?_eq_none (by simp; omega)] at hu; cases hu
    subst hj
    simp at hu
    subst hu
    rw [show ad.add 0 = ad by simp [Addr.add]]
    exact hx
  by_cases hfit : Q.length + 1 ≤ cap
  · have hth := h.there Q.length (by omega)
    have hrun := run_append_room_src (P := Try.prog) w 61 61 ty 3 i ht hi g off Q.length cap _ 1 _ hsrc hfit (fun j hj => by
      have : j = 0 := by simpa using hj
      subst this
      rw [h1, Nat.mul_one, Nat.add_zero]; exact hth.1) (fun j hj => by
      have : j = 0 := by simpa using hj
      subst this
      rw [h1, Nat.mul_one, Nat.add_zero]; exact hth.2)
    rw [h1, Nat.mul_one] at hrun
    refine ⟨_, _, g, off, cap, hrun, rfl, ?_, ?_, .inl rfl⟩
    · obtain ⟨v, hv⟩ := Option.isSome_iff_exists.1 hth.1
      show QAt (w.setCell ⟨g, off + Q.length, none⟩ (.int .i64 x)) g off cap (Q ++ [x])
      refine ⟨by simpa using h.lt, by simpa using hfit, h.max, fun j y hy => ?_, fun j hj => ?_⟩
      · by_cases hj : j = Q.length
        · subst hj
          rw [World.cell?_setCell_same _ _ _ hv]
          simp at hy
          rw [hy]
        · rw [World.cell?_setCell_other (h := fun e => hj (by injection e with _ e; omega))]
          refine h.cells j y ?_
          rcases Nat.lt_or_ge j Q.length with h3 | h3
          · rwa [List.getElem?_append_left h3] at hy
          · rw [List.getElem?_eq_none (by simp; omega)] at hy; cases hy
      · rw [World.frozen?_setCell]
        refine ⟨?_, (h.there j hj).2⟩
        by_cases hj2 : j = Q.length
        · subst hj2
          rw [World.cell?_setCell_same _ _ _ hv]; rfl
        · rw [World.cell?_setCell_other (h := fun e => hj2 (by injection e with _ e; omega))]
          exact (h.there j hj).1
    · show OnlyP (· = g) w (w.setCell ⟨g, off + Q.length, none⟩ (.int .i64 x))
      exact (OnlyP.refl (· = g) w).set (p := ⟨g, off + Q.length, none⟩) (.inl rfl) _
  · have hcap : cap = Q.length := by have := h.le; omega
    subst hcap
    have hrun := run_append_grow_src (P := Try.prog) w 61 61 ty 3 i _ ht hi h0 (some ⟨g, off, none⟩) Q.length Q.length (Q.map fun y => Value.int .i64 y) (by
      rw [h1]
      refine run_firstCells_some w.drew 1 Q.length ⟨g, off, none⟩ Q.length Q.length _ (by simp) (fun j u hu => ?_)
      rw [List.getElem?_map] at hu
      obtain ⟨y, hy, rfl⟩ := Option.map_eq_some_iff.1 hu
      rw [Addr.add_lit]
      exact h.cells j y hy) _ 1 _ hsrc (by omega) (by omega) (growslice_fits (by omega) (by rw [h2]; omega))
    have hge := grownCap_ge w (Q.length + 1) Q.length 3
    have hmx := grownCap_le_maxLen w (Q.length + 1) Q.length 3 (by unfold maxLen; omega)
    have hnew := Blk.new w.drew 3 ((Q.map (fun y => Value.int .i64 y) ++ [Value.int .i64 x]).toArray ++ Builtin.zeroCells (Value.int .i64 0).cells (grownCap w (Q.length + 1) Q.length 3 - (Q.length + 1)))
    refine ⟨_, _, w.heap.size, 0, grownCap w (Q.length + 1) Q.length 3, hrun, rfl, ?_, ?_, .inr rfl⟩
    · have hsz : ((Q.map (fun y => Value.int .i64 y) ++ [Value.int .i64 x]).toArray ++ Builtin.zeroCells (Value.int .i64 0).cells (grownCap w (Q.length + 1) Q.length 3 - (Q.length + 1))).size = grownCap w (Q.length + 1) Q.length 3 := by
        rw [Array.size_append, List.size_toArray, size_zeroCells, List.length_append, List.length_map]
        have : (Value.int .i64 0).cells.size = 1 := rfl
        rw [this]
        simp
        omega
      refine ⟨by simp, by simpa using hge, hmx, fun j y hy => ?_, fun j hj => ?_⟩
      · rw [Nat.zero_add]
        refine hnew.cell j ?_
        have hj : j < (Q ++ [x]).length := (List.getElem?_eq_some_iff.1 hy).1
        rw [Array.getElem?_append_left (by simpa using hj), List.getElem?_toArray]
        have : (Q.map (fun y => Value.int .i64 y) ++ [Value.int .i64 x]) = (Q ++ [x]).map (fun y => Value.int .i64 y) := by simp
        rw [this, List.getElem?_map, hy]; rfl
      · rw [Nat.zero_add]
        refine ⟨?_, hnew.free j⟩
        have hc := hnew.cell j (v := _) (Array.getElem?_eq_getElem (by rw [hsz]; exact hj))
        exact Option.isSome_iff_exists.2 ⟨_, hc⟩
    · exact ((OnlyP.refl _ _).drew).alloc _
theorem wpList_append_q {ops : Array Oper} {rest : List Oper} {o : Oper} {a : Act} {Q' : Exit → Act → World → Prop} (w : World) (hgd : o.guard = none) (s x : Operand)
    (ho : o.op = .call { callee := .builtin .append, args := #[s, x], argTypes := #[61, 61] })
    {g off cap n : Nat} {Q : List Int} (h : QAt w g off cap Q) (hn : n = Q.length) (hs : a.eval s = .slice (some ⟨g, off, none⟩) n cap) (ad : Addr) (y : Int) (c : Nat) (hxv : a.eval x = .slice (some ad) 1 c) (hx : w.cell? ad = some (.int .i64 y)) (hQ : Q.length ≤ 1000000)
    (hK : ∀ w' g' off' cap', QAt w' g' off' cap' (Q ++ [y]) → OnlyP (· = g) w w' → (g' = g ∨ g' = w.heap.size) → wpList Try.prog ops Q' rest (a.put o.dst (.slice (some ⟨g', off', none⟩) (n + 1) cap')) w') : wpList Try.prog ops Q' (o :: rest) a w := by
  subst hn
  refine wpList_plain hgd fun K hK' => ?_
  obtain ⟨v', w', g', off', cap', hrun, rfl, h2, h3, h4⟩ := run_append_q w o.type h ad y c hx hQ
  unfold Oper.wp
  simp [execOp, ho, resolve, invoke, builtin, hs, hxv, hrun, Result.andThen]
  exact hK' _ _ (hK w' g' off' cap' h2 h3 h4)
end Go.Proofs.Ytckigonkcjceeaa
