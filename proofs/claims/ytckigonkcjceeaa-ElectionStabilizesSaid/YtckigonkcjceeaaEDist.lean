/- graph.Distances: the walk of the search. -/
import Derived.Test.YtckigonkcjceeaaEQueue
namespace Go.Proofs.Ytckigonkcjceeaa
set_option linter.unusedVariables false
set_option linter.unusedSimpArgs false
open Go.RowKit
set_option maxRecDepth 100000 in
set_option maxHeartbeats 4000000 in
theorem visit_old (w : World) (b7 b9 b10 gL o n : Nat) (L : List Int) (h7 : Blk w b7 61 #[.slice (some ⟨gL, 0, none⟩) n n]) (hL : RowBlk w gL 3 icell L) (hn : L.length = n) (ho : o < n) (h0 : 0 ≤ dAt L o) :
    Calls Try.prog 54 #[.int .i64 (o : Int), .pointer (some ⟨b7, 0, none⟩), .pointer (some ⟨b10, 0, none⟩), .pointer (some ⟨b9, 0, none⟩)] w fun e w' => e = .returned (.tuple #[]) ∧ w' = w := by
  have c7 := h7.cell 0 (v := .slice (some ⟨gL, 0, none⟩) n n) rfl
  obtain ⟨y, hy⟩ := get_some (l := L) (k := o) (by omega)
  rw [dAt_get hy] at h0
  have cy : w.cell? ⟨gL, o, none⟩ = some (.int .i64 y) := by have := hL.cell icell_len hy (j := 0) rfl; simpa using this
  have d1 : decide (y < 0) = false := decide_eq_false (by omega)
  clear h7 hL hn hy
  go_enter Try.func54, Try.ntmps54
  go_wp2_with fail
  go_end0
  exact ⟨rfl, rfl⟩
/-- What a first visit leaves. -/
def VisitR (w : World) (b9 gL g o n : Nat) (L' Q : List Int) (e : Ending) (w' : World) : Prop :=
  e = .returned (.tuple #[]) ∧ RowBlk w' gL 3 icell L' ∧ (∃ g' off' cap', Blk w' b9 61 #[.slice (some ⟨g', off', none⟩) (Q.length + 1) cap'] ∧ QAt w' g' off' cap' (Q ++ [(o : Int)]) ∧ (g' = g ∨ w.heap.size ≤ g')) ∧ OnlyP (fun k => k = gL ∨ k = g ∨ k = b9) w w'
set_option maxRecDepth 100000 in
set_option maxHeartbeats 4000000 in
theorem visit_new (w : World) (b7 b9 b10 gL g off cap o x n : Nat) (L Q : List Int) (h7 : Blk w b7 61 #[.slice (some ⟨gL, 0, none⟩) n n]) (hL : RowBlk w gL 3 icell L) (h10 : Blk w b10 3 #[.int .i64 (x : Int)]) (h9 : Blk w b9 61 #[.slice (some ⟨g, off, none⟩) Q.length cap]) (hq : QAt w g off cap Q)
    (hn : L.length = n) (ho : o < n) (hx : x < n) (h0 : dAt L o < 0) (hb : 0 ≤ dAt L x ∧ dAt L x ≤ 1000) (hQ : Q.length ≤ 1000000) (e1 : gL ≠ g) (e2 : gL ≠ b9) (e3 : g ≠ b9) :
    Calls Try.prog 54 #[.int .i64 (o : Int), .pointer (some ⟨b7, 0, none⟩), .pointer (some ⟨b10, 0, none⟩), .pointer (some ⟨b9, 0, none⟩)] w (VisitR w b9 gL g o n (L.set o (dAt L x + 1)) Q) := by
  have c7 := h7.cell 0 (v := .slice (some ⟨gL, 0, none⟩) n n) rfl
  have c10 := h10.cell 0 (v := .int .i64 (x : Int)) rfl
  have c9 := h9.cell 0 (v := .slice (some ⟨g, off, none⟩) Q.length cap) rfl
  have f9 := h9.free 0
  obtain ⟨y, hy⟩ := get_some (l := L) (k := o) (by omega)
  obtain ⟨z, hz⟩ := get_some (l := L) (k := x) (by omega)
  rw [dAt_get hy] at h0
  rw [dAt_get hz] at hb ⊢
  have cy : w.cell? ⟨gL, o, none⟩ = some (.int .i64 y) := by have := hL.cell icell_len hy (j := 0) rfl; simpa using this
  have cz : w.cell? ⟨gL, x, none⟩ = some (.int .i64 z) := by have := hL.cell icell_len hz (j := 0) rfl; simpa using this
  have fL := hL.free o
  have d1 : decide (y < 0) = true := decide_eq_true h0
  have HL := Kept.mk hL
  have H9 := Kept.mk h9
  have HQ := Kept.mk hq
  have HLN := Kept.mk hn
  have l7 := h7.lt
  have l9 := h9.lt
  have l10 := h10.lt
  have lL := hL.lt
  have lg := hq.lt
  have HE : Kept (gL ≠ g ∧ gL ≠ b9 ∧ g ≠ b9) := ⟨⟨e1, e2, e3⟩⟩
  clear h7 hL h10 h9 hq hn hy hz
  go_enter Try.func54, Try.ntmps54
  go_wp2_with fail
  go_region
  have HL1 : Kept (RowBlk (w.setCell ⟨gL, o, none⟩ (.int .i64 (z + 1))).drew gL 3 icell (L.set o (z + 1))) := ⟨Blk.drew (HL.out.set1 icell_len (by rw [HLN.out]; exact ho) rfl)⟩
  have H91 : Kept (Blk (w.setCell ⟨gL, o, none⟩ (.int .i64 (z + 1))).drew b9 61 #[.slice (some ⟨g, off, none⟩) Q.length cap]) := ⟨(H9.out.far (fun e => HE.out.2.1 e.symm) _).drew⟩
  have HQ1 : Kept (QAt (w.setCell ⟨gL, o, none⟩ (.int .i64 (z + 1))).drew g off cap Q) := ⟨(HQ.out.far (fun e => HE.out.1 e.symm) _).drew⟩
  have HO1 : Kept (OnlyP (fun k => k = gL ∨ k = g ∨ k = b9) w (w.setCell ⟨gL, o, none⟩ (.int .i64 (z + 1))).drew) := ⟨((OnlyP.refl (fun k => k = gL ∨ k = g ∨ k = b9) w).set (p := ⟨gL, o, none⟩) (.inl (.inl rfl)) _).drew⟩
  clear c7 c9 c10 cy cz f9 fL d1 HL H9 HQ
  generalize (w.setCell ⟨gL, o, none⟩ (.int .i64 (z + 1))).drew = w1 at *
  have c9 := H91.out.cell 0 (v := .slice (some ⟨g, off, none⟩) Q.length cap) rfl
  have z9 := H91.out.lt
  have zg := HQ1.out.lt
  have zL := HL1.out.lt
  have HB1 := Kept.mk (Blk.new w1 3 #[.int .i64 (o : Int)])
  have cn := HB1.out.cell 0 (v := .int .i64 (o : Int)) rfl
  have HQ2 := Kept.mk (HQ1.out.alloc (.cells #[.int .i64 (o : Int)] 3))
  have H92 := Kept.mk (H91.out.alloc (.cells #[.int .i64 (o : Int)] 3))
  have HL2 := Kept.mk (HL1.out.alloc (.cells #[.int .i64 (o : Int)] 3))
  have HO2 := Kept.mk (HO1.out.alloc (.cells #[.int .i64 (o : Int)] 3))
  go_wp2_with (at_builtin; refine wpList_append_q _ rfl _ _ rfl HQ2.out rfl rfl ⟨w1.heap.size, 0, none⟩ (o : Int) 1 rfl cn hQ ?_; intro w3 g' off' cap' hq3 ho3 hg3; have HQ3 := Kept.mk hq3; have HO3 := Kept.mk ho3; have HG3 := Kept.mk hg3; have H93 := Kept.mk (H92.out.only ho3 (fun e => HE.out.2.2 e.symm)); have HL3 : Kept (RowBlk w3 gL 3 icell (L.set o (z + 1))) := ⟨HL2.out.only ho3 HE.out.1⟩; clear hq3 ho3 hg3 c9; have c9 := H93.out.cell 0 (v := .slice (some ⟨g, off, none⟩) Q.length cap) rfl; have f9 := H93.out.free 0; have y9 := H93.out.lt)
  go_end0
  have hsz := HO1.out.size
  have hg' : g' ≠ b9 := by
    rcases HG3.out with h | h
    · rw [h]; exact HE.out.2.2
    · rw [h]; simp; omega
  exact ⟨rfl, HL3.out.far HE.out.2.1 _, ⟨g', off', cap', H93.out.to 0 _ rfl, HQ3.out.far hg' _, by rcases HG3.out with h | h; exact .inl h; right; rw [h]; simp; omega⟩, (HO2.out.trans (HO3.out.mono fun k hk => .inr (.inl hk))).set (p := ⟨b9, 0, none⟩) (.inl (.inr (.inr rfl))) _⟩
theorem run_cut1 {A A' : Option Addr} {n kap : Nat} (w : World) (hi : 1 ≤ n) (hA : A' = if kap = 1 then A else A.map fun x => x.add 1) :
    (Instr.slice 61 (.slice A n kap) (some (.int .i64 1)) none none).run Try.prog w = .ok (.slice A' (n - 1) (kap - 1)) w := by
  have h := run_slice_l (P := Try.prog) w 61 A n kap (show Try.prog.underlying 61 = some (.slice (Try.prog.elem 61)) by kernel_rfl) .i64 1 (by omega) (by omega)
  have hs : (sizeOf (Try.prog.elem 61)).run Try.prog w = .ok 1 w := by kernel_rfl
  rw [hA]
  simpa [hs, Result.andThen, sliced] using h
theorem run_cut2 {A A' : Option Addr} {n kap : Nat} (w : World) (hi : 1 ≤ n) (hA : A' = if kap = 1 then A else A.map fun x => x.add 1) :
    (Instr.sliceAt 61 (.slice A n kap) (some (.int .i64 1)) none none).run Try.prog w = .ok (.slice A' (n - 1) (kap - 1)) w := by
  rw [run_sliceAt_slice w 61 _ _ _ _ (show Try.prog.underlying 61 = some (.slice 3) from Try.underlying61)]; exact run_cut1 w hi hA
theorem QAt.cut {w : World} {g off cap : Nat} {x : Int} {Q : List Int} (h : QAt w g off cap (x :: Q)) : ∃ off', (if cap = 1 then (some ⟨g, off, none⟩ : Option Addr) else (some ⟨g, off, none⟩ : Option Addr).map fun a => a.add 1) = some ⟨g, off', none⟩ ∧ QAt w g off' (cap - 1) Q := by
  by_cases hc : cap = 1
  · subst hc
    have hQ : Q = [] := List.eq_nil_of_length_eq_zero (by have := h.le; rw [List.length_cons] at this; omega)
    subst hQ
    exact ⟨off, by rw [if_pos rfl], ⟨h.lt, by simp, by have := h.max; omega, fun j y hy => by simp at hy, fun j hj => by omega⟩⟩
  · exact ⟨off + 1, by rw [if_neg hc]; rfl, h.tail⟩
/-- What stands in memory while the search runs (w0: the world at its start). -/
structure DS (w0 W : World) (N : List Nd) (C : List Cb) (An Ac : Option Addr) (kn kc : Nat) (L Q : List Int) (g off cap : Nat) : Prop where
  box : Blk W w0.heap.size 32 #[.slice An N.length kn, .slice Ac C.length kc]
  row : RowBlk W (w0.heap.size + 1) 3 icell L
  b7 : Blk W (w0.heap.size + 2) 61 #[.slice (some ⟨w0.heap.size + 1, 0, none⟩) N.length N.length]
  b9 : Blk W (w0.heap.size + 4) 61 #[.slice (some ⟨g, off, none⟩) Q.length cap]
  q : QAt W g off cap Q
  gne : w0.heap.size + 3 ≤ g ∧ g ≠ w0.heap.size + 4
  bel : Below w0.heap.size w0 W
section
variable {w0 W W' : World} {N : List Nd} {C : List Cb} {An Ac : Option Addr} {kn kc : Nat} {L Q : List Int} {g off cap : Nat}
theorem DS.new_ (h : DS w0 W N C An Ac kn kc L Q g off cap) (hb : Below W.heap.size W W') : DS w0 W' N C An Ac kn kc L Q g off cap :=
  ⟨h.box.new_ hb, h.row.new_ hb, h.b7.new_ hb, h.b9.new_ hb, h.q.new_ hb, h.gne, join h.bel hb⟩
theorem DS.visited (h : DS w0 W N C An Ac kn kc L Q g off cap) {o n : Nat} {L' : List Int} {e : Ending} (hv : VisitR W (w0.heap.size + 4) (w0.heap.size + 1) g o n L' Q e W') :
    e = .returned (.tuple #[]) ∧ (∃ g' off' cap', DS w0 W' N C An Ac kn kc L' (Q ++ [(o : Int)]) g' off' cap' ∧ (g' = g ∨ W.heap.size ≤ g')) ∧ OnlyP (fun k => k = w0.heap.size + 1 ∨ k = g ∨ k = w0.heap.size + 4) W W' := by
  obtain ⟨he, hr, ⟨g', off', cap', h9, hq, hg⟩, ho⟩ := hv
  have l9 := h.b9.lt
  refine ⟨he, ⟨g', off', cap', ⟨h.box.only ho (by have := h.gne; omega), hr, h.b7.only ho (by have := h.gne; omega), by rw [List.length_append]; exact h9, hq, ?_, joinP h.bel ho (fun k hk => by have := h.gne; omega) (Nat.le_refl _)⟩, hg⟩, ho⟩
  rcases hg with rfl | hg
  · exact h.gne
  · omega
end
end Go.Proofs.Ytckigonkcjceeaa
