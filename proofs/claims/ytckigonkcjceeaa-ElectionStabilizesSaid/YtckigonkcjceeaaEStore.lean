/- Stores into a row of the call's own: element by element. No program in sight. -/
import Derived.Test.YtckigonkcjceeaaEMathB
import Derived.Test.YtckigonkcjceeaaRowBlk
import Derived.Test.YtckigonkcjceeaaEBase
namespace Go.Proofs.Ytckigonkcjceeaa
set_option linter.unusedVariables false
set_option linter.unusedSimpArgs false
open Go.RowKit
theorem own_spot {w : World} {B sz n : Nat} {e : TypeId} {v : Value} {xs : List Value} (h : w.ownsRow B e sz v n xs) (hn : 0 < n) : ∃ g cap cur, v = .slice (some ⟨g, 0, none⟩) n cap ∧ B ≤ g ∧ g < w.heap.size ∧ Blk w g e cur ∧ n ≤ cap ∧ cap ≤ maxLen := by
  rcases h.2 with ⟨h1, h2⟩ | ⟨g, cap, cur, h1, h2, h3, h4, h5, _⟩
  · omega
  · exact ⟨g, cap, cur, h1, h2, Blk.lt (t := e) (cs := cur) h3, h3, h4, h5⟩
theorem add_zero' (g j : Nat) : Addr.add ⟨g, 0, none⟩ j = ⟨g, j, none⟩ := by
  unfold Addr.add
  split
  · rename_i h; subst h; rfl
  · simp
section
variable {α : Type} {w : World} {B g : Nat} {f : α → List Value} {l : List α}
theorem RowsAt.set1 (h : RowsAt w B 1 f (some ⟨g, 0, none⟩) l) {k : Nat} (hk : k < l.length) {x : α} {a : Value} (hx : f x = [a]) : RowsAt (w.setCell ⟨g, k, none⟩ a) B 1 f (some ⟨g, 0, none⟩) (l.set k x) := by
  obtain ⟨b, off, e, h1, h2, hc⟩ := h.rd.spot (by omega) (by omega)
  injection e with e
  injection e with e1 e2
  subst e1; subst e2
  refine ⟨h.sz0, h.hf, by rw [flat_len h.hf], fun _ => ⟨_, rfl, h1, fun j u hu => ?_⟩⟩
  rw [add_zero']
  rw [flat_set h.hf (by omega) hk, hx, Nat.div_one, Nat.mod_one] at hu
  by_cases hj : j = k
  · subst hj
    rw [if_pos rfl] at hu
    have hl : j < (l.flatMap f).length := by rw [flat_len h.hf]; omega
    have hold := hc j _ (List.getElem?_eq_getElem hl)
    rw [Nat.zero_add] at hold
    rw [World.cell?_setCell_same _ _ _ hold]
    simpa using hu
  · rw [if_neg hj] at hu
    have hold := hc j u hu
    rw [Nat.zero_add] at hold
    rw [World.cell?_setCell_other (h := fun e => hj (by injection e with _ e; exact e.symm))]
    exact hold
theorem RowsAt.set3 (h : RowsAt w B 3 f (some ⟨g, 0, none⟩) l) {k : Nat} (hk : k < l.length) {x : α} {a b c : Value} (hx : f x = [a, b, c]) :
    RowsAt (((w.setCell ⟨g, k * 3, none⟩ a).setCell ⟨g, k * 3 + 1, none⟩ b).setCell ⟨g, k * 3 + 2, none⟩ c) B 3 f (some ⟨g, 0, none⟩) (l.set k x) := by
  obtain ⟨b', off, e, h1, h2, hc⟩ := h.rd.spot (by omega) (by omega)
  injection e with e
  injection e with e1 e2
  subst e1; subst e2
  refine ⟨h.sz0, h.hf, by rw [flat_len h.hf], fun _ => ⟨_, rfl, h1, fun j u hu => ?_⟩⟩
  rw [add_zero']
  rw [flat_set h.hf (by omega) hk, hx] at hu
  have ho : ∀ i, i < l.length * 3 → ∃ v, w.cell? ⟨g, i, none⟩ = some v := fun i hi => by
    have hl : i < (l.flatMap f).length := by rw [flat_len h.hf]; exact hi
    have := hc i _ (List.getElem?_eq_getElem hl)
    rw [Nat.zero_add] at this
    exact ⟨_, this⟩
  obtain ⟨v0, q0⟩ := ho (k * 3) (by omega)
  obtain ⟨v1, q1⟩ := ho (k * 3 + 1) (by omega)
  obtain ⟨v2, q2⟩ := ho (k * 3 + 2) (by omega)
  have hne : ∀ i i' : Nat, i ≠ i' → (⟨g, i, none⟩ : Addr) ≠ ⟨g, i', none⟩ := fun i i' h e => h (by injection e)
  have st : ∀ (W : World) (i i' : Nat) (v : Value), i ≠ i' → (W.setCell ⟨g, i, none⟩ v).cell? ⟨g, i', none⟩ = W.cell? ⟨g, i', none⟩ := fun W i i' v h => World.cell?_setCell_other W _ _ v (hne i i' h)
  by_cases hj : j / 3 = k
  · rw [if_pos hj] at hu
    have hm : j % 3 < 3 := Nat.mod_lt _ (by omega)
    have hi := Nat.div_add_mod j 3
    rcases (by omega : j % 3 = 0 ∨ j % 3 = 1 ∨ j % 3 = 2) with h0 | h0 | h0
    · obtain rfl : j = k * 3 := by omega
      rw [h0] at hu
      rw [World.cell?_setCell_other (h := hne _ _ (by omega)), World.cell?_setCell_other (h := hne _ _ (by omega)), World.cell?_setCell_same _ _ _ q0]
      exact hu
    · obtain rfl : j = k * 3 + 1 := by omega
      rw [h0] at hu
      rw [World.cell?_setCell_other (h := hne _ _ (by omega)), World.cell?_setCell_same _ _ _ ((st w (k * 3) (k * 3 + 1) a (by omega)).trans q1)]
      exact hu
    · obtain rfl : j = k * 3 + 2 := by omega
      rw [h0] at hu
      rw [World.cell?_setCell_same _ _ _ ((st _ (k * 3 + 1) (k * 3 + 2) b (by omega)).trans ((st w (k * 3) (k * 3 + 2) a (by omega)).trans q2))]
      exact hu
  · rw [if_neg hj] at hu
    have hold := hc j u hu
    rw [Nat.zero_add] at hold
    have hd := Nat.div_add_mod j 3
    have hm := Nat.mod_lt j (show 0 < 3 by omega)
    rw [World.cell?_setCell_other (h := hne _ _ (by omega)), World.cell?_setCell_other (h := hne _ _ (by omega)), World.cell?_setCell_other (h := hne _ _ (by omega))]
    exact hold
end
theorem Start_v (N : List Nd) (C : List Cb) (An Ac : Option Addr) (kn kc : Nat) (w : World) (h : PlanAt w w.heap.size ⟨N, C, An, kn, Ac, kc⟩) (hf : validE N C = 0) :
    Calls Try.prog 17 #[.agg #[.slice An N.length kn, .slice Ac C.length kc]] w fun e w' => ∃ A kap, e = .returned (.slice A N.length kap) ∧ RowsAt w' w'.heap.size 3 vcell A (startP N.length) ∧ Below w.heap.size w w' := by
  refine (Start_ok N C An Ac kn kc w h hf).mono ?_
  rintro e w' ⟨A, kap, rfl, h1, -, -, h2⟩
  exact ⟨A, kap, by rw [startP_len], h1, h2⟩
theorem Run_late_n (N : List Nd) (C : List Cb) (An Ac Au Av : Option Addr) (kn kc ku kv n nu : Nat) (most : Int) (up : List Bool) (votes : List Vt) (w : World) (h : ArgsAt w N C An Ac Au Av kn kc ku kv up votes) (hf : faultE N C up votes = 0) (hl : votes.length = n) (hm : most = 2 * (n : Int)) (hu : up.length = nu) :
    Calls Try.prog 16 #[.agg #[.slice An N.length kn, .slice Ac C.length kc], .slice Au nu ku, .slice Av n kv, .int .i64 most] w (LateR w C up n) := by
  subst hu
  exact Run_late N C An Ac Au Av kn kc ku kv n most up votes w h hf hl hm
end Go.Proofs.Ytckigonkcjceeaa
