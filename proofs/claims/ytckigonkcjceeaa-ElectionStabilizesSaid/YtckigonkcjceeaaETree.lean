/- Trees: the node at the other end of a port, the list of parents, its faults; stable votes make a tree. No program in sight but by name. -/
import Derived.Test.YtckigonkcjceeaaEStore
namespace Go.Proofs.Ytckigonkcjceeaa
set_option linter.unusedVariables false
set_option linter.unusedSimpArgs false
open Go.RowKit
def nbrP : List Cb → Int → Int → Int
  | [], _, _ => -2
  | c :: l, i, p => if c.a = i ∧ c.ap = p then c.b else if c.b = i ∧ c.bp = p then c.a else nbrP l i p
theorem nbrP_cons (c : Cb) (l : List Cb) (i p : Int) : nbrP (c :: l) i p = if c.a = i ∧ c.ap = p then c.b else if c.b = i ∧ c.bp = p then c.a else nbrP l i p := rfl
def parP (C : List Cb) (i p : Int) : Int := if p = -1 then -1 else nbrP C i p
def goP (T : List Int) (x : Int) : Int := if 0 ≤ x then T.getD x.toNat (-1) else x
def goN (T : List Int) (i : Int) : Nat → Int
  | 0 => i
  | k + 1 => goP T (goN T i k)
def treeP (C : List Cb) (V : List Vt) : List Int := (List.range V.length).map fun (i : Nat) => parP C i (voteAt V i).port
def cycB (T : List Int) (k : Nat) : Bool := (List.range k).any fun (i : Nat) => decide (0 ≤ goN T i T.length)
def treeE (C : List Cb) (V : List Vt) : Int := if (-2) ∈ treeP C V then 2 else if cycB (treeP C V) V.length = true then 11 else 0
def treeL (C : List Cb) (V : List Vt) : List Int := if treeE C V = 0 then treeP C V else []
theorem treeP_len (C : List Cb) (V : List Vt) : (treeP C V).length = V.length := by simp [treeP]
theorem treeP_get {C : List Cb} {V : List Vt} {i : Nat} (h : i < V.length) : (treeP C V)[i]? = some (parP C i (voteAt V i).port) := by
  unfold treeP; rw [List.getElem?_map, List.getElem?_range h]; rfl
theorem nbrP_bd {n : Nat} {C : List Cb} (h : ∀ c ∈ C, CabOk n c) (i p : Int) : nbrP C i p = -2 ∨ 0 ≤ nbrP C i p ∧ nbrP C i p < n := by
  induction C with
  | nil => exact .inl rfl
  | cons c l ih =>
    have hc := h c (by simp)
    unfold nbrP
    split
    · exact .inr hc.b
    · split
      · exact .inr hc.a
      · exact ih fun x hx => h x (by simp [hx])
theorem parP_bd {n : Nat} {C : List Cb} (h : ∀ c ∈ C, CabOk n c) (i p : Int) : -2 ≤ parP C i p ∧ (parP C i p < n) := by
  unfold parP
  split
  · omega
  · rcases nbrP_bd h i p with h1 | h1 <;> omega
theorem nbrP_hit {C : List Cb} {k : Nat} {c : Cb} {i p : Int} (hc : C[k]? = some c) (h : nbrP C i p = nbrP (C.drop k) i p) :
    (c.a = i ∧ c.ap = p → nbrP C i p = c.b) ∧ (¬ (c.a = i ∧ c.ap = p) → c.b = i ∧ c.bp = p → nbrP C i p = c.a) ∧ (¬ (c.a = i ∧ c.ap = p) → ¬ (c.b = i ∧ c.bp = p) → nbrP C i p = nbrP (C.drop (k + 1)) i p) := by
  obtain ⟨hk, hc'⟩ := List.getElem?_eq_some_iff.1 hc
  have e : C.drop k = c :: C.drop (k + 1) := by rw [List.drop_eq_getElem_cons hk, hc']
  rw [h, e]
  exact ⟨fun h1 => by rw [nbrP_cons, if_pos h1], fun h1 h2 => by rw [nbrP_cons, if_neg h1, if_pos h2], fun h1 h2 => by rw [nbrP_cons, if_neg h1, if_neg h2]⟩
theorem nbrP_of {C : List Cb} (hn : (ends C).Nodup) {c : Cb} (hc : c ∈ C) (i p : Int) : (c.a = i ∧ c.ap = p → nbrP C i p = c.b) ∧ (c.b = i ∧ c.bp = p → nbrP C i p = c.a) := by
  induction C with
  | nil => cases hc
  | cons d l ih =>
    have e : ends (d :: l) = (d.a, d.ap) :: (d.b, d.bp) :: ends l := rfl
    rw [e, List.nodup_cons, List.nodup_cons] at hn
    obtain ⟨h1, h2, h3⟩ := hn
    have hm : c ∈ l → (c.a, c.ap) ∈ ends l ∧ (c.b, c.bp) ∈ ends l := fun hx => ⟨List.mem_flatMap.2 ⟨c, hx, by simp⟩, List.mem_flatMap.2 ⟨c, hx, by simp⟩⟩
    rcases List.mem_cons.1 hc with rfl | hx
    · refine ⟨fun h => by unfold nbrP; rw [if_pos h], fun h => ?_⟩
      have : ¬ (c.a = i ∧ c.ap = p) := fun g => h1 (by rw [g.1, g.2, ← h.1, ← h.2]; simp)
      unfold nbrP; rw [if_neg this, if_pos h]
    · obtain ⟨m1, m2⟩ := hm hx
      obtain ⟨i1, i2⟩ := ih h3 hx
      refine ⟨fun h => ?_, fun h => ?_⟩
      · have g1 : ¬ (d.a = i ∧ d.ap = p) := fun g => h1 (by rw [g.1, g.2, ← h.1, ← h.2]; simp [m1])
        have g2 : ¬ (d.b = i ∧ d.bp = p) := fun g => h2 (by rw [g.1, g.2, ← h.1, ← h.2]; exact m1)
        unfold nbrP; rw [if_neg g1, if_neg g2]; exact i1 h
      · have g1 : ¬ (d.a = i ∧ d.ap = p) := fun g => h1 (by rw [g.1, g.2, ← h.1, ← h.2]; simp [m2])
        have g2 : ¬ (d.b = i ∧ d.bp = p) := fun g => h2 (by rw [g.1, g.2, ← h.1, ← h.2]; exact m2)
        unfold nbrP; rw [if_neg g1, if_neg g2]; exact i2 h
theorem goP_neg {T : List Int} {x : Int} (h : x < 0) : goP T x = x := by unfold goP; rw [if_neg (by omega)]
theorem goN_neg {T : List Int} {i : Int} {k : Nat} (h : goN T i k < 0) (j : Nat) : goN T i (k + j) = goN T i k := by
  induction j with
  | zero => rfl
  | succ j ih =>
    show goP T (goN T i (k + j)) = _
    rw [ih, goP_neg h]
theorem goP_bd {T : List Int} {n : Nat} (hT : ∀ x ∈ T, x < (n : Int)) (hl : T.length = n) {x : Int} (hx : x < n) : goP T x < n := by
  unfold goP
  split
  · rename_i h0
    obtain ⟨y, hy⟩ := get_some (l := T) (k := x.toNat) (by omega)
    rw [List.getD_eq_getElem?_getD, hy]
    exact hT y (List.mem_of_getElem? hy)
  · exact hx
theorem goN_bd {T : List Int} {n : Nat} (hT : ∀ x ∈ T, x < (n : Int)) (hl : T.length = n) {i : Int} (hi : i < n) (k : Nat) : goN T i k < n := by
  induction k with
  | zero => exact hi
  | succ k ih => exact goP_bd hT hl ih
theorem treeP_bd {n : Nat} {C : List Cb} {V : List Vt} (h : ∀ c ∈ C, CabOk n c) : ∀ x ∈ treeP C V, x < (n : Int) := by
  intro x hx
  unfold treeP at hx
  obtain ⟨i, -, rfl⟩ := List.mem_map.1 hx
  exact (parP_bd h _ _).2
theorem cyc_next {T : List Int} {k : Nat} (h : cycB T k = false) (h2 : goN T k T.length < 0) : cycB T (k + 1) = false := by
  unfold cycB at h ⊢
  rw [List.range_succ, List.any_append, h]
  simp only [List.any_cons, List.any_nil, Bool.or_false, Bool.false_or]
  exact decide_eq_false (by omega)
theorem cyc_yes {T : List Int} {k n : Nat} (hk : k < n) (h : 0 ≤ goN T k T.length) : cycB T n = true :=
  List.any_eq_true.2 ⟨k, List.mem_range.2 hk, decide_eq_true h⟩
theorem cyc_no {T : List Int} {n : Nat} (h : ∀ k : Nat, k < n → goN T k T.length < 0) : cycB T n = false := by
  rw [Bool.eq_false_iff]
  intro hc
  obtain ⟨k, hk, hd⟩ := List.any_eq_true.1 hc
  have := h k (List.mem_range.1 hk)
  have := of_decide_eq_true hd
  omega
/-- What a tree of stable votes is. -/
structure TreeOk (C : List Cb) (V : List Vt) (n : Nat) : Prop where
  err : treeE C V = 0
  lst : treeL C V = treeP C V
  at_ : ∀ i : Nat, i < n → (parP C i (voteAt V i).port = -1 ∧ (voteAt V i).dist = 0) ∨ ∃ u : Nat, u < n ∧ parP C i (voteAt V i).port = u ∧ (voteAt V i).dist ≠ 0 ∧ (voteAt V u).root = (voteAt V i).root ∧ (voteAt V u).dist = (voteAt V i).dist - 1
theorem stable_tree {N : List Nd} {C : List Cb} {up : List Bool} {V : List Vt} {n : Nat} (hv : validE N C = 0) (hn : N.length = n) (hl : V.length = n) (hd : DistOk n V) (h : roundP C up V = V) : TreeOk C V n := by
  subst hn
  have hN : Net (C.zip up) N.length := net_of hv
  have hE : (ends C).Nodup := by
    have h1 := (valid_spec hv).2.2.2.2.1
    rw [Bool.or_eq_false_iff] at h1
    have h2 := h1.2
    unfold dupB at h2
    simpa using h2
  have hC := valid_cab hv
  have hdi : ∀ i : Nat, i < N.length → 0 ≤ (voteAt V i).dist ∧ (voteAt V i).dist < N.length := fun i hi => by
    obtain ⟨v, -, e, hm⟩ := voteAt_some (V := V) (i := (i : Int)) (by omega) (by omega)
    rw [e]; exact hd v hm
  have hat : ∀ i : Nat, i < N.length → (parP C i (voteAt V i).port = -1 ∧ (voteAt V i).dist = 0) ∨ ∃ u : Nat, u < N.length ∧ parP C i (voteAt V i).port = u ∧ (voteAt V i).dist ≠ 0 ∧ (voteAt V u).root = (voteAt V i).root ∧ (voteAt V u).dist = (voteAt V i).dist - 1 := fun i hi => by
    rcases stable_at hN hl h (x := (i : Int)) (by omega) (by omega) with e | ⟨u, p, hlk, e⟩
    · left
      rw [e]
      exact ⟨by simp [selfV, parP], rfl⟩
    · right
      have hu := (hN.link hlk).1
      have hp := (hN.link hlk).2.2.2
      obtain ⟨m, hm⟩ : ∃ m : Nat, u = m := ⟨u.toNat, by omega⟩
      subst hm
      have hd0 := hdi m (by omega)
      refine ⟨m, by omega, ?_, by rw [e]; simp only [heardOf]; omega, by rw [e]; rfl, by rw [e]; simp only [heardOf]; omega⟩
      rw [e]
      simp only [heardOf]
      unfold parP
      rw [if_neg (by omega)]
      obtain ⟨c, hc, h2⟩ := hlk
      have hcm := (List.of_mem_zip hc).1
      rcases h2 with ⟨h3, h4, h5⟩ | ⟨h3, h4, h5⟩
      · rw [(nbrP_of hE hcm _ _).2 ⟨h4, h5.symm⟩, h3]
      · rw [(nbrP_of hE hcm _ _).1 ⟨h4, h5.symm⟩, h3]
  have hno : ¬ (-2) ∈ treeP C V := fun hm => by
    unfold treeP at hm
    obtain ⟨i, hi, e⟩ := List.mem_map.1 hm
    have hi' := List.mem_range.1 hi
    rcases hat i (by omega) with ⟨h1, -⟩ | ⟨u, h0, h1, -⟩ <;> omega
  have hgo : ∀ (i k : Nat), i < N.length → goN (treeP C V) i k < 0 ∨ ∃ u : Nat, u < N.length ∧ goN (treeP C V) i k = u ∧ (voteAt V u).dist + k = (voteAt V i).dist := fun i k hi => by
    induction k with
    | zero => exact .inr ⟨i, hi, rfl, by simp⟩
    | succ k ih =>
      rcases ih with h1 | ⟨u, h0, h1, h2⟩
      · left
        show goP _ _ < 0
        rw [goP_neg h1]; exact h1
      · have e : goN (treeP C V) i (k + 1) = parP C u (voteAt V u).port := by
          show goP _ _ = _
          rw [h1]
          unfold goP
          rw [if_pos (by omega), Int.toNat_natCast, List.getD_eq_getElem?_getD, treeP_get (by omega)]; rfl
        rw [e]
        rcases hat u h0 with ⟨g1, -⟩ | ⟨x, g0, g1, -, -, g3⟩
        · left; omega
        · right; exact ⟨x, g0, g1, by omega⟩
  have hcy : cycB (treeP C V) V.length = false := cyc_no fun k hk => by
    rcases hgo k (treeP C V).length (by omega) with h1 | ⟨u, h0, -, h2⟩
    · exact h1
    · exfalso
      rw [treeP_len, hl] at h2
      have := hdi k (by omega)
      have := hdi u h0
      omega
  have he : treeE C V = 0 := by unfold treeE; rw [if_neg hno, hcy, if_neg (by simp)]
  exact ⟨he, by unfold treeL; rw [if_pos he], hat⟩
end Go.Proofs.Ytckigonkcjceeaa
