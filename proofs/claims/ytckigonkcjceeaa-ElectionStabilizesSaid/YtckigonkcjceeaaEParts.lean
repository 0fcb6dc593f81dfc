/- The parts of a net. No program in sight but by name. -/
import Derived.Test.YtckigonkcjceeaaEDistC
namespace Go.Proofs.Ytckigonkcjceeaa
set_option linter.unusedVariables false
set_option linter.unusedSimpArgs false
open Go.RowKit
def Conn (l : List (Cb × Bool)) (n : Nat) (u v : Int) : Prop := ∃ k, Wk l n k u v
section
variable {l : List (Cb × Bool)} {n : Nat}
theorem Conn.symm (hN : Net l n) {u v : Int} (h : Conn l n u v) : Conn l n v u := by obtain ⟨k, h⟩ := h; exact ⟨k, h.symm hN⟩
theorem Conn.trans {u v x : Int} (h : Conn l n u v) (g : Conn l n v x) : Conn l n u x := by
  obtain ⟨k, h⟩ := h; obtain ⟨j, g⟩ := g; exact ⟨_, h.app g⟩
theorem Conn.refl {u : Nat} (h : u < n) : Conn l n u u := ⟨0, Wk.refl _ (by omega) (by omega)⟩
theorem far_conn {s : Int} {L : List Int} (hF : Far l n s L) {y : Int} (y0 : 0 ≤ y) (y1 : y < n) : 0 ≤ dAt L y ↔ Conn l n s y :=
  ⟨fun h => ⟨_, (hF.yes y y0 y1 h).1⟩, fun ⟨k, hw⟩ => hF.all k y hw⟩
/-- The nodes of p, in ascending order. -/
def partL (p : Nat → Bool) (n : Nat) : List Int := ((List.range n).filter p).map fun (j : Nat) => (j : Int)
theorem partL_succ (p : Nat → Bool) (k : Nat) : partL p (k + 1) = partL p k ++ (if p k = true then [(k : Int)] else []) := by
  unfold partL
  rw [List.range_succ, List.filter_append, List.map_append]
  congr 1
  by_cases h : p k = true
  · rw [if_pos h]; simp [h]
  · rw [if_neg h]; simp [h]
theorem partL_len (p : Nat → Bool) (k : Nat) : (partL p k).length ≤ k := by
  unfold partL
  rw [List.length_map]
  exact Nat.le_trans (List.length_filter_le _ _) (by simp)
theorem mem_partL {p : Nat → Bool} {n : Nat} {x : Int} : x ∈ partL p n ↔ ∃ j : Nat, x = j ∧ j < n ∧ p j = true := by
  unfold partL
  rw [List.mem_map]
  constructor
  · rintro ⟨j, hj, rfl⟩
    rw [List.mem_filter, List.mem_range] at hj
    exact ⟨j, rfl, hj.1, hj.2⟩
  · rintro ⟨j, rfl, h1, h2⟩
    exact ⟨j, by rw [List.mem_filter, List.mem_range]; exact ⟨h1, h2⟩, rfl⟩
theorem partL_or {p q : Nat → Bool} (n : Nat) (h : ∀ j, j < n → ¬ (p j = true ∧ q j = true)) : (partL (fun j => p j || q j) n).length = (partL p n).length + (partL q n).length := by
  induction n with
  | zero => rfl
  | succ k ih =>
    have hi := ih fun j hj => h j (by omega)
    have hk := h k (by omega)
    rw [partL_succ, partL_succ, partL_succ, List.length_append, List.length_append, List.length_append, hi]
    cases hp : p k <;> cases hq : q k <;> simp [hp, hq] at hk ⊢ <;> omega
theorem partL_all {p : Nat → Bool} (n : Nat) (h : ∀ j, j < n → p j = true) : (partL p n).length = n := by
  induction n with
  | zero => rfl
  | succ k ih => rw [partL_succ, List.length_append, ih fun j hj => h j (by omega), if_pos (h k (by omega))]; rfl
theorem partL_sorted (p : Nat → Bool) (n : Nat) : (partL p n).Pairwise (· < ·) := by
  unfold partL
  rw [List.pairwise_map]
  exact ((List.pairwise_lt_range (n := n)).filter p).imp fun h => by omega
/-- What a part is: its least node ahead, and of all its nodes that is the least that can be reached. -/
def PartOk (l : List (Cb × Bool)) (n : Nat) (L : List Int) : Prop := ∃ (h : Nat) (t : List Int), L = (h : Int) :: t ∧ h < n ∧ ∀ i ∈ L, ∃ j : Nat, i = j ∧ j < n ∧ Least l n h j
theorem part_ok (hN : Net l n) {p : Nat → Bool} {k : Nat} (hk : k < n) (hp : ∀ j : Nat, j < n → (p j = true ↔ Conn l n k j)) (hno : ¬ ∃ h : Nat, h < k ∧ Conn l n h k) : PartOk l n (partL p n) := by
  have hkm : (k : Int) ∈ partL p n := mem_partL.2 ⟨k, rfl, hk, (hp k hk).2 (Conn.refl hk)⟩
  have hge : ∀ x ∈ partL p n, (k : Int) ≤ x := fun x hx => by
    obtain ⟨j, rfl, h1, h2⟩ := mem_partL.1 hx
    have hc := ((hp j h1).1 h2).symm hN
    by_cases h : k ≤ j
    · omega
    · exact absurd ⟨j, by omega, hc⟩ hno
  have hs := partL_sorted p n
  cases hL : partL p n with
  | nil => rw [hL] at hkm; cases hkm
  | cons x t =>
    rw [hL] at hs hkm hge
    have hx : x = k := by
      have h1 := hge x (by simp)
      rcases List.mem_cons.1 hkm with h | h
      · exact h.symm
      · have := (List.pairwise_cons.1 hs).1 _ h
        omega
    subst hx
    refine ⟨k, t, rfl, hk, fun i hi => ?_⟩
    rw [← hL] at hi
    obtain ⟨j, rfl, h1, h2⟩ := mem_partL.1 hi
    have hc := (hp j h1).1 h2
    refine ⟨j, rfl, h1, hc, fun q u hu => ?_⟩
    have hb := (Wk.bd hN hu).1
    have hcu : Conn l n u k := Conn.trans ⟨q, hu⟩ (hc.symm hN)
    by_cases h : (k : Int) ≤ u
    · exact h
    · exact absurd ⟨u.toNat, by omega, by rwa [show (u.toNat : Int) = u by omega]⟩ hno
/-- What has been seen when the nodes below k have been looked at. -/
def SeenOk (l : List (Cb × Bool)) (n k : Nat) (f : Nat → Bool) : Prop := ∀ j : Nat, j < n → (f j = true ↔ ∃ h : Nat, h < k ∧ Conn l n h j)
theorem seen_zero : SeenOk l n 0 (fun _ => false) := fun j hj => by simp
theorem seen_skip {k : Nat} {f : Nat → Bool} (h : SeenOk l n k f) (hk : k < n) (hf : f k = true) : SeenOk l n (k + 1) f := fun j hj => by
  rw [h j hj]
  obtain ⟨h0, h1, h2⟩ := (h k hk).1 hf
  refine ⟨fun ⟨x, hx, hc⟩ => ⟨x, by omega, hc⟩, fun ⟨x, hx, hc⟩ => ?_⟩
  by_cases e : x = k
  · subst e; exact ⟨h0, h1, h2.trans hc⟩
  · exact ⟨x, by omega, hc⟩
theorem seen_add {k : Nat} {f p : Nat → Bool} (h : SeenOk l n k f) (hp : ∀ j : Nat, j < n → (p j = true ↔ Conn l n k j)) : SeenOk l n (k + 1) (fun j => f j || p j) := fun j hj => by
  rw [Bool.or_eq_true, h j hj, hp j hj]
  constructor
  · rintro (⟨x, hx, hc⟩ | hc)
    · exact ⟨x, by omega, hc⟩
    · exact ⟨k, by omega, hc⟩
  · rintro ⟨x, hx, hc⟩
    by_cases e : x = k
    · subst e; exact .inr hc
    · exact .inl ⟨x, by omega, hc⟩
theorem seen_apart (hN : Net l n) {k : Nat} {f p : Nat → Bool} (h : SeenOk l n k f) (hk : k < n) (hf : ¬ f k = true) (hp : ∀ j : Nat, j < n → (p j = true ↔ Conn l n k j)) : ∀ j, j < n → ¬ (f j = true ∧ p j = true) := fun j hj ⟨h1, h2⟩ => by
  obtain ⟨x, hx, hc⟩ := (h j hj).1 h1
  exact hf ((h k hk).2 ⟨x, hx, hc.trans (((hp j hj).1 h2).symm hN)⟩)
theorem seen_all {f : Nat → Bool} (h : SeenOk l n n f) : ∀ j, j < n → f j = true := fun j hj => (h j hj).2 ⟨j, hj, Conn.refl hj⟩
end
/-- The flags of f, as a list. -/
def flagL (f : Nat → Bool) (n : Nat) : List Bool := (List.range n).map f
theorem flagL_len (f : Nat → Bool) (n : Nat) : (flagL f n).length = n := by simp [flagL]
theorem flagL_get {f : Nat → Bool} {n j : Nat} (h : j < n) : (flagL f n)[j]? = some (f j) := by unfold flagL; rw [List.getElem?_map, List.getElem?_range h]; rfl
theorem flagL_set {f g : Nat → Bool} {n y : Nat} (hy : y < n) (hg : ∀ j, j < n → g j = if j = y then true else f j) : (flagL f n).set y true = flagL g n := by
  apply List.ext_getElem?
  intro i
  rcases Nat.lt_or_ge i n with hi | hi
  · rw [List.getElem?_set, flagL_len, flagL_get hi, flagL_get hi, hg i hi]
    by_cases e : y = i
    · subst e; rw [if_pos rfl, if_pos hy, if_pos rfl]
    · rw [if_neg e, if_neg (fun h => e h.symm)]
  · rw [List.getElem?_eq_none (by rw [List.length_set, flagL_len]; exact hi), List.getElem?_eq_none (by rw [flagL_len]; exact hi)]
theorem flagL_congr {f g : Nat → Bool} {n : Nat} (h : ∀ j, j < n → g j = f j) : flagL g n = flagL f n := by
  unfold flagL
  exact List.map_congr_left fun j hj => h j (List.mem_range.1 hj)
theorem flagL_rep (n : Nat) : flagL (fun _ => false) n = List.replicate n false := by
  unfold flagL; exact List.map_const' .. |>.trans (by simp)
end Go.Proofs.Ytckigonkcjceeaa
