/- What a node hears depends on its neighbours alone. -/
import Derived.Test.YtckigonkcjceeaaEDistC
namespace Go.Proofs.Ytckigonkcjceeaa
set_option linter.unusedVariables false
set_option linter.unusedSimpArgs false
open Go.RowKit
theorem wk_zero {l : List (Cb × Bool)} {n : Int} {u v : Int} (h : Wk l n 0 u v) : u = v := by
  cases h; rfl
theorem far_link {l : List (Cb × Bool)} {n : Nat} {s : Int} {L : List Int} (hN : Net l n) (hF : Far l n s L) {y p : Int} (hl : Link l s y p) : dAt L y = 1 := by
  have hb := hN.link hl
  have hw := Wk.one hN hl
  have h0 := hF.all _ _ hw
  have hd := hF.yes y hb.2.1.1 hb.2.1.2 h0
  have h1 := hd.2 _ hw
  have h2 : (dAt L y).toNat ≠ 0 := fun e => by
    rw [e] at hd
    exact hb.2.2.1 (wk_zero hd.1)
  omega
theorem local_eq {l : List (Cb × Bool)} {n : Nat} {s : Int} {L : List Int} (hN : Net l n) (hF : Far l n s L) {V M : List Vt} (h : ∀ y : Int, 0 ≤ y → y < n → dAt L y = 1 → voteAt M y = voteAt V y) (m : Int) : roundAt m M l s = roundAt m V l s := by
  have hc : ∀ (best : Vt) (x : Cb × Bool), x ∈ l → hearC m M s best x = hearC m V s best x := fun best x hx => by
    obtain ⟨c, u⟩ := x
    cases u with
    | false => unfold hearC; simp
    | true =>
      have ha : c.a = s → voteAt M c.b = voteAt V c.b := fun e => by
        have hl : Link l s c.b c.bp := ⟨c, hx, .inl ⟨e, rfl, rfl⟩⟩
        have hb := (hN.link hl).2.1
        exact h _ hb.1 hb.2 (far_link hN hF hl)
      have hb : c.b = s → voteAt M c.a = voteAt V c.a := fun e => by
        have hl : Link l s c.a c.ap := ⟨c, hx, .inr ⟨e, rfl, rfl⟩⟩
        have hb := (hN.link hl).2.1
        exact h _ hb.1 hb.2 (far_link hN hF hl)
      unfold hearC
      by_cases e1 : c.a = s <;> by_cases e2 : c.b = s <;> simp [e1, e2]
      · exact absurd (e1.trans e2.symm) (hN.ne _ hx)
      · rw [ha e1]
      · rw [hb e2]
  have hf : ∀ (l' : List (Cb × Bool)), (∀ x ∈ l', x ∈ l) → ∀ best, l'.foldl (hearC m M s) best = l'.foldl (hearC m V s) best := fun l' => by
    induction l' with
    | nil => intro _ best; rfl
    | cons x l' ih => intro hm best; rw [List.foldl_cons, List.foldl_cons, hc best x (hm x (by simp)), ih (fun y hy => hm y (by simp [hy]))]
  unfold roundAt
  exact hf l (fun _ h => h) _
/-- The list that is mixed of two up to k. -/
def mixP (L : List Int) (V O : List Vt) (k : Nat) : List Vt := (List.range V.length).map fun (j : Nat) => if j < k ∧ dAt L (j : Int) ≠ 1 then O.getD j default else V.getD j default
theorem mixP_len (L : List Int) (V O : List Vt) (k : Nat) : (mixP L V O k).length = V.length := by simp [mixP]
theorem mixP_get {L : List Int} {V O : List Vt} {k j : Nat} (h : j < V.length) : (mixP L V O k)[j]? = some (if j < k ∧ dAt L (j : Int) ≠ 1 then O.getD j default else V.getD j default) := by
  unfold mixP; rw [List.getElem?_map, List.getElem?_range h]; rfl
theorem mixP_zero (L : List Int) (V O : List Vt) : mixP L V O 0 = V := by
  apply List.ext_getElem?
  intro i
  rcases Nat.lt_or_ge i V.length with h | h
  · rw [mixP_get h, if_neg (by omega), List.getD_eq_getElem?_getD, List.getElem?_eq_getElem h]; rfl
  · rw [List.getElem?_eq_none (by rw [mixP_len]; exact h), List.getElem?_eq_none h]
theorem mixP_same {L : List Int} {V O : List Vt} {k : Nat} (h : dAt L (k : Int) = 1) : mixP L V O (k + 1) = mixP L V O k := by
  unfold mixP
  refine List.map_congr_left fun j _ => ?_
  by_cases e : j = k
  · subst e; rw [if_neg (by simp [h]), if_neg (by simp [h])]
  · by_cases e2 : j < k ∧ dAt L (j : Int) ≠ 1
    · rw [if_pos ⟨by omega, e2.2⟩, if_pos e2]
    · rw [if_neg (fun g => e2 ⟨by omega, g.2⟩), if_neg e2]
theorem mixP_set {L : List Int} {V O : List Vt} {k : Nat} {x : Vt} (h : dAt L (k : Int) ≠ 1) (hx : O[k]? = some x) : mixP L V O (k + 1) = (mixP L V O k).set k x := by
  apply List.ext_getElem?
  intro i
  rcases Nat.lt_or_ge i V.length with hi | hi
  · rw [mixP_get hi, List.getElem?_set, mixP_len]
    by_cases e : k = i
    · subst e
      rw [if_pos rfl, if_pos hi, if_pos ⟨by omega, h⟩, List.getD_eq_getElem?_getD, hx]; rfl
    · rw [if_neg e, mixP_get hi]
      by_cases e2 : i < k ∧ dAt L (i : Int) ≠ 1
      · rw [if_pos ⟨by omega, e2.2⟩, if_pos e2]
      · rw [if_neg (fun g => e2 ⟨by omega, g.2⟩), if_neg e2]
  · rw [List.getElem?_eq_none (by rw [mixP_len]; exact hi), List.getElem?_eq_none (by rw [List.length_set, mixP_len]; exact hi)]
theorem mixP_ok {L : List Int} {V O : List Vt} {k : Nat} {n : Int} (hl : O.length = V.length) (h1 : DistOk n V) (h2 : DistOk n O) : DistOk n (mixP L V O k) := by
  intro v hv
  unfold mixP at hv
  obtain ⟨j, hj, rfl⟩ := List.mem_map.1 hv
  have hj' := List.mem_range.1 hj
  split
  · obtain ⟨x, hx⟩ := get_some (l := O) (k := j) (by omega)
    rw [List.getD_eq_getElem?_getD, hx]
    exact h2 x (List.mem_of_getElem? hx)
  · obtain ⟨x, hx⟩ := get_some (l := V) (k := j) hj'
    rw [List.getD_eq_getElem?_getD, hx]
    exact h1 x (List.mem_of_getElem? hx)
theorem mixP_vote {L : List Int} {V O : List Vt} {k : Nat} {y : Int} (y0 : 0 ≤ y) (y1 : y < V.length) (h : dAt L y = 1) : voteAt (mixP L V O k) y = voteAt V y := by
  unfold voteAt
  rw [List.getD_eq_getElem?_getD, mixP_get (show y.toNat < V.length by omega), if_neg (by rw [show (y.toNat : Int) = y by omega]; simp [h])]
  rfl
end Go.Proofs.Ytckigonkcjceeaa
