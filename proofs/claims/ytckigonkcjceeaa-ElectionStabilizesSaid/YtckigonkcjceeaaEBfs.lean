/- Distances by breadth-first search: what holds while the search runs. No program in sight. -/
import Derived.Test.YtckigonkcjceeaaEMathB
namespace Go.Proofs.Ytckigonkcjceeaa
set_option linter.unusedVariables false
set_option linter.unusedSimpArgs false
open Go.RowKit
def dAt (L : List Int) (y : Int) : Int := L.getD y.toNat (-1)
def cnt (L : List Int) : Nat := L.countP (fun v => decide (v < 0))
theorem dAt_get {L : List Int} {k : Nat} {v : Int} (h : L[k]? = some v) : dAt L (k : Int) = v := by
  unfold dAt; rw [List.getD_eq_getElem?_getD, Int.toNat_natCast, h]; rfl
theorem dAt_set {L : List Int} {o : Nat} (h : o < L.length) (v : Int) {y : Int} (hy : 0 ≤ y) : dAt (L.set o v) y = if y = o then v else dAt L y := by
  unfold dAt
  rw [List.getD_eq_getElem?_getD, List.getD_eq_getElem?_getD]
  by_cases e : y = o
  · subst e
    rw [if_pos rfl, Int.toNat_natCast, List.getElem?_set_self h]; rfl
  · rw [if_neg e, List.getElem?_set_ne (by omega)]
theorem cnt_set {L : List Int} {o : Nat} (h : o < L.length) (h0 : L[o] < 0) {v : Int} (hv : 0 ≤ v) : cnt (L.set o v) + 1 = cnt L := by
  unfold cnt
  rw [List.countP_set h]
  have h1 : 0 < L.countP (fun v => decide (v < 0)) := List.countP_pos_iff.2 ⟨L[o], List.getElem_mem h, decide_eq_true h0⟩
  rw [if_pos (decide_eq_true h0), if_neg (by simp; omega)]
  omega
section
variable {l : List (Cb × Bool)} {n : Nat} {s : Int}
/-- While no node is under way: L the distances so far, Q the queue. -/
structure Out (l : List (Cb × Bool)) (n : Nat) (s : Int) (L Q : List Int) : Prop where
  len : L.length = n
  s0 : dAt L s = 0
  wk : ∀ y : Int, 0 ≤ y → y < n → 0 ≤ dAt L y → Wk l n (dAt L y).toNat s y
  bnd : ∀ y : Int, 0 ≤ y → y < n → 0 ≤ dAt L y → dAt L y + cnt L ≤ n
  low : ∀ q ∈ Q, (0 ≤ q ∧ q < n) ∧ 0 ≤ dAt L q
  top : ∀ q : Int, q ∈ Q.head? → ∀ y : Int, 0 ≤ y → y < n → dAt L y ≤ dAt L q + 1
  srt : Q.Pairwise (fun a b => dAt L a ≤ dAt L b)
  don : ∀ y : Int, 0 ≤ y → y < n → 0 ≤ dAt L y → y ∉ Q → ∀ z p, Link l y z p → 0 ≤ dAt L z ∧ dAt L z ≤ dAt L y + 1
/-- While the node x is under way: seen are the cables that have been looked at. -/
structure Mid (l : List (Cb × Bool)) (n : Nat) (s : Int) (seen : List (Cb × Bool)) (x : Int) (L Q : List Int) : Prop where
  len : L.length = n
  s0 : dAt L s = 0
  x0 : (0 ≤ x ∧ x < n) ∧ 0 ≤ dAt L x
  wk : ∀ y : Int, 0 ≤ y → y < n → 0 ≤ dAt L y → Wk l n (dAt L y).toNat s y
  bnd : ∀ y : Int, 0 ≤ y → y < n → 0 ≤ dAt L y → dAt L y + cnt L ≤ n
  low : ∀ q ∈ Q, (0 ≤ q ∧ q < n) ∧ dAt L x ≤ dAt L q
  top : ∀ y : Int, 0 ≤ y → y < n → dAt L y ≤ dAt L x + 1
  srt : Q.Pairwise (fun a b => dAt L a ≤ dAt L b)
  don : ∀ y : Int, 0 ≤ y → y < n → 0 ≤ dAt L y → y ∉ Q → y ≠ x → ∀ z p, Link l y z p → 0 ≤ dAt L z ∧ dAt L z ≤ dAt L y + 1
  cur : ∀ z p, Link seen x z p → 0 ≤ dAt L z
theorem Out.mid {L Q : List Int} {x : Int} (h : Out l n s L (x :: Q)) : Mid l n s [] x L Q := by
  have hx := h.low x (by simp)
  obtain ⟨h1, h2⟩ := List.pairwise_cons.1 h.srt
  exact ⟨h.len, h.s0, hx, h.wk, h.bnd, fun q hq => ⟨(h.low q (by simp [hq])).1, h1 q hq⟩, h.top x (by simp), h2, fun y y0 y1 hy hq hne => h.don y y0 y1 hy (by simp [hq, hne]), fun z p hl => by obtain ⟨c, hc, -⟩ := hl; cases hc⟩
theorem Mid.out (hN : Net l n) {L Q : List Int} {x : Int} (h : Mid l n s l x L Q) : Out l n s L Q := by
  refine ⟨h.len, h.s0, h.wk, h.bnd, fun q hq => ⟨(h.low q hq).1, Int.le_trans h.x0.2 (h.low q hq).2⟩, fun q hq y y0 y1 => ?_, h.srt, fun y y0 y1 hy hq z p hl => ?_⟩
  · have h1 := (h.low q (List.mem_of_mem_head? hq)).2
    have h2 := h.top y y0 y1
    omega
  · by_cases e : y = x
    · subst e
      have hz := (hN.link hl).2.1
      exact ⟨h.cur z p hl, h.top z hz.1 hz.2⟩
    · exact h.don y y0 y1 hy hq e z p hl
/-- The node o is visited for the first time. -/
theorem Mid.visit (hN : Net l n) {seen : List (Cb × Bool)} {L Q : List Int} {x : Int} (h : Mid l n s seen x L Q) {o : Nat} (ho : o < n) {p : Int} (hl : Link l x o p) (hneg : dAt L o < 0) :
    Mid l n s seen x (L.set o (dAt L x + 1)) (Q ++ [(o : Int)]) ∧ cnt (L.set o (dAt L x + 1)) + 1 = cnt L := by
  have hoL : o < L.length := by rw [h.len]; exact ho
  have hx0 := h.x0.2
  have hxo : x ≠ o := fun e => by rw [e] at hx0; omega
  have hset : ∀ y : Int, 0 ≤ y → dAt (L.set o (dAt L x + 1)) y = if y = o then dAt L x + 1 else dAt L y := fun y hy => dAt_set hoL _ hy
  have hsx : dAt (L.set o (dAt L x + 1)) x = dAt L x := by rw [hset x h.x0.1.1, if_neg hxo]
  have hgo : L[o] < 0 := by
    have : dAt L (o : Int) = L[o] := dAt_get (List.getElem?_eq_getElem hoL)
    omega
  have hc := cnt_set hoL hgo (v := dAt L x + 1) (by omega)
  have hqo : ∀ q ∈ Q, q ≠ o := fun q hq e => by
    have := (h.low q hq).2
    rw [e] at this
    omega
  have hsq : ∀ q ∈ Q, dAt (L.set o (dAt L x + 1)) q = dAt L q := fun q hq => by rw [hset q (h.low q hq).1.1, if_neg (hqo q hq)]
  have hvis : ∀ z : Int, 0 ≤ z → 0 ≤ dAt L z → dAt (L.set o (dAt L x + 1)) z = dAt L z := fun z z0 hz => by
    rw [hset z z0, if_neg]; intro e; rw [e] at hz; omega
  have hs0 := h.s0
  have hnn : ∀ z q, Link l z q p → True := fun _ _ _ => trivial
  refine ⟨⟨by rw [List.length_set]; exact h.len, ?_, ⟨h.x0.1, by rw [hsx]; exact hx0⟩, ?_, ?_, ?_, ?_, ?_, ?_, ?_⟩, hc⟩
  · unfold dAt at hs0 ⊢
    by_cases e : s.toNat = o
    · exfalso
      have : dAt L (o : Int) = 0 := by unfold dAt; rw [Int.toNat_natCast, ← e]; exact hs0
      omega
    · rw [List.getD_eq_getElem?_getD, List.getElem?_set_ne (by omega), ← List.getD_eq_getElem?_getD]; exact hs0
  · intro y y0 y1 hy
    rw [hset y y0] at hy ⊢
    by_cases e : y = o
    · subst e
      rw [if_pos rfl] at hy ⊢
      have h1 := Wk.step (h.wk x h.x0.1.1 h.x0.1.2 hx0) hl
      rwa [show (dAt L x).toNat + 1 = (dAt L x + 1).toNat by omega] at h1
    · rw [if_neg e] at hy ⊢
      exact h.wk y y0 y1 hy
  · intro y y0 y1 hy
    rw [hset y y0] at hy ⊢
    by_cases e : y = o
    · subst e
      rw [if_pos rfl] at hy ⊢
      have := h.bnd x h.x0.1.1 h.x0.1.2 hx0
      omega
    · rw [if_neg e] at hy ⊢
      have := h.bnd y y0 y1 hy
      omega
  · intro q hq
    rw [hsx]
    rcases List.mem_append.1 hq with hq | hq
    · rw [hsq q hq]; exact h.low q hq
    · simp only [List.mem_singleton] at hq
      subst hq
      rw [hset _ (by omega), if_pos rfl]
      exact ⟨by omega, by omega⟩
  · intro y y0 y1
    rw [hsx, hset y y0]
    split
    · omega
    · exact h.top y y0 y1
  · rw [List.pairwise_append]
    refine ⟨?_, by simp, ?_⟩
    · refine List.Pairwise.imp_of_mem (fun {a b} ha hb hab => ?_) h.srt
      rw [hsq a ha, hsq b hb]; exact hab
    · intro a ha b hb
      simp only [List.mem_singleton] at hb
      subst hb
      rw [hsq a ha, hset _ (by omega), if_pos rfl]
      exact h.top a (h.low a ha).1.1 (h.low a ha).1.2
  · intro y y0 y1 hy hq hyx z q hlk
    have hq' : y ∉ Q ∧ y ≠ o := by
      rw [List.mem_append, List.mem_singleton] at hq
      exact ⟨fun h => hq (.inl h), fun h => hq (.inr h)⟩
    have ey := hset y y0
    rw [if_neg hq'.2] at ey
    rw [ey] at hy ⊢
    obtain ⟨g1, g2⟩ := h.don y y0 y1 hy hq'.1 hyx z q hlk
    have hz := (hN.link hlk).2.1
    rw [hvis z hz.1 g1]
    exact ⟨g1, g2⟩
  · intro z q hlk
    have h1 := h.cur z q hlk
    by_cases z0 : 0 ≤ z
    · rw [hvis z z0 h1]; exact h1
    · unfold dAt at h1 ⊢
      rw [show z.toNat = 0 by omega] at h1 ⊢
      by_cases e : o = 0
      · subst e
        exfalso
        rw [List.getD_eq_getElem?_getD, List.getElem?_eq_getElem hoL] at h1
        simp at h1
        omega
      · rw [List.getD_eq_getElem?_getD, List.getElem?_set_ne e, ← List.getD_eq_getElem?_getD]; exact h1
/-- One more cable has been looked at. -/
theorem Mid.next {seen : List (Cb × Bool)} {L Q : List Int} {x : Int} (h : Mid l n s seen x L Q) {c : Cb} {u : Bool} (h1 : u = true → c.a = x → 0 ≤ dAt L c.b) (h2 : u = true → c.b = x → 0 ≤ dAt L c.a) : Mid l n s (seen ++ [(c, u)]) x L Q := by
  refine ⟨h.len, h.s0, h.x0, h.wk, h.bnd, h.low, h.top, h.srt, h.don, fun z p hl => ?_⟩
  obtain ⟨c', hc, hcase⟩ := hl
  rcases List.mem_append.1 hc with hc | hc
  · exact h.cur z p ⟨c', hc, hcase⟩
  · simp only [List.mem_singleton] at hc
    injection hc with e1 e2
    subst e1
    rcases hcase with ⟨g1, g2, -⟩ | ⟨g1, g2, -⟩
    · subst g2; exact h1 e2.symm g1
    · subst g2; exact h2 e2.symm g1
section
variable {seen : List (Cb × Bool)} {L Q : List Int} {x : Int} {c : Cb} {o : Nat}
theorem mid_new_a (hN : Net l n) (h : Mid l n s seen x L Q) (hm : (c, true) ∈ l) (ha : c.a = x) (hb : c.b = o) (ho : o < n) (hneg : dAt L o < 0) : Mid l n s (seen ++ [(c, true)]) x (L.set o (dAt L x + 1)) (Q ++ [(o : Int)]) ∧ cnt (L.set o (dAt L x + 1)) + (Q ++ [(o : Int)]).length = cnt L + Q.length := by
  obtain ⟨h1, h2⟩ := h.visit hN ho (p := c.bp) ⟨c, hm, .inl ⟨ha, hb, rfl⟩⟩ hneg
  have hx := h.x0.2
  have hne := hN.ne _ hm
  simp only at hne
  refine ⟨h1.next (fun _ _ => ?_) (fun _ e => absurd (ha.trans e.symm) hne), by rw [List.length_append, List.length_singleton]; omega⟩
  rw [hb, dAt_set (by rw [h.len]; exact ho) _ (by omega), if_pos rfl]; omega
theorem mid_new_b (hN : Net l n) (h : Mid l n s seen x L Q) (hm : (c, true) ∈ l) (hb : c.b = x) (ha : c.a = o) (ho : o < n) (hneg : dAt L o < 0) : Mid l n s (seen ++ [(c, true)]) x (L.set o (dAt L x + 1)) (Q ++ [(o : Int)]) ∧ cnt (L.set o (dAt L x + 1)) + (Q ++ [(o : Int)]).length = cnt L + Q.length := by
  obtain ⟨h1, h2⟩ := h.visit hN ho (p := c.ap) ⟨c, hm, .inr ⟨hb, ha, rfl⟩⟩ hneg
  have hx := h.x0.2
  have hne := hN.ne _ hm
  simp only at hne
  refine ⟨h1.next (fun _ e => absurd (e.trans hb.symm) hne) (fun _ _ => ?_), by rw [List.length_append, List.length_singleton]; omega⟩
  rw [ha, dAt_set (by rw [h.len]; exact ho) _ (by omega), if_pos rfl]; omega
theorem mid_old_a (hN : Net l n) (h : Mid l n s seen x L Q) (hm : (c, true) ∈ l) (ha : c.a = x) (hb : c.b = o) (hnn : 0 ≤ dAt L o) : Mid l n s (seen ++ [(c, true)]) x L Q := by
  have hne := hN.ne _ hm
  simp only at hne
  exact h.next (fun _ _ => by rw [hb]; exact hnn) (fun _ e => absurd (ha.trans e.symm) hne)
theorem mid_old_b (hN : Net l n) (h : Mid l n s seen x L Q) (hm : (c, true) ∈ l) (hb : c.b = x) (ha : c.a = o) (hnn : 0 ≤ dAt L o) : Mid l n s (seen ++ [(c, true)]) x L Q := by
  have hne := hN.ne _ hm
  simp only at hne
  exact h.next (fun _ e => absurd (e.trans hb.symm) hne) (fun _ _ => by rw [ha]; exact hnn)
theorem mid_none (h : Mid l n s seen x L Q) {u : Bool} (hh : u = true → c.a ≠ x ∧ c.b ≠ x) : Mid l n s (seen ++ [(c, u)]) x L Q := h.next (fun e e2 => absurd e2 (hh e).1) (fun e e2 => absurd e2 (hh e).2)
end
/-- The distances of a search that has ended. -/
structure Far (l : List (Cb × Bool)) (n : Nat) (s : Int) (L : List Int) : Prop where
  len : L.length = n
  yes : ∀ y : Int, 0 ≤ y → y < n → 0 ≤ dAt L y → Dst l n s y (dAt L y).toNat
  all : ∀ k y, Wk l n k s y → 0 ≤ dAt L y
theorem Out.far (hN : Net l n) {L : List Int} (h : Out l n s L []) : Far l n s L := by
  have hk : ∀ k y, Wk l n k s y → 0 ≤ dAt L y ∧ dAt L y ≤ k := fun k y hw => by
    induction hw with
    | refl u h1 h2 => rw [h.s0]; omega
    | step hw hl ih =>
      have hb := (hN.link hl).1
      have := h.don _ hb.1 hb.2 (ih h).1 (by simp) _ _ hl
      have := (ih h).2
      omega
  refine ⟨h.len, fun y y0 y1 hy => ⟨h.wk y y0 y1 hy, fun k hw => ?_⟩, fun k y hw => (hk k y hw).1⟩
  have := (hk k y hw).2
  omega
theorem cnt_rep (n : Nat) : cnt (List.replicate n (-1)) = n := by
  unfold cnt; rw [List.countP_replicate, if_pos (by decide)]
theorem start_cnt {n f : Nat} (hf : f < n) : cnt ((List.replicate n (-1)).set f 0) + 1 = n := by
  have hl : f < (List.replicate n (-1 : Int)).length := by rw [List.length_replicate]; exact hf
  have := cnt_set hl (by simp) (v := 0) (by omega)
  rwa [cnt_rep] at this
theorem out_start (hN : Net l n) {f : Nat} (hf : f < n) : Out l n f ((List.replicate n (-1)).set f 0) [(f : Int)] := by
  have hl : f < (List.replicate n (-1 : Int)).length := by rw [List.length_replicate]; exact hf
  have hd : ∀ y : Int, 0 ≤ y → dAt (List.replicate n (-1)) y = -1 := fun y y0 => by
    unfold dAt
    rw [List.getD_eq_getElem?_getD, List.getElem?_replicate]
    split <;> rfl
  have hs : ∀ y : Int, 0 ≤ y → dAt ((List.replicate n (-1)).set f 0) y = if y = f then 0 else -1 := fun y y0 => by rw [dAt_set hl _ y0, hd y y0]
  have hc : cnt ((List.replicate n (-1)).set f 0) + 1 = n := by
    have := cnt_set hl (by simp) (v := 0) (by omega)
    rwa [cnt_rep] at this
  have hv : ∀ y : Int, 0 ≤ y → 0 ≤ dAt ((List.replicate n (-1)).set f 0) y → y = f := fun y y0 h => by
    rw [hs y y0] at h
    split at h
    · assumption
    · omega
  refine ⟨by simp, by rw [hs f (by omega), if_pos rfl], fun y y0 y1 h => ?_, fun y y0 y1 h => ?_, fun q hq => ?_, fun q hq y y0 y1 => ?_, by simp, fun y y0 y1 h hq => ?_⟩
  · obtain rfl := hv y y0 h
    rw [hs _ y0, if_pos rfl]
    exact Wk.refl _ y0 y1
  · obtain rfl := hv y y0 h
    rw [hs _ y0, if_pos rfl]; omega
  · simp only [List.mem_singleton] at hq
    subst hq
    rw [hs _ (by omega), if_pos rfl]; omega
  · simp only [List.head?_cons, Option.mem_def, Option.some.injEq] at hq
    subst hq
    rw [hs y y0, hs (f : Int) (by omega), if_pos rfl]
    split <;> omega
  · exact absurd (hv y y0 h) (by simpa using hq)
end
end Go.Proofs.Ytckigonkcjceeaa
