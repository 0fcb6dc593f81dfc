/- Election as mathematics: what a round chooses, walks over cables that are up, and that the votes are stable after twice as many rounds as there are nodes. No program in sight. -/
import Derived.Test.YtckigonkcjceeaaERun
namespace Go.Proofs.Ytckigonkcjceeaa
set_option linter.unusedVariables false
set_option linter.unusedSimpArgs false
open Go.RowKit
/-- a is at least as good as b. -/
def Le (a b : Vt) : Prop := a.root < b.root ∨ a.root = b.root ∧ (a.dist < b.dist ∨ a.dist = b.dist ∧ a.port ≤ b.port)
theorem better_true {a b : Vt} : betterB a b = true ↔ a.root < b.root ∨ a.root = b.root ∧ (a.dist < b.dist ∨ a.dist = b.dist ∧ a.port < b.port) := by
  unfold betterB
  split
  · split
    · simp; omega
    · simp; omega
  · simp; omega
theorem Le.refl (a : Vt) : Le a a := by unfold Le; omega
theorem Le.trans {a b c : Vt} (h : Le a b) (k : Le b c) : Le a c := by unfold Le at *; omega
theorem le_of_better {a b : Vt} (h : betterB a b = true) : Le a b := by rw [better_true] at h; unfold Le; omega
theorem le_of_not {a b : Vt} (h : ¬ betterB a b = true) : Le b a := by rw [better_true] at h; unfold Le; omega
/-- Over an element of l that is up the node v hears the node u, at its port p. -/
def Link (l : List (Cb × Bool)) (u v p : Int) : Prop := ∃ c, (c, true) ∈ l ∧ (c.a = u ∧ c.b = v ∧ p = c.bp ∨ c.b = u ∧ c.a = v ∧ p = c.ap)
theorem Link.symm {l : List (Cb × Bool)} {u v p : Int} (h : Link l u v p) : ∃ p', Link l v u p' := by
  obtain ⟨c, hc, ⟨h1, h2, h3⟩ | ⟨h1, h2, h3⟩⟩ := h
  · exact ⟨c.ap, c, hc, .inr ⟨h2, h1, rfl⟩⟩
  · exact ⟨c.bp, c, hc, .inl ⟨h2, h1, rfl⟩⟩
theorem Link.mono {l l' : List (Cb × Bool)} {u v p : Int} (h : Link l u v p) (hs : ∀ x ∈ l, x ∈ l') : Link l' u v p := by
  obtain ⟨c, hc, h⟩ := h; exact ⟨c, hs _ hc, h⟩
/-- What v hears of u. -/
def heardOf (V : List Vt) (u p : Int) : Vt := ⟨(voteAt V u).root, (voteAt V u).dist + 1, p⟩
theorem heardV_spec (n : Int) (V : List Vt) (u p : Int) (best : Vt) : (heardV n (voteAt V u) p best = best ∨ ((voteAt V u).dist + 1 < n ∧ heardV n (voteAt V u) p best = heardOf V u p)) ∧ Le (heardV n (voteAt V u) p best) best ∧ ((voteAt V u).dist + 1 < n → Le (heardV n (voteAt V u) p best) (heardOf V u p)) := by
  unfold heardV heardOf
  by_cases h1 : (voteAt V u).dist + 1 < n
  · rw [if_pos h1]
    by_cases h2 : betterB ⟨(voteAt V u).root, (voteAt V u).dist + 1, p⟩ best = true
    · rw [if_pos h2]
      exact ⟨.inr ⟨h1, rfl⟩, le_of_better h2, fun _ => Le.refl _⟩
    · rw [if_neg h2]
      exact ⟨.inl rfl, Le.refl _, fun _ => le_of_not h2⟩
  · rw [if_neg h1]
    exact ⟨.inl rfl, Le.refl _, fun h => absurd h h1⟩
theorem hearC_spec (n : Int) (V : List Vt) (v : Int) (best : Vt) (x : Cb × Bool) (hne : x.1.a ≠ x.1.b) :
    (hearC n V v best x = best ∨ ∃ u p, Link [x] u v p ∧ (voteAt V u).dist + 1 < n ∧ hearC n V v best x = heardOf V u p) ∧ Le (hearC n V v best x) best ∧ (∀ u p, Link [x] u v p → (voteAt V u).dist + 1 < n → Le (hearC n V v best x) (heardOf V u p)) := by
  obtain ⟨c, b⟩ := x
  simp only at hne
  cases b with
  | false =>
    refine ⟨.inl rfl, Le.refl _, ?_⟩
    rintro u p ⟨d, hd, -⟩
    simp at hd
  | true =>
    by_cases hb : c.b = v
    · have ha : c.a ≠ v := fun h => hne (h.trans hb.symm)
      have e : hearC n V v best (c, true) = heardV n (voteAt V c.a) c.bp best := by unfold hearC; rw [if_pos rfl, if_pos hb, if_neg ha]
      rw [e]
      obtain ⟨s1, s2, s3⟩ := heardV_spec n V c.a c.bp best
      refine ⟨?_, s2, ?_⟩
      · rcases s1 with s1 | ⟨s1, s4⟩
        · exact .inl s1
        · exact .inr ⟨c.a, c.bp, ⟨c, by simp, .inl ⟨rfl, hb, rfl⟩⟩, s1, s4⟩
      · rintro u p ⟨d, hd, h⟩ hlt
        simp at hd
        subst hd
        rcases h with ⟨h1, h2, h3⟩ | ⟨h1, h2, h3⟩
        · subst h1; subst h3; exact s3 hlt
        · exact absurd h2 ha
    · by_cases ha : c.a = v
      · have e : hearC n V v best (c, true) = heardV n (voteAt V c.b) c.ap best := by unfold hearC; rw [if_pos rfl, if_neg hb, if_pos ha]
        rw [e]
        obtain ⟨s1, s2, s3⟩ := heardV_spec n V c.b c.ap best
        refine ⟨?_, s2, ?_⟩
        · rcases s1 with s1 | ⟨s1, s4⟩
          · exact .inl s1
          · exact .inr ⟨c.b, c.ap, ⟨c, by simp, .inr ⟨rfl, ha, rfl⟩⟩, s1, s4⟩
        · rintro u p ⟨d, hd, h⟩ hlt
          simp at hd
          subst hd
          rcases h with ⟨h1, h2, h3⟩ | ⟨h1, h2, h3⟩
          · exact absurd h2 hb
          · subst h1; subst h3; exact s3 hlt
      · have e : hearC n V v best (c, true) = best := by unfold hearC; rw [if_pos rfl, if_neg hb, if_neg ha]
        rw [e]
        refine ⟨.inl rfl, Le.refl _, ?_⟩
        rintro u p ⟨d, hd, h⟩ hlt
        simp at hd
        subst hd
        rcases h with ⟨h1, h2, h3⟩ | ⟨h1, h2, h3⟩
        · exact absurd h2 hb
        · exact absurd h2 ha
theorem fold_spec (n : Int) (V : List Vt) (v : Int) (l : List (Cb × Bool)) (hl : ∀ x ∈ l, x.1.a ≠ x.1.b) : ∀ best : Vt,
    (l.foldl (hearC n V v) best = best ∨ ∃ u p, Link l u v p ∧ (voteAt V u).dist + 1 < n ∧ l.foldl (hearC n V v) best = heardOf V u p) ∧ Le (l.foldl (hearC n V v) best) best ∧ (∀ u p, Link l u v p → (voteAt V u).dist + 1 < n → Le (l.foldl (hearC n V v) best) (heardOf V u p)) := by
  induction l with
  | nil =>
    intro best
    refine ⟨.inl rfl, Le.refl _, ?_⟩
    rintro u p ⟨c, hc, -⟩
    cases hc
  | cons x l ih =>
    intro best
    obtain ⟨i1, i2, i3⟩ := ih (fun y hy => hl y (List.mem_cons_of_mem _ hy)) (hearC n V v best x)
    obtain ⟨s1, s2, s3⟩ := hearC_spec n V v best x (hl x (List.mem_cons_self ..))
    rw [List.foldl_cons]
    refine ⟨?_, i2.trans s2, ?_⟩
    · rcases i1 with i1 | ⟨u, p, hu, hd, hr⟩
      · rw [i1]
        rcases s1 with s1 | ⟨u, p, hu, hd, hr⟩
        · exact .inl s1
        · exact .inr ⟨u, p, hu.mono (by simp), hd, hr⟩
      · exact .inr ⟨u, p, hu.mono (fun y hy => List.mem_cons_of_mem _ hy), hd, hr⟩
    · rintro u p ⟨c, hc, h⟩ hd
      rcases List.mem_cons.1 hc with hc | hc
      · exact i2.trans (s3 u p ⟨c, by rw [← hc]; simp, h⟩ hd)
      · exact i3 u p ⟨c, hc, h⟩ hd
theorem roundAt_spec (n : Int) (V : List Vt) (v : Int) (l : List (Cb × Bool)) (hl : ∀ x ∈ l, x.1.a ≠ x.1.b) :
    (roundAt n V l v = selfV v ∨ ∃ u p, Link l u v p ∧ (voteAt V u).dist + 1 < n ∧ roundAt n V l v = heardOf V u p) ∧ Le (roundAt n V l v) (selfV v) ∧ (∀ u p, Link l u v p → (voteAt V u).dist + 1 < n → Le (roundAt n V l v) (heardOf V u p)) := fold_spec n V v l hl _
/-- A walk of k steps over cables that are up. -/
inductive Wk (l : List (Cb × Bool)) (n : Int) : Nat → Int → Int → Prop
  | refl (u : Int) : 0 ≤ u → u < n → Wk l n 0 u u
  | step {k : Nat} {u v x p : Int} : Wk l n k u v → Link l v x p → Wk l n (k + 1) u x
/-- The cables are those of a valid plan. -/
structure Net (l : List (Cb × Bool)) (n : Nat) : Prop where
  ne : ∀ x ∈ l, x.1.a ≠ x.1.b
  a : ∀ x ∈ l, 0 ≤ x.1.a ∧ x.1.a < n
  b : ∀ x ∈ l, 0 ≤ x.1.b ∧ x.1.b < n
  ap : ∀ x ∈ l, 0 ≤ x.1.ap
  bp : ∀ x ∈ l, 0 ≤ x.1.bp
section
variable {l : List (Cb × Bool)} {n : Nat}
theorem Net.link (h : Net l n) {u v p : Int} (hl : Link l u v p) : (0 ≤ u ∧ u < n) ∧ (0 ≤ v ∧ v < n) ∧ u ≠ v ∧ 0 ≤ p := by
  obtain ⟨c, hc, ⟨h1, h2, h3⟩ | ⟨h1, h2, h3⟩⟩ := hl
  · subst h1; subst h2; subst h3
    exact ⟨h.a _ hc, h.b _ hc, h.ne _ hc, h.bp _ hc⟩
  · subst h1; subst h2; subst h3
    exact ⟨h.b _ hc, h.a _ hc, fun e => h.ne _ hc e.symm, h.ap _ hc⟩
theorem Wk.bd (h : Net l n) {k : Nat} {u v : Int} (hw : Wk l n k u v) : (0 ≤ u ∧ u < n) ∧ (0 ≤ v ∧ v < n) := by
  induction hw with
  | refl u h1 h2 => exact ⟨⟨h1, h2⟩, h1, h2⟩
  | step hw hl ih => exact ⟨ih.1, (h.link hl).2.1⟩
theorem Wk.app {k j : Nat} {u v x : Int} (h1 : Wk l n k u v) (h2 : Wk l n j v x) : Wk l n (k + j) u x := by
  induction h2 with
  | refl => exact h1
  | step hw hl ih => exact Wk.step (ih h1) hl
theorem Wk.one (h : Net l n) {u v p : Int} (hl : Link l u v p) : Wk l n 1 u v := Wk.step (Wk.refl u (h.link hl).1.1 (h.link hl).1.2) hl
theorem Wk.symm (h : Net l n) {k : Nat} {u v : Int} (hw : Wk l n k u v) : Wk l n k v u := by
  induction hw with
  | refl u h1 h2 => exact Wk.refl u h1 h2
  | step hw hl ih =>
    obtain ⟨p', hl'⟩ := hl.symm
    have := (Wk.one h hl').app ih
    rwa [Nat.add_comm] at this
/-- d is the distance of x from m. -/
def Dst (l : List (Cb × Bool)) (n : Nat) (m x : Int) (d : Nat) : Prop := Wk l n d m x ∧ ∀ k, Wk l n k m x → d ≤ k
theorem Dst.pre {m x : Int} {d : Nat} (hd : Dst l n m x (d + 1)) : ∃ y p, Dst l n m y d ∧ Link l y x p := by
  obtain ⟨hw, hmin⟩ := hd
  cases hw with
  | step hw hl =>
    refine ⟨_, _, ⟨hw, fun k hk => ?_⟩, hl⟩
    have := hmin (k + 1) (Wk.step hk hl)
    omega
theorem Dst.uniq {m x : Int} {d d' : Nat} (h : Dst l n m x d) (h' : Dst l n m x d') : d = d' := by
  have := h.2 _ h'.1
  have := h'.2 _ h.1
  omega
theorem Dst.down {m x : Int} {d : Nat} (h : Dst l n m x d) (j : Nat) (hj : j ≤ d) : ∃ y, Dst l n m y j := by
  induction d generalizing x with
  | zero =>
    obtain rfl : j = 0 := by omega
    exact ⟨x, h⟩
  | succ d ih =>
    rcases Nat.lt_or_ge d j with hlt | hge
    · obtain rfl : j = d + 1 := by omega
      exact ⟨x, h⟩
    · obtain ⟨y, p, hy, -⟩ := h.pre
      exact ih hy hge
theorem least_nat (P : Nat → Prop) (h : ∃ k, P k) : ∃ k, P k ∧ ∀ j, P j → k ≤ j := by
  obtain ⟨k, hk⟩ := h
  induction k using Nat.strongRecOn with
  | _ k ih =>
    by_cases hs : ∃ j, j < k ∧ P j
    · obtain ⟨j, hj, hp⟩ := hs
      exact ih j hj hp
    · exact ⟨k, hk, fun j hj => Nat.le_of_not_lt fun hlt => hs ⟨j, hlt, hj⟩⟩
theorem Dst.of {m x : Int} {k : Nat} (h : Wk l n k m x) : ∃ d, Dst l n m x d ∧ d ≤ k := by
  obtain ⟨d, hd, hm⟩ := least_nat (fun k => Wk l n k m x) ⟨k, h⟩
  exact ⟨d, ⟨hd, hm⟩, hm _ h⟩
theorem nodup_le : ∀ (n : Nat) (l : List Nat), l.Nodup → (∀ x ∈ l, x < n) → l.length ≤ n
  | 0, l, _, h => by
    cases l with
    | nil => simp
    | cons x l => exact absurd (h x (by simp)) (by omega)
  | n + 1, l, hn, h => by
    have h1 := nodup_le n (l.erase n) (hn.erase n) (fun x hx => by
      have h2 := h x (List.mem_of_mem_erase hx)
      have h3 : x ≠ n := ((hn.mem_erase_iff).1 hx).1
      omega)
    by_cases hm : n ∈ l
    · rw [List.length_erase_of_mem hm] at h1; omega
    · rw [List.erase_of_not_mem hm] at h1; omega
theorem Dst.lt (hN : Net l n) {m x : Int} {d : Nat} (h : Dst l n m x d) : d < n := by
  have hc : ∀ j : Nat, ∃ y : Nat, j ≤ d → Dst l n m (y : Int) j := fun j => by
    by_cases hj : j ≤ d
    · obtain ⟨y, hy⟩ := h.down j hj
      have := (Wk.bd hN hy.1).2
      exact ⟨y.toNat, fun _ => by rwa [show (y.toNat : Int) = y by omega]⟩
    · exact ⟨0, fun h => absurd h hj⟩
  have hf := Classical.axiomOfChoice hc
  obtain ⟨f, hf⟩ := hf
  have h1 := nodup_le n ((List.range (d + 1)).map f) (by
    rw [List.nodup_iff_pairwise_ne, List.pairwise_map]
    refine List.Pairwise.imp_of_mem ?_ (List.nodup_iff_pairwise_ne.1 (List.nodup_range (n := d + 1)))
    intro a b ha hb hab e
    have ha' := hf a (by simp at ha; omega)
    have hb' := hf b (by simp at hb; omega)
    rw [e] at ha'
    exact hab (ha'.uniq hb')) (by
    intro y hy
    obtain ⟨j, hj, rfl⟩ := List.mem_map.1 hy
    have := (Wk.bd hN (hf j (by simp at hj; omega)).1).2
    omega)
  simp at h1
  omega
/-- The least node of a node's part. -/
def Least (l : List (Cb × Bool)) (n : Nat) (m x : Int) : Prop := (∃ k, Wk l n k m x) ∧ ∀ k u, Wk l n k u x → m ≤ u
theorem least_of (hN : Net l n) {x : Int} (h0 : 0 ≤ x) (h1 : x < n) : ∃ m, Least l n m x := by
  obtain ⟨m, ⟨k, hk⟩, hm⟩ := least_nat (fun m => ∃ k, Wk l n k (m : Int) x) ⟨x.toNat, 0, by rw [show (x.toNat : Int) = x by omega]; exact Wk.refl x h0 h1⟩
  refine ⟨m, ⟨k, hk⟩, fun k u hu => ?_⟩
  have hb := (Wk.bd hN hu).1
  have := hm u.toNat ⟨k, by rwa [show (u.toNat : Int) = u by omega]⟩
  omega
theorem Least.uniq {m m' x : Int} (h : Least l n m x) (h' : Least l n m' x) : m = m' := by
  obtain ⟨⟨k, hk⟩, h2⟩ := h
  obtain ⟨⟨k', hk'⟩, h2'⟩ := h'
  have := h2 _ _ hk'
  have := h2' _ _ hk
  omega
theorem Least.le_of (hN : Net l n) {m x u : Int} {k : Nat} (h : Least l n m x) (hw : Wk l n k u x) : m ≤ u := h.2 _ _ hw
end
/-! ### the votes after many rounds -/
section
variable {C : List Cb} {up : List Bool} {V : List Vt}
theorem voteAt_some {V : List Vt} {i : Int} (h0 : 0 ≤ i) (h1 : i < V.length) : ∃ v, V[i.toNat]? = some v ∧ voteAt V i = v ∧ v ∈ V := by
  obtain ⟨v, hv⟩ := get_some (l := V) (k := i.toNat) (by omega)
  exact ⟨v, hv, by unfold voteAt; rw [List.getD_eq_getElem?_getD, hv]; rfl, List.mem_of_getElem? hv⟩
theorem voteAt_round {i : Int} (h0 : 0 ≤ i) (h1 : i < V.length) : voteAt (roundP C up V) i = roundAt V.length V (C.zip up) i := by
  unfold voteAt
  rw [List.getD_eq_getElem?_getD, roundP_get (show i.toNat < V.length by omega), show (i.toNat : Int) = i by omega]
  rfl
theorem roundsP_succ (C : List Cb) (up : List Bool) (V : List Vt) (k : Nat) : roundsP C up V (k + 1) = roundP C up (roundsP C up V k) := rfl
/-- The vote v of the node x names a node, at the end of a walk of just its distance. -/
def RealV (l : List (Cb × Bool)) (n : Nat) (x : Int) (v : Vt) : Prop := ∃ k : Nat, v.dist = k ∧ Wk l n k v.root x
theorem old_or_real (hN : Net (C.zip up) V.length) (hd : DistOk V.length V) (k : Nat) : ∀ i : Int, 0 ≤ i → i < V.length → (k : Int) ≤ (voteAt (roundsP C up V k) i).dist ∨ RealV (C.zip up) V.length i (voteAt (roundsP C up V k) i) := by
  induction k with
  | zero =>
    intro i h0 h1
    obtain ⟨v, -, h2, h3⟩ := voteAt_some h0 h1
    show (0 : Int) ≤ (voteAt V i).dist ∨ _
    rw [h2]
    exact .inl (hd v h3).1
  | succ k ih =>
    intro i h0 h1
    have hlen := roundsP_len C up V k
    rw [roundsP_succ, voteAt_round h0 (by rw [hlen]; exact h1), hlen]
    rcases (roundAt_spec V.length (roundsP C up V k) i (C.zip up) hN.ne).1 with e | ⟨u, p, hl, hlt, e⟩
    · rw [e]
      exact .inr ⟨0, rfl, Wk.refl i h0 h1⟩
    · rw [e]
      have hb := (hN.link hl).1
      rcases ih u hb.1 hb.2 with h | ⟨j, hj, hw⟩
      · left; simp only [heardOf]; omega
      · right; exact ⟨j + 1, by simp only [heardOf]; omega, Wk.step hw hl⟩
theorem real_late (hN : Net (C.zip up) V.length) (hd : DistOk V.length V) {k : Nat} (hk : V.length ≤ k) (i : Int) (h0 : 0 ≤ i) (h1 : i < V.length) : RealV (C.zip up) V.length i (voteAt (roundsP C up V k) i) := by
  rcases old_or_real hN hd k i h0 h1 with h | h
  · obtain ⟨v, -, h2, h3⟩ := voteAt_some (V := roundsP C up V k) h0 (by rw [roundsP_len]; exact h1)
    have := (roundsP_ok (C := C) (up := up) hd k v h3).2
    rw [h2] at h
    omega
  · exact h
/-- After n + j rounds the nodes up to distance j of the least node of their part follow it. -/
theorem follow (hN : Net (C.zip up) V.length) (hd : DistOk V.length V) (j : Nat) : ∀ (m x : Int) (d : Nat), Least (C.zip up) V.length m x → Dst (C.zip up) V.length m x d → d ≤ j → (voteAt (roundsP C up V (V.length + j)) x).root = m ∧ (voteAt (roundsP C up V (V.length + j)) x).dist = d := by
  -- what is real names a root that is no less than m, and at least as far as the distance
  have key : ∀ (k : Nat) (m x : Int) (d : Nat), V.length ≤ k → Least (C.zip up) V.length m x → Dst (C.zip up) V.length m x d → (voteAt (roundsP C up V k) x).root ≥ m ∧ ((voteAt (roundsP C up V k) x).root = m → (d : Int) ≤ (voteAt (roundsP C up V k) x).dist) := by
    intro k m x d hk hL hD
    have hb := (Wk.bd hN hD.1).2
    obtain ⟨q, hq, hw⟩ := real_late hN hd hk x hb.1 hb.2
    exact ⟨hL.2 _ _ hw, fun e => by rw [e] at hw; have := hD.2 _ hw; omega⟩
  have low : ∀ (k : Nat) (m x : Int) (d : Nat), V.length ≤ k → Least (C.zip up) V.length m x → Dst (C.zip up) V.length m x d → Le (voteAt (roundsP C up V k) x) ⟨m, d, (voteAt (roundsP C up V k) x).port⟩ → (voteAt (roundsP C up V k) x).root = m ∧ (voteAt (roundsP C up V k) x).dist = d := by
    intro k m x d hk hL hD hle
    obtain ⟨h1, h2⟩ := key k m x d hk hL hD
    unfold Le at hle
    simp only at hle
    have e : (voteAt (roundsP C up V k) x).root = m := by omega
    have := h2 e
    exact ⟨e, by omega⟩
  induction j with
  | zero =>
    intro m x d hL hD hd0
    obtain rfl : d = 0 := by omega
    have hb := (Wk.bd hN hD.1).2
    have hxm : m = x := by cases hD.1; rfl
    subst hxm
    refine low _ _ _ _ (by omega) hL hD ?_
    have hn : V.length + 0 = (V.length - 1) + 1 := by omega
    rw [hn, roundsP_succ, voteAt_round hb.1 (by rw [roundsP_len]; exact hb.2), roundsP_len]
    have := (roundAt_spec V.length (roundsP C up V (V.length - 1)) m (C.zip up) hN.ne).2.1
    unfold Le selfV at this
    unfold Le
    simp only at this ⊢
    omega
  | succ j ih =>
    intro m x d hL hD hdj
    have hb := (Wk.bd hN hD.1).2
    refine low _ _ _ _ (by omega) hL hD ?_
    rw [show V.length + (j + 1) = (V.length + j) + 1 by omega, roundsP_succ, voteAt_round hb.1 (by rw [roundsP_len]; exact hb.2), roundsP_len]
    have spec := roundAt_spec V.length (roundsP C up V (V.length + j)) x (C.zip up) hN.ne
    cases d with
    | zero =>
      have hxm : m = x := by cases hD.1; rfl
      have := spec.2.1
      unfold Le selfV at this
      unfold Le
      simp only at this ⊢
      omega
    | succ d =>
      obtain ⟨y, p, hDy, hl⟩ := hD.pre
      have hLy : Least (C.zip up) V.length m y := by
        refine ⟨⟨_, hDy.1⟩, fun k u hu => hL.2 (k + 1) u (Wk.step hu hl)⟩
      obtain ⟨i1, i2⟩ := ih m y d hLy hDy (by omega)
      have hlt := Dst.lt hN hD
      have := spec.2.2 y p hl (by rw [i2]; omega)
      unfold heardOf at this
      rw [i1, i2] at this
      unfold Le at this
      unfold Le
      simp only at this ⊢
      omega
theorem round_core {W : List Vt} (hl : V.length = W.length) (h : ∀ i : Int, 0 ≤ i → i < V.length → (voteAt V i).root = (voteAt W i).root ∧ (voteAt V i).dist = (voteAt W i).dist) (hN : Net (C.zip up) V.length) : roundP C up V = roundP C up W := by
  have hh : ∀ (n : Int) (best : Vt) (u p : Int), 0 ≤ u → u < V.length → heardV n (voteAt V u) p best = heardV n (voteAt W u) p best := fun n best u p h0 h1 => by
    obtain ⟨a, b⟩ := h u h0 h1
    unfold heardV; rw [a, b]
  have hc : ∀ (n v : Int) (best : Vt) (x : Cb × Bool), x ∈ C.zip up → hearC n V v best x = hearC n W v best x := fun n v best x hx => by
    unfold hearC
    rw [hh n _ _ _ (hN.a x hx).1 (hN.a x hx).2, hh n _ _ _ (hN.b x hx).1 (hN.b x hx).2]
  have hf : ∀ (n v : Int) (l : List (Cb × Bool)), (∀ x ∈ l, x ∈ C.zip up) → ∀ best, l.foldl (hearC n V v) best = l.foldl (hearC n W v) best := fun n v l => by
    induction l with
    | nil => intro _ best; rfl
    | cons x l ih => intro hm best; rw [List.foldl_cons, List.foldl_cons, hc n v best x (hm x (by simp)), ih (fun y hy => hm y (by simp [hy]))]
  unfold roundP
  rw [hl]
  refine List.map_congr_left fun i _ => ?_
  unfold roundAt
  exact hf _ _ _ (fun x hx => hx) _
/-- Stable after twice as many rounds as there are nodes. -/
theorem stable_late (hN : Net (C.zip up) V.length) (hd : DistOk V.length V) : StableAt C up V (2 * V.length) := by
  unfold StableAt
  rcases Nat.eq_zero_or_pos V.length with h0 | h0
  · have : V = [] := List.eq_nil_of_length_eq_zero h0
    subst this
    rfl
  · have e1 : 2 * V.length = (V.length + (V.length - 1)) + 1 := by omega
    have e2 : 2 * V.length = V.length + V.length := by omega
    have hcore : ∀ i : Int, 0 ≤ i → i < (roundsP C up V (V.length + V.length)).length → (voteAt (roundsP C up V (V.length + V.length)) i).root = (voteAt (roundsP C up V (V.length + (V.length - 1))) i).root ∧ (voteAt (roundsP C up V (V.length + V.length)) i).dist = (voteAt (roundsP C up V (V.length + (V.length - 1))) i).dist := by
      intro i i0 i1
      rw [roundsP_len] at i1
      obtain ⟨m, hm⟩ := least_of hN i0 i1
      obtain ⟨k, hk⟩ := hm.1
      obtain ⟨d, hd', -⟩ := Dst.of hk
      have hlt := Dst.lt hN hd'
      obtain ⟨a, b⟩ := follow hN hd V.length m i d hm hd' (by omega)
      obtain ⟨a', b'⟩ := follow hN hd (V.length - 1) m i d hm hd' (by omega)
      exact ⟨a.trans a'.symm, b.trans b'.symm⟩
    have := round_core (C := C) (up := up) (by rw [roundsP_len, roundsP_len]) hcore (by rw [roundsP_len]; exact hN)
    rw [e2, this, ← roundsP_succ]
    congr 1
    omega
theorem stable_stay {r : Nat} (h : StableAt C up V r) (j : Nat) : roundsP C up V (r + j) = roundsP C up V r := by
  induction j with
  | zero => rfl
  | succ j ih => rw [show r + (j + 1) = (r + j) + 1 by omega, roundsP_succ, ih]; exact h
/-- What is stable: the root is the least node of the part, the distance is its distance, and the port is -1 just at the root. -/
theorem stable_is (hN : Net (C.zip up) V.length) (hd : DistOk V.length V) {r : Nat} (h : StableAt C up V r) {m x : Int} {d : Nat} (hL : Least (C.zip up) V.length m x) (hD : Dst (C.zip up) V.length m x d) :
    (voteAt (roundsP C up V r) x).root = m ∧ (voteAt (roundsP C up V r) x).dist = d ∧ ((voteAt (roundsP C up V r) x).port = -1 ↔ x = m) := by
  have hb := (Wk.bd hN hD.1).2
  have hlt := Dst.lt hN hD
  have hF : roundsP C up V r = roundsP C up V (V.length + (V.length + r)) := by
    rw [show V.length + (V.length + r) = r + 2 * V.length by omega, stable_stay h]
  obtain ⟨a, b⟩ := follow hN hd (V.length + r) m x d hL hD (by omega)
  rw [← hF] at a b
  refine ⟨a, b, ?_⟩
  have hst : voteAt (roundsP C up V r) x = roundAt V.length (roundsP C up V r) (C.zip up) x := by
    conv => lhs; rw [← show roundP C up (roundsP C up V r) = roundsP C up V r from h]
    rw [voteAt_round hb.1 (by rw [roundsP_len]; exact hb.2), roundsP_len]
  rcases (roundAt_spec V.length (roundsP C up V r) x (C.zip up) hN.ne).1 with e | ⟨u, p, hl, hlt2, e⟩
  · rw [hst, e] at a b ⊢
    simp only [selfV] at a b ⊢
    simp [a]
  · rw [hst, e] at a b ⊢
    simp only [heardOf] at a b ⊢
    have hp := (hN.link hl).2.2.2
    refine ⟨fun h => by omega, fun hx => ?_⟩
    subst hx
    have h0 : d = 0 := by
      have := hD.2 0 (Wk.refl x hb.1 hb.2)
      omega
    obtain ⟨v, -, hv, hm⟩ := voteAt_some (V := roundsP C up V r) (hN.link hl).1.1 (by rw [roundsP_len]; exact (hN.link hl).1.2)
    have := (roundsP_ok (C := C) (up := up) hd r v hm).1
    rw [hv] at b
    omega
end
theorem net_of {N : List Nd} {C : List Cb} {up : List Bool} (h : validE N C = 0) : Net (C.zip up) N.length := by
  have hc : ∀ x ∈ C.zip up, CabOk N.length x.1 := fun x hx => valid_cab h x.1 (List.of_mem_zip hx).1
  exact ⟨fun x hx => (hc x hx).ne, fun x hx => (hc x hx).a, fun x hx => (hc x hx).b, fun x hx => (hc x hx).ap, fun x hx => (hc x hx).bp⟩
end Go.Proofs.Ytckigonkcjceeaa
