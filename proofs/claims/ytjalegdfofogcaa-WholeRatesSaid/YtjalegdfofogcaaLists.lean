/- A slice that reads as a list of whatever elements, each in a known number of cells: elements one by one, nil let in; kept over new blocks and draws; rows of the call's own; what is hidden from the walk. No program in sight. -/
import Derived.Test.YtjalegdfofogcaaRatA
import Derived.Test.YtjalegdfofogcaaOpen
namespace Go.Proofs.Ytjalegdfofogcaa
set_option linter.unusedVariables false
set_option linter.unusedSimpArgs false
open Go.RowKit
theorem bdrew {B : Nat} {w w1 : World} (h : Below B w w1) : Below B w w1.drew := ⟨h.os, h.tape, h.output, h.size, h.block⟩
theorem take_next {α : Type} {l : List α} {k : Nat} {x : α} (h : l[k]? = some x) : l.take (k + 1) = l.take k ++ [x] := by
  rw [List.take_add_one, h]; rfl
theorem get_some {α : Type} {l : List α} {k : Nat} (h : k < l.length) : ∃ x, l[k]? = some x := ⟨l[k], List.getElem?_eq_getElem h⟩
theorem Blk.ne_ {w : World} {g g' : Nat} {t t' : TypeId} {cs cs' : Array Value} (h : Blk w g t cs) (h' : Blk w g' t' cs') (hne : t ≠ t') : g ≠ g' := by
  rintro rfl
  unfold Blk at h h'
  rw [h] at h'
  injection h' with h'
  injection h' with _ ht
  exact hne ht
theorem Blk.grown {w w' : World} {g : Nat} {t : TypeId} {cs : Array Value} {row : Option Nat} (h : Blk w g t cs) (hb : w.grownBy w' row) (hg : some g ≠ row) : Blk w' g t cs := (hb.block g h.lt hg).trans h
theorem own_blk_ne {w : World} {g : Nat} {t : TypeId} {cs : Array Value} {base : Nat} {e : TypeId} {size n : Nat} {v : Value} {xs : List Value} (h : w.ownsRow base e size v n xs) (hg : Blk w g t cs) (hne : e ≠ t) : v.ownBlock ≠ some g := by
  rcases h.2 with ⟨rfl, _⟩ | ⟨g', cap, cur, rfl, _, hh, _⟩
  · simp [Value.ownBlock]
  · intro he
    have : g' = g := by simpa [Value.ownBlock] using he
    subst this
    exact Blk.ne_ (t := e) hh hg hne rfl
/-- The slice's cells lie in a row of plain cells. -/
theorem Reads.spot {w : World} {B sz n : Nat} {A : Option Addr} {xs : List Value} (h : Reads w B sz A n xs) (hn : 0 < n) (hs : 0 < sz) :
    ∃ b off, A = some ⟨b, off, none⟩ ∧ b < B ∧ b < w.heap.size ∧ ∀ j u, xs[j]? = some u → w.cell? ⟨b, off + j, none⟩ = some u := by
  obtain ⟨ad, rfl, hb, hc⟩ := h.2 hn
  have hl : 0 < xs.length := by rw [h.1]; exact Nat.mul_pos hn hs
  obtain ⟨b, off, spot⟩ := ad
  have h0 := hc 0 _ (List.getElem?_eq_getElem hl)
  rw [show (Addr.add ⟨b, off, spot⟩ 0) = ⟨b, off, spot⟩ by simp [Addr.add]] at h0
  have hsp : spot = none := World.cell?_spot h0
  subst hsp
  refine ⟨b, off, rfl, hb, World.block_lt_of_cell? w _ h0, fun j u hu => ?_⟩
  have := hc j u hu
  rw [← this]
  congr 1
  unfold Addr.add
  split
  · rename_i h; subst h; simp
  · rfl
theorem reads_nil {w : World} {B sz n : Nat} {xs : List Value} (h : Reads w B sz none n xs) : n = 0 ∧ xs = [] := by
  rcases Nat.eq_zero_or_pos n with h0 | h0
  · subst h0; exact ⟨rfl, List.eq_nil_of_length_eq_zero (by simpa using h.1)⟩
  · obtain ⟨ad, h1, _⟩ := h.2 h0; cases h1
theorem Reads.new_ {w w' : World} {sz n : Nat} {A : Option Addr} {xs : List Value} (h : Reads w w.heap.size sz A n xs) (hb : Below w.heap.size w w') : Reads w' w'.heap.size sz A n xs := (h.below hb).more hb.size
theorem own_slice {w : World} {B sz n : Nat} {e : TypeId} {v : Value} {xs : List Value} (h : w.ownsRow B e sz v n xs) : ∃ A k, v = .slice A n k := by
  rcases h.2 with ⟨h2, rfl⟩ | ⟨g, cap, cur, h1, _⟩
  · exact ⟨_, _, h2⟩
  · exact ⟨_, _, h1⟩
theorem own_cap {w : World} {B sz n k : Nat} {e : TypeId} {A : Option Addr} {xs : List Value} (h : w.ownsRow B e sz (.slice A n k) n xs) : n ≤ k ∧ k ≤ maxLen := by
  rcases h.2 with ⟨h1, h2⟩ | ⟨g, cap, cur, h1, _, _, h4, h5, _⟩
  · cases h1; exact ⟨by omega, by unfold maxLen; omega⟩
  · injection h1 with _ _ h10; subst h10; exact ⟨h4, h5⟩
theorem own_move {w w' : World} {B sz n : Nat} {e : TypeId} {v : Value} {xs : List Value} (h : w.ownsRow B e sz v n xs) (hk : ∀ g, v.ownBlock = some g → w'.heap[g]? = w.heap[g]?) : w'.ownsRow B e sz v n xs := by
  refine ⟨h.1, ?_⟩
  rcases h.2 with h2 | ⟨g, cap, cur, h1, h2, h3, h4⟩
  · exact .inl h2
  · exact .inr ⟨g, cap, cur, h1, h2, (hk g (by rw [h1]; rfl)).trans h3, h4⟩
theorem own_new {w w' : World} {B sz n : Nat} {e : TypeId} {v : Value} {xs : List Value} (h : w.ownsRow B e sz v n xs) (hb : Below w.heap.size w w') : w'.ownsRow B e sz v n xs :=
  own_move h fun g hg => hb.block g (h.lt g hg).2
theorem own_base {w : World} {B B' sz n : Nat} {e : TypeId} {v : Value} {xs : List Value} (h : w.ownsRow B e sz v n xs) (hB : B' ≤ B) : w.ownsRow B' e sz v n xs := by
  refine ⟨h.1, ?_⟩
  rcases h.2 with h2 | ⟨g, cap, cur, h1, h2, h3⟩
  · exact .inl h2
  · exact .inr ⟨g, cap, cur, h1, by omega, h3⟩
theorem flat_len {α : Type} {f : α → List Value} {sz : Nat} (hf : ∀ x, (f x).length = sz) (l : List α) : (l.flatMap f).length = l.length * sz := by
  induction l with
  | nil => simp
  | cons x l ih => rw [List.flatMap_cons, List.length_append, ih, hf, List.length_cons, Nat.succ_mul]; omega
theorem flat_get {α : Type} {f : α → List Value} {sz : Nat} (hf : ∀ x, (f x).length = sz) {l : List α} {k : Nat} {x : α} (h : l[k]? = some x) {j : Nat} {u : Value} (hj : (f x)[j]? = some u) : (l.flatMap f)[k * sz + j]? = some u := by
  induction l generalizing k with
  | nil => simp at h
  | cons y l ih =>
    rw [List.flatMap_cons]
    cases k with
    | zero =>
      simp at h
      subst h
      rw [List.getElem?_append_left (by have := (List.getElem?_eq_some_iff.1 hj).1; omega)]
      simpa using hj
    | succ k =>
      simp at h
      rw [List.getElem?_append_right (by rw [hf, Nat.succ_mul]; omega), hf, Nat.succ_mul, show k * sz + sz + j - sz = k * sz + j by omega]
      exact ih h
theorem flat_inv {α : Type} {f : α → List Value} {sz : Nat} (hf : ∀ x, (f x).length = sz) {l : List α} {i : Nat} {u : Value} (h : (l.flatMap f)[i]? = some u) (hs : 0 < sz) : ∃ x, l[i / sz]? = some x ∧ (f x)[i % sz]? = some u := by
  have hi : i < l.length * sz := by have := (List.getElem?_eq_some_iff.1 h).1; rwa [flat_len hf] at this
  have hk : i / sz < l.length := Nat.div_lt_of_lt_mul (by rwa [Nat.mul_comm])
  obtain ⟨x, hx⟩ := get_some hk
  have hm : i % sz < (f x).length := by rw [hf]; exact Nat.mod_lt _ hs
  refine ⟨x, hx, ?_⟩
  have h1 := flat_get hf hx (List.getElem?_eq_getElem hm)
  rw [Nat.div_add_mod' i sz, h] at h1
  rw [List.getElem?_eq_getElem hm]
  exact h1.symm ▸ rfl
/-- The slice with the address A reads as the list l, each element in the cells f. -/
structure RowsAt {α : Type} (w : World) (B sz : Nat) (f : α → List Value) (A : Option Addr) (l : List α) : Prop where
  sz0 : 0 < sz
  hf : ∀ x, (f x).length = sz
  rd : Reads w B sz A l.length (l.flatMap f)
section
variable {α : Type} {w w' : World} {B B' sz : Nat} {f : α → List Value} {A : Option Addr} {l : List α}
theorem RowsAt.keep (h : RowsAt w B sz f A l) (hk : ∀ p : Addr, p.block < B → w'.cell? p = w.cell? p) : RowsAt w' B sz f A l := ⟨h.sz0, h.hf, h.rd.keep hk⟩
theorem RowsAt.below (h : RowsAt w B sz f A l) (hb : Below B w w') : RowsAt w' B sz f A l := h.keep fun _ hp => hb.cell hp
theorem RowsAt.more (h : RowsAt w B sz f A l) (hB : B ≤ B') : RowsAt w B' sz f A l := ⟨h.sz0, h.hf, h.rd.more hB⟩
theorem RowsAt.new_ (h : RowsAt w w.heap.size sz f A l) (hb : Below w.heap.size w w') : RowsAt w' w'.heap.size sz f A l := (h.below hb).more hb.size
theorem RowsAt.at_ (h : RowsAt w B sz f A l) {k : Nat} (hk : k < l.length) : ∃ x b off, l[k]? = some x ∧ A = some ⟨b, off, none⟩ ∧ b < B ∧ b < w.heap.size ∧
    ∀ j u, (f x)[j]? = some u → w.cell? ⟨b, off + k * sz + j, none⟩ = some u := by
  obtain ⟨x, hx⟩ := get_some hk
  obtain ⟨b, off, e, h1, h2, hc⟩ := h.rd.spot (by omega) h.sz0
  exact ⟨x, b, off, hx, e, h1, h2, fun j u hj => by have := hc _ _ (flat_get h.hf hx hj); rwa [← Nat.add_assoc] at this⟩
theorem RowsAt.of_own {base : Nat} {e : TypeId} {kap : Nat} {n : Nat} (h : w.ownsRow base e sz (.slice A n kap) n (l.flatMap f)) (hf : ∀ x, (f x).length = sz) (hs : 0 < sz) (hn : n = l.length) : RowsAt w w.heap.size sz f A l := by
  subst hn
  exact ⟨hs, hf, Reads.of_own h⟩
theorem RowsAt.nil_ (w : World) (B : Nat) (sz : Nat) (f : α → List Value) (hf : ∀ x, (f x).length = sz) (hs : 0 < sz) : RowsAt w B sz f none [] := ⟨hs, hf, Reads.none_⟩
end
theorem list_of {α : Type} [Inhabited α] (P : Nat → α → Prop) (n : Nat) (h : ∀ i, i < n → ∃ x, P i x) : ∃ l : List α, l.length = n ∧ ∀ i x, l[i]? = some x → P i x := by
  induction n with
  | zero => exact ⟨[], rfl, fun i x hi => by simp at hi⟩
  | succ n ih =>
    obtain ⟨l, hl, hp⟩ := ih fun i hi => h i (by omega)
    obtain ⟨x, hx⟩ := h n (by omega)
    refine ⟨l ++ [x], by simp [hl], fun i y hy => ?_⟩
    by_cases e : i < n
    · rw [List.getElem?_append_left (by omega)] at hy
      exact hp i y hy
    · have hi : i < (l ++ [x]).length := (List.getElem?_eq_some_iff.1 hy).1
      simp [hl] at hi
      obtain rfl : i = n := by omega
      rw [List.getElem?_append_right (by omega), hl] at hy
      simp at hy
      subst hy
      exact hx
theorem rows_list {α : Type} [Inhabited α] {w : World} {sz : Nat} {f : α → List Value} {Q : α → Prop} {a : Option Addr} {len cap : Nat} (hs : 0 < sz) (hf : ∀ x, (f x).length = sz) (h : IsRows w sz (fun cs => ∃ x, cs = f x ∧ Q x) a len cap) :
    ∃ l : List α, l.length = len ∧ (∀ x ∈ l, Q x) ∧ RowsAt w w.heap.size sz f a l ∧ len ≤ cap ∧ cap ≤ maxLen := by
  obtain ⟨h1, h2, h3⟩ := h
  rcases Nat.eq_zero_or_pos len with h0 | h0
  · subst h0; exact ⟨[], rfl, fun x hx => by simp at hx, ⟨hs, hf, ⟨by simp, fun h => by simp at h⟩⟩, h1, h2⟩
  · obtain ⟨b, off, rfl, hb, hc⟩ := h3 h0
    obtain ⟨l, hl, hp⟩ := list_of (fun i (x : α) => Q x ∧ ∀ j v, (f x)[j]? = some v → w.cell? ⟨b, off + i * sz + j, none⟩ = some v) len fun i hi => by
      obtain ⟨cs, ⟨x, rfl, hx⟩, hcell⟩ := hc i hi
      exact ⟨x, hx, hcell⟩
    refine ⟨l, hl, fun x hx => ?_, ⟨hs, hf, ⟨by rw [flat_len hf], fun _ => ⟨_, rfl, hb, fun j u hu => ?_⟩⟩⟩, h1, h2⟩
    · obtain ⟨i, hi, rfl⟩ := List.getElem_of_mem hx
      exact (hp i _ (List.getElem?_eq_getElem hi)).1
    · obtain ⟨x, hx, hj⟩ := flat_inv hf hu hs
      have := (hp _ _ hx).2 _ _ hj
      rw [Nat.add_assoc, Nat.div_add_mod'] at this
      unfold Addr.add
      split
      · rename_i h; subst h; simpa using this
      · exact this
/-- What was laid into a new block just now. -/
theorem reads_made (w : World) (cs : Array Value) (t : TypeId) (size n : Nat) (h : cs.size = n * size) : Reads (w.alloc (.cells cs t)) (w.heap.size + 1) size (some ⟨w.heap.size, 0, none⟩) n cs.toList :=
  ⟨by simpa using h, fun _ => ⟨_, rfl, Nat.lt_succ_self _, World.news_of_block (heap_alloc_new w _)⟩⟩
end Go.Proofs.Ytjalegdfofogcaa
