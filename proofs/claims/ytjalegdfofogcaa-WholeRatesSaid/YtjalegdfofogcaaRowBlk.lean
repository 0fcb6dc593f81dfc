/- A block that is a list's cells and nothing else: made by make, stored into element by element. No program in sight. -/
import Derived.Test.YtjalegdfofogcaaLists
namespace Go.Proofs.Ytjalegdfofogcaa
set_option linter.unusedVariables false
set_option linter.unusedSimpArgs false
open Go.RowKit
theorem made_flat {α : Type} {f : α → List Value} {sz : Nat} (hf : ∀ x, (f x).length = sz) (hs : 0 < sz) (x0 : α) (n : Nat) : madeCells (f x0).toArray (n * sz) = ((List.replicate n x0).flatMap f).toArray := by
  apply Array.ext
  · rw [size_madeCells, List.size_toArray, flat_len hf, List.length_replicate]
  · intro i h1 h2
    have hi : i < n * sz := by rwa [size_madeCells] at h1
    have hm : i % sz < (f x0).length := by rw [hf]; exact Nat.mod_lt _ hs
    have hk : i / sz < n := Nat.div_lt_of_lt_mul (by rwa [Nat.mul_comm])
    have hm2 : i % (f x0).toArray.size < (f x0).toArray.size := by rw [List.size_toArray, hf]; exact Nat.mod_lt _ hs
    have e1 : (madeCells (f x0).toArray (n * sz))[i]? = some (f x0)[i % sz] := by
      unfold madeCells
      rw [Array.getElem?_map, Array.getElem?_range, if_pos hi, Option.map_some, getElem!_pos (f x0).toArray _ hm2]
      simp [hf]
    have e2 := flat_get hf (l := List.replicate n x0) (k := i / sz) (x := x0) (by rw [List.getElem?_replicate, if_pos hk]) (List.getElem?_eq_getElem hm)
    rw [Nat.div_add_mod'] at e2
    have e3 : ((List.replicate n x0).flatMap f).toArray[i]? = some (f x0)[i % sz] := by simpa using e2
    rw [Array.getElem?_eq_getElem h2] at e3
    rw [Array.getElem?_eq_getElem h1] at e1
    exact (Option.some.inj e1).trans (Option.some.inj e3).symm
theorem run_make_flat {P : Program} {α : Type} {f : α → List Value} {sz : Nat} (hf : ∀ x, (f x).length = sz) (hs : 0 < sz) (x0 : α) (t e : TypeId) (z : Value) (bytes : Nat) (ht : P.underlying t = some (.slice e)) (hinfo : (P.info? e).map (fun i => (i.zero, i.size, i.bytes)) = some (some z, sz, bytes)) (hz : z.cells = (f x0).toArray)
    (n : Nat) (hb : bytes * n ≤ 281474976710656) (hn : n ≤ 9223372036854775807) (w : World) :
    (Instr.makeSlice t (.int .i64 (n : Int)) (.int .i64 (n : Int))).run P w = .ok (.slice (some ⟨w.heap.size, 0, none⟩) n n) (w.alloc (.cells ((List.replicate n x0).flatMap f).toArray e)) := by
  obtain ⟨i0, hi, hz0, hz1, hz2⟩ := info_parts hinfo
  have hb' : (i0.bytes : Int) * (n : Int) ≤ 281474976710656 := by
    rw [hz2]
    have h : ((bytes * n : Nat) : Int) ≤ 281474976710656 := by omega
    rwa [Int.natCast_mul] at h
  have h := run_make (P := P) w t e i0 z ht hi hz0 .i64 .i64 n n (by omega) (by omega) hb' (by omega)
  rw [Int.toNat_natCast, hz1, hz, made_flat hf hs x0 n] at h
  exact h
theorem flat_set {α : Type} {f : α → List Value} {sz : Nat} (hf : ∀ x, (f x).length = sz) (hs : 0 < sz) {l : List α} {k : Nat} {x : α} (hk : k < l.length) (i : Nat) : ((l.set k x).flatMap f)[i]? = if i / sz = k then (f x)[i % sz]? else (l.flatMap f)[i]? := by
  by_cases hi : i < l.length * sz
  · have hq : i / sz < l.length := Nat.div_lt_of_lt_mul (by rwa [Nat.mul_comm])
    obtain ⟨y, hy⟩ := get_some hq
    have hm : i % sz < sz := Nat.mod_lt _ hs
    by_cases e : i / sz = k
    · rw [if_pos e]
      have h1 := flat_get hf (l := l.set k x) (k := i / sz) (x := x) (by rw [e, List.getElem?_set_self hk]) (List.getElem?_eq_getElem (show i % sz < (f x).length by rw [hf]; exact hm))
      rw [Nat.div_add_mod'] at h1
      rw [h1, List.getElem?_eq_getElem]
    · rw [if_neg e]
      have hl : i % sz < (f y).length := by rw [hf]; exact hm
      have h1 := flat_get hf (l := l.set k x) (k := i / sz) (x := y) (by rw [List.getElem?_set_ne (fun h => e h.symm)]; exact hy) (List.getElem?_eq_getElem hl)
      have h2 := flat_get hf (l := l) (k := i / sz) (x := y) hy (List.getElem?_eq_getElem hl)
      rw [Nat.div_add_mod'] at h1 h2
      rw [h1, h2]
  · have h1 : ((l.set k x).flatMap f)[i]? = none := List.getElem?_eq_none (by rw [flat_len hf, List.length_set]; omega)
    have h2 : (l.flatMap f)[i]? = none := List.getElem?_eq_none (by rw [flat_len hf]; omega)
    rw [h1, h2]
    have hq : l.length ≤ i / sz := (Nat.le_div_iff_mul_le hs).2 (by omega)
    rw [if_neg (by omega)]
/-- Block g is the list's cells. -/
def RowBlk {α : Type} (w : World) (g : Nat) (t : TypeId) (f : α → List Value) (l : List α) : Prop := Blk w g t (l.flatMap f).toArray
section
variable {α : Type} {w w' : World} {g : Nat} {t : TypeId} {f : α → List Value} {l : List α} {sz : Nat}
theorem RowBlk.lt (h : RowBlk w g t f l) : g < w.heap.size := Blk.lt h
theorem RowBlk.free (h : RowBlk w g t f l) (i : Nat) : w.frozen? ⟨g, i, none⟩ = false := Blk.free h i
theorem RowBlk.new_ (h : RowBlk w g t f l) (hb : Below w.heap.size w w') : RowBlk w' g t f l := Blk.new_ h hb
theorem RowBlk.alloc (h : RowBlk w g t f l) (o : Obj) : RowBlk (w.alloc o) g t f l := Blk.alloc h o
theorem RowBlk.drewN (h : RowBlk w g t f l) (n : Nat) : RowBlk (w.drewN n) g t f l := Blk.drewN h n
theorem RowBlk.only {S : Nat → Prop} (h : RowBlk w g t f l) (k : OnlyP S w w') (hne : ¬ S g) : RowBlk w' g t f l := Blk.only h k hne
theorem RowBlk.far (h : RowBlk w g t f l) {p : Addr} (hp : g ≠ p.block) (u : Value) : RowBlk (w.setCell p u) g t f l := Blk.far h hp u
theorem RowBlk.grown {row : Option Nat} (h : RowBlk w g t f l) (hb : w.grownBy w' row) (hg : some g ≠ row) : RowBlk w' g t f l := Blk.grown h hb hg
theorem RowBlk.rows (h : RowBlk w g t f l) (hf : ∀ x, (f x).length = sz) (hs : 0 < sz) {B : Nat} (hB : g < B) : RowsAt w B sz f (some ⟨g, 0, none⟩) l :=
  ⟨hs, hf, by rw [flat_len hf], fun _ => ⟨_, rfl, hB, fun j u hu => by
    have := Blk.cell h j (v := u) (by simpa using hu)
    unfold Addr.add
    split
    · rename_i e; subst e; exact this
    · simpa using this⟩⟩
theorem RowBlk.cell (h : RowBlk w g t f l) (hf : ∀ x, (f x).length = sz) {k : Nat} {x : α} (hk : l[k]? = some x) {j : Nat} {u : Value} (hj : (f x)[j]? = some u) : w.cell? ⟨g, k * sz + j, none⟩ = some u :=
  Blk.cell h _ (by have := flat_get hf hk hj; simpa using this)
theorem RowBlk.set1 (h : RowBlk w g t f l) (hf : ∀ x, (f x).length = 1) {k : Nat} (hk : k < l.length) {x : α} {a : Value} (hx : f x = [a]) : RowBlk (w.setCell ⟨g, k, none⟩ a) g t f (l.set k x) := by
  refine Blk.to h k a ?_
  apply Array.ext'
  simp only [Array.toList_setIfInBounds]
  apply List.ext_getElem?
  intro i
  rw [flat_set hf (by omega) hk, hx, List.getElem?_set, flat_len hf]
  have e1 : i / 1 = i := Nat.div_one i
  have e2 : i % 1 = 0 := Nat.mod_one i
  rw [e1, e2]
  by_cases e : i = k
  · subst e; simp [hk]
  · rw [if_neg (fun h => e h.symm), if_neg e]
theorem RowBlk.set3 (h : RowBlk w g t f l) (hf : ∀ x, (f x).length = 3) {k : Nat} (hk : k < l.length) {x : α} {a b c : Value} (hx : f x = [a, b, c]) :
    RowBlk (((w.setCell ⟨g, k * 3, none⟩ a).setCell ⟨g, k * 3 + 1, none⟩ b).setCell ⟨g, k * 3 + 2, none⟩ c) g t f (l.set k x) := by
  refine Blk.to ((Blk.set_ h (k * 3) a).set_ (k * 3 + 1) b) (k * 3 + 2) c ?_
  apply Array.ext'
  simp only [Array.toList_setIfInBounds]
  apply List.ext_getElem?
  intro i
  rw [flat_set hf (by omega) hk, hx]
  simp only [List.getElem?_set, List.length_set, flat_len hf]
  by_cases e : i / 3 = k
  · have hm : i % 3 < 3 := Nat.mod_lt _ (by omega)
    have hi := Nat.div_add_mod i 3
    rw [if_pos e]
    rcases (by omega : i % 3 = 0 ∨ i % 3 = 1 ∨ i % 3 = 2) with h0 | h0 | h0
    · rw [h0, if_neg (by omega), if_neg (by omega), if_pos (by omega), if_pos (by omega)]; rfl
    · rw [h0, if_neg (by omega), if_pos (by omega), if_pos (by omega)]; rfl
    · rw [h0, if_pos (by omega), if_pos (by omega)]; rfl
  · rw [if_neg e]
    have : i / 3 * 3 ≤ i := Nat.div_mul_le_self i 3
    rw [if_neg (by omega), if_neg (by omega), if_neg (by omega)]
end
end Go.Proofs.Ytjalegdfofogcaa
