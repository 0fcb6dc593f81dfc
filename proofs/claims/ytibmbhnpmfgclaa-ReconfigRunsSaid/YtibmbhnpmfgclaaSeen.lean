/- A map of the call's own as the set of what was seen: asked and filled. No program in sight. -/
import Derived.Test.YtibmbhnpmfgclaaMaps
import Derived.WideKeyArr
import Derived.WideKeyPair
namespace Go.Proofs.Ytibmbhnpmfgclaa
set_option linter.unusedVariables false
set_option linter.unusedSimpArgs false
open Go.RowKit Go.Maps
/-- Block b is a map with the value true at just the keys of l, of at most n entries. -/
def Seen (P : Program) (k : TypeId) {α : Type} [DecidableEq α] (key : α → Value) (w : World) (b n : Nat) (l : List α) : Prop :=
  ∃ s F, s ≤ n ∧ MapV P k w b s F ∧ ∀ x, F (key x) = if x ∈ l then some (.bool true) else none
section
variable {P : Program} {k : TypeId} {α : Type} [DecidableEq α] {key : α → Value} {w w' : World} {b n : Nat} {l : List α}
theorem Seen.made (w : World) (P : Program) (k : TypeId) (key : α → Value) : Seen P k key (w.alloc (.map #[] 0)) w.heap.size 0 [] := ⟨0, _, Nat.le_refl _, MapV.made w P k, fun x => by simp⟩
theorem Seen.lt (h : Seen P k key w b n l) : b < w.heap.size := h.elim fun _ h => h.elim fun _ h => h.2.1.lt
theorem Seen.new_ (h : Seen P k key w b n l) (hb : Below w.heap.size w w') : Seen P k key w' b n l := h.elim fun s h => h.elim fun F h => ⟨s, F, h.1, h.2.1.new_ hb, h.2.2⟩
theorem Seen.alloc (h : Seen P k key w b n l) (o : Obj) : Seen P k key (w.alloc o) b n l := h.elim fun s h => h.elim fun F h => ⟨s, F, h.1, h.2.1.alloc o, h.2.2⟩
theorem Seen.more (h : Seen P k key w b n l) {n' : Nat} (hn : n ≤ n') : Seen P k key w b n' l := h.elim fun s h => h.elim fun F h => ⟨s, F, Nat.le_trans h.1 hn, h.2⟩
end
section
variable {P : Program} {w : World} {ops : Array Oper} {rest : List Oper} {o : Oper} {a : Act} {Q : Exit → Act → World → Prop} {α : Type} [DecidableEq α] {key : α → Value}
theorem wpList_lookSeen (hg : o.guard = none) (m x : Operand) (t : TypeId) (hop : o.op = Op.lookup t m x false)
    (k e : TypeId) (K : Keyed P k) (ht : P.underlying t = some (.map k e)) (hz : (zeroValue e).run P w = .ok (.bool false) w) (b n : Nat) (l : List α)
    (hm : a.eval m = .map (some b)) (hown : Seen P k key w b n l) (y : α) (hx : a.eval x = key y) (hkey : ∃ kl, keyOf P k (key y) = some kl)
    (hK : wpList P ops Q rest (a.put o.dst (.bool (decide (y ∈ l)))) w) :
    wpList P ops Q (o :: rest) a w := by
  obtain ⟨s, F, h0, h1, h2⟩ := hown
  refine wpList_lookV hg m x t hop k e K ht hz b s F hm h1 (key y) hx hkey ?_
  rw [h2 y]
  by_cases hy : y ∈ l
  · rw [decide_eq_true hy] at hK; rw [if_pos hy]; exact hK
  · rw [decide_eq_false hy] at hK; rw [if_neg hy]; exact hK
theorem wpList_setSeen (hg : o.guard = none) (m x v : Operand) (t : TypeId) (hop : o.op = Op.mapUpdate t m x v)
    (k e : TypeId) (K : Keyed P k) (ht : P.underlying t = some (.map k e)) (b n : Nat) (l : List α)
    (hm : a.eval m = .map (some b)) (hown : Seen P k key w b n l) (hn : n < maxLen) (y : α) (hx : a.eval x = key y) (hv : a.eval v = .bool true) (hkey : ∃ kl, keyOf P k (key y) = some kl) (hinj : ∀ u u' : α, key u = key u' → u = u')
    (hK : ∀ w', Seen P k key w' b (n + 1) (l ++ [y]) → w.grownBy w' (some b) → wpList P ops Q rest (a.put o.dst undef) w') :
    wpList P ops Q (o :: rest) a w := by
  obtain ⟨s, F, h0, h1, h2⟩ := hown
  refine wpList_setV hg m x v t hop k e K ht b s F hm h1 (by omega) (key y) (.bool true) hx hv hkey fun w' h hg' => hK w' ?_ hg'
  have hcl : ∀ v : Value, v = key y ∨ v ≠ key y := fun v => Classical.em _
  refine ⟨_, fun v => @ite _ (v = key y) (Classical.propDecidable _) (some (.bool true)) (F v), ?_, h _ (by simp) (fun v hv => by simp [hv]), fun u => ?_⟩
  · split <;> omega
  · by_cases e : u = y
    · subst e; simp
    · have : key u ≠ key y := fun h => e (hinj _ _ h)
      simp only [this, if_false, h2 u, List.mem_append, List.mem_singleton, e, or_false]
end
theorem below_grown {B b : Nat} {w w1 w2 : World} (h : Below B w w1) (hg : w1.grownBy w2 (some b)) (hB : B ≤ b) (hs : B ≤ w1.heap.size) : Below B w w2 :=
  h.grown hg hs (fun j hj => by cases hj; exact hB)
end Go.Proofs.Ytibmbhnpmfgclaa
