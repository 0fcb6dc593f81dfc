/- Hello: a tick of the second table of a pair. -/
import Derived.Test.YtkbnacboianjkaaPair
import Derived.Test.YtkbnacboianjkaaPlainM
namespace Go.Proofs.Ytkbnacboianjkaa
set_option linter.unusedVariables false
set_option linter.unusedSimpArgs false
open Go.RowKit
def TickP (w : World) (B n v : Nat) (s : Tb × Tb) (e : Ending) (w' : World) : Prop :=
  ∃ u, e = .returned u ∧ Pr w' B (n + 1) (v + 8) (s.1, tick s.2) ∧ Below B w w'
theorem tickP_c (s : Tb × Tb) (w : World) (B n v : Nat) (h : Pr w B n v s) (hn : n < 1000000) (hv : v < 1000000000) :
    Calls Try.prog 19 #[.pointer (some ⟨B + 3, 0, none⟩)] w (TickP w B n v s) := by
  refine (tick_c s.2 w (B + 3) (B + 2) h.b h.db.fit (by have := h.db.ticks; omega) (by have := h.db.ver; omega)).mono ?_
  rintro e w' ⟨u, rfl, hT, -, hO⟩
  exact ⟨u, rfl, ⟨h.a.only hO (by rintro (h | h) <;> omega) (by rintro (h | h) <;> omega), hT, bd_mono h.da (by omega) (by omega), bd_tick h.db hn⟩, hO.below (B := B) (by rintro k (h | h) <;> omega) (by have := h.lt; omega)⟩
end Go.Proofs.Ytkbnacboianjkaa
