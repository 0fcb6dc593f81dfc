/- Segment: literal lists of segments in memory. -/
import Derived.Test.YtdhajibegkkeiaaCut
namespace Go.Proofs.Ytdhajibegkkeiaa
set_option linter.unusedVariables false
set_option linter.unusedSimpArgs false
open Go.RowKit
theorem lit_segs {w : World} {ps : List PSeg} (h : ∀ p ∈ ps, SegAt w w.heap.size p.s p.A p.kap) : SegsAt (w.alloc (.cells (scells ps).toArray 24)) (w.heap.size + 1) (some ⟨w.heap.size, 0, none⟩) ps :=
  ⟨⟨scells_len ps, fun _ => ⟨_, rfl, Nat.lt_succ_self _, fun j u hu => by
    have hadd : (⟨w.heap.size, 0, none⟩ : Addr).add j = ⟨w.heap.size, j, none⟩ := by unfold Addr.add; split <;> simp_all
    have hh : (w.alloc (.cells (scells ps).toArray 24)).heap[w.heap.size]? = some (.cells (scells ps).toArray 24 (0, 0)) := heap_alloc_new w _
    rw [hadd, cell_of_row _ _ j _ _ _ hh]
    simpa using hu⟩⟩, fun p hp => ((h p hp).alloc (Nat.le_refl _) _).more (Nat.le_succ _)⟩
theorem SegAt.new_ {w w' : World} {s : Seg} {A : Option Addr} {k : Nat} (h : SegAt w w.heap.size s A k) (hb : Below w.heap.size w w') : SegAt w' w'.heap.size s A k := (h.below hb).more hb.size
end Go.Proofs.Ytdhajibegkkeiaa
