/- The closed facts of the program that every frame of this seat asks; the table as the row lists it; an argument's bytes. -/
import Derived.Test.YtkpnggnanacaaaaDoorCards
import Derived.Test.YtkpnggnanacaaaaDoorTie
import Derived.Test.YtkpnggnanacaaaaDoorAwake
import Derived.OpenShut
import Derived.ChangeOld
import Derived.Deep.DeepHandedRow
import Derived.Lib.LaidTab
namespace Go.Proofs.YtkpnggnanacaaaaDoor
set_option linter.unusedVariables false
set_option linter.unusedSimpArgs false
open Go.RowKit Go.ChangeShapes Go.WideShapes Go.ChangeAt
theorem own : ownKnob Tryd.prog.godebug = none := by kernel_rfl
theorem laidOut : laidOutB Tryd.prog = true := by kernel_rfl
theorem gTab : Tryd.prog.globalNamed "fairlink/linecode.valid" = some 0 := by kernel_rfl
theorem gTabType : (Tryd.prog.globals[0]?).map (·.type) = some 47 := by kernel_rfl
theorem cells47 : Tryd.prog.cellsOf 47 = 20 := by kernel_rfl
theorem cells5 : Tryd.prog.cellsOf 5 = 1 := by kernel_rfl
theorem table {W : World} (h : laidMetH Tryd.prog [("fairlink/linecode.valid", Rows.laid_fairlink_linecode_valid)] W) : Tab W := by
  have ht : Lib.TabIs Tryd.prog W "fairlink/linecode.valid" .u8 T := Lib.tabIs_of_head (rest := []) gTab gTabType Tryd.underlying47 Tryd.underlying5 cells5 cells47 h
  have hc : ∀ i, i < 20 → W.cell? ⟨0, i, none⟩ = some (.int .u8 (T.getD i 0)) := fun i hi => ht.cell gTab i hi
  refine ⟨?_, hc⟩
  have h0 := hc 0 (by decide)
  rcases Nat.lt_or_ge 0 W.heap.size with h | h
  · exact h
  · simp [World.cell?, Array.getElem?_eq_none h] at h0
/-- A world for the witness: the settled one, the table holding what its initialiser lays. -/
noncomputable def laidWorld (os : Os) : World :=
  { World.holding Tryd.prog os ⟨#[], #[], []⟩ with heap := (World.holding Tryd.prog os ⟨#[], #[], []⟩).heap.modify 0 fun
      | .cells _ t frozen => .cells #[.int .u8 7, .int .u8 11, .int .u8 13, .int .u8 14, .int .u8 19, .int .u8 21, .int .u8 22, .int .u8 25, .int .u8 26, .int .u8 28, .int .u8 35, .int .u8 37, .int .u8 38, .int .u8 41, .int .u8 42, .int .u8 44, .int .u8 49, .int .u8 50, .int .u8 52, .int .u8 56] t frozen
      | o => o }
theorem open_rd {H : Type} {enc : TypeId × Value → H} {w : World} {held : Bool} {a : Option Addr} {len cap : Nat} {d : DataW H} {p : List MemPlace}
    (h : DataW.Trod enc Tryd.prog w 0 (fun _ => true) held 23 (.slice a len cap) d p) : ∃ xs, Rd w (.slice a len cap) xs ∧ Byt xs := by
  obtain ⟨fuel, hf⟩ := h
  rcases open_ints Tryd.underlying23 Tryd.underlying5 cells5 hf with ⟨hcs, _⟩ | ⟨x, l, c, zs, hcs, _, hl, hm, hz, _, hcell, hwz⟩
  · simp [Value.cells] at hcs
    obtain ⟨rfl, rfl, rfl⟩ := hcs
    exact ⟨[], ⟨none, 0, rfl, Nat.le_refl _, by unfold maxLen; omega, fun h => absurd h (by simp)⟩, fun x hx => by cases hx⟩
  · simp [Value.cells] at hcs
    obtain ⟨rfl, rfl, rfl⟩ := hcs
    have hz' : zs.length = cap := by simpa using hz
    have hlen : (zs.take len).length = len := by rw [List.length_take]; omega
    refine ⟨zs.take len, ⟨some x, cap, by rw [hlen], by rw [hlen]; exact hl, hm, fun hp => ?_⟩, fun y hy => bounds_u8 (hwz y (List.mem_of_mem_take hy))⟩
    obtain ⟨b, off, rfl, hc⟩ := ints_at hcell (by rw [hlen] at hp; omega)
    refine ⟨b, off, rfl, ?_, fun i hi => ?_⟩
    · have h0 := hc 0 (by rw [hlen] at hp; omega)
      rcases Nat.lt_or_ge b w.heap.size with h | h
      · exact h
      · simp [World.cell?, Array.getElem?_eq_none h] at h0
    · rw [hlen] at hi
      rw [hc i (by omega), List.getD_eq_getElem?_getD, List.getD_eq_getElem?_getD, List.getElem?_take_of_lt hi]
end Go.Proofs.YtkpnggnanacaaaaDoor
