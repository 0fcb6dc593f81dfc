/- Segment: the walk of the reference's Same. -/
import Derived.Test.YtdhajibegkkeiaaCut
namespace Go.Proofs.Ytdhajibegkkeiaa
set_option linter.unusedVariables false
set_option linter.unusedSimpArgs false
open Go.RowKit
def sameS (a b : Seg) : Bool := decide (a.off = b.off) && (decide (a.last = b.last) && decide (a.data = b.data))
theorem sameS_iff {a b : Seg} : sameS a b = true ↔ a = b := by
  cases a; cases b
  simp [sameS]
  exact fun _ => and_comm
theorem beq_bool (a b : Bool) : (a == b) = decide (a = b) := by cases a <;> cases b <;> rfl
set_option maxHeartbeats 4000000 in
theorem same_c (p q : PSeg) (w : World) (hp : SegAt w w.heap.size p.s p.A p.kap) (hq : SegAt w w.heap.size q.s q.A q.kap) :
    Calls Try.prog 17 #[pval p, pval q] w fun e w' => e = .returned (.bool (decide (p.s = q.s))) ∧ Below w.heap.size w w' := by
  have hE : decide (p.s = q.s) = sameS p.s q.s := by
    cases h : sameS p.s q.s with
    | true => simpa using sameS_iff.1 h
    | false => simp only [decide_eq_false_iff_not]; intro e; rw [sameS_iff.2 e] at h; cases h
  rw [hE]
  clear hE
  have c1 := fun W (h : Below w.heap.size w W) => conv_reads (P := Try.prog) (kap := p.kap) 22 5 9 Try.underlying22 Try.underlying5 Try.underlying9 (hp.rd.below h)
  have c2 := fun W (h : Below w.heap.size w W) => conv_reads (P := Try.prog) (kap := q.kap) 22 5 9 Try.underlying22 Try.underlying5 Try.underlying9 (hq.rd.below h)
  have hb := Kept.mk (strOf_beq hp.by_ hq.by_)
  have k1 := c1 _ (((Below.refl w.heap.size w).alloc (Nat.le_refl _) (.cells #[.int .i64 p.s.off, .slice p.A p.s.data.length p.kap, .bool p.s.last] 24)).alloc (by simp) (.cells #[.int .i64 q.s.off, .slice q.A q.s.data.length q.kap, .bool q.s.last] 24))
  have k2 := c2 _ (((Below.refl w.heap.size w).alloc (Nat.le_refl _) (.cells #[.int .i64 p.s.off, .slice p.A p.s.data.length p.kap, .bool p.s.last] 24)).alloc (by simp) (.cells #[.int .i64 q.s.off, .slice q.A q.s.data.length q.kap, .bool q.s.last] 24))
  clear c1 c2 hp hq
  unfold pval
  by_cases h1 : p.s.off = q.s.off
  · by_cases h2 : p.s.last = q.s.last
    · have HS : Kept (sameS p.s q.s = ((strOfNums p.s.data).toList == (strOfNums q.s.data).toList)) := ⟨by rw [hb.out]; simp [sameS, h1, h2]⟩
      have e1 : (p.s.off == q.s.off) = true := by simpa using h1
      have e2 : (p.s.last == q.s.last) = true := by simpa using h2
      rw [HS.out]
      clear h1 h2
      go_enter Try.func17, Try.ntmps17
      go_wp2_with fail
      go_ret
      exact ⟨rfl, by go_grown⟩
    · have HS : Kept (sameS p.s q.s = false) := ⟨by simp [sameS, h2]⟩
      have e1 : (p.s.off == q.s.off) = true := by simpa using h1
      have e2 : (p.s.last == q.s.last) = false := by simpa using h2
      rw [HS.out]
      clear h1 h2
      go_enter Try.func17, Try.ntmps17
      go_wp2_with fail
      go_ret
      exact ⟨rfl, by go_grown⟩
  · have HS : Kept (sameS p.s q.s = false) := ⟨by simp [sameS, h1]⟩
    have e1 : (p.s.off == q.s.off) = false := by simpa using h1
    rw [HS.out]
    clear h1
    go_enter Try.func17, Try.ntmps17
    go_wp2_with fail
    go_ret
    exact ⟨rfl, by go_grown⟩
end Go.Proofs.Ytdhajibegkkeiaa
