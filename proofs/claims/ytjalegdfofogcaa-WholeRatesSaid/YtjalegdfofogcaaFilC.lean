/- A level: the least so far, and the closure that keeps it. -/
import Derived.Test.YtjalegdfofogcaaFilB
namespace Go.Proofs.Ytjalegdfofogcaa
set_option linter.unusedVariables false
set_option linter.unusedSimpArgs false
open Go.RowKit
/-- What consider does to (found, least). -/
def cons1 (s : Bool × Rq) (r : Rq) : Bool × Rq := if s.1 && !decide (cmpQ r s.2 < 0) then s else (true, r)
set_option maxHeartbeats 2000000 in
theorem consider_c (r le : Rq) (fo : Bool) (bf bl : Nat) (w : World) (hr : R64 r.n ∧ R64 r.d) (hl : R64 le.n ∧ R64 le.d) (hbl : Blk w bl 32 #[.int .i64 le.n, .int .i64 le.d]) (hbf : Blk w bf 4 #[.bool fo]) (hne : bl ≠ bf) :
    Calls Try.prog 69 #[.agg #[.int .i64 r.n, .int .i64 r.d], .pointer (some ⟨bf, 0, none⟩), .pointer (some ⟨bl, 0, none⟩)] w fun e w' => e = .returned (.tuple #[]) ∧ Blk w' bl 32 #[.int .i64 (cons1 (fo, le) r).2.n, .int .i64 (cons1 (fo, le) r).2.d] ∧ Blk w' bf 4 #[.bool (cons1 (fo, le) r).1] ∧ OnlyP (fun b => b = bl ∨ b = bf) w w' := by
  have CM := fun w => cmp_c r le w hr.1 hr.2 hl.1 hl.2
  unfold rqv at CM
  have l1 := hbl.lt
  have l2 := hbf.lt
  have f0 := hbf.cell 0 (v := .bool fo) rfl
  have HL := Kept.mk (hbl.alloc (.cells #[.int .i64 r.n, .int .i64 r.d] 32))
  have HF := Kept.mk (hbf.alloc (.cells #[.int .i64 r.n, .int .i64 r.d] 32))
  have HB := Kept.mk (Blk.new w 32 #[.int .i64 r.n, .int .i64 r.d])
  have HO := Kept.mk ((OnlyP.refl (fun b => b = bl ∨ b = bf) w).alloc (.cells #[.int .i64 r.n, .int .i64 r.d] 32))
  have hne2 : bf ≠ bl := fun h => hne h.symm
  have HL0 := Kept.mk hbl
  have HF0 := Kept.mk hbf
  cases fo with
  | false =>
    have h0 := hbl.free 0
    have h1 := hbl.free 1
    have h2 := hbf.free 0
    have c0 := hbl.cell 0 (v := .int .i64 le.n) rfl
    have c1 := hbl.cell 1 (v := .int .i64 le.d) rfl
    clear hbl hbf
    go_enter Try.func69, Try.ntmps69
    go_wp2_with fail
    go_end0
    refine ⟨rfl, ?_, ?_, ?_⟩
    · exact (((HL0.out.set_ 0 (.int .i64 r.n)).to 1 (.int .i64 r.d) rfl).far (p := ⟨bf, 0, none⟩) hne (.bool true)).alloc _
    · exact (((HF0.out.far (p := ⟨bl, 0, none⟩) hne2 (.int .i64 r.n)).far (p := ⟨bl, 1, none⟩) hne2 (.int .i64 r.d)).to 0 (.bool true) rfl).alloc _
    · exact ((((OnlyP.refl (fun b => b = bl ∨ b = bf) w).set (p := ⟨bl, 0, none⟩) (.inl (.inl rfl)) (.int .i64 r.n)).set (p := ⟨bl, 1, none⟩) (.inl (.inl rfl)) (.int .i64 r.d)).set (p := ⟨bf, 0, none⟩) (.inl (.inr rfl)) (.bool true)).alloc _
  | true =>
    have c0 := HL.out.cell 0 (v := .int .i64 le.n) rfl
    have c1 := HL.out.cell 1 (v := .int .i64 le.d) rfl
    obtain ⟨z, hz⟩ : ∃ z, cmpQ r le = z := ⟨_, rfl⟩
    rw [hz] at CM
    clear hbl hbf
    by_cases hz0 : z < 0
    · have HC : Kept (cons1 (true, le) r = (true, r)) := ⟨by unfold cons1; rw [hz, decide_eq_true hz0]; rfl⟩
      rw [HC.out]
      clear hz
      go_enter Try.func69, Try.ntmps69
      go_upto_region 2 with (go_at_call 9; refine (CM _).mono ?_; rintro e w1 ⟨rfl, hb1⟩; have HL1 := Kept.mk (HL.out.new_ hb1); have HF1 := Kept.mk (HF.out.new_ hb1); have HB1 := Kept.mk (HB.out.new_ hb1); have HO1 := Kept.mk (HO.out.new hb1); clear hb1)
      have h0 := HL1.out.free 0
      have h1 := HL1.out.free 1
      have h2 := HF1.out.free 0
      have d0 := HL1.out.cell 0 (v := .int .i64 le.n) rfl
      have d1 := HL1.out.cell 1 (v := .int .i64 le.d) rfl
      have d2 := HF1.out.cell 0 (v := .bool true) rfl
      have d3 := HB1.out.cell 0 (v := .int .i64 r.n) rfl
      have d4 := HB1.out.cell 1 (v := .int .i64 r.d) rfl
      have l3 := HL1.out.lt
      have l4 := HF1.out.lt
      have l5 := HB1.out.lt
      go_wp2_with fail
      go_end0
      refine ⟨rfl, ?_, ?_, ?_⟩
      · exact ((HL1.out.set_ 0 (.int .i64 r.n)).to 1 (.int .i64 r.d) rfl).far (p := ⟨bf, 0, none⟩) hne (.bool true)
      · exact ((HF1.out.far (p := ⟨bl, 0, none⟩) hne2 (.int .i64 r.n)).far (p := ⟨bl, 1, none⟩) hne2 (.int .i64 r.d)).to 0 (.bool true) rfl
      · exact ((HO1.out.set (p := ⟨bl, 0, none⟩) (.inl (.inl rfl)) (.int .i64 r.n)).set (p := ⟨bl, 1, none⟩) (.inl (.inl rfl)) (.int .i64 r.d)).set (p := ⟨bf, 0, none⟩) (.inl (.inr rfl)) (.bool true)
    · have HC : Kept (cons1 (true, le) r = (true, le)) := ⟨by unfold cons1; rw [hz, decide_eq_false hz0]; rfl⟩
      rw [HC.out]
      clear hz
      go_enter Try.func69, Try.ntmps69
      go_wp2_with (go_at_call 9; refine (CM _).mono ?_; rintro e w1 ⟨rfl, hb1⟩; have HL1 := Kept.mk (HL.out.new_ hb1); have HF1 := Kept.mk (HF.out.new_ hb1); have HB1 := Kept.mk (HB.out.new_ hb1); have HO1 := Kept.mk (HO.out.new hb1); clear hb1)
      go_end0
      exact ⟨rfl, HL1.out, HF1.out, HO1.out⟩
end Go.Proofs.Ytjalegdfofogcaa
