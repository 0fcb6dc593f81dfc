/- Setup: the walk of slices.Delete at messages: one message out of a row of the call's own. -/
import Derived.Test.YtnmgnggchgckoaaAwake
import Derived.Deep.RegionLaw
import Derived.Laws.IdiomCopy
import Derived.Lib.SliceRun
import Derived.Deep.Upon
namespace Go.Proofs.Ytnmgnggchgckoaa
set_option linter.unusedVariables false
set_option linter.unusedSimpArgs false
open Go.RowKit
theorem zero38 (w : World) : (zeroValue 38).run Try.prog w = .ok (.agg #[.int .i64 0, .int .i64 0, .int .i64 0]) w := by kernel_rfl
def zeros3 : List Value := [.int .i64 0, .int .i64 0, .int .i64 0]
theorem run_clear38 (w : World) (g o c : Nat) (ty : TypeId) (hc : ∀ j, j < 3 → (w.cell? ⟨g, o + j, none⟩).isSome = true) (hf : ∀ j, j < 3 → w.frozen? ⟨g, o + j, none⟩ = false) :
    (Builtin.clear_ #[30] ty #[.slice (some ⟨g, o, none⟩) 1 c]).run Try.prog w = .ok (.tuple #[]) (w.setCells g o zeros3) := by
  have hst := run_storeCells_cells (P := Try.prog) g o zeros3 0 w (by simpa [zeros3] using hc) (by simpa [zeros3] using hf) (by intro v hv'; simp [zeros3] at hv'; subst hv'; rfl)
  simp only [Nat.add_zero] at hst
  have hzc : (Builtin.zeroCells (Value.agg #[.int .i64 0, .int .i64 0, .int .i64 0]).cells 1).toList = zeros3 := by kernel_rfl
  simp [Builtin.clear_, run_underlying Try.underlying30, zero38, hzc, hst]
theorem onlyCells {S : Nat → Prop} {w w1 : World} {g o : Nat} {vs : List Value} (h : OnlyP S w w1) (hg : S g) : OnlyP S w (w1.setCells g o vs) := by
  induction vs generalizing w1 o with
  | nil => exact h
  | cons v r ih => exact ih (h.set (p := ⟨g, o, none⟩) (.inl hg) v)
theorem mcells_drop (l : List Msg) (i : Nat) : (mcells l).drop (i * 3) = mcells (l.drop i) := by
  induction l generalizing i with
  | nil => simp [mcells]
  | cons m l ih =>
    cases i with
    | zero => simp
    | succ i => rw [show (i + 1) * 3 = i * 3 + 3 by omega]; simpa [mcells_cons] using ih i
theorem mcells_take (l : List Msg) (i : Nat) : (mcells l).take (i * 3) = mcells (l.take i) := by
  induction l generalizing i with
  | nil => simp [mcells]
  | cons m l ih =>
    cases i with
    | zero => simp [mcells]
    | succ i => rw [show (i + 1) * 3 = i * 3 + 3 by omega]; simpa [mcells_cons] using ih i
/-- What the two writes leave in the row. -/
theorem del_reads {w : World} {g kap i : Nat} {fly : List Msg} (hi : i < fly.length) (hk : fly.length ≤ kap) (hc : ∀ j u, (mcells fly)[j]? = some u → w.cell? ⟨g, j, none⟩ = some u) (hs : ∀ j, j < fly.length * 3 → (w.cell? ⟨g, j, none⟩).isSome = true) :
    Reads ((w.setCells g (0 + i * 3) (mcells (fly.drop (i + 1)))).setCells g ((fly.length - 1) * 3) zeros3) (g + 1) 3 (some ⟨g, 0, none⟩) (fly.length - 1) (mcells (fly.eraseIdx i)) := by
  have hle : (fly.eraseIdx i).length = fly.length - 1 := by rw [List.length_eraseIdx, if_pos hi]
  refine ⟨by rw [mcells_len, hle], fun hn => ⟨_, rfl, by simp, fun j u hu => ?_⟩⟩
  have hj : j < (fly.length - 1) * 3 := by
    have := (List.getElem?_eq_some_iff.1 hu).1
    rwa [mcells_len, hle] at this
  have hadd : (⟨g, 0, none⟩ : Addr).add j = ⟨g, j, none⟩ := by unfold Addr.add; split <;> simp_all
  rw [hadd, World.cell?_setCells_out g zeros3 _ _ _ (fun _ _ => Or.inl hj)]
  rw [List.eraseIdx_eq_take_drop_succ, mcells_app] at hu
  have hlt : (mcells (fly.take i)).length = i * 3 := by rw [mcells_len, List.length_take]; omega
  rcases Nat.lt_or_ge j (i * 3) with h1 | h1
  · rw [World.cell?_setCells_out g _ _ _ _ (fun _ _ => Or.inl (by simp; omega))]
    rw [List.getElem?_append_left (by omega), ← mcells_take, List.getElem?_take_of_lt h1] at hu
    exact hc j u hu
  · rw [List.getElem?_append_right (by omega), hlt] at hu
    have hj2 := (List.getElem?_eq_some_iff.1 hu).1
    have := World.cell?_setCells_in g (mcells (fly.drop (i + 1))) (0 + i * 3) w (fun t ht => hs _ (by rw [mcells_len, List.length_drop] at ht; omega)) (j - i * 3) hj2
    rw [show 0 + i * 3 + (j - i * 3) = j by omega] at this
    rw [this]
    rw [List.getElem?_eq_getElem hj2] at hu
    exact hu
set_option maxHeartbeats 4000000 in
theorem del_c (fly : List Msg) (g kap i : Nat) (w : World) (B : Nat) (ho : w.ownsRow B 38 3 (.slice (some ⟨g, 0, none⟩) fly.length kap) fly.length (mcells fly)) (hi : i < fly.length) (hn : fly.length ≤ 1000000) :
    Calls Try.prog 37 #[.slice (some ⟨g, 0, none⟩) fly.length kap, .int .i64 i, .int .i64 ((i : Int) + 1)] w fun e w' => e = .returned (.slice (some ⟨g, 0, none⟩) (fly.length - 1) kap) ∧ Reads w' (g + 1) 3 (some ⟨g, 0, none⟩) (fly.length - 1) (mcells (fly.eraseIdx i)) ∧ OnlyP (fun x => x = g) w w' := by
  obtain ⟨i0, hi0, hz0, hz1, hz2⟩ := info_parts info38
  obtain ⟨cur, hblk, hk, hkm, hcs, hcur⟩ : ∃ cur, Blk w g 38 cur ∧ fly.length ≤ kap ∧ kap ≤ maxLen ∧ cur.size = kap * 3 ∧ cur.toList.take (fly.length * 3) = mcells fly := by
    rcases ho.2 with ⟨h2, _⟩ | ⟨g', cap, cur, h1, h2, h3, h4, h5, h6, h7⟩
    · cases h2
    · injection h1 with h8 h9 h10
      injection h8 with h8
      injection h8 with h8
      subst h8 h10
      exact ⟨cur, h3, h4, h5, h6, h7⟩
  have hcell : ∀ j u, (mcells fly)[j]? = some u → w.cell? ⟨g, j, none⟩ = some u := fun j u hu => by
    refine hblk.cell j ?_
    have hj := (List.getElem?_eq_some_iff.1 hu).1
    rw [mcells_len] at hj
    rw [← hcur, List.getElem?_take_of_lt hj] at hu
    simpa using hu
  have hsome : ∀ j, j < kap * 3 → (w.cell? ⟨g, j, none⟩).isSome = true := fun j hj => by
    rw [hblk.cell j (Array.getElem?_eq_getElem (by omega))]; rfl
  have hfree : ∀ j, w.frozen? ⟨g, j, none⟩ = false := fun j => hblk.free j
  unfold maxLen at hkm
  have HD := Kept.mk (del_reads (w := w.drew) hi hk hcell (fun j hj => hsome j (by omega)))
  have s1 : Kept ((mcells (fly.drop (i + 1))).length = (fly.length - (i + 1)) * 3) := ⟨by rw [mcells_len, List.length_drop]⟩
  have s2 : Kept (∀ u ∈ mcells (fly.drop (i + 1)), u.oneCell' = true) := ⟨mcells_one⟩
  have s3 : Kept (∀ t, t < (mcells (fly.drop (i + 1))).length → (w.drew.cell? ⟨g, 0 + i * 3 + t, none⟩).isSome = true ∧ w.drew.frozen? ⟨g, 0 + i * 3 + t, none⟩ = false) := ⟨fun t ht => by
    rw [s1.out] at ht
    exact ⟨hsome _ (by omega), hfree _⟩⟩
  obtain ⟨A, hA, HS⟩ : ∃ A : Addr, (if kap = i + 1 then (some ⟨g, 0, none⟩ : Option Addr) else some ⟨g, (i + 1) * 3, none⟩) = some A ∧ Kept (∀ t u, (mcells (fly.drop (i + 1)))[t]? = some u → w.drew.cell? (A.add t) = some u) := by
    by_cases h : kap = i + 1
    · refine ⟨⟨g, 0, none⟩, by simp [h], ⟨fun t u hu => ?_⟩⟩
      have h0 := (List.getElem?_eq_some_iff.1 hu).1
      rw [s1.out] at h0
      omega
    · refine ⟨⟨g, (i + 1) * 3, none⟩, by simp [h], ⟨fun t u hu => ?_⟩⟩
      have hadd : (⟨g, (i + 1) * 3, none⟩ : Addr).add t = ⟨g, (i + 1) * 3 + t, none⟩ := by unfold Addr.add; split <;> simp_all
      rw [hadd]
      rw [← mcells_drop, List.getElem?_drop] at hu
      exact hcell _ _ hu
  obtain ⟨W1, hW1⟩ : ∃ W1, W1 = w.drew.setCells g (0 + i * 3) (mcells (fly.drop (i + 1))) := ⟨_, rfl⟩
  have HW := Kept.mk hW1
  have HO1 : Kept (OnlyP (fun x => x = g) w W1) := ⟨by rw [hW1]; exact onlyCells (OnlyP.refl _ _).drew rfl⟩
  have hcl : ∀ ty c, (Builtin.clear_ #[30] ty #[.slice (some ⟨g, (fly.length - 1) * 3, none⟩) 1 c]).run Try.prog W1 = .ok (.tuple #[]) (W1.setCells g ((fly.length - 1) * 3) zeros3) := fun ty c =>
    run_clear38 W1 g _ c ty (fun j hj => by
      have h0 : (w.drew.cell? ⟨g, (fly.length - 1) * 3 + j, none⟩).isSome = true := hsome _ (by omega)
      rw [hW1, World.cell?_setCells_out g _ _ _ _ (fun _ _ => Or.inr (by rw [s1.out]; simp; omega))]; exact h0) (fun j hj => by rw [hW1, World.frozen?_setCells]; exact hfree _)
  have hcl2 : ∀ ty c, (Builtin.clear_ #[30] ty #[.slice (some ⟨g, (i + (fly.length - (i + 1))) * 3, none⟩) (fly.length - (i + (fly.length - (i + 1)))) c]).run Try.prog W1 = .ok (.tuple #[]) (W1.setCells g ((fly.length - 1) * 3) zeros3) := fun ty c => by
    rw [show i + (fly.length - (i + 1)) = fly.length - 1 by omega, show fly.length - (fly.length - 1) = 1 by omega]
    exact hcl ty c
  clear hW1 hcell hsome hfree hcur hcs hblk ho hcl
  have hic : i ≤ kap := by omega
  have hjc : i + 1 ≤ kap := by omega
  have hx1 : (0 : Int) ≤ (i : Int) + 1 := by omega
  have hx2 : (i : Int) + 1 ≤ (fly.length : Int) := by omega
  go_enter Try.func37, Try.ntmps37
  go_wp2_with fail
  go_region_law (refine step_append_room rfl (.tmp 22) (.tmp 25) 30 rfl 38 i0 3 Try.underlying30 hi0 hz1 g 0 i kap (by simp [Act.eval, Act.put]) A (fly.length - (i + 1)) (kap - (i + 1)) (mcells (fly.drop (i + 1))) (by simp [Act.eval, Act.put]) s1.out HS.out s2.out (by omega) s3.out ?_; rw [← HW.out])
  go_wp2_with fail
  go_ret
  refine ⟨?_, ?_, onlyCells HO1.out rfl⟩
  · rw [show fly.length - 1 = i + (fly.length - (i + 1)) by omega]; rfl
  · rw [HW.out]; exact HD.out
end Go.Proofs.Ytnmgnggchgckoaa
