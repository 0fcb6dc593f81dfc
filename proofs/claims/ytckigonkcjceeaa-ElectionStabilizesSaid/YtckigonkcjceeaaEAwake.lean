/- The example check of the statements: it returns true. -/
import Derived.Test.YtckigonkcjceeaaEStart
namespace Go.Proofs.Ytckigonkcjceeaa
set_option linter.unusedVariables false
set_option linter.unusedSimpArgs false
open Go.RowKit
def chN : List Nd := [⟨⟨#[97]⟩, true, 2⟩, ⟨⟨#[98]⟩, true, 2⟩, ⟨⟨#[99]⟩, true, 1⟩]
def chC : List Cb := [⟨0, 0, 1, 0, 1, 1⟩, ⟨1, 1, 2, 0, 1, 1⟩]
theorem ch_valid : validE chN chC = 0 := by kernel_rfl
theorem ch_s0 : ¬ StableAt chC [true, true] (startP 3) 0 := by unfold StableAt; decide +kernel
theorem ch_s1 : ¬ StableAt chC [true, true] (startP 3) 1 := by unfold StableAt; decide +kernel
theorem ch_s2 : StableAt chC [true, true] (startP 3) 2 := by unfold StableAt; decide +kernel
theorem ch_r2 : roundsP chC [true, true] (startP 3) 2 = [⟨0, 0, -1⟩, ⟨0, 1, 0⟩, ⟨0, 2, 0⟩] := by decide +kernel
theorem ch_fault : faultE chN chC [true, true] (startP 3) = 0 := by kernel_rfl
theorem ch_nok : ∀ n ∈ chN, NdOk n := by
  intro n hn
  simp only [chN, List.mem_cons, List.not_mem_nil, or_false] at hn
  rcases hn with rfl | rfl | rfl <;> exact ⟨by decide, by unfold I64; simp⟩
theorem ch_cok : ∀ c ∈ chC, CbOk c := by
  intro n hn
  simp only [chC, List.mem_cons, List.not_mem_nil, or_false] at hn
  rcases hn with rfl | rfl <;> (unfold CbOk I64; simp)
theorem rows_made {α : Type} (w : World) (t : TypeId) {sz : Nat} {f : α → List Value} (hf : ∀ x, (f x).length = sz) (hs : 0 < sz) (l : List α) (cs : Array Value) (h : cs = (l.flatMap f).toArray) : RowsAt (w.alloc (.cells cs t)) (w.heap.size + 1) sz f (some ⟨w.heap.size, 0, none⟩) l := by
  subst h
  have := reads_made w (l.flatMap f).toArray t sz l.length (by rw [List.size_toArray, flat_len hf])
  exact ⟨hs, hf, by simpa using this⟩
theorem RowsAt.new_' {α : Type} {w w' : World} {sz n : Nat} {f : α → List Value} {A : Option Addr} {l : List α} {o : Obj} (h : RowsAt (w.alloc o) (w.heap.size + 1) sz f A l) (hb : Below (w.alloc o).heap.size (w.alloc o) w') : RowsAt w' w'.heap.size sz f A l := by
  have h2 : RowsAt (w.alloc o) (w.alloc o).heap.size sz f A l := by rw [World.size_alloc]; exact h
  exact h2.new_ hb
theorem ch_run {r : Nat} {err : Int} (h1 : r ≤ 9) (h2 : ∀ j, j < r → ¬ StableAt chC [true, true] (startP 3) j) (h3 : StableAt chC [true, true] (startP 3) r ∧ err = 0 ∨ ¬ StableAt chC [true, true] (startP 3) r ∧ r = 9 ∧ err = 15) : r = 2 ∧ err = 0 := by
  have h4 : r ≤ 2 := by
    rcases Nat.lt_or_ge 2 r with h | h
    · exact absurd ch_s2 (h2 2 h)
    · exact h
  rcases h3 with ⟨h5, h6⟩ | ⟨h5, h6, -⟩
  · refine ⟨?_, h6⟩
    rcases (by omega : r = 0 ∨ r = 1 ∨ r = 2) with rfl | rfl | rfl
    · exact absurd h5 ch_s0
    · exact absurd h5 ch_s1
    · rfl
  · omega
theorem rows_made' {α : Type} (w : World) (t : TypeId) {sz : Nat} {f : α → List Value} (hf : ∀ x, (f x).length = sz) (hs : 0 < sz) (l : List α) (cs : Array Value) (h : cs = (l.flatMap f).toArray) : RowsAt (w.alloc (.cells cs t)) (w.alloc (.cells cs t)).heap.size sz f (some ⟨w.heap.size, 0, none⟩) l := by
  rw [World.size_alloc]; exact rows_made w t hf hs l cs h
def ChainR (w : World) (e : Ending) (w' : World) : Prop := ∃ An Ac, e = .returned (.agg #[.slice An 3 3, .slice Ac 2 2]) ∧ PlanAt w' w'.heap.size ⟨chN, chC, An, 3, Ac, 2⟩ ∧ Below w.heap.size w w'
set_option maxRecDepth 100000 in
set_option maxHeartbeats 2000000 in
theorem chain_c (w : World) : Calls Try.prog 36 #[] w (ChainR w) := by
  go_enter Try.func36, Try.ntmps36
  go_wp2_with fail
  refine bodyPost_ret (v := .agg #[.slice (some ⟨w.heap.size + 1, 0, none⟩) 3 3, .slice (some ⟨w.heap.size + 1 + 1, 0, none⟩) 2 2]) (by simp [results, Try.results36, go_sem]) rfl ⟨some ⟨w.heap.size + 1, 0, none⟩, some ⟨w.heap.size + 1 + 1, 0, none⟩, rfl, ⟨?_, ?_, ch_nok, ch_cok, by simp [chN], by simp [chC], by unfold maxLen; simp only; omega, by unfold maxLen; simp only; omega⟩, by go_grown⟩
  · have h := rows_made (w.alloc (.cells #[.slice (some ⟨w.heap.size + 1, 0, none⟩) 3 3, .slice (some ⟨w.heap.size + 1 + 1, 0, none⟩) 2 2] 32)) 74 ncell_len (by omega) chN #[.string ⟨#[97]⟩, .bool true, .int .i64 2, .string ⟨#[98]⟩, .bool true, .int .i64 2, .string ⟨#[99]⟩, .bool true, .int .i64 1] rfl
    have h2 := (h.below ((Below.refl _ _).alloc (by simp) (.cells #[.int .i64 0, .int .i64 0, .int .i64 1, .int .i64 0, .int .i64 1, .int .i64 1, .int .i64 1, .int .i64 1, .int .i64 2, .int .i64 0, .int .i64 1, .int .i64 1] 42))).more (B' := w.heap.size + 1 + 1 + 1) (by simp)
    simpa using h2
  · have h := rows_made ((w.alloc (.cells #[.slice (some ⟨w.heap.size + 1, 0, none⟩) 3 3, .slice (some ⟨w.heap.size + 1 + 1, 0, none⟩) 2 2] 32)).alloc (.cells #[.string ⟨#[97]⟩, .bool true, .int .i64 2, .string ⟨#[98]⟩, .bool true, .int .i64 2, .string ⟨#[99]⟩, .bool true, .int .i64 1] 74)) 42 ccell_len (by omega) chC #[.int .i64 0, .int .i64 0, .int .i64 1, .int .i64 0, .int .i64 1, .int .i64 1, .int .i64 1, .int .i64 1, .int .i64 2, .int .i64 0, .int .i64 1, .int .i64 1] rfl
    simpa using h
set_option maxRecDepth 100000 in
set_option maxHeartbeats 4000000 in
theorem awake_c (w : World) : Calls Try.prog 11 #[] w fun e w' => e = .returned (.bool true) ∧ Below w.heap.size w w' := by
  go_enter Try.func11, Try.ntmps11
  go_wp2_with (go_at_call 36; refine (chain_c _).mono ?_; rintro e w1 ⟨An, Ac, rfl, hp, hb1⟩; have HP := Kept.mk hp; have HD := Kept.mk hb1; clear hp hb1)
  have HG1 : Kept (Below w1.heap.size w1 (w1.alloc (.cells #[.slice An 3 3, .slice Ac 2 2] 32))) := ⟨(Below.refl _ _).alloc (Nat.le_refl _) _⟩
  have HP1 := Kept.mk (HP.out.new_ HG1.out)
  have HD1 := Kept.mk (join HD.out HG1.out)
  have HB1 := Kept.mk (Blk.new w1 32 #[.slice An 3 3, .slice Ac 2 2])
  have hbl : w1.heap.size < (w1.alloc (.cells #[.slice An 3 3, .slice Ac 2 2] 32)).heap.size := by simp
  generalize w1.alloc (.cells #[.slice An 3 3, .slice Ac 2 2] 32) = W2 at *
  clear HG1 HP HD
  generalize w1.heap.size = bp at *
  go_region_held3 (fun w' => w'.cell? ⟨bp, 0, none⟩ = some (.slice An 3 3) ∧ w'.cell? ⟨bp, 1, none⟩ = some (.slice Ac 2 2)) (first | exact ⟨HB1.out.cell 0 rfl, HB1.out.cell 1 rfl⟩ | exact ⟨(HB1.out.drew.alloc _).cell 0 rfl, (HB1.out.drew.alloc _).cell 1 rfl⟩ | exact ⟨HB3.out.cell 0 rfl, HB3.out.cell 1 rfl⟩ | exact ⟨(HB3.out.alloc _).cell 0 rfl, (HB3.out.alloc _).cell 1 rfl⟩ | exact ⟨HB4.out.cell 0 rfl, HB4.out.cell 1 rfl⟩) (first | (go_at_call 17; refine (Start_ok chN chC An Ac 3 2 _ (HP1.out.new_ (by first | with_reducible exact bdrew (Below.refl _ _) | exact (bdrew (Below.refl _ _)).alloc (Nat.le_refl _) _)) ch_valid).mono ?_; rintro e w3 ⟨A, kap, rfl, hr, hk1, hk2, hb3⟩; have HR := Kept.mk hr; have HP3 := Kept.mk ((HP1.out.new_ (by first | with_reducible exact bdrew (Below.refl _ _) | exact (bdrew (Below.refl _ _)).alloc (Nat.le_refl _) _)).new_ hb3); have HB3 : Kept (Blk w3 bp 32 #[.slice An 3 3, .slice Ac 2 2]) := (by first | with_reducible exact ⟨HB1.out.drew.new_ hb3⟩ | exact ⟨(HB1.out.drew.alloc _).new_ hb3⟩); have HD3 : Kept (Below w.heap.size w w3) := (by first | with_reducible exact ⟨join (bdrew HD1.out) hb3⟩ | exact ⟨join ((bdrew HD1.out).alloc HD1.out.size _) hb3⟩); (try have HU3 : Kept (RowsAt w3 w3.heap.size 1 bcell1 (some ⟨W2.heap.size, 0, none⟩) [true, true]) := ⟨((rows_made' W2 4 bcell1_len (by omega) [true, true] #[.bool true, .bool true] rfl).new_ (bdrew (Below.refl _ _))).new_ hb3⟩); clear hr hk1 hk2 hb3) | (go_at_call 16; refine (Run_ok chN chC An Ac (some _) A 3 2 2 kap [true, true] (startP 3) 9 _ (by first | exact ⟨HP3.out, HU3.out, HR.out, by decide, by decide⟩ | exact ⟨HP3.out.new_ ((Below.refl _ _).alloc (Nat.le_refl _) _), (rows_made' _ 4 bcell1_len (by omega) [true, true] #[.bool true, .bool true] rfl), HR.out.new_ ((Below.refl _ _).alloc (Nat.le_refl _) _), by decide, by decide⟩) ch_fault (by omega)).mono ?_; rintro e w4 ⟨A4, k4, r, err, rfl, hr1, hr2, hr3, hr4, hr5, hr6, hb4⟩; obtain ⟨rfl, rfl⟩ := ch_run hr1 hr2 hr3; have HR4 := Kept.mk hr4; have HB4 : Kept (Blk w4 bp 32 #[.slice An 3 3, .slice Ac 2 2]) := (by first | with_reducible exact ⟨HB3.out.new_ hb4⟩ | exact ⟨(HB3.out.alloc _).new_ hb4⟩); have HD4 : Kept (Below w.heap.size w w4) := (by first | with_reducible exact ⟨join HD3.out hb4⟩ | exact ⟨join (HD3.out.alloc HD3.out.size _) hb4⟩); clear hr1 hr2 hr3 hr4 hr5 hr6 hb4))
  all_goals
    have HS := Kept.mk (rows_made w4 23 vcell_len (by omega) [⟨0, 0, -1⟩, ⟨0, 1, 0⟩, ⟨0, 2, 0⟩] #[.int .i64 0, .int .i64 0, .int .i64 (-1), .int .i64 0, .int .i64 1, .int .i64 0, .int .i64 0, .int .i64 2, .int .i64 0] rfl)
    have HR5 := Kept.mk (HR4.out.new_ ((Below.refl _ _).alloc (Nat.le_refl _) (.cells #[.int .i64 0, .int .i64 0, .int .i64 (-1), .int .i64 0, .int .i64 1, .int .i64 0, .int .i64 0, .int .i64 2, .int .i64 0] 23)))
    rw [ch_r2] at HR5
    go_wp2_with (go_at_call 19; refine (equal_c [⟨0, 0, -1⟩, ⟨0, 1, 0⟩, ⟨0, 2, 0⟩] [⟨0, 0, -1⟩, ⟨0, 1, 0⟩, ⟨0, 2, 0⟩] A4 _ k4 3 _ _ _ HR5.out HS.out (by decide) (by decide)).mono ?_; rintro e w5 ⟨rfl, hb5⟩; have HD5 := Kept.mk (join (HD4.out.alloc HD4.out.size _) hb5); clear hb5)
    go_ret
    exact ⟨rfl, HD5.out⟩
end Go.Proofs.Ytckigonkcjceeaa
