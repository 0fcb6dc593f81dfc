/- The sort of at most 12 numbers. slices.SortFunc at at most 12 numbers. -/
import Derived.Test.YtjalegdfofogcaaFeaA
import Derived.Test.YtjalegdfofogcaaShelf
namespace Go.Proofs.Ytjalegdfofogcaa
set_option linter.unusedVariables false
set_option linter.unusedSimpArgs false
open Go.RowKit
set_option maxHeartbeats 4000000 in
theorem cmpf_c (a b : Rq) (w : World) (ha : R64 a.n ∧ R64 a.d) (hb : R64 b.n ∧ R64 b.d) : Calls Try.prog 74 #[.agg #[.int .i64 a.n, .int .i64 a.d], .agg #[.int .i64 b.n, .int .i64 b.d]] w fun e w' => e = .returned (.int .i64 (cmpQ a b)) ∧ Below w.heap.size w w' := by
  have CM := fun w => cmp_c a b w ha.1 ha.2 hb.1 hb.2
  unfold rqv at CM
  obtain ⟨z, hz⟩ : ∃ z, z = cmpQ a b := ⟨_, rfl⟩
  rw [← hz] at CM ⊢
  clear hz
  have HB : Kept (Below w.heap.size w ((w.alloc (.cells #[.int .i64 a.n, .int .i64 a.d] 32)).alloc (.cells #[.int .i64 b.n, .int .i64 b.d] 32))) := ⟨by go_grown⟩
  go_enter Try.func74, Try.ntmps74
  go_wp2_with (go_at_call 9; refine (CM _).mono ?_; rintro e w1 ⟨rfl, hb1⟩; have HB1 := Kept.mk (join HB.out hb1); clear hb1)
  go_ret
  exact ⟨rfl, HB1.out⟩
/-- The first numbers are in order. -/
def Srt (L : List Rq) (i : Nat) : Prop := ∀ a b, a < b → b ≤ i → b < L.length → val (L.getD a rq0) ≤ val (L.getD b rq0)
/-- .. but for number j. -/
def SrtX (L : List Rq) (i j : Nat) : Prop := ∀ a b, a < b → b ≤ i → b ≠ j → b < L.length → val (L.getD a rq0) ≤ val (L.getD b rq0)
theorem Srt.x {L : List Rq} {i : Nat} (h : Srt L (i - 1)) : SrtX L i i := fun a b hab hb hne hl => h a b hab (by omega) hl
theorem SrtX.zero {L : List Rq} {i : Nat} (h : SrtX L i 0) : Srt L i := fun a b hab hb hl => h a b hab hb (by omega) hl
theorem SrtX.stop {L : List Rq} {i j q : Nat} (h : SrtX L i j) (hq : q + 1 = j) (hle : val (L.getD q rq0) ≤ val (L.getD j rq0)) : Srt L i := by
  intro a b hab hb hl
  by_cases e : b = j
  · subst e
    by_cases e2 : a = q
    · subst e2; exact hle
    · exact Rat.le_trans (h a q (by omega) (by omega) (by omega) (by omega)) hle
  · exact h a b hab hb e hl
theorem SrtX.swap {L : List Rq} {i j q : Nat} (h : SrtX L i j) (hq : q + 1 = j) (hji : j ≤ i) (hj : j < L.length) (hlt : val (L.getD j rq0) < val (L.getD q rq0)) : SrtX ((L.set j (L.getD q rq0)).set q (L.getD j rq0)) i q := by
  have hg : ∀ c, ((L.set j (L.getD q rq0)).set q (L.getD j rq0)).getD c rq0 = if q = c then L.getD j rq0 else if j = c then L.getD q rq0 else L.getD c rq0 := by
    intro c
    rw [getD_set (by rw [List.length_set]; omega), getD_set hj]
  intro a b hab hb hne hl
  rw [List.length_set, List.length_set] at hl
  have nb : ¬ q = b := fun e => hne e.symm
  rw [hg a, hg b, if_neg nb]
  by_cases e1 : j = b
  · subst e1
    rw [if_pos rfl]
    by_cases e2 : q = a
    · rw [if_pos e2]; exact Rat.le_of_lt hlt
    · rw [if_neg e2, if_neg (by omega)]
      exact h a q (by omega) (by omega) (by omega) (by omega)
  · rw [if_neg e1]
    by_cases e2 : q = a
    · rw [if_pos e2]
      exact h j b (by omega) hb (fun e => e1 e.symm) hl
    · rw [if_neg e2]
      by_cases e3 : j = a
      · rw [if_pos e3]; exact h q b (by omega) hb (fun e => e1 e.symm) hl
      · rw [if_neg e3]; exact h a b hab hb (fun e => e1 e.symm) hl
theorem row_two {w : World} {g j q : Nat} {L : List Rq} {x y : Rq} (h : RowBlk w g 32 ccell L) (hj : L[j]? = some x) (hq : L[q]? = some y) : w.cell? ⟨g, j * 2, none⟩ = some (.int .i64 x.n) ∧ w.cell? ⟨g, j * 2 + 1, none⟩ = some (.int .i64 x.d) ∧ w.cell? ⟨g, q * 2, none⟩ = some (.int .i64 y.n) ∧ w.cell? ⟨g, q * 2 + 1, none⟩ = some (.int .i64 y.d) :=
  ⟨h.cell ccell_len hj (j := 0) rfl, h.cell ccell_len hj (j := 1) rfl, h.cell ccell_len hq (j := 0) rfl, h.cell ccell_len hq (j := 1) rfl⟩
/-- The row in the sort. -/
structure RS (w W : World) (g : Nat) (L0 L : List Rq) : Prop where
  row : RowBlk W g 32 ccell L
  only : OnlyP (fun b => b = g) w W
  perm : L.Perm L0
  ok : AllOk L
set_option maxRecDepth 100000 in
set_option maxHeartbeats 8000000 in
theorem isort_c (L : List Rq) (g kap : Nat) (w : World) (hR : RowBlk w g 32 ccell L) (hok : AllOk L) (hm : L.length ≤ 12) :
    Calls Try.prog 81 #[.slice (some ⟨g, 0, none⟩) L.length kap, .int .i64 0, .int .i64 L.length, .func (.func 74) #[] #[]] w fun e w' => e = .returned (.tuple #[]) ∧ ∃ L', RS w w' g L L' ∧ Srt L' L.length := by
  have HR := Kept.mk (RS.mk hR (OnlyP.refl _ w) (List.Perm.refl L) hok)
  clear hR hok
  obtain ⟨m, hm2⟩ : ∃ m, m = L.length := ⟨_, rfl⟩
  have HM := Kept.mk hm2
  rw [← hm2] at hm ⊢
  clear hm2
  go_enter Try.func81, Try.ntmps81
  go_wp2_with fail
  go_loopw [8] (fun v wr => ∃ (i : Nat) (L1 : List Rq), 1 ≤ i ∧ i ≤ m + 1 ∧ v = .int .i64 i ∧ Kept (RS w wr g L L1 ∧ Srt L1 (i - 1))) (fun v _ => m + 1 - (intOf v).toNat)
  case atStart => exact ⟨1, L, Nat.le_refl _, by omega, by go_num, ⟨HR.out, fun a b h1 h2 _ => by omega⟩⟩
  case round =>
    clear HR
    obtain ⟨i, L1, hi1, hi2, rfl, HV⟩ := hrel
    by_cases hlt : i < m
    · go_wp2_with fail
      go_loopw [9] (fun v wr => ∃ (j : Nat) (L2 : List Rq), j ≤ i ∧ v = .int .i64 j ∧ Kept (RS w wr g L L2 ∧ SrtX L2 i j)) (fun v _ => (intOf v).toNat)
      case atStart => exact ⟨i, L1, Nat.le_refl _, by go_num, ⟨HV.out.1, HV.out.2.x⟩⟩
      case round =>
        clear HV
        obtain ⟨j, L2, hj, rfl, HV⟩ := hrel
        have hLm : L2.length = m := by rw [HM.out]; exact HV.out.1.perm.length_eq
        have HLM := Kept.mk hLm
        by_cases h0 : j = 0
        · subst h0
          clear hLm
          go_upto_region 4 with fail
          go_quiet (fail)
          go_wp2_with fail
          go_roundw
          case rel => exact ⟨i + 1, L2, by omega, by omega, by go_num, ⟨⟨HV.out.1.row.drewN nq, HV.out.1.only.drewN nq, HV.out.1.perm, HV.out.1.ok⟩, HV.out.2.zero⟩⟩
          case measure => simp [intOf]; omega
        · obtain ⟨q, hq⟩ : ∃ q, q + 1 = j := ⟨j - 1, by omega⟩
          have HQ := Kept.mk hq
          have hjm : j < m := by omega
          have hqm : q < m := by omega
          have hwj : IntKind.i64.wrap ((j : Int) - 1) = (q : Int) := by rw [IntWalk.i64_in _ (by omega)]; omega
          have hjp : decide ((0 : Int) < (j : Int)) = true := decide_eq_true (by omega)
          have hjn : decide (0 < j) = true := decide_eq_true (by omega)
          have hjz : 0 < j := by omega
          obtain ⟨x, hx⟩ := get_some (show j < L2.length by omega)
          obtain ⟨y, hy⟩ := get_some (show q < L2.length by omega)
          have HJX := Kept.mk hx
          have HQY := Kept.mk hy
          have hx64 := okQ_R64 (HV.out.1.ok x (List.mem_of_getElem? hx))
          have hy64 := okQ_R64 (HV.out.1.ok y (List.mem_of_getElem? hy))
          have CM := fun w => cmpf_c x y w hx64 hy64
          have hcv := cmpQ_val (HV.out.1.ok x (List.mem_of_getElem? hx)) (HV.out.1.ok y (List.mem_of_getElem? hy))
          obtain ⟨z, hz⟩ : ∃ z, cmpQ x y = z := ⟨_, rfl⟩
          rw [hz] at CM hcv
          have HCV := Kept.mk hcv
          have hgx : L2.getD j rq0 = x := by rw [List.getD_eq_getElem?_getD, hx]; rfl
          have hgy : L2.getD q rq0 = y := by rw [List.getD_eq_getElem?_getD, hy]; rfl
          have HGX := Kept.mk (And.intro hgx hgy)
          have HX1 : Kept (RowBlk (wr.drewN 1) g 32 ccell L2 ∧ OnlyP (fun b => b = g) w (wr.drewN 1)) := ⟨HV.out.1.row.drewN 1, HV.out.1.only.drewN 1⟩
          have HPO := Kept.mk (And.intro HV.out.1.perm HV.out.1.ok)
          have HSX := Kept.mk HV.out.2
          clear hLm hq h0 hx hy hx64 hy64 hcv hz hgx hgy HV
          go_upto_region 4 with fail
          by_cases hz0 : z < 0
          · have dz : decide (z < 0) = true := decide_eq_true hz0
            have HLT := Kept.mk (HCV.out.1.1 hz0)
            refine wp_region_held_drew (S := fun w' => w'.cell? ⟨g, j * 2, none⟩ = some (.int .i64 x.n) ∧ w'.cell? ⟨g, j * 2 + 1, none⟩ = some (.int .i64 x.d) ∧ w'.cell? ⟨g, q * 2, none⟩ = some (.int .i64 y.n) ∧ w'.cell? ⟨g, q * 2 + 1, none⟩ = some (.int .i64 y.d)) (by kernel_rfl) (by (try dsimp only); (first | exact row_two HX2.out.1 HJX.out HQY.out | exact row_two HX1.out.1 HJX.out HQY.out)) (fun hHeld => ?_)
            refine wpAnyH_take (i := 0) (v := ?_) rfl (by kernel_rfl) (by kernel_rfl) (by kernel_rfl) (fun _ _ _ h => h) (Or.inl ⟨by rfl, ?_⟩) (by assumption) ?_; rotate_left; (intro w hSw; (try dsimp only at hSw); go_simp; try (with_reducible rfl)); try simp only [Act.put, List.setIfInBounds_toArray, List.set_cons_zero, List.set_cons_succ, List.getElem_toArray, List.getElem_cons_succ, List.getElem_cons_zero]
            refine wpAnyH_take (i := 1) (v := ?_) rfl (by kernel_rfl) (by kernel_rfl) (by kernel_rfl) (fun _ _ _ h => h) (Or.inl ⟨by rfl, ?_⟩) (by assumption) ?_; rotate_left; (intro w hSw; (try dsimp only at hSw); go_simp; try (with_reducible rfl)); try simp only [Act.put, List.setIfInBounds_toArray, List.set_cons_zero, List.set_cons_succ, List.getElem_toArray, List.getElem_cons_succ, List.getElem_cons_zero]
            refine wpAnyH_take (i := 2) (v := ?_) rfl (by kernel_rfl) (by kernel_rfl) (by kernel_rfl) (fun _ _ _ h => h) (Or.inl ⟨by rfl, ?_⟩) (by assumption) ?_; rotate_left; (intro w hSw; (try dsimp only at hSw); go_simp; try (with_reducible rfl)); try simp only [Act.put, List.setIfInBounds_toArray, List.set_cons_zero, List.set_cons_succ, List.getElem_toArray, List.getElem_cons_succ, List.getElem_cons_zero]
            refine wpAnyH_take (i := 3) (v := ?_) rfl (by kernel_rfl) (by kernel_rfl) (by kernel_rfl) (fun _ _ _ h => h) (Or.inl ⟨by rfl, ?_⟩) (by assumption) ?_; rotate_left; (intro w hSw; (try dsimp only at hSw); go_simp; try (with_reducible rfl)); try simp only [Act.put, List.setIfInBounds_toArray, List.set_cons_zero, List.set_cons_succ, List.getElem_toArray, List.getElem_cons_succ, List.getElem_cons_zero]
            refine wpAnyH_take (i := 4) (v := ?_) rfl (by kernel_rfl) (by kernel_rfl) (by kernel_rfl) (fun _ _ _ h => h) (Or.inl ⟨by rfl, ?_⟩) (by assumption) ?_; rotate_left; (intro w hSw; (try dsimp only at hSw); go_simp; try (with_reducible rfl)); try simp only [Act.put, List.setIfInBounds_toArray, List.set_cons_zero, List.set_cons_succ, List.getElem_toArray, List.getElem_cons_succ, List.getElem_cons_zero]
            refine wpAnyH_take (i := 5) (v := ?_) rfl (by kernel_rfl) (by kernel_rfl) (by kernel_rfl) (fun _ _ _ h => h) (Or.inl ⟨by rfl, ?_⟩) (by assumption) ?_; rotate_left; (intro w hSw; (try dsimp only at hSw); go_simp; try (with_reducible rfl)); try simp only [Act.put, List.setIfInBounds_toArray, List.set_cons_zero, List.set_cons_succ, List.getElem_toArray, List.getElem_cons_succ, List.getElem_cons_zero]
            refine wpAnyH_take (i := 6) (v := ?_) rfl (by kernel_rfl) (by kernel_rfl) (by kernel_rfl) (fun _ _ _ h => h) (Or.inl ⟨by rfl, ?_⟩) (by assumption) ?_; rotate_left; (intro w hSw; (try dsimp only at hSw); go_simp; try (with_reducible rfl)); try simp only [Act.put, List.setIfInBounds_toArray, List.set_cons_zero, List.set_cons_succ, List.getElem_toArray, List.getElem_cons_succ, List.getElem_cons_zero]
            refine wpAnyH_take (i := 7) (v := ?_) rfl (by kernel_rfl) (by kernel_rfl) (by kernel_rfl) (fun _ _ _ h => h) (Or.inl ⟨by rfl, ?_⟩) (by assumption) ?_; rotate_left; (intro w hSw; (try dsimp only at hSw); go_simp; try (with_reducible rfl)); try simp only [Act.put, List.setIfInBounds_toArray, List.set_cons_zero, List.set_cons_succ, List.getElem_toArray, List.getElem_cons_succ, List.getElem_cons_zero]
            refine wpAnyH_take (i := 8) (v := ?_) rfl (by kernel_rfl) (by kernel_rfl) (by kernel_rfl) (fun _ _ _ h => h) (Or.inl ⟨by rfl, ?_⟩) (by assumption) ?_; rotate_left; (intro w hSw; (try dsimp only at hSw); go_simp; try (with_reducible rfl)); try simp only [Act.put, List.setIfInBounds_toArray, List.set_cons_zero, List.set_cons_succ, List.getElem_toArray, List.getElem_cons_succ, List.getElem_cons_zero]
            refine wpAnyH_take (i := 9) (v := ?_) rfl (by kernel_rfl) (by kernel_rfl) (by kernel_rfl) (fun _ _ _ h => h) (Or.inl ⟨by rfl, ?_⟩) (by assumption) ?_; rotate_left; (intro w hSw; (try dsimp only at hSw); go_simp; try (with_reducible rfl)); try simp only [Act.put, List.setIfInBounds_toArray, List.set_cons_zero, List.set_cons_succ, List.getElem_toArray, List.getElem_cons_succ, List.getElem_cons_zero]
            refine wpAnyH_take (i := 10) (v := ?_) rfl (by kernel_rfl) (by kernel_rfl) (by kernel_rfl) (fun _ _ _ h => h) (Or.inl ⟨by rfl, ?_⟩) (by assumption) ?_; rotate_left; (intro w hSw; (try dsimp only at hSw); go_simp; try (with_reducible rfl)); try simp only [Act.put, List.setIfInBounds_toArray, List.set_cons_zero, List.set_cons_succ, List.getElem_toArray, List.getElem_cons_succ, List.getElem_cons_zero]
            refine wpAnyH_take (i := 11) (v := ?_) rfl (by kernel_rfl) (by kernel_rfl) (by kernel_rfl) (fun _ _ _ h => h) (Or.inl ⟨by rfl, ?_⟩) (by assumption) ?_; rotate_left; (intro w hSw; (try dsimp only at hSw); go_simp; try (with_reducible rfl)); try simp only [Act.put, List.setIfInBounds_toArray, List.set_cons_zero, List.set_cons_succ, List.getElem_toArray, List.getElem_cons_succ, List.getElem_cons_zero]
            refine wpAnyH_take (i := 12) (v := ?_) rfl (by kernel_rfl) (by kernel_rfl) (by kernel_rfl) (fun _ _ _ h => h) (Or.inl ⟨by rfl, ?_⟩) (by assumption) ?_; rotate_left; (intro w hSw; (try dsimp only at hSw); go_simp; try (with_reducible rfl)); try simp only [Act.put, List.setIfInBounds_toArray, List.set_cons_zero, List.set_cons_succ, List.getElem_toArray, List.getElem_cons_succ, List.getElem_cons_zero]
            refine wpAnyH_take (i := 13) (v := ?_) rfl (by kernel_rfl) (by kernel_rfl) (by kernel_rfl) (fun _ _ _ h => h) (Or.inl ⟨by rfl, ?_⟩) (by assumption) ?_; rotate_left; (intro w hSw; (try dsimp only at hSw); go_simp; try (with_reducible rfl)); try simp only [Act.put, List.setIfInBounds_toArray, List.set_cons_zero, List.set_cons_succ, List.getElem_toArray, List.getElem_cons_succ, List.getElem_cons_zero]
            refine wpAnyH_ready (rs := [14]) (by kernel_rfl) (by simp) ?_; refine AllReadyH.cons rfl (fun K hK => ?_) AllReadyH.nil; go_simp
            refine (CM _).mono ?_; rintro e wq ⟨rfl, hbq⟩; have HX2 : Kept (RowBlk wq g 32 ccell L2 ∧ OnlyP (fun b => b = g) w wq) := ⟨HX1.out.1.new_ hbq, HX1.out.2.new hbq⟩; clear hbq
            try go_wp2_with fail
            refine hK.out _ _ (by (try dsimp only); (first | exact row_two HX2.out.1 HJX.out HQY.out | exact row_two HX1.out.1 HJX.out HQY.out)) (fun hHeld => ?_); clear hK K; try simp only [Act.put, List.setIfInBounds_toArray, List.set_cons_zero, List.set_cons_succ, List.getElem_toArray, List.getElem_cons_succ, List.getElem_cons_zero]
            refine wpAnyH_take (i := 15) (v := ?_) rfl (by kernel_rfl) (by kernel_rfl) (by kernel_rfl) (fun _ _ _ h => h) (Or.inl ⟨by rfl, ?_⟩) (by assumption) ?_; rotate_left; (intro w hSw; (try dsimp only at hSw); go_simp; try (with_reducible rfl)); try simp only [Act.put, List.setIfInBounds_toArray, List.set_cons_zero, List.set_cons_succ, List.getElem_toArray, List.getElem_cons_succ, List.getElem_cons_zero]
            refine wpAnyH_take (i := 16) (v := ?_) rfl (by kernel_rfl) (by kernel_rfl) (by kernel_rfl) (fun _ _ _ h => h) (Or.inl ⟨by rfl, ?_⟩) (by assumption) ?_; rotate_left; (intro w hSw; (try dsimp only at hSw); go_simp; try (with_reducible rfl)); try simp only [Act.put, List.setIfInBounds_toArray, List.set_cons_zero, List.set_cons_succ, List.getElem_toArray, List.getElem_cons_succ, List.getElem_cons_zero]
            refine wpAnyH_done (by kernel_rfl) ?_ _
            go_upto_region 6 with fail
            obtain ⟨r0, r1, r2, r3⟩ := row_two HX2.out.1 HJX.out HQY.out
            have f0 := HX2.out.1.free (j * 2)
            have f1 := HX2.out.1.free (j * 2 + 1)
            have f2 := HX2.out.1.free (q * 2)
            have f3 := HX2.out.1.free (q * 2 + 1)
            have lg := HX2.out.1.lt
            have hjq1 : ¬ j = q := by have := HQ.out; omega
            have hjq2 : ¬ q = j := by have := HQ.out; omega
            have hsum : IntKind.i64.wrap ((j : Int) - 1) = (q : Int) := hwj
            go_region
            go_wp2_with fail
            go_roundw
            case rel =>
              have hl := HLM.out
              have hj2 : j < L2.length := by omega
              have hq2 : q < L2.length := by omega
              refine ⟨q, (L2.set j y).set q x, by have := HQ.out; omega, by go_num, ⟨⟨Blk.drew ((HX2.out.1.set2 ccell_len hj2 (x := y) rfl).set2 ccell_len (x := x) (by rw [List.length_set]; exact hq2) rfl), ?_, ?_, ?_⟩, ?_⟩⟩
              · exact ((((HX2.out.2.set (p := ⟨g, j * 2, none⟩) (.inl rfl) _).set (p := ⟨g, j * 2 + 1, none⟩) (.inl rfl) _).set (p := ⟨g, q * 2, none⟩) (.inl rfl) _).set (p := ⟨g, q * 2 + 1, none⟩) (.inl rfl) _).drew
              · have hp := List.set_set_perm hj2 hq2
                have e1 : L2[q] = y := by have := HQY.out; rw [List.getElem?_eq_getElem hq2] at this; injection this
                have e2 : L2[j] = x := by have := HJX.out; rw [List.getElem?_eq_getElem hj2] at this; injection this
                rw [e1, e2] at hp
                exact hp.trans HPO.out.1
              · exact (HPO.out.2.set _ (HPO.out.2 y (List.mem_of_getElem? HQY.out))).set _ (HPO.out.2 x (List.mem_of_getElem? HJX.out))
              · have h := HSX.out.swap HQ.out hj hj2 (by rw [HGX.out.1, HGX.out.2]; exact HLT.out)
                rw [HGX.out.1, HGX.out.2] at h
                exact h
            case measure => have := HQ.out; simp [intOf]; omega
          · have dz : decide (z < 0) = false := decide_eq_false hz0
            have HLE : Kept (val y ≤ val x) := ⟨Rat.not_lt.1 fun hh => hz0 (HCV.out.1.2 hh)⟩
            refine wp_region_held_drew (S := fun w' => w'.cell? ⟨g, j * 2, none⟩ = some (.int .i64 x.n) ∧ w'.cell? ⟨g, j * 2 + 1, none⟩ = some (.int .i64 x.d) ∧ w'.cell? ⟨g, q * 2, none⟩ = some (.int .i64 y.n) ∧ w'.cell? ⟨g, q * 2 + 1, none⟩ = some (.int .i64 y.d)) (by kernel_rfl) (by (try dsimp only); (first | exact row_two HX2.out.1 HJX.out HQY.out | exact row_two HX1.out.1 HJX.out HQY.out)) (fun hHeld => ?_)
            refine wpAnyH_take (i := 0) (v := ?_) rfl (by kernel_rfl) (by kernel_rfl) (by kernel_rfl) (fun _ _ _ h => h) (Or.inl ⟨by rfl, ?_⟩) (by assumption) ?_; rotate_left; (intro w hSw; (try dsimp only at hSw); go_simp; try (with_reducible rfl)); try simp only [Act.put, List.setIfInBounds_toArray, List.set_cons_zero, List.set_cons_succ, List.getElem_toArray, List.getElem_cons_succ, List.getElem_cons_zero]
            refine wpAnyH_take (i := 1) (v := ?_) rfl (by kernel_rfl) (by kernel_rfl) (by kernel_rfl) (fun _ _ _ h => h) (Or.inl ⟨by rfl, ?_⟩) (by assumption) ?_; rotate_left; (intro w hSw; (try dsimp only at hSw); go_simp; try (with_reducible rfl)); try simp only [Act.put, List.setIfInBounds_toArray, List.set_cons_zero, List.set_cons_succ, List.getElem_toArray, List.getElem_cons_succ, List.getElem_cons_zero]
            refine wpAnyH_take (i := 2) (v := ?_) rfl (by kernel_rfl) (by kernel_rfl) (by kernel_rfl) (fun _ _ _ h => h) (Or.inl ⟨by rfl, ?_⟩) (by assumption) ?_; rotate_left; (intro w hSw; (try dsimp only at hSw); go_simp; try (with_reducible rfl)); try simp only [Act.put, List.setIfInBounds_toArray, List.set_cons_zero, List.set_cons_succ, List.getElem_toArray, List.getElem_cons_succ, List.getElem_cons_zero]
            refine wpAnyH_take (i := 3) (v := ?_) rfl (by kernel_rfl) (by kernel_rfl) (by kernel_rfl) (fun _ _ _ h => h) (Or.inl ⟨by rfl, ?_⟩) (by assumption) ?_; rotate_left; (intro w hSw; (try dsimp only at hSw); go_simp; try (with_reducible rfl)); try simp only [Act.put, List.setIfInBounds_toArray, List.set_cons_zero, List.set_cons_succ, List.getElem_toArray, List.getElem_cons_succ, List.getElem_cons_zero]
            refine wpAnyH_take (i := 4) (v := ?_) rfl (by kernel_rfl) (by kernel_rfl) (by kernel_rfl) (fun _ _ _ h => h) (Or.inl ⟨by rfl, ?_⟩) (by assumption) ?_; rotate_left; (intro w hSw; (try dsimp only at hSw); go_simp; try (with_reducible rfl)); try simp only [Act.put, List.setIfInBounds_toArray, List.set_cons_zero, List.set_cons_succ, List.getElem_toArray, List.getElem_cons_succ, List.getElem_cons_zero]
            refine wpAnyH_take (i := 5) (v := ?_) rfl (by kernel_rfl) (by kernel_rfl) (by kernel_rfl) (fun _ _ _ h => h) (Or.inl ⟨by rfl, ?_⟩) (by assumption) ?_; rotate_left; (intro w hSw; (try dsimp only at hSw); go_simp; try (with_reducible rfl)); try simp only [Act.put, List.setIfInBounds_toArray, List.set_cons_zero, List.set_cons_succ, List.getElem_toArray, List.getElem_cons_succ, List.getElem_cons_zero]
            refine wpAnyH_take (i := 6) (v := ?_) rfl (by kernel_rfl) (by kernel_rfl) (by kernel_rfl) (fun _ _ _ h => h) (Or.inl ⟨by rfl, ?_⟩) (by assumption) ?_; rotate_left; (intro w hSw; (try dsimp only at hSw); go_simp; try (with_reducible rfl)); try simp only [Act.put, List.setIfInBounds_toArray, List.set_cons_zero, List.set_cons_succ, List.getElem_toArray, List.getElem_cons_succ, List.getElem_cons_zero]
            refine wpAnyH_take (i := 7) (v := ?_) rfl (by kernel_rfl) (by kernel_rfl) (by kernel_rfl) (fun _ _ _ h => h) (Or.inl ⟨by rfl, ?_⟩) (by assumption) ?_; rotate_left; (intro w hSw; (try dsimp only at hSw); go_simp; try (with_reducible rfl)); try simp only [Act.put, List.setIfInBounds_toArray, List.set_cons_zero, List.set_cons_succ, List.getElem_toArray, List.getElem_cons_succ, List.getElem_cons_zero]
            refine wpAnyH_take (i := 8) (v := ?_) rfl (by kernel_rfl) (by kernel_rfl) (by kernel_rfl) (fun _ _ _ h => h) (Or.inl ⟨by rfl, ?_⟩) (by assumption) ?_; rotate_left; (intro w hSw; (try dsimp only at hSw); go_simp; try (with_reducible rfl)); try simp only [Act.put, List.setIfInBounds_toArray, List.set_cons_zero, List.set_cons_succ, List.getElem_toArray, List.getElem_cons_succ, List.getElem_cons_zero]
            refine wpAnyH_take (i := 9) (v := ?_) rfl (by kernel_rfl) (by kernel_rfl) (by kernel_rfl) (fun _ _ _ h => h) (Or.inl ⟨by rfl, ?_⟩) (by assumption) ?_; rotate_left; (intro w hSw; (try dsimp only at hSw); go_simp; try (with_reducible rfl)); try simp only [Act.put, List.setIfInBounds_toArray, List.set_cons_zero, List.set_cons_succ, List.getElem_toArray, List.getElem_cons_succ, List.getElem_cons_zero]
            refine wpAnyH_take (i := 10) (v := ?_) rfl (by kernel_rfl) (by kernel_rfl) (by kernel_rfl) (fun _ _ _ h => h) (Or.inl ⟨by rfl, ?_⟩) (by assumption) ?_; rotate_left; (intro w hSw; (try dsimp only at hSw); go_simp; try (with_reducible rfl)); try simp only [Act.put, List.setIfInBounds_toArray, List.set_cons_zero, List.set_cons_succ, List.getElem_toArray, List.getElem_cons_succ, List.getElem_cons_zero]
            refine wpAnyH_take (i := 11) (v := ?_) rfl (by kernel_rfl) (by kernel_rfl) (by kernel_rfl) (fun _ _ _ h => h) (Or.inl ⟨by rfl, ?_⟩) (by assumption) ?_; rotate_left; (intro w hSw; (try dsimp only at hSw); go_simp; try (with_reducible rfl)); try simp only [Act.put, List.setIfInBounds_toArray, List.set_cons_zero, List.set_cons_succ, List.getElem_toArray, List.getElem_cons_succ, List.getElem_cons_zero]
            refine wpAnyH_take (i := 12) (v := ?_) rfl (by kernel_rfl) (by kernel_rfl) (by kernel_rfl) (fun _ _ _ h => h) (Or.inl ⟨by rfl, ?_⟩) (by assumption) ?_; rotate_left; (intro w hSw; (try dsimp only at hSw); go_simp; try (with_reducible rfl)); try simp only [Act.put, List.setIfInBounds_toArray, List.set_cons_zero, List.set_cons_succ, List.getElem_toArray, List.getElem_cons_succ, List.getElem_cons_zero]
            refine wpAnyH_take (i := 13) (v := ?_) rfl (by kernel_rfl) (by kernel_rfl) (by kernel_rfl) (fun _ _ _ h => h) (Or.inl ⟨by rfl, ?_⟩) (by assumption) ?_; rotate_left; (intro w hSw; (try dsimp only at hSw); go_simp; try (with_reducible rfl)); try simp only [Act.put, List.setIfInBounds_toArray, List.set_cons_zero, List.set_cons_succ, List.getElem_toArray, List.getElem_cons_succ, List.getElem_cons_zero]
            refine wpAnyH_ready (rs := [14]) (by kernel_rfl) (by simp) ?_; refine AllReadyH.cons rfl (fun K hK => ?_) AllReadyH.nil; go_simp
            refine (CM _).mono ?_; rintro e wq ⟨rfl, hbq⟩; have HX2 : Kept (RowBlk wq g 32 ccell L2 ∧ OnlyP (fun b => b = g) w wq) := ⟨HX1.out.1.new_ hbq, HX1.out.2.new hbq⟩; clear hbq
            try go_wp2_with fail
            refine hK.out _ _ (by (try dsimp only); (first | exact row_two HX2.out.1 HJX.out HQY.out | exact row_two HX1.out.1 HJX.out HQY.out)) (fun hHeld => ?_); clear hK K; try simp only [Act.put, List.setIfInBounds_toArray, List.set_cons_zero, List.set_cons_succ, List.getElem_toArray, List.getElem_cons_succ, List.getElem_cons_zero]
            refine wpAnyH_take (i := 15) (v := ?_) rfl (by kernel_rfl) (by kernel_rfl) (by kernel_rfl) (fun _ _ _ h => h) (Or.inl ⟨by rfl, ?_⟩) (by assumption) ?_; rotate_left; (intro w hSw; (try dsimp only at hSw); go_simp; try (with_reducible rfl)); try simp only [Act.put, List.setIfInBounds_toArray, List.set_cons_zero, List.set_cons_succ, List.getElem_toArray, List.getElem_cons_succ, List.getElem_cons_zero]
            refine wpAnyH_take (i := 16) (v := ?_) rfl (by kernel_rfl) (by kernel_rfl) (by kernel_rfl) (fun _ _ _ h => h) (Or.inl ⟨by rfl, ?_⟩) (by assumption) ?_; rotate_left; (intro w hSw; (try dsimp only at hSw); go_simp; try (with_reducible rfl)); try simp only [Act.put, List.setIfInBounds_toArray, List.set_cons_zero, List.set_cons_succ, List.getElem_toArray, List.getElem_cons_succ, List.getElem_cons_zero]
            refine wpAnyH_done (by kernel_rfl) ?_ _
            go_wp2_with fail
            go_roundw
            case rel => exact ⟨i + 1, L2, by omega, by omega, by go_num, ⟨⟨HX2.out.1, HX2.out.2, HPO.out.1, HPO.out.2⟩, HSX.out.stop HQ.out (by rw [HGX.out.1, HGX.out.2]; exact HLE.out)⟩⟩
            case measure => simp [intOf]; omega
    · have dn : decide (i < m) = false := decide_eq_false hlt
      go_wp2_with fail
      go_end0
      exact ⟨rfl, L1, HV.out.1, fun a b hab hb hl => HV.out.2 a b hab (by have := HV.out.1.perm.length_eq; have := HM.out; omega) hl⟩
end Go.Proofs.Ytjalegdfofogcaa
namespace Go.Proofs.Ytjalegdfofogcaa
set_option linter.unusedVariables false
set_option linter.unusedSimpArgs false
open Go.RowKit Go.Shelf
def len_ren : Go.Shelf.Ren := ⟨fun | 125 => 79 | 128 => 89 | 129 => 80 | n => n, fun | 53 => 70 | 51 => 131 | 46 => 104 | 3 => 3 | 4 => 4 | 5 => 5 | 9 => 9 | n => n, fun | n => n⟩
theorem len_lays : Go.Proofs.Lays.n125 Try.prog len_ren := {
  mixed := by kernel_rfl
  f125 := Try.func79.trans (congrArg some (by kernel_rfl))
  f128 := Try.func89.trans (congrArg some (by kernel_rfl))
  f129 := Try.func80.trans (congrArg some (by kernel_rfl))
  t3 := Try.underlying3
  a3 := Try.isAgg3
  z3 := Try.sizeOf3
  v3 := Try.zeroValue3
  t4 := Try.underlying4
  a4 := Try.isAgg4
  z4 := Try.sizeOf4
  v4 := Try.zeroValue4
  t5 := Try.underlying5
  a5 := Try.isAgg5
  z5 := Try.sizeOf5
  v5 := Try.zeroValue5
  t9 := Try.underlying9
  a9 := Try.isAgg9
  z9 := Try.sizeOf9
  v9 := Try.zeroValue9
  t46 := Try.underlying104
  a46 := Try.isAgg104
  z46 := Try.sizeOf104
  v46 := Try.zeroValue104
  t51 := Try.underlying131
  a51 := Try.isAgg131
  z51 := Try.sizeOf131
  v51 := Try.zeroValue131
  t53 := Try.underlying70
  a53 := Try.isAgg70
  z53 := Try.sizeOf70
  v53 := Try.zeroValue70 }
theorem len_c (x : Nat) (w : World) (h1 : x ≤ 18446744073709551615) : Calls Try.prog 79 #[.int .u64 (x : Int)] w fun e w' => (∃ l : Int, e = .returned (.int .i64 l)) ∧ w = w' :=
  (Any.bits_Len len_lays (x : Int) w (by omega) (by omega)).mono fun _ _ h => ⟨⟨_, h.1⟩, h.2.symm⟩
set_option maxRecDepth 100000 in
set_option maxHeartbeats 8000000 in
theorem pdq_c (L : List Rq) (g kap : Nat) (lim : Int) (w : World) (hR : RowBlk w g 32 ccell L) (hok : AllOk L) (hm : L.length ≤ 12) :
    Calls Try.prog 78 #[.slice (some ⟨g, 0, none⟩) L.length kap, .int .i64 0, .int .i64 L.length, .int .i64 lim, .func (.func 74) #[] #[]] w fun e w' => e = .returned (.tuple #[]) ∧ ∃ L', RS w w' g L L' ∧ Srt L' L.length := by
  have HI := isort_c L g kap w hR hok hm
  clear hR hok
  obtain ⟨m, hm2⟩ : ∃ m, m = L.length := ⟨_, rfl⟩
  rw [← hm2] at HI hm ⊢
  have HM := Kept.mk hm2
  clear hm2
  have dm : decide (m ≤ 12) = true := decide_eq_true hm
  have dw : IntKind.i64.wrap ((m : Int) - 0) = (m : Int) := by rw [IntWalk.i64_in _ (by omega)]; omega
  go_enter Try.func78, Try.ntmps78
  go_wp2_with fail
  refine wp_loop_rounds 1 ?_
  rw [rounds_succ]
  go_wp2_with (go_at_call 81; refine HI.mono ?_; rintro e w1 ⟨rfl, L', h1, h2⟩; have H1 := Kept.mk (And.intro h1 h2); clear h1 h2)
  (try simp only [Exit.inBlock, Exit.then]); refine bodyPost_ret (results_none rfl _ _ _) rfl ?_
  exact ⟨rfl, L', H1.out.1, H1.out.2⟩
set_option maxHeartbeats 8000000 in
theorem sort_c (L : List Rq) (g kap : Nat) (w : World) (hR : RowBlk w g 32 ccell L) (hok : AllOk L) (hm : L.length ≤ 12) :
    Calls Try.prog 73 #[.slice (some ⟨g, 0, none⟩) L.length kap, .func (.func 74) #[] #[]] w fun e w' => e = .returned (.tuple #[]) ∧ ∃ L', RS w w' g L L' ∧ Srt L' L.length := by
  have HI := fun lim => pdq_c L g kap lim w hR hok hm
  clear hR hok
  obtain ⟨m, hm2⟩ : ∃ m, m = L.length := ⟨_, rfl⟩
  rw [← hm2] at HI hm ⊢
  have HM := Kept.mk hm2
  clear hm2
  have HL := fun w => len_c m w (by omega)
  have dw : IntKind.u64.wrap (m : Int) = (m : Int) := wN (by omega)
  go_enter Try.func73, Try.ntmps73
  go_wp2_with (first | (go_at_call 79; refine (HL _).mono ?_; rintro e wq ⟨⟨l, rfl⟩, rfl⟩) | (go_at_call 78; refine (HI _).mono ?_; rintro e w1 ⟨rfl, L', h1, h2⟩; have H1 := Kept.mk (And.intro h1 h2); clear h1 h2))
  go_end0
  exact ⟨rfl, L', H1.out.1, H1.out.2⟩
end Go.Proofs.Ytjalegdfofogcaa
