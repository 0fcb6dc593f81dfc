/- Reconfig: the statements' tree, and whether parents lead to one root (the program's leads, the reference's Tree). -/
import Derived.Test.YtibmbhnpmfgclaaRPlan
namespace Go.Proofs.Ytibmbhnpmfgclaa
set_option linter.unusedVariables false
set_option linter.unusedSimpArgs false
open Go.RowKit Go.Maps
def ucell (x : Nat) : List Value := [.int .u8 x]
theorem ucell_len (x : Nat) : (ucell x).length = 1 := rfl
def treeK (xs : List Nat) (k : Nat) : List Int := (-1) :: (List.range k).map fun i => ((xs.getD i 0 % (i + 1) : Nat) : Int)
def treeP (xs : List Nat) : List Int := treeK xs (min xs.length 9)
theorem treeK_len (xs : List Nat) (k : Nat) : (treeK xs k).length = k + 1 := by simp [treeK]
theorem treeK_succ {xs : List Nat} {k x : Nat} (h : xs[k]? = some x) : treeK xs (k + 1) = treeK xs k ++ [((x % (k + 1) : Nat) : Int)] := by
  unfold treeK; rw [List.range_succ, List.map_append]; simp [h]
theorem treeK_get (xs : List Nat) (k i : Nat) (h : i < k) : (treeK xs k)[i + 1]? = some ((xs.getD i 0 % (i + 1) : Nat) : Int) := by
  simp [treeK, h]
theorem tree_tree (xs : List Nat) : Tree (treeP xs) := by
  unfold treeP
  refine ⟨by rw [treeK_len]; omega, by simp [treeK], fun i h0 hi => ?_⟩
  rw [treeK_len] at hi
  obtain ⟨j, rfl⟩ : ∃ j, i = j + 1 := ⟨i - 1, by omega⟩
  refine ⟨xs.getD j 0 % (j + 1), ?_, treeK_get xs _ j (by omega)⟩
  have := Nat.mod_lt (xs.getD j 0) (show 0 < j + 1 by omega)
  omega
set_option maxRecDepth 100000 in
set_option maxHeartbeats 4000000 in
theorem tree_c (xs : List Nat) (A : Option Addr) (cap : Nat) (w : World) (hr : RowsAt w w.heap.size 1 ucell A xs) (hb : ∀ x ∈ xs, x ≤ 255) (hl : xs.length ≤ 1000000) :
    Calls Try.prog 24 #[.slice A xs.length cap] w fun e w' => ∃ A kap, e = .returned (.slice A (treeP xs).length kap) ∧ w'.ownsRow w.heap.size 3 1 (.slice A (treeP xs).length kap) (treeP xs).length ((treeP xs).flatMap icell) ∧ Below w.heap.size w w' := by
  have HR := Kept.mk hr
  have HB := Kept.mk hb
  obtain ⟨jj, hjj, hy0, hy1, hy2⟩ := info_parts infoI
  have HO0 : Kept ((w.alloc (.cells #[.int .i64 (-1)] 3)).ownsRow w.heap.size 3 1 (.slice (some ⟨w.heap.size, 0, none⟩) 1 1) 1 ((treeK xs 0).flatMap icell)) :=
    ⟨⟨by simp [treeK, icell], .inr ⟨w.heap.size, 1, _, rfl, Nat.le_refl _, heap_alloc_new w _, Nat.le_refl _, by unfold maxLen; omega, by simp, by simp [treeK, icell]⟩⟩⟩
  clear hr hb
  go_enter Try.func24, Try.ntmps24
  go_wp2_with fail
  go_loopw [3, 9] (fun v3 v9 wr => ∃ k : Nat, k ≤ xs.length ∧ v9 = .int .i64 k ∧ Kept (wr.ownsRow w.heap.size 3 1 v3 (min k 9 + 1) ((treeK xs (min k 9)).flatMap icell)) ∧ Kept (Below w.heap.size w wr)) (fun _ v9 _ => xs.length - (intOf v9).toNat)
  case atStart => exact ⟨0, Nat.zero_le _, rfl, HO0, ⟨by go_grown⟩⟩
  case round =>
    obtain ⟨k, hk, rfl, HO, HD⟩ := hrel
    have hz := HD.out.size
    obtain ⟨A3, c3, hv3⟩ := own_slice HO.out
    subst hv3
    by_cases hlt : k < xs.length
    · obtain ⟨x, b, off, hx, hA, -, hb, hc⟩ := (HR.out.new_ HD.out).at_ hlt
      have c0 := hc 0 _ rfl
      simp only [Nat.add_zero, Nat.mul_one] at c0
      have hx255 := HB.out x (List.mem_of_getElem? hx)
      have HX := Kept.mk (treeK_succ hx)
      rw [hA]
      clear hx hc hA
      by_cases h9 : k < 9
      · have e9 : min k 9 = k := by omega
        have e10 : min (k + 1) 9 = k + 1 := by omega
        have E10 := Kept.mk e10
        rw [e9] at HO ⊢
        have HMOD : Kept (((x % (k + 1) : Nat) : Int) = (x : Int) % ((k : Int) + 1)) := ⟨by simp⟩
        have HM := Kept.mk (reads_made wr #[.int .i64 ((x : Int) % ((k : Int) + 1))] 3 1 1 rfl)
        have HO6 := Kept.mk (HO.out.alloc (.cells #[.int .i64 ((x : Int) % ((k : Int) + 1))] 3))
        have h1 : ∀ u ∈ (#[Value.int .i64 ((x : Int) % ((k : Int) + 1))]).toList, u.oneCell' = true := (by intro u hu; simp at hu; subst hu; rfl)
        clear e9 e10
        go_wp2_with (at_builtin; refine wpList_append_any _ rfl _ _ _ rfl w.heap.size 3 jj _ 1 8 Try.underlying22 hjj hy0 hy1 hy2 rfl (by omega) _ (k + 1) _ rfl HO6.out _ _ 1 1 _ rfl HM.out h1 (by unfold maxLen; omega) (by omega) (by simp; omega) ?_; intro v' w4 ho hgw hat; have HO7 := Kept.mk ho; have HD7 := Kept.mk ((HD.out.alloc hz _).grown hgw (by simp; omega) (fun j hj => (HO6.out.lt j hj).1)); clear ho hgw hat)
        go_roundw
        case rel => exact ⟨k + 1, by omega, by go_num, ⟨by rw [E10.out, HX.out, List.flatMap_append, HMOD.out]; simpa [icell] using HO7.out⟩, HD7⟩
        case measure => simp [intOf]; omega
      · have e9 : min k 9 = 9 := by omega
        have e10 : min (k + 1) 9 = 9 := by omega
        have E10 := Kept.mk e10
        rw [e9] at HO ⊢
        clear e9 e10
        go_wp2_with fail
        go_roundw
        case rel => exact ⟨k + 1, by omega, by go_num, ⟨by rw [E10.out]; exact HO.out⟩, HD⟩
        case measure => simp [intOf]; omega
    · obtain rfl : k = xs.length := by omega
      have HL : Kept ((treeP xs).length = min xs.length 9 + 1) := ⟨treeK_len _ _⟩
      clear hlt
      go_wp2_with fail
      go_ret
      refine ⟨A3, c3, by rw [HL.out]; rfl, ?_, HD.out⟩
      rw [HL.out]; exact HO.out
theorem z_yes' {a b : Int} (h : a = b) : (a == b) = true ∧ (a != b) = false := by simp [h]
theorem z_no' {a b : Int} (h : a ≠ b) : (a == b) = false ∧ (a != b) = true := by simp [h]
/-! ### one root -/
def stepA (P : List Int) (v : Int) : Nat → Int
  | 0 => v
  | k + 1 => if 0 ≤ stepA P v k then P.getD (stepA P v k).toNat (-1) else stepA P v k
def cntR (P : List Int) (k : Nat) : Nat := ((P.take k).filter fun x => x == -1).length
def leadsB (P : List Int) : Bool := (List.range P.length).all (fun v => decide (stepA P v P.length < 0)) && decide (cntR P P.length = 1)
theorem cntR_le (P : List Int) (k : Nat) : cntR P k ≤ k := by
  unfold cntR
  exact Nat.le_trans (List.length_filter_le _ _) (List.length_take_le _ _)
theorem cntR_succ {P : List Int} {k : Nat} {x : Int} (h : P[k]? = some x) : cntR P (k + 1) = cntR P k + if x = -1 then 1 else 0 := by
  unfold cntR
  rw [take_next h, List.filter_append, List.length_append]
  by_cases e : x = -1
  · subst e; simp
  · rw [List.filter_cons_of_neg (by simpa using e), if_neg e]; simp
def InR (P : List Int) : Prop := ∀ x, x ∈ P → -1 ≤ x ∧ x < P.length
theorem stepA_bd {P : List Int} (h : InR P) {v : Nat} (hv : v < P.length) (k : Nat) : -1 ≤ stepA P v k ∧ stepA P v k < P.length := by
  induction k with
  | zero => exact ⟨by simp [stepA], by simp [stepA, hv]⟩
  | succ k ih =>
    unfold stepA
    split
    · have hk : (stepA P v k).toNat < P.length := by omega
      rw [List.getD_eq_getElem?_getD, List.getElem?_eq_getElem hk]
      exact h _ (List.getElem_mem hk)
    · exact ih
theorem stepA_neg {P : List Int} {v : Int} {k n : Nat} (h : stepA P v k < 0) (hn : k ≤ n) : stepA P v n = stepA P v k := by
  induction n with
  | zero => have : k = 0 := by omega
            rw [this]
  | succ n ih =>
    by_cases e : k = n + 1
    · rw [e]
    · have := ih (by omega)
      rw [stepA, if_neg (by omega), this]
theorem leads_no {P : List Int} {k : Nat} (hk : k < P.length) (h : ¬ stepA P k P.length < 0) : leadsB P = false := by
  unfold leadsB
  rw [Bool.and_eq_false_iff]
  left
  rw [List.all_eq_false]
  exact ⟨k, List.mem_range.2 hk, by simpa using h⟩
theorem leads_is {P : List Int} (h : ∀ k, k < P.length → stepA P k P.length < 0) : leadsB P = decide (cntR P P.length = 1) := by
  unfold leadsB
  rw [List.all_eq_true.2 (fun k hk => by simpa using h k (List.mem_range.1 hk)), Bool.true_and]
theorem p_at {w : World} {B : Nat} {A : Option Addr} {P : List Int} (h : RowsAt w B 1 icell A P) {k : Nat} (hk : k < P.length) : ∃ x b off, P[k]? = some x ∧ A = some ⟨b, off, none⟩ ∧ b < w.heap.size ∧ w.cell? ⟨b, off + k, none⟩ = some (.int .i64 x) := by
  obtain ⟨x, b, off, hx, hA, -, hb, hc⟩ := h.at_ hk
  have c0 := hc 0 _ rfl
  simp only [Nat.add_zero, Nat.mul_one] at c0
  exact ⟨x, b, off, hx, hA, hb, c0⟩
theorem step_next {P : List Int} {v : Int} {j x : Nat} {y : Int} (h : stepA P v j = (x : Int)) (hy : P[x]? = some y) : stepA P v (j + 1) = y := by
  rw [stepA, h, if_pos (by omega)]; simp [hy]
set_option maxHeartbeats 4000000 in
theorem leads_c (P : List Int) (A : Option Addr) (B cap : Nat) (w : World) (hr : RowsAt w B 1 icell A P) (hb : InR P) (hl : P.length ≤ 1000000) :
    Calls Try.prog 36 #[.slice A P.length cap] w fun e w' => e = .returned (.bool (leadsB P)) ∧ w = w' := by
  have HR := Kept.mk hr
  have HB := Kept.mk hb
  clear hr hb
  go_enter Try.func36, Try.ntmps36
  go_wp2_with fail
  go_loop [3, 10] (fun v3 v10 => ∃ k : Nat, k ≤ P.length ∧ v10 = .int .i64 k ∧ v3 = .int .i64 (cntR P k : Nat)) (fun _ v10 => P.length - (intOf v10).toNat)
  case atStart => exact ⟨0, Nat.zero_le _, rfl, rfl⟩
  case round =>
    obtain ⟨k, hk, rfl, rfl⟩ := hrel
    have hcl := cntR_le P k
    by_cases hlt : k < P.length
    · obtain ⟨x, b, off, hx, hA, hb, c0⟩ := p_at HR.out hlt
      have HC := Kept.mk (cntR_succ hx)
      rw [hA]
      clear hx hA
      generalize cntR P k = c at *
      by_cases h1 : x = -1
      · obtain ⟨q1, -⟩ := z_yes' h1
        have HC2 : Kept (cntR P (k + 1) = c + 1) := ⟨by rw [HC.out, if_pos h1]⟩
        subst h1
        go_wp2_with fail
        go_round
        case rel => exact ⟨k + 1, by omega, by go_num, by rw [HC2.out]; go_num⟩
        case measure => simp [intOf]; omega
      · obtain ⟨q1, -⟩ := z_no' h1
        have HC2 : Kept (cntR P (k + 1) = c) := ⟨by rw [HC.out, if_neg h1]; rfl⟩
        clear h1
        go_wp2_with fail
        go_round
        case rel => exact ⟨k + 1, by omega, by go_num, by rw [HC2.out]⟩
        case measure => simp [intOf]; omega
    · obtain rfl : k = P.length := by omega
      obtain ⟨c, hc⟩ : ∃ c, cntR P P.length = c := ⟨_, rfl⟩
      have HC := Kept.mk hc
      rw [hc]
      rw [hc] at hcl
      clear hlt hc
      go_wp2_with fail
      go_loop [21] (fun v21 => ∃ k : Nat, k ≤ P.length ∧ v21 = .int .i64 k ∧ Kept (∀ v, v < k → stepA P v P.length < 0)) (fun v21 => P.length - (intOf v21).toNat)
      case atStart => exact ⟨0, Nat.zero_le _, rfl, ⟨fun v hv => absurd hv (by omega)⟩⟩
      case round =>
        obtain ⟨k, hk, rfl, HK⟩ := hrel
        by_cases hlt : k < P.length
        · go_wp2_with fail
          go_loop [7, 27] (fun v7 v27 => ∃ j : Nat, j ≤ P.length ∧ v27 = .int .i64 j ∧ v7 = .int .i64 (stepA P k j)) (fun _ v27 => P.length - (intOf v27).toNat)
          case atStart => exact ⟨0, Nat.zero_le _, rfl, rfl⟩
          case round =>
            obtain ⟨j, hj, rfl, rfl⟩ := hrel
            have hbd := stepA_bd HB.out hlt j
            by_cases hjl : j < P.length
            · by_cases hs : 0 ≤ stepA P k j
              · obtain ⟨x, hx⟩ : ∃ x : Nat, stepA P k j = x := ⟨(stepA P k j).toNat, by omega⟩
                have hxl : x < P.length := by omega
                obtain ⟨y, b, off, hy, hA, hb, c0⟩ := p_at HR.out hxl
                have HN := Kept.mk (step_next hx hy)
                rw [hA, hx]
                clear hA hx hy hbd hs
                go_wp2_with fail
                go_round
                case rel => exact ⟨j + 1, by omega, by go_num, by rw [HN.out]⟩
                case measure => simp [intOf]; omega
              · have HN : Kept (stepA P k (j + 1) = stepA P k j) := ⟨by rw [stepA, if_neg hs]⟩
                generalize stepA P k j = s at *
                go_wp2_with fail
                go_round
                case rel => exact ⟨j + 1, by omega, by go_num, by rw [HN.out]⟩
                case measure => simp [intOf]; omega
            · obtain rfl : j = P.length := by omega
              by_cases hs : stepA P k P.length < 0
              · have HK2 : Kept (∀ v : Nat, v < k + 1 → stepA P v P.length < 0) := ⟨fun v hv => by
                  by_cases e : v = k
                  · subst e; exact hs
                  · exact HK.out v (by omega)⟩
                generalize stepA P k P.length = s at *
                clear hjl
                go_wp2_with fail
                go_round
                case rel => exact ⟨k + 1, by omega, by go_num, HK2⟩
                case measure => simp [intOf]; omega
              · have HF := Kept.mk (leads_no hlt hs)
                generalize stepA P k P.length = s at *
                clear hjl
                go_wp2_with fail
                go_ret
                exact ⟨ret_bool HF.out.symm, rfl⟩
        · obtain rfl : k = P.length := by omega
          have HF : Kept (leadsB P = decide (c = 1)) := ⟨by rw [leads_is HK.out, HC.out]⟩
          clear hlt HK
          go_wp2_with fail
          go_ret
          refine ⟨ret_bool ?_, rfl⟩
          rw [HF.out, Bool.eq_iff_iff]; simp; omega
end Go.Proofs.Ytibmbhnpmfgclaa
