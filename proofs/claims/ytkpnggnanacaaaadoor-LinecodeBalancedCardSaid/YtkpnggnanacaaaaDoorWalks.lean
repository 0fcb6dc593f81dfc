/- Linecode: what Symbols, Index, Data, Control and Value compute, over a world in which the table of symbols lies; nothing that was there is written. -/
import Derived.Test.YtkpnggnanacaaaaDoorProg
import Derived.Test.YtkpnggnanacaaaaDoorPlain
import Derived.Test.YtkpnggnanacaaaaDoorKit
import Derived.OwnWalk
import Derived.ProofKit
namespace Go.Proofs.YtkpnggnanacaaaaDoor
set_option linter.unusedVariables false
open Go.RowKit
theorem info5 : (Tryd.prog.info? 5).map (fun i => (i.zero, i.size, i.bytes)) = some (some (.int .u8 0), 1, 1) := by kernel_rfl
/-- The world is as it was below the call, and the slice v is the call's own row that reads xs. -/
def Owns (w w' : World) (v : Value) (xs : List Int) : Prop := w'.ownsRow w.heap.size 5 1 v xs.length (xs.map (Value.int .u8)) ∧ Below w.heap.size w w'
theorem own_form {w : World} {base : Nat} {e : TypeId} {v : Value} {n : Nat} {xs : List Value} (h : w.ownsRow base e 1 v n xs) (hn : 0 < n) :
    ∃ g cap, v = .slice (some ⟨g, 0, none⟩) n cap ∧ base ≤ g ∧ g < w.heap.size ∧ n ≤ cap ∧ ∀ j u, xs[j]? = some u → w.cell? ⟨g, j, none⟩ = some u := by
  rcases h.2 with ⟨_, h0⟩ | ⟨g, cap, cur, hv, hb, hg, hc, hr⟩
  · omega
  · have hlt : g < w.heap.size := by
      rcases Nat.lt_or_ge g w.heap.size with hlt | hge
      · exact hlt
      · rw [Array.getElem?_eq_none hge] at hg; cases hg
    refine ⟨g, cap, hv, hb, hlt, hc, fun j u hu => ?_⟩
    have := World.ownsRow.cells h (g := g) (by rw [hv]; rfl) j u hu
    rw [← this]
    unfold Addr.add
    split
    · rename_i h0; subst h0; rfl
    · simp
set_option maxHeartbeats 2000000 in
theorem symbols_c (w : World) : Calls Tryd.prog 13 #[] w fun e w' => ∃ v, e = .returned v ∧ Owns w w' v T := by
  obtain ⟨i0, hi, hz0, hz1, hz2⟩ := info_parts info5
  go_enter Tryd.func13, Tryd.ntmps13
  go_wp2
  go_loopw [1, 2] (fun v1 v2 wr => ∃ k : Nat, k ≤ 64 ∧ v2 = .int .i64 k ∧ wr.ownsRow w.heap.size 5 1 v1 (S k).length ((S k).map (Value.int .u8)) ∧ Below w.heap.size w wr) (fun _ v2 _ => 64 - (intOf v2).toNat)
  case atStart => exact ⟨0, by omega, rfl, ⟨rfl, .inl ⟨rfl, rfl⟩⟩, Below.refl _ _⟩
  case round =>
    obtain ⟨k, hk, rfl, hown, hb⟩ := hrel
    have HO := hid hown
    have HB := hid hb
    clear hown hb
    by_cases hlt : k < 64
    · have hl := S_len k
      by_cases hp : popI k = 3
      · have hp' : ((k : Int) % 2 + (k : Int) / 2 % 2 + (k : Int) / 4 % 2 + (k : Int) / 8 % 2 + (k : Int) / 16 % 2 + (k : Int) / 32 % 2 == 3) = true := by simpa [popI] using hp
        have hs := S_yes hp
        have HS := hid hs
        have hsz := HB.out.size
        clear hp hs
        go_wp2_with fail
        refine wp_loop_rounds 7 ?_
        iterate 6 (rw [rounds_succ]; go_wp2_with fail)
        rw [rounds_succ]
        go_wp2_with (at_builtin; refine wpList_append_own _ rfl _ _ 23 rfl w.heap.size 5 i0 (.int .u8 0) 1 1 Tryd.underlying23 hi hz0 hz1 hz2 rfl (by decide) _ _ _ rfl (HO.out.alloc _) ⟨wr.heap.size, 0, none⟩ 1 1 [.int .u8 k] rfl rfl (cell_one_new _ _ _) (fun x hx => by simp at hx; subst hx; rfl) (by unfold maxLen; omega) (by omega) (by simp; omega) ?_; intro v' w1 hown1 hgrow1 _)
        go_roundw
        case rel =>
          refine ⟨k + 1, by omega, by go_num, ?_, (HB.out.alloc HB.out.size _).grown hgrow1 (by have := HB.out.size; simp; omega) (fun g hg => (HO.out.lt g hg).1)⟩
          rw [HS.out]
          simpa using hown1
        case measure => simp [intOf]; omega
      · have hp' : ((k : Int) % 2 + (k : Int) / 2 % 2 + (k : Int) / 4 % 2 + (k : Int) / 8 % 2 + (k : Int) / 16 % 2 + (k : Int) / 32 % 2 == 3) = false := by simpa [popI] using hp
        have hs := S_no hp
        have HS := hid hs
        clear hp hs
        go_wp2_with fail
        refine wp_loop_rounds 7 ?_
        iterate 7 (rw [rounds_succ]; go_wp2_with fail)
        go_roundw
        case rel => exact ⟨k + 1, by omega, by go_num, by rw [HS.out]; exact HO.out, HB.out⟩
        case measure => simp [intOf]; omega
    · obtain rfl : k = 64 := by omega
      go_wp2_with fail
      go_ret
      exact ⟨_, rfl, by rw [← S_64]; exact HO.out, HB.out⟩
/-- The table of symbols lies in block 0. -/
def Tab (w : World) : Prop := 0 < w.heap.size ∧ ∀ i, i < 20 → w.cell? ⟨0, i, none⟩ = some (.int .u8 (T.getD i 0))
theorem Tab.below {w w' : World} (h : Tab w) (hb : Below w.heap.size w w') : Tab w' :=
  ⟨Nat.lt_of_lt_of_le h.1 hb.size, fun i hi => (hb.cell (p := ⟨0, i, none⟩) h.1).trans (h.2 i hi)⟩
theorem Tab.drewN {w : World} (h : Tab w) (n : Nat) : Tab (w.drewN n) := h
def dataV (n : Int) : Int := if 0 ≤ n ∧ n < 16 then T.getD n.toNat 0 else 0
def dataE (n : Int) : Int := if 0 ≤ n ∧ n < 16 then 0 else 2
theorem data_c (n : Int) (w : World) (ht : Tab w) : Calls Tryd.prog 14 #[.int .i64 n] w fun e w' => e = .returned (.tuple #[.int .u8 (dataV n), .int .i64 (dataE n)]) ∧ w = w' := by
  by_cases h : 0 ≤ n ∧ n < 16
  · obtain ⟨h1, h2⟩ := h
    have hc := ht.2 n.toNat (by omega)
    have E1 := hid (show dataV n = T.getD n.toNat 0 by simp [dataV, h1, h2])
    have E2 := hid (show dataE n = 0 by simp [dataE, h1, h2])
    have hlt := ht.1
    generalize T.getD n.toNat 0 = t at *
    go_enter Tryd.func14, Tryd.ntmps14
    go_wp2
    go_ret2
    exact ⟨by rw [E1.out, E2.out] <;> rfl, rfl⟩
  · have E1 := hid (show dataV n = 0 by simp only [dataV, if_neg h])
    have E2 := hid (show dataE n = 2 by simp only [dataE, if_neg h])
    by_cases h1 : n < 0
    · go_enter Tryd.func14, Tryd.ntmps14
      go_wp2
      go_ret2
      exact ⟨by rw [E1.out, E2.out] <;> rfl, rfl⟩
    · have h2 : 16 ≤ n := by omega
      clear h
      go_enter Tryd.func14, Tryd.ntmps14
      go_wp2
      go_ret2
      exact ⟨by rw [E1.out, E2.out] <;> rfl, rfl⟩
def ctrlV (n : Int) : Int := if 0 ≤ n ∧ n < 4 then T.getD (16 + n).toNat 0 else 0
def ctrlE (n : Int) : Int := if 0 ≤ n ∧ n < 4 then 0 else 2
theorem ctrl_c (n : Int) (w : World) (ht : Tab w) : Calls Tryd.prog 15 #[.int .i64 n] w fun e w' => e = .returned (.tuple #[.int .u8 (ctrlV n), .int .i64 (ctrlE n)]) ∧ w = w' := by
  by_cases h : 0 ≤ n ∧ n < 4
  · obtain ⟨h1, h2⟩ := h
    have hc := ht.2 (16 + n).toNat (by omega)
    have hc' : w.cell? ⟨0, 16 + n.toNat, none⟩ = some (.int .u8 (T.getD (16 + n).toNat 0)) := by rw [← hc]; congr 2; omega
    have E1 := hid (show ctrlV n = T.getD (16 + n).toNat 0 by simp [ctrlV, h1, h2])
    have E2 := hid (show ctrlE n = 0 by simp [ctrlE, h1, h2])
    have hlt := ht.1
    generalize T.getD (16 + n).toNat 0 = t at *
    go_enter Tryd.func15, Tryd.ntmps15
    go_wp2
    go_ret2
    exact ⟨by rw [E1.out, E2.out] <;> rfl, rfl⟩
  · have E1 := hid (show ctrlV n = 0 by simp only [ctrlV, if_neg h])
    have E2 := hid (show ctrlE n = 2 by simp only [ctrlE, if_neg h])
    by_cases h1 : n < 0
    · go_enter Tryd.func15, Tryd.ntmps15
      go_wp2
      go_ret2
      exact ⟨by rw [E1.out, E2.out] <;> rfl, rfl⟩
    · have h2 : 4 ≤ n := by omega
      clear h
      go_enter Tryd.func15, Tryd.ntmps15
      go_wp2
      go_ret2
      exact ⟨by rw [E1.out, E2.out] <;> rfl, rfl⟩
/-- Index: the place among the symbols, or -1. -/
def indexV (x : Int) : Int := if idx x < 20 then idx x else -1
theorem index_c (x : Int) (w : World) (h0 : 0 ≤ x) (h1 : x ≤ 255) : Calls Tryd.prog 17 #[.int .u8 x] w fun e w' => e = .returned (.int .i64 (indexV x)) ∧ Below w.heap.size w w' := by
  have hi := idx_le x
  go_enter Tryd.func17, Tryd.ntmps17
  go_wp2_with fail
  refine (symbols_c _).mono ?_
  rintro e w1 ⟨v, rfl, hown, hb⟩
  obtain ⟨g, cap, rfl, hg, hgl, hcap, hcell⟩ := own_form hown (by decide)
  have HC := hid hcell
  have HB := hid hb
  clear hcell hb hown
  rw [T_len]
  go_wp2_with fail
  go_loop [4] (fun v4 => ∃ k : Nat, k ≤ idx x ∧ v4 = .int .i64 k) (fun v4 => 20 - (intOf v4).toNat)
  case atStart => exact ⟨0, by omega, rfl⟩
  case round =>
    obtain ⟨k, hk, rfl⟩ := hrel
    by_cases hlt : k < 20
    · have c0 : w1.cell? ⟨g, k, none⟩ = some (.int .u8 (T.getD k 0)) := by
        have := HC.out k (.int .u8 (T.getD k 0)) (by simp [List.getElem?_map, List.getD_eq_getElem?_getD, List.getElem?_eq_getElem (show k < T.length from hlt)])
        exact this
      by_cases hx : k = idx x
      · have e1 : (T.getD k 0 == x) = true := by rw [hx]; simpa using idx_get x (by rw [← hx]; exact hlt)
        have hx2 : idx x < 20 := by omega
        have E := hid (show indexV x = k by unfold indexV; rw [if_pos hx2, hx])
        clear hx2
        clear hx
        generalize T.getD k 0 = t at *
        go_wp2
        go_ret
        exact ⟨by rw [E.out] <;> rfl, HB.out⟩
      · have e1 : (T.getD k 0 == x) = false := by simpa using idx_ne (x := x) hlt (by omega)
        have hkk : k + 1 ≤ idx x := by omega
        have HKK := hid hkk
        clear hx hkk
        generalize T.getD k 0 = t at *
        go_wp2
        go_round
        case rel => exact ⟨k + 1, HKK.out, by go_num⟩
        case measure => simp [intOf]; omega
    · have hk' : k = 20 := by omega
      subst hk'
      have E := hid (show indexV x = -1 by unfold indexV; rw [if_neg (show ¬ idx x < 20 by omega)])
      go_wp2
      go_ret
      exact ⟨by rw [E.out] <;> rfl, HB.out⟩
end Go.Proofs.YtkpnggnanacaaaaDoor
