/- For all numbers of nodes and parents the statement ReconfigNew returns true: New accepts exactly valid plans and trees. No condition. -/
import Derived.Test.YtibmbhnpmfgclaaRBase
import Derived.Test.YtibmbhnpmfgclaaRRefT
namespace Go.Proofs.Ytibmbhnpmfgclaa
open Go.ChangeShapes Go.WideShapes Go.ChangeAt Go.RowKit Go.Maps
set_option linter.unusedVariables false
set_option linter.unusedSimpArgs false
set_option maxHeartbeats 1000000 in
theorem outer_c (x : Int) (k g : Nat) (w : World) (hc : w.cell? ⟨g, 0, none⟩ = some (.int .i64 k)) :
    Calls Try.prog 15 #[.int .i64 x, .pointer (some ⟨g, 0, none⟩)] w fun e w' => e = .returned (.bool (!(decide (-1 ≤ x) && decide (x < k)))) ∧ w = w' := by
  by_cases h1 : x < -1
  · have HB : Kept ((!(decide (-1 ≤ x) && decide (x < k))) = true) := ⟨by rw [decide_eq_false (show ¬ -1 ≤ x by omega)]; rfl⟩
    rw [HB.out]
    go_enter Try.func15, Try.ntmps15
    go_wp2_with fail
    go_ret
    exact ⟨rfl, rfl⟩
  · by_cases h2 : (k : Int) ≤ x
    · have HB : Kept ((!(decide (-1 ≤ x) && decide (x < k))) = true) := ⟨by rw [decide_eq_false (show ¬ x < k by omega)]; simp⟩
      rw [HB.out]
      go_enter Try.func15, Try.ntmps15
      go_wp2_with fail
      go_ret
      exact ⟨rfl, rfl⟩
    · have HB : Kept ((!(decide (-1 ≤ x) && decide (x < k))) = false) := ⟨by rw [decide_eq_true (show x < k by omega), decide_eq_true (show -1 ≤ x by omega)]; rfl⟩
      rw [HB.out]
      go_enter Try.func15, Try.ntmps15
      go_wp2_with fail
      go_ret
      exact ⟨rfl, rfl⟩
theorem inrB_all {P : List Int} {n : Nat} (h : ∀ (i : Nat) (x : Int), P[i]? = some x → (!(decide (-1 ≤ x) && decide (x < (n : Int)))) = false) : inrB P n = true := by
  unfold inrB
  rw [List.all_eq_true]
  intro x hx
  obtain ⟨i, hi, rfl⟩ := List.getElem_of_mem hx
  have := h i _ (List.getElem?_eq_getElem hi)
  simpa using this
theorem inrB_one {P : List Int} {n i : Nat} {x : Int} (hx : P[i]? = some x) (h : (!(decide (-1 ≤ x) && decide (x < (n : Int)))) = true) : inrB P n = false := by
  unfold inrB
  rw [List.all_eq_false]
  exact ⟨x, List.mem_of_getElem? hx, by simp at h ⊢; omega⟩
set_option maxHeartbeats 2000000 in
theorem index_c (P : List Int) (A : Option Addr) (B cap k g : Nat) (w : World) (hr : RowsAt w B 1 icell A P) (hl : P.length ≤ 1000000) (hc : w.cell? ⟨g, 0, none⟩ = some (.int .i64 k)) :
    Calls Try.prog 40 #[.slice A P.length cap, .func (.func 15) #[] #[.pointer (some ⟨g, 0, none⟩)]] w fun e w' => (∃ j : Int, e = .returned (.int .i64 j) ∧ (inrB P k = true ∧ j < 0 ∨ inrB P k = false ∧ 0 ≤ j)) ∧ w = w' := by
  have HR := Kept.mk hr
  have HC := Kept.mk hc
  clear hr hc
  go_enter Try.func40, Try.ntmps40
  go_wp2_with fail
  go_loop [8] (fun v8 => ∃ i : Nat, i ≤ P.length ∧ v8 = .int .i64 i ∧ Kept (∀ j x, j < i → P[j]? = some x → (!(decide (-1 ≤ x) && decide (x < (k : Int)))) = false)) (fun v8 => P.length - (intOf v8).toNat)
  case atStart => exact ⟨0, Nat.zero_le _, rfl, ⟨fun j x hj => absurd hj (by omega)⟩⟩
  case round =>
    obtain ⟨i, hi, rfl, HI⟩ := hrel
    by_cases hlt : i < P.length
    · obtain ⟨x, b, off, hx, hA, hb, c0⟩ := p_at HR.out hlt
      have HX := Kept.mk hx
      rw [hA]
      clear hx hA
      obtain ⟨q, hq⟩ : ∃ q, (!(decide (-1 ≤ x) && decide (x < (k : Int)))) = q := ⟨_, rfl⟩
      have HQ := Kept.mk hq
      have HO := Kept.mk (outer_c x k g w HC.out)
      clear hq
      cases q with
      | true =>
        have HF := Kept.mk (inrB_one HX.out HQ.out)
        go_wp2_with fail
        refine HO.out.mono ?_
        rintro e w1 ⟨rfl, rfl⟩
        rw [HQ.out]
        go_wp2_with fail
        go_ret
        exact ⟨⟨_, rfl, .inr ⟨HF.out, by omega⟩⟩, rfl⟩
      | false =>
        have HI2 : Kept (∀ j x, j < i + 1 → P[j]? = some x → (!(decide (-1 ≤ x) && decide (x < (k : Int)))) = false) := ⟨fun j y hj hy => by
          by_cases e : j = i
          · subst e
            rw [HX.out] at hy
            injection hy with hy
            subst hy
            exact HQ.out
          · exact HI.out j y (by omega) hy⟩
        go_wp2_with fail
        refine HO.out.mono ?_
        rintro e w1 ⟨rfl, rfl⟩
        rw [HQ.out]
        go_wp2_with fail
        go_round
        case rel => exact ⟨i + 1, by omega, by go_num, HI2⟩
        case measure => simp [intOf]; omega
    · obtain rfl : i = P.length := by omega
      have HF : Kept (inrB P k = true) := ⟨inrB_all fun j x hx => HI.out j x (List.getElem?_eq_some_iff.1 hx).1 hx⟩
      clear hlt
      go_wp2_with fail
      go_ret
      exact ⟨⟨_, rfl, .inl ⟨HF.out, by omega⟩⟩, rfl⟩
theorem contains_c (P : List Int) (A : Option Addr) (B cap k g : Nat) (w : World) (hr : RowsAt w B 1 icell A P) (hl : P.length ≤ 1000000) (hc : w.cell? ⟨g, 0, none⟩ = some (.int .i64 k)) :
    Calls Try.prog 14 #[.slice A P.length cap, .func (.func 15) #[] #[.pointer (some ⟨g, 0, none⟩)]] w fun e w' => e = .returned (.bool (!inrB P k)) ∧ w = w' := by
  have HC := Kept.mk (index_c P A B cap k g w hr hl hc)
  clear hr hc
  cases hq : inrB P k with
  | true =>
    have HQ := Kept.mk hq
    clear hq
    go_enter Try.func14, Try.ntmps14
    go_wp2_with (go_at_call 40; refine HC.out.mono ?_; rintro e w1 ⟨⟨j, rfl, h⟩, rfl⟩; have hj : decide (0 ≤ j) = false := decide_eq_false (by rw [HQ.out] at h; rcases h with h | h; omega; cases h.1); clear h)
    go_ret
    exact ⟨rfl, rfl⟩
  | false =>
    have HQ := Kept.mk hq
    clear hq
    go_enter Try.func14, Try.ntmps14
    go_wp2_with (go_at_call 40; refine HC.out.mono ?_; rintro e w1 ⟨⟨j, rfl, h⟩, rfl⟩; have hj : decide (0 ≤ j) = true := decide_eq_true (by rw [HQ.out] at h; rcases h with h | h; cases h.1; omega); clear h)
    go_ret
    exact ⟨rfl, rfl⟩
theorem NewR.no {N : List Nd} {C : List Cb} {P : List Int} {w w' : World} {e : Ending} (h : NewR N C P w e w') (h0 : newE N C P ≠ 0) : e = .returned (.tuple #[.pointer none, .int .i64 (newE N C P)]) ∧ Below w.heap.size w w' := by
  obtain ⟨hb, ⟨_, h1⟩ | ⟨h1, _⟩⟩ := h
  · exact ⟨h1, hb⟩
  · exact absurd h1 h0
set_option maxRecDepth 100000 in
set_option maxHeartbeats 16000000 in
theorem walkReconfigNew (a0 : Int) (A1 : Option Addr) (kap1 : Nat) (l1 : List Int) (w : World) (w0 : 0 ≤ a0 ∧ a0 ≤ 255) (r1x : RowsAt w w.heap.size 1 icell A1 l1) (ok1 : ∀ x ∈ l1, I64 x) (le1 : l1.length ≤ kap1) (mx1 : kap1 ≤ maxLen) :
    Calls Try.prog 3 #[.int .u8 a0, .slice A1 l1.length kap1] w fun e w' => e = .returned (.bool true) ∧ Below w.heap.size w w' := by
  have hl0 : l1.length ≤ 9223372036854775807 := by unfold maxLen at mx1; omega
  have HR := Kept.mk r1x
  clear ok1 r1x mx1
  by_cases h20 : 20 < l1.length
  · have tok1 : True := trivial
    go_enter Try.func3, Try.ntmps3
    go_wp2_with (first | (go_at_call 10; have _t := tok1; refine (awake_c _).mono ?_; rintro e wa ⟨rfl, hba⟩; have HDA := Kept.mk hba; clear hba tok1 _t) | (go_at_call 10; refine (awake_c _).mono ?_; rintro e wb ⟨rfl, hbb⟩; have HDB := Kept.mk (join HDA.out hbb); clear hbb))
    go_ret
    exact ⟨rfl, HDB.out⟩
  · obtain ⟨k, hmod⟩ : ∃ k : Nat, a0 % 11 = k := ⟨(a0 % 11).toNat, by omega⟩
    have hk10 : k ≤ 10 := by omega
    have hl6 : l1.length ≤ 1000000 := by omega
    have HNL := Kept.mk (planN_len k)
    obtain ⟨vE, hvE⟩ : ∃ v : Int, validE (planN k) (planC k) = v := ⟨_, rfl⟩
    have HV := Kept.mk hvE
    by_cases hv0 : vE = 0
    · have HV0 : Kept (validE (planN k) (planC k) = 0) := ⟨by rw [hvE, hv0]⟩
      obtain ⟨q1, q2⟩ := z_yes' hv0
      by_cases hn : l1.length = k
      · obtain ⟨q3, q4⟩ := z_yes' (show (l1.length : Int) = (k : Int) by omega)
        have h2 : ¬ (l1.length ≠ (planN k).length) := by rw [planN_len]; omega
        have h1 : ¬ (validE (planN k) (planC k) ≠ 0) := by rw [HV0.out]; simp
        cases hi : inrB l1 k with
        | false =>
          have HI : Kept ((!inrB l1 k) = true) := ⟨by rw [hi]; rfl⟩
          have HE : Kept (newE (planN k) (planC k) l1 = 2) := ⟨by unfold newE; rw [if_neg h1, if_neg h2, if_pos (by rw [planN_len]; exact hi)]⟩
          have HZ : Kept (newE (planN k) (planC k) l1 ≠ 0) := ⟨by rw [HE.out]; decide⟩
          clear hvE hv0 hn h1 h2 hi
          go_enter Try.func3, Try.ntmps3
          go_wp2_with (first | (go_at_call 10; refine (awake_c _).mono ?_; rintro e wa ⟨rfl, hba⟩; have HDA := Kept.mk hba; have hza := hba.size; have HKA := Kept.mk (Blk.new wa 3 #[.int .i64 (k : Int)]); have HKD : Kept (Below w.heap.size w (wa.alloc (.cells #[.int .i64 (k : Int)] 3))) := ⟨hba.alloc hza _⟩; clear hba) | (go_at_call 11; refine (plan_c k _ hk10).mono ?_; rintro e wp ⟨⟨N, C, An, kn, Ac, kc⟩, rfl, hN, hC, hp, hb⟩; simp only at hN hC; subst hN hC; unfold pv; have HPP := Kept.mk (hp.new_ ((Below.refl wp.heap.size wp).alloc (Nat.le_refl _) (.cells #[.slice An (planN k).length kn, .slice Ac (planC k).length kc] 27))); have HKP := Kept.mk ((HKA.out.new_ hb).alloc (.cells #[.slice An (planN k).length kn, .slice Ac (planC k).length kc] 27)); have HBP := Kept.mk (Blk.new wp 27 #[.slice An (planN k).length kn, .slice Ac (planC k).length kc]); have HDP : Kept (Below w.heap.size w (wp.alloc (.cells #[.slice An (planN k).length kn, .slice Ac (planC k).length kc] 27))) := ⟨(join HKD.out hb).alloc (join HKD.out hb).size _⟩; have hzp := hb.size; clear hp hb) | (go_at_call 12; refine (New_ (planN k) (planC k) An Ac A1 kn kc kap1 l1 _ HPP.out (HR.out.new_ HDP.out) hl6).mono ?_; rintro e wn hnr; obtain ⟨rfl, hbn⟩ := hnr.no HZ.out; rw [HE.out]; have HKN := Kept.mk (HKP.out.new_ hbn); have HBN := Kept.mk (HBP.out.new_ hbn); have HPN := Kept.mk (HPP.out.new_ hbn); have HDN := Kept.mk (join HDP.out hbn); have HRN := Kept.mk (HR.out.new_ HDN.out); have n0 := HBN.out.cell 0 (v := .slice An (planN k).length kn) rfl; have n1 := HBN.out.cell 1 (v := .slice Ac (planC k).length kc) rfl; have n2 := HKN.out.cell 0 (v := .int .i64 k) rfl; have zn := HBN.out.lt; have zk := HKN.out.lt; clear hnr hbn) | (go_at_call 13; refine (valid_ (planN k) (planC k) An Ac kn kc _ HPN.out).mono ?_; rintro e wv ⟨rfl, hbv⟩; rw [HV.out]; have HDV := Kept.mk (join HDN.out hbv); have HRV := Kept.mk (HRN.out.new_ hbv); have HKV := Kept.mk (HKN.out.new_ hbv); have v2 := HKV.out.cell 0 (v := .int .i64 k) rfl; have zv := HKV.out.lt; clear hbv) | (go_at_call 14; refine (contains_c l1 A1 _ kap1 k _ _ HRV.out hl6 v2).mono ?_; rintro e wc ⟨rfl, rfl⟩; rw [HI.out]))
          go_ret
          exact ⟨rfl, HDV.out⟩
        | true =>
          have HI : Kept ((!inrB l1 k) = false) := ⟨by rw [hi]; rfl⟩
          have HIN : Kept (InR l1) := ⟨fun x hx => by
            unfold inrB at hi
            rw [List.all_eq_true] at hi
            have := hi x hx
            simp at this
            omega⟩
          cases hld : leadsB l1 with
          | false =>
            have HLD := Kept.mk hld
            have HE : Kept (newE (planN k) (planC k) l1 = 12) := ⟨by unfold newE; rw [if_neg h1, if_neg h2, if_neg (by rw [planN_len, hi]; decide), if_pos hld]⟩
            have HZ : Kept (newE (planN k) (planC k) l1 ≠ 0) := ⟨by rw [HE.out]; decide⟩
            clear hvE hv0 hn h1 h2 hi hld
            go_enter Try.func3, Try.ntmps3
            go_wp2_with (first | (go_at_call 10; refine (awake_c _).mono ?_; rintro e wa ⟨rfl, hba⟩; have HDA := Kept.mk hba; have hza := hba.size; have HKA := Kept.mk (Blk.new wa 3 #[.int .i64 (k : Int)]); have HKD : Kept (Below w.heap.size w (wa.alloc (.cells #[.int .i64 (k : Int)] 3))) := ⟨hba.alloc hza _⟩; clear hba) | (go_at_call 11; refine (plan_c k _ hk10).mono ?_; rintro e wp ⟨⟨N, C, An, kn, Ac, kc⟩, rfl, hN, hC, hp, hb⟩; simp only at hN hC; subst hN hC; unfold pv; have HPP := Kept.mk (hp.new_ ((Below.refl wp.heap.size wp).alloc (Nat.le_refl _) (.cells #[.slice An (planN k).length kn, .slice Ac (planC k).length kc] 27))); have HKP := Kept.mk ((HKA.out.new_ hb).alloc (.cells #[.slice An (planN k).length kn, .slice Ac (planC k).length kc] 27)); have HBP := Kept.mk (Blk.new wp 27 #[.slice An (planN k).length kn, .slice Ac (planC k).length kc]); have HDP : Kept (Below w.heap.size w (wp.alloc (.cells #[.slice An (planN k).length kn, .slice Ac (planC k).length kc] 27))) := ⟨(join HKD.out hb).alloc (join HKD.out hb).size _⟩; have hzp := hb.size; clear hp hb) | (go_at_call 12; refine (New_ (planN k) (planC k) An Ac A1 kn kc kap1 l1 _ HPP.out (HR.out.new_ HDP.out) hl6).mono ?_; rintro e wn hnr; obtain ⟨rfl, hbn⟩ := hnr.no HZ.out; rw [HE.out]; have HKN := Kept.mk (HKP.out.new_ hbn); have HBN := Kept.mk (HBP.out.new_ hbn); have HPN := Kept.mk (HPP.out.new_ hbn); have HDN := Kept.mk (join HDP.out hbn); have HRN := Kept.mk (HR.out.new_ HDN.out); have n0 := HBN.out.cell 0 (v := .slice An (planN k).length kn) rfl; have n1 := HBN.out.cell 1 (v := .slice Ac (planC k).length kc) rfl; have n2 := HKN.out.cell 0 (v := .int .i64 k) rfl; have zn := HBN.out.lt; have zk := HKN.out.lt; clear hnr hbn) | (go_at_call 13; refine (valid_ (planN k) (planC k) An Ac kn kc _ HPN.out).mono ?_; rintro e wv ⟨rfl, hbv⟩; rw [HV.out]; have HDV := Kept.mk (join HDN.out hbv); have HRV := Kept.mk (HRN.out.new_ hbv); have HKV := Kept.mk (HKN.out.new_ hbv); have v2 := HKV.out.cell 0 (v := .int .i64 k) rfl; have zv := HKV.out.lt; clear hbv) | (go_at_call 14; refine (contains_c l1 A1 _ kap1 k _ _ HRV.out hl6 v2).mono ?_; rintro e wc ⟨rfl, rfl⟩; rw [HI.out]) | (go_at_call 16; refine (refTree_c l1 A1 _ kap1 _ HRV.out HIN.out hl6).mono ?_; rintro e wc ⟨rfl, rfl⟩; rw [HLD.out]))
            go_ret
            exact ⟨rfl, HDV.out⟩
          | true =>
            have HLD := Kept.mk hld
            have HE : Kept (newE (planN k) (planC k) l1 = 0) := ⟨by unfold newE; rw [if_neg h1, if_neg h2, if_neg (by rw [planN_len, hi]; decide), if_neg (by rw [hld]; decide)]⟩
            clear hvE hv0 hn h1 h2 hi hld
            go_enter Try.func3, Try.ntmps3
            go_wp2_with (first | (go_at_call 10; refine (awake_c _).mono ?_; rintro e wa ⟨rfl, hba⟩; have HDA := Kept.mk hba; have hza := hba.size; have HKA := Kept.mk (Blk.new wa 3 #[.int .i64 (k : Int)]); have HKD : Kept (Below w.heap.size w (wa.alloc (.cells #[.int .i64 (k : Int)] 3))) := ⟨hba.alloc hza _⟩; clear hba) | (go_at_call 11; refine (plan_c k _ hk10).mono ?_; rintro e wp ⟨⟨N, C, An, kn, Ac, kc⟩, rfl, hN, hC, hp, hb⟩; simp only at hN hC; subst hN hC; unfold pv; have HPP := Kept.mk (hp.new_ ((Below.refl wp.heap.size wp).alloc (Nat.le_refl _) (.cells #[.slice An (planN k).length kn, .slice Ac (planC k).length kc] 27))); have HKP := Kept.mk ((HKA.out.new_ hb).alloc (.cells #[.slice An (planN k).length kn, .slice Ac (planC k).length kc] 27)); have HBP := Kept.mk (Blk.new wp 27 #[.slice An (planN k).length kn, .slice Ac (planC k).length kc]); have HDP : Kept (Below w.heap.size w (wp.alloc (.cells #[.slice An (planN k).length kn, .slice Ac (planC k).length kc] 27))) := ⟨(join HKD.out hb).alloc (join HKD.out hb).size _⟩; have hzp := hb.size; clear hp hb) | (go_at_call 12; refine (New_ (planN k) (planC k) An Ac A1 kn kc kap1 l1 _ HPP.out (HR.out.new_ HDP.out) hl6).mono ?_; rintro e wn hnr; obtain ⟨L, rfl, -, -, -, -, hbn⟩ := hnr.ok HE.out; have HKN := Kept.mk (HKP.out.new_ hbn); have HBN := Kept.mk (HBP.out.new_ hbn); have HPN := Kept.mk (HPP.out.new_ hbn); have HDN := Kept.mk (join HDP.out hbn); have HRN := Kept.mk (HR.out.new_ HDN.out); have n0 := HBN.out.cell 0 (v := .slice An (planN k).length kn) rfl; have n1 := HBN.out.cell 1 (v := .slice Ac (planC k).length kc) rfl; have n2 := HKN.out.cell 0 (v := .int .i64 k) rfl; have zn := HBN.out.lt; have zk := HKN.out.lt; clear hnr hbn) | (go_at_call 13; refine (valid_ (planN k) (planC k) An Ac kn kc _ HPN.out).mono ?_; rintro e wv ⟨rfl, hbv⟩; rw [HV.out]; have HDV := Kept.mk (join HDN.out hbv); have HRV := Kept.mk (HRN.out.new_ hbv); have HKV := Kept.mk (HKN.out.new_ hbv); have v2 := HKV.out.cell 0 (v := .int .i64 k) rfl; have zv := HKV.out.lt; clear hbv) | (go_at_call 14; refine (contains_c l1 A1 _ kap1 k _ _ HRV.out hl6 v2).mono ?_; rintro e wc ⟨rfl, rfl⟩; rw [HI.out]) | (go_at_call 16; refine (refTree_c l1 A1 _ kap1 _ HRV.out HIN.out hl6).mono ?_; rintro e wc ⟨rfl, rfl⟩; rw [HLD.out]))
            go_ret
            exact ⟨rfl, HDV.out⟩
      · obtain ⟨q3, q4⟩ := z_no' (show (l1.length : Int) ≠ (k : Int) by omega)
        have HE : Kept (newE (planN k) (planC k) l1 = 2) := ⟨by unfold newE; rw [if_neg (by rw [HV0.out]; simp), if_pos (by rw [planN_len]; exact hn)]⟩
        have HZ : Kept (newE (planN k) (planC k) l1 ≠ 0) := ⟨by rw [HE.out]; decide⟩
        clear hvE hv0 hn
        go_enter Try.func3, Try.ntmps3
        go_wp2_with (first | (go_at_call 10; refine (awake_c _).mono ?_; rintro e wa ⟨rfl, hba⟩; have HDA := Kept.mk hba; have hza := hba.size; have HKA := Kept.mk (Blk.new wa 3 #[.int .i64 (k : Int)]); have HKD : Kept (Below w.heap.size w (wa.alloc (.cells #[.int .i64 (k : Int)] 3))) := ⟨hba.alloc hza _⟩; clear hba) | (go_at_call 11; refine (plan_c k _ hk10).mono ?_; rintro e wp ⟨⟨N, C, An, kn, Ac, kc⟩, rfl, hN, hC, hp, hb⟩; simp only at hN hC; subst hN hC; unfold pv; have HPP := Kept.mk (hp.new_ ((Below.refl wp.heap.size wp).alloc (Nat.le_refl _) (.cells #[.slice An (planN k).length kn, .slice Ac (planC k).length kc] 27))); have HKP := Kept.mk ((HKA.out.new_ hb).alloc (.cells #[.slice An (planN k).length kn, .slice Ac (planC k).length kc] 27)); have HBP := Kept.mk (Blk.new wp 27 #[.slice An (planN k).length kn, .slice Ac (planC k).length kc]); have HDP : Kept (Below w.heap.size w (wp.alloc (.cells #[.slice An (planN k).length kn, .slice Ac (planC k).length kc] 27))) := ⟨(join HKD.out hb).alloc (join HKD.out hb).size _⟩; have hzp := hb.size; clear hp hb) | (go_at_call 12; refine (New_ (planN k) (planC k) An Ac A1 kn kc kap1 l1 _ HPP.out (HR.out.new_ HDP.out) hl6).mono ?_; rintro e wn hnr; obtain ⟨rfl, hbn⟩ := hnr.no HZ.out; rw [HE.out]; have HKN := Kept.mk (HKP.out.new_ hbn); have HBN := Kept.mk (HBP.out.new_ hbn); have HPN := Kept.mk (HPP.out.new_ hbn); have HDN := Kept.mk (join HDP.out hbn); have HRN := Kept.mk (HR.out.new_ HDN.out); have n0 := HBN.out.cell 0 (v := .slice An (planN k).length kn) rfl; have n1 := HBN.out.cell 1 (v := .slice Ac (planC k).length kc) rfl; have n2 := HKN.out.cell 0 (v := .int .i64 k) rfl; have zn := HBN.out.lt; have zk := HKN.out.lt; clear hnr hbn) | (go_at_call 13; refine (valid_ (planN k) (planC k) An Ac kn kc _ HPN.out).mono ?_; rintro e wv ⟨rfl, hbv⟩; rw [HV.out]; have HDV := Kept.mk (join HDN.out hbv); have HRV := Kept.mk (HRN.out.new_ hbv); have HKV := Kept.mk (HKN.out.new_ hbv); have v2 := HKV.out.cell 0 (v := .int .i64 k) rfl; have zv := HKV.out.lt; clear hbv))
        go_ret
        exact ⟨rfl, HDV.out⟩
    · obtain ⟨q1, q2⟩ := z_no' hv0
      have HE : Kept (newE (planN k) (planC k) l1 = 1) := ⟨by unfold newE; rw [if_pos (by rw [hvE]; exact hv0)]⟩
      have HZ : Kept (newE (planN k) (planC k) l1 ≠ 0) := ⟨by rw [HE.out]; decide⟩
      clear hvE hv0
      go_enter Try.func3, Try.ntmps3
      go_wp2_with (first | (go_at_call 10; refine (awake_c _).mono ?_; rintro e wa ⟨rfl, hba⟩; have HDA := Kept.mk hba; have hza := hba.size; have HKA := Kept.mk (Blk.new wa 3 #[.int .i64 (k : Int)]); have HKD : Kept (Below w.heap.size w (wa.alloc (.cells #[.int .i64 (k : Int)] 3))) := ⟨hba.alloc hza _⟩; clear hba) | (go_at_call 11; refine (plan_c k _ hk10).mono ?_; rintro e wp ⟨⟨N, C, An, kn, Ac, kc⟩, rfl, hN, hC, hp, hb⟩; simp only at hN hC; subst hN hC; unfold pv; have HPP := Kept.mk (hp.new_ ((Below.refl wp.heap.size wp).alloc (Nat.le_refl _) (.cells #[.slice An (planN k).length kn, .slice Ac (planC k).length kc] 27))); have HKP := Kept.mk ((HKA.out.new_ hb).alloc (.cells #[.slice An (planN k).length kn, .slice Ac (planC k).length kc] 27)); have HBP := Kept.mk (Blk.new wp 27 #[.slice An (planN k).length kn, .slice Ac (planC k).length kc]); have HDP : Kept (Below w.heap.size w (wp.alloc (.cells #[.slice An (planN k).length kn, .slice Ac (planC k).length kc] 27))) := ⟨(join HKD.out hb).alloc (join HKD.out hb).size _⟩; have hzp := hb.size; clear hp hb) | (go_at_call 12; refine (New_ (planN k) (planC k) An Ac A1 kn kc kap1 l1 _ HPP.out (HR.out.new_ HDP.out) hl6).mono ?_; rintro e wn hnr; obtain ⟨rfl, hbn⟩ := hnr.no HZ.out; rw [HE.out]; have HKN := Kept.mk (HKP.out.new_ hbn); have HBN := Kept.mk (HBP.out.new_ hbn); have HPN := Kept.mk (HPP.out.new_ hbn); have HDN := Kept.mk (join HDP.out hbn); have HRN := Kept.mk (HR.out.new_ HDN.out); have n0 := HBN.out.cell 0 (v := .slice An (planN k).length kn) rfl; have n1 := HBN.out.cell 1 (v := .slice Ac (planC k).length kc) rfl; have n2 := HKN.out.cell 0 (v := .int .i64 k) rfl; have zn := HBN.out.lt; have zk := HKN.out.lt; clear hnr hbn) | (go_at_call 13; refine (valid_ (planN k) (planC k) An Ac kn kc _ HPN.out).mono ?_; rintro e wv ⟨rfl, hbv⟩; rw [HV.out]; have HDV := Kept.mk (join HDN.out hbv); have HRV := Kept.mk (HRN.out.new_ hbv); have HKV := Kept.mk (HKN.out.new_ hbv); have v2 := HKV.out.cell 0 (v := .int .i64 k) rfl; have zv := HKV.out.lt; clear hbv))
      go_ret
      exact ⟨rfl, HDV.out⟩

set_option maxRecDepth 100000 in
theorem liftedReconfigNew (os : Os) (started : os.Started) (H : Type) (enc : TypeId × Value → H) :
    ReturnsInHanded {} Try.checked os 3 .any (Rows.reconfigNewSpec.pre6 enc Try.prog Try.f3 Rows.reconfigNewRow.domain false) (Rows.reconfigNewSpec.post enc Try.prog Try.f3 false true false false) := by
  refine returnsInHanded_of_change (C := Try.checked) own started (by kernel_rfl) Try.func3
    (ChangeSpec.witness6 (enc := enc) (C := Try.checked) false ⟨#[], #[.int .u8 0, .slice none 0 0], []⟩ 8 (by kernel_rfl) (by kernel_rfl) (by kernel_rfl) (by kernel_rfl)) ?_
  intro W base args ds gs before hval0 hW hcnd _
  have hval : ∀ (j : Nat) t v, Try.f3.params[j]? = some t → args[j]? = some v → Value.okWide Try.prog W .any base t v := hval0
  have hW' := hW
  obtain ⟨p, q, hA0, hV, rfl, hfz, hnd⟩ := hW
  have hA : DataW.TrodAll enc Try.prog W 0 (fun _ => true) true Try.f3.params.toList args.toList ds p := hA0
  rw [Try.params3] at hA hval
  obtain ⟨v0, vs0, d0, ds0, p0, q0, hargs, rfl, rfl, h0, r0⟩ := trodAll_cons hA
  obtain ⟨v1, vs1, d1, ds1, p1, q1, rfl, rfl, rfl, h1, r1⟩ := trodAll_cons r0
  obtain ⟨rfl, rfl, rfl⟩ := trodAll_nil r1
  obtain rfl : args = #[v0, v1] := by cases args; simp_all
  obtain ⟨rfl, rfl⟩ := trodVars_none hV
  have k0 := h0
  have lt0 : ∀ x ∈ p0, x.block < W.heap.size := by obtain ⟨m, hm⟩ := k0; exact DataW.trod_lt m _ _ _ hm
  have k1 := h1
  have lt1 : ∀ x ∈ p1, x.block < W.heap.size := by obtain ⟨m, hm⟩ := k1; exact DataW.trod_lt m _ _ _ hm
  obtain ⟨a0, rfl, -, -, ww0⟩ := open_int Try.underlying5 (hval 0 5 v0 rfl rfl) h0
  have w0 := bounds_u8 ww0
  obtain ⟨A1, kap1, l1, rfl, r1x, ok1, le1, mx1⟩ := open_ints_ (hval 1 22 v1 rfl rfl) h1
  clear hA0 hval0
  refine (walkReconfigNew a0 A1 kap1 l1 W w0 r1x ok1 le1 mx1).mono fun e W' ⟨he, bel⟩ => ?_
  subst he
  exact ⟨_, rfl, _, _, _, [], _, [], hW', trodAll_mk1 (shut_bool Try.underlying4 _), (trodAll_cons_mk (Below.trod laidOut (by kernel_rfl) (of_decide_eq_true (by kernel_rfl)) k0 bel lt0) (trodAll_cons_mk (Below.trod laidOut (by kernel_rfl) (of_decide_eq_true (by kernel_rfl)) k1 bel lt1) trodAll_mk0)), rfl, bel.frame _, fun h => by cases h⟩
/-- The given statement. -/
theorem reconfigNew_holds : Rows.ReconfigNewSaid :=
  OpenClaim.holds_of_wide 3 Try.f3 rfl rfl rfl rfl rfl rfl rfl ⟨rfl, rfl, rfl, rfl, rfl⟩ rfl rfl rfl rfl rfl (by kernel_rfl) Try.func3 (by kernel_rfl)
    (of_decide_eq_true (by kernel_rfl)) (by unfold Func.isWrapper; first | (rw [if_pos (by decide +kernel)]; kernel_rfl) | (rw [if_neg (by decide +kernel)]; exact ⟨rfl, rfl⟩))
    (fun os started H enc _ => liftedReconfigNew os started H enc)
#print axioms reconfigNew_holds
end Go.Proofs.Ytibmbhnpmfgclaa
