/- The program's Tree. -/
import Derived.Test.YtckigonkcjceeaaETreeW
namespace Go.Proofs.Ytckigonkcjceeaa
set_option linter.unusedVariables false
set_option linter.unusedSimpArgs false
open Go.RowKit
theorem neighbor_yes (N : List Nd) (C : List Cb) (An Ac : Option Addr) (kn kc : Nat) (i p q : Int) (w : World) (h : PlanAt w w.heap.size ⟨N, C, An, kn, Ac, kc⟩) (hv : validE N C = 0) (hq : nbrP C i p = q) (hne : q ≠ -2) :
    Calls Try.prog 45 #[.agg #[.slice An N.length kn, .slice Ac C.length kc], .int .i64 i, .int .i64 p] w fun e w' => ∃ (a c : Int), e = .returned (.tuple #[.int .i64 q, .int .i64 a, .int .i64 c, .bool true]) ∧ Below w.heap.size w w' := by
  refine (neighbor_ N C An Ac kn kc i p w h hv).mono ?_
  rintro e w' ⟨t, a, c, ok, rfl, ⟨rfl, rfl, h2⟩ | ⟨rfl, h2⟩, hb⟩
  · exact ⟨a, c, by rw [hq], hb⟩
  · omega
theorem neighbor_no (N : List Nd) (C : List Cb) (An Ac : Option Addr) (kn kc : Nat) (i p : Int) (w : World) (h : PlanAt w w.heap.size ⟨N, C, An, kn, Ac, kc⟩) (hv : validE N C = 0) (hq : nbrP C i p = -2) :
    Calls Try.prog 45 #[.agg #[.slice An N.length kn, .slice Ac C.length kc], .int .i64 i, .int .i64 p] w fun e w' => ∃ (t a c : Int), e = .returned (.tuple #[.int .i64 t, .int .i64 a, .int .i64 c, .bool false]) ∧ Below w.heap.size w w' := by
  refine (neighbor_ N C An Ac kn kc i p w h hv).mono ?_
  rintro e w' ⟨t, a, c, ok, rfl, ⟨rfl, rfl, h2⟩ | ⟨rfl, h2⟩, hb⟩
  · omega
  · exact ⟨t, a, c, rfl, hb⟩
def TreeBad (w : World) (e : Ending) (w' : World) : Prop := e = .returned (.tuple #[.slice none 0 0, .int .i64 1]) ∧ Below w.heap.size w w'
set_option maxRecDepth 100000 in
set_option maxHeartbeats 4000000 in
theorem Tree_bad (N : List Nd) (C : List Cb) (An Ac Av : Option Addr) (kn kc kv : Nat) (V : List Vt) (w : World) (hp : PlanAt w w.heap.size ⟨N, C, An, kn, Ac, kc⟩) (hn : V.length ≤ 1000000) (hf : validE N C ≠ 0 ∨ V.length ≠ N.length) :
    Calls Try.prog 30 #[.agg #[.slice An N.length kn, .slice Ac C.length kc], .slice Av V.length kv] w (TreeBad w) := by
  have HP := Kept.mk hp
  obtain ⟨L1, L2⟩ := hp.len
  simp only at L1 L2
  have HB := Kept.mk (Blk.new w 32 #[.slice An N.length kn, .slice Ac C.length kc])
  have HG : Kept (Below w.heap.size w (w.alloc (.cells #[.slice An N.length kn, .slice Ac C.length kc] 32))) := ⟨(Below.refl _ _).alloc (Nat.le_refl _) _⟩
  clear hp
  by_cases hv : validE N C = 0
  · have hl : ((V.length : Int) != (N.length : Int)) = true := by
      rcases hf with h | h
      · exact absurd hv h
      · simp; omega
    have HV := Kept.mk hv
    clear hv hf
    go_enter Try.func30, Try.ntmps30
    go_wp2_with (go_at_call 15; refine (valid_ N C An Ac kn kc _ (HP.out.new_ HG.out)).mono ?_; rintro e w1 ⟨rfl, hb1⟩; rw [HV.out]; have HB1 := Kept.mk (HB.out.new_ hb1); have HD1 := Kept.mk (join HG.out hb1); clear hb1; have k0 := HB1.out.cell 0 (v := .slice An N.length kn) rfl; have z1 := HB1.out.lt)
    go_ret2
    exact ⟨rfl, HD1.out⟩
  · obtain ⟨f, hfe⟩ : ∃ f, validE N C = f := ⟨_, rfl⟩
    have q1 : (f != 0) = true := by rw [← hfe]; simpa using hv
    have HV := Kept.mk hfe
    clear hv hf hfe
    go_enter Try.func30, Try.ntmps30
    go_wp2_with (go_at_call 15; refine (valid_ N C An Ac kn kc _ (HP.out.new_ HG.out)).mono ?_; rintro e w1 ⟨rfl, hb1⟩; rw [HV.out]; have HB1 := Kept.mk (HB.out.new_ hb1); have HD1 := Kept.mk (join HG.out hb1); clear hb1; have k0 := HB1.out.cell 0 (v := .slice An N.length kn) rfl; have z1 := HB1.out.lt)
    go_ret2
    exact ⟨rfl, HD1.out⟩
def FilledI (w : World) (g : Nat) (n k : Nat) (R : List Int) : Prop := ∃ L : List Int, L.length = n ∧ L.take k = R.take k ∧ RowBlk w g 3 icell L
set_option maxRecDepth 100000 in
set_option maxHeartbeats 8000000 in
theorem Tree_ok (N : List Nd) (C : List Cb) (An Ac Av : Option Addr) (kn kc kv : Nat) (V : List Vt) (w : World) (hp : PlanAt w w.heap.size ⟨N, C, An, kn, Ac, kc⟩) (hr : RowsAt w w.heap.size 3 vcell Av V) (hv : validE N C = 0) (hn : V.length = N.length) :
    Calls Try.prog 30 #[.agg #[.slice An N.length kn, .slice Ac C.length kc], .slice Av V.length kv] w (TreeR w C V) := by
  have HP := Kept.mk hp
  have HR := Kept.mk hr
  have HV := Kept.mk hv
  have HC : Kept (∀ c ∈ C, CabOk V.length c) := ⟨by rw [hn]; exact valid_cab hv⟩
  have hn16 := (valid_spec hv).1
  have q0 : ((V.length : Int) != (N.length : Int)) = false := by simp; omega
  have hV16 : V.length ≤ 16 := by omega
  have HB := Kept.mk (Blk.new w 32 #[.slice An N.length kn, .slice Ac C.length kc])
  have HG : Kept (Below w.heap.size w (w.alloc (.cells #[.slice An N.length kn, .slice Ac C.length kc] 32))) := ⟨(Below.refl _ _).alloc (Nat.le_refl _) _⟩
  have HVN := Kept.mk hn
  clear hp hr hv hn
  have hmk := fun w => run_make_flat (P := Try.prog) icell_len (by omega) (0 : Int) 61 3 _ 8 Try.underlying61 infoI rfl V.length (by omega) (by omega) w
  go_enter Try.func30, Try.ntmps30
  go_wp2_with (go_at_call 15; refine (valid_ N C An Ac kn kc _ (HP.out.new_ HG.out)).mono ?_; rintro e w1 ⟨rfl, hb1⟩; rw [HV.out]; have HB1 := Kept.mk (HB.out.new_ hb1); have HD1 := Kept.mk (join HG.out hb1); clear hb1; have k0 := HB1.out.cell 0 (v := .slice An N.length kn) rfl; have z1 := HB1.out.lt)
  have HL0 : Kept (RowBlk (w1.alloc (.cells ((List.replicate V.length (0 : Int)).flatMap icell).toArray 3)) w1.heap.size 3 icell (List.replicate V.length (0 : Int))) := ⟨Blk.new w1 3 _⟩
  have HB2 := Kept.mk (HB1.out.alloc (.cells ((List.replicate V.length (0 : Int)).flatMap icell).toArray 3))
  have HD2 : Kept (Below w.heap.size w (w1.alloc (.cells ((List.replicate V.length (0 : Int)).flatMap icell).toArray 3))) := ⟨HD1.out.alloc HD1.out.size _⟩
  clear k0 hmk HB HB1 HG HD1
  generalize w1.heap.size = g at *
  go_loopw [31] (fun v wr => ∃ k : Nat, k ≤ V.length ∧ v = .int .i64 k ∧ Kept (FilledI wr g V.length k (treeP C V)) ∧ Kept (¬ (-2) ∈ (treeP C V).take k) ∧ Kept (Blk wr w.heap.size 32 #[.slice An N.length kn, .slice Ac C.length kc]) ∧ Kept (Below w.heap.size w wr)) (fun v _ => V.length - (intOf v).toNat)
  case atStart => exact ⟨0, Nat.zero_le _, rfl, ⟨List.replicate V.length 0, by simp, by simp, HL0.out⟩, ⟨by simp⟩, HB2, HD2⟩
  case round =>
    clear HL0 HB2 HD2
    obtain ⟨k, hk, rfl, HF, HNO, HB, HD⟩ := hrel
    have z2 := HB.out.lt
    have z3 := HD.out.size
    have k0 := HB.out.cell 0 (v := .slice An N.length kn) rfl
    have k1 := HB.out.cell 1 (v := .slice Ac C.length kc) rfl
    by_cases hlt : k < V.length
    · obtain ⟨L, hL1, hL2, hL3⟩ := HF.out
      have HLL := Kept.mk hL1
      have HLT := Kept.mk hL2
      have HL := Kept.mk hL3
      clear hL1 hL2 hL3 HF
      obtain ⟨x, b, off, hx, rfl, -, hb, hc⟩ := (HR.out.new_ HD.out).at_ hlt
      have c0 := hc 0 (.int .i64 x.root) rfl
      have c1 := hc 1 (.int .i64 x.dist) rfl
      have c2 := hc 2 (.int .i64 x.port) rfl
      simp only [Nat.add_zero] at c0
      have HX := Kept.mk hx
      have HTG := Kept.mk (treeP_get (C := C) hlt)
      rw [vote_get hx] at HTG
      obtain ⟨y, hy⟩ := get_some (l := L) (k := k) (by rw [HLL.out]; exact hlt)
      have g0 : wr.cell? ⟨g, k, none⟩ = some (.int .i64 y) := by have := HL.out.cell icell_len hy (j := 0) rfl; simpa using this
      have f0 := HL.out.free k
      have hg := HL.out.lt
      have HW : Kept (RowBlk ((wr.setCell ⟨g, k, none⟩ (.int .i64 (-1))).alloc (.cells #[.int .i64 x.root, .int .i64 x.dist, .int .i64 x.port] 23)) g 3 icell (L.set k (-1))) := ⟨(HL.out.set1 icell_len (by rw [HLL.out]; exact hlt) rfl).alloc _⟩
      have HBW : Kept (Blk ((wr.setCell ⟨g, k, none⟩ (.int .i64 (-1))).alloc (.cells #[.int .i64 x.root, .int .i64 x.dist, .int .i64 x.port] 23)) w.heap.size 32 #[.slice An N.length kn, .slice Ac C.length kc]) := ⟨(HB.out.far (by simp <;> omega) _).alloc _⟩
      have HDW : Kept (Below w.heap.size w ((wr.setCell ⟨g, k, none⟩ (.int .i64 (-1))).alloc (.cells #[.int .i64 x.root, .int .i64 x.dist, .int .i64 x.port] 23))) := ⟨(HD.out.setCell (by simp <;> omega) _).alloc (by simp <;> omega) _⟩
      have hset : ∀ t : Int, ((L.set k t).take k = L.take k) := fun t => by rw [List.take_set_of_le (Nat.le_refl k)]
      have HNX : ∀ t : Int, (treeP C V)[k]? = some t → (L.set k t).take (k + 1) = (treeP C V).take (k + 1) := fun t ht => by
        rw [take_next (List.getElem?_set_self (by rw [HLL.out]; exact hlt)), take_next ht, hset, HLT.out]
      have HNX' := Kept.mk HNX
      clear hx hc hy hset HNX
      by_cases hp : x.port = -1
      · have q1 : (x.port != -1) = false := by simp [hp]
        have HPN : Kept (parP C (k : Int) x.port = -1) := ⟨by unfold parP; rw [if_pos hp]⟩
        rw [HPN.out] at HTG
        have HN2 := Kept.mk (no_next HNO.out HTG.out (by omega))
        clear hp
        go_wp2_with fail
        go_roundw
        case rel => exact ⟨k + 1, by omega, by go_num, ⟨L.set k (-1), by rw [List.length_set]; exact HLL.out, HNX'.out _ HTG.out, HW.out⟩, HN2, HBW, HDW⟩
        case measure => simp [intOf]; omega
      · have q1 : (x.port != -1) = true := by simp [hp]
        have HPN : Kept (parP C (k : Int) x.port = nbrP C (k : Int) x.port) := ⟨by unfold parP; rw [if_neg hp]⟩
        rw [HPN.out] at HTG
        clear hp
        obtain ⟨q, hq⟩ : ∃ q, nbrP C (k : Int) x.port = q := ⟨_, rfl⟩
        have HQ := Kept.mk hq
        rw [hq] at HTG HPN
        clear hq
        by_cases hne : q = -2
        · have HE : Kept (treeE C V = 2) := ⟨treeE_range hlt (by rw [vote_get HX.out, HPN.out]; exact hne)⟩
          have HQ2 : Kept (nbrP C (k : Int) x.port = -2) := ⟨HQ.out.trans hne⟩
          clear hne
          go_wp2_with (go_at_call 45; refine (neighbor_no N C An Ac kn kc (k : Int) x.port _ (HP.out.new_ HDW.out) HV.out HQ2.out).mono ?_; rintro e w5 ⟨t, t2, t3, rfl, hb5⟩; have HB5 := Kept.mk (HBW.out.new_ hb5); have HD5 := Kept.mk (join HDW.out hb5); have HW5 := Kept.mk (HW.out.new_ hb5); clear hb5 k0 k1 c0 c1 c2 f0 g0; have f0 := HW5.out.free k; have hg5 := HW5.out.lt; have z5 := HB5.out.lt; have g0 : w5.cell? ⟨g, k, none⟩ = some (.int .i64 (-1)) := (by have h2 := HW5.out.cell icell_len (k := k) (x := -1) (List.getElem?_set_self (by rw [HLL.out]; exact hlt)) (j := 0) rfl; simpa using h2))
          go_ret2
          exact treeR_bad HE.out (by omega) HD5.out
        · have HN2 := Kept.mk (no_next HNO.out HTG.out hne)
          have HNE := Kept.mk hne
          clear hne
          go_wp2_with (go_at_call 45; refine (neighbor_yes N C An Ac kn kc (k : Int) x.port q _ (HP.out.new_ HDW.out) HV.out HQ.out HNE.out).mono ?_; rintro e w5 ⟨t2, t3, rfl, hb5⟩; have HB5 := Kept.mk (HBW.out.new_ hb5); have HD5 := Kept.mk (join HDW.out hb5); have HW5 := Kept.mk (HW.out.new_ hb5); clear hb5 k0 k1 c0 c1 c2 f0 g0; have f0 := HW5.out.free k; have hg5 := HW5.out.lt; have z5 := HB5.out.lt; have g0 : w5.cell? ⟨g, k, none⟩ = some (.int .i64 (-1)) := (by have h2 := HW5.out.cell icell_len (k := k) (x := -1) (List.getElem?_set_self (by rw [HLL.out]; exact hlt)) (j := 0) rfl; simpa using h2))
          go_roundw
          case rel => exact ⟨k + 1, by omega, by go_num, ⟨L.set k q, by rw [List.length_set]; exact HLL.out, HNX'.out _ HTG.out, by have h2 := HW5.out.set1 icell_len (k := k) (by rw [List.length_set, HLL.out]; exact hlt) (x := q) rfl; rwa [List.set_set] at h2⟩, HN2, ⟨HB5.out.far (by simp <;> omega) _⟩, ⟨HD5.out.setCell (by simp <;> omega) _⟩⟩
          case measure => simp [intOf]; omega
    · obtain rfl : k = V.length := by omega
      obtain ⟨L, hL1, hL2, hL3⟩ := HF.out
      have hLT : L = treeP C V := by rwa [← hL1, List.take_length, List.take_of_length_le (by rw [treeP_len]; omega)] at hL2
      subst hLT
      have HT : Kept (RowsAt wr wr.heap.size 1 icell (some ⟨g, 0, none⟩) (treeP C V)) := ⟨hL3.rows icell_len (by omega) hL3.lt⟩
      have HN0 : Kept (¬ (-2) ∈ treeP C V) := ⟨by have h1 := HNO.out; rwa [List.take_of_length_le (by rw [treeP_len]; omega)] at h1⟩
      have HTB := Kept.mk (treeP_bd (V := V) HC.out)
      have HTL := Kept.mk (treeP_len C V)
      have HGT : Kept (∀ i : Nat, i < V.length → ∀ m : Nat, ∀ y, (treeP C V)[m]? = some y → goP (treeP C V) (m : Int) = y) := ⟨fun i hi m y hy => by unfold goP; rw [if_pos (by omega), Int.toNat_natCast, List.getD_eq_getElem?_getD, hy]; rfl⟩
      clear hlt HNO HB HF k0 k1 hL1 hL2 hL3
      obtain ⟨wo, rfl⟩ : ∃ wo : World, wo = wr := ⟨_, rfl⟩
      go_wp2_with fail
      go_loopw [61] (fun v9 wr => ∃ i : Nat, i ≤ V.length ∧ v9 = .int .i64 i ∧ Kept (cycB (treeP C V) i = false) ∧ Kept (Below wo.heap.size wo wr)) (fun v _ => V.length - (intOf v).toNat)
      case atStart => exact ⟨0, Nat.zero_le _, rfl, ⟨cyc_zero _⟩, ⟨Below.refl _ _⟩⟩
      case round =>
        obtain ⟨i, hi, rfl, HCY, HD2⟩ := hrel
        by_cases hlt : i < V.length
        · obtain ⟨wp, rfl⟩ : ∃ wp : World, wp = wr := ⟨_, rfl⟩
          go_wp2_with fail
          go_loopw [14, 67] (fun v10 v11 wr => ∃ j : Nat, j ≤ V.length ∧ v10 = .int .i64 (goN (treeP C V) i j) ∧ v11 = .int .i64 j ∧ Kept (Below wp.heap.size wp wr)) (fun _ v _ => V.length - (intOf v).toNat)
          case atStart => exact ⟨0, Nat.zero_le _, rfl, rfl, ⟨Below.refl _ _⟩⟩
          case round =>
            obtain ⟨j, hj, rfl, rfl, HD3⟩ := hrel
            have hgb := goN_bd HTB.out HTL.out (i := (i : Int)) (by omega) j
            by_cases hjl : j < V.length
            · by_cases hg : 0 ≤ goN (treeP C V) i j
              · obtain ⟨m, hm⟩ : ∃ m : Nat, goN (treeP C V) i j = m := ⟨(goN (treeP C V) i j).toNat, by omega⟩
                rw [hm] at hgb hg ⊢
                obtain ⟨y, b, off, hy, e, -, hb, hc1⟩ := (HT.out.new_ (join HD2.out HD3.out)).at_ (k := m) (by rw [HTL.out]; omega)
                injection e with e
                injection e with e1 e2
                subst e1
                subst e2
                have c1 := hc1 0 (.int .i64 y) rfl
                simp only [Nat.add_zero, Nat.zero_add, Nat.mul_one] at c1
                have HGN : Kept (goN (treeP C V) i (j + 1) = y) := ⟨by show goP _ _ = _; rw [hm]; exact HGT.out i hlt m y hy⟩
                have d1 := decide_eq_true hg
                clear hc1 hy hm
                go_wp2_with fail
                go_roundw
                case rel => exact ⟨j + 1, by omega, by rw [HGN.out], by go_num, HD3⟩
                case measure => simp [intOf]; omega
              · have d1 := decide_eq_false hg
                have HGN : Kept (goN (treeP C V) i (j + 1) = goN (treeP C V) i j) := ⟨goP_neg (by omega)⟩
                clear hg
                go_wp2_with fail
                go_roundw
                case rel => exact ⟨j + 1, by omega, by rw [HGN.out], by go_num, HD3⟩
                case measure => simp [intOf]; omega
            · obtain rfl : j = V.length := by omega
              clear hjl
              by_cases hg : 0 ≤ goN (treeP C V) i V.length
              · have d1 := decide_eq_true hg
                have HE : Kept (treeE C V = 11) := ⟨treeE_cyc HN0.out hlt (by rw [HTL.out]; exact hg)⟩
                clear hg
                go_wp2_with fail
                go_ret2
                exact treeR_bad HE.out (by omega) (join HD.out (join HD2.out HD3.out))
              · have d1 := decide_eq_false hg
                have HCN : Kept (cycB (treeP C V) (i + 1) = false) := ⟨cyc_next HCY.out (by rw [HTL.out]; omega)⟩
                clear hg
                go_wp2_with fail
                go_roundw
                case rel => exact ⟨i + 1, by omega, by go_num, HCN, ⟨join HD2.out HD3.out⟩⟩
                case measure => simp [intOf]; omega
        · obtain rfl : i = V.length := by omega
          clear hlt
          have HE := Kept.mk (treeE_zero HN0.out HCY.out)
          go_wp2_with fail
          go_ret2
          exact treeR_ok HE.out rfl (HT.out.new_ HD2.out) (join HD.out HD2.out)
end Go.Proofs.Ytckigonkcjceeaa
