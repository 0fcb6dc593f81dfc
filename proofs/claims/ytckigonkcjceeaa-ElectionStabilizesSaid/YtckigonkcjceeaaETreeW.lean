/- The walks of graph.Neighbor, Tree, the reference's Parent and Tree, slices.Equal on ints. -/
import Derived.Test.YtckigonkcjceeaaETree
namespace Go.Proofs.Ytckigonkcjceeaa
set_option linter.unusedVariables false
set_option linter.unusedSimpArgs false
open Go.RowKit
def icell (x : Int) : List Value := [.int .i64 x]
theorem icell_len (x : Int) : (icell x).length = 1 := rfl
theorem nbrP_end {C : List Cb} {i p : Int} (h : nbrP C i p = nbrP (C.drop C.length) i p) : nbrP C i p = -2 := by rw [h, List.drop_length]; rfl
set_option maxRecDepth 100000 in
set_option maxHeartbeats 4000000 in
theorem neighbor_ (N : List Nd) (C : List Cb) (An Ac : Option Addr) (kn kc : Nat) (i p : Int) (w : World) (h : PlanAt w w.heap.size ⟨N, C, An, kn, Ac, kc⟩) (hv : validE N C = 0) :
    Calls Try.prog 45 #[.agg #[.slice An N.length kn, .slice Ac C.length kc], .int .i64 i, .int .i64 p] w fun e w' => ∃ (t q c : Int) (ok : Bool), e = .returned (.tuple #[.int .i64 t, .int .i64 q, .int .i64 c, .bool ok]) ∧ (ok = true ∧ t = nbrP C i p ∧ nbrP C i p ≠ -2 ∨ ok = false ∧ nbrP C i p = -2) ∧ Below w.heap.size w w' := by
  have HP := Kept.mk h
  obtain ⟨L1, L2⟩ := h.len
  simp only at L1 L2
  have HV0 := Kept.mk hv
  have HCB := Kept.mk (valid_cab hv)
  have lc := (valid_spec hv).2.1
  clear h hv
  have HB := Kept.mk (Blk.new w 32 #[.slice An N.length kn, .slice Ac C.length kc])
  have HG : Kept (Below w.heap.size w (w.alloc (.cells #[.slice An N.length kn, .slice Ac C.length kc] 32))) := ⟨(Below.refl _ _).alloc (Nat.le_refl _) _⟩
  go_enter Try.func45, Try.ntmps45
  go_wp2_with (go_at_call 15; refine (valid_ N C An Ac kn kc _ (HP.out.new_ HG.out)).mono ?_; rintro e w1 ⟨rfl, hb1⟩; rw [HV0.out]; have HB1 := Kept.mk (HB.out.new_ hb1); have HD1 := Kept.mk (join HG.out hb1); clear hb1; have k1 := HB1.out.cell 1 (v := .slice Ac C.length kc) rfl; have z1 := HB1.out.lt)
  go_loopw [18] (fun v wr => ∃ k : Nat, k ≤ C.length ∧ v = .int .i64 k ∧ Kept (nbrP C i p = nbrP (C.drop k) i p) ∧ Kept (Blk wr w.heap.size 32 #[.slice An N.length kn, .slice Ac C.length kc]) ∧ Kept (Below w.heap.size w wr)) (fun v _ => C.length - (intOf v).toNat)
  case atStart => exact ⟨0, Nat.zero_le _, rfl, ⟨rfl⟩, HB1, HD1⟩
  case round =>
    clear k1 z1 HB1 HD1
    obtain ⟨k, hk, rfl, HI, HB, HD⟩ := hrel
    have z1 := HB.out.lt
    have z2 := HD.out.size
    by_cases hlt : k < C.length
    · obtain ⟨x, b, off, hx, rfl, -, hb, ⟨c0, c1, c2, c3, c4, c5⟩, -⟩ := (HP.out.new_ HD.out).cab hlt
      have HIT := Kept.mk (nbrP_hit hx HI.out)
      have HX := Kept.mk (HCB.out x (List.mem_of_getElem? hx))
      clear hx
      by_cases ha : x.a = i
      · have q1 : (x.a == i) = true := beq_iff_eq.2 ha
        by_cases hp1 : x.ap = p
        · have q2 : (x.ap == p) = true := beq_iff_eq.2 hp1
          have HV := Kept.mk (HIT.out.1 ⟨ha, hp1⟩)
          clear ha hp1
          go_wp2_with fail
          go_quiet (fail)
          go_wp2_with fail
          refine bodyPost_ret (v := .tuple #[.int .i64 x.b, .int .i64 x.bp, .int .i64 k, .bool true]) (by simp [results, Try.results45, go_sem]) rfl ⟨x.b, x.bp, k, true, rfl, .inl ⟨rfl, HV.out.symm, by rw [HV.out]; have := HX.out.b; omega⟩, dN (HD.out.alloc z2 _) _⟩
        · have q2 : (x.ap == p) = false := beq_false_of_ne hp1
          have hn : ¬ (x.a = i ∧ x.ap = p) := fun h => hp1 h.2
          by_cases hb : x.b = i
          · have q3 : (x.b == i) = true := beq_iff_eq.2 hb
            by_cases hp2 : x.bp = p
            · have q4 : (x.bp == p) = true := beq_iff_eq.2 hp2
              have HV := Kept.mk (HIT.out.2.1 hn ⟨hb, hp2⟩)
              clear ha hp1 hn hb hp2
              go_wp2_with fail
              go_quiet (fail)
              go_wp2_with fail
              refine bodyPost_ret (v := .tuple #[.int .i64 x.a, .int .i64 x.ap, .int .i64 k, .bool true]) (by simp [results, Try.results45, go_sem]) rfl ⟨x.a, x.ap, k, true, rfl, .inl ⟨rfl, HV.out.symm, by rw [HV.out]; have := HX.out.a; omega⟩, dN (HD.out.alloc z2 _) _⟩
            · have q4 : (x.bp == p) = false := beq_false_of_ne hp2
              have HV := Kept.mk (HIT.out.2.2 hn (fun h => hp2 h.2))
              clear ha hp1 hn hb hp2
              go_wp2_with fail
              go_roundw
              case rel => exact ⟨k + 1, by omega, by go_num, HV, ⟨HB.out.alloc _⟩, ⟨HD.out.alloc z2 _⟩⟩
              case measure => simp [intOf]; omega
          · have q3 : (x.b == i) = false := beq_false_of_ne hb
            have HV := Kept.mk (HIT.out.2.2 hn (fun h => hb h.1))
            clear ha hp1 hn hb
            go_wp2_with fail
            go_roundw
            case rel => exact ⟨k + 1, by omega, by go_num, HV, ⟨HB.out.alloc _⟩, ⟨HD.out.alloc z2 _⟩⟩
            case measure => simp [intOf]; omega
      · have q1 : (x.a == i) = false := beq_false_of_ne ha
        have hn : ¬ (x.a = i ∧ x.ap = p) := fun h => ha h.1
        by_cases hb : x.b = i
        · have q3 : (x.b == i) = true := beq_iff_eq.2 hb
          by_cases hp2 : x.bp = p
          · have q4 : (x.bp == p) = true := beq_iff_eq.2 hp2
            have HV := Kept.mk (HIT.out.2.1 hn ⟨hb, hp2⟩)
            clear ha hn hb hp2
            go_wp2_with fail
            go_quiet (fail)
            go_wp2_with fail
            refine bodyPost_ret (v := .tuple #[.int .i64 x.a, .int .i64 x.ap, .int .i64 k, .bool true]) (by simp [results, Try.results45, go_sem]) rfl ⟨x.a, x.ap, k, true, rfl, .inl ⟨rfl, HV.out.symm, by rw [HV.out]; have := HX.out.a; omega⟩, dN (HD.out.alloc z2 _) _⟩
          · have q4 : (x.bp == p) = false := beq_false_of_ne hp2
            have HV := Kept.mk (HIT.out.2.2 hn (fun h => hp2 h.2))
            clear ha hn hb hp2
            go_wp2_with fail
            go_roundw
            case rel => exact ⟨k + 1, by omega, by go_num, HV, ⟨HB.out.alloc _⟩, ⟨HD.out.alloc z2 _⟩⟩
            case measure => simp [intOf]; omega
        · have q3 : (x.b == i) = false := beq_false_of_ne hb
          have HV := Kept.mk (HIT.out.2.2 hn (fun h => hb h.1))
          clear ha hn hb
          go_wp2_with fail
          go_roundw
          case rel => exact ⟨k + 1, by omega, by go_num, HV, ⟨HB.out.alloc _⟩, ⟨HD.out.alloc z2 _⟩⟩
          case measure => simp [intOf]; omega
    · obtain rfl : k = C.length := by omega
      have HV := Kept.mk (nbrP_end HI.out)
      clear hlt
      go_wp2_with fail
      refine bodyPost_ret (v := .tuple #[.int .i64 (-1), .int .i64 (-1), .int .i64 (-1), .bool false]) (by simp [results, Try.results45, go_sem]) rfl ⟨-1, -1, -1, false, rfl, .inr ⟨rfl, HV.out⟩, HD.out⟩
set_option maxRecDepth 100000 in
set_option maxHeartbeats 4000000 in
theorem parent_ (N : List Nd) (C : List Cb) (An Ac : Option Addr) (kn kc : Nat) (i p : Int) (w : World) (h : PlanAt w w.heap.size ⟨N, C, An, kn, Ac, kc⟩) (hc : C.length ≤ 1000) :
    Calls Try.prog 46 #[.agg #[.slice An N.length kn, .slice Ac C.length kc], .int .i64 i, .int .i64 p] w fun e w' => e = .returned (.int .i64 (parP C i p)) ∧ Below w.heap.size w w' := by
  have HP := Kept.mk h
  obtain ⟨L1, L2⟩ := h.len
  simp only at L1 L2
  clear h
  have HB := Kept.mk (Blk.new w 32 #[.slice An N.length kn, .slice Ac C.length kc])
  have HG : Kept (Below w.heap.size w (w.alloc (.cells #[.slice An N.length kn, .slice Ac C.length kc] 32))) := ⟨(Below.refl _ _).alloc (Nat.le_refl _) _⟩
  by_cases hm : p = -1
  · have q0 : (p == -1) = true := beq_iff_eq.2 hm
    have HPN : Kept (parP C i p = -1) := ⟨by unfold parP; rw [if_pos hm]⟩
    clear hm
    go_enter Try.func46, Try.ntmps46
    go_wp2_with fail
    go_ret
    exact ⟨by rw [HPN.out]; rfl, HG.out⟩
  have q0 : (p == -1) = false := beq_false_of_ne hm
  have HPN : Kept (parP C i p = nbrP C i p) := ⟨by unfold parP; rw [if_neg hm]⟩
  clear hm
  go_enter Try.func46, Try.ntmps46
  go_wp2_with fail
  go_loopw [7] (fun v wr => ∃ k : Nat, k ≤ C.length ∧ v = .int .i64 k ∧ Kept (nbrP C i p = nbrP (C.drop k) i p) ∧ Kept (Blk wr w.heap.size 32 #[.slice An N.length kn, .slice Ac C.length kc]) ∧ Kept (Below w.heap.size w wr)) (fun v _ => C.length - (intOf v).toNat)
  case atStart => exact ⟨0, Nat.zero_le _, rfl, ⟨rfl⟩, HB, HG⟩
  case round =>
    clear HB
    obtain ⟨k, hk, rfl, HI, HB, HD⟩ := hrel
    have z1 := HB.out.lt
    have z2 := HD.out.size
    have k1 := HB.out.cell 1 (v := .slice Ac C.length kc) rfl
    by_cases hlt : k < C.length
    · obtain ⟨x, b, off, hx, rfl, -, hb, ⟨c0, c1, c2, c3, c4, c5⟩, -⟩ := (HP.out.new_ HD.out).cab hlt
      have HIT := Kept.mk (nbrP_hit hx HI.out)
      clear hx
      by_cases ha : x.a = i
      · have q1 : (x.a == i) = true := beq_iff_eq.2 ha
        by_cases hp1 : x.ap = p
        · have q2 : (x.ap == p) = true := beq_iff_eq.2 hp1
          have HV := Kept.mk (HIT.out.1 ⟨ha, hp1⟩)
          clear ha hp1
          go_wp2_with fail
          go_ret
          exact ⟨by rw [HPN.out, HV.out]; rfl, HD.out.alloc z2 _⟩
        · have q2 : (x.ap == p) = false := beq_false_of_ne hp1
          have hn : ¬ (x.a = i ∧ x.ap = p) := fun h => hp1 h.2
          by_cases hb : x.b = i
          · have q3 : (x.b == i) = true := beq_iff_eq.2 hb
            by_cases hp2 : x.bp = p
            · have q4 : (x.bp == p) = true := beq_iff_eq.2 hp2
              have HV := Kept.mk (HIT.out.2.1 hn ⟨hb, hp2⟩)
              clear ha hp1 hn hb hp2
              go_wp2_with fail
              go_ret
              exact ⟨by rw [HPN.out, HV.out]; rfl, HD.out.alloc z2 _⟩
            · have q4 : (x.bp == p) = false := beq_false_of_ne hp2
              have HV := Kept.mk (HIT.out.2.2 hn (fun h => hp2 h.2))
              clear ha hp1 hn hb hp2
              go_wp2_with fail
              go_roundw
              case rel => exact ⟨k + 1, by omega, by go_num, HV, ⟨HB.out.alloc _⟩, ⟨HD.out.alloc z2 _⟩⟩
              case measure => simp [intOf]; omega
          · have q3 : (x.b == i) = false := beq_false_of_ne hb
            have HV := Kept.mk (HIT.out.2.2 hn (fun h => hb h.1))
            clear ha hp1 hn hb
            go_wp2_with fail
            go_roundw
            case rel => exact ⟨k + 1, by omega, by go_num, HV, ⟨HB.out.alloc _⟩, ⟨HD.out.alloc z2 _⟩⟩
            case measure => simp [intOf]; omega
      · have q1 : (x.a == i) = false := beq_false_of_ne ha
        have hn : ¬ (x.a = i ∧ x.ap = p) := fun h => ha h.1
        by_cases hb : x.b = i
        · have q3 : (x.b == i) = true := beq_iff_eq.2 hb
          by_cases hp2 : x.bp = p
          · have q4 : (x.bp == p) = true := beq_iff_eq.2 hp2
            have HV := Kept.mk (HIT.out.2.1 hn ⟨hb, hp2⟩)
            clear ha hn hb hp2
            go_wp2_with fail
            go_ret
            exact ⟨by rw [HPN.out, HV.out]; rfl, HD.out.alloc z2 _⟩
          · have q4 : (x.bp == p) = false := beq_false_of_ne hp2
            have HV := Kept.mk (HIT.out.2.2 hn (fun h => hp2 h.2))
            clear ha hn hb hp2
            go_wp2_with fail
            go_roundw
            case rel => exact ⟨k + 1, by omega, by go_num, HV, ⟨HB.out.alloc _⟩, ⟨HD.out.alloc z2 _⟩⟩
            case measure => simp [intOf]; omega
        · have q3 : (x.b == i) = false := beq_false_of_ne hb
          have HV := Kept.mk (HIT.out.2.2 hn (fun h => hb h.1))
          clear ha hn hb
          go_wp2_with fail
          go_roundw
          case rel => exact ⟨k + 1, by omega, by go_num, HV, ⟨HB.out.alloc _⟩, ⟨HD.out.alloc z2 _⟩⟩
          case measure => simp [intOf]; omega
    · obtain rfl : k = C.length := by omega
      have HV := Kept.mk (nbrP_end HI.out)
      clear hlt
      go_wp2_with fail
      go_ret
      exact ⟨by rw [HPN.out, HV.out]; rfl, HD.out⟩
theorem RowsAt.cell_ {α : Type} {w : World} {B sz : Nat} {f : α → List Value} {b off : Nat} {l : List α} (h : RowsAt w B sz f (some ⟨b, off, none⟩) l) {k : Nat} {x : α} (hx : l[k]? = some x) {j : Nat} {u : Value} (hj : (f x)[j]? = some u) : w.cell? ⟨b, off + k * sz + j, none⟩ = some u := by
  obtain ⟨hk, -⟩ := List.getElem?_eq_some_iff.1 hx
  obtain ⟨y, b', off', hy, e, -, -, hc⟩ := h.at_ hk
  injection e with e
  injection e with e1 e2
  subst e1
  subst e2
  rw [hx] at hy
  injection hy with hy
  subst hy
  exact hc j u hj
theorem infoI : (Try.prog.info? 3).map (fun i => (i.zero, i.size, i.bytes)) = some (some (.int .i64 0), 1, 8) := by kernel_rfl
set_option maxHeartbeats 2000000 in
theorem equalI_ (l m : List Int) (A A' : Option Addr) (kap kap' : Nat) (w : World) (B B' : Nat) (hl : RowsAt w B 1 icell A l) (hm : RowsAt w B' 1 icell A' m) (hn : l.length ≤ 1000000) (hn' : m.length ≤ 1000000) :
    Calls Try.prog 32 #[.slice A l.length kap, .slice A' m.length kap'] w fun e w' => e = .returned (.bool (decide (l = m))) ∧ Below w.heap.size w w' := by
  have HL := Kept.mk hl
  have HM := Kept.mk hm
  clear hl hm
  by_cases hlen : l.length = m.length
  · have q0 : ((l.length : Int) != (m.length : Int)) = false := by simp; omega
    have HLEN := Kept.mk hlen
    have m1 : l.length ≤ m.length := by omega
    have m2 : m.length ≤ l.length := by omega
    clear hlen
    go_enter Try.func32, Try.ntmps32
    go_wp2_with fail
    go_loopw [13] (fun v wr => ∃ k : Nat, k ≤ l.length ∧ v = .int .i64 k ∧ Kept (l.take k = m.take k) ∧ Kept (∀ b o, wr.cell? ⟨b, o, none⟩ = w.cell? ⟨b, o, none⟩) ∧ Kept (Below w.heap.size w wr)) (fun v _ => l.length - (intOf v).toNat)
    case atStart => exact ⟨0, Nat.zero_le _, rfl, ⟨rfl⟩, ⟨fun _ _ => rfl⟩, ⟨Below.refl _ _⟩⟩
    case round =>
      obtain ⟨k, hk, rfl, HT, HS, HD⟩ := hrel
      by_cases hlt : k < l.length
      · obtain ⟨x, b1, o1, hx, rfl, -, hb1, hc1⟩ := HL.out.at_ hlt
        obtain ⟨y, b2, o2, hy, rfl, -, hb2, hc2⟩ := HM.out.at_ (show k < m.length by omega)
        have c1 := hc1 0 (.int .i64 x) rfl
        have c2 := hc2 0 (.int .i64 y) rfl
        rw [← HS.out] at c1 c2
        simp only [Nat.add_zero, Nat.mul_one] at c1 c2
        have HX := Kept.mk hx
        have HY := Kept.mk hy
        clear hc1 hc2 hx hy
        by_cases hxy : x = y
        · have q1 : (x != y) = false := by simp [hxy]
          have HXY := Kept.mk hxy
          clear hxy
          go_wp2_with fail
          go_quiet (fail)
          go_wp2_with fail
          go_roundw
          case rel => exact ⟨k + 1, by omega, by go_num, ⟨take_eq_succ HX.out HY.out HT.out HXY.out⟩, ⟨HS.out⟩, ⟨dN HD.out _⟩⟩
          case measure => simp [intOf]; omega
        · have q1 : (x != y) = true := by simp [hxy]
          have HXY := Kept.mk hxy
          clear hxy
          go_wp2_with fail
          go_quiet (fail)
          go_wp2_with fail
          go_ret
          exact ⟨ret_bool (decide_eq_false (ne_of_at HX.out HY.out HXY.out)).symm, dN HD.out _⟩
      · obtain rfl : k = l.length := by omega
        clear hlt
        go_wp2_with fail
        go_ret
        exact ⟨ret_bool (decide_eq_true (by have h1 := HT.out; rw [List.take_length, HLEN.out, List.take_length] at h1; exact h1)).symm, HD.out⟩
  · have q0 : ((l.length : Int) != (m.length : Int)) = true := by simp; omega
    have HLEN := Kept.mk hlen
    clear hlen
    go_enter Try.func32, Try.ntmps32
    go_wp2_with fail
    go_ret
    exact ⟨ret_bool (decide_eq_false (fun e => HLEN.out (by rw [e]))).symm, Below.refl _ _⟩
def TreeR (w : World) (C : List Cb) (V : List Vt) (e : Ending) (w' : World) : Prop := ∃ A kap, e = .returned (.tuple #[.slice A (treeL C V).length kap, .int .i64 (treeE C V)]) ∧ RowsAt w' w'.heap.size 1 icell A (treeL C V) ∧ Below w.heap.size w w'
theorem treeR_bad {w w' : World} {C : List Cb} {V : List Vt} {f : Int} (he : treeE C V = f) (hf : f ≠ 0) (hb : Below w.heap.size w w') : TreeR w C V (.returned (.tuple #[.slice none 0 0, .int .i64 f])) w' := by
  have h : treeL C V = [] := by unfold treeL; rw [if_neg (by rw [he]; exact hf)]
  exact ⟨none, 0, by rw [h, he]; rfl, by rw [h]; exact RowsAt.nil_ _ _ _ _ icell_len (by omega), hb⟩
theorem treeR_ok {w w' : World} {C : List Cb} {V : List Vt} {A : Option Addr} {n kap : Nat} (he : treeE C V = 0) (hn : V.length = n) (hr : RowsAt w' w'.heap.size 1 icell A (treeP C V)) (hb : Below w.heap.size w w') : TreeR w C V (.returned (.tuple #[.slice A n kap, .int .i64 0])) w' := by
  have h : treeL C V = treeP C V := by unfold treeL; rw [if_pos he]
  exact ⟨A, kap, by rw [h, he, treeP_len, hn], by rw [h]; exact hr, hb⟩
theorem treeE_range {C : List Cb} {V : List Vt} {k : Nat} (hk : k < V.length) (h : parP C k (voteAt V k).port = -2) : treeE C V = 2 := by
  unfold treeE; rw [if_pos (by rw [← h]; exact List.mem_of_getElem? (treeP_get hk))]
theorem treeE_cyc {C : List Cb} {V : List Vt} {k : Nat} (h0 : ¬ (-2) ∈ treeP C V) (hk : k < V.length) (h : 0 ≤ goN (treeP C V) k (treeP C V).length) : treeE C V = 11 := by
  unfold treeE; rw [if_neg h0, if_pos (cyc_yes hk h)]
theorem treeE_zero {C : List Cb} {V : List Vt} (h0 : ¬ (-2) ∈ treeP C V) (h : cycB (treeP C V) V.length = false) : treeE C V = 0 := by
  unfold treeE; rw [if_neg h0, h, if_neg (by simp)]
theorem no_next {l : List Int} {k : Nat} {x : Int} (h : ¬ (-2) ∈ l.take k) (hx : l[k]? = some x) (h2 : x ≠ -2) : ¬ (-2) ∈ l.take (k + 1) := by
  rw [take_next hx, List.mem_append]
  rintro (h3 | h3)
  · exact h h3
  · simp at h3; exact h2 h3.symm
theorem cyc_zero (T : List Int) : cycB T 0 = false := rfl
set_option maxRecDepth 100000 in
set_option maxHeartbeats 8000000 in
theorem refTree_ (N : List Nd) (C : List Cb) (An Ac Av : Option Addr) (kn kc kv : Nat) (V : List Vt) (w : World) (hp : PlanAt w w.heap.size ⟨N, C, An, kn, Ac, kc⟩) (hr : RowsAt w w.heap.size 3 vcell Av V) (hC : ∀ c ∈ C, CabOk V.length c) (hc : C.length ≤ 1000) (hn : V.length ≤ 1000) :
    Calls Try.prog 31 #[.agg #[.slice An N.length kn, .slice Ac C.length kc], .slice Av V.length kv] w (TreeR w C V) := by
  have HP := Kept.mk hp
  have HR := Kept.mk hr
  have HC := Kept.mk hC
  have HB := Kept.mk (Blk.new w 32 #[.slice An N.length kn, .slice Ac C.length kc])
  have HG : Kept (Below w.heap.size w (w.alloc (.cells #[.slice An N.length kn, .slice Ac C.length kc] 32))) := ⟨(Below.refl _ _).alloc (Nat.le_refl _) _⟩
  obtain ⟨jj, hjj, hy0, hy1, hy2⟩ := info_parts infoI
  clear hp hr hC
  go_enter Try.func31, Try.ntmps31
  go_wp2_with fail
  go_loopw [6, 7] (fun v6 v7 wr => ∃ k : Nat, k ≤ V.length ∧ v7 = .int .i64 k ∧ Kept (wr.ownsRow (w.heap.size + 1) 3 1 v6 k (((treeP C V).take k).flatMap icell)) ∧ Kept (¬ (-2) ∈ (treeP C V).take k) ∧ Kept (Blk wr w.heap.size 32 #[.slice An N.length kn, .slice Ac C.length kc]) ∧ Kept (Below w.heap.size w wr)) (fun _ v _ => V.length - (intOf v).toNat)
  case atStart => exact ⟨0, Nat.zero_le _, rfl, ⟨World.ownsRow_nil _ _ _ _⟩, ⟨by simp⟩, HB, HG⟩
  case round =>
    clear HB HG
    obtain ⟨k, hk, rfl, HO, HNO, HB, HD⟩ := hrel
    have z1 := HB.out.lt
    by_cases hlt : k < V.length
    · obtain ⟨x, b, off, hx, rfl, -, hb, -⟩ := (HR.out.new_ HD.out).at_ hlt
      have HX := Kept.mk hx
      have HRw := Kept.mk (HR.out.new_ HD.out)
      have HPw := Kept.mk (HP.out.new_ (bdrew HD.out))
      have HBd : Kept (Blk wr.drew w.heap.size 32 #[.slice An N.length kn, .slice Ac C.length kc]) := ⟨HB.out.drew⟩
      have HRd := Kept.mk (HRw.out.new_ (bdrew (Below.refl _ _)))
      have HTG := Kept.mk (treeP_get (C := C) hlt)
      rw [vote_get hx] at HTG
      have HOd := Kept.mk (own_new HO.out (bdrew (Below.refl _ _)))
      obtain ⟨q, hq⟩ : ∃ q, parP C (k : Int) x.port = q := ⟨_, rfl⟩
      have HQ := Kept.mk hq
      rw [hq] at HTG
      clear hx
      go_wp2_with fail
      go_region_held3 (fun w' => w'.cell? ⟨w.heap.size, 0, none⟩ = some (.slice An N.length kn) ∧ w'.cell? ⟨w.heap.size, 1, none⟩ = some (.slice Ac C.length kc) ∧ w'.cell? ⟨b, off + k * 3 + 2, none⟩ = some (.int .i64 x.port)) (first | exact ⟨HBd.out.cell 0 rfl, HBd.out.cell 1 rfl, HRd.out.cell_ HX.out rfl⟩ | exact ⟨HB5.out.cell 0 rfl, HB5.out.cell 1 rfl, HR5.out.cell_ HX.out rfl⟩) ((go_at_call 46; refine (parent_ N C An Ac kn kc (k : Int) x.port _ HPw.out hc).mono ?_; rintro e w5 ⟨rfl, hb5⟩; rw [HQ.out]; have HB5 := Kept.mk (HBd.out.new_ hb5); have HR5 := Kept.mk (HRd.out.new_ hb5); have HD5 := Kept.mk (join (bdrew HD.out) hb5); have HO5 := Kept.mk (own_new HOd.out hb5); clear hb5))
      by_cases hq2 : q = -2
      · have q1 : (q == -2) = true := beq_iff_eq.2 hq2
        have HE : Kept (treeE C V = 2) := ⟨treeE_range hlt (by rw [vote_get HX.out, HQ.out]; exact hq2)⟩
        clear hq2
        go_wp2_with fail
        go_ret2
        exact treeR_bad HE.out (by omega) HD5.out
      · have q1 : (q == -2) = false := beq_false_of_ne hq2
        have HN2 := Kept.mk (no_next HNO.out HTG.out hq2)
        have z5 := HB5.out.lt
        have HM := Kept.mk (reads_made w5 #[.int .i64 q] 3 1 1 rfl)
        have HO6 := Kept.mk (HO5.out.alloc (.cells #[.int .i64 q] 3))
        have h1 : ∀ u ∈ (#[Value.int .i64 q]).toList, u.oneCell' = true := (by intro u hu; simp at hu; subst hu; rfl)
        clear hq2 hq
        go_wp2_with (at_builtin; refine wpList_append_any _ rfl _ _ _ rfl (w.heap.size + 1) 3 jj _ 1 8 Try.underlying61 hjj hy0 hy1 hy2 rfl (by omega) _ k _ rfl HO6.out _ _ 1 1 _ rfl HM.out h1 (by unfold maxLen; omega) (by omega) (by simp; omega) ?_; intro v' w6 ho hgw hat; have HO7 := Kept.mk ho; have HGW := Kept.mk hgw; clear ho hgw hat)
        go_roundw
        case rel => exact ⟨k + 1, by omega, by go_num, ⟨by have h2 := HO7.out; rw [take_next HTG.out, List.flatMap_append]; simpa [icell] using h2⟩, HN2, ⟨(HB5.out.alloc _).grown HGW.out (fun e => own_blk_ne HO6.out (HB5.out.alloc _) (by decide) e.symm)⟩, ⟨(HD5.out.alloc HD5.out.size _).grown HGW.out (by simp; omega) (fun j hj => by have := HO6.out.lt j hj; omega)⟩⟩
        case measure => simp [intOf]; omega
    · obtain rfl : k = V.length := by omega
      obtain ⟨A0, kap0, hv6⟩ := own_slice HO.out
      subst hv6
      have HT : Kept (RowsAt wr wr.heap.size 1 icell A0 (treeP C V)) := ⟨by
        have h1 := RowsAt.of_own HO.out icell_len (by omega) (by rw [List.length_take, treeP_len]; omega)
        rwa [List.take_of_length_le (by rw [treeP_len]; omega)] at h1⟩
      have HN0 : Kept (¬ (-2) ∈ treeP C V) := ⟨by have h1 := HNO.out; rwa [List.take_of_length_le (by rw [treeP_len]; omega)] at h1⟩
      have HTB := Kept.mk (treeP_bd (V := V) HC.out)
      have HTL := Kept.mk (treeP_len C V)
      have HGT : Kept (∀ i : Nat, i < V.length → ∀ m : Nat, ∀ y, (treeP C V)[m]? = some y → goP (treeP C V) (m : Int) = y) := ⟨fun i hi m y hy => by unfold goP; rw [if_pos (by omega), Int.toNat_natCast, List.getD_eq_getElem?_getD, hy]; rfl⟩
      clear hlt HO HNO HB
      obtain ⟨wo, rfl⟩ : ∃ wo : World, wo = wr := ⟨_, rfl⟩
      go_wp2_with fail
      go_loopw [9] (fun v9 wr => ∃ i : Nat, i ≤ V.length ∧ v9 = .int .i64 i ∧ Kept (cycB (treeP C V) i = false) ∧ Kept (Below wo.heap.size wo wr)) (fun v _ => V.length - (intOf v).toNat)
      case atStart => exact ⟨0, Nat.zero_le _, rfl, ⟨cyc_zero _⟩, ⟨Below.refl _ _⟩⟩
      case round =>
        obtain ⟨i, hi, rfl, HCY, HD2⟩ := hrel
        by_cases hlt : i < V.length
        · obtain ⟨wp, rfl⟩ : ∃ wp : World, wp = wr := ⟨_, rfl⟩
          go_wp2_with fail
          go_loopw [10, 11] (fun v10 v11 wr => ∃ j : Nat, j ≤ V.length ∧ v10 = .int .i64 (goN (treeP C V) i j) ∧ v11 = .int .i64 j ∧ Kept (Below wp.heap.size wp wr)) (fun _ v _ => V.length - (intOf v).toNat)
          case atStart => exact ⟨0, Nat.zero_le _, rfl, rfl, ⟨Below.refl _ _⟩⟩
          case round =>
            obtain ⟨j, hj, rfl, rfl, HD3⟩ := hrel
            have hgb := goN_bd HTB.out HTL.out (i := (i : Int)) (by omega) j
            by_cases hjl : j < V.length
            · by_cases hg : 0 ≤ goN (treeP C V) i j
              · obtain ⟨m, hm⟩ : ∃ m : Nat, goN (treeP C V) i j = m := ⟨(goN (treeP C V) i j).toNat, by omega⟩
                rw [hm] at hgb hg ⊢
                obtain ⟨y, b, off, hy, rfl, -, hb, hc1⟩ := (HT.out.new_ (join HD2.out HD3.out)).at_ (k := m) (by rw [HTL.out]; omega)
                have c1 := hc1 0 (.int .i64 y) rfl
                simp only [Nat.add_zero, Nat.mul_one] at c1
                have HGN : Kept (goN (treeP C V) i (j + 1) = y) := ⟨by show goP _ _ = _; rw [hm]; exact HGT.out i hlt m y hy⟩
                have d1 := decide_eq_true hg
                clear hc1 hy hm
                go_wp2_with fail
                go_roundw
                case rel => exact ⟨j + 1, by omega, by rw [HGN.out], by go_num, HD3⟩
                case measure => simp [intOf]; omega
              · have d1 := decide_eq_false hg
                have HCN : Kept (cycB (treeP C V) (i + 1) = false) := ⟨cyc_next HCY.out (by
                  have h2 := goN_neg (T := treeP C V) (i := (i : Int)) (k := j) (by omega) (V.length - j)
                  rw [HTL.out, show V.length = j + (V.length - j) by omega, h2]; omega)⟩
                clear hg
                go_wp2_with fail
                go_roundw
                case rel => exact ⟨i + 1, by omega, by go_num, HCN, ⟨join HD2.out HD3.out⟩⟩
                case measure => simp [intOf]; omega
            · obtain rfl : j = V.length := by omega
              clear hjl
              by_cases hg : 0 ≤ goN (treeP C V) i V.length
              · have d1 := decide_eq_true hg
                have HE : Kept (treeE C V = 11) := ⟨treeE_cyc HN0.out hlt (by rw [HTL.out]; exact hg)⟩
                clear hg
                go_wp2_with fail
                go_ret2
                exact treeR_bad HE.out (by omega) (join HD.out (join HD2.out HD3.out))
              · have d1 := decide_eq_false hg
                have HCN : Kept (cycB (treeP C V) (i + 1) = false) := ⟨cyc_next HCY.out (by rw [HTL.out]; omega)⟩
                clear hg
                go_wp2_with fail
                go_roundw
                case rel => exact ⟨i + 1, by omega, by go_num, HCN, ⟨join HD2.out HD3.out⟩⟩
                case measure => simp [intOf]; omega
        · obtain rfl : i = V.length := by omega
          clear hlt
          have HE := Kept.mk (treeE_zero HN0.out HCY.out)
          go_wp2_with fail
          go_ret2
          exact treeR_ok HE.out rfl (HT.out.new_ HD2.out) (join HD.out HD2.out)
end Go.Proofs.Ytckigonkcjceeaa
