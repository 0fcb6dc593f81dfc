/- The program's round. -/
import Derived.Test.YtckigonkcjceeaaEBet
import Derived.Test.YtckigonkcjceeaaRowBlk
namespace Go.Proofs.Ytckigonkcjceeaa
set_option linter.unusedVariables false
set_option linter.unusedSimpArgs false
open Go.RowKit
theorem infoVt : (Try.prog.info? 23).map (fun i => (i.zero, i.size, i.bytes)) = some (some (.agg #[.int .i64 0, .int .i64 0, .int .i64 0]), 3, 24) := by kernel_rfl
/-- The votes are returned. -/
def RetV (w : World) (L : List Vt) (e : Ending) (w' : World) : Prop := ∃ A kap, e = .returned (.slice A L.length kap) ∧ RowsAt w' w'.heap.size 3 vcell A L ∧ L.length ≤ kap ∧ kap ≤ maxLen ∧ Below w.heap.size w w'
theorem zip_get {C : List Cb} {up : List Bool} {i : Nat} {c : Cb} {u : Bool} (hc : C[i]? = some c) (hu : up[i]? = some u) : (C.zip up)[i]? = some (c, u) := by
  rw [List.getElem?_zip_eq_some]; exact ⟨hc, hu⟩
theorem fold_next {α β : Type} {f : β → α → β} {b : β} {l : List α} {i : Nat} {x : α} (h : l[i]? = some x) : (l.take (i + 1)).foldl f b = f ((l.take i).foldl f b) x := by
  rw [take_next h, List.foldl_append]; rfl
/-- What has been filled in so far. -/
def Filled (w : World) (g : Nat) (n k : Nat) (R : List Vt) : Prop := ∃ L : List Vt, L.length = n ∧ L.take k = R.take k ∧ RowBlk w g 23 vcell L
set_option maxRecDepth 100000 in
set_option maxHeartbeats 8000000 in
theorem round_ (N : List Nd) (C : List Cb) (An Ac Au Av : Option Addr) (kn kc ku kv : Nat) (up : List Bool) (votes : List Vt) (w : World) (hp : PlanAt w w.heap.size ⟨N, C, An, kn, Ac, kc⟩) (hu : RowsAt w w.heap.size 1 bcell1 Au up) (hv : RowsAt w w.heap.size 3 vcell Av votes)
    (hC : ∀ c ∈ C, CabOk N.length c) (hn : N.length ≤ 16) (hc : C.length ≤ 32) (hlu : up.length = C.length) (hlv : votes.length = N.length) (hd : DistOk N.length votes) :
    Calls Try.prog 41 #[.agg #[.slice An N.length kn, .slice Ac C.length kc], .slice Au up.length ku, .slice Av votes.length kv] w (RetV w (roundP C up votes)) := by
  have HP := Kept.mk hp
  have HU := Kept.mk hu
  have HV := Kept.mk hv
  have HC := Kept.mk hC
  have HD0 := Kept.mk hd
  have HLV := Kept.mk hlv
  have u1 : C.length ≤ up.length := by omega
  have u2 : up.length ≤ C.length := by omega
  have v1 : N.length ≤ votes.length := by omega
  have v2 : votes.length ≤ N.length := by omega
  clear hp hu hv hC hd hlu hlv
  have hmk := fun w => run_make_flat (P := Try.prog) vcell_len (by omega) (⟨0, 0, 0⟩ : Vt) 37 23 _ 24 Try.underlying37 infoVt rfl votes.length (by omega) (by omega) w
  go_enter Try.func41, Try.ntmps41
  go_wp2_with fail
  have HB0 := Kept.mk (((Blk.new w 32 #[.slice An N.length kn, .slice Ac C.length kc]).alloc (.cells #[.slice Av votes.length kv] 37)).alloc (.cells ((List.replicate votes.length (⟨0, 0, 0⟩ : Vt)).flatMap vcell).toArray 23))
  have HB1 := Kept.mk ((Blk.new (w.alloc (.cells #[.slice An N.length kn, .slice Ac C.length kc] 32)) 37 #[.slice Av votes.length kv]).alloc (.cells ((List.replicate votes.length (⟨0, 0, 0⟩ : Vt)).flatMap vcell).toArray 23))
  have HF0 := Kept.mk (Blk.new ((w.alloc (.cells #[.slice An N.length kn, .slice Ac C.length kc] 32)).alloc (.cells #[.slice Av votes.length kv] 37)) 23 ((List.replicate votes.length (⟨0, 0, 0⟩ : Vt)).flatMap vcell).toArray)
  go_loopw [18] (fun v wr => ∃ k : Nat, k ≤ votes.length ∧ v = .int .i64 k ∧ Kept (Filled wr (w.heap.size + 2) votes.length k (roundP C up votes)) ∧ Kept (Blk wr w.heap.size 32 #[.slice An N.length kn, .slice Ac C.length kc]) ∧ Kept (Blk wr (w.heap.size + 1) 37 #[.slice Av votes.length kv]) ∧ Kept (Below w.heap.size w wr)) (fun v _ => votes.length - (intOf v).toNat)
  case atStart =>
    have h1 := HB1.out
    have h2 := HF0.out
    simp only [World.size_alloc] at h1 h2
    exact ⟨0, Nat.zero_le _, rfl, ⟨List.replicate votes.length ⟨0, 0, 0⟩, by simp, by simp, h2⟩, HB0, ⟨h1⟩, ⟨by go_grown⟩⟩
  case round =>
    clear HB0 HB1 HF0
    obtain ⟨k, hk, rfl, HF, HB0, HB1, HD⟩ := hrel
    have hz := HD.out.size
    have z0 := HB0.out.lt
    have z1 := HB1.out.lt
    have k0 := HB0.out.cell 0 (v := .slice An N.length kn) rfl
    have k1 := HB0.out.cell 1 (v := .slice Ac C.length kc) rfl
    have k2 := HB1.out.cell 0 (v := .slice Av votes.length kv) rfl
    by_cases hlt : k < votes.length
    · obtain ⟨wo, rfl⟩ : ∃ wo : World, wo = wr := ⟨_, rfl⟩
      have HBS := Kept.mk (Blk.new wo 23 (va (selfV (k : Int))))
      go_wp2_with fail
      go_loopw [27] (fun v wr => ∃ i : Nat, i ≤ C.length ∧ v = .int .i64 i ∧ Kept (Blk wr wo.heap.size 23 (va (((C.zip up).take i).foldl (hearC N.length votes (k : Int)) (selfV (k : Int))))) ∧ Kept (Below wo.heap.size wo wr)) (fun v _ => C.length - (intOf v).toNat)
      case atStart => exact ⟨0, Nat.zero_le _, rfl, HBS, ⟨(Below.refl _ _).alloc (Nat.le_refl _) _⟩⟩
      case round =>
        obtain ⟨i, hi, rfl, HBB, HD2⟩ := hrel
        by_cases hli : i < C.length
        · obtain ⟨x, b, off, hx, rfl, -, hb, ⟨c0, c1, c2, c3, c4, c5⟩, -⟩ := ((HP.out.new_ HD.out).new_ HD2.out).cab hli
          obtain ⟨u, bu, ou, hu, rfl, hbu, -, hcu⟩ := ((HU.out.below HD.out).below (HD2.out.mono hz)).at_ (show i < up.length by omega)
          have cu := hcu 0 (.bool u) rfl
          simp only [Nat.add_zero, Nat.mul_one] at cu
          have hco := HC.out x (List.mem_of_getElem? hx)
          have o1 := hco.a
          have o2 := hco.b
          have o3 := hco.ne
          have HFN := Kept.mk (fold_next (f := hearC N.length votes (k : Int)) (b := selfV (k : Int)) (zip_get hx hu))
          have HPB := Kept.mk (((HB0.out.new_ HD2.out).alloc (.cells #[.int .i64 x.a, .int .i64 x.ap, .int .i64 x.b, .int .i64 x.bp, .int .i64 x.delay, .int .i64 x.cap] 42)))
          have HVB := Kept.mk (((HB1.out.new_ HD2.out).alloc (.cells #[.int .i64 x.a, .int .i64 x.ap, .int .i64 x.b, .int .i64 x.bp, .int .i64 x.delay, .int .i64 x.cap] 42)))
          have HBB1 := Kept.mk (HBB.out.alloc (.cells #[.int .i64 x.a, .int .i64 x.ap, .int .i64 x.b, .int .i64 x.bp, .int .i64 x.delay, .int .i64 x.cap] 42))
          have HCB := Kept.mk (Blk.new wr 42 #[.int .i64 x.a, .int .i64 x.ap, .int .i64 x.b, .int .i64 x.bp, .int .i64 x.delay, .int .i64 x.cap])
          have HVR := Kept.mk (((HV.out.new_ HD.out).new_ HD2.out).new_ ((Below.refl wr.heap.size wr).alloc (Nat.le_refl _) (.cells #[.int .i64 x.a, .int .i64 x.ap, .int .i64 x.b, .int .i64 x.bp, .int .i64 x.delay, .int .i64 x.cap] 42)))
          have HD3 := Kept.mk (HD2.out.alloc HD2.out.size (.cells #[.int .i64 x.a, .int .i64 x.ap, .int .i64 x.b, .int .i64 x.bp, .int .i64 x.delay, .int .i64 x.cap] 42))
          have z2 := HBB.out.lt
          have z3 := HD2.out.size
          have hbu2 : bu < wr.heap.size := by omega
          have tok1 : True := trivial
          clear hcu hco
          generalize hbest : ((C.zip up).take i).foldl (hearC N.length votes (k : Int)) (selfV (k : Int)) = best at *
          have HBEST := Kept.mk hbest
          have HX := Kept.mk hx
          clear hx hu hbest
          cases u with
          | false =>
            have HN := Kept.mk (show hearC N.length votes (k : Int) best (x, false) = best from rfl)
            go_wp2_with fail
            go_roundw
            case rel => exact ⟨i + 1, by omega, by go_num, ⟨by rw [HFN.out, HN.out]; exact HBB1.out⟩, HD3⟩
            case measure => simp [intOf]; omega
          | true =>
            by_cases ha : x.a = (k : Int)
            · have q1 : (x.a == (k : Int)) = true := by simpa using ha
              have q2 : (x.b == (k : Int)) = false := beq_false_of_ne (by omega)
              have HN := Kept.mk (show hearC N.length votes (k : Int) best (x, true) = heardV N.length (voteAt votes x.b) x.ap best by unfold hearC; rw [if_pos rfl, if_neg (by simp only; omega), if_pos ha])
              clear ha
              go_wp2_with (go_at_call 50; have _t := tok1; refine (hear_i N C.length An (some ⟨b, off, none⟩) Av kn kc kv votes best x.ap x.b _ _ (w.heap.size + 1) w.heap.size wo.heap.size HVB.out HPB.out HBB1.out HVR.out (by omega) hn HD0.out).mono ?_; rintro e w1 ⟨rfl, hB1, hO1⟩; have HBB2 := Kept.mk hB1; have HCB2 := Kept.mk (HCB.out.only hO1 (by omega)); have HD4 := Kept.mk (below_only HD3.out hO1 (Nat.le_refl _) (Nat.le_refl _)); have cu2 := (hO1.cells bu (ou + i) (by simp; omega) (by omega)).trans ((World.cell?_alloc_lt _ _ _ (by show bu < _; omega)).trans cu); clear tok1 _t hB1 hO1; have e0 := HCB2.out.cell 0 (v := .int .i64 x.a) rfl; have e2 := HCB2.out.cell 2 (v := .int .i64 x.b) rfl)
              go_roundw
              case rel => exact ⟨i + 1, by omega, by go_num, ⟨by rw [HFN.out, HN.out]; exact HBB2.out⟩, HD4⟩
              case measure => simp [intOf]; omega
            · have q1 : (x.a == (k : Int)) = false := beq_false_of_ne ha
              by_cases hbb : x.b = (k : Int)
              · have q2 : (x.b == (k : Int)) = true := by simpa using hbb
                have HN := Kept.mk (show hearC N.length votes (k : Int) best (x, true) = heardV N.length (voteAt votes x.a) x.bp best by unfold hearC; rw [if_pos rfl, if_pos hbb, if_neg ha])
                clear hbb ha
                go_wp2_with (go_at_call 50; have _t := tok1; refine (hear_i N C.length An (some ⟨b, off, none⟩) Av kn kc kv votes best x.bp x.a _ _ (w.heap.size + 1) w.heap.size wo.heap.size HVB.out HPB.out HBB1.out HVR.out (by omega) hn HD0.out).mono ?_; rintro e w1 ⟨rfl, hB1, hO1⟩; have HBB2 := Kept.mk hB1; have HCB2 := Kept.mk (HCB.out.only hO1 (by omega)); have HD4 := Kept.mk (below_only HD3.out hO1 (Nat.le_refl _) (Nat.le_refl _)); have cu2 := (hO1.cells bu (ou + i) (by simp; omega) (by omega)).trans ((World.cell?_alloc_lt _ _ _ (by show bu < _; omega)).trans cu); clear tok1 _t hB1 hO1; have e0 := HCB2.out.cell 0 (v := .int .i64 x.a) rfl; have e2 := HCB2.out.cell 2 (v := .int .i64 x.b) rfl)
                go_roundw
                case rel => exact ⟨i + 1, by omega, by go_num, ⟨by rw [HFN.out, HN.out]; exact HBB2.out⟩, HD4⟩
                case measure => simp [intOf]; omega
              · have q2 : (x.b == (k : Int)) = false := beq_false_of_ne hbb
                have HN := Kept.mk (show hearC N.length votes (k : Int) best (x, true) = best by unfold hearC; rw [if_pos rfl, if_neg hbb, if_neg ha])
                clear hbb ha
                go_wp2_with fail
                go_roundw
                case rel => exact ⟨i + 1, by omega, by go_num, ⟨by rw [HFN.out, HN.out]; exact HBB1.out⟩, HD3⟩
                case measure => simp [intOf]; omega
        · obtain rfl : i = C.length := by omega
          have HFIN : Kept (Blk wr wo.heap.size 23 (va (roundAt votes.length votes (C.zip up) (k : Int)))) := ⟨by
            have h1 := HBB.out
            rw [List.take_of_length_le (by rw [List.length_zip]; omega)] at h1
            rw [HLV.out]; exact h1⟩
          obtain ⟨R, HR⟩ : ∃ R, Kept (R = roundAt votes.length votes (C.zip up) (k : Int)) := ⟨_, ⟨rfl⟩⟩
          rw [← HR.out] at HFIN
          obtain ⟨L, hL1, hL2, hL3⟩ := HF.out
          have HL := Kept.mk (hL3.new_ HD2.out)
          have hkL : k < L.length := by omega
          obtain ⟨y, hy⟩ := get_some hkL
          have g0 := HL.out.cell vcell_len hy (j := 0) (u := .int .i64 y.root) rfl
          have g1 := HL.out.cell vcell_len hy (j := 1) (u := .int .i64 y.dist) rfl
          have g2 := HL.out.cell vcell_len hy (j := 2) (u := .int .i64 y.port) rfl
          have f0 := HL.out.free (k * 3)
          have f1 := HL.out.free (k * 3 + 1)
          have f2 := HL.out.free (k * 3 + 2)
          have r0 := HFIN.out.cell 0 (v := .int .i64 R.root) rfl
          have r1 := HFIN.out.cell 1 (v := .int .i64 R.dist) rfl
          have r2 := HFIN.out.cell 2 (v := .int .i64 R.port) rfl
          simp only [Nat.add_zero] at g0
          have z4 := HFIN.out.lt
          have z5 := HD2.out.size
          have HNX : Kept ((L.set k R).take (k + 1) = (roundP C up votes).take (k + 1)) := ⟨by
            rw [take_next (List.getElem?_set_self hkL), take_next (roundP_get hlt), HR.out, List.take_set_of_le (Nat.le_refl k), hL2]⟩
          have hLs : (L.set k R).length = votes.length := by rw [List.length_set]; exact hL1
          have HB0' := Kept.mk (HB0.out.new_ HD2.out)
          have HB1' := Kept.mk (HB1.out.new_ HD2.out)
          have HDD := Kept.mk (join HD.out HD2.out)
          have HLS := Kept.mk hLs
          have HLK := Kept.mk hkL
          have hzL : w.heap.size + 2 < wr.heap.size := HL.out.lt
          clear hL1 hL2 hL3 hy hLs
          go_wp2_with fail
          go_roundw
          case rel => exact ⟨k + 1, by omega, by go_num, ⟨L.set k R, HLS.out, HNX.out, HL.out.set3 vcell_len HLK.out rfl⟩, ⟨((HB0'.out.far (by simp <;> omega) _).far (by simp <;> omega) _).far (by simp <;> omega) _⟩, ⟨((HB1'.out.far (by simp <;> omega) _).far (by simp <;> omega) _).far (by simp <;> omega) _⟩, ⟨((HDD.out.setCell (by simp <;> omega) _).setCell (by simp <;> omega) _).setCell (by simp <;> omega) _⟩⟩
          case measure => simp [intOf]; omega
    · obtain rfl : k = votes.length := by omega
      obtain ⟨L, hL1, hL2, hL3⟩ := HF.out
      have HLE : Kept (L = roundP C up votes) := ⟨by
        have h1 := hL2
        rwa [← hL1, List.take_length, List.take_of_length_le (by rw [roundP_len]; omega)] at h1⟩
      have HL := Kept.mk hL3
      have HLL := Kept.mk hL1
      clear hL1 hL2 hL3 hlt
      go_wp2_with fail
      go_ret
      exact ⟨some ⟨w.heap.size + 2, 0, none⟩, votes.length, by rw [roundP_len]; rfl, by rw [← HLE.out]; exact HL.out.rows vcell_len (by omega) HL.out.lt, by rw [roundP_len]; exact Nat.le_refl _, by unfold maxLen; omega, HD.out⟩
end Go.Proofs.Ytckigonkcjceeaa
