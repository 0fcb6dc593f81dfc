/- demand.Valid at any net. -/
import Derived.Test.YtjalegdfofogcaaNetA
namespace Go.Proofs.Ytjalegdfofogcaa
set_option linter.unusedVariables false
set_option linter.unusedSimpArgs false
open Go.RowKit
/-- The boxes of Valid: the net, and the greatest capacity. -/
structure VB (w W : World) (n : PNet) : Prop where
  x : Blk W w.heap.size 25 #[.slice n.cA n.caps.length n.ck, .slice n.fA n.flows.length n.fk]
  m : Blk W (w.heap.size + 1) 32 #[.int .i64 1000, .int .i64 1]
  blw : Below w.heap.size w W
theorem VB.new_ {w W W' : World} {n : PNet} (h : VB w W n) (hb : Below W.heap.size W W') : VB w W' n := ⟨h.x.new_ hb, h.m.new_ hb, join h.blw hb⟩
theorem VB.alloc {w W : World} {n : PNet} (h : VB w W n) (o : Obj) : VB w (W.alloc o) n := h.new_ ((Below.refl _ _).alloc (Nat.le_refl _) o)
theorem VB.start (w : World) (n : PNet) : VB w ((w.alloc (.cells #[.slice n.cA n.caps.length n.ck, .slice n.fA n.flows.length n.fk] 25)).alloc (.cells #[.int .i64 1000, .int .i64 1] 32)) n := by
  have h : Blk ((w.alloc (.cells #[.slice n.cA n.caps.length n.ck, .slice n.fA n.flows.length n.fk] 25)).alloc (.cells #[.int .i64 1000, .int .i64 1] 32)) ((w.alloc (.cells #[.slice n.cA n.caps.length n.ck, .slice n.fA n.flows.length n.fk] 25))).heap.size 32 #[.int .i64 1000, .int .i64 1] := Blk.new _ _ _
  rw [World.size_alloc] at h
  exact ⟨(Blk.new _ _ _).alloc _, h, by go_grown⟩
theorem VB.cells {w W : World} {n : PNet} (h : VB w W n) : (W.cell? ⟨w.heap.size, 0, none⟩ = some (.slice n.cA n.caps.length n.ck) ∧ W.cell? ⟨w.heap.size, 1, none⟩ = some (.slice n.fA n.flows.length n.fk)) ∧ (W.cell? ⟨w.heap.size + 1, 0, none⟩ = some (.int .i64 1000) ∧ W.cell? ⟨w.heap.size + 1, 1, none⟩ = some (.int .i64 1)) ∧ w.heap.size + 1 < W.heap.size :=
  ⟨⟨h.x.cell 0 rfl, h.x.cell 1 rfl⟩, ⟨h.m.cell 0 rfl, h.m.cell 1 rfl⟩, h.m.lt⟩
section
variable {n : PNet}
theorem no_big (h : ¬ (n.caps.length ≤ 32 ∧ n.flows.length ≤ 32)) : netOk n = false := by
  unfold netOk
  by_cases h1 : n.caps.length ≤ 32
  · rw [decide_eq_true h1, decide_eq_false (fun h2 => h ⟨h1, h2⟩)]; rfl
  · rw [decide_eq_false h1]; rfl
theorem no_cap {x : Rq} {k : Nat} (hx : n.caps[k]? = some x) (h : capOk x = false) : netOk n = false := by
  unfold netOk
  rw [all_bad hx h]; simp
theorem no_flow {x : PFlow} {k : Nat} (hx : n.flows[k]? = some x) (h : flowOk n.caps.length x = false) : netOk n = false := by
  unfold netOk
  rw [all_bad hx h]; simp
theorem yes_net (h1 : n.caps.length ≤ 32) (h2 : n.flows.length ≤ 32) (h3 : n.caps.all capOk = true) (h4 : n.flows.all (flowOk n.caps.length) = true) : netOk n = true := by
  unfold netOk
  rw [decide_eq_true h1, decide_eq_true h2, h3, h4]; rfl
theorem flow_empty {nl : Nat} {p : PFlow} (h : p.ls.length = 0) : flowOk nl p = false := by
  unfold flowOk
  rw [decide_eq_false (by omega)]; rfl
theorem flow_link {nl : Nat} {p : PFlow} {i : Nat} {l : Int} (hl : p.ls[i]? = some l) (h : linkOk nl (p.ls.take i) l = false) : flowOk nl p = false := by
  have hi : i < p.ls.length := (List.getElem?_eq_some_iff.1 hl).1
  have : linksOk nl p.ls = false := by
    unfold linksOk
    rw [List.all_eq_false]
    exact ⟨i, List.mem_range.2 hi, by rw [List.getD_eq_getElem?_getD, hl]; simp [h]⟩
  unfold flowOk
  rw [this]; simp
theorem flow_dem {nl : Nat} {p : PFlow} (h : (okQ p.d && (decide (0 ≤ p.d.n) && (p.b || p.d.n == 0))) = false) : flowOk nl p = false := by
  unfold flowOk
  rw [h]; simp
theorem flow_yes {nl : Nat} {p : PFlow} (h0 : 0 < p.ls.length) (h1 : ∀ i, i < p.ls.length → linkOk nl (p.ls.take i) (p.ls.getD i 0) = true) (h2 : (okQ p.d && (decide (0 ≤ p.d.n) && (p.b || p.d.n == 0))) = true) : flowOk nl p = true := by
  unfold flowOk linksOk
  rw [decide_eq_true h0, h2, List.all_eq_true.2 (fun i hi => h1 i (List.mem_range.1 hi))]
  rfl
end
theorem run_head {A : Option Addr} {n kap i : Nat} (w : World) (hi : i ≤ kap) :
    (Instr.slice 35 (.slice A n kap) none (some (.int .i64 i)) none).run Try.prog w = .ok (.slice A i kap) w := by
  rw [run_slice_h w 35 A n kap (show Try.prog.underlying 35 = some (.slice (Try.prog.elem 35)) by kernel_rfl) .i64 i (by omega) (by omega)]
  have hs : (sizeOf (Try.prog.elem 35)).run Try.prog w = .ok 1 w := by kernel_rfl
  have hA : (Option.map (fun x : Addr => x.add 0) A) = A := by
    cases A with
    | none => rfl
    | some a => simp [Addr.add]
  simp [hs, Result.andThen, sliced, hA]
theorem RowsAt.take {α : Type} {w : World} {B sz : Nat} {f : α → List Value} {A : Option Addr} {l : List α} (h : RowsAt w B sz f A l) (i : Nat) : RowsAt w B sz f A (l.take i) := by
  refine ⟨h.sz0, h.hf, flat_len h.hf _, fun hn => ?_⟩
  have hl : 0 < l.length := by rw [List.length_take] at hn; omega
  obtain ⟨ad, e, hb, hc⟩ := h.rd.2 hl
  refine ⟨ad, e, hb, fun j u hu => hc j u ?_⟩
  have e2 : l.flatMap f = (l.take i).flatMap f ++ (l.drop i).flatMap f := by rw [← List.flatMap_append, List.take_append_drop]
  rw [e2, List.getElem?_append_left (List.getElem?_eq_some_iff.1 hu).1]
  exact hu
theorem run_head2 {A : Option Addr} {n kap i : Nat} (w : World) (hi : i ≤ kap) :
    (Instr.sliceAt 35 (.slice A n kap) none (some (.int .i64 i)) none).run Try.prog w = .ok (.slice A i kap) w := by
  rw [run_sliceAt_slice w 35 _ _ _ _ (show Try.prog.underlying 35 = some (.slice (Try.prog.elem 35)) by kernel_rfl)]; exact run_head w hi
set_option maxRecDepth 100000 in
set_option maxHeartbeats 8000000 in
theorem valid_net_c (n : PNet) (w : World) (hn : NetAt w w.heap.size n) : Calls Try.prog 27 #[nval n] w fun e w' => e = .returned (.bool (netOk n)) ∧ Below w.heap.size w w' := by
  have HN := Kept.mk hn
  have hcm : n.caps.length ≤ 9223372036854775807 := by have := hn.cle; unfold maxLen at this; omega
  have hfm : n.flows.length ≤ 9223372036854775807 := by have := hn.fle; unfold maxLen at this; omega
  clear hn
  obtain ⟨caps, cA, ck, flows, fA, fk⟩ := n
  unfold nval
  dsimp only at hcm hfm ⊢
  by_cases hbig : ¬ (caps.length ≤ 32 ∧ flows.length ≤ 32)
  · have HR := Kept.mk (no_big (n := ⟨caps, cA, ck, flows, fA, fk⟩) hbig)
    by_cases h1 : caps.length ≤ 32
    · have h2 : (32 : Int) < flows.length := by omega
      have d1 : decide ((32 : Int) < caps.length) = false := decide_eq_false (by omega)
      clear hbig h1
      go_enter Try.func27, Try.ntmps27
      go_wp2_with fail
      go_ret
      exact ⟨ret_bool HR.out.symm, by go_grown⟩
    · have h2 : (32 : Int) < caps.length := by omega
      clear hbig h1
      go_enter Try.func27, Try.ntmps27
      go_wp2_with fail
      go_ret
      exact ⟨ret_bool HR.out.symm, by go_grown⟩
  have hc32 : caps.length ≤ 32 := by omega
  have hf32 : flows.length ≤ 32 := by omega
  have d1 : decide ((32 : Int) < caps.length) = false := decide_eq_false (by omega)
  have d2 : decide ((32 : Int) < flows.length) = false := decide_eq_false (by omega)
  clear hbig
  go_enter Try.func27, Try.ntmps27
  go_wp2_with fail
  have HV := Kept.mk (VB.start w ⟨caps, cA, ck, flows, fA, fk⟩)
  go_loopw [24] (fun v wr => ∃ k : Nat, k ≤ caps.length ∧ v = .int .i64 k ∧ Kept ((caps.take k).all capOk = true) ∧ Kept (VB w wr ⟨caps, cA, ck, flows, fA, fk⟩)) (fun v _ => caps.length - (intOf v).toNat)
  case atStart => exact ⟨0, Nat.zero_le _, rfl, ⟨rfl⟩, HV⟩
  case round =>
    clear HV
    obtain ⟨k, hk, rfl, HA, HV⟩ := hrel
    obtain ⟨⟨n0, n1⟩, ⟨m0, m1⟩, nl⟩ := HV.out.cells
    dsimp only at n0 n1
    by_cases hlt : k < caps.length
    · obtain ⟨x, b, off, hx, rfl, -, hb, c0, c1, x64⟩ := (HN.out.new_ HV.out.blw).capAt hlt
      have HX := Kept.mk hx
      have HB0 := Kept.mk (Blk.new wr 32 #[.int .i64 x.n, .int .i64 x.d])
      have HV0 := Kept.mk (HV.out.alloc (.cells #[.int .i64 x.n, .int .i64 x.d] 32))
      have V1 := fun w => valid_c x w x64.1.1 x64.1.2 x64.2.1 x64.2.2
      have CM := fun w => cmp_c x ⟨1000, 1⟩ w x64.1 x64.2 (by unfold R64; dsimp only; omega) (by unfold R64; dsimp only; omega)
      unfold rqv at V1 CM
      dsimp only at CM
      clear hx
      cases ho : okQ x with
      | false =>
        have HO := Kept.mk ho
        have HR := Kept.mk (no_cap (n := ⟨caps, some ⟨b, off, none⟩, ck, flows, fA, fk⟩) HX.out (show capOk x = false by unfold capOk; rw [ho]; rfl))
        clear ho
        go_wp2_with (go_at_call 22; refine (V1 _).mono ?_; rintro e w1 ⟨rfl, hb1⟩; rw [HO.out]; have HV1 := Kept.mk (HV0.out.new_ hb1); have HB1 := Kept.mk (HB0.out.new_ hb1); clear hb1 n0 n1 m0 m1 nl; obtain ⟨⟨n0, n1⟩, ⟨m0, m1⟩, nl⟩ := HV1.out.cells; dsimp only at n0 n1; have p0 := HB1.out.cell 0 (v := .int .i64 x.n) rfl; have p1 := HB1.out.cell 1 (v := .int .i64 x.d) rfl)
        go_ret
        exact ⟨ret_bool HR.out.symm, HV1.out.blw⟩
      | true =>
        have HO := Kept.mk ho
        by_cases h0 : x.n < 0
        · have HR := Kept.mk (no_cap (n := ⟨caps, some ⟨b, off, none⟩, ck, flows, fA, fk⟩) HX.out (show capOk x = false by unfold capOk; rw [decide_eq_false (by omega)]; simp))
          clear ho
          go_wp2_with (go_at_call 22; refine (V1 _).mono ?_; rintro e w1 ⟨rfl, hb1⟩; rw [HO.out]; have HV1 := Kept.mk (HV0.out.new_ hb1); have HB1 := Kept.mk (HB0.out.new_ hb1); clear hb1 n0 n1 m0 m1 nl; obtain ⟨⟨n0, n1⟩, ⟨m0, m1⟩, nl⟩ := HV1.out.cells; dsimp only at n0 n1; have p0 := HB1.out.cell 0 (v := .int .i64 x.n) rfl; have p1 := HB1.out.cell 1 (v := .int .i64 x.d) rfl)
          go_ret
          exact ⟨ret_bool HR.out.symm, HV1.out.blw⟩
        · have d3 : decide (x.n < 0) = false := decide_eq_false h0
          by_cases h1 : cmpQ x ⟨1000, 1⟩ ≤ 0
          · have HR := Kept.mk (all_next HA.out HX.out (show capOk x = true by unfold capOk; rw [ho, decide_eq_true (by omega), decide_eq_true h1]; rfl))
            obtain ⟨z, hz⟩ : ∃ z, cmpQ x ⟨1000, 1⟩ = z := ⟨_, rfl⟩
            have HC := Kept.mk hz
            have h2 : ¬ (0 : Int) < z := by omega
            clear ho h1 hz
            go_wp2_with (first | (go_at_call 22; refine (V1 _).mono ?_; rintro e w1 ⟨rfl, hb1⟩; rw [HO.out]; have HV1 := Kept.mk (HV0.out.new_ hb1); have HB1 := Kept.mk (HB0.out.new_ hb1); clear hb1 n0 n1 m0 m1 nl; obtain ⟨⟨n0, n1⟩, ⟨m0, m1⟩, nl⟩ := HV1.out.cells; dsimp only at n0 n1; have p0 := HB1.out.cell 0 (v := .int .i64 x.n) rfl; have p1 := HB1.out.cell 1 (v := .int .i64 x.d) rfl) | (go_at_call 9; refine (CM _).mono ?_; rintro e w2 ⟨rfl, hb2⟩; rw [HC.out]; have HV2 := Kept.mk (HV1.out.new_ hb2); clear hb2 n0 n1 m0 m1 nl p0 p1))
            go_roundw
            case rel => exact ⟨k + 1, by omega, by go_num, HR, HV2⟩
            case measure => simp [intOf]; omega
          · have HR := Kept.mk (no_cap (n := ⟨caps, some ⟨b, off, none⟩, ck, flows, fA, fk⟩) HX.out (show capOk x = false by unfold capOk; rw [decide_eq_false h1]; simp))
            obtain ⟨z, hz⟩ : ∃ z, cmpQ x ⟨1000, 1⟩ = z := ⟨_, rfl⟩
            have HC := Kept.mk hz
            have h2 : (0 : Int) < z := by omega
            clear ho h1 hz
            go_wp2_with (first | (go_at_call 22; refine (V1 _).mono ?_; rintro e w1 ⟨rfl, hb1⟩; rw [HO.out]; have HV1 := Kept.mk (HV0.out.new_ hb1); have HB1 := Kept.mk (HB0.out.new_ hb1); clear hb1 n0 n1 m0 m1 nl; obtain ⟨⟨n0, n1⟩, ⟨m0, m1⟩, nl⟩ := HV1.out.cells; dsimp only at n0 n1; have p0 := HB1.out.cell 0 (v := .int .i64 x.n) rfl; have p1 := HB1.out.cell 1 (v := .int .i64 x.d) rfl) | (go_at_call 9; refine (CM _).mono ?_; rintro e w2 ⟨rfl, hb2⟩; rw [HC.out]; have HV2 := Kept.mk (HV1.out.new_ hb2); clear hb2 n0 n1 m0 m1 nl p0 p1))
            go_ret
            exact ⟨ret_bool HR.out.symm, HV2.out.blw⟩
    · obtain rfl : k = caps.length := by omega
      have HCA : Kept (caps.all capOk = true) := ⟨by have := HA.out; rwa [List.take_length] at this⟩
      clear hlt HA
      obtain ⟨wa, rfl⟩ : ∃ wa : World, wa = wr := ⟨_, rfl⟩
      go_wp2_with fail
      go_loopw [46] (fun v wr => ∃ k : Nat, k ≤ flows.length ∧ v = .int .i64 k ∧ Kept ((flows.take k).all (flowOk caps.length) = true) ∧ Kept (VB w wr ⟨caps, cA, ck, flows, fA, fk⟩)) (fun v _ => flows.length - (intOf v).toNat)
      case atStart => exact ⟨0, Nat.zero_le _, rfl, ⟨rfl⟩, HV⟩
      case round =>
        clear HV n0 n1 m0 m1 nl
        obtain ⟨k, hk, rfl, HA, HV⟩ := hrel
        obtain ⟨⟨n0, n1⟩, ⟨m0, m1⟩, nl⟩ := HV.out.cells
        dsimp only at n0 n1
        by_cases hlt : k < flows.length
        · obtain ⟨p, bF, oF, hp, rfl, -, hb, ⟨c0, c1, c2, c3⟩, hfl⟩ := (HN.out.new_ HV.out.blw).flowAt hlt
          obtain ⟨ls, pA, kap, pb, pd⟩ := p
          dsimp only at c0 c1 c2 c3
          have HP := Kept.mk hp
          have HFL := Kept.mk hfl
          have x64 := hfl.r64
          have V2 := fun w => valid_c pd w x64.1.1 x64.1.2 x64.2.1 x64.2.2
          have hlm : ls.length ≤ kap := hfl.le
          have hkm : kap ≤ 9223372036854775807 := by have := hfl.mx; unfold maxLen at this; omega
          unfold rqv at V2
          dsimp only at x64 hlm hkm V2
          clear hp hfl
          by_cases h0 : ls.length = 0
          · have HR := Kept.mk (no_flow (n := ⟨caps, cA, ck, flows, some ⟨bF, oF, none⟩, fk⟩) HP.out (flow_empty (nl := caps.length) (p := ⟨ls, pA, kap, pb, pd⟩) h0))
            have d3 : ((ls.length : Int) == 0) = true := by rw [h0]; rfl
            clear h0
            go_wp2_with fail
            go_ret
            exact ⟨ret_bool HR.out.symm, HV.out.blw.alloc HV.out.blw.size _⟩
          · have d3 : ((ls.length : Int) == 0) = false := beq_false_of_ne (by omega)
            have hl0 : 0 < ls.length := by omega
            clear h0
            go_upto_region 15 with fail
            obtain ⟨U, hU, HU⟩ : ∃ U, U = wr.alloc (.cells #[.slice pA ls.length kap, .bool pb, .int .i64 pd.n, .int .i64 pd.d] 37) ∧ Kept (VB w U ⟨caps, cA, ck, flows, some ⟨bF, oF, none⟩, fk⟩ ∧ Blk U wr.heap.size 37 #[.slice pA ls.length kap, .bool pb, .int .i64 pd.n, .int .i64 pd.d] ∧ FlowAt U U.heap.size ⟨ls, pA, kap, pb, pd⟩) := ⟨_, rfl, ⟨HV.out.alloc _, Blk.new _ _ _, HFL.out.new_ ((Below.refl _ _).alloc (Nat.le_refl _) _)⟩⟩
            obtain ⟨g7, hg7⟩ : ∃ g, g = wr.heap.size := ⟨_, rfl⟩
            rw [← hU, ← hg7]
            rw [← hg7] at HU
            clear hU hg7 HV n0 n1 m0 m1 nl c0 c1 c2 c3 hb HFL
            obtain ⟨⟨n0, n1⟩, ⟨m0, m1⟩, nl⟩ := HU.out.1.cells
            have p0 := HU.out.2.1.cell 0 (v := .slice pA ls.length kap) rfl
            go_wp2_with fail
            go_loopw [57] (fun v wr => ∃ i : Nat, i ≤ ls.length ∧ v = .int .i64 i ∧ Kept (∀ j, j < i → linkOk caps.length (ls.take j) (ls.getD j 0) = true) ∧ Kept (VB w wr ⟨caps, cA, ck, flows, some ⟨bF, oF, none⟩, fk⟩) ∧ Kept (Blk wr g7 37 #[.slice pA ls.length kap, .bool pb, .int .i64 pd.n, .int .i64 pd.d]) ∧ Kept (FlowAt wr wr.heap.size ⟨ls, pA, kap, pb, pd⟩)) (fun v _ => ls.length - (intOf v).toNat)
            case atStart => exact ⟨0, Nat.zero_le _, rfl, ⟨fun j hj => absurd hj (by omega)⟩, ⟨HU.out.1⟩, ⟨HU.out.2.1⟩, ⟨HU.out.2.2⟩⟩
            case round =>
              clear HU n0 n1 m0 m1 nl p0
              obtain ⟨i, hi, rfl, HJ, HV, HF, HFL⟩ := hrel
              obtain ⟨⟨n0, n1⟩, ⟨m0, m1⟩, nl⟩ := HV.out.cells
              dsimp only at n0 n1
              have p0 := HF.out.cell 0 (v := .slice pA ls.length kap) rfl
              by_cases hil : i < ls.length
              · obtain ⟨l, b, off, hl, rfl, -, hb, c0⟩ := HFL.out.link hil
                have HL := Kept.mk hl
                dsimp only at hl
                have HRD := Kept.mk (HFL.out.rd.take i)
                dsimp only at HRD
                have HT : (ls.take i).length = i := by rw [List.length_take]; omega
                have CO := fun w h => contains_c (ls.take i) (some ⟨b, off, none⟩) kap l w h (by omega)
                rw [HT] at CO
                have hs1 := fun w => run_head (A := some ⟨b, off, none⟩) (n := ls.length) (kap := kap) (i := i) w (by omega)
                have hs2 := fun w => run_head2 (A := some ⟨b, off, none⟩) (n := ls.length) (kap := kap) (i := i) w (by omega)
                clear HT hl
                by_cases t1 : l < 0
                · have HR := Kept.mk (no_flow (n := ⟨caps, cA, ck, flows, some ⟨bF, oF, none⟩, fk⟩) HP.out (flow_link (nl := caps.length) HL.out (show linkOk caps.length _ l = false by unfold linkOk; rw [decide_eq_false (by omega)]; rfl)))
                  go_wp2_with fail
                  go_ret
                  exact ⟨ret_bool HR.out.symm, HV.out.blw⟩
                · have t2 : decide (l < 0) = false := decide_eq_false t1
                  by_cases t3 : (caps.length : Int) ≤ l
                  · have HR := Kept.mk (no_flow (n := ⟨caps, cA, ck, flows, some ⟨bF, oF, none⟩, fk⟩) HP.out (flow_link (nl := caps.length) HL.out (show linkOk caps.length _ l = false by unfold linkOk; rw [decide_eq_false (show ¬ l < caps.length by omega)]; simp)))
                    go_wp2_with fail
                    go_ret
                    exact ⟨ret_bool HR.out.symm, HV.out.blw⟩
                  · have t4 : decide ((caps.length : Int) ≤ l) = false := decide_eq_false t3
                    cases hcc : (ls.take i).contains l with
                    | true =>
                      have HK := Kept.mk hcc
                      have HR := Kept.mk (no_flow (n := ⟨caps, cA, ck, flows, some ⟨bF, oF, none⟩, fk⟩) HP.out (flow_link (nl := caps.length) HL.out (show linkOk caps.length _ l = false by unfold linkOk; rw [hcc]; simp)))
                      clear hcc
                      go_wp2_with (go_at_call 11; refine (CO _ HRD.out).mono ?_; rintro e w2 ⟨rfl, rfl⟩; rw [HK.out])
                      go_ret
                      exact ⟨ret_bool HR.out.symm, HV.out.blw⟩
                    | false =>
                      have HK := Kept.mk hcc
                      have HR : Kept (∀ j, j < i + 1 → linkOk caps.length (ls.take j) (ls.getD j 0) = true) := ⟨fun j hj => by
                        by_cases hji : j < i
                        · exact HJ.out j hji
                        · obtain rfl : j = i := by omega
                          rw [List.getD_eq_getElem?_getD, HL.out]
                          unfold linkOk
                          rw [Option.getD_some, hcc, decide_eq_true (show 0 ≤ l by omega), decide_eq_true (show l < caps.length by omega)]
                          rfl⟩
                      clear hcc
                      go_wp2_with (go_at_call 11; refine (CO _ HRD.out).mono ?_; rintro e w2 ⟨rfl, rfl⟩; rw [HK.out])
                      go_roundw
                      case rel => exact ⟨i + 1, by omega, by go_num, HR, HV, HF, HFL⟩
                      case measure => simp [intOf]; omega
              · obtain rfl : i = ls.length := by omega
                have HLK : Kept (∀ j, j < ls.length → linkOk caps.length (ls.take j) (ls.getD j 0) = true) := HJ
                clear HJ hil
                have p1 := HF.out.cell 1 (v := .bool pb) rfl
                have p2 := HF.out.cell 2 (v := .int .i64 pd.n) rfl
                have p3 := HF.out.cell 3 (v := .int .i64 pd.d) rfl
                cases ho : okQ pd with
                | false =>
                  have HO := Kept.mk ho
                  have HR := Kept.mk (no_flow (n := ⟨caps, cA, ck, flows, some ⟨bF, oF, none⟩, fk⟩) HP.out (flow_dem (nl := caps.length) (by dsimp only; rw [ho]; rfl)))
                  clear ho
                  go_wp2_with (go_at_call 22; refine (V2 _).mono ?_; rintro e w1 ⟨rfl, hb1⟩; rw [HO.out]; have HV1 := Kept.mk (HV.out.new_ hb1); have HF1 := Kept.mk (HF.out.new_ hb1); clear hb1 n0 n1 m0 m1 nl; obtain ⟨⟨n0, n1⟩, ⟨m0, m1⟩, nl⟩ := HV1.out.cells; dsimp only at n0 n1; have p0 := HF1.out.cell 0 (v := .slice pA ls.length kap) rfl; have p1 := HF1.out.cell 1 (v := .bool _) rfl; have p2 := HF1.out.cell 2 (v := .int .i64 pd.n) rfl; have p3 := HF1.out.cell 3 (v := .int .i64 pd.d) rfl)
                  go_ret
                  exact ⟨ret_bool HR.out.symm, HV1.out.blw⟩
                | true =>
                  have HO := Kept.mk ho
                  by_cases t1 : pd.n < 0
                  · have HR := Kept.mk (no_flow (n := ⟨caps, cA, ck, flows, some ⟨bF, oF, none⟩, fk⟩) HP.out (flow_dem (nl := caps.length) (by dsimp only; rw [decide_eq_false (show ¬ 0 ≤ pd.n by omega)]; simp)))
                    clear ho
                    go_wp2_with (go_at_call 22; refine (V2 _).mono ?_; rintro e w1 ⟨rfl, hb1⟩; rw [HO.out]; have HV1 := Kept.mk (HV.out.new_ hb1); have HF1 := Kept.mk (HF.out.new_ hb1); clear hb1 n0 n1 m0 m1 nl; obtain ⟨⟨n0, n1⟩, ⟨m0, m1⟩, nl⟩ := HV1.out.cells; dsimp only at n0 n1; have p0 := HF1.out.cell 0 (v := .slice pA ls.length kap) rfl; have p1 := HF1.out.cell 1 (v := .bool _) rfl; have p2 := HF1.out.cell 2 (v := .int .i64 pd.n) rfl; have p3 := HF1.out.cell 3 (v := .int .i64 pd.d) rfl)
                    go_ret
                    exact ⟨ret_bool HR.out.symm, HV1.out.blw⟩
                  · have t2 : decide (pd.n < 0) = false := decide_eq_false t1
                    cases pb with
                    | true =>
                      have HR := Kept.mk (all_next HA.out HP.out (flow_yes (nl := caps.length) hl0 HLK.out (by dsimp only; rw [ho, decide_eq_true (show 0 ≤ pd.n by omega)]; rfl)))
                      clear ho
                      go_wp2_with (go_at_call 22; refine (V2 _).mono ?_; rintro e w1 ⟨rfl, hb1⟩; rw [HO.out]; have HV1 := Kept.mk (HV.out.new_ hb1); have HF1 := Kept.mk (HF.out.new_ hb1); clear hb1 n0 n1 m0 m1 nl; obtain ⟨⟨n0, n1⟩, ⟨m0, m1⟩, nl⟩ := HV1.out.cells; dsimp only at n0 n1; have p0 := HF1.out.cell 0 (v := .slice pA ls.length kap) rfl; have p1 := HF1.out.cell 1 (v := .bool _) rfl; have p2 := HF1.out.cell 2 (v := .int .i64 pd.n) rfl; have p3 := HF1.out.cell 3 (v := .int .i64 pd.d) rfl)
                      go_roundw
                      case rel => exact ⟨k + 1, by omega, by go_num, HR, HV1⟩
                      case measure => simp [intOf]; omega
                    | false =>
                      by_cases t3 : pd.n = 0
                      · have HR := Kept.mk (all_next HA.out HP.out (flow_yes (nl := caps.length) hl0 HLK.out (by dsimp only; rw [ho, decide_eq_true (show 0 ≤ pd.n by omega), t3]; rfl)))
                        have t4 : (pd.n != 0) = false := by rw [t3]; rfl
                        have t5 : (pd.n == 0) = true := by rw [t3]; rfl
                        have HZ := Kept.mk t3
                        clear ho t1 t3
                        go_wp2_with (go_at_call 22; refine (V2 _).mono ?_; rintro e w1 ⟨rfl, hb1⟩; rw [HO.out]; have HV1 := Kept.mk (HV.out.new_ hb1); have HF1 := Kept.mk (HF.out.new_ hb1); clear hb1 n0 n1 m0 m1 nl; obtain ⟨⟨n0, n1⟩, ⟨m0, m1⟩, nl⟩ := HV1.out.cells; dsimp only at n0 n1; have p0 := HF1.out.cell 0 (v := .slice pA ls.length kap) rfl; have p1 := HF1.out.cell 1 (v := .bool _) rfl; have p2 := HF1.out.cell 2 (v := .int .i64 pd.n) rfl; have p3 := HF1.out.cell 3 (v := .int .i64 pd.d) rfl)
                        go_roundw
                        case rel => exact ⟨k + 1, by omega, by go_num, HR, HV1⟩
                        case measure => simp [intOf]; omega
                      · have HR := Kept.mk (no_flow (n := ⟨caps, cA, ck, flows, some ⟨bF, oF, none⟩, fk⟩) HP.out (flow_dem (nl := caps.length) (by dsimp only; rw [beq_false_of_ne t3]; simp)))
                        have t5 : (pd.n == 0) = false := beq_false_of_ne t3
                        clear ho
                        go_wp2_with (go_at_call 22; refine (V2 _).mono ?_; rintro e w1 ⟨rfl, hb1⟩; rw [HO.out]; have HV1 := Kept.mk (HV.out.new_ hb1); have HF1 := Kept.mk (HF.out.new_ hb1); clear hb1 n0 n1 m0 m1 nl; obtain ⟨⟨n0, n1⟩, ⟨m0, m1⟩, nl⟩ := HV1.out.cells; dsimp only at n0 n1; have p0 := HF1.out.cell 0 (v := .slice pA ls.length kap) rfl; have p1 := HF1.out.cell 1 (v := .bool _) rfl; have p2 := HF1.out.cell 2 (v := .int .i64 pd.n) rfl; have p3 := HF1.out.cell 3 (v := .int .i64 pd.d) rfl)
                        go_ret
                        exact ⟨ret_bool HR.out.symm, HV1.out.blw⟩
        · obtain rfl : k = flows.length := by omega
          have HR := Kept.mk (yes_net (n := ⟨caps, cA, ck, flows, fA, fk⟩) hc32 hf32 HCA.out (by have := HA.out; rwa [List.take_length] at this))
          clear hlt HA
          go_wp2_with fail
          go_ret
          exact ⟨ret_bool HR.out.symm, HV.out.blw⟩
end Go.Proofs.Ytjalegdfofogcaa
