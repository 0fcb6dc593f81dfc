/- For all plans, cables that are up and votes the statement ElectionTrees returns true: Tree returns the specified nodes or error, and the tree of stable votes leads from every node to its root. No condition. -/
import Derived.Test.YtckigonkcjceeaaEBase
import Derived.Test.YtckigonkcjceeaaETreeX
import Derived.Test.YtckigonkcjceeaaERefRun
namespace Go.Proofs.Ytckigonkcjceeaa
open Go.ChangeShapes Go.WideShapes Go.ChangeAt Go.RowKit
set_option linter.unusedVariables false
set_option linter.unusedSimpArgs false
/-- What stands in memory: the arguments, the plan's box. -/
structure TU (w0 W : World) (N : List Nd) (C : List Cb) (An Ac Au Av : Option Addr) (kn kc ku kv : Nat) (up : List Bool) (V : List Vt) : Prop where
  args : ArgsAt W N C An Ac Au Av kn kc ku kv up V
  box : Blk W w0.heap.size 32 #[.slice An N.length kn, .slice Ac C.length kc]
  bel : Below w0.heap.size w0 W
section
variable {w0 W W' : World} {N : List Nd} {C : List Cb} {An Ac Au Av : Option Addr} {kn kc ku kv : Nat} {up : List Bool} {V : List Vt}
theorem TU.new_ (h : TU w0 W N C An Ac Au Av kn kc ku kv up V) (hb : Below W.heap.size W W') : TU w0 W' N C An Ac Au Av kn kc ku kv up V := ⟨h.args.new_ hb, h.box.new_ hb, join h.bel hb⟩
theorem decT {α : Type} (x : α) (i : Decidable (x = x)) : @decide (x = x) i = true := @decide_eq_true _ i rfl
end
theorem Tree_n (N : List Nd) (C : List Cb) (An Ac Av : Option Addr) (kn kc kv n : Nat) (V : List Vt) (w : World) (hp : PlanAt w w.heap.size ⟨N, C, An, kn, Ac, kc⟩) (hr : RowsAt w w.heap.size 3 vcell Av V) (hv : validE N C = 0) (hl : V.length = n) (hn : V.length = N.length) :
    Calls Try.prog 30 #[.agg #[.slice An N.length kn, .slice Ac C.length kc], .slice Av n kv] w (TreeR w C V) := by
  subst hl
  exact Tree_ok N C An Ac Av kn kc kv V w hp hr hv hn
set_option maxRecDepth 100000 in
set_option maxHeartbeats 16000000 in
theorem trees_walk (N : List Nd) (C : List Cb) (An Ac Au Av : Option Addr) (kn kc ku kv : Nat) (up : List Bool) (votes : List Vt) (w : World) (hp : PlanAt w w.heap.size ⟨N, C, An, kn, Ac, kc⟩) (hu : RowsAt w w.heap.size 1 bcell1 Au up) (hku : up.length ≤ ku) (hku2 : ku ≤ maxLen) (hv : RowsAt w w.heap.size 3 vcell Av votes) (hkv : votes.length ≤ kv) (hkv2 : kv ≤ maxLen) :
    Calls Try.prog 8 #[.agg #[.slice An N.length kn, .slice Ac C.length kc], .slice Au up.length ku, .slice Av votes.length kv] w fun e w' => e = .returned (.bool true) ∧ Below w.heap.size w w' := by
  have HP := Kept.mk hp
  have HU := Kept.mk hu
  have HV := Kept.mk hv
  obtain ⟨L1, L2⟩ := hp.len
  simp only at L1 L2
  have L3 : up.length ≤ 9223372036854775807 := by unfold maxLen at hku2; omega
  have L4 : votes.length ≤ 9223372036854775807 := by unfold maxLen at hkv2; omega
  clear hp hu hku hku2 hv hkv hkv2
  have HB := Kept.mk (Blk.new w 32 #[.slice An N.length kn, .slice Ac C.length kc])
  have HG : Kept (Below w.heap.size w (w.alloc (.cells #[.slice An N.length kn, .slice Ac C.length kc] 32))) := ⟨(Below.refl _ _).alloc (Nat.le_refl _) _⟩
  go_enter Try.func8, Try.ntmps8
  go_wp2_with (go_at_call 11; refine (awake_c _).mono ?_; rintro e w1 ⟨rfl, hb1⟩; have HB1 := Kept.mk (HB.out.new_ hb1); have HD1 := Kept.mk (join HG.out hb1); clear hb1; have k0 := HB1.out.cell 0 (v := .slice An N.length kn) rfl; have k1 := HB1.out.cell 1 (v := .slice Ac C.length kc) rfl; have z1 := HB1.out.lt)
  refine (great_ N.length C.length up.length votes.length An Ac Au Av kn kc ku kv _ L1 L2 L3 L4).mono ?_
  rintro e w2 ⟨rfl, hb2⟩
  have HB2 := Kept.mk (HB1.out.new_ hb2)
  have HD2 := Kept.mk (join HD1.out hb2)
  clear hb2 k0 k1 z1
  have k0 := HB2.out.cell 0 (v := .slice An N.length kn) rfl
  have k1 := HB2.out.cell 1 (v := .slice Ac C.length kc) rfl
  have z1 := HB2.out.lt
  cases hgr : greatB N.length C.length up.length votes.length with
  | true =>
    go_wp2_with fail
    go_ret
    exact ⟨rfl, HD2.out⟩
  | false =>
    obtain ⟨g1, g2, g3, g4⟩ := great_no hgr
    have HS2 : Kept (TU w w2 N C An Ac Au Av kn kc ku kv up votes) := ⟨⟨HP.out.new_ HD2.out, HU.out.new_ HD2.out, HV.out.new_ HD2.out, by omega, by omega⟩, HB2.out, HD2.out⟩
    clear HB HG HB1 HD1 HB2 HP HU HV
    by_cases hbad : validE N C ≠ 0 ∨ votes.length ≠ N.length
    · have HBAD := Kept.mk hbad
      by_cases hv : validE N C = 0
      · have q1 : ((votes.length : Int) != (N.length : Int)) = true := by
          rcases hbad with h | h
          · exact absurd hv h
          · simp; omega
        have HV := Kept.mk hv
        clear hv hbad
        go_wp2_with (first | (go_at_call 30; refine (Tree_bad N C An Ac Av kn kc kv votes _ HS2.out.args.p (by omega) HBAD.out).mono ?_; rintro e w3 ⟨rfl, hb3⟩; have HS3 := Kept.mk (HS2.out.new_ hb3); clear hb3 k0 k1 z1; have k0 := HS3.out.box.cell 0 (v := .slice An N.length kn) rfl; have k1 := HS3.out.box.cell 1 (v := .slice Ac C.length kc) rfl; have z1 := HS3.out.box.lt) | (go_at_call 15; refine (valid_ N C An Ac kn kc _ HS3.out.args.p).mono ?_; rintro e w4 ⟨rfl, hb4⟩; rw [HV.out]; have HS4 := Kept.mk (HS3.out.new_ hb4); clear hb4 k0 k1 z1; have k0 := HS4.out.box.cell 0 (v := .slice An N.length kn) rfl; have k1 := HS4.out.box.cell 1 (v := .slice Ac C.length kc) rfl; have z1 := HS4.out.box.lt))
        go_ret
        exact ⟨rfl, HS4.out.bel⟩
      · obtain ⟨f, hfe⟩ : ∃ f, validE N C = f := ⟨_, rfl⟩
        have q1 : (f != 0) = true := by rw [← hfe]; simpa using hv
        have HV := Kept.mk hfe
        clear hv hfe hbad
        go_wp2_with (first | (go_at_call 30; refine (Tree_bad N C An Ac Av kn kc kv votes _ HS2.out.args.p (by omega) HBAD.out).mono ?_; rintro e w3 ⟨rfl, hb3⟩; have HS3 := Kept.mk (HS2.out.new_ hb3); clear hb3 k0 k1 z1; have k0 := HS3.out.box.cell 0 (v := .slice An N.length kn) rfl; have k1 := HS3.out.box.cell 1 (v := .slice Ac C.length kc) rfl; have z1 := HS3.out.box.lt) | (go_at_call 15; refine (valid_ N C An Ac kn kc _ HS3.out.args.p).mono ?_; rintro e w4 ⟨rfl, hb4⟩; rw [HV.out]; have HS4 := Kept.mk (HS3.out.new_ hb4); clear hb4 k0 k1 z1; have k0 := HS4.out.box.cell 0 (v := .slice An N.length kn) rfl; have k1 := HS4.out.box.cell 1 (v := .slice Ac C.length kc) rfl; have z1 := HS4.out.box.lt))
        go_ret
        exact ⟨rfl, HS4.out.bel⟩
    · obtain ⟨hv, hln⟩ : validE N C = 0 ∧ votes.length = N.length := ⟨Classical.not_not.1 fun h => hbad (.inl h), Classical.not_not.1 fun h => hbad (.inr h)⟩
      have HV := Kept.mk hv
      have HLN := Kept.mk hln
      have q1 : ((votes.length : Int) != (N.length : Int)) = false := by simp; omega
      have hn16 : N.length ≤ 16 := (valid_spec hv).1
      have hv16 : votes.length ≤ 16 := by omega
      have HCB := Kept.mk (valid_cab hv)
      have HCV : Kept (∀ c ∈ C, CabOk votes.length c) := ⟨by rw [hln]; exact valid_cab hv⟩
      clear hbad hv hln
      go_wp2_with (first | (go_at_call 30; refine (Tree_ok N C An Ac Av kn kc kv votes _ HS2.out.args.p HS2.out.args.v HV.out HLN.out).mono ?_; rintro e w3 ⟨A3, k3, rfl, hr3, hb3⟩; have HR3 := Kept.mk hr3; have HS3 := Kept.mk (HS2.out.new_ hb3); clear hb3 hr3 k0 k1 z1; have k0 := HS3.out.box.cell 0 (v := .slice An N.length kn) rfl; have k1 := HS3.out.box.cell 1 (v := .slice Ac C.length kc) rfl; have z1 := HS3.out.box.lt) | (go_at_call 15; refine (valid_ N C An Ac kn kc _ HS3.out.args.p).mono ?_; rintro e w4 ⟨rfl, hb4⟩; rw [HV.out]; have HS4 := Kept.mk (HS3.out.new_ hb4); have HR4 := Kept.mk (HR3.out.new_ hb4); clear hb4 k0 k1 z1; have k0 := HS4.out.box.cell 0 (v := .slice An N.length kn) rfl; have k1 := HS4.out.box.cell 1 (v := .slice Ac C.length kc) rfl; have z1 := HS4.out.box.lt))
      have HS4d := Kept.mk (HS4.out.new_ (bdrew (Below.refl _ _)))
      have HR4d := Kept.mk (HR4.out.new_ (bdrew (Below.refl _ _)))
      clear k0 k1 z1
      go_region_held3 (fun w' => w'.cell? ⟨w.heap.size, 0, none⟩ = some (.slice An N.length kn) ∧ w'.cell? ⟨w.heap.size, 1, none⟩ = some (.slice Ac C.length kc)) (first | exact ⟨HS4d.out.box.cell 0 rfl, HS4d.out.box.cell 1 rfl⟩ | exact ⟨HS5.out.box.cell 0 rfl, HS5.out.box.cell 1 rfl⟩ | exact ⟨HS6.out.box.cell 0 rfl, HS6.out.box.cell 1 rfl⟩) (first | (go_at_call 21; refine (plain_n Av kv votes.length votes _ HS4d.out.args.v rfl (by omega)).mono ?_; rintro e w5 ⟨A5, k5, rfl, hr5, hb5⟩; have HQ5 := Kept.mk hr5; have HS5 := Kept.mk (HS4d.out.new_ hb5); have HR5 := Kept.mk (HR4d.out.new_ hb5); clear hr5 hb5) | (go_at_call 31; refine (refTree_ N C An Ac A5 kn kc k5 votes _ HS5.out.args.p HQ5.out HCV.out (by omega) (by omega)).mono ?_; rintro e w6 ⟨A6, k6, rfl, hr6, hb6⟩; have HQ6 := Kept.mk hr6; have HS6 := Kept.mk (HS5.out.new_ hb6); have HR6 := Kept.mk (HR5.out.new_ hb6); clear hr6 hb6))
      have k0 := HS6.out.box.cell 0 (v := .slice An N.length kn) rfl
      have k1 := HS6.out.box.cell 1 (v := .slice Ac C.length kc) rfl
      have z1 := HS6.out.box.lt
      have HTL : Kept ((treeL C votes).length ≤ 1000000) := ⟨by
        unfold treeL
        split
        · rw [treeP_len]; omega
        · simp⟩
      have q2 : (treeE C votes != treeE C votes) = false := bne_self_eq_false _
      generalize treeL C votes = TL at *
      generalize treeE C votes = TE at *
      by_cases hf : faultE N C up votes = 0
      · have HF := Kept.mk hf
        clear hf
        go_wp2_with (first | (go_at_call 32; refine (equalI_ TL TL A3 A6 k3 k6 _ _ _ HR6.out HQ6.out HTL.out HTL.out).mono ?_; rintro e w7 ⟨rfl, hb7⟩; rw [decT]; have HS7 := Kept.mk (HS6.out.new_ hb7); clear hb7 k0 k1 z1; have k0 := HS7.out.box.cell 0 (v := .slice An N.length kn) rfl; have k1 := HS7.out.box.cell 1 (v := .slice Ac C.length kc) rfl; have z1 := HS7.out.box.lt) | (go_at_call 16; refine (Run_late_n N C An Ac Au Av kn kc ku kv votes.length up.length _ up votes _ HS7.out.args HF.out rfl (by rw [HLN.out]) rfl).mono ?_; rintro e w8 ⟨A8, k8, r8, R, rfl, t1, t2, t3, t4, t5, t6, t7, t8⟩; have HRL := Kept.mk t2; have HRD := Kept.mk t3; have HQ8 := Kept.mk t5; have HTO := Kept.mk (stable_tree (n := votes.length) HV.out HLN.out.symm t2 t3 t4); have HS8 := Kept.mk (HS7.out.new_ t8); clear t1 t2 t3 t4 t5 t6 t7 t8 k0 k1 z1; have k0 := HS8.out.box.cell 0 (v := .slice An N.length kn) rfl; have k1 := HS8.out.box.cell 1 (v := .slice Ac C.length kc) rfl; have z1 := HS8.out.box.lt))
        refine (Tree_n N C An Ac A8 kn kc k8 votes.length R _ HS8.out.args.p HQ8.out HV.out HRL.out (HRL.out.trans HLN.out)).mono ?_
        rintro e w9 ⟨A9, k9, rfl, hr9, hb9⟩
        rw [HTO.out.lst] at hr9
        rw [HTO.out.err, HTO.out.lst, treeP_len, HRL.out]
        have HR9 := Kept.mk hr9
        have HQ9 := Kept.mk (HQ8.out.new_ hb9)
        have HS9 := Kept.mk (HS8.out.new_ hb9)
        have q3 : ((votes.length : Int) != (votes.length : Int)) = false := bne_self_eq_false _
        clear hr9 hb9 k0 k1 z1
        go_wp2_with fail
        go_loopw [95] (fun v wr => ∃ k : Nat, k ≤ votes.length ∧ v = .int .i64 k ∧ Kept (Below w9.heap.size w9 wr)) (fun v _ => votes.length - (intOf v).toNat)
        case atStart => exact ⟨0, Nat.zero_le _, rfl, ⟨Below.refl _ _⟩⟩
        case round =>
          obtain ⟨k, hk, rfl, HD⟩ := hrel
          by_cases hlt : k < votes.length
          · obtain ⟨x, b1, o1, hx, rfl, -, hb1, hc1⟩ := (HQ9.out.new_ HD.out).at_ (show k < R.length by rw [HRL.out]; exact hlt)
            obtain ⟨t, b2, o2, ht, rfl, -, hb2, hc2⟩ := (HR9.out.new_ HD.out).at_ (show k < (treeP C R).length by rw [treeP_len, HRL.out]; exact hlt)
            have p0 := hc1 0 (.int .i64 x.root) rfl
            have p1 := hc1 1 (.int .i64 x.dist) rfl
            have s0 := hc2 0 (.int .i64 t) rfl
            simp only [Nat.add_zero, Nat.mul_one] at p0 s0
            have hxd := HRD.out x (List.mem_of_getElem? hx)
            have hat := HTO.out.at_ k hlt
            rw [treeP_get (by rw [HRL.out]; exact hlt)] at ht
            injection ht with ht
            rw [ht, vote_get hx] at hat
            clear hc1 hc2 hx ht
            rcases hat with ⟨rfl, h2⟩ | ⟨u, hu, rfl, h2, h3, h4⟩
            · rw [h2] at p1
              clear h2 hxd
              go_wp2_with fail
              go_quiet (fail)
              go_wp2_with fail
              go_roundw
              case rel => exact ⟨k + 1, by omega, by go_num, ⟨dN HD.out _⟩⟩
              case measure => simp [intOf]; omega
            · obtain ⟨y, hy⟩ := get_some (l := R) (k := u) (by rw [HRL.out]; exact hu)
              rw [vote_get hy] at h3 h4
              have r0 := (HQ9.out.new_ HD.out).cell_ hy (j := 0) (u := .int .i64 x.root) (by rw [← h3]; rfl)
              have r1 := (HQ9.out.new_ HD.out).cell_ hy (j := 1) (u := .int .i64 (x.dist - 1)) (by rw [← h4]; rfl)
              simp only [Nat.add_zero] at r0
              have d1 : decide ((u : Int) < 0) = false := decide_eq_false (by omega)
              have d2 : decide (0 ≤ (u : Int)) = true := decide_eq_true (by omega)
              have d3 : (x.dist == 0) = false := beq_false_of_ne h2
              have d4 : (x.root != x.root) = false := bne_self_eq_false _
              have d5 : (x.dist - 1 != x.dist - 1) = false := bne_self_eq_false _
              have d6 : 0 ≤ x.dist ∧ x.dist ≤ 16 := by omega
              clear hy h2 h3 h4 hxd
              go_wp2_with fail
              go_quiet (fail)
              go_wp2_with fail
              go_roundw
              case rel => exact ⟨k + 1, by omega, by go_num, ⟨dN HD.out _⟩⟩
              case measure => simp [intOf]; omega
          · obtain rfl : k = votes.length := by omega
            clear hlt
            go_wp2_with fail
            go_ret
            exact ⟨rfl, join HS9.out.bel HD.out⟩
      · obtain ⟨f, hfe⟩ : ∃ f, faultE N C up votes = f := ⟨_, rfl⟩
        have HF := Kept.mk hf
        have hfc : f = 1 ∨ f = 2 := by rcases fe_cases (N := N) (C := C) (up := up) (votes := votes) with h | h | h <;> omega
        have q3 : (f != 0) = true := by simp; omega
        have q4 : (f != 15) = true := by simp; omega
        have HFE := Kept.mk hfe
        clear hf hfe hfc
        go_wp2_with (first | (go_at_call 32; refine (equalI_ TL TL A3 A6 k3 k6 _ _ _ HR6.out HQ6.out HTL.out HTL.out).mono ?_; rintro e w7 ⟨rfl, hb7⟩; rw [decT]; have HS7 := Kept.mk (HS6.out.new_ hb7); clear hb7 k0 k1 z1; have k0 := HS7.out.box.cell 0 (v := .slice An N.length kn) rfl; have k1 := HS7.out.box.cell 1 (v := .slice Ac C.length kc) rfl; have z1 := HS7.out.box.lt) | (go_at_call 16; refine (Run_bad N C An Ac Au Av kn kc ku kv up votes _ _ HS7.out.args HF.out).mono ?_; rintro e w8 ⟨rfl, hb8⟩; rw [HFE.out]; have HS8 := Kept.mk (HS7.out.new_ hb8); clear hb8))
        go_ret
        exact ⟨rfl, HS8.out.bel⟩
theorem walkElectionTrees (p : Pl) (Au : Option Addr) (ku : Nat) (up : List Bool) (Av : Option Addr) (kv : Nat) (votes : List Vt) (w : World) (hp : PlanAt w w.heap.size p) (hu : RowsAt w w.heap.size 1 bcell1 Au up) (hku : up.length ≤ ku) (hku2 : ku ≤ maxLen) (hv : RowsAt w w.heap.size 3 vcell Av votes) (hok : ∀ v ∈ votes, VtOk v) (hkv : votes.length ≤ kv) (hkv2 : kv ≤ maxLen) :
    Calls Try.prog 8 #[pv p, .slice Au up.length ku, .slice Av votes.length kv] w fun e w' => e = .returned (.bool true) ∧ Below w.heap.size w w' := by
  cases p
  exact trees_walk _ _ _ _ _ _ _ _ _ _ _ _ _ hp hu hku hku2 hv hkv hkv2

set_option maxRecDepth 100000 in
theorem liftedElectionTrees (os : Os) (started : os.Started) (H : Type) (enc : TypeId × Value → H) :
    ReturnsInHanded {} Try.checked os 8 .any (Rows.electionTreesSpec.pre6 enc Try.prog Try.f8 Rows.electionTreesRow.domain false) (Rows.electionTreesSpec.post enc Try.prog Try.f8 false true false false) := by
  refine returnsInHanded_of_change (C := Try.checked) own started (by kernel_rfl) Try.func8
    (ChangeSpec.witness6 (enc := enc) (C := Try.checked) false ⟨#[], #[.agg #[.slice none 0 0, .slice none 0 0], .slice none 0 0, .slice none 0 0], []⟩ 8 (by kernel_rfl) (by kernel_rfl) (by kernel_rfl) (by kernel_rfl)) ?_
  intro W base args ds gs before hval0 hW hcnd _
  have hval : ∀ (j : Nat) t v, Try.f8.params[j]? = some t → args[j]? = some v → Value.okWide Try.prog W .any base t v := hval0
  have hW' := hW
  obtain ⟨p, q, hA0, hV, rfl, hfz, hnd⟩ := hW
  have hA : DataW.TrodAll enc Try.prog W 0 (fun _ => true) true Try.f8.params.toList args.toList ds p := hA0
  rw [Try.params8] at hA hval
  obtain ⟨v0, vs0, d0, ds0, p0, q0, hargs, rfl, rfl, h0, r0⟩ := trodAll_cons hA
  obtain ⟨v1, vs1, d1, ds1, p1, q1, rfl, rfl, rfl, h1, r1⟩ := trodAll_cons r0
  obtain ⟨v2, vs2, d2, ds2, p2, q2, rfl, rfl, rfl, h2, r2⟩ := trodAll_cons r1
  obtain ⟨rfl, rfl, rfl⟩ := trodAll_nil r2
  obtain rfl : args = #[v0, v1, v2] := by cases args; simp_all
  obtain ⟨rfl, rfl⟩ := trodVars_none hV
  have k0 := h0
  have lt0 : ∀ x ∈ p0, x.block < W.heap.size := by obtain ⟨m, hm⟩ := k0; exact DataW.trod_lt m _ _ _ hm
  have k1 := h1
  have lt1 : ∀ x ∈ p1, x.block < W.heap.size := by obtain ⟨m, hm⟩ := k1; exact DataW.trod_lt m _ _ _ hm
  have k2 := h2
  have lt2 : ∀ x ∈ p2, x.block < W.heap.size := by obtain ⟨m, hm⟩ := k2; exact DataW.trod_lt m _ _ _ hm
  obtain ⟨q0, rfl, pa0⟩ := open_plan (hval 0 32 v0 rfl rfl) h0
  obtain ⟨A1, kap1, l1, rfl, r1x, le1, mx1⟩ := open_up (hval 1 33 v1 rfl rfl) h1
  obtain ⟨A2, kap2, l2, rfl, r2x, ok2, le2, mx2⟩ := open_votes (hval 2 37 v2 rfl rfl) h2
  clear hA0 hval0
  refine (walkElectionTrees q0 A1 kap1 l1 A2 kap2 l2 W pa0 r1x le1 mx1 r2x ok2 le2 mx2).mono fun e W' ⟨he, bel⟩ => ?_
  subst he
  exact ⟨_, rfl, _, _, _, [], _, [], hW', trodAll_mk1 (shut_bool Try.underlying4 _), (trodAll_cons_mk (Below.trod laidOut (by kernel_rfl) (of_decide_eq_true (by kernel_rfl)) k0 bel lt0) (trodAll_cons_mk (Below.trod laidOut (by kernel_rfl) (of_decide_eq_true (by kernel_rfl)) k1 bel lt1) (trodAll_cons_mk (Below.trod laidOut (by kernel_rfl) (of_decide_eq_true (by kernel_rfl)) k2 bel lt2) trodAll_mk0))), rfl, bel.frame _, fun h => by cases h⟩
/-- The given statement. -/
theorem electionTrees_holds : Rows.ElectionTreesSaid :=
  OpenClaim.holds_of_wide 8 Try.f8 rfl rfl rfl rfl rfl rfl rfl ⟨rfl, rfl, rfl, rfl, rfl⟩ rfl rfl rfl rfl rfl (by kernel_rfl) Try.func8 (by kernel_rfl)
    (of_decide_eq_true (by kernel_rfl)) (by unfold Func.isWrapper; first | (rw [if_pos (by decide +kernel)]; kernel_rfl) | (rw [if_neg (by decide +kernel)]; exact ⟨rfl, rfl⟩))
    (fun os started H enc _ => liftedElectionTrees os started H enc)
#print axioms electionTrees_holds
end Go.Proofs.Ytckigonkcjceeaa
