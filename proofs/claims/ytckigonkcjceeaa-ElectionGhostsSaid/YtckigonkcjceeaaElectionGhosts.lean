/- For all plans, cables that are up and roots the statement ElectionGhosts returns true: a root that does not exist is forgotten. No condition. -/
import Derived.Test.YtckigonkcjceeaaEBase
namespace Go.Proofs.Ytckigonkcjceeaa
open Go.ChangeShapes Go.WideShapes Go.ChangeAt Go.RowKit
set_option linter.unusedVariables false
set_option linter.unusedSimpArgs false
theorem voteAt_mem {votes : List Vt} (i : Int) : voteAt votes i ∈ votes ∨ voteAt votes i = default := by
  unfold voteAt
  rw [List.getD_eq_getElem?_getD]
  cases h : votes[i.toNat]? with
  | none => exact .inr rfl
  | some v => exact .inl (List.mem_of_getElem? h)
theorem ghost_round {C : List Cb} {up : List Bool} {V : List Vt} {g : Int} {k : Int} (hg : g < 0) (h : ∀ v ∈ V, v.root = g → k ≤ v.dist) : ∀ v ∈ roundP C up V, v.root = g → k + 1 ≤ v.dist := by
  have hv : ∀ i, (voteAt V i).root = g → k ≤ (voteAt V i).dist := fun i hi => by
    rcases voteAt_mem (votes := V) i with h1 | h1
    · exact h _ h1 hi
    · rw [h1] at hi
      have : (default : Vt).root = 0 := rfl
      omega
  have hh : ∀ (n i port : Int) (best : Vt), (best.root = g → k + 1 ≤ best.dist) → ((heardV n (voteAt V i) port best).root = g → k + 1 ≤ (heardV n (voteAt V i) port best).dist) := fun n i port best hb => by
    unfold heardV
    split
    · split
      · intro h1
        have := hv i h1
        simp only
        omega
      · exact hb
    · exact hb
  have hc : ∀ (n node : Int) (best : Vt) (x : Cb × Bool), (best.root = g → k + 1 ≤ best.dist) → ((hearC n V node best x).root = g → k + 1 ≤ (hearC n V node best x).dist) := fun n node best x hb => by
    unfold hearC
    split
    · split
      · refine hh _ _ _ _ ?_
        split
        · exact hh _ _ _ _ hb
        · exact hb
      · split
        · exact hh _ _ _ _ hb
        · exact hb
    · exact hb
  have hf : ∀ (n node : Int) (l : List (Cb × Bool)) (best : Vt), (best.root = g → k + 1 ≤ best.dist) → ((l.foldl (hearC n V node) best).root = g → k + 1 ≤ (l.foldl (hearC n V node) best).dist) := fun n node l => by
    induction l with
    | nil => exact fun best hb => hb
    | cons x l ih => exact fun best hb => ih _ (hc n node best x hb)
  intro v hm
  unfold roundP at hm
  obtain ⟨i, -, rfl⟩ := List.mem_map.1 hm
  exact hf _ _ _ _ (fun h1 => by simp only [selfV] at h1; omega)
theorem Round_n (N : List Nd) (C : List Cb) (An Ac Au Av : Option Addr) (kn kc ku kv n : Nat) (up : List Bool) (votes : List Vt) (w : World) (h : ArgsAt w N C An Ac Au Av kn kc ku kv up votes) (hl : votes.length = n) (hf : faultE N C up votes = 0) :
    Calls Try.prog 25 #[.agg #[.slice An N.length kn, .slice Ac C.length kc], .slice Au up.length ku, .slice Av n kv] w fun e w' => ∃ A kap, e = .returned (.tuple #[.slice A n kap, .int .i64 0]) ∧ RowsAt w' w'.heap.size 3 vcell A (roundP C up votes) ∧ Below w.heap.size w w' := by
  subst hl
  refine (Round_ N C An Ac Au Av kn kc ku kv up votes w h).mono ?_
  rintro e w' ⟨A, kap, L, rfl, h1, h2, h3, h4, h5⟩
  rw [hf] at h1 ⊢
  rw [if_pos rfl] at h1
  subst h1
  exact ⟨A, kap, by rw [roundP_len], h2, h5⟩
set_option maxHeartbeats 1000000 in
theorem ghost1_c (v : Vt) (g : Int) (gb : Nat) (w : World) (hb : Blk w gb 3 #[.int .i64 g]) (hne : v.root ≠ g) :
    Calls Try.prog 29 #[.agg #[.int .i64 v.root, .int .i64 v.dist, .int .i64 v.port], .pointer (some ⟨gb, 0, none⟩)] w fun e w' => e = .returned (.bool false) ∧ Below w.heap.size w w' := by
  have c0 := hb.cell 0 (v := .int .i64 g) rfl
  have l0 := hb.lt
  have q : (v.root == g) = false := beq_false_of_ne hne
  clear hb hne
  go_enter Try.func29, Try.ntmps29
  go_wp2_with fail
  go_ret
  exact ⟨rfl, by go_grown⟩
set_option maxHeartbeats 2000000 in
theorem index_none (V : List Vt) (A : Option Addr) (kap : Nat) (g : Int) (gb : Nat) (w : World) (hr : RowsAt w w.heap.size 3 vcell A V) (hb : Blk w gb 3 #[.int .i64 g]) (hl : V.length ≤ 1000000) (hne : ∀ v ∈ V, v.root ≠ g) :
    Calls Try.prog 44 #[.slice A V.length kap, .func (.func 29) #[] #[.pointer (some ⟨gb, 0, none⟩)]] w fun e w' => e = .returned (.int .i64 (-1)) ∧ Below w.heap.size w w' := by
  have HR := Kept.mk hr
  have HB := Kept.mk hb
  have HN := Kept.mk hne
  clear hr hb hne
  go_enter Try.func44, Try.ntmps44
  go_wp2_with fail
  go_loopw [8] (fun v wr => ∃ k : Nat, k ≤ V.length ∧ v = .int .i64 k ∧ Kept (Below w.heap.size w wr)) (fun v _ => V.length - (intOf v).toNat)
  case atStart => exact ⟨0, Nat.zero_le _, rfl, ⟨Below.refl _ _⟩⟩
  case round =>
    obtain ⟨k, hk, rfl, HD⟩ := hrel
    by_cases hlt : k < V.length
    · obtain ⟨x, b, off, hx, rfl, -, hb, hc⟩ := (HR.out.new_ HD.out).at_ hlt
      have c0 := hc 0 (.int .i64 x.root) rfl
      have c1 := hc 1 (.int .i64 x.dist) rfl
      have c2 := hc 2 (.int .i64 x.port) rfl
      simp only [Nat.add_zero] at c0
      have HX := Kept.mk (HN.out x (List.mem_of_getElem? hx))
      have HB2 := Kept.mk (HB.out.new_ HD.out)
      clear hx hc
      go_wp2_with (go_at_call 29; refine (ghost1_c x g gb _ HB2.out HX.out).mono ?_; rintro e w1 ⟨rfl, hb1⟩; have HD2 := Kept.mk (join HD.out hb1); clear hb1)
      go_roundw
      case rel => exact ⟨k + 1, by omega, by go_num, HD2⟩
      case measure => simp [intOf]; omega
    · obtain rfl : k = V.length := by omega
      go_wp2_with fail
      go_ret
      exact ⟨rfl, HD.out⟩
set_option maxHeartbeats 1000000 in
theorem contains_none (V : List Vt) (A : Option Addr) (kap : Nat) (g : Int) (gb : Nat) (w : World) (hr : RowsAt w w.heap.size 3 vcell A V) (hb : Blk w gb 3 #[.int .i64 g]) (hl : V.length ≤ 1000000) (hne : ∀ v ∈ V, v.root ≠ g) :
    Calls Try.prog 28 #[.slice A V.length kap, .func (.func 29) #[] #[.pointer (some ⟨gb, 0, none⟩)]] w fun e w' => e = .returned (.bool false) ∧ Below w.heap.size w w' := by
  have HR := Kept.mk hr
  have HB := Kept.mk hb
  have HN := Kept.mk hne
  clear hr hb hne
  go_enter Try.func28, Try.ntmps28
  go_wp2_with (go_at_call 44; refine (index_none V A kap g gb _ HR.out HB.out hl HN.out).mono ?_; rintro e w1 ⟨rfl, hb1⟩; have HD2 := Kept.mk hb1; clear hb1)
  go_ret
  exact ⟨rfl, HD2.out⟩
set_option maxRecDepth 100000 in
set_option maxHeartbeats 8000000 in
theorem ghosts_walk (N : List Nd) (C : List Cb) (An Ac Au : Option Addr) (kn kc ku : Nat) (up : List Bool) (root : Int) (w : World) (hp : PlanAt w w.heap.size ⟨N, C, An, kn, Ac, kc⟩) (hu : RowsAt w w.heap.size 1 bcell1 Au up) (hku : up.length ≤ ku) (hku2 : ku ≤ maxLen) (hr : 0 ≤ root ∧ root ≤ 65535) :
    Calls Try.prog 7 #[.agg #[.slice An N.length kn, .slice Ac C.length kc], .slice Au up.length ku, .int .u16 root] w fun e w' => e = .returned (.bool true) ∧ Below w.heap.size w w' := by
  have HP := Kept.mk hp
  have HU := Kept.mk hu
  obtain ⟨L1, L2⟩ := hp.len
  simp only at L1 L2
  have L3 : up.length ≤ 9223372036854775807 := by unfold maxLen at hku2; omega
  obtain ⟨r0, r1⟩ := hr
  clear hp hu hku hku2
  have HB := Kept.mk (Blk.new w 32 #[.slice An N.length kn, .slice Ac C.length kc])
  have HG : Kept (Below w.heap.size w (w.alloc (.cells #[.slice An N.length kn, .slice Ac C.length kc] 32))) := ⟨(Below.refl _ _).alloc (Nat.le_refl _) _⟩
  go_enter Try.func7, Try.ntmps7
  go_wp2_with (go_at_call 11; refine (awake_c _).mono ?_; rintro e w1 ⟨rfl, hb1⟩; have HB1 := Kept.mk (HB.out.new_ hb1); have HD1 := Kept.mk (join HG.out hb1); clear hb1; have k0 := HB1.out.cell 0 (v := .slice An N.length kn) rfl; have k1 := HB1.out.cell 1 (v := .slice Ac C.length kc) rfl; have z1 := HB1.out.lt)
  refine (great_ N.length C.length up.length 0 An Ac Au none kn kc ku 0 _ L1 L2 L3 (by omega)).mono ?_
  rintro e w2 ⟨rfl, hb2⟩
  have HB2 := Kept.mk (HB1.out.new_ hb2)
  have HD2 := Kept.mk (join HD1.out hb2)
  clear hb2 k0 k1 z1
  have k0 := HB2.out.cell 0 (v := .slice An N.length kn) rfl
  have k1 := HB2.out.cell 1 (v := .slice Ac C.length kc) rfl
  have z1 := HB2.out.lt
  cases hgr : greatB N.length C.length up.length 0 with
  | true =>
    go_wp2_with fail
    go_ret
    exact ⟨rfl, HD2.out⟩
  | false =>
    have hgn := great_no hgr
    have HP2 := Kept.mk (HP.out.new_ HD2.out)
    by_cases hv : validE N C = 0
    · have HV := Kept.mk hv
      by_cases hl : up.length = C.length
      · have HL := Kept.mk hl
        have q1 : ((up.length : Int) != (C.length : Int)) = false := by simp; omega
        have hn16 : N.length ≤ 16 := (valid_spec hv).1
        obtain ⟨g, hg⟩ : ∃ g, (-1 : Int) - root = g := ⟨_, rfl⟩
        have hg0 : g < 0 := by omega
        have hg1 : -65536 ≤ g := by omega
        obtain ⟨jj, hjj, hy0, hy1, hy2⟩ := info_parts infoVt
        clear hv hl
        go_wp2_with (go_at_call 15; refine (valid_ N C An Ac kn kc _ HP2.out).mono ?_; rintro e w3 ⟨rfl, hb3⟩; rw [HV.out]; have HB3 := Kept.mk (HB2.out.new_ hb3); have HD3 := Kept.mk (join HD2.out hb3); clear hb3 k0 k1 z1; have k0 := HB3.out.cell 0 (v := .slice An N.length kn) rfl; have k1 := HB3.out.cell 1 (v := .slice Ac C.length kc) rfl; have z1 := HB3.out.lt)
        have HGB := Kept.mk (Blk.new w3 3 #[.int .i64 g])
        have HB4 := Kept.mk (HB3.out.alloc (.cells #[.int .i64 g] 3))
        have HD4 := Kept.mk (HD3.out.alloc HD3.out.size (.cells #[.int .i64 g] 3))
        have hgb : w.heap.size + 1 ≤ w3.heap.size := z1
        generalize w3.heap.size = gb at *
        go_loopw [8, 38] (fun v8 v wr => ∃ k : Nat, k ≤ N.length ∧ v = .int .i64 k ∧ Kept (wr.ownsRow (w.heap.size + 1) 23 3 v8 k ((List.replicate k (⟨g, 0, -1⟩ : Vt)).flatMap vcell)) ∧ Kept (Blk wr w.heap.size 32 #[.slice An N.length kn, .slice Ac C.length kc]) ∧ Kept (Blk wr gb 3 #[.int .i64 g]) ∧ Kept (Below w.heap.size w wr)) (fun _ v _ => N.length - (intOf v).toNat)
        case atStart => exact ⟨0, Nat.zero_le _, rfl, ⟨World.ownsRow_nil _ _ _ _⟩, HB4, HGB, HD4⟩
        case round =>
          clear k0 k1 z1 HB4 HGB HD4
          obtain ⟨k, hk, rfl, HO, HB4, HGB, HD4⟩ := hrel
          have z4 := HD4.out.size
          have g0 := HGB.out.cell 0 (v := .int .i64 g) rfl
          have z5 := HGB.out.lt
          have k0 := HB4.out.cell 0 (v := .slice An N.length kn) rfl
          have k1 := HB4.out.cell 1 (v := .slice Ac C.length kc) rfl
          have z1 := HB4.out.lt
          by_cases hlt : k < N.length
          · have HR := Kept.mk (reads_made wr (va ⟨g, 0, -1⟩) 23 3 1 rfl)
            have HO2 := Kept.mk (HO.out.alloc (.cells (va ⟨g, 0, -1⟩) 23))
            have h1 : ∀ u ∈ (va ⟨g, 0, -1⟩).toList, u.oneCell' = true := (by intro u hu; simp [va] at hu; rcases hu with rfl | rfl | rfl <;> rfl)
            go_wp2_with (at_builtin; refine wpList_append_any _ rfl _ _ _ rfl (w.heap.size + 1) 23 jj _ 3 24 Try.underlying37 hjj hy0 hy1 hy2 rfl (by omega) _ k _ rfl HO2.out _ _ 1 1 _ rfl HR.out h1 (by unfold maxLen; omega) (by omega) (by simp; omega) ?_; intro v' w4 ho hgw hat; have HO3 := Kept.mk ho; have HGW := Kept.mk hgw; clear ho hgw hat)
            go_roundw
            case rel => exact ⟨k + 1, by omega, by go_num, ⟨by have h2 := HO3.out; rw [List.replicate_succ', List.flatMap_append]; simpa [va, vcell] using h2⟩, ⟨(HB4.out.alloc _).grown HGW.out (fun e => own_blk_ne HO2.out (HB4.out.alloc _) (by decide) e.symm)⟩, ⟨(HGB.out.alloc _).grown HGW.out (fun e => own_blk_ne HO2.out (HGB.out.alloc _) (by decide) e.symm)⟩, ⟨(HD4.out.alloc z4 _).grown HGW.out (by simp; omega) (fun j hj => by have := HO2.out.lt j hj; omega)⟩⟩
            case measure => simp [intOf]; omega
          · obtain rfl : k = N.length := by omega
            obtain ⟨A0, kap0, hv8⟩ := own_slice HO.out
            subst hv8
            have HR0 := Kept.mk (RowsAt.of_own HO.out vcell_len (by omega) (by simp))
            clear hlt
            go_wp2_with fail
            go_loopw [8, 49] (fun v8 v wr => ∃ (k : Nat) (A : Option Addr) (kap : Nat) (V : List Vt), k ≤ N.length ∧ v = .int .i64 k ∧ v8 = .slice A N.length kap ∧ Kept (V.length = N.length) ∧ Kept (RowsAt wr wr.heap.size 3 vcell A V) ∧ Kept (DistOk N.length V) ∧ Kept (∀ x ∈ V, x.root = g → (k : Int) ≤ x.dist) ∧ Kept (Blk wr w.heap.size 32 #[.slice An N.length kn, .slice Ac C.length kc]) ∧ Kept (Blk wr gb 3 #[.int .i64 g]) ∧ Kept (Below w.heap.size w wr)) (fun _ v _ => N.length - (intOf v).toNat)
            case atStart => exact ⟨0, A0, kap0, List.replicate N.length ⟨g, 0, -1⟩, Nat.zero_le _, rfl, rfl, ⟨by simp⟩, HR0, ⟨fun x hx => by
              have h1 := List.eq_of_mem_replicate hx
              have h2 : 0 < N.length := by
                rcases Nat.eq_zero_or_pos N.length with h | h
                · rw [h] at hx; simp at hx
                · exact h
              subst h1
              simp only; omega⟩, ⟨fun x hx _ => by
              have h1 := List.eq_of_mem_replicate hx
              subst h1
              simp⟩, HB4, HGB, HD4⟩
            case round =>
              clear k0 k1 z1 z4 g0 z5 HB4 HGB HD4 HO HR0
              obtain ⟨k, A, kap, V, hk, rfl, rfl, HVL, HR, HDI, HGH, HB4, HGB, HD4⟩ := hrel
              have z4 := HD4.out.size
              have g0 := HGB.out.cell 0 (v := .int .i64 g) rfl
              have z5 := HGB.out.lt
              have k0 := HB4.out.cell 0 (v := .slice An N.length kn) rfl
              have k1 := HB4.out.cell 1 (v := .slice Ac C.length kc) rfl
              have z1 := HB4.out.lt
              by_cases hlt : k < N.length
              · have HFA : Kept (faultE N C up V = 0) := ⟨faultE_zero.2 ⟨HV.out, HL.out, HVL.out, HDI.out⟩⟩
                have HAR : Kept (ArgsAt wr N C An Ac Au A kn kc ku kap up V) := ⟨HP.out.new_ HD4.out, HU.out.new_ HD4.out, HR.out, by rw [HL.out]; omega, by rw [HVL.out]; omega⟩
                have HRD := Kept.mk (Round_n N C An Ac Au A kn kc ku kap N.length up V wr HAR.out HVL.out HFA.out)
                have HGN := Kept.mk (ghost_round (C := C) (up := up) hg0 HGH.out)
                have HDN : Kept (DistOk N.length (roundP C up V)) := ⟨by have h1 := roundP_ok (cables := C) (up := up) (votes := V) (by rw [HVL.out]; exact HDI.out); rwa [HVL.out] at h1⟩
                have HLN : Kept ((roundP C up V).length = N.length) := ⟨by rw [roundP_len]; exact HVL.out⟩
                generalize roundP C up V = V2 at *
                obtain ⟨wo, rfl⟩ : ∃ wo : World, wo = wr := ⟨_, rfl⟩
                go_wp2_with (go_at_call 25; refine HRD.out.mono ?_; rintro e w5 ⟨A5, kap5, rfl, hr5, hb5⟩; have HR5 := Kept.mk hr5; have HB5 := Kept.mk (HB4.out.new_ hb5); have HG5 := Kept.mk (HGB.out.new_ hb5); have HD5 := Kept.mk (join HD4.out hb5); clear hr5 hb5)
                go_loopw [63] (fun v wr => ∃ i : Nat, i ≤ N.length ∧ v = .int .i64 i ∧ Kept (Below w5.heap.size w5 wr)) (fun v _ => N.length - (intOf v).toNat)
                case atStart => exact ⟨0, Nat.zero_le _, rfl, ⟨Below.refl _ _⟩⟩
                case round =>
                  clear z4 g0 z5 k0 k1 z1
                  obtain ⟨i, hi, rfl, HD6⟩ := hrel
                  have HG6 := Kept.mk (HG5.out.new_ HD6.out)
                  have g0 := HG6.out.cell 0 (v := .int .i64 g) rfl
                  have z5 := HG6.out.lt
                  have z6 := HD6.out.size
                  by_cases hli : i < N.length
                  · obtain ⟨x, b, off, hx, rfl, -, hb, hc⟩ := (HR5.out.new_ HD6.out).at_ (show i < V2.length by have := HLN.out; omega)
                    have c0 := hc 0 (.int .i64 x.root) rfl
                    have c1 := hc 1 (.int .i64 x.dist) rfl
                    have c2 := hc 2 (.int .i64 x.port) rfl
                    simp only [Nat.add_zero] at c0
                    have hxd := HGN.out x (List.mem_of_getElem? hx)
                    clear hx hc
                    by_cases hxg : x.root = g
                    · have h1 := hxd hxg
                      have q3 : (x.root == g) = true := by simpa using hxg
                      have d3 : decide (x.dist < (k : Int) + 1) = false := decide_eq_false (by omega)
                      clear hxd hxg
                      go_wp2_with fail
                      go_roundw
                      case rel => exact ⟨i + 1, by omega, by go_num, ⟨HD6.out.alloc z6 _⟩⟩
                      case measure => simp [intOf]; omega
                    · have q3 : (x.root == g) = false := beq_false_of_ne hxg
                      clear hxd hxg
                      go_wp2_with fail
                      go_roundw
                      case rel => exact ⟨i + 1, by omega, by go_num, ⟨HD6.out.alloc z6 _⟩⟩
                      case measure => simp [intOf]; omega
                  · obtain rfl : i = N.length := by omega
                    clear hli
                    go_wp2_with fail
                    go_roundw
                    case rel => exact ⟨k + 1, A5, kap5, V2, by omega, by go_num, rfl, HLN, ⟨HR5.out.new_ HD6.out⟩, HDN, ⟨fun x hx hg => by have := HGN.out x hx hg; omega⟩, ⟨HB5.out.new_ HD6.out⟩, HG6, ⟨join HD5.out HD6.out⟩⟩
                    case measure => simp [intOf]; omega
              · obtain rfl : k = N.length := by omega
                have HNE : Kept (∀ x ∈ V, x.root ≠ g) := ⟨fun x hx hg => by
                  have h1 := HGH.out x hx hg
                  have h2 := HDI.out x hx
                  omega⟩
                have HVL2 : Kept (V.length ≤ 1000000) := ⟨by rw [HVL.out]; omega⟩
                have HCN := Kept.mk (contains_none V A kap g gb wr HR.out HGB.out HVL2.out HNE.out)
                rw [HVL.out] at HCN
                clear hlt
                go_wp2_with (go_at_call 28; refine HCN.out.mono ?_; rintro e w5 ⟨rfl, hb5⟩; have HD5 := Kept.mk (join HD4.out hb5); clear hb5)
                go_ret
                exact ⟨rfl, HD5.out⟩
      · have q1 : ((up.length : Int) != (C.length : Int)) = true := by simp; omega
        clear hv hl
        go_wp2_with (go_at_call 15; refine (valid_ N C An Ac kn kc _ HP2.out).mono ?_; rintro e w3 ⟨rfl, hb3⟩; rw [HV.out]; have HB3 := Kept.mk (HB2.out.new_ hb3); have HD3 := Kept.mk (join HD2.out hb3); clear hb3 k0 k1 z1; have k0 := HB3.out.cell 0 (v := .slice An N.length kn) rfl; have k1 := HB3.out.cell 1 (v := .slice Ac C.length kc) rfl; have z1 := HB3.out.lt)
        go_ret
        exact ⟨rfl, HD3.out⟩
    · obtain ⟨ve, hve⟩ : ∃ ve, validE N C = ve := ⟨_, rfl⟩
      have q1 : (ve != 0) = true := by rw [← hve]; simpa using hv
      have q2 : (ve == 0) = false := by rw [← hve]; simpa using hv
      have HVE := Kept.mk hve
      clear hv hve
      go_wp2_with (go_at_call 15; refine (valid_ N C An Ac kn kc _ HP2.out).mono ?_; rintro e w3 ⟨rfl, hb3⟩; rw [HVE.out]; have HD3 := Kept.mk (join HD2.out hb3); clear hb3)
      go_ret
      exact ⟨rfl, HD3.out⟩
theorem walkElectionGhosts (p : Pl) (Au : Option Addr) (ku : Nat) (up : List Bool) (root : Int) (w : World) (hp : PlanAt w w.heap.size p) (hu : RowsAt w w.heap.size 1 bcell1 Au up) (hku : up.length ≤ ku) (hku2 : ku ≤ maxLen) (hr : 0 ≤ root ∧ root ≤ 65535) :
    Calls Try.prog 7 #[pv p, .slice Au up.length ku, .int .u16 root] w fun e w' => e = .returned (.bool true) ∧ Below w.heap.size w w' := by
  cases p
  exact ghosts_walk _ _ _ _ _ _ _ _ _ _ _ hp hu hku hku2 hr

set_option maxRecDepth 100000 in
theorem liftedElectionGhosts (os : Os) (started : os.Started) (H : Type) (enc : TypeId × Value → H) :
    ReturnsInHanded {} Try.checked os 7 .any (Rows.electionGhostsSpec.pre6 enc Try.prog Try.f7 Rows.electionGhostsRow.domain false) (Rows.electionGhostsSpec.post enc Try.prog Try.f7 false true false false) := by
  refine returnsInHanded_of_change (C := Try.checked) own started (by kernel_rfl) Try.func7
    (ChangeSpec.witness6 (enc := enc) (C := Try.checked) false ⟨#[], #[.agg #[.slice none 0 0, .slice none 0 0], .slice none 0 0, .int .u16 0], []⟩ 8 (by kernel_rfl) (by kernel_rfl) (by kernel_rfl) (by kernel_rfl)) ?_
  intro W base args ds gs before hval0 hW hcnd _
  have hval : ∀ (j : Nat) t v, Try.f7.params[j]? = some t → args[j]? = some v → Value.okWide Try.prog W .any base t v := hval0
  have hW' := hW
  obtain ⟨p, q, hA0, hV, rfl, hfz, hnd⟩ := hW
  have hA : DataW.TrodAll enc Try.prog W 0 (fun _ => true) true Try.f7.params.toList args.toList ds p := hA0
  rw [Try.params7] at hA hval
  obtain ⟨v0, vs0, d0, ds0, p0, q0, hargs, rfl, rfl, h0, r0⟩ := trodAll_cons hA
  obtain ⟨v1, vs1, d1, ds1, p1, q1, rfl, rfl, rfl, h1, r1⟩ := trodAll_cons r0
  obtain ⟨v2, vs2, d2, ds2, p2, q2, rfl, rfl, rfl, h2, r2⟩ := trodAll_cons r1
  obtain ⟨rfl, rfl, rfl⟩ := trodAll_nil r2
  obtain rfl : args = #[v0, v1, v2] := by cases args; simp_all
  obtain ⟨rfl, rfl⟩ := trodVars_none hV
  have k0 := h0
  have lt0 : ∀ x ∈ p0, x.block < W.heap.size := by obtain ⟨m, hm⟩ := k0; exact DataW.trod_lt m _ _ _ hm
  have k1 := h1
  have lt1 : ∀ x ∈ p1, x.block < W.heap.size := by obtain ⟨m, hm⟩ := k1; exact DataW.trod_lt m _ _ _ hm
  have k2 := h2
  have lt2 : ∀ x ∈ p2, x.block < W.heap.size := by obtain ⟨m, hm⟩ := k2; exact DataW.trod_lt m _ _ _ hm
  obtain ⟨q0, rfl, pa0⟩ := open_plan (hval 0 32 v0 rfl rfl) h0
  obtain ⟨A1, kap1, l1, rfl, r1x, le1, mx1⟩ := open_up (hval 1 33 v1 rfl rfl) h1
  obtain ⟨a2, rfl, -, -, ww2⟩ := open_int Try.underlying57 (hval 2 57 v2 rfl rfl) h2
  have w2 := bounds_u16 ww2
  clear hA0 hval0
  refine (walkElectionGhosts q0 A1 kap1 l1 a2 W pa0 r1x le1 mx1 w2).mono fun e W' ⟨he, bel⟩ => ?_
  subst he
  exact ⟨_, rfl, _, _, _, [], _, [], hW', trodAll_mk1 (shut_bool Try.underlying4 _), (trodAll_cons_mk (Below.trod laidOut (by kernel_rfl) (of_decide_eq_true (by kernel_rfl)) k0 bel lt0) (trodAll_cons_mk (Below.trod laidOut (by kernel_rfl) (of_decide_eq_true (by kernel_rfl)) k1 bel lt1) (trodAll_cons_mk (Below.trod laidOut (by kernel_rfl) (of_decide_eq_true (by kernel_rfl)) k2 bel lt2) trodAll_mk0))), rfl, bel.frame _, fun h => by cases h⟩
/-- The given statement. -/
theorem electionGhosts_holds : Rows.ElectionGhostsSaid :=
  OpenClaim.holds_of_wide 7 Try.f7 rfl rfl rfl rfl rfl rfl rfl ⟨rfl, rfl, rfl, rfl, rfl⟩ rfl rfl rfl rfl rfl (by kernel_rfl) Try.func7 (by kernel_rfl)
    (of_decide_eq_true (by kernel_rfl)) (by unfold Func.isWrapper; first | (rw [if_pos (by decide +kernel)]; kernel_rfl) | (rw [if_neg (by decide +kernel)]; exact ⟨rfl, rfl⟩))
    (fun os started H enc _ => liftedElectionGhosts os started H enc)
#print axioms electionGhosts_holds
end Go.Proofs.Ytckigonkcjceeaa
