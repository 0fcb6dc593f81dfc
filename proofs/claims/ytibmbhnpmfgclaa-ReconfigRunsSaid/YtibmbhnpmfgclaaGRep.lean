/- The program's repeats: whether a name or an end of a cable occurs twice, found with maps of what was seen. -/
import Derived.Test.YtibmbhnpmfgclaaGNode
import Derived.Test.YtibmbhnpmfgclaaSeen
namespace Go.Proofs.Ytibmbhnpmfgclaa
set_option linter.unusedVariables false
set_option linter.unusedSimpArgs false
open Go.RowKit Go.Maps Go.WideMaps
theorem tSize : ∃ m, Try.prog.types.size = m + 1 := ⟨Try.prog.types.size - 1, by kernel_rfl⟩
theorem arrEnd : Go.WideMaps.ArrKey Try.prog 106 3 2 := ⟨Try.underlying106, by kernel_rfl, by kernel_rfl, by kernel_rfl⟩
theorem lawEnd : Keyed Try.prog 106 := Keyed.of_law arrEnd.law
theorem lawName : Keyed Try.prog 9 := string_keyed Try.underlying9
theorem zeroB (w : World) : (zeroValue 4).run Try.prog w = .ok (.bool false) w := by kernel_rfl
def endV (x : Int × Int) : Value := .agg #[.int .i64 x.1, .int .i64 x.2]
def nameV (s : ByteArray) : Value := .string s
theorem endV_inj (x y : Int × Int) (h : endV x = endV y) : x = y := by
  unfold endV at h
  simp at h
  exact Prod.ext h.1 h.2
theorem nameV_inj (x y : ByteArray) (h : nameV x = nameV y) : x = y := by unfold nameV at h; simpa using h
theorem nameV_key {s : ByteArray} (h : s.size ≤ maxLen) : ∃ kl, keyOf Try.prog 9 (nameV s) = some kl := ⟨_, keyOf_string_mk Try.underlying9 h⟩
theorem wf64 {x : Int} (h : I64 x) : (Lit.int .i64 x).wf = true := WalkArith.wf_i64 h
theorem endV_key {x y : Int} (hx : I64 x) (hy : I64 y) : ∃ kl, keyOf Try.prog 106 (endV (x, y)) = some kl := ⟨_, Go.WideMaps.keyOf_pair arrEnd Try.underlying3 tSize (wf64 hx) (wf64 hy)⟩
def repB (nodes : List Nd) (cables : List Cb) : Bool := dupB (names nodes) || dupB (ends cables)
theorem rep_names {nodes : List Nd} {cables : List Cb} {k : Nat} {n : Nd} (hn : nodes[k]? = some n) (h : n.name ∈ names (nodes.take k)) : repB nodes cables = true := by
  have : ¬ (names nodes).Nodup := fun hd => by
    have h1 : (names (nodes.take (k + 1))).Nodup := by unfold names; rw [List.map_take]; exact nodup_prefix hd
    rw [take_next hn] at h1
    unfold names at h1 h
    rw [List.map_append, List.map_singleton, nodup_snoc] at h1
    exact h1.2 h
  simp [repB, dup_yes this]
theorem names_next {nodes : List Nd} {k : Nat} {n : Nd} (hn : nodes[k]? = some n) : names (nodes.take (k + 1)) = names (nodes.take k) ++ [n.name] := by
  unfold names; rw [take_next hn, List.map_append, List.map_singleton]
theorem ends_next {cables : List Cb} {k : Nat} {c : Cb} (hc : cables[k]? = some c) : ends (cables.take (k + 1)) = ends (cables.take k) ++ [(c.a, c.ap), (c.b, c.bp)] := by
  unfold ends; rw [take_next hc, List.flatMap_append]; simp
theorem rep_ends {nodes : List Nd} {cables : List Cb} {k : Nat} {c : Cb} (hc : cables[k]? = some c) {l : List (Int × Int)} (hl : l.IsPrefix (ends (cables.take (k + 1)))) (h : ¬ l.Nodup) : repB nodes cables = true := by
  have : ¬ (ends cables).Nodup := fun hd => by
    have h1 : (ends (cables.take (k + 1))).IsPrefix (ends cables) := by
      refine ⟨ends (cables.drop (k + 1)), ?_⟩
      unfold ends
      rw [← List.flatMap_append, List.take_append_drop]
    exact h ((hd.sublist h1.sublist).sublist hl.sublist)
  simp [repB, dup_yes this]
theorem rep_no {nodes : List Nd} {cables : List Cb} (h1 : (names nodes).Nodup) (h2 : (ends cables).Nodup) : repB nodes cables = false := by simp [repB, dup_no h1, dup_no h2]
set_option maxRecDepth 100000 in
set_option maxHeartbeats 4000000 in
theorem repeats_c (p : Pl) (w : World) (hp : PlanAt w w.heap.size p) (hn : p.nodes.length ≤ 1000) (hc : p.cables.length ≤ 1000) :
    Calls Try.prog 39 #[pv p] w fun e w' => e = .returned (.bool (repB p.nodes p.cables)) ∧ Below w.heap.size w w' := by
  have HP := Kept.mk hp
  clear hp
  have hmm := @run_makeMap Try.prog
  unfold pv
  go_enter Try.func39, Try.ntmps39
  go_wp2_with fail
  have HB0 := Kept.mk ((Blk.new w 27 #[.slice p.An p.nodes.length p.kn, .slice p.Ac p.cables.length p.kc]).alloc (.map #[] 0))
  have HS0 := Kept.mk (Seen.made (w.alloc (.cells #[.slice p.An p.nodes.length p.kn, .slice p.Ac p.cables.length p.kc] 27)) Try.prog 9 nameV)
  go_loopw [15] (fun v15 wr => ∃ k : Nat, k ≤ p.nodes.length ∧ v15 = .int .i64 k ∧ Kept (names (p.nodes.take k)).Nodup ∧ Kept (Blk wr w.heap.size 27 #[.slice p.An p.nodes.length p.kn, .slice p.Ac p.cables.length p.kc]) ∧ Kept (Seen Try.prog 9 nameV wr (w.heap.size + 1) k (names (p.nodes.take k))) ∧ Kept (Below w.heap.size w wr)) (fun v15 _ => p.nodes.length - (intOf v15).toNat)
  case atStart => exact ⟨0, Nat.zero_le _, rfl, ⟨by simp [names]⟩, HB0, ⟨by have := HS0.out; rw [World.size_alloc] at this; simpa [names] using this⟩, ⟨by go_grown⟩⟩
  case round =>
    obtain ⟨k, hk, rfl, HN, HB, HS, HD⟩ := hrel
    have hz := HD.out.size
    by_cases hlt : k < p.nodes.length
    · obtain ⟨x, b, off, hx, hA, -, hb, hcell⟩ := (HP.out.new_ HD.out).nr.at_ hlt
      have c0 := hcell 0 (.string x.name) rfl
      have c1 := hcell 1 (.bool x.sw) rfl
      have c2 := hcell 2 (.int .i64 x.ports) rfl
      have hok := (HP.out.nok x (List.mem_of_getElem? hx)).1
      have HX := Kept.mk hx
      have HK := Kept.mk (nameV_key hok)
      simp only [Nat.add_zero] at c0
      have HA := Kept.mk hA
      rw [hA]
      clear hx hcell hok hA
      by_cases hin : x.name ∈ names (p.nodes.take k)
      · have HR := Kept.mk (rep_names (cables := p.cables) HX.out hin)
        have HI := Kept.mk (decide_eq_true hin)
        clear hin
        go_wp2_with (at_lookup; refine wpList_lookSeen rfl _ _ 104 rfl 9 4 lawName Try.underlying104 (zeroB _) (w.heap.size + 1) k (names (p.nodes.take k)) rfl (HS.out.alloc _) x.name rfl HK.out ?_; rw [HI.out])
        go_ret
        exact ⟨ret_bool HR.out.symm, HD.out.alloc hz _⟩
      · have HI := Kept.mk (decide_eq_false hin)
        have HN2 : Kept (names (p.nodes.take (k + 1))).Nodup := ⟨by rw [names_next HX.out, nodup_snoc]; exact ⟨HN.out, hin⟩⟩
        clear hin
        go_wp2_with (first | (at_lookup; refine wpList_lookSeen rfl _ _ 104 rfl 9 4 lawName Try.underlying104 (zeroB _) (w.heap.size + 1) k (names (p.nodes.take k)) rfl (HS.out.alloc _) x.name rfl HK.out ?_; rw [HI.out]) | (at_mapUpdate; refine wpList_setSeen rfl _ _ _ 104 rfl 9 4 lawName Try.underlying104 (w.heap.size + 1) k (names (p.nodes.take k)) rfl (HS.out.alloc _) (by unfold maxLen; omega) x.name rfl rfl HK.out nameV_inj ?_; intro w1 hs1 hg1; have HS1 := Kept.mk hs1; have HG1 := Kept.mk hg1; clear hs1 hg1))
        go_roundw
        case rel => exact ⟨k + 1, by omega, by go_num, HN2, ⟨by rw [← HA.out]; exact (HB.out.alloc _).grown HG1.out (by simp)⟩, ⟨by rw [names_next HX.out]; exact HS1.out⟩, ⟨below_grown (HD.out.alloc hz _) HG1.out (by omega) (by simp; omega)⟩⟩
        case measure => simp [intOf]; omega
    · obtain rfl : k = p.nodes.length := by omega
      have HN2 : Kept (names p.nodes).Nodup := ⟨by have := HN.out; rwa [List.take_length] at this⟩
      have k0 := HB.out.cell 0 (v := .slice p.An p.nodes.length p.kn) rfl
      have k1 := HB.out.cell 1 (v := .slice p.Ac p.cables.length p.kc) rfl
      obtain ⟨wa, rfl⟩ : ∃ wa : World, wa = wr := ⟨_, rfl⟩
      have HSE := Kept.mk (Seen.made wa Try.prog 106 endV)
      have HB1 := Kept.mk (HB.out.alloc (.map #[] 0))
      have hzz : w.heap.size < wa.heap.size := HB.out.lt
      clear hlt HN HS
      go_wp2_with fail
      go_loopw [31] (fun v31 wr2 => ∃ k : Nat, k ≤ p.cables.length ∧ v31 = .int .i64 k ∧ Kept (ends (p.cables.take k)).Nodup ∧ Kept (Seen Try.prog 106 endV wr2 wa.heap.size (2 * k) (ends (p.cables.take k))) ∧ Kept (Below wa.heap.size wa wr2)) (fun v31 _ => p.cables.length - (intOf v31).toNat)
      case atStart => exact ⟨0, Nat.zero_le _, rfl, ⟨by simp [ends]⟩, ⟨by simpa [ends] using HSE.out⟩, ⟨by go_grown⟩⟩
      case round =>
        obtain ⟨k, hk, rfl, HN, HS, HD2⟩ := hrel
        obtain ⟨wo, rfl⟩ : ∃ wo : World, wo = wr := ⟨_, rfl⟩
        have hz2 := HD2.out.size
        by_cases hlt : k < p.cables.length
        · obtain ⟨x, b, off, hx, hA, -, hb, hcell⟩ := ((HP.out.new_ HD.out).new_ HD2.out).cr.at_ hlt
          have c0 := hcell 0 (.int .i64 x.a) rfl
          have c1 := hcell 1 (.int .i64 x.ap) rfl
          have c2 := hcell 2 (.int .i64 x.b) rfl
          have c3 := hcell 3 (.int .i64 x.bp) rfl
          have c4 := hcell 4 (.int .i64 x.delay) rfl
          have c5 := hcell 5 (.int .i64 x.cap) rfl
          have hok := HP.out.cok x (List.mem_of_getElem? hx)
          have HX := Kept.mk hx
          have HK0 := Kept.mk (endV_key hok.1 hok.2.1)
          have HK1 := Kept.mk (endV_key hok.2.2.1 hok.2.2.2.1)
          have HE := Kept.mk (ends_next hx)
          simp only [Nat.add_zero] at c0
          have HA := Kept.mk hA
          rw [hA]
          clear hx hcell hok hA
          go_wp2_with fail
          go_loopw [46] (fun v46 wr3 => ∃ j : Nat, j ≤ 2 ∧ v46 = .int .i64 j ∧ Kept (ends (p.cables.take k) ++ [(x.a, x.ap), (x.b, x.bp)].take j).Nodup ∧ Kept (Seen Try.prog 106 endV wr3 wa.heap.size (2 * k + j) (ends (p.cables.take k) ++ [(x.a, x.ap), (x.b, x.bp)].take j)) ∧ Kept (Below wa.heap.size wa wr3)) (fun v46 _ => 2 - (intOf v46).toNat)
          case atStart => exact ⟨0, by omega, rfl, ⟨by simpa using HN.out⟩, ⟨by simpa using HS.out.alloc _⟩, ⟨HD2.out.alloc hz2 _⟩⟩
          case round =>
            obtain ⟨j, hj, rfl, HN3, HS3, HD3⟩ := hrel
            have hz3 := HD3.out.size
            have i0 : ∀ w, (Instr.index 107 (.agg #[.int .i64 x.a, .int .i64 x.ap, .int .i64 x.b, .int .i64 x.bp]) (.int .i64 0)).run Try.prog w = .ok (.agg #[.int .i64 x.a, .int .i64 x.ap]) w := fun _ => by kernel_rfl
            have i1 : ∀ w, (Instr.index 107 (.agg #[.int .i64 x.a, .int .i64 x.ap, .int .i64 x.b, .int .i64 x.bp]) (.int .i64 1)).run Try.prog w = .ok (.agg #[.int .i64 x.b, .int .i64 x.bp]) w := fun _ => by kernel_rfl
            rcases (by omega : j = 0 ∨ j = 1 ∨ j = 2) with rfl | rfl | rfl
            · have HT : Kept ([(x.a, x.ap), (x.b, x.bp)].take 1 = [(x.a, x.ap), (x.b, x.bp)].take 0 ++ [(x.a, x.ap)]) := ⟨rfl⟩
              by_cases hin : (x.a, x.ap) ∈ ends (p.cables.take k) ++ [(x.a, x.ap), (x.b, x.bp)].take 0
              · have HR := Kept.mk (rep_ends (nodes := p.nodes) HX.out (l := ends (p.cables.take k) ++ [(x.a, x.ap), (x.b, x.bp)].take 1) ⟨[(x.a, x.ap), (x.b, x.bp)].drop 1, by rw [HE.out, List.append_assoc, List.take_append_drop]⟩ (by rw [HT.out, ← List.append_assoc, nodup_snoc]; exact fun h => h.2 hin))
                have HI := Kept.mk (fun i : Decidable ((x.a, x.ap) ∈ ends (p.cables.take k) ++ [(x.a, x.ap), (x.b, x.bp)].take 0) => @decide_eq_true _ i hin)
                clear hin
                go_wp2_with (at_lookup; refine wpList_lookSeen rfl _ _ 105 rfl 106 4 lawEnd Try.underlying105 (zeroB _) wa.heap.size (2 * k + 0) (ends (p.cables.take k) ++ [(x.a, x.ap), (x.b, x.bp)].take 0) rfl (HS3.out.alloc _) (x.a, x.ap) rfl HK0.out ?_; rw [HI.out])
                go_ret
                exact ⟨ret_bool HR.out.symm, HD.out.trans ((HD3.out.alloc hz3 _).mono (by omega))⟩
              · have HI := Kept.mk (fun i : Decidable ((x.a, x.ap) ∈ ends (p.cables.take k) ++ [(x.a, x.ap), (x.b, x.bp)].take 0) => @decide_eq_false _ i hin)
                have HN4 : Kept (ends (p.cables.take k) ++ [(x.a, x.ap), (x.b, x.bp)].take 1).Nodup := ⟨by rw [HT.out, ← List.append_assoc, nodup_snoc]; exact ⟨HN3.out, hin⟩⟩
                clear hin
                go_wp2_with (first | (at_lookup; refine wpList_lookSeen rfl _ _ 105 rfl 106 4 lawEnd Try.underlying105 (zeroB _) wa.heap.size (2 * k + 0) (ends (p.cables.take k) ++ [(x.a, x.ap), (x.b, x.bp)].take 0) rfl (HS3.out.alloc _) (x.a, x.ap) rfl HK0.out ?_; rw [HI.out]) | (at_mapUpdate; refine wpList_setSeen rfl _ _ _ 105 rfl 106 4 lawEnd Try.underlying105 wa.heap.size (2 * k + 0) (ends (p.cables.take k) ++ [(x.a, x.ap), (x.b, x.bp)].take 0) rfl (HS3.out.alloc _) (by unfold maxLen; omega) (x.a, x.ap) rfl rfl HK0.out endV_inj ?_; intro w1 hs1 hg1; have HS1 := Kept.mk hs1; have HG1 := Kept.mk hg1; clear hs1 hg1))
                go_roundw
                case rel => exact ⟨1, by omega, rfl, HN4, ⟨by rw [HT.out, ← List.append_assoc]; exact HS1.out⟩, ⟨below_grown (HD3.out.alloc hz3 _) HG1.out (by omega) (by simp; omega)⟩⟩
                case measure => simp [intOf]
            · have HT : Kept ([(x.a, x.ap), (x.b, x.bp)].take 2 = [(x.a, x.ap), (x.b, x.bp)].take 1 ++ [(x.b, x.bp)]) := ⟨rfl⟩
              by_cases hin : (x.b, x.bp) ∈ ends (p.cables.take k) ++ [(x.a, x.ap), (x.b, x.bp)].take 1
              · have HR := Kept.mk (rep_ends (nodes := p.nodes) HX.out (l := ends (p.cables.take k) ++ [(x.a, x.ap), (x.b, x.bp)].take 2) ⟨[(x.a, x.ap), (x.b, x.bp)].drop 2, by rw [HE.out, List.append_assoc, List.take_append_drop]⟩ (by rw [HT.out, ← List.append_assoc, nodup_snoc]; exact fun h => h.2 hin))
                have HI := Kept.mk (fun i : Decidable ((x.b, x.bp) ∈ ends (p.cables.take k) ++ [(x.a, x.ap), (x.b, x.bp)].take 1) => @decide_eq_true _ i hin)
                clear hin
                go_wp2_with (at_lookup; refine wpList_lookSeen rfl _ _ 105 rfl 106 4 lawEnd Try.underlying105 (zeroB _) wa.heap.size (2 * k + 1) (ends (p.cables.take k) ++ [(x.a, x.ap), (x.b, x.bp)].take 1) rfl (HS3.out.alloc _) (x.b, x.bp) rfl HK1.out ?_; rw [HI.out])
                go_ret
                exact ⟨ret_bool HR.out.symm, HD.out.trans ((HD3.out.alloc hz3 _).mono (by omega))⟩
              · have HI := Kept.mk (fun i : Decidable ((x.b, x.bp) ∈ ends (p.cables.take k) ++ [(x.a, x.ap), (x.b, x.bp)].take 1) => @decide_eq_false _ i hin)
                have HN4 : Kept (ends (p.cables.take k) ++ [(x.a, x.ap), (x.b, x.bp)].take 2).Nodup := ⟨by rw [HT.out, ← List.append_assoc, nodup_snoc]; exact ⟨HN3.out, hin⟩⟩
                clear hin
                go_wp2_with (first | (at_lookup; refine wpList_lookSeen rfl _ _ 105 rfl 106 4 lawEnd Try.underlying105 (zeroB _) wa.heap.size (2 * k + 1) (ends (p.cables.take k) ++ [(x.a, x.ap), (x.b, x.bp)].take 1) rfl (HS3.out.alloc _) (x.b, x.bp) rfl HK1.out ?_; rw [HI.out]) | (at_mapUpdate; refine wpList_setSeen rfl _ _ _ 105 rfl 106 4 lawEnd Try.underlying105 wa.heap.size (2 * k + 1) (ends (p.cables.take k) ++ [(x.a, x.ap), (x.b, x.bp)].take 1) rfl (HS3.out.alloc _) (by unfold maxLen; omega) (x.b, x.bp) rfl rfl HK1.out endV_inj ?_; intro w1 hs1 hg1; have HS1 := Kept.mk hs1; have HG1 := Kept.mk hg1; clear hs1 hg1))
                go_roundw
                case rel => exact ⟨2, by omega, rfl, HN4, ⟨by rw [HT.out, ← List.append_assoc]; exact HS1.out⟩, ⟨below_grown (HD3.out.alloc hz3 _) HG1.out (by omega) (by simp; omega)⟩⟩
                case measure => simp [intOf]
            · have HN5 : Kept (ends (p.cables.take (k + 1))).Nodup := ⟨by rw [HE.out]; exact HN3.out⟩
              have HS5 : Kept (Seen Try.prog 106 endV wr wa.heap.size (2 * (k + 1)) (ends (p.cables.take (k + 1)))) := ⟨by rw [HE.out]; exact HS3.out⟩
              go_wp2_with fail
              go_roundw
              case rel => exact ⟨k + 1, by omega, by go_num, HN5, HS5, HD3⟩
              case measure => simp [intOf]; omega
        · obtain rfl : k = p.cables.length := by omega
          have HR : Kept (repB p.nodes p.cables = false) := ⟨rep_no HN2.out (by have := HN.out; rwa [List.take_length] at this)⟩
          clear hlt
          go_wp2_with fail
          go_ret
          exact ⟨ret_bool HR.out.symm, HD.out.trans (HD2.out.mono (by omega))⟩
end Go.Proofs.Ytibmbhnpmfgclaa
