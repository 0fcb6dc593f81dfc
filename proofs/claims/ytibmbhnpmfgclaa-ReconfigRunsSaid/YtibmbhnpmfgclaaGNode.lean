/- Nodes and ports: the program's validNode and hasPort, the reference's place. -/
import Derived.Test.YtibmbhnpmfgclaaGName
namespace Go.Proofs.Ytibmbhnpmfgclaa
set_option linter.unusedVariables false
set_option linter.unusedSimpArgs false
open Go.RowKit
theorem node_no {n : Nd} (h : nameB n.name = false) : nodeB n = false := by simp [nodeB, h]
theorem node_is {n : Nd} (h : nameB n.name = true) : nodeB n = portsB n := by simp [nodeB, h]
set_option maxHeartbeats 2000000 in
theorem validNode_c (n : Nd) (w : World) (hn : NdOk n) :
    Calls Try.prog 37 #[.agg #[.string n.name, .bool n.sw, .int .i64 n.ports]] w fun e w' => e = .returned (.bool (nodeB n)) ∧ Below w.heap.size w w' := by
  obtain ⟨h1, h2, h3⟩ := hn
  have HS := Kept.mk h1
  clear h1
  cases hb : nameB n.name with
  | false =>
    have HB := Kept.mk hb
    have HN := Kept.mk (node_no hb)
    clear hb
    go_enter Try.func37, Try.ntmps37
    go_wp2_with (go_at_call 62; refine (validName_c _ _ HS.out).mono ?_; rintro e w1 ⟨rfl, rfl⟩; rw [HB.out])
    go_ret
    exact ⟨ret_bool HN.out.symm, by go_grown⟩
  | true =>
    have HB := Kept.mk hb
    have HN := Kept.mk (node_is hb)
    clear hb
    cases hs : n.sw with
    | false =>
      have HP : Kept (portsB n = (n.ports == 1)) := ⟨by simp [portsB, hs]⟩
      clear hs
      go_enter Try.func37, Try.ntmps37
      go_wp2_with (go_at_call 62; refine (validName_c _ _ HS.out).mono ?_; rintro e w1 ⟨rfl, rfl⟩; rw [HB.out])
      go_ret
      exact ⟨ret_bool (by rw [HN.out, HP.out]), by go_grown⟩
    | true =>
      have HP : Kept (portsB n = (decide (1 ≤ n.ports) && decide (n.ports ≤ 8))) := ⟨by simp [portsB, hs]⟩
      clear hs
      by_cases y : 1 ≤ n.ports
      · have HQ : Kept (portsB n = decide (n.ports ≤ 8)) := ⟨by rw [HP.out, decide_eq_true y]; rfl⟩
        have d0 : decide (1 ≤ n.ports) = true := decide_eq_true y
        go_enter Try.func37, Try.ntmps37
        go_wp2_with (go_at_call 62; refine (validName_c _ _ HS.out).mono ?_; rintro e w1 ⟨rfl, rfl⟩; rw [HB.out])
        go_ret
        exact ⟨ret_bool (by rw [HN.out, HQ.out]), by go_grown⟩
      · have HQ : Kept (portsB n = false) := ⟨by rw [HP.out, decide_eq_false y]; rfl⟩
        have d0 : decide (1 ≤ n.ports) = false := decide_eq_false y
        go_enter Try.func37, Try.ntmps37
        go_wp2_with (go_at_call 62; refine (validName_c _ _ HS.out).mono ?_; rintro e w1 ⟨rfl, rfl⟩; rw [HB.out])
        go_ret
        exact ⟨ret_bool (by rw [HN.out, HQ.out]), by go_grown⟩
set_option maxHeartbeats 2000000 in
theorem hasPort_c (p : Pl) (node port : Int) (w : World) (hp : PlanAt w w.heap.size p) :
    Calls Try.prog 38 #[pv p, .int .i64 node, .int .i64 port] w fun e w' => e = .returned (.bool (hasB p.nodes node port)) ∧ Below w.heap.size w w' := by
  have HL := hp.len.1
  have HP := Kept.mk hp
  clear hp
  unfold pv
  by_cases y1 : 0 ≤ node
  · by_cases y2 : node < (p.nodes.length : Int)
    · obtain ⟨k, rfl⟩ : ∃ k : Nat, node = k := ⟨node.toNat, by omega⟩
      have y3 : k < p.nodes.length := by omega
      obtain ⟨x, b, off, hx, hA, -, hb, hc⟩ := HP.out.nr.at_ y3
      have c2 := hc 2 (.int .i64 x.ports) rfl
      have HG : Kept ((p.nodes.getD k default).ports = x.ports) := ⟨by rw [List.getD_eq_getElem?_getD, hx]; rfl⟩
      rw [hA]
      clear hx hA hc
      by_cases y4 : 0 ≤ port
      · have HB : Kept (hasB p.nodes k port = decide (port < x.ports)) := ⟨by unfold hasB; rw [show (k : Int).toNat = k by omega, HG.out, decide_eq_true y1, decide_eq_true y2, decide_eq_true y4]; rfl⟩
        go_enter Try.func38, Try.ntmps38
        go_wp2_with fail
        go_ret
        exact ⟨ret_bool HB.out.symm, by go_grown⟩
      · have HB : Kept (hasB p.nodes k port = false) := ⟨by simp [hasB, y4]⟩
        have d1 : decide (0 ≤ port) = false := decide_eq_false y4
        go_enter Try.func38, Try.ntmps38
        go_wp2_with fail
        go_ret
        exact ⟨ret_bool HB.out.symm, by go_grown⟩
    · have HB : Kept (hasB p.nodes node port = false) := ⟨by simp [hasB, y2]⟩
      have d1 : decide (node < (p.nodes.length : Int)) = false := decide_eq_false y2
      go_enter Try.func38, Try.ntmps38
      go_wp2_with fail
      go_ret
      exact ⟨ret_bool HB.out.symm, by go_grown⟩
  · have HB : Kept (hasB p.nodes node port = false) := ⟨by simp [hasB, y1]⟩
    have d1 : decide (0 ≤ node) = false := decide_eq_false y1
    go_enter Try.func38, Try.ntmps38
    go_wp2_with fail
    go_ret
    exact ⟨ret_bool HB.out.symm, by go_grown⟩
end Go.Proofs.Ytibmbhnpmfgclaa
