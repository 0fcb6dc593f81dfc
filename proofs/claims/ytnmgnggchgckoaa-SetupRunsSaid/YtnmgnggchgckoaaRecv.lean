/- Setup: the walks of Receive, Start, Stop. -/
import Derived.Test.YtnmgnggchgckoaaOpens
import Derived.Test.YtnmgnggchgckoaaCloses
namespace Go.Proofs.Ytnmgnggchgckoaa
set_option linter.unusedVariables false
set_option linter.unusedSimpArgs false
open Go.RowKit
def Recvs (w : World) (L : Loc) (r : Ch × List Msg × Int) (e : Ending) (w' : World) : Prop :=
  ∃ v, e = .returned (.tuple #[v, .int .i64 r.2.2]) ∧ w'.ownsRow w.heap.size 38 3 v r.2.1.length (mcells r.2.1) ∧ IsCh w' L r.1 ∧ OnlyP (fun x => x = L.S) w w'
def startP (c : Ch) : Ch × List Msg × Int := if c.st 0 = 0 then ((openP c 0).1, (openP c 0).2, if (openP c 0).1.st 0 = 3 then 5 else 0) else (c, [], 6)
def stopP (c : Ch) : Ch × List Msg × Int := if c.st 0 = 1 ∨ c.st 0 = 2 then ((closeP c 0).1, (closeP c 0).2, 0) else (c, [], 6)
theorem recvs_none {w w1 : World} {L : Loc} {c : Ch} {x : Int} (h : IsCh w1 L c) (ho : OnlyP (fun x => x = L.S) w w1) : Recvs w L (c, [], x) (.returned (.tuple #[.slice none 0 0, .int .i64 x])) w1 :=
  ⟨_, rfl, World.ownsRow_nil _ _ _ _, h, ho⟩
theorem recvs_turn {w w1 w2 : World} {L : Loc} {c : Ch} {ms : List Msg} {v : Value} {x : Int} (ho : OnlyP (fun x => x = L.S) w w1) (h : Turns w1 L c ms (.returned v) w2) : Recvs w L (c, ms, x) (.returned (.tuple #[v, .int .i64 x])) w2 := by
  obtain ⟨v', he, hown, hc, ho2⟩ := h
  cases he
  exact ⟨v, rfl, ownsRow_base hown ho.size, hc, ho.trans ho2⟩
theorem recvs_drewN {w w1 : World} {L : Loc} {r : Ch × List Msg × Int} {e : Ending} (h : Recvs w L r e w1) (n : Nat) : Recvs w L r e (w1.drewN n) := by
  obtain ⟨v, he, hown, hc, ho2⟩ := h
  exact ⟨v, he, hown, hc.drewN n, ho2.drewN n⟩
theorem has_zero {c : Ch} (h : Ok c) : c.hasB 0 = true := hasB_iff.2 ⟨by omega, by have := h.n1; omega⟩
theorem openP_n (c : Ch) (i : Nat) : (openP c i).1.n = c.n := by
  unfold openP; repeat' split
  all_goals first | rfl | exact put_n _ _ _
theorem closeP_n (c : Ch) (i : Nat) : (closeP c i).1.n = c.n := by
  unfold closeP; repeat' split
  all_goals first | rfl | exact put_n _ _ _
theorem turnP_n (c : Ch) (i : Nat) (a b k : Int) : (turnP c i a b k).1.n = c.n := by
  unfold turnP; repeat' split
  all_goals first | rfl | exact put_n _ _ _
set_option maxHeartbeats 1000000 in
theorem start_c (c : Ch) (w : World) (L : Loc) (h : IsCh w L c) :
    Calls Try.prog 19 #[.pointer (some ⟨L.p, 0, none⟩)] w (Recvs w L (startP c)) := by
  have hn1 := h.ok.n1
  have hn := h.ok.n2
  have c3 := h.tab.cell 3 (v := .slice (some ⟨L.S, 0, none⟩) c.n c.n) rfl
  have cs := h.state (i := 0) (by omega)
  have hs5 := h.ok.st 0 (by omega)
  have hlt := h.tab.lt
  have hls := h.row.lt
  have H := Kept.mk h
  have HB := Kept.mk (has_zero h.ok)
  clear h
  by_cases h0 : c.st 0 = 0
  · rw [h0] at cs
    obtain ⟨s, hs⟩ : ∃ s, (openP c 0).1.st 0 = s := ⟨_, rfl⟩
    obtain ⟨x, hx, hx2⟩ : ∃ x : Int, startP c = ((openP c 0).1, (openP c 0).2, x) ∧ ((s = 3 ∧ x = 5) ∨ ((s == 3) = false ∧ x = 0)) := by
      by_cases h3 : s = 3
      · exact ⟨5, by unfold startP; rw [if_pos h0, hs, if_pos h3], .inl ⟨h3, rfl⟩⟩
      · exact ⟨0, by unfold startP; rw [if_pos h0, hs, if_neg h3], .inr ⟨by simpa using h3, rfl⟩⟩
    rw [hx]
    clear h0 hs5 hx
    have HS := Kept.mk hs
    clear hs
    rcases hx2 with ⟨rfl, rfl⟩ | ⟨q3, rfl⟩
    all_goals
      go_enter Try.func19, Try.ntmps19
      go_wp2_with fail
      refine (has_c c 0 _ L H.out).mono ?_
      rintro e w' ⟨rfl, rfl⟩
      rw [HB.out]
      go_wp2_with fail
      refine (open_c c 0 _ L H.out (by omega)).mono ?_
      rintro e w1 hT
      obtain ⟨v, rfl, hown, hc, ho⟩ := hT
      have HR : Kept (Turns w L (openP c 0).1 (openP c 0).2 (.returned v) w1) := ⟨⟨v, rfl, hown, hc, ho⟩⟩
      have d3 := hc.tab.cell 3 (v := .slice (some ⟨L.S, 0, none⟩) (openP c 0).1.n (openP c 0).1.n) rfl
      have ds := hc.state (i := 0) (by rw [openP_n]; omega)
      have hlt1 := hc.tab.lt
      have hls1 := hc.row.lt
      rw [openP_n] at d3
      rw [HS.out] at ds
      clear hown hc ho
      generalize openP c 0 = r at *
      go_wp2_with fail
      go_ret2
      exact recvs_turn (OnlyP.refl _ _) HR.out
  · have HT : Kept (startP c = (c, [], 6)) := ⟨by unfold startP; rw [if_neg h0]⟩
    have q0 : (c.st 0 != 0) = true := by simpa using h0
    rw [HT.out]
    generalize c.st 0 = s at *
    clear h0
    go_enter Try.func19, Try.ntmps19
    go_wp2_with fail
    refine (has_c c 0 _ L H.out).mono ?_
    rintro e w' ⟨rfl, rfl⟩
    rw [HB.out]
    go_wp2_with fail
    go_ret2
    exact recvs_none H.out (OnlyP.refl _ _)
set_option maxHeartbeats 1000000 in
theorem stop_c (c : Ch) (w : World) (L : Loc) (h : IsCh w L c) :
    Calls Try.prog 21 #[.pointer (some ⟨L.p, 0, none⟩)] w (Recvs w L (stopP c)) := by
  have hn1 := h.ok.n1
  have hn := h.ok.n2
  have c3 := h.tab.cell 3 (v := .slice (some ⟨L.S, 0, none⟩) c.n c.n) rfl
  have cs := h.state (i := 0) (by omega)
  have hs5 := h.ok.st 0 (by omega)
  have hlt := h.tab.lt
  have hls := h.row.lt
  have H := Kept.mk h
  have HB := Kept.mk (has_zero h.ok)
  clear h
  obtain ⟨s, hs⟩ : ∃ s, c.st 0 = s := ⟨_, rfl⟩
  rw [hs] at cs hs5
  have hsc : s = 0 ∨ s = 1 ∨ s = 2 ∨ s = 3 ∨ s = 4 ∨ s = 5 := by omega
  rcases hsc with rfl | rfl | rfl | rfl | rfl | rfl
  rotate_left
  iterate 2
    · have HT : Kept (stopP c = ((closeP c 0).1, (closeP c 0).2, 0)) := ⟨by unfold stopP; rw [hs]; rfl⟩
      rw [HT.out]
      clear hs
      go_enter Try.func21, Try.ntmps21
      go_wp2_with fail
      refine (has_c c 0 _ L H.out).mono ?_
      rintro e w' ⟨rfl, rfl⟩
      rw [HB.out]
      go_wp2_with fail
      refine (close_c c 0 _ L H.out (by omega)).mono ?_
      rintro e w1 hT
      obtain ⟨v, rfl, hown, hc, ho⟩ := hT
      have HR : Kept (Turns w L (closeP c 0).1 (closeP c 0).2 (.returned v) w1) := ⟨⟨v, rfl, hown, hc, ho⟩⟩
      clear hown hc ho
      go_wp2_with fail
      go_ret2
      exact recvs_turn (OnlyP.refl _ _) HR.out
  all_goals
    have HT : Kept (stopP c = (c, [], 6)) := ⟨by unfold stopP; rw [hs]; rfl⟩
    rw [HT.out]
    clear hs
    go_enter Try.func21, Try.ntmps21
    go_wp2_with fail
    refine (has_c c 0 _ L H.out).mono ?_
    rintro e w' ⟨rfl, rfl⟩
    rw [HB.out]
    go_wp2_with fail
    go_ret2
    exact recvs_none H.out (OnlyP.refl _ _)
def wayP (k : Int) : Bool := k == 1 || k == 4
def fromP (m : Msg) : Int := if wayP m.kind = true then m.dest - 1 else m.dest + 1
/-- The rules for a message to a hop that is there, from a hop that is there. -/
def ruleP (c : Ch) (m : Msg) : Ch × List Msg :=
  if m.kind = 1 then openP c m.dest.toNat else if m.kind = 2 then turnP c m.dest.toNat 1 2 2 else if m.kind = 3 then turnP c m.dest.toNat 1 3 3
  else if m.kind = 4 then closeP c m.dest.toNat else turnP c m.dest.toNat 4 5 5
def recvP (c : Ch) (m : Msg) : Ch × List Msg × Int :=
  if m.kind < 1 ∨ 5 < m.kind then (c, [], 16)
  else if m.conn ≠ c.conn then (c, [], 7)
  else if (c.hasB m.dest && c.hasB (fromP m)) = true then ((ruleP c m).1, (ruleP c m).2, 0)
  else (c, [], 2)
theorem boxM (w : World) (a b d : Value) (n : Nat) : ((w.alloc (.cells #[a, b, d] 38)).drewN n).cell? ⟨w.heap.size, 0, none⟩ = some a ∧ ((w.alloc (.cells #[a, b, d] 38)).drewN n).cell? ⟨w.heap.size, 1, none⟩ = some b ∧ ((w.alloc (.cells #[a, b, d] 38)).drewN n).cell? ⟨w.heap.size, 2, none⟩ = some d :=
  ⟨((Blk.new w 38 #[a, b, d]).drewN n).cell 0 rfl, ((Blk.new w 38 #[a, b, d]).drewN n).cell 1 rfl, ((Blk.new w 38 #[a, b, d]).drewN n).cell 2 rfl⟩
theorem onlyM {w : World} {o1 : Obj} {S : Nat → Prop} (n : Nat) : OnlyP S w ((w.alloc o1).drewN n) := ((OnlyP.refl _ _).alloc _).drewN n
theorem recv_kind (c : Ch) (m : Msg) (w : World) (L : Loc) (h : IsCh w L c) (hk : m.kind < 1 ∨ 5 < m.kind) :
    Calls Try.prog 18 #[.pointer (some ⟨L.p, 0, none⟩), .agg #[.int .i64 m.kind, .int .i64 m.conn, .int .i64 m.dest]] w (Recvs w L (recvP c m)) := by
  have HT : Kept (recvP c m = (c, [], 16)) := ⟨by unfold recvP; rw [if_pos hk]⟩
  rw [HT.out]
  have q1 : (m.kind == 1) = false := by simp; omega
  have q2 : (m.kind == 2) = false := by simp; omega
  have q3 : (m.kind == 3) = false := by simp; omega
  have q4 : (m.kind == 4) = false := by simp; omega
  have q5 : (m.kind == 5) = false := by simp; omega
  have H := Kept.mk h
  clear h hk
  go_enter Try.func18, Try.ntmps18
  go_wp2_with fail
  go_ret2
  exact recvs_none (H.out.alloc _) ((OnlyP.refl _ _).alloc _)
end Go.Proofs.Ytnmgnggchgckoaa
