/- Feasible and Full. -/
import Derived.Test.YtjalegdfofogcaaLodZ
import Derived.BigQuiet
namespace Go.Proofs.Ytjalegdfofogcaa
set_option linter.unusedVariables false
set_option linter.unusedSimpArgs false
open Go.RowKit
/-- A flow's rate is at least 0, and at most its demand. -/
def fzOk (n : PNet) (rs : List Rq) (i : Nat) : Bool := decide (0 ≤ (rs.getD i rq0).n) && !((flo n i).b && decide (0 < cmpQ (rs.getD i rq0) (flo n i).d))
def ldOk (n : PNet) (rs : List Rq) (l : Nat) : Bool := decide (cmpQ ((loadP n rs).1.getD l rq0) (n.caps.getD l rq0) ≤ 0)
def feasB (n : PNet) (rs : List Rq) : Bool := decide ((loadP n rs).2 = 0) && ((List.range n.flows.length).all (fzOk n rs) && (List.range n.caps.length).all (ldOk n rs))
def fullB (n : PNet) (rs : List Rq) (l : Nat) : Bool := decide ((loadP n rs).2 = 0) && cmpQ ((loadP n rs).1.getD l rq0) (n.caps.getD l rq0) == 0
theorem feas_err {n : PNet} {rs : List Rq} (h : (loadP n rs).2 = 10) : feasB n rs = false := by unfold feasB; rw [decide_eq_false (by rw [h]; decide)]; rfl
theorem feas_flow {n : PNet} {rs : List Rq} {k : Nat} (hk : k < n.flows.length) (h : fzOk n rs k = false) : feasB n rs = false := by
  unfold feasB
  rw [show (List.range n.flows.length).all (fzOk n rs) = false from List.all_eq_false.2 ⟨k, List.mem_range.2 hk, by rw [h]; decide⟩]
  simp
theorem feas_link {n : PNet} {rs : List Rq} {k : Nat} (hk : k < n.caps.length) (h : ldOk n rs k = false) : feasB n rs = false := by
  unfold feasB
  rw [show (List.range n.caps.length).all (ldOk n rs) = false from List.all_eq_false.2 ⟨k, List.mem_range.2 hk, by rw [h]; decide⟩]
  simp
theorem feas_yes {n : PNet} {rs : List Rq} (h0 : (loadP n rs).2 = 0) (h1 : ∀ k, k < n.flows.length → fzOk n rs k = true) (h2 : ∀ k, k < n.caps.length → ldOk n rs k = true) : feasB n rs = true := by
  unfold feasB
  rw [decide_eq_true h0, List.all_eq_true.2 (fun k hk => h1 k (List.mem_range.1 hk)), List.all_eq_true.2 (fun k hk => h2 k (List.mem_range.1 hk))]
  rfl
theorem below_next {p : Nat → Bool} {k : Nat} (h : ∀ j, j < k → p j = true) (hk : p k = true) : ∀ j, j < k + 1 → p j = true := fun j hj => by
  by_cases e : j = k
  · rw [e]; exact hk
  · exact h j (by omega)
/-- Feasible's boxes: the net, the loads. -/
structure FE (w W : World) (n : PNet) (gr : Nat) (L : List Rq) : Prop where
  x : Blk W w.heap.size 25 #[.slice n.cA n.caps.length n.ck, .slice n.fA n.flows.length n.fk]
  rr : RowBlk W gr 32 ccell L
  blw : Below w.heap.size w W
  lo : w.heap.size < gr
section
variable {w W W' : World} {n : PNet} {gr : Nat} {L : List Rq}
theorem FE.new_ (h : FE w W n gr L) (hb : Below W.heap.size W W') : FE w W' n gr L := ⟨h.x.new_ hb, h.rr.new_ hb, join h.blw hb, h.lo⟩
theorem FE.alloc (h : FE w W n gr L) (o : Obj) : FE w (W.alloc o) n gr L := h.new_ ((Below.refl _ _).alloc (Nat.le_refl _) o)
theorem FE.drewN (h : FE w W n gr L) (k : Nat) : FE w (W.drewN k) n gr L := h.new_ (dN (Below.refl _ _) k)
theorem fe_rate {b o k b8 : Nat} {rs : List Rq} {r d : Rq} {v : Value} {u : Bool} (h : FE w W n gr L) (hr : RowsAt w w.heap.size 2 ccell (some ⟨b, o, none⟩) rs) (hk : rs[k]? = some r) (hb : Blk W b8 37 #[v, .bool u, .int .i64 d.n, .int .i64 d.d]) :
    W.cell? ⟨b, o + k * 2, none⟩ = some (.int .i64 r.n) ∧ W.cell? ⟨b, o + k * 2 + 1, none⟩ = some (.int .i64 r.d) ∧ W.cell? ⟨b8, 1, none⟩ = some (.bool u) ∧ W.cell? ⟨b8, 2, none⟩ = some (.int .i64 d.n) ∧ W.cell? ⟨b8, 3, none⟩ = some (.int .i64 d.d) := by
  obtain ⟨r0, r1, -⟩ := (hr.new_ h.blw).rat hk
  exact ⟨r0, r1, hb.cell 1 rfl, hb.cell 2 rfl, hb.cell 3 rfl⟩
theorem fe_cap {b o k b10 : Nat} {q : Rq} {c : Rq} (h : FE w W n gr L) (hn : NetAt w w.heap.size n) (hk : n.caps[k]? = some c) (hA : n.cA = some ⟨b, o, none⟩) (hb : Blk W b10 32 #[.int .i64 q.n, .int .i64 q.d]) :
    W.cell? ⟨b10, 0, none⟩ = some (.int .i64 q.n) ∧ W.cell? ⟨b10, 1, none⟩ = some (.int .i64 q.d) ∧ W.cell? ⟨w.heap.size, 0, none⟩ = some (.slice (some ⟨b, o, none⟩) n.caps.length n.ck) ∧ W.cell? ⟨b, o + k * 2, none⟩ = some (.int .i64 c.n) ∧ W.cell? ⟨b, o + k * 2 + 1, none⟩ = some (.int .i64 c.d) := by
  have h1 := (hn.new_ h.blw).cap
  rw [hA] at h1
  obtain ⟨r0, r1, -⟩ := h1.rat hk
  exact ⟨hb.cell 0 rfl, hb.cell 1 rfl, by rw [← hA]; exact h.x.cell 0 rfl, r0, r1⟩
end
set_option maxRecDepth 100000 in
set_option maxHeartbeats 16000000 in
theorem feas_c (n : PNet) (rs : List Rq) (rA : Option Addr) (rk : Nat) (w : World) (hn : NetAt w w.heap.size n) (hv : netOk n = true) (hr : RowsAt w w.heap.size 2 ccell rA rs) (hrl : rs.length = n.flows.length) (hro : AllOk rs) : Calls Try.prog 17 #[nval n, .slice rA n.flows.length rk] w fun e w' => e = .returned (.bool (feasB n rs)) ∧ Below w.heap.size w w' := by
  have HN := Kept.mk hn
  have HRS := Kept.mk hr
  have HRO := Kept.mk hro
  have HRL := Kept.mk hrl
  have LC := fun w h1 h2 => load_c n rs rA rk w h1 hv h2 hrl hro
  have HCO : Kept (∀ c ∈ n.caps, R64 c.n ∧ R64 c.d) := ⟨hn.c64⟩
  have hsz : n.caps.length ≤ 32 ∧ n.flows.length ≤ 32 := by
    unfold netOk at hv
    rw [Bool.and_eq_true, Bool.and_eq_true, decide_eq_true_eq, decide_eq_true_eq] at hv
    exact ⟨hv.1, hv.2.1⟩
  obtain ⟨hc32, hf32⟩ := hsz
  have HLI := Kept.mk (loadP_err n rs)
  clear hn hv hr hro hrl
  obtain ⟨caps, cA, ck, flows, fA, fk⟩ := n
  dsimp only at hc32 hf32 HRL HCO
  unfold nval at LC ⊢
  dsimp only at LC ⊢
  have HX0 := Kept.mk (Blk.new w 25 #[.slice cA caps.length ck, .slice fA flows.length fk])
  have HD0 : Kept (Below w.heap.size w (w.alloc (.cells #[.slice cA caps.length ck, .slice fA flows.length fk] 25))) := ⟨by go_grown⟩
  have HN0 := HN.out.new_ HD0.out
  have HRS0 := HRS.out.new_ HD0.out
  have n0 := HX0.out.cell 0 (v := .slice cA caps.length ck) rfl
  have n1 := HX0.out.cell 1 (v := .slice fA flows.length fk) rfl
  rcases HLI.out with hle | hle
  rotate_left
  · have HLE := Kept.mk hle
    have HRR := Kept.mk (feas_err hle)
    clear hle
    go_enter Try.func17, Try.ntmps17
    go_wp2_with (go_at_call 42; refine (LC _ HN0 HRS0).mono ?_; intro e w1 hLR; rcases hLR with ⟨habs, -⟩ | ⟨-, rfl, hb1⟩; exact absurd HLE.out (by rw [habs]; decide); have HD1 := Kept.mk (join HD0.out hb1); clear hb1)
    go_ret
    exact ⟨ret_bool HRR.out.symm, HD1.out⟩
  have HLE := Kept.mk hle
  clear hle
  go_enter Try.func17, Try.ntmps17
  go_upto_region 4 with (go_at_call 42; refine (LC _ HN0 HRS0).mono ?_; intro e w1 hLR; rcases hLR with ⟨-, gr, rfl, hrr, hgr, hb1⟩ | ⟨habs, -⟩; rotate_left; exact absurd HLE.out (by rw [habs]; decide); have HX1 : Kept (FE w w1 ⟨caps, cA, ck, flows, fA, fk⟩ gr (loadP ⟨caps, cA, ck, flows, fA, fk⟩ rs).1) := ⟨HX0.out.new_ hb1, hrr, join HD0.out hb1, by have := HX0.out.lt; omega⟩; clear hb1 hrr hgr)
  clear n0 n1 HX0 HD0 HN0 HRS0 LC
  have n1 := HX1.out.x.cell 1 (v := .slice fA flows.length fk) rfl
  have l1 := HX1.out.x.lt
  go_wp2_with fail
  go_loopw [22] (fun v wr => ∃ k : Nat, k ≤ flows.length ∧ v = .int .i64 k ∧ Kept (∀ j, j < k → fzOk ⟨caps, cA, ck, flows, fA, fk⟩ rs j = true) ∧ Kept (FE w wr ⟨caps, cA, ck, flows, fA, fk⟩ gr (loadP ⟨caps, cA, ck, flows, fA, fk⟩ rs).1)) (fun v _ => flows.length - (intOf v).toNat)
  case atStart => exact ⟨0, Nat.zero_le _, rfl, ⟨fun j hj => absurd hj (by omega)⟩, HX1⟩
  case round =>
    clear HX1 n1 l1
    obtain ⟨k, hk, rfl, HA, HX⟩ := hrel
    by_cases hlt : k < flows.length
    · obtain ⟨p, bF, oF, hp, rfl, -, hbF, ⟨c0, c1, c2, c3⟩, hfl⟩ := (HN.out.new_ HX.out.blw).flowAt hlt
      obtain ⟨r, bR, oR, hr, rfl, -, -, -⟩ := (HRS.out.new_ HX.out.blw).at_ (show k < rs.length by rw [HRL.out]; exact hlt)
      obtain ⟨ls, pA, kap, pb, pd⟩ := p
      dsimp only at c0 c1 c2 c3 hp
      have HRK := Kept.mk hr
      have hfz : fzOk ⟨caps, cA, ck, flows, some ⟨bF, oF, none⟩, fk⟩ rs k = (decide (0 ≤ r.n) && !(pb && decide (0 < cmpQ r pd))) := by
        unfold fzOk
        rw [flo_of (n := ⟨caps, cA, ck, flows, some ⟨bF, oF, none⟩, fk⟩) hp, List.getD_eq_getElem?_getD, hr]
        rfl
      have h64 := okQ_R64 (HRO.out r (List.mem_of_getElem? hr))
      have hd64 := hfl.r64
      dsimp only at hd64
      have CM := fun w => cmp_c r pd w h64.1 h64.2 hd64.1 hd64.2
      unfold rqv at CM
      go_upto_region 7 with fail
      obtain ⟨b8, hb8⟩ : ∃ b, b = wr.heap.size := ⟨_, rfl⟩
      obtain ⟨V, hV, HV⟩ : ∃ V, V = wr.alloc (.cells #[.slice pA ls.length kap, .bool pb, .int .i64 pd.n, .int .i64 pd.d] 37) ∧ Kept (FE w V ⟨caps, cA, ck, flows, some ⟨bF, oF, none⟩, fk⟩ gr (loadP ⟨caps, cA, ck, flows, some ⟨bF, oF, none⟩, fk⟩ rs).1 ∧ Blk V b8 37 #[.slice pA ls.length kap, .bool pb, .int .i64 pd.n, .int .i64 pd.d]) := ⟨_, rfl, ⟨HX.out.alloc _, by rw [hb8]; exact Blk.new _ _ _⟩⟩
      rw [← hV, ← hb8]
      clear hV hb8 HX c0 c1 c2 c3 hp hr hfl hbF
      obtain ⟨r0, r1, q1, q2, q3⟩ := fe_rate HV.out.1 HRS.out HRK.out HV.out.2
      have q4 := HV.out.2.lt
      by_cases hneg : r.n < 0
      · have HRR := Kept.mk (feas_flow (n := ⟨caps, cA, ck, flows, some ⟨bF, oF, none⟩, fk⟩) hlt (show fzOk ⟨caps, cA, ck, flows, some ⟨bF, oF, none⟩, fk⟩ rs k = false by rw [hfz, decide_eq_false (by omega)]; rfl))
        clear hfz CM
        go_quiet (fail)
        go_wp2_with fail
        go_ret
        exact ⟨ret_bool HRR.out.symm, dN HV.out.1.blw nq⟩
      · have dneg : decide (r.n < 0) = false := decide_eq_false hneg
        cases pb with
        | false =>
          have HNX := Kept.mk (below_next HA.out (show fzOk ⟨caps, cA, ck, flows, some ⟨bF, oF, none⟩, fk⟩ rs k = true by rw [hfz, decide_eq_true (by omega)]; rfl))
          clear hfz CM
          go_quiet (fail)
          go_wp2_with fail
          go_roundw
          case rel => exact ⟨k + 1, by omega, by go_num, HNX, ⟨HV.out.1.drewN nq⟩⟩
          case measure => simp [intOf]; omega
        | true =>
          obtain ⟨z, hz⟩ : ∃ z, cmpQ r pd = z := ⟨_, rfl⟩
          rw [hz] at CM hfz
          have HX1 : Kept (FE w (V.drewN 1) ⟨caps, cA, ck, flows, some ⟨bF, oF, none⟩, fk⟩ gr (loadP ⟨caps, cA, ck, flows, some ⟨bF, oF, none⟩, fk⟩ rs).1 ∧ Blk (V.drewN 1) b8 37 #[.slice pA ls.length kap, .bool true, .int .i64 pd.n, .int .i64 pd.d]) := ⟨HV.out.1.drewN 1, HV.out.2.drewN 1⟩
          clear r0 r1 q1 q2 q3
          by_cases hz0 : 0 < z
          · have HRR := Kept.mk (feas_flow (n := ⟨caps, cA, ck, flows, some ⟨bF, oF, none⟩, fk⟩) hlt (show fzOk ⟨caps, cA, ck, flows, some ⟨bF, oF, none⟩, fk⟩ rs k = false by rw [hfz, decide_eq_true hz0]; simp))
            have dz : decide (0 < z) = true := decide_eq_true hz0
            clear hfz hz
            refine wp_region_held_drew (S := fun w' => w'.cell? ⟨bR, oR + k * 2, none⟩ = some (.int .i64 r.n) ∧ w'.cell? ⟨bR, oR + k * 2 + 1, none⟩ = some (.int .i64 r.d) ∧ w'.cell? ⟨b8, 1, none⟩ = some (.bool true) ∧ w'.cell? ⟨b8, 2, none⟩ = some (.int .i64 pd.n) ∧ w'.cell? ⟨b8, 3, none⟩ = some (.int .i64 pd.d)) (by kernel_rfl) (by (try dsimp only); (first | exact fe_rate HX2.out.1 HRS.out HRK.out HX2.out.2 | exact fe_rate HX1.out.1 HRS.out HRK.out HX1.out.2)) (fun hHeld => ?_)
            refine wpAnyH_take (i := 0) (v := ?_) rfl (by kernel_rfl) (by kernel_rfl) (by kernel_rfl) (fun _ _ _ h => h) (Or.inl ⟨by rfl, ?_⟩) (by assumption) ?_; rotate_left; (intro w hSw; (try dsimp only at hSw); go_simp; try (with_reducible rfl)); try simp only [Act.put, List.setIfInBounds_toArray, List.set_cons_zero, List.set_cons_succ, List.getElem_toArray, List.getElem_cons_succ, List.getElem_cons_zero]
            refine wpAnyH_take (i := 1) (v := ?_) rfl (by kernel_rfl) (by kernel_rfl) (by kernel_rfl) (fun _ _ _ h => h) (Or.inl ⟨by rfl, ?_⟩) (by assumption) ?_; rotate_left; (intro w hSw; (try dsimp only at hSw); go_simp; try (with_reducible rfl)); try simp only [Act.put, List.setIfInBounds_toArray, List.set_cons_zero, List.set_cons_succ, List.getElem_toArray, List.getElem_cons_succ, List.getElem_cons_zero]
            refine wpAnyH_take (i := 2) (v := ?_) rfl (by kernel_rfl) (by kernel_rfl) (by kernel_rfl) (fun _ _ _ h => h) (Or.inl ⟨by rfl, ?_⟩) (by assumption) ?_; rotate_left; (intro w hSw; (try dsimp only at hSw); go_simp; try (with_reducible rfl)); try simp only [Act.put, List.setIfInBounds_toArray, List.set_cons_zero, List.set_cons_succ, List.getElem_toArray, List.getElem_cons_succ, List.getElem_cons_zero]
            refine wpAnyH_take (i := 3) (v := ?_) rfl (by kernel_rfl) (by kernel_rfl) (by kernel_rfl) (fun _ _ _ h => h) (Or.inl ⟨by rfl, ?_⟩) (by assumption) ?_; rotate_left; (intro w hSw; (try dsimp only at hSw); go_simp; try (with_reducible rfl)); try simp only [Act.put, List.setIfInBounds_toArray, List.set_cons_zero, List.set_cons_succ, List.getElem_toArray, List.getElem_cons_succ, List.getElem_cons_zero]
            refine wpAnyH_take (i := 4) (v := ?_) rfl (by kernel_rfl) (by kernel_rfl) (by kernel_rfl) (fun _ _ _ h => h) (Or.inl ⟨by rfl, ?_⟩) (by assumption) ?_; rotate_left; (intro w hSw; (try dsimp only at hSw); go_simp; try (with_reducible rfl)); try simp only [Act.put, List.setIfInBounds_toArray, List.set_cons_zero, List.set_cons_succ, List.getElem_toArray, List.getElem_cons_succ, List.getElem_cons_zero]
            refine wpAnyH_take (i := 5) (v := ?_) rfl (by kernel_rfl) (by kernel_rfl) (by kernel_rfl) (fun _ _ _ h => h) (Or.inl ⟨by rfl, ?_⟩) (by assumption) ?_; rotate_left; (intro w hSw; (try dsimp only at hSw); go_simp; try (with_reducible rfl)); try simp only [Act.put, List.setIfInBounds_toArray, List.set_cons_zero, List.set_cons_succ, List.getElem_toArray, List.getElem_cons_succ, List.getElem_cons_zero]
            refine wpAnyH_take (i := 6) (v := ?_) rfl (by kernel_rfl) (by kernel_rfl) (by kernel_rfl) (fun _ _ _ h => h) (Or.inl ⟨by rfl, ?_⟩) (by assumption) ?_; rotate_left; (intro w hSw; (try dsimp only at hSw); go_simp; try (with_reducible rfl)); try simp only [Act.put, List.setIfInBounds_toArray, List.set_cons_zero, List.set_cons_succ, List.getElem_toArray, List.getElem_cons_succ, List.getElem_cons_zero]
            refine wpAnyH_take (i := 7) (v := ?_) rfl (by kernel_rfl) (by kernel_rfl) (by kernel_rfl) (fun _ _ _ h => h) (Or.inl ⟨by rfl, ?_⟩) (by assumption) ?_; rotate_left; (intro w hSw; (try dsimp only at hSw); go_simp; try (with_reducible rfl)); try simp only [Act.put, List.setIfInBounds_toArray, List.set_cons_zero, List.set_cons_succ, List.getElem_toArray, List.getElem_cons_succ, List.getElem_cons_zero]
            refine wpAnyH_take (i := 8) (v := ?_) rfl (by kernel_rfl) (by kernel_rfl) (by kernel_rfl) (fun _ _ _ h => h) (Or.inl ⟨by rfl, ?_⟩) (by assumption) ?_; rotate_left; (intro w hSw; (try dsimp only at hSw); go_simp; try (with_reducible rfl)); try simp only [Act.put, List.setIfInBounds_toArray, List.set_cons_zero, List.set_cons_succ, List.getElem_toArray, List.getElem_cons_succ, List.getElem_cons_zero]
            refine wpAnyH_take (i := 9) (v := ?_) rfl (by kernel_rfl) (by kernel_rfl) (by kernel_rfl) (fun _ _ _ h => h) (Or.inl ⟨by rfl, ?_⟩) (by assumption) ?_; rotate_left; (intro w hSw; (try dsimp only at hSw); go_simp; try (with_reducible rfl)); try simp only [Act.put, List.setIfInBounds_toArray, List.set_cons_zero, List.set_cons_succ, List.getElem_toArray, List.getElem_cons_succ, List.getElem_cons_zero]
            refine wpAnyH_take (i := 10) (v := ?_) rfl (by kernel_rfl) (by kernel_rfl) (by kernel_rfl) (fun _ _ _ h => h) (Or.inl ⟨by rfl, ?_⟩) (by assumption) ?_; rotate_left; (intro w hSw; (try dsimp only at hSw); go_simp; try (with_reducible rfl)); try simp only [Act.put, List.setIfInBounds_toArray, List.set_cons_zero, List.set_cons_succ, List.getElem_toArray, List.getElem_cons_succ, List.getElem_cons_zero]
            refine wpAnyH_take (i := 11) (v := ?_) rfl (by kernel_rfl) (by kernel_rfl) (by kernel_rfl) (fun _ _ _ h => h) (Or.inl ⟨by rfl, ?_⟩) (by assumption) ?_; rotate_left; (intro w hSw; (try dsimp only at hSw); go_simp; try (with_reducible rfl)); try simp only [Act.put, List.setIfInBounds_toArray, List.set_cons_zero, List.set_cons_succ, List.getElem_toArray, List.getElem_cons_succ, List.getElem_cons_zero]
            refine wpAnyH_take (i := 12) (v := ?_) rfl (by kernel_rfl) (by kernel_rfl) (by kernel_rfl) (fun _ _ _ h => h) (Or.inl ⟨by rfl, ?_⟩) (by assumption) ?_; rotate_left; (intro w hSw; (try dsimp only at hSw); go_simp; try (with_reducible rfl)); try simp only [Act.put, List.setIfInBounds_toArray, List.set_cons_zero, List.set_cons_succ, List.getElem_toArray, List.getElem_cons_succ, List.getElem_cons_zero]
            refine wpAnyH_take (i := 13) (v := ?_) rfl (by kernel_rfl) (by kernel_rfl) (by kernel_rfl) (fun _ _ _ h => h) (Or.inl ⟨by rfl, ?_⟩) (by assumption) ?_; rotate_left; (intro w hSw; (try dsimp only at hSw); go_simp; try (with_reducible rfl)); try simp only [Act.put, List.setIfInBounds_toArray, List.set_cons_zero, List.set_cons_succ, List.getElem_toArray, List.getElem_cons_succ, List.getElem_cons_zero]
            refine wpAnyH_take (i := 14) (v := ?_) rfl (by kernel_rfl) (by kernel_rfl) (by kernel_rfl) (fun _ _ _ h => h) (Or.inl ⟨by rfl, ?_⟩) (by assumption) ?_; rotate_left; (intro w hSw; (try dsimp only at hSw); go_simp; try (with_reducible rfl)); try simp only [Act.put, List.setIfInBounds_toArray, List.set_cons_zero, List.set_cons_succ, List.getElem_toArray, List.getElem_cons_succ, List.getElem_cons_zero]
            refine wpAnyH_take (i := 15) (v := ?_) rfl (by kernel_rfl) (by kernel_rfl) (by kernel_rfl) (fun _ _ _ h => h) (Or.inl ⟨by rfl, ?_⟩) (by assumption) ?_; rotate_left; (intro w hSw; (try dsimp only at hSw); go_simp; try (with_reducible rfl)); try simp only [Act.put, List.setIfInBounds_toArray, List.set_cons_zero, List.set_cons_succ, List.getElem_toArray, List.getElem_cons_succ, List.getElem_cons_zero]
            refine wpAnyH_ready (rs := [16]) (by kernel_rfl) (by simp) ?_; refine AllReadyH.cons rfl (fun K hK => ?_) AllReadyH.nil; go_simp
            refine (CM _).mono ?_; rintro e wq ⟨rfl, hbq⟩; have HX2 : Kept (FE w wq ⟨caps, cA, ck, flows, some ⟨bF, oF, none⟩, fk⟩ gr (loadP ⟨caps, cA, ck, flows, some ⟨bF, oF, none⟩, fk⟩ rs).1 ∧ Blk wq b8 37 #[.slice pA ls.length kap, .bool true, .int .i64 pd.n, .int .i64 pd.d]) := ⟨HX1.out.1.new_ hbq, HX1.out.2.new_ hbq⟩; clear hbq
            try go_wp2_with fail
            refine hK.out _ _ (by (try dsimp only); (first | exact fe_rate HX2.out.1 HRS.out HRK.out HX2.out.2 | exact fe_rate HX1.out.1 HRS.out HRK.out HX1.out.2)) (fun hHeld => ?_); clear hK K; try simp only [Act.put, List.setIfInBounds_toArray, List.set_cons_zero, List.set_cons_succ, List.getElem_toArray, List.getElem_cons_succ, List.getElem_cons_zero]
            refine wpAnyH_take (i := 17) (v := ?_) rfl (by kernel_rfl) (by kernel_rfl) (by kernel_rfl) (fun _ _ _ h => h) (Or.inl ⟨by rfl, ?_⟩) (by assumption) ?_; rotate_left; (intro w hSw; (try dsimp only at hSw); go_simp; try (with_reducible rfl)); try simp only [Act.put, List.setIfInBounds_toArray, List.set_cons_zero, List.set_cons_succ, List.getElem_toArray, List.getElem_cons_succ, List.getElem_cons_zero]
            refine wpAnyH_take (i := 18) (v := ?_) rfl (by kernel_rfl) (by kernel_rfl) (by kernel_rfl) (fun _ _ _ h => h) (Or.inl ⟨by rfl, ?_⟩) (by assumption) ?_; rotate_left; (intro w hSw; (try dsimp only at hSw); go_simp; try (with_reducible rfl)); try simp only [Act.put, List.setIfInBounds_toArray, List.set_cons_zero, List.set_cons_succ, List.getElem_toArray, List.getElem_cons_succ, List.getElem_cons_zero]
            refine wpAnyH_take (i := 19) (v := ?_) rfl (by kernel_rfl) (by kernel_rfl) (by kernel_rfl) (fun _ _ _ h => h) (Or.inl ⟨by rfl, ?_⟩) (by assumption) ?_; rotate_left; (intro w hSw; (try dsimp only at hSw); go_simp; try (with_reducible rfl)); try simp only [Act.put, List.setIfInBounds_toArray, List.set_cons_zero, List.set_cons_succ, List.getElem_toArray, List.getElem_cons_succ, List.getElem_cons_zero]
            refine wpAnyH_done (by kernel_rfl) ?_ _
            go_wp2_with fail
            go_ret
            exact ⟨ret_bool HRR.out.symm, HX2.out.1.blw⟩
          · have HNX := Kept.mk (below_next HA.out (show fzOk ⟨caps, cA, ck, flows, some ⟨bF, oF, none⟩, fk⟩ rs k = true by rw [hfz, decide_eq_true (by omega), decide_eq_false hz0]; rfl))
            have dz : decide (0 < z) = false := decide_eq_false hz0
            clear hfz hz
            refine wp_region_held_drew (S := fun w' => w'.cell? ⟨bR, oR + k * 2, none⟩ = some (.int .i64 r.n) ∧ w'.cell? ⟨bR, oR + k * 2 + 1, none⟩ = some (.int .i64 r.d) ∧ w'.cell? ⟨b8, 1, none⟩ = some (.bool true) ∧ w'.cell? ⟨b8, 2, none⟩ = some (.int .i64 pd.n) ∧ w'.cell? ⟨b8, 3, none⟩ = some (.int .i64 pd.d)) (by kernel_rfl) (by (try dsimp only); (first | exact fe_rate HX2.out.1 HRS.out HRK.out HX2.out.2 | exact fe_rate HX1.out.1 HRS.out HRK.out HX1.out.2)) (fun hHeld => ?_)
            refine wpAnyH_take (i := 0) (v := ?_) rfl (by kernel_rfl) (by kernel_rfl) (by kernel_rfl) (fun _ _ _ h => h) (Or.inl ⟨by rfl, ?_⟩) (by assumption) ?_; rotate_left; (intro w hSw; (try dsimp only at hSw); go_simp; try (with_reducible rfl)); try simp only [Act.put, List.setIfInBounds_toArray, List.set_cons_zero, List.set_cons_succ, List.getElem_toArray, List.getElem_cons_succ, List.getElem_cons_zero]
            refine wpAnyH_take (i := 1) (v := ?_) rfl (by kernel_rfl) (by kernel_rfl) (by kernel_rfl) (fun _ _ _ h => h) (Or.inl ⟨by rfl, ?_⟩) (by assumption) ?_; rotate_left; (intro w hSw; (try dsimp only at hSw); go_simp; try (with_reducible rfl)); try simp only [Act.put, List.setIfInBounds_toArray, List.set_cons_zero, List.set_cons_succ, List.getElem_toArray, List.getElem_cons_succ, List.getElem_cons_zero]
            refine wpAnyH_take (i := 2) (v := ?_) rfl (by kernel_rfl) (by kernel_rfl) (by kernel_rfl) (fun _ _ _ h => h) (Or.inl ⟨by rfl, ?_⟩) (by assumption) ?_; rotate_left; (intro w hSw; (try dsimp only at hSw); go_simp; try (with_reducible rfl)); try simp only [Act.put, List.setIfInBounds_toArray, List.set_cons_zero, List.set_cons_succ, List.getElem_toArray, List.getElem_cons_succ, List.getElem_cons_zero]
            refine wpAnyH_take (i := 3) (v := ?_) rfl (by kernel_rfl) (by kernel_rfl) (by kernel_rfl) (fun _ _ _ h => h) (Or.inl ⟨by rfl, ?_⟩) (by assumption) ?_; rotate_left; (intro w hSw; (try dsimp only at hSw); go_simp; try (with_reducible rfl)); try simp only [Act.put, List.setIfInBounds_toArray, List.set_cons_zero, List.set_cons_succ, List.getElem_toArray, List.getElem_cons_succ, List.getElem_cons_zero]
            refine wpAnyH_take (i := 4) (v := ?_) rfl (by kernel_rfl) (by kernel_rfl) (by kernel_rfl) (fun _ _ _ h => h) (Or.inl ⟨by rfl, ?_⟩) (by assumption) ?_; rotate_left; (intro w hSw; (try dsimp only at hSw); go_simp; try (with_reducible rfl)); try simp only [Act.put, List.setIfInBounds_toArray, List.set_cons_zero, List.set_cons_succ, List.getElem_toArray, List.getElem_cons_succ, List.getElem_cons_zero]
            refine wpAnyH_take (i := 5) (v := ?_) rfl (by kernel_rfl) (by kernel_rfl) (by kernel_rfl) (fun _ _ _ h => h) (Or.inl ⟨by rfl, ?_⟩) (by assumption) ?_; rotate_left; (intro w hSw; (try dsimp only at hSw); go_simp; try (with_reducible rfl)); try simp only [Act.put, List.setIfInBounds_toArray, List.set_cons_zero, List.set_cons_succ, List.getElem_toArray, List.getElem_cons_succ, List.getElem_cons_zero]
            refine wpAnyH_take (i := 6) (v := ?_) rfl (by kernel_rfl) (by kernel_rfl) (by kernel_rfl) (fun _ _ _ h => h) (Or.inl ⟨by rfl, ?_⟩) (by assumption) ?_; rotate_left; (intro w hSw; (try dsimp only at hSw); go_simp; try (with_reducible rfl)); try simp only [Act.put, List.setIfInBounds_toArray, List.set_cons_zero, List.set_cons_succ, List.getElem_toArray, List.getElem_cons_succ, List.getElem_cons_zero]
            refine wpAnyH_take (i := 7) (v := ?_) rfl (by kernel_rfl) (by kernel_rfl) (by kernel_rfl) (fun _ _ _ h => h) (Or.inl ⟨by rfl, ?_⟩) (by assumption) ?_; rotate_left; (intro w hSw; (try dsimp only at hSw); go_simp; try (with_reducible rfl)); try simp only [Act.put, List.setIfInBounds_toArray, List.set_cons_zero, List.set_cons_succ, List.getElem_toArray, List.getElem_cons_succ, List.getElem_cons_zero]
            refine wpAnyH_take (i := 8) (v := ?_) rfl (by kernel_rfl) (by kernel_rfl) (by kernel_rfl) (fun _ _ _ h => h) (Or.inl ⟨by rfl, ?_⟩) (by assumption) ?_; rotate_left; (intro w hSw; (try dsimp only at hSw); go_simp; try (with_reducible rfl)); try simp only [Act.put, List.setIfInBounds_toArray, List.set_cons_zero, List.set_cons_succ, List.getElem_toArray, List.getElem_cons_succ, List.getElem_cons_zero]
            refine wpAnyH_take (i := 9) (v := ?_) rfl (by kernel_rfl) (by kernel_rfl) (by kernel_rfl) (fun _ _ _ h => h) (Or.inl ⟨by rfl, ?_⟩) (by assumption) ?_; rotate_left; (intro w hSw; (try dsimp only at hSw); go_simp; try (with_reducible rfl)); try simp only [Act.put, List.setIfInBounds_toArray, List.set_cons_zero, List.set_cons_succ, List.getElem_toArray, List.getElem_cons_succ, List.getElem_cons_zero]
            refine wpAnyH_take (i := 10) (v := ?_) rfl (by kernel_rfl) (by kernel_rfl) (by kernel_rfl) (fun _ _ _ h => h) (Or.inl ⟨by rfl, ?_⟩) (by assumption) ?_; rotate_left; (intro w hSw; (try dsimp only at hSw); go_simp; try (with_reducible rfl)); try simp only [Act.put, List.setIfInBounds_toArray, List.set_cons_zero, List.set_cons_succ, List.getElem_toArray, List.getElem_cons_succ, List.getElem_cons_zero]
            refine wpAnyH_take (i := 11) (v := ?_) rfl (by kernel_rfl) (by kernel_rfl) (by kernel_rfl) (fun _ _ _ h => h) (Or.inl ⟨by rfl, ?_⟩) (by assumption) ?_; rotate_left; (intro w hSw; (try dsimp only at hSw); go_simp; try (with_reducible rfl)); try simp only [Act.put, List.setIfInBounds_toArray, List.set_cons_zero, List.set_cons_succ, List.getElem_toArray, List.getElem_cons_succ, List.getElem_cons_zero]
            refine wpAnyH_take (i := 12) (v := ?_) rfl (by kernel_rfl) (by kernel_rfl) (by kernel_rfl) (fun _ _ _ h => h) (Or.inl ⟨by rfl, ?_⟩) (by assumption) ?_; rotate_left; (intro w hSw; (try dsimp only at hSw); go_simp; try (with_reducible rfl)); try simp only [Act.put, List.setIfInBounds_toArray, List.set_cons_zero, List.set_cons_succ, List.getElem_toArray, List.getElem_cons_succ, List.getElem_cons_zero]
            refine wpAnyH_take (i := 13) (v := ?_) rfl (by kernel_rfl) (by kernel_rfl) (by kernel_rfl) (fun _ _ _ h => h) (Or.inl ⟨by rfl, ?_⟩) (by assumption) ?_; rotate_left; (intro w hSw; (try dsimp only at hSw); go_simp; try (with_reducible rfl)); try simp only [Act.put, List.setIfInBounds_toArray, List.set_cons_zero, List.set_cons_succ, List.getElem_toArray, List.getElem_cons_succ, List.getElem_cons_zero]
            refine wpAnyH_take (i := 14) (v := ?_) rfl (by kernel_rfl) (by kernel_rfl) (by kernel_rfl) (fun _ _ _ h => h) (Or.inl ⟨by rfl, ?_⟩) (by assumption) ?_; rotate_left; (intro w hSw; (try dsimp only at hSw); go_simp; try (with_reducible rfl)); try simp only [Act.put, List.setIfInBounds_toArray, List.set_cons_zero, List.set_cons_succ, List.getElem_toArray, List.getElem_cons_succ, List.getElem_cons_zero]
            refine wpAnyH_take (i := 15) (v := ?_) rfl (by kernel_rfl) (by kernel_rfl) (by kernel_rfl) (fun _ _ _ h => h) (Or.inl ⟨by rfl, ?_⟩) (by assumption) ?_; rotate_left; (intro w hSw; (try dsimp only at hSw); go_simp; try (with_reducible rfl)); try simp only [Act.put, List.setIfInBounds_toArray, List.set_cons_zero, List.set_cons_succ, List.getElem_toArray, List.getElem_cons_succ, List.getElem_cons_zero]
            refine wpAnyH_ready (rs := [16]) (by kernel_rfl) (by simp) ?_; refine AllReadyH.cons rfl (fun K hK => ?_) AllReadyH.nil; go_simp
            refine (CM _).mono ?_; rintro e wq ⟨rfl, hbq⟩; have HX2 : Kept (FE w wq ⟨caps, cA, ck, flows, some ⟨bF, oF, none⟩, fk⟩ gr (loadP ⟨caps, cA, ck, flows, some ⟨bF, oF, none⟩, fk⟩ rs).1 ∧ Blk wq b8 37 #[.slice pA ls.length kap, .bool true, .int .i64 pd.n, .int .i64 pd.d]) := ⟨HX1.out.1.new_ hbq, HX1.out.2.new_ hbq⟩; clear hbq
            try go_wp2_with fail
            refine hK.out _ _ (by (try dsimp only); (first | exact fe_rate HX2.out.1 HRS.out HRK.out HX2.out.2 | exact fe_rate HX1.out.1 HRS.out HRK.out HX1.out.2)) (fun hHeld => ?_); clear hK K; try simp only [Act.put, List.setIfInBounds_toArray, List.set_cons_zero, List.set_cons_succ, List.getElem_toArray, List.getElem_cons_succ, List.getElem_cons_zero]
            refine wpAnyH_take (i := 17) (v := ?_) rfl (by kernel_rfl) (by kernel_rfl) (by kernel_rfl) (fun _ _ _ h => h) (Or.inl ⟨by rfl, ?_⟩) (by assumption) ?_; rotate_left; (intro w hSw; (try dsimp only at hSw); go_simp; try (with_reducible rfl)); try simp only [Act.put, List.setIfInBounds_toArray, List.set_cons_zero, List.set_cons_succ, List.getElem_toArray, List.getElem_cons_succ, List.getElem_cons_zero]
            refine wpAnyH_take (i := 18) (v := ?_) rfl (by kernel_rfl) (by kernel_rfl) (by kernel_rfl) (fun _ _ _ h => h) (Or.inl ⟨by rfl, ?_⟩) (by assumption) ?_; rotate_left; (intro w hSw; (try dsimp only at hSw); go_simp; try (with_reducible rfl)); try simp only [Act.put, List.setIfInBounds_toArray, List.set_cons_zero, List.set_cons_succ, List.getElem_toArray, List.getElem_cons_succ, List.getElem_cons_zero]
            refine wpAnyH_take (i := 19) (v := ?_) rfl (by kernel_rfl) (by kernel_rfl) (by kernel_rfl) (fun _ _ _ h => h) (Or.inl ⟨by rfl, ?_⟩) (by assumption) ?_; rotate_left; (intro w hSw; (try dsimp only at hSw); go_simp; try (with_reducible rfl)); try simp only [Act.put, List.setIfInBounds_toArray, List.set_cons_zero, List.set_cons_succ, List.getElem_toArray, List.getElem_cons_succ, List.getElem_cons_zero]
            refine wpAnyH_done (by kernel_rfl) ?_ _
            go_wp2_with fail
            go_roundw
            case rel => exact ⟨k + 1, by omega, by go_num, HNX, ⟨HX2.out.1⟩⟩
            case measure => simp [intOf]; omega
    · obtain rfl : k = flows.length := by omega
      clear hlt
      obtain ⟨wa, rfl⟩ : ∃ wa : World, wa = wr := ⟨_, rfl⟩
      go_wp2_with fail
      go_loopw [50] (fun v wr => ∃ k : Nat, k ≤ caps.length ∧ v = .int .i64 k ∧ Kept (∀ j, j < k → ldOk ⟨caps, cA, ck, flows, fA, fk⟩ rs j = true) ∧ Kept (FE w wr ⟨caps, cA, ck, flows, fA, fk⟩ gr (loadP ⟨caps, cA, ck, flows, fA, fk⟩ rs).1)) (fun v _ => caps.length - (intOf v).toNat)
      case atStart => exact ⟨0, Nat.zero_le _, rfl, ⟨fun j hj => absurd hj (by omega)⟩, HX⟩
      case round =>
        clear HX
        obtain ⟨k, hk, rfl, HB, HX⟩ := hrel
        by_cases hlt : k < caps.length
        · obtain ⟨c, bC, oC, hc, rfl, -, hbC, c0, c1, -⟩ := (HN.out.new_ HX.out.blw).capAt hlt
          obtain ⟨q, hq⟩ := get_some (show k < (loadP ⟨caps, some ⟨bC, oC, none⟩, ck, flows, fA, fk⟩ rs).1.length by unfold loadP; rw [ldK_len]; exact hlt)
          have hlo : ldOk ⟨caps, some ⟨bC, oC, none⟩, ck, flows, fA, fk⟩ rs k = decide (cmpQ q c ≤ 0) := by
            unfold ldOk
            rw [List.getD_eq_getElem?_getD, List.getD_eq_getElem?_getD, hq]
            dsimp only at hc ⊢
            rw [hc]
            rfl
          have hqo := ldK_ok ⟨caps, some ⟨bC, oC, none⟩, ck, flows, fA, fk⟩ rs flows.length q (List.mem_of_getElem? hq)
          have h64 := okQ_R64 hqo
          have hd64 := HCO.out c (List.mem_of_getElem? hc)
          have CM := fun w => cmp_c q c w h64.1 h64.2 hd64.1 hd64.2
          unfold rqv at CM
          have r0 := HX.out.rr.cell ccell_len hq (j := 0) rfl
          have r1 := HX.out.rr.cell ccell_len hq (j := 1) rfl
          simp only [Nat.add_zero] at r0
          have HCK := Kept.mk hc
          go_upto_region 13 with fail
          obtain ⟨b10, hb10⟩ : ∃ b, b = wr.heap.size := ⟨_, rfl⟩
          obtain ⟨V, hV, HV⟩ : ∃ V, V = wr.alloc (.cells #[.int .i64 q.n, .int .i64 q.d] 32) ∧ Kept (FE w V ⟨caps, some ⟨bC, oC, none⟩, ck, flows, fA, fk⟩ gr (loadP ⟨caps, some ⟨bC, oC, none⟩, ck, flows, fA, fk⟩ rs).1 ∧ Blk V b10 32 #[.int .i64 q.n, .int .i64 q.d]) := ⟨_, rfl, ⟨HX.out.alloc _, by rw [hb10]; exact Blk.new _ _ _⟩⟩
          rw [← hV, ← hb10]
          clear hV hb10 HX c0 c1 r0 r1 hq hqo hbC
          obtain ⟨z, hz⟩ : ∃ z, cmpQ q c = z := ⟨_, rfl⟩
          rw [hz] at CM hlo
          have HX1 : Kept (FE w (V.drewN 1) ⟨caps, some ⟨bC, oC, none⟩, ck, flows, fA, fk⟩ gr (loadP ⟨caps, some ⟨bC, oC, none⟩, ck, flows, fA, fk⟩ rs).1 ∧ Blk (V.drewN 1) b10 32 #[.int .i64 q.n, .int .i64 q.d]) := ⟨HV.out.1.drewN 1, HV.out.2.drewN 1⟩
          have l1 := HV.out.1.x.lt
          clear HV hc
          by_cases hz0 : 0 < z
          · have HRR := Kept.mk (feas_link (n := ⟨caps, some ⟨bC, oC, none⟩, ck, flows, fA, fk⟩) hlt (show ldOk ⟨caps, some ⟨bC, oC, none⟩, ck, flows, fA, fk⟩ rs k = false by rw [hlo, decide_eq_false (by omega)]))
            have dz : decide (0 < z) = true := decide_eq_true hz0
            clear hlo hz
            refine wp_region_held_drew (S := fun w' => w'.cell? ⟨b10, 0, none⟩ = some (.int .i64 q.n) ∧ w'.cell? ⟨b10, 1, none⟩ = some (.int .i64 q.d) ∧ w'.cell? ⟨w.heap.size, 0, none⟩ = some (.slice (some ⟨bC, oC, none⟩) caps.length ck) ∧ w'.cell? ⟨bC, oC + k * 2, none⟩ = some (.int .i64 c.n) ∧ w'.cell? ⟨bC, oC + k * 2 + 1, none⟩ = some (.int .i64 c.d)) (by kernel_rfl) (by (try dsimp only); (first | exact fe_cap HX2.out.1 HN.out HCK.out rfl HX2.out.2 | exact fe_cap HX1.out.1 HN.out HCK.out rfl HX1.out.2)) (fun hHeld => ?_)
            refine wpAnyH_take (i := 0) (v := ?_) rfl (by kernel_rfl) (by kernel_rfl) (by kernel_rfl) (fun _ _ _ h => h) (Or.inl ⟨by rfl, ?_⟩) (by assumption) ?_; rotate_left; (intro w hSw; (try dsimp only at hSw); go_simp; try (with_reducible rfl)); try simp only [Act.put, List.setIfInBounds_toArray, List.set_cons_zero, List.set_cons_succ, List.getElem_toArray, List.getElem_cons_succ, List.getElem_cons_zero]
            refine wpAnyH_take (i := 1) (v := ?_) rfl (by kernel_rfl) (by kernel_rfl) (by kernel_rfl) (fun _ _ _ h => h) (Or.inl ⟨by rfl, ?_⟩) (by assumption) ?_; rotate_left; (intro w hSw; (try dsimp only at hSw); go_simp; try (with_reducible rfl)); try simp only [Act.put, List.setIfInBounds_toArray, List.set_cons_zero, List.set_cons_succ, List.getElem_toArray, List.getElem_cons_succ, List.getElem_cons_zero]
            refine wpAnyH_take (i := 2) (v := ?_) rfl (by kernel_rfl) (by kernel_rfl) (by kernel_rfl) (fun _ _ _ h => h) (Or.inl ⟨by rfl, ?_⟩) (by assumption) ?_; rotate_left; (intro w hSw; (try dsimp only at hSw); go_simp; try (with_reducible rfl)); try simp only [Act.put, List.setIfInBounds_toArray, List.set_cons_zero, List.set_cons_succ, List.getElem_toArray, List.getElem_cons_succ, List.getElem_cons_zero]
            refine wpAnyH_take (i := 3) (v := ?_) rfl (by kernel_rfl) (by kernel_rfl) (by kernel_rfl) (fun _ _ _ h => h) (Or.inl ⟨by rfl, ?_⟩) (by assumption) ?_; rotate_left; (intro w hSw; (try dsimp only at hSw); go_simp; try (with_reducible rfl)); try simp only [Act.put, List.setIfInBounds_toArray, List.set_cons_zero, List.set_cons_succ, List.getElem_toArray, List.getElem_cons_succ, List.getElem_cons_zero]
            refine wpAnyH_take (i := 4) (v := ?_) rfl (by kernel_rfl) (by kernel_rfl) (by kernel_rfl) (fun _ _ _ h => h) (Or.inl ⟨by rfl, ?_⟩) (by assumption) ?_; rotate_left; (intro w hSw; (try dsimp only at hSw); go_simp; try (with_reducible rfl)); try simp only [Act.put, List.setIfInBounds_toArray, List.set_cons_zero, List.set_cons_succ, List.getElem_toArray, List.getElem_cons_succ, List.getElem_cons_zero]
            refine wpAnyH_take (i := 5) (v := ?_) rfl (by kernel_rfl) (by kernel_rfl) (by kernel_rfl) (fun _ _ _ h => h) (Or.inl ⟨by rfl, ?_⟩) (by assumption) ?_; rotate_left; (intro w hSw; (try dsimp only at hSw); go_simp; try (with_reducible rfl)); try simp only [Act.put, List.setIfInBounds_toArray, List.set_cons_zero, List.set_cons_succ, List.getElem_toArray, List.getElem_cons_succ, List.getElem_cons_zero]
            refine wpAnyH_ready (rs := [6]) (by kernel_rfl) (by simp) ?_; refine AllReadyH.cons rfl (fun K hK => ?_) AllReadyH.nil; go_simp
            refine (CM _).mono ?_; rintro e wq ⟨rfl, hbq⟩; have HX2 : Kept (FE w wq ⟨caps, some ⟨bC, oC, none⟩, ck, flows, fA, fk⟩ gr (loadP ⟨caps, some ⟨bC, oC, none⟩, ck, flows, fA, fk⟩ rs).1 ∧ Blk wq b10 32 #[.int .i64 q.n, .int .i64 q.d]) := ⟨HX1.out.1.new_ hbq, HX1.out.2.new_ hbq⟩; clear hbq
            try go_wp2_with fail
            refine hK.out _ _ (by (try dsimp only); (first | exact fe_cap HX2.out.1 HN.out HCK.out rfl HX2.out.2 | exact fe_cap HX1.out.1 HN.out HCK.out rfl HX1.out.2)) (fun hHeld => ?_); clear hK K; try simp only [Act.put, List.setIfInBounds_toArray, List.set_cons_zero, List.set_cons_succ, List.getElem_toArray, List.getElem_cons_succ, List.getElem_cons_zero]
            refine wpAnyH_take (i := 7) (v := ?_) rfl (by kernel_rfl) (by kernel_rfl) (by kernel_rfl) (fun _ _ _ h => h) (Or.inl ⟨by rfl, ?_⟩) (by assumption) ?_; rotate_left; (intro w hSw; (try dsimp only at hSw); go_simp; try (with_reducible rfl)); try simp only [Act.put, List.setIfInBounds_toArray, List.set_cons_zero, List.set_cons_succ, List.getElem_toArray, List.getElem_cons_succ, List.getElem_cons_zero]
            refine wpAnyH_done (by kernel_rfl) ?_ _
            go_wp2_with fail
            go_ret
            exact ⟨ret_bool HRR.out.symm, HX2.out.1.blw⟩
          · have HNX := Kept.mk (below_next HB.out (show ldOk ⟨caps, some ⟨bC, oC, none⟩, ck, flows, fA, fk⟩ rs k = true by rw [hlo, decide_eq_true (by omega)]))
            have dz : decide (0 < z) = false := decide_eq_false hz0
            clear hlo hz
            refine wp_region_held_drew (S := fun w' => w'.cell? ⟨b10, 0, none⟩ = some (.int .i64 q.n) ∧ w'.cell? ⟨b10, 1, none⟩ = some (.int .i64 q.d) ∧ w'.cell? ⟨w.heap.size, 0, none⟩ = some (.slice (some ⟨bC, oC, none⟩) caps.length ck) ∧ w'.cell? ⟨bC, oC + k * 2, none⟩ = some (.int .i64 c.n) ∧ w'.cell? ⟨bC, oC + k * 2 + 1, none⟩ = some (.int .i64 c.d)) (by kernel_rfl) (by (try dsimp only); (first | exact fe_cap HX2.out.1 HN.out HCK.out rfl HX2.out.2 | exact fe_cap HX1.out.1 HN.out HCK.out rfl HX1.out.2)) (fun hHeld => ?_)
            refine wpAnyH_take (i := 0) (v := ?_) rfl (by kernel_rfl) (by kernel_rfl) (by kernel_rfl) (fun _ _ _ h => h) (Or.inl ⟨by rfl, ?_⟩) (by assumption) ?_; rotate_left; (intro w hSw; (try dsimp only at hSw); go_simp; try (with_reducible rfl)); try simp only [Act.put, List.setIfInBounds_toArray, List.set_cons_zero, List.set_cons_succ, List.getElem_toArray, List.getElem_cons_succ, List.getElem_cons_zero]
            refine wpAnyH_take (i := 1) (v := ?_) rfl (by kernel_rfl) (by kernel_rfl) (by kernel_rfl) (fun _ _ _ h => h) (Or.inl ⟨by rfl, ?_⟩) (by assumption) ?_; rotate_left; (intro w hSw; (try dsimp only at hSw); go_simp; try (with_reducible rfl)); try simp only [Act.put, List.setIfInBounds_toArray, List.set_cons_zero, List.set_cons_succ, List.getElem_toArray, List.getElem_cons_succ, List.getElem_cons_zero]
            refine wpAnyH_take (i := 2) (v := ?_) rfl (by kernel_rfl) (by kernel_rfl) (by kernel_rfl) (fun _ _ _ h => h) (Or.inl ⟨by rfl, ?_⟩) (by assumption) ?_; rotate_left; (intro w hSw; (try dsimp only at hSw); go_simp; try (with_reducible rfl)); try simp only [Act.put, List.setIfInBounds_toArray, List.set_cons_zero, List.set_cons_succ, List.getElem_toArray, List.getElem_cons_succ, List.getElem_cons_zero]
            refine wpAnyH_take (i := 3) (v := ?_) rfl (by kernel_rfl) (by kernel_rfl) (by kernel_rfl) (fun _ _ _ h => h) (Or.inl ⟨by rfl, ?_⟩) (by assumption) ?_; rotate_left; (intro w hSw; (try dsimp only at hSw); go_simp; try (with_reducible rfl)); try simp only [Act.put, List.setIfInBounds_toArray, List.set_cons_zero, List.set_cons_succ, List.getElem_toArray, List.getElem_cons_succ, List.getElem_cons_zero]
            refine wpAnyH_take (i := 4) (v := ?_) rfl (by kernel_rfl) (by kernel_rfl) (by kernel_rfl) (fun _ _ _ h => h) (Or.inl ⟨by rfl, ?_⟩) (by assumption) ?_; rotate_left; (intro w hSw; (try dsimp only at hSw); go_simp; try (with_reducible rfl)); try simp only [Act.put, List.setIfInBounds_toArray, List.set_cons_zero, List.set_cons_succ, List.getElem_toArray, List.getElem_cons_succ, List.getElem_cons_zero]
            refine wpAnyH_take (i := 5) (v := ?_) rfl (by kernel_rfl) (by kernel_rfl) (by kernel_rfl) (fun _ _ _ h => h) (Or.inl ⟨by rfl, ?_⟩) (by assumption) ?_; rotate_left; (intro w hSw; (try dsimp only at hSw); go_simp; try (with_reducible rfl)); try simp only [Act.put, List.setIfInBounds_toArray, List.set_cons_zero, List.set_cons_succ, List.getElem_toArray, List.getElem_cons_succ, List.getElem_cons_zero]
            refine wpAnyH_ready (rs := [6]) (by kernel_rfl) (by simp) ?_; refine AllReadyH.cons rfl (fun K hK => ?_) AllReadyH.nil; go_simp
            refine (CM _).mono ?_; rintro e wq ⟨rfl, hbq⟩; have HX2 : Kept (FE w wq ⟨caps, some ⟨bC, oC, none⟩, ck, flows, fA, fk⟩ gr (loadP ⟨caps, some ⟨bC, oC, none⟩, ck, flows, fA, fk⟩ rs).1 ∧ Blk wq b10 32 #[.int .i64 q.n, .int .i64 q.d]) := ⟨HX1.out.1.new_ hbq, HX1.out.2.new_ hbq⟩; clear hbq
            try go_wp2_with fail
            refine hK.out _ _ (by (try dsimp only); (first | exact fe_cap HX2.out.1 HN.out HCK.out rfl HX2.out.2 | exact fe_cap HX1.out.1 HN.out HCK.out rfl HX1.out.2)) (fun hHeld => ?_); clear hK K; try simp only [Act.put, List.setIfInBounds_toArray, List.set_cons_zero, List.set_cons_succ, List.getElem_toArray, List.getElem_cons_succ, List.getElem_cons_zero]
            refine wpAnyH_take (i := 7) (v := ?_) rfl (by kernel_rfl) (by kernel_rfl) (by kernel_rfl) (fun _ _ _ h => h) (Or.inl ⟨by rfl, ?_⟩) (by assumption) ?_; rotate_left; (intro w hSw; (try dsimp only at hSw); go_simp; try (with_reducible rfl)); try simp only [Act.put, List.setIfInBounds_toArray, List.set_cons_zero, List.set_cons_succ, List.getElem_toArray, List.getElem_cons_succ, List.getElem_cons_zero]
            refine wpAnyH_done (by kernel_rfl) ?_ _
            go_wp2_with fail
            go_roundw
            case rel => exact ⟨k + 1, by omega, by go_num, HNX, ⟨HX2.out.1⟩⟩
            case measure => simp [intOf]; omega
        · obtain rfl : k = caps.length := by omega
          clear hlt
          have HRR := Kept.mk (feas_yes (n := ⟨caps, cA, ck, flows, fA, fk⟩) HLE.out HA.out HB.out)
          go_wp2_with fail
          go_ret
          exact ⟨ret_bool HRR.out.symm, HX.out.blw⟩
theorem fe_full {w W : World} {n : PNet} {gr : Nat} {L : List Rq} {b o k : Nat} {q c : Rq} (h : FE w W n gr L) (hn : NetAt w w.heap.size n) (hk : n.caps[k]? = some c) (hA : n.cA = some ⟨b, o, none⟩) (hq : L[k]? = some q) :
    W.cell? ⟨gr, k * 2, none⟩ = some (.int .i64 q.n) ∧ W.cell? ⟨gr, k * 2 + 1, none⟩ = some (.int .i64 q.d) ∧ W.cell? ⟨w.heap.size, 0, none⟩ = some (.slice (some ⟨b, o, none⟩) n.caps.length n.ck) ∧ W.cell? ⟨b, o + k * 2, none⟩ = some (.int .i64 c.n) ∧ W.cell? ⟨b, o + k * 2 + 1, none⟩ = some (.int .i64 c.d) := by
  have h1 := (hn.new_ h.blw).cap
  rw [hA] at h1
  obtain ⟨r0, r1, -⟩ := h1.rat hk
  exact ⟨h.rr.cell ccell_len hq (j := 0) rfl, h.rr.cell ccell_len hq (j := 1) rfl, by rw [← hA]; exact h.x.cell 0 rfl, r0, r1⟩
set_option maxRecDepth 100000 in
set_option maxHeartbeats 16000000 in
theorem full_c (n : PNet) (rs : List Rq) (rA : Option Addr) (rk l : Nat) (w : World) (hn : NetAt w w.heap.size n) (hv : netOk n = true) (hr : RowsAt w w.heap.size 2 ccell rA rs) (hrl : rs.length = n.flows.length) (hro : AllOk rs) (hl : l < n.caps.length) (hle : (loadP n rs).2 = 0) : Calls Try.prog 59 #[nval n, .slice rA n.flows.length rk, .int .i64 (l : Int)] w fun e w' => e = .returned (.bool (fullB n rs l)) ∧ Below w.heap.size w w' := by
  have HLE := Kept.mk hle
  have HN := Kept.mk hn
  have HRS := Kept.mk hr
  have HRO := Kept.mk hro
  have HRL := Kept.mk hrl
  have LC := fun w h1 h2 => load_c n rs rA rk w h1 hv h2 hrl hro
  have HCO : Kept (∀ c ∈ n.caps, R64 c.n ∧ R64 c.d) := ⟨hn.c64⟩
  have hsz : n.caps.length ≤ 32 ∧ n.flows.length ≤ 32 := by
    unfold netOk at hv
    rw [Bool.and_eq_true, Bool.and_eq_true, decide_eq_true_eq, decide_eq_true_eq] at hv
    exact ⟨hv.1, hv.2.1⟩
  obtain ⟨hc32, hf32⟩ := hsz
  have HLI := Kept.mk (loadP_err n rs)
  clear hn hv hr hro hrl
  obtain ⟨caps, cA, ck, flows, fA, fk⟩ := n
  dsimp only at hc32 hf32 HRL HCO
  unfold nval at LC ⊢
  dsimp only at LC ⊢
  have HX0 := Kept.mk (Blk.new w 25 #[.slice cA caps.length ck, .slice fA flows.length fk])
  have HD0 : Kept (Below w.heap.size w (w.alloc (.cells #[.slice cA caps.length ck, .slice fA flows.length fk] 25))) := ⟨by go_grown⟩
  have HN0 := HN.out.new_ HD0.out
  have HRS0 := HRS.out.new_ HD0.out
  have n0 := HX0.out.cell 0 (v := .slice cA caps.length ck) rfl
  have n1 := HX0.out.cell 1 (v := .slice fA flows.length fk) rfl
  clear hle
  dsimp only at hl
  obtain ⟨c, bC, oC, hc, rfl, -, -, -, -, -⟩ := HN.out.capAt hl
  obtain ⟨q, hq⟩ := get_some (show l < (loadP ⟨caps, some ⟨bC, oC, none⟩, ck, flows, fA, fk⟩ rs).1.length by unfold loadP; rw [ldK_len]; exact hl)
  dsimp only at hc
  have hqo := ldK_ok ⟨caps, some ⟨bC, oC, none⟩, ck, flows, fA, fk⟩ rs flows.length q (List.mem_of_getElem? hq)
  have h64 := okQ_R64 hqo
  have hd64 := HCO.out c (List.mem_of_getElem? hc)
  have CM := fun w => cmp_c q c w h64.1 h64.2 hd64.1 hd64.2
  unfold rqv at CM
  have hfb : fullB ⟨caps, some ⟨bC, oC, none⟩, ck, flows, fA, fk⟩ rs l = (cmpQ q c == 0) := by
    unfold fullB
    rw [decide_eq_true HLE.out, List.getD_eq_getElem?_getD, List.getD_eq_getElem?_getD, hq]
    dsimp only
    rw [hc]
    rfl
  obtain ⟨z, hz⟩ : ∃ z, cmpQ q c = z := ⟨_, rfl⟩
  rw [hz] at CM hfb
  rw [hfb]
  have HCK := Kept.mk hc
  have HQK := Kept.mk hq
  clear hc hq hqo hz hfb
  go_enter Try.func59, Try.ntmps59
  go_upto_region 2 with (go_at_call 42; refine (LC _ HN0 HRS0).mono ?_; intro e w1 hLR; rcases hLR with ⟨-, gr, rfl, hrr, hgr, hb1⟩ | ⟨habs, -⟩; rotate_left; exact absurd HLE.out (by rw [habs]; decide); have HX1 : Kept (FE w w1 ⟨caps, some ⟨bC, oC, none⟩, ck, flows, fA, fk⟩ gr (loadP ⟨caps, some ⟨bC, oC, none⟩, ck, flows, fA, fk⟩ rs).1) := ⟨HX0.out.new_ hb1, hrr, join HD0.out hb1, by have := HX0.out.lt; omega⟩; clear hb1 hrr hgr)
  have HX2 : Kept (FE w (w1.drewN 1) ⟨caps, some ⟨bC, oC, none⟩, ck, flows, fA, fk⟩ gr (loadP ⟨caps, some ⟨bC, oC, none⟩, ck, flows, fA, fk⟩ rs).1) := ⟨HX1.out.drewN 1⟩
  have l1 := HX1.out.x.lt
  clear n0 n1 HX0 HD0 HN0 HRS0 LC HX1
  refine wp_region_held_drew (S := fun w' => w'.cell? ⟨gr, l * 2, none⟩ = some (.int .i64 q.n) ∧ w'.cell? ⟨gr, l * 2 + 1, none⟩ = some (.int .i64 q.d) ∧ w'.cell? ⟨w.heap.size, 0, none⟩ = some (.slice (some ⟨bC, oC, none⟩) caps.length ck) ∧ w'.cell? ⟨bC, oC + l * 2, none⟩ = some (.int .i64 c.n) ∧ w'.cell? ⟨bC, oC + l * 2 + 1, none⟩ = some (.int .i64 c.d)) (by kernel_rfl) (by (try dsimp only); (first | exact fe_full HX3.out HN.out HCK.out rfl HQK.out | exact fe_full HX2.out HN.out HCK.out rfl HQK.out)) (fun hHeld => ?_)
  refine wpAnyH_take (i := 0) (v := ?_) rfl (by kernel_rfl) (by kernel_rfl) (by kernel_rfl) (fun _ _ _ h => h) (Or.inl ⟨by rfl, ?_⟩) (by assumption) ?_; rotate_left; (intro w hSw; (try dsimp only at hSw); go_simp; try (with_reducible rfl)); try simp only [Act.put, List.setIfInBounds_toArray, List.set_cons_zero, List.set_cons_succ, List.getElem_toArray, List.getElem_cons_succ, List.getElem_cons_zero]
  refine wpAnyH_take (i := 1) (v := ?_) rfl (by kernel_rfl) (by kernel_rfl) (by kernel_rfl) (fun _ _ _ h => h) (Or.inl ⟨by rfl, ?_⟩) (by assumption) ?_; rotate_left; (intro w hSw; (try dsimp only at hSw); go_simp; try (with_reducible rfl)); try simp only [Act.put, List.setIfInBounds_toArray, List.set_cons_zero, List.set_cons_succ, List.getElem_toArray, List.getElem_cons_succ, List.getElem_cons_zero]
  refine wpAnyH_take (i := 2) (v := ?_) rfl (by kernel_rfl) (by kernel_rfl) (by kernel_rfl) (fun _ _ _ h => h) (Or.inl ⟨by rfl, ?_⟩) (by assumption) ?_; rotate_left; (intro w hSw; (try dsimp only at hSw); go_simp; try (with_reducible rfl)); try simp only [Act.put, List.setIfInBounds_toArray, List.set_cons_zero, List.set_cons_succ, List.getElem_toArray, List.getElem_cons_succ, List.getElem_cons_zero]
  refine wpAnyH_take (i := 3) (v := ?_) rfl (by kernel_rfl) (by kernel_rfl) (by kernel_rfl) (fun _ _ _ h => h) (Or.inl ⟨by rfl, ?_⟩) (by assumption) ?_; rotate_left; (intro w hSw; (try dsimp only at hSw); go_simp; try (with_reducible rfl)); try simp only [Act.put, List.setIfInBounds_toArray, List.set_cons_zero, List.set_cons_succ, List.getElem_toArray, List.getElem_cons_succ, List.getElem_cons_zero]
  refine wpAnyH_take (i := 4) (v := ?_) rfl (by kernel_rfl) (by kernel_rfl) (by kernel_rfl) (fun _ _ _ h => h) (Or.inl ⟨by rfl, ?_⟩) (by assumption) ?_; rotate_left; (intro w hSw; (try dsimp only at hSw); go_simp; try (with_reducible rfl)); try simp only [Act.put, List.setIfInBounds_toArray, List.set_cons_zero, List.set_cons_succ, List.getElem_toArray, List.getElem_cons_succ, List.getElem_cons_zero]
  refine wpAnyH_take (i := 5) (v := ?_) rfl (by kernel_rfl) (by kernel_rfl) (by kernel_rfl) (fun _ _ _ h => h) (Or.inl ⟨by rfl, ?_⟩) (by assumption) ?_; rotate_left; (intro w hSw; (try dsimp only at hSw); go_simp; try (with_reducible rfl)); try simp only [Act.put, List.setIfInBounds_toArray, List.set_cons_zero, List.set_cons_succ, List.getElem_toArray, List.getElem_cons_succ, List.getElem_cons_zero]
  refine wpAnyH_take (i := 6) (v := ?_) rfl (by kernel_rfl) (by kernel_rfl) (by kernel_rfl) (fun _ _ _ h => h) (Or.inl ⟨by rfl, ?_⟩) (by assumption) ?_; rotate_left; (intro w hSw; (try dsimp only at hSw); go_simp; try (with_reducible rfl)); try simp only [Act.put, List.setIfInBounds_toArray, List.set_cons_zero, List.set_cons_succ, List.getElem_toArray, List.getElem_cons_succ, List.getElem_cons_zero]
  refine wpAnyH_take (i := 7) (v := ?_) rfl (by kernel_rfl) (by kernel_rfl) (by kernel_rfl) (fun _ _ _ h => h) (Or.inl ⟨by rfl, ?_⟩) (by assumption) ?_; rotate_left; (intro w hSw; (try dsimp only at hSw); go_simp; try (with_reducible rfl)); try simp only [Act.put, List.setIfInBounds_toArray, List.set_cons_zero, List.set_cons_succ, List.getElem_toArray, List.getElem_cons_succ, List.getElem_cons_zero]
  refine wpAnyH_take (i := 8) (v := ?_) rfl (by kernel_rfl) (by kernel_rfl) (by kernel_rfl) (fun _ _ _ h => h) (Or.inl ⟨by rfl, ?_⟩) (by assumption) ?_; rotate_left; (intro w hSw; (try dsimp only at hSw); go_simp; try (with_reducible rfl)); try simp only [Act.put, List.setIfInBounds_toArray, List.set_cons_zero, List.set_cons_succ, List.getElem_toArray, List.getElem_cons_succ, List.getElem_cons_zero]
  refine wpAnyH_take (i := 9) (v := ?_) rfl (by kernel_rfl) (by kernel_rfl) (by kernel_rfl) (fun _ _ _ h => h) (Or.inl ⟨by rfl, ?_⟩) (by assumption) ?_; rotate_left; (intro w hSw; (try dsimp only at hSw); go_simp; try (with_reducible rfl)); try simp only [Act.put, List.setIfInBounds_toArray, List.set_cons_zero, List.set_cons_succ, List.getElem_toArray, List.getElem_cons_succ, List.getElem_cons_zero]
  refine wpAnyH_take (i := 10) (v := ?_) rfl (by kernel_rfl) (by kernel_rfl) (by kernel_rfl) (fun _ _ _ h => h) (Or.inl ⟨by rfl, ?_⟩) (by assumption) ?_; rotate_left; (intro w hSw; (try dsimp only at hSw); go_simp; try (with_reducible rfl)); try simp only [Act.put, List.setIfInBounds_toArray, List.set_cons_zero, List.set_cons_succ, List.getElem_toArray, List.getElem_cons_succ, List.getElem_cons_zero]
  refine wpAnyH_take (i := 11) (v := ?_) rfl (by kernel_rfl) (by kernel_rfl) (by kernel_rfl) (fun _ _ _ h => h) (Or.inl ⟨by rfl, ?_⟩) (by assumption) ?_; rotate_left; (intro w hSw; (try dsimp only at hSw); go_simp; try (with_reducible rfl)); try simp only [Act.put, List.setIfInBounds_toArray, List.set_cons_zero, List.set_cons_succ, List.getElem_toArray, List.getElem_cons_succ, List.getElem_cons_zero]
  refine wpAnyH_take (i := 12) (v := ?_) rfl (by kernel_rfl) (by kernel_rfl) (by kernel_rfl) (fun _ _ _ h => h) (Or.inl ⟨by rfl, ?_⟩) (by assumption) ?_; rotate_left; (intro w hSw; (try dsimp only at hSw); go_simp; try (with_reducible rfl)); try simp only [Act.put, List.setIfInBounds_toArray, List.set_cons_zero, List.set_cons_succ, List.getElem_toArray, List.getElem_cons_succ, List.getElem_cons_zero]
  refine wpAnyH_take (i := 13) (v := ?_) rfl (by kernel_rfl) (by kernel_rfl) (by kernel_rfl) (fun _ _ _ h => h) (Or.inl ⟨by rfl, ?_⟩) (by assumption) ?_; rotate_left; (intro w hSw; (try dsimp only at hSw); go_simp; try (with_reducible rfl)); try simp only [Act.put, List.setIfInBounds_toArray, List.set_cons_zero, List.set_cons_succ, List.getElem_toArray, List.getElem_cons_succ, List.getElem_cons_zero]
  refine wpAnyH_take (i := 14) (v := ?_) rfl (by kernel_rfl) (by kernel_rfl) (by kernel_rfl) (fun _ _ _ h => h) (Or.inl ⟨by rfl, ?_⟩) (by assumption) ?_; rotate_left; (intro w hSw; (try dsimp only at hSw); go_simp; try (with_reducible rfl)); try simp only [Act.put, List.setIfInBounds_toArray, List.set_cons_zero, List.set_cons_succ, List.getElem_toArray, List.getElem_cons_succ, List.getElem_cons_zero]
  refine wpAnyH_take (i := 15) (v := ?_) rfl (by kernel_rfl) (by kernel_rfl) (by kernel_rfl) (fun _ _ _ h => h) (Or.inl ⟨by rfl, ?_⟩) (by assumption) ?_; rotate_left; (intro w hSw; (try dsimp only at hSw); go_simp; try (with_reducible rfl)); try simp only [Act.put, List.setIfInBounds_toArray, List.set_cons_zero, List.set_cons_succ, List.getElem_toArray, List.getElem_cons_succ, List.getElem_cons_zero]
  refine wpAnyH_take (i := 16) (v := ?_) rfl (by kernel_rfl) (by kernel_rfl) (by kernel_rfl) (fun _ _ _ h => h) (Or.inl ⟨by rfl, ?_⟩) (by assumption) ?_; rotate_left; (intro w hSw; (try dsimp only at hSw); go_simp; try (with_reducible rfl)); try simp only [Act.put, List.setIfInBounds_toArray, List.set_cons_zero, List.set_cons_succ, List.getElem_toArray, List.getElem_cons_succ, List.getElem_cons_zero]
  refine wpAnyH_take (i := 17) (v := ?_) rfl (by kernel_rfl) (by kernel_rfl) (by kernel_rfl) (fun _ _ _ h => h) (Or.inl ⟨by rfl, ?_⟩) (by assumption) ?_; rotate_left; (intro w hSw; (try dsimp only at hSw); go_simp; try (with_reducible rfl)); try simp only [Act.put, List.setIfInBounds_toArray, List.set_cons_zero, List.set_cons_succ, List.getElem_toArray, List.getElem_cons_succ, List.getElem_cons_zero]
  refine wpAnyH_take (i := 18) (v := ?_) rfl (by kernel_rfl) (by kernel_rfl) (by kernel_rfl) (fun _ _ _ h => h) (Or.inl ⟨by rfl, ?_⟩) (by assumption) ?_; rotate_left; (intro w hSw; (try dsimp only at hSw); go_simp; try (with_reducible rfl)); try simp only [Act.put, List.setIfInBounds_toArray, List.set_cons_zero, List.set_cons_succ, List.getElem_toArray, List.getElem_cons_succ, List.getElem_cons_zero]
  refine wpAnyH_take (i := 19) (v := ?_) rfl (by kernel_rfl) (by kernel_rfl) (by kernel_rfl) (fun _ _ _ h => h) (Or.inl ⟨by rfl, ?_⟩) (by assumption) ?_; rotate_left; (intro w hSw; (try dsimp only at hSw); go_simp; try (with_reducible rfl)); try simp only [Act.put, List.setIfInBounds_toArray, List.set_cons_zero, List.set_cons_succ, List.getElem_toArray, List.getElem_cons_succ, List.getElem_cons_zero]
  refine wpAnyH_take (i := 20) (v := ?_) rfl (by kernel_rfl) (by kernel_rfl) (by kernel_rfl) (fun _ _ _ h => h) (Or.inl ⟨by rfl, ?_⟩) (by assumption) ?_; rotate_left; (intro w hSw; (try dsimp only at hSw); go_simp; try (with_reducible rfl)); try simp only [Act.put, List.setIfInBounds_toArray, List.set_cons_zero, List.set_cons_succ, List.getElem_toArray, List.getElem_cons_succ, List.getElem_cons_zero]
  refine wpAnyH_take (i := 21) (v := ?_) rfl (by kernel_rfl) (by kernel_rfl) (by kernel_rfl) (fun _ _ _ h => h) (Or.inl ⟨by rfl, ?_⟩) (by assumption) ?_; rotate_left; (intro w hSw; (try dsimp only at hSw); go_simp; try (with_reducible rfl)); try simp only [Act.put, List.setIfInBounds_toArray, List.set_cons_zero, List.set_cons_succ, List.getElem_toArray, List.getElem_cons_succ, List.getElem_cons_zero]
  refine wpAnyH_ready (rs := [22]) (by kernel_rfl) (by simp) ?_; refine AllReadyH.cons rfl (fun K hK => ?_) AllReadyH.nil; go_simp
  refine (CM _).mono ?_; rintro e wq ⟨rfl, hbq⟩; have HX3 : Kept (FE w wq ⟨caps, some ⟨bC, oC, none⟩, ck, flows, fA, fk⟩ gr (loadP ⟨caps, some ⟨bC, oC, none⟩, ck, flows, fA, fk⟩ rs).1) := ⟨HX2.out.new_ hbq⟩; clear hbq
  try go_wp2_with fail
  refine hK.out _ _ (by (try dsimp only); (first | exact fe_full HX3.out HN.out HCK.out rfl HQK.out | exact fe_full HX2.out HN.out HCK.out rfl HQK.out)) (fun hHeld => ?_); clear hK K; try simp only [Act.put, List.setIfInBounds_toArray, List.set_cons_zero, List.set_cons_succ, List.getElem_toArray, List.getElem_cons_succ, List.getElem_cons_zero]
  refine wpAnyH_take (i := 23) (v := ?_) rfl (by kernel_rfl) (by kernel_rfl) (by kernel_rfl) (fun _ _ _ h => h) (Or.inl ⟨by rfl, ?_⟩) (by assumption) ?_; rotate_left; (intro w hSw; (try dsimp only at hSw); go_simp; try (with_reducible rfl)); try simp only [Act.put, List.setIfInBounds_toArray, List.set_cons_zero, List.set_cons_succ, List.getElem_toArray, List.getElem_cons_succ, List.getElem_cons_zero]
  refine wpAnyH_take (i := 24) (v := ?_) rfl (by kernel_rfl) (by kernel_rfl) (by kernel_rfl) (fun _ _ _ h => h) (Or.inl ⟨by rfl, ?_⟩) (by assumption) ?_; rotate_left; (intro w hSw; (try dsimp only at hSw); go_simp; try (with_reducible rfl)); try simp only [Act.put, List.setIfInBounds_toArray, List.set_cons_zero, List.set_cons_succ, List.getElem_toArray, List.getElem_cons_succ, List.getElem_cons_zero]
  refine wpAnyH_take (i := 25) (v := ?_) rfl (by kernel_rfl) (by kernel_rfl) (by kernel_rfl) (fun _ _ _ h => h) (Or.inl ⟨by rfl, ?_⟩) (by assumption) ?_; rotate_left; (intro w hSw; (try dsimp only at hSw); go_simp; try (with_reducible rfl)); try simp only [Act.put, List.setIfInBounds_toArray, List.set_cons_zero, List.set_cons_succ, List.getElem_toArray, List.getElem_cons_succ, List.getElem_cons_zero]
  refine wpAnyH_done (by kernel_rfl) ?_ _
  go_wp2_with fail
  go_ret
  exact ⟨rfl, HX3.out.blw⟩
end Go.Proofs.Ytjalegdfofogcaa
