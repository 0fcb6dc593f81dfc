/- The reasons: holds and the closure that it answers. -/
import Derived.Test.YtjalegdfofogcaaFeaA
namespace Go.Proofs.Ytjalegdfofogcaa
set_option linter.unusedVariables false
set_option linter.unusedSimpArgs false
open Go.RowKit
def fullL (n : PNet) (rs : List Rq) : List Bool := (List.range n.caps.length).map (fullB n rs)
def cmpHold (n : PNet) (rs : List Rq) (i : Nat) (x : Int) (j : Nat) : Bool := !((flo n j).ls.contains x && decide (0 < cmpQ (rs.getD j rq0) (rs.getD i rq0)))
/-- A reason for a flow holds. -/
def holdB (n : PNet) (rs : List Rq) (i : Nat) (x : Int) : Bool :=
  if x = -1 then (flo n i).b && cmpQ (rs.getD i rq0) (flo n i).d == 0
  else (flo n i).ls.contains x && (fullB n rs x.toNat && (List.range n.flows.length).all (cmpHold n rs i x))
/-- What the closure has captured. -/
structure HC (W : World) (n : PNet) (rs : List Rq) (rA : Option Addr) (rk bN bR bU gU : Nat) (U : List Bool) : Prop where
  bn : Blk W bN 25 #[.slice n.cA n.caps.length n.ck, .slice n.fA n.flows.length n.fk]
  br : Blk W bR 22 #[.slice rA n.flows.length rk]
  bu : Blk W bU 47 #[.slice (some ⟨gU, 0, none⟩) n.caps.length n.caps.length]
  bg : RowBlk W gU 4 boolc U
section
variable {w w' W W' : World} {n : PNet} {rs : List Rq} {rA : Option Addr} {rk bN bR bU gU : Nat} {U : List Bool}
theorem HC.new_ (h : HC W n rs rA rk bN bR bU gU U) (hb : Below W.heap.size W W') : HC W' n rs rA rk bN bR bU gU U := ⟨h.bn.new_ hb, h.br.new_ hb, h.bu.new_ hb, h.bg.new_ hb⟩
theorem HC.alloc (h : HC W n rs rA rk bN bR bU gU U) (o : Obj) : HC (W.alloc o) n rs rA rk bN bR bU gU U := h.new_ ((Below.refl _ _).alloc (Nat.le_refl _) o)
theorem HC.drewN (h : HC W n rs rA rk bN bR bU gU U) (k : Nat) : HC (W.drewN k) n rs rA rk bN bR bU gU U := h.new_ (dN (Below.refl _ _) k)
theorem HC.keep (h : HC W n rs rA rk bN bR bU gU U) : W.cell? ⟨bU, 0, none⟩ = some (.slice (some ⟨gU, 0, none⟩) n.caps.length n.caps.length) ∧ W.cell? ⟨bN, 0, none⟩ = some (.slice n.cA n.caps.length n.ck) ∧ W.cell? ⟨bN, 1, none⟩ = some (.slice n.fA n.flows.length n.fk) ∧ W.cell? ⟨bR, 0, none⟩ = some (.slice rA n.flows.length rk) := ⟨h.bu.cell 0 rfl, h.bn.cell 0 rfl, h.bn.cell 1 rfl, h.br.cell 0 rfl⟩
theorem HC.put (h : HC W n rs rA rk bN bR bU gU U) (hne : bN ≠ gU ∧ bR ≠ gU ∧ bU ≠ gU) {k : Nat} (hk : k < U.length) (b : Bool) : HC (W.setCell ⟨gU, k, none⟩ (.bool b)) n rs rA rk bN bR bU gU (U.set k b) :=
  ⟨h.bn.far hne.1 _, h.br.far hne.2.1 _, h.bu.far hne.2.2 _, h.bg.set1 boolc_len hk rfl⟩
end
def fullK (n : PNet) (rs : List Rq) (k : Nat) : List Bool := (List.range k).map (fullB n rs) ++ List.replicate (n.caps.length - k) false
theorem fullK_len {n : PNet} {rs : List Rq} {k : Nat} (h : k ≤ n.caps.length) : (fullK n rs k).length = n.caps.length := by unfold fullK; rw [List.length_append, List.length_map, List.length_range, List.length_replicate]; omega
theorem fullK_next {n : PNet} {rs : List Rq} {k : Nat} (h : k < n.caps.length) : (fullK n rs k).set k (fullB n rs k) = fullK n rs (k + 1) := by
  unfold fullK
  rw [List.set_append_right _ _ (by simp), List.length_map, List.length_range, Nat.sub_self, show n.caps.length - k = (n.caps.length - (k + 1)) + 1 by omega, List.replicate_succ, List.set_cons_zero, List.range_succ, List.map_append, List.append_assoc]
  rfl
/-- What holds answers. -/
def HolR (w : World) (n : PNet) (rs : List Rq) (rA : Option Addr) (rk : Nat) (e : Ending) (w' : World) : Prop := ∃ bN bR bU gU : Nat, e = .returned (.func (.func 60) #[] #[.pointer (some ⟨bN, 0, none⟩), .pointer (some ⟨bR, 0, none⟩), .pointer (some ⟨bU, 0, none⟩)]) ∧ HC w' n rs rA rk bN bR bU gU (fullL n rs) ∧ (w.heap.size ≤ bN ∧ w.heap.size ≤ bR ∧ w.heap.size ≤ bU ∧ w.heap.size ≤ gU) ∧ Below w.heap.size w w'
set_option maxRecDepth 100000 in
set_option maxHeartbeats 16000000 in
theorem holds_c (n : PNet) (rs : List Rq) (rA : Option Addr) (rk : Nat) (w : World) (hn : NetAt w w.heap.size n) (hv : netOk n = true) (hr : RowsAt w w.heap.size 2 ccell rA rs) (hrl : rs.length = n.flows.length) (hro : AllOk rs) (hle : (loadP n rs).2 = 0) : Calls Try.prog 43 #[nval n, .slice rA n.flows.length rk] w (HolR w n rs rA rk) := by
  have HN := Kept.mk hn
  have HRS := Kept.mk hr
  have FU := fun (l : Nat) (hl : l < n.caps.length) w h1 h2 => full_c n rs rA rk l w h1 hv h2 hrl hro hl hle
  have hc32 : n.caps.length ≤ 32 := by
    unfold netOk at hv
    rw [Bool.and_eq_true, decide_eq_true_eq] at hv
    exact hv.1
  clear hn hv hr hrl hro hle
  obtain ⟨caps, cA, ck, flows, fA, fk⟩ := n
  dsimp only at hc32
  unfold nval at FU ⊢
  dsimp only at FU ⊢
  have HFU := Kept.mk FU
  clear FU
  have hmkO := fun w => run_make_flat (P := Try.prog) boolc_len (by omega) false 47 4 _ 1 Try.underlying47 infoO rfl caps.length (by omega) (by omega) w
  obtain ⟨R, hR⟩ : ∃ R, R = HolR w ⟨caps, cA, ck, flows, fA, fk⟩ rs rA rk := ⟨_, rfl⟩
  rw [← hR]
  have HR := Kept.mk hR
  clear hR
  go_enter Try.func43, Try.ntmps43
  go_upto_region 2 with fail
  obtain ⟨gU, hgU⟩ : ∃ g, g = w.heap.size + 2 := ⟨_, rfl⟩
  obtain ⟨bU, hbU⟩ : ∃ g, g = w.heap.size + 3 := ⟨_, rfl⟩
  obtain ⟨V, hV, HV⟩ : ∃ V, V = (((w.alloc (.cells #[.slice cA caps.length ck, .slice fA flows.length fk] 25)).alloc (.cells #[.slice rA flows.length rk] 22)).alloc (.cells ((List.replicate caps.length false).flatMap boolc).toArray 4)).alloc (.cells #[.slice (some ⟨w.heap.size + 2, 0, none⟩) caps.length caps.length] 47) ∧ Kept (HC V ⟨caps, cA, ck, flows, fA, fk⟩ rs rA rk w.heap.size (w.heap.size + 1) bU gU (fullK ⟨caps, cA, ck, flows, fA, fk⟩ rs 0) ∧ Below w.heap.size w V) := by
    subst hgU hbU
    have h1 : Blk ((w.alloc (.cells #[.slice cA caps.length ck, .slice fA flows.length fk] 25)).alloc (.cells #[.slice rA flows.length rk] 22)) (w.heap.size + 1) 22 #[.slice rA flows.length rk] := by
      have := Blk.new (w.alloc (.cells #[.slice cA caps.length ck, .slice fA flows.length fk] 25)) 22 #[.slice rA flows.length rk]
      rwa [World.size_alloc] at this
    have h2 : RowBlk (((w.alloc (.cells #[.slice cA caps.length ck, .slice fA flows.length fk] 25)).alloc (.cells #[.slice rA flows.length rk] 22)).alloc (.cells ((List.replicate caps.length false).flatMap boolc).toArray 4)) (w.heap.size + 2) 4 boolc (List.replicate caps.length false) := by
      have := Blk.new ((w.alloc (.cells #[.slice cA caps.length ck, .slice fA flows.length fk] 25)).alloc (.cells #[.slice rA flows.length rk] 22)) 4 ((List.replicate caps.length false).flatMap boolc).toArray
      rw [World.size_alloc, World.size_alloc] at this
      exact this
    have h3 : Blk ((((w.alloc (.cells #[.slice cA caps.length ck, .slice fA flows.length fk] 25)).alloc (.cells #[.slice rA flows.length rk] 22)).alloc (.cells ((List.replicate caps.length false).flatMap boolc).toArray 4)).alloc (.cells #[.slice (some ⟨w.heap.size + 2, 0, none⟩) caps.length caps.length] 47)) (w.heap.size + 3) 47 #[.slice (some ⟨w.heap.size + 2, 0, none⟩) caps.length caps.length] := by
      have := Blk.new (((w.alloc (.cells #[.slice cA caps.length ck, .slice fA flows.length fk] 25)).alloc (.cells #[.slice rA flows.length rk] 22)).alloc (.cells ((List.replicate caps.length false).flatMap boolc).toArray 4)) 47 #[.slice (some ⟨w.heap.size + 2, 0, none⟩) caps.length caps.length]
      rw [World.size_alloc, World.size_alloc, World.size_alloc] at this
      exact this
    exact ⟨_, rfl, ⟨⟨(((Blk.new _ _ _).alloc _).alloc _).alloc _, (h1.alloc _).alloc _, h3, h2.alloc _⟩, by go_grown⟩⟩
  rw [← hV, ← hbU]
  have HNE : Kept (w.heap.size ≠ gU ∧ w.heap.size + 1 ≠ gU ∧ bU ≠ gU) := ⟨by omega⟩
  have HNE2 : Kept (w.heap.size ≤ gU ∧ w.heap.size ≤ bU) := ⟨by omega⟩
  clear hV hgU hbU hmkO
  have b0 := HV.out.1.bu.cell 0 rfl
  have b1 := HV.out.1.bu.lt
  go_wp2_with fail
  go_loopw [13] (fun v wr => ∃ k : Nat, k ≤ caps.length ∧ v = .int .i64 k ∧ Kept (HC wr ⟨caps, cA, ck, flows, fA, fk⟩ rs rA rk w.heap.size (w.heap.size + 1) bU gU (fullK ⟨caps, cA, ck, flows, fA, fk⟩ rs k) ∧ Below w.heap.size w wr)) (fun v _ => caps.length - (intOf v).toNat)
  case atStart => exact ⟨0, Nat.zero_le _, rfl, HV⟩
  case round =>
    clear HV b0 b1
    obtain ⟨k, hk, rfl, HV⟩ := hrel
    by_cases hlt : k < caps.length
    · have FU := HFU.out k hlt
      obtain ⟨U, hU⟩ : ∃ U, U = fullK ⟨caps, cA, ck, flows, fA, fk⟩ rs k := ⟨_, rfl⟩
      have hkU : k < U.length := by rw [hU, fullK_len (n := ⟨caps, cA, ck, flows, fA, fk⟩) hk]; exact hlt
      have HNX : Kept (U.set k (fullB ⟨caps, cA, ck, flows, fA, fk⟩ rs k) = fullK ⟨caps, cA, ck, flows, fA, fk⟩ rs (k + 1)) := ⟨by rw [hU]; exact fullK_next (n := ⟨caps, cA, ck, flows, fA, fk⟩) hlt⟩
      rw [← hU] at HV
      obtain ⟨u, hu⟩ := get_some hkU
      have HUK := Kept.mk hu
      have HKU := Kept.mk hkU
      clear hU hu hkU
      have HX1 : Kept (HC (wr.drewN 1) ⟨caps, cA, ck, flows, fA, fk⟩ rs rA rk w.heap.size (w.heap.size + 1) bU gU U ∧ Below w.heap.size w (wr.drewN 1)) := ⟨HV.out.1.drewN 1, dN HV.out.2 1⟩
      have l1 := HV.out.1.bn.lt
      have l2 := HV.out.1.br.lt
      have l3 := HV.out.1.bu.lt
      clear HV
      go_upto_region 5 with fail
      refine wp_region_held_drew (S := fun w' => w'.cell? ⟨bU, 0, none⟩ = some (.slice (some ⟨gU, 0, none⟩) caps.length caps.length) ∧ w'.cell? ⟨w.heap.size, 0, none⟩ = some (.slice cA caps.length ck) ∧ w'.cell? ⟨w.heap.size, 1, none⟩ = some (.slice fA flows.length fk) ∧ w'.cell? ⟨w.heap.size + 1, 0, none⟩ = some (.slice rA flows.length rk)) (by kernel_rfl) (by (try dsimp only); (first | exact HX3.out.1.keep | exact HX2.out.1.keep | exact HX1.out.1.keep)) (fun hHeld => ?_)
      refine wpAnyH_take (i := 0) (v := ?_) rfl (by kernel_rfl) (by kernel_rfl) (by kernel_rfl) (fun _ _ _ h => h) (Or.inl ⟨by rfl, ?_⟩) (by assumption) ?_; rotate_left; (intro w hSw; (try dsimp only at hSw); go_simp; try (with_reducible rfl)); try simp only [Act.put, List.setIfInBounds_toArray, List.set_cons_zero, List.set_cons_succ, List.getElem_toArray, List.getElem_cons_succ, List.getElem_cons_zero]
      refine wpAnyH_take (i := 1) (v := ?_) rfl (by kernel_rfl) (by kernel_rfl) (by kernel_rfl) (fun _ _ _ h => h) (Or.inl ⟨by rfl, ?_⟩) (by assumption) ?_; rotate_left; (intro w hSw; (try dsimp only at hSw); go_simp; try (with_reducible rfl)); try simp only [Act.put, List.setIfInBounds_toArray, List.set_cons_zero, List.set_cons_succ, List.getElem_toArray, List.getElem_cons_succ, List.getElem_cons_zero]
      refine wpAnyH_take (i := 2) (v := ?_) rfl (by kernel_rfl) (by kernel_rfl) (by kernel_rfl) (fun _ _ _ h => h) (Or.inl ⟨by rfl, ?_⟩) (by assumption) ?_; rotate_left; (intro w hSw; (try dsimp only at hSw); go_simp; try (with_reducible rfl)); try simp only [Act.put, List.setIfInBounds_toArray, List.set_cons_zero, List.set_cons_succ, List.getElem_toArray, List.getElem_cons_succ, List.getElem_cons_zero]
      refine wpAnyH_take (i := 3) (v := ?_) rfl (by kernel_rfl) (by kernel_rfl) (by kernel_rfl) (fun _ _ _ h => h) (Or.inl ⟨by rfl, ?_⟩) (by assumption) ?_; rotate_left; (intro w hSw; (try dsimp only at hSw); go_simp; try (with_reducible rfl)); try simp only [Act.put, List.setIfInBounds_toArray, List.set_cons_zero, List.set_cons_succ, List.getElem_toArray, List.getElem_cons_succ, List.getElem_cons_zero]
      refine wpAnyH_take (i := 4) (v := ?_) rfl (by kernel_rfl) (by kernel_rfl) (by kernel_rfl) (fun _ _ _ h => h) (Or.inl ⟨by rfl, ?_⟩) (by assumption) ?_; rotate_left; (intro w hSw; (try dsimp only at hSw); go_simp; try (with_reducible rfl)); try simp only [Act.put, List.setIfInBounds_toArray, List.set_cons_zero, List.set_cons_succ, List.getElem_toArray, List.getElem_cons_succ, List.getElem_cons_zero]
      refine wpAnyH_ready (rs := [5]) (by kernel_rfl) (by simp) ?_; refine AllReadyH.cons rfl (fun K hK => ?_) AllReadyH.nil; go_simp
      refine (FU _ (HN.out.new_ HX1.out.2) (HRS.out.new_ HX1.out.2)).mono ?_; rintro e wq ⟨rfl, hbq⟩; have HX2 : Kept (HC wq ⟨caps, cA, ck, flows, fA, fk⟩ rs rA rk w.heap.size (w.heap.size + 1) bU gU U ∧ Below w.heap.size w wq) := ⟨HX1.out.1.new_ hbq, join HX1.out.2 hbq⟩; clear hbq; have g0 := HX2.out.1.bg.cell boolc_len HUK.out (j := 0) rfl; simp only [Nat.mul_one, Nat.add_zero] at g0; have g1 := HX2.out.1.bg.free k; have g2 := HX2.out.1.bg.lt; have HX3 : Kept (HC (wq.setCell ⟨gU, k, none⟩ (.bool (fullB ⟨caps, cA, ck, flows, fA, fk⟩ rs k))) ⟨caps, cA, ck, flows, fA, fk⟩ rs rA rk w.heap.size (w.heap.size + 1) bU gU (U.set k (fullB ⟨caps, cA, ck, flows, fA, fk⟩ rs k)) ∧ Below w.heap.size w (wq.setCell ⟨gU, k, none⟩ (.bool (fullB ⟨caps, cA, ck, flows, fA, fk⟩ rs k)))) := ⟨HX2.out.1.put HNE.out HKU.out _, HX2.out.2.setCell (by have := HNE2.out; simp only; omega) _⟩
      try go_wp2_with fail
      refine hK.out _ _ (by (try dsimp only); (first | exact HX3.out.1.keep | exact HX2.out.1.keep | exact HX1.out.1.keep)) (fun hHeld => ?_); clear hK K; try simp only [Act.put, List.setIfInBounds_toArray, List.set_cons_zero, List.set_cons_succ, List.getElem_toArray, List.getElem_cons_succ, List.getElem_cons_zero]
      refine wpAnyH_take (i := 6) (v := ?_) rfl (by kernel_rfl) (by kernel_rfl) (by kernel_rfl) (fun _ _ _ h => h) (Or.inl ⟨by rfl, ?_⟩) (by assumption) ?_; rotate_left; (intro w hSw; (try dsimp only at hSw); go_simp; try (with_reducible rfl)); try simp only [Act.put, List.setIfInBounds_toArray, List.set_cons_zero, List.set_cons_succ, List.getElem_toArray, List.getElem_cons_succ, List.getElem_cons_zero]
      refine wpAnyH_ready (rs := [7]) (by kernel_rfl) (by simp) ?_; refine AllReadyH.cons rfl (fun K hK => ?_) AllReadyH.nil; go_simp
      refine hK.out _ _ (by (try dsimp only); (first | exact HX3.out.1.keep | exact HX2.out.1.keep | exact HX1.out.1.keep)) (fun hHeld => ?_); clear hK K; try simp only [Act.put, List.setIfInBounds_toArray, List.set_cons_zero, List.set_cons_succ, List.getElem_toArray, List.getElem_cons_succ, List.getElem_cons_zero]
      refine wpAnyH_done (by kernel_rfl) ?_ _
      go_wp2_with fail
      go_roundw
      case rel => exact ⟨k + 1, by omega, by go_num, by rw [← HNX.out]; exact HX3⟩
      case measure => simp [intOf]; omega
    · obtain rfl : k = caps.length := by omega
      have HU : Kept (HC wr ⟨caps, cA, ck, flows, fA, fk⟩ rs rA rk w.heap.size (w.heap.size + 1) bU gU (fullL ⟨caps, cA, ck, flows, fA, fk⟩ rs) ∧ Below w.heap.size w wr) := ⟨by have := HV.out; unfold fullK at this; rwa [Nat.sub_self, List.replicate_zero, List.append_nil] at this⟩
      clear hlt
      go_wp2_with fail
      rw [HR.out]
      exact ⟨w.heap.size, w.heap.size + 1, bU, gU, rfl, HU.out.1, ⟨Nat.le_refl _, by omega, HNE2.out.2, HNE2.out.1⟩, HU.out.2⟩
section
variable {w W W' : World} {n : PNet} {rs : List Rq} {rk bN bR bU gU : Nat} {U : List Bool}
theorem hc_rate {b o k b8 : Nat} {r d : Rq} {v : Value} {u : Bool} (h : HC W n rs (some ⟨b, o, none⟩) rk bN bR bU gU U) (hr : RowsAt W W.heap.size 2 ccell (some ⟨b, o, none⟩) rs) (hk : rs[k]? = some r) (hb : Blk W b8 37 #[v, .bool u, .int .i64 d.n, .int .i64 d.d]) :
    W.cell? ⟨bR, 0, none⟩ = some (.slice (some ⟨b, o, none⟩) n.flows.length rk) ∧ W.cell? ⟨b, o + k * 2, none⟩ = some (.int .i64 r.n) ∧ W.cell? ⟨b, o + k * 2 + 1, none⟩ = some (.int .i64 r.d) ∧ W.cell? ⟨b8, 1, none⟩ = some (.bool u) ∧ W.cell? ⟨b8, 2, none⟩ = some (.int .i64 d.n) ∧ W.cell? ⟨b8, 3, none⟩ = some (.int .i64 d.d) := by
  obtain ⟨r0, r1, -⟩ := hr.rat hk
  exact ⟨h.br.cell 0 rfl, r0, r1, hb.cell 1 rfl, hb.cell 2 rfl, hb.cell 3 rfl⟩
theorem hc_two {b o k i b10 : Nat} {q r : Rq} {v v1 v2 v3 : Value} (h : HC W n rs (some ⟨b, o, none⟩) rk bN bR bU gU U) (hr : RowsAt W W.heap.size 2 ccell (some ⟨b, o, none⟩) rs) (hk : rs[k]? = some q) (hi : rs[i]? = some r) (hb : Blk W b10 37 #[v, v1, v2, v3]) :
    W.cell? ⟨bR, 0, none⟩ = some (.slice (some ⟨b, o, none⟩) n.flows.length rk) ∧ W.cell? ⟨b, o + k * 2, none⟩ = some (.int .i64 q.n) ∧ W.cell? ⟨b, o + k * 2 + 1, none⟩ = some (.int .i64 q.d) ∧ W.cell? ⟨b, o + i * 2, none⟩ = some (.int .i64 r.n) ∧ W.cell? ⟨b, o + i * 2 + 1, none⟩ = some (.int .i64 r.d) ∧ W.cell? ⟨b10, 0, none⟩ = some v := by
  obtain ⟨r0, r1, -⟩ := hr.rat hk
  obtain ⟨s0, s1, -⟩ := hr.rat hi
  exact ⟨h.br.cell 0 rfl, r0, r1, s0, s1, hb.cell 0 rfl⟩
end
set_option maxRecDepth 100000 in
set_option maxHeartbeats 16000000 in
theorem hold_c (n : PNet) (rs : List Rq) (rA : Option Addr) (rk bN bR bU gU i : Nat) (x : Int) (w : World) (hn : NetAt w w.heap.size n) (hv : netOk n = true) (hr : RowsAt w w.heap.size 2 ccell rA rs) (hrl : rs.length = n.flows.length) (hro : AllOk rs) (hc : HC w n rs rA rk bN bR bU gU (fullL n rs)) (hi : i < n.flows.length) :
    Calls Try.prog 60 #[.int .i64 (i : Int), .int .i64 x, .pointer (some ⟨bN, 0, none⟩), .pointer (some ⟨bR, 0, none⟩), .pointer (some ⟨bU, 0, none⟩)] w fun e w' => e = .returned (.bool (holdB n rs i x)) ∧ Below w.heap.size w w' := by
  have HN := Kept.mk hn
  have HRS := Kept.mk hr
  have HRO := Kept.mk hro
  have HRL := Kept.mk hrl
  have HC0 := Kept.mk hc
  have HLK := Kept.mk (netOk_links hv)
  have hsz : n.caps.length ≤ 32 ∧ n.flows.length ≤ 32 := by
    unfold netOk at hv
    rw [Bool.and_eq_true, Bool.and_eq_true, decide_eq_true_eq, decide_eq_true_eq] at hv
    exact ⟨hv.1, hv.2.1⟩
  obtain ⟨hc32, hf32⟩ := hsz
  clear hn hv hr hro hrl hc
  obtain ⟨caps, cA, ck, flows, fA, fk⟩ := n
  dsimp only at hc32 hf32 HRL hi
  obtain ⟨p, bF, oF, hp, rfl, -, -, ⟨c0, c1, c2, c3⟩, hfl⟩ := HN.out.flowAt hi
  obtain ⟨r, bA, oA, hr, rfl, -, -, -⟩ := HRS.out.at_ (show i < rs.length by rw [HRL.out]; exact hi)
  obtain ⟨ls, pA, kap, pb, pd⟩ := p
  dsimp only at c0 c1 c2 c3 hp
  have HFO := Kept.mk (flo_of (n := ⟨caps, cA, ck, flows, some ⟨bF, oF, none⟩, fk⟩) hp)
  have HRD : Kept (rs.getD i rq0 = r) := ⟨by rw [List.getD_eq_getElem?_getD, hr]; rfl⟩
  have HRK := Kept.mk hr
  have hrok := HRO.out r (List.mem_of_getElem? hr)
  have h64 := okQ_R64 hrok
  have HR64 := Kept.mk h64
  have hd64 := hfl.r64
  dsimp only at hd64
  have hlm : ls.length ≤ 9223372036854775807 := by have h1 := hfl.le; have h2 := hfl.mx; unfold maxLen at h2; dsimp only at h1 h2; omega
  have HRG : Kept (∀ x ∈ ls, 0 ≤ x ∧ x < caps.length) := ⟨HLK.out.rg _ (List.mem_of_getElem? hp)⟩
  have HFL := Kept.mk hfl
  have n1 := HC0.out.bn.cell 1 (v := .slice (some ⟨bF, oF, none⟩) flows.length fk) rfl
  have nl := HC0.out.bn.lt
  clear hp hr hrok hfl
  have CM := fun w => cmp_c r pd w h64.1 h64.2 hd64.1 hd64.2
  unfold rqv at CM
  obtain ⟨ANS, hA⟩ : ∃ a, a = holdB ⟨caps, cA, ck, flows, some ⟨bF, oF, none⟩, fk⟩ rs i x := ⟨_, rfl⟩
  rw [← hA]
  have HA := Kept.mk hA
  clear hA
  go_enter Try.func60, Try.ntmps60
  go_upto_region 2 with fail
  obtain ⟨b8, hb8⟩ : ∃ b, b = w.heap.size := ⟨_, rfl⟩
  obtain ⟨V, hV, HV⟩ : ∃ V, V = w.alloc (.cells #[.slice pA ls.length kap, .bool pb, .int .i64 pd.n, .int .i64 pd.d] 37) ∧ Kept (HC V ⟨caps, cA, ck, flows, some ⟨bF, oF, none⟩, fk⟩ rs (some ⟨bA, oA, none⟩) rk bN bR bU gU (fullL ⟨caps, cA, ck, flows, some ⟨bF, oF, none⟩, fk⟩ rs) ∧ Blk V b8 37 #[.slice pA ls.length kap, .bool pb, .int .i64 pd.n, .int .i64 pd.d] ∧ Below w.heap.size w V) := ⟨_, rfl, ⟨HC0.out.alloc _, by rw [hb8]; exact Blk.new _ _ _, by go_grown⟩⟩
  rw [← hV, ← hb8]
  clear hV hb8 HC0 c0 c1 c2 c3 n1 nl
  have q0 := HV.out.2.1.cell 0 (v := .slice pA ls.length kap) rfl
  have q1 := HV.out.2.1.cell 1 (v := .bool pb) rfl
  have q4 := HV.out.2.1.lt
  by_cases hx : x = -1
  · subst hx
    cases pb with
    | false =>
      have HH : Kept (ANS = false) := ⟨by rw [HA.out]; unfold holdB; rw [if_pos rfl, HFO.out]; rfl⟩
      go_upto_region 3 with fail
      go_quiet (fail)
      go_wp2_with fail
      go_ret
      exact ⟨ret_bool HH.out.symm, dN HV.out.2.2 nq⟩
    | true =>
      obtain ⟨z, hz⟩ : ∃ z, cmpQ r pd = z := ⟨_, rfl⟩
      have HH : Kept (ANS = (z == 0)) := ⟨by rw [HA.out]; unfold holdB; rw [if_pos rfl, HFO.out, HRD.out]; dsimp only; rw [hz]; simp⟩
      rw [hz] at CM
      clear hz
      have HX1 : Kept (HC (V.drewN 1) ⟨caps, cA, ck, flows, some ⟨bF, oF, none⟩, fk⟩ rs (some ⟨bA, oA, none⟩) rk bN bR bU gU (fullL ⟨caps, cA, ck, flows, some ⟨bF, oF, none⟩, fk⟩ rs) ∧ Blk (V.drewN 1) b8 37 #[.slice pA ls.length kap, .bool true, .int .i64 pd.n, .int .i64 pd.d] ∧ Below w.heap.size w (V.drewN 1)) := ⟨HV.out.1.drewN 1, HV.out.2.1.drewN 1, dN HV.out.2.2 1⟩
      go_upto_region 3 with fail
      clear q0 q1
      · 
        refine wp_region_held_drew (S := fun w' => w'.cell? ⟨bR, 0, none⟩ = some (.slice (some ⟨bA, oA, none⟩) flows.length rk) ∧ w'.cell? ⟨bA, oA + i * 2, none⟩ = some (.int .i64 r.n) ∧ w'.cell? ⟨bA, oA + i * 2 + 1, none⟩ = some (.int .i64 r.d) ∧ w'.cell? ⟨b8, 1, none⟩ = some (.bool true) ∧ w'.cell? ⟨b8, 2, none⟩ = some (.int .i64 pd.n) ∧ w'.cell? ⟨b8, 3, none⟩ = some (.int .i64 pd.d)) (by kernel_rfl) (by (try dsimp only); (first | exact hc_rate HX2.out.1 (HRS.out.new_ HX2.out.2.2) HRK.out HX2.out.2.1 | exact hc_rate HX1.out.1 (HRS.out.new_ HX1.out.2.2) HRK.out HX1.out.2.1)) (fun hHeld => ?_)
        refine wpAnyH_take (i := 0) (v := ?_) rfl (by kernel_rfl) (by kernel_rfl) (by kernel_rfl) (fun _ _ _ h => h) (Or.inl ⟨by rfl, ?_⟩) (by assumption) ?_; rotate_left; (intro w hSw; (try dsimp only at hSw); go_simp; try (with_reducible rfl)); try simp only [Act.put, List.setIfInBounds_toArray, List.set_cons_zero, List.set_cons_succ, List.getElem_toArray, List.getElem_cons_succ, List.getElem_cons_zero]
        refine wpAnyH_take (i := 1) (v := ?_) rfl (by kernel_rfl) (by kernel_rfl) (by kernel_rfl) (fun _ _ _ h => h) (Or.inl ⟨by rfl, ?_⟩) (by assumption) ?_; rotate_left; (intro w hSw; (try dsimp only at hSw); go_simp; try (with_reducible rfl)); try simp only [Act.put, List.setIfInBounds_toArray, List.set_cons_zero, List.set_cons_succ, List.getElem_toArray, List.getElem_cons_succ, List.getElem_cons_zero]
        refine wpAnyH_take (i := 2) (v := ?_) rfl (by kernel_rfl) (by kernel_rfl) (by kernel_rfl) (fun _ _ _ h => h) (Or.inl ⟨by rfl, ?_⟩) (by assumption) ?_; rotate_left; (intro w hSw; (try dsimp only at hSw); go_simp; try (with_reducible rfl)); try simp only [Act.put, List.setIfInBounds_toArray, List.set_cons_zero, List.set_cons_succ, List.getElem_toArray, List.getElem_cons_succ, List.getElem_cons_zero]
        refine wpAnyH_take (i := 3) (v := ?_) rfl (by kernel_rfl) (by kernel_rfl) (by kernel_rfl) (fun _ _ _ h => h) (Or.inl ⟨by rfl, ?_⟩) (by assumption) ?_; rotate_left; (intro w hSw; (try dsimp only at hSw); go_simp; try (with_reducible rfl)); try simp only [Act.put, List.setIfInBounds_toArray, List.set_cons_zero, List.set_cons_succ, List.getElem_toArray, List.getElem_cons_succ, List.getElem_cons_zero]
        refine wpAnyH_take (i := 4) (v := ?_) rfl (by kernel_rfl) (by kernel_rfl) (by kernel_rfl) (fun _ _ _ h => h) (Or.inl ⟨by rfl, ?_⟩) (by assumption) ?_; rotate_left; (intro w hSw; (try dsimp only at hSw); go_simp; try (with_reducible rfl)); try simp only [Act.put, List.setIfInBounds_toArray, List.set_cons_zero, List.set_cons_succ, List.getElem_toArray, List.getElem_cons_succ, List.getElem_cons_zero]
        refine wpAnyH_take (i := 5) (v := ?_) rfl (by kernel_rfl) (by kernel_rfl) (by kernel_rfl) (fun _ _ _ h => h) (Or.inl ⟨by rfl, ?_⟩) (by assumption) ?_; rotate_left; (intro w hSw; (try dsimp only at hSw); go_simp; try (with_reducible rfl)); try simp only [Act.put, List.setIfInBounds_toArray, List.set_cons_zero, List.set_cons_succ, List.getElem_toArray, List.getElem_cons_succ, List.getElem_cons_zero]
        refine wpAnyH_take (i := 6) (v := ?_) rfl (by kernel_rfl) (by kernel_rfl) (by kernel_rfl) (fun _ _ _ h => h) (Or.inl ⟨by rfl, ?_⟩) (by assumption) ?_; rotate_left; (intro w hSw; (try dsimp only at hSw); go_simp; try (with_reducible rfl)); try simp only [Act.put, List.setIfInBounds_toArray, List.set_cons_zero, List.set_cons_succ, List.getElem_toArray, List.getElem_cons_succ, List.getElem_cons_zero]
        refine wpAnyH_take (i := 7) (v := ?_) rfl (by kernel_rfl) (by kernel_rfl) (by kernel_rfl) (fun _ _ _ h => h) (Or.inl ⟨by rfl, ?_⟩) (by assumption) ?_; rotate_left; (intro w hSw; (try dsimp only at hSw); go_simp; try (with_reducible rfl)); try simp only [Act.put, List.setIfInBounds_toArray, List.set_cons_zero, List.set_cons_succ, List.getElem_toArray, List.getElem_cons_succ, List.getElem_cons_zero]
        refine wpAnyH_take (i := 8) (v := ?_) rfl (by kernel_rfl) (by kernel_rfl) (by kernel_rfl) (fun _ _ _ h => h) (Or.inl ⟨by rfl, ?_⟩) (by assumption) ?_; rotate_left; (intro w hSw; (try dsimp only at hSw); go_simp; try (with_reducible rfl)); try simp only [Act.put, List.setIfInBounds_toArray, List.set_cons_zero, List.set_cons_succ, List.getElem_toArray, List.getElem_cons_succ, List.getElem_cons_zero]
        refine wpAnyH_ready (rs := [9]) (by kernel_rfl) (by simp) ?_; refine AllReadyH.cons rfl (fun K hK => ?_) AllReadyH.nil; go_simp
        refine (CM _).mono ?_; rintro e wq ⟨rfl, hbq⟩; have HX2 : Kept (HC wq ⟨caps, cA, ck, flows, some ⟨bF, oF, none⟩, fk⟩ rs (some ⟨bA, oA, none⟩) rk bN bR bU gU (fullL ⟨caps, cA, ck, flows, some ⟨bF, oF, none⟩, fk⟩ rs) ∧ Blk wq b8 37 #[.slice pA ls.length kap, .bool true, .int .i64 pd.n, .int .i64 pd.d] ∧ Below w.heap.size w wq) := ⟨HX1.out.1.new_ hbq, HX1.out.2.1.new_ hbq, join HX1.out.2.2 hbq⟩; clear hbq
        try go_wp2_with fail
        refine hK.out _ _ (by (try dsimp only); (first | exact hc_rate HX2.out.1 (HRS.out.new_ HX2.out.2.2) HRK.out HX2.out.2.1 | exact hc_rate HX1.out.1 (HRS.out.new_ HX1.out.2.2) HRK.out HX1.out.2.1)) (fun hHeld => ?_); clear hK K; try simp only [Act.put, List.setIfInBounds_toArray, List.set_cons_zero, List.set_cons_succ, List.getElem_toArray, List.getElem_cons_succ, List.getElem_cons_zero]
        refine wpAnyH_take (i := 10) (v := ?_) rfl (by kernel_rfl) (by kernel_rfl) (by kernel_rfl) (fun _ _ _ h => h) (Or.inl ⟨by rfl, ?_⟩) (by assumption) ?_; rotate_left; (intro w hSw; (try dsimp only at hSw); go_simp; try (with_reducible rfl)); try simp only [Act.put, List.setIfInBounds_toArray, List.set_cons_zero, List.set_cons_succ, List.getElem_toArray, List.getElem_cons_succ, List.getElem_cons_zero]
        refine wpAnyH_take (i := 11) (v := ?_) rfl (by kernel_rfl) (by kernel_rfl) (by kernel_rfl) (fun _ _ _ h => h) (Or.inl ⟨by rfl, ?_⟩) (by assumption) ?_; rotate_left; (intro w hSw; (try dsimp only at hSw); go_simp; try (with_reducible rfl)); try simp only [Act.put, List.setIfInBounds_toArray, List.set_cons_zero, List.set_cons_succ, List.getElem_toArray, List.getElem_cons_succ, List.getElem_cons_zero]
        refine wpAnyH_take (i := 12) (v := ?_) rfl (by kernel_rfl) (by kernel_rfl) (by kernel_rfl) (fun _ _ _ h => h) (Or.inl ⟨by rfl, ?_⟩) (by assumption) ?_; rotate_left; (intro w hSw; (try dsimp only at hSw); go_simp; try (with_reducible rfl)); try simp only [Act.put, List.setIfInBounds_toArray, List.set_cons_zero, List.set_cons_succ, List.getElem_toArray, List.getElem_cons_succ, List.getElem_cons_zero]
        refine wpAnyH_done (by kernel_rfl) ?_ _
        go_wp2_with fail
        go_ret
        exact ⟨ret_bool HH.out.symm, HX2.out.2.2⟩
  · have hx1 : (x == -1) = false := beq_false_of_ne hx
    have HHX : Kept (ANS = (ls.contains x && (fullB ⟨caps, cA, ck, flows, some ⟨bF, oF, none⟩, fk⟩ rs x.toNat && (List.range flows.length).all (cmpHold ⟨caps, cA, ck, flows, some ⟨bF, oF, none⟩, fk⟩ rs i x)))) := ⟨by rw [HA.out]; unfold holdB; rw [if_neg hx, HFO.out]⟩
    clear CM
    have CO := fun w h => contains_c ls pA kap x w h hlm
    have HRD1 := Kept.mk (HFL.out.rd.new_ HV.out.2.2)
    dsimp only at HRD1
    cases hcc : ls.contains x with
    | false =>
      have HH : Kept (ANS = false) := ⟨by rw [HHX.out, hcc, Bool.false_and]⟩
      have HK := Kept.mk hcc
      clear hcc
      go_wp2_with (go_at_call 11; refine (CO _ HRD1.out).mono ?_; rintro e wq ⟨rfl, rfl⟩; rw [HK.out])
      go_ret
      exact ⟨ret_bool HH.out.symm, HV.out.2.2⟩
    | true =>
      obtain ⟨hx0, hxc⟩ := HRG.out x (List.contains_iff_mem.1 hcc)
      obtain ⟨l, rfl⟩ : ∃ l : Nat, x = l := ⟨x.toNat, by omega⟩
      have hlc : l < caps.length := by omega
      have HHY : Kept (ANS = (fullB ⟨caps, cA, ck, flows, some ⟨bF, oF, none⟩, fk⟩ rs l && (List.range flows.length).all (cmpHold ⟨caps, cA, ck, flows, some ⟨bF, oF, none⟩, fk⟩ rs i (l : Int)))) := ⟨by rw [HHX.out, hcc, Bool.true_and, Int.toNat_natCast]⟩
      have HK := Kept.mk hcc
      clear hcc
      have hul : (fullL ⟨caps, cA, ck, flows, some ⟨bF, oF, none⟩, fk⟩ rs)[l]? = some (fullB ⟨caps, cA, ck, flows, some ⟨bF, oF, none⟩, fk⟩ rs l) := by unfold fullL; rw [List.getElem?_map, List.getElem?_range hlc]; rfl
      have g0 := HV.out.1.bg.cell boolc_len hul (j := 0) rfl
      simp only [Nat.mul_one, Nat.add_zero] at g0
      have u0 := HV.out.1.bu.cell 0 (v := .slice (some ⟨gU, 0, none⟩) caps.length caps.length) rfl
      have u1 := HV.out.1.bu.lt
      have g1 := HV.out.1.bg.lt
      have n1 := HV.out.1.bn.cell 1 (v := .slice (some ⟨bF, oF, none⟩) flows.length fk) rfl
      have nl := HV.out.1.bn.lt
      clear hul
      cases huu : fullB ⟨caps, cA, ck, flows, some ⟨bF, oF, none⟩, fk⟩ rs l with
      | false =>
        rw [huu] at g0
        have HH : Kept (ANS = false) := ⟨by rw [HHY.out, huu, Bool.false_and]⟩
        clear huu
        go_wp2_with (go_at_call 11; refine (CO _ HRD1.out).mono ?_; rintro e wq ⟨rfl, rfl⟩; rw [HK.out])
        go_ret
        exact ⟨ret_bool HH.out.symm, HV.out.2.2⟩
      | true =>
        rw [huu] at g0
        have HAL : Kept (ANS = (List.range flows.length).all (cmpHold ⟨caps, cA, ck, flows, some ⟨bF, oF, none⟩, fk⟩ rs i (l : Int))) := ⟨by rw [HHY.out, huu, Bool.true_and]⟩
        clear huu
        go_wp2_with (go_at_call 11; refine (CO _ HRD1.out).mono ?_; rintro e wq ⟨rfl, rfl⟩; rw [HK.out])
        go_loopw [45] (fun v wr => ∃ k : Nat, k ≤ flows.length ∧ v = .int .i64 k ∧ Kept (∀ j, j < k → cmpHold ⟨caps, cA, ck, flows, some ⟨bF, oF, none⟩, fk⟩ rs i (l : Int) j = true) ∧ Kept (HC wr ⟨caps, cA, ck, flows, some ⟨bF, oF, none⟩, fk⟩ rs (some ⟨bA, oA, none⟩) rk bN bR bU gU (fullL ⟨caps, cA, ck, flows, some ⟨bF, oF, none⟩, fk⟩ rs) ∧ Below w.heap.size w wr)) (fun v _ => flows.length - (intOf v).toNat)
        case atStart => exact ⟨0, Nat.zero_le _, rfl, ⟨fun j hj => absurd hj (by omega)⟩, ⟨HV.out.1, HV.out.2.2⟩⟩
        case round =>
          clear HV q0 q1 q4 g0 u0 u1 g1 n1 nl HRD1
          obtain ⟨k, hk, rfl, HB, HV⟩ := hrel
          by_cases hlt : k < flows.length
          · obtain ⟨p2, bF2, oF2, hp2, hFe, -, -, ⟨c0, c1, c2, c3⟩, hfl2⟩ := (HN.out.new_ HV.out.2).flowAt hlt
            dsimp only at hFe
            injection hFe with hFe
            injection hFe with hF1 hF2
            subst hF1 hF2
            obtain ⟨qs, qA, qk, qb, qd⟩ := p2
            dsimp only at c0 c1 c2 c3 hp2
            obtain ⟨q, hq⟩ := get_some (show k < rs.length by rw [HRL.out]; exact hlt)
            have HQK := Kept.mk hq
            have hq64 := okQ_R64 (HRO.out q (List.mem_of_getElem? hq))
            have hqm : qs.length ≤ 9223372036854775807 := by have h1 := hfl2.le; have h2 := hfl2.mx; unfold maxLen at h2; dsimp only at h1 h2; omega
            have CM := fun w => cmp_c q r w hq64.1 hq64.2 HR64.out.1 HR64.out.2
            unfold rqv at CM
            have CO2 := fun w h => contains_c qs qA qk (l : Int) w h hqm
            have hch : cmpHold ⟨caps, cA, ck, flows, some ⟨bF, oF, none⟩, fk⟩ rs i (l : Int) k = !(qs.contains (l : Int) && decide (0 < cmpQ q r)) := by
              unfold cmpHold
              rw [flo_of (n := ⟨caps, cA, ck, flows, some ⟨bF, oF, none⟩, fk⟩) hp2, HRD.out, List.getD_eq_getElem?_getD, hq]
              rfl
            have HRQ : Kept (RowsAt w w.heap.size 1 icell qA qs) := ⟨(HN.out.fl _ (List.mem_of_getElem? hp2)).rd⟩
            clear hp2 hq hfl2
            go_upto_region 9 with fail
            obtain ⟨b10, hb10⟩ : ∃ b, b = wr.heap.size := ⟨_, rfl⟩
            obtain ⟨V2, hV2, HV2⟩ : ∃ V, V = wr.alloc (.cells #[.slice qA qs.length qk, .bool qb, .int .i64 qd.n, .int .i64 qd.d] 37) ∧ Kept (HC V ⟨caps, cA, ck, flows, some ⟨bF, oF, none⟩, fk⟩ rs (some ⟨bA, oA, none⟩) rk bN bR bU gU (fullL ⟨caps, cA, ck, flows, some ⟨bF, oF, none⟩, fk⟩ rs) ∧ Blk V b10 37 #[.slice qA qs.length qk, .bool qb, .int .i64 qd.n, .int .i64 qd.d] ∧ Below w.heap.size w V) := ⟨_, rfl, ⟨HV.out.1.alloc _, by rw [hb10]; exact Blk.new _ _ _, HV.out.2.alloc HV.out.2.size _⟩⟩
            rw [← hV2, ← hb10]
            clear hV2 hb10 HV c0 c1 c2 c3
            have HX1 : Kept (HC (V2.drewN 1) ⟨caps, cA, ck, flows, some ⟨bF, oF, none⟩, fk⟩ rs (some ⟨bA, oA, none⟩) rk bN bR bU gU (fullL ⟨caps, cA, ck, flows, some ⟨bF, oF, none⟩, fk⟩ rs) ∧ Blk (V2.drewN 1) b10 37 #[.slice qA qs.length qk, .bool qb, .int .i64 qd.n, .int .i64 qd.d] ∧ Below w.heap.size w (V2.drewN 1)) := ⟨HV2.out.1.drewN 1, HV2.out.2.1.drewN 1, dN HV2.out.2.2 1⟩
            have l1 := HV2.out.1.br.lt
            have l2 := HV2.out.2.1.lt
            clear HV2
            cases hck : qs.contains (l : Int) with
            | false =>
              have HK := Kept.mk hck
              have HNX := Kept.mk (below_next HB.out (show cmpHold ⟨caps, cA, ck, flows, some ⟨bF, oF, none⟩, fk⟩ rs i (l : Int) k = true by rw [hch, hck]; rfl))
              clear hck hch CM
              refine wp_region_held_drew (S := fun w' => w'.cell? ⟨bR, 0, none⟩ = some (.slice (some ⟨bA, oA, none⟩) flows.length rk) ∧ w'.cell? ⟨bA, oA + k * 2, none⟩ = some (.int .i64 q.n) ∧ w'.cell? ⟨bA, oA + k * 2 + 1, none⟩ = some (.int .i64 q.d) ∧ w'.cell? ⟨bA, oA + i * 2, none⟩ = some (.int .i64 r.n) ∧ w'.cell? ⟨bA, oA + i * 2 + 1, none⟩ = some (.int .i64 r.d) ∧ w'.cell? ⟨b10, 0, none⟩ = some (.slice qA qs.length qk)) (by kernel_rfl) (by (try dsimp only); (first | exact hc_two HX3.out.1 (HRS.out.new_ HX3.out.2.2) HQK.out HRK.out HX3.out.2.1 | exact hc_two HX2.out.1 (HRS.out.new_ HX2.out.2.2) HQK.out HRK.out HX2.out.2.1 | exact hc_two HX1.out.1 (HRS.out.new_ HX1.out.2.2) HQK.out HRK.out HX1.out.2.1)) (fun hHeld => ?_)
              refine wpAnyH_take (i := 0) (v := ?_) rfl (by kernel_rfl) (by kernel_rfl) (by kernel_rfl) (fun _ _ _ h => h) (Or.inl ⟨by rfl, ?_⟩) (by assumption) ?_; rotate_left; (intro w hSw; (try dsimp only at hSw); go_simp; try (with_reducible rfl)); try simp only [Act.put, List.setIfInBounds_toArray, List.set_cons_zero, List.set_cons_succ, List.getElem_toArray, List.getElem_cons_succ, List.getElem_cons_zero]
              refine wpAnyH_take (i := 1) (v := ?_) rfl (by kernel_rfl) (by kernel_rfl) (by kernel_rfl) (fun _ _ _ h => h) (Or.inl ⟨by rfl, ?_⟩) (by assumption) ?_; rotate_left; (intro w hSw; (try dsimp only at hSw); go_simp; try (with_reducible rfl)); try simp only [Act.put, List.setIfInBounds_toArray, List.set_cons_zero, List.set_cons_succ, List.getElem_toArray, List.getElem_cons_succ, List.getElem_cons_zero]
              refine wpAnyH_take (i := 2) (v := ?_) rfl (by kernel_rfl) (by kernel_rfl) (by kernel_rfl) (fun _ _ _ h => h) (Or.inl ⟨by rfl, ?_⟩) (by assumption) ?_; rotate_left; (intro w hSw; (try dsimp only at hSw); go_simp; try (with_reducible rfl)); try simp only [Act.put, List.setIfInBounds_toArray, List.set_cons_zero, List.set_cons_succ, List.getElem_toArray, List.getElem_cons_succ, List.getElem_cons_zero]
              refine wpAnyH_ready (rs := [3]) (by kernel_rfl) (by simp) ?_; refine AllReadyH.cons rfl (fun K hK => ?_) AllReadyH.nil; go_simp
              refine (CO2 _ (HRQ.out.new_ HX1.out.2.2)).mono ?_; rintro e wq ⟨rfl, hwq⟩; rw [HK.out]; have HX2 : Kept (HC wq ⟨caps, cA, ck, flows, some ⟨bF, oF, none⟩, fk⟩ rs (some ⟨bA, oA, none⟩) rk bN bR bU gU (fullL ⟨caps, cA, ck, flows, some ⟨bF, oF, none⟩, fk⟩ rs) ∧ Blk wq b10 37 #[.slice qA qs.length qk, .bool qb, .int .i64 qd.n, .int .i64 qd.d] ∧ Below w.heap.size w wq) := ⟨hwq ▸ HX1.out.1, hwq ▸ HX1.out.2.1, hwq ▸ HX1.out.2.2⟩; clear hwq
              try go_wp2_with fail
              refine hK.out _ _ (by (try dsimp only); (first | exact hc_two HX3.out.1 (HRS.out.new_ HX3.out.2.2) HQK.out HRK.out HX3.out.2.1 | exact hc_two HX2.out.1 (HRS.out.new_ HX2.out.2.2) HQK.out HRK.out HX2.out.2.1 | exact hc_two HX1.out.1 (HRS.out.new_ HX1.out.2.2) HQK.out HRK.out HX1.out.2.1)) (fun hHeld => ?_); clear hK K; try simp only [Act.put, List.setIfInBounds_toArray, List.set_cons_zero, List.set_cons_succ, List.getElem_toArray, List.getElem_cons_succ, List.getElem_cons_zero]
              refine wpAnyH_take (i := 4) (v := ?_) rfl (by kernel_rfl) (by kernel_rfl) (by kernel_rfl) (fun _ _ _ h => h) (Or.inl ⟨by rfl, ?_⟩) (by assumption) ?_; rotate_left; (intro w hSw; (try dsimp only at hSw); go_simp; try (with_reducible rfl)); try simp only [Act.put, List.setIfInBounds_toArray, List.set_cons_zero, List.set_cons_succ, List.getElem_toArray, List.getElem_cons_succ, List.getElem_cons_zero]
              refine wpAnyH_take (i := 5) rfl (by kernel_rfl) (by kernel_rfl) (by kernel_rfl) (fun _ _ _ h => h) (Or.inr ⟨by rfl, rfl⟩) (by assumption) ?_; try simp only [Act.put, List.setIfInBounds_toArray, List.set_cons_zero, List.set_cons_succ, List.getElem_toArray, List.getElem_cons_succ, List.getElem_cons_zero]
              refine wpAnyH_take (i := 6) rfl (by kernel_rfl) (by kernel_rfl) (by kernel_rfl) (fun _ _ _ h => h) (Or.inr ⟨by rfl, rfl⟩) (by assumption) ?_; try simp only [Act.put, List.setIfInBounds_toArray, List.set_cons_zero, List.set_cons_succ, List.getElem_toArray, List.getElem_cons_succ, List.getElem_cons_zero]
              refine wpAnyH_take (i := 7) rfl (by kernel_rfl) (by kernel_rfl) (by kernel_rfl) (fun _ _ _ h => h) (Or.inr ⟨by rfl, rfl⟩) (by assumption) ?_; try simp only [Act.put, List.setIfInBounds_toArray, List.set_cons_zero, List.set_cons_succ, List.getElem_toArray, List.getElem_cons_succ, List.getElem_cons_zero]
              refine wpAnyH_take (i := 8) rfl (by kernel_rfl) (by kernel_rfl) (by kernel_rfl) (fun _ _ _ h => h) (Or.inr ⟨by rfl, rfl⟩) (by assumption) ?_; try simp only [Act.put, List.setIfInBounds_toArray, List.set_cons_zero, List.set_cons_succ, List.getElem_toArray, List.getElem_cons_succ, List.getElem_cons_zero]
              refine wpAnyH_take (i := 9) rfl (by kernel_rfl) (by kernel_rfl) (by kernel_rfl) (fun _ _ _ h => h) (Or.inr ⟨by rfl, rfl⟩) (by assumption) ?_; try simp only [Act.put, List.setIfInBounds_toArray, List.set_cons_zero, List.set_cons_succ, List.getElem_toArray, List.getElem_cons_succ, List.getElem_cons_zero]
              refine wpAnyH_take (i := 10) rfl (by kernel_rfl) (by kernel_rfl) (by kernel_rfl) (fun _ _ _ h => h) (Or.inr ⟨by rfl, rfl⟩) (by assumption) ?_; try simp only [Act.put, List.setIfInBounds_toArray, List.set_cons_zero, List.set_cons_succ, List.getElem_toArray, List.getElem_cons_succ, List.getElem_cons_zero]
              refine wpAnyH_take (i := 11) rfl (by kernel_rfl) (by kernel_rfl) (by kernel_rfl) (fun _ _ _ h => h) (Or.inr ⟨by rfl, rfl⟩) (by assumption) ?_; try simp only [Act.put, List.setIfInBounds_toArray, List.set_cons_zero, List.set_cons_succ, List.getElem_toArray, List.getElem_cons_succ, List.getElem_cons_zero]
              refine wpAnyH_take (i := 12) rfl (by kernel_rfl) (by kernel_rfl) (by kernel_rfl) (fun _ _ _ h => h) (Or.inr ⟨by rfl, rfl⟩) (by assumption) ?_; try simp only [Act.put, List.setIfInBounds_toArray, List.set_cons_zero, List.set_cons_succ, List.getElem_toArray, List.getElem_cons_succ, List.getElem_cons_zero]
              refine wpAnyH_take (i := 13) rfl (by kernel_rfl) (by kernel_rfl) (by kernel_rfl) (fun _ _ _ h => h) (Or.inr ⟨by rfl, rfl⟩) (by assumption) ?_; try simp only [Act.put, List.setIfInBounds_toArray, List.set_cons_zero, List.set_cons_succ, List.getElem_toArray, List.getElem_cons_succ, List.getElem_cons_zero]
              refine wpAnyH_take (i := 14) rfl (by kernel_rfl) (by kernel_rfl) (by kernel_rfl) (fun _ _ _ h => h) (Or.inr ⟨by rfl, rfl⟩) (by assumption) ?_; try simp only [Act.put, List.setIfInBounds_toArray, List.set_cons_zero, List.set_cons_succ, List.getElem_toArray, List.getElem_cons_succ, List.getElem_cons_zero]
              refine wpAnyH_take (i := 15) (v := ?_) rfl (by kernel_rfl) (by kernel_rfl) (by kernel_rfl) (fun _ _ _ h => h) (Or.inl ⟨by rfl, ?_⟩) (by assumption) ?_; rotate_left; (intro w hSw; (try dsimp only at hSw); go_simp; try (with_reducible rfl)); try simp only [Act.put, List.setIfInBounds_toArray, List.set_cons_zero, List.set_cons_succ, List.getElem_toArray, List.getElem_cons_succ, List.getElem_cons_zero]
              refine wpAnyH_done (by kernel_rfl) ?_ _
              go_wp2_with fail
              go_roundw
              case rel => exact ⟨k + 1, by omega, by go_num, HNX, ⟨HX2.out.1, HX2.out.2.2⟩⟩
              case measure => simp [intOf]; omega
            | true =>
              have HK := Kept.mk hck
              rw [hck, Bool.true_and] at hch
              obtain ⟨z, hz⟩ : ∃ z, cmpQ q r = z := ⟨_, rfl⟩
              rw [hz] at CM hch
              clear hck hz
              by_cases hz0 : 0 < z
              · have dz : decide (0 < z) = true := decide_eq_true hz0
                have HAF : Kept (ANS = false) := ⟨by rw [HAL.out]; exact List.all_eq_false.2 ⟨k, List.mem_range.2 hlt, by rw [hch, dz]; decide⟩⟩
                clear hch
                refine wp_region_held_drew (S := fun w' => w'.cell? ⟨bR, 0, none⟩ = some (.slice (some ⟨bA, oA, none⟩) flows.length rk) ∧ w'.cell? ⟨bA, oA + k * 2, none⟩ = some (.int .i64 q.n) ∧ w'.cell? ⟨bA, oA + k * 2 + 1, none⟩ = some (.int .i64 q.d) ∧ w'.cell? ⟨bA, oA + i * 2, none⟩ = some (.int .i64 r.n) ∧ w'.cell? ⟨bA, oA + i * 2 + 1, none⟩ = some (.int .i64 r.d) ∧ w'.cell? ⟨b10, 0, none⟩ = some (.slice qA qs.length qk)) (by kernel_rfl) (by (try dsimp only); (first | exact hc_two HX3.out.1 (HRS.out.new_ HX3.out.2.2) HQK.out HRK.out HX3.out.2.1 | exact hc_two HX2.out.1 (HRS.out.new_ HX2.out.2.2) HQK.out HRK.out HX2.out.2.1 | exact hc_two HX1.out.1 (HRS.out.new_ HX1.out.2.2) HQK.out HRK.out HX1.out.2.1)) (fun hHeld => ?_)
                refine wpAnyH_take (i := 0) (v := ?_) rfl (by kernel_rfl) (by kernel_rfl) (by kernel_rfl) (fun _ _ _ h => h) (Or.inl ⟨by rfl, ?_⟩) (by assumption) ?_; rotate_left; (intro w hSw; (try dsimp only at hSw); go_simp; try (with_reducible rfl)); try simp only [Act.put, List.setIfInBounds_toArray, List.set_cons_zero, List.set_cons_succ, List.getElem_toArray, List.getElem_cons_succ, List.getElem_cons_zero]
                refine wpAnyH_take (i := 1) (v := ?_) rfl (by kernel_rfl) (by kernel_rfl) (by kernel_rfl) (fun _ _ _ h => h) (Or.inl ⟨by rfl, ?_⟩) (by assumption) ?_; rotate_left; (intro w hSw; (try dsimp only at hSw); go_simp; try (with_reducible rfl)); try simp only [Act.put, List.setIfInBounds_toArray, List.set_cons_zero, List.set_cons_succ, List.getElem_toArray, List.getElem_cons_succ, List.getElem_cons_zero]
                refine wpAnyH_take (i := 2) (v := ?_) rfl (by kernel_rfl) (by kernel_rfl) (by kernel_rfl) (fun _ _ _ h => h) (Or.inl ⟨by rfl, ?_⟩) (by assumption) ?_; rotate_left; (intro w hSw; (try dsimp only at hSw); go_simp; try (with_reducible rfl)); try simp only [Act.put, List.setIfInBounds_toArray, List.set_cons_zero, List.set_cons_succ, List.getElem_toArray, List.getElem_cons_succ, List.getElem_cons_zero]
                refine wpAnyH_ready (rs := [3]) (by kernel_rfl) (by simp) ?_; refine AllReadyH.cons rfl (fun K hK => ?_) AllReadyH.nil; go_simp
                refine (CO2 _ (HRQ.out.new_ HX1.out.2.2)).mono ?_; rintro e wq ⟨rfl, hwq⟩; rw [HK.out]; have HX2 : Kept (HC wq ⟨caps, cA, ck, flows, some ⟨bF, oF, none⟩, fk⟩ rs (some ⟨bA, oA, none⟩) rk bN bR bU gU (fullL ⟨caps, cA, ck, flows, some ⟨bF, oF, none⟩, fk⟩ rs) ∧ Blk wq b10 37 #[.slice qA qs.length qk, .bool qb, .int .i64 qd.n, .int .i64 qd.d] ∧ Below w.heap.size w wq) := ⟨hwq ▸ HX1.out.1, hwq ▸ HX1.out.2.1, hwq ▸ HX1.out.2.2⟩; clear hwq
                try go_wp2_with fail
                refine hK.out _ _ (by (try dsimp only); (first | exact hc_two HX3.out.1 (HRS.out.new_ HX3.out.2.2) HQK.out HRK.out HX3.out.2.1 | exact hc_two HX2.out.1 (HRS.out.new_ HX2.out.2.2) HQK.out HRK.out HX2.out.2.1 | exact hc_two HX1.out.1 (HRS.out.new_ HX1.out.2.2) HQK.out HRK.out HX1.out.2.1)) (fun hHeld => ?_); clear hK K; try simp only [Act.put, List.setIfInBounds_toArray, List.set_cons_zero, List.set_cons_succ, List.getElem_toArray, List.getElem_cons_succ, List.getElem_cons_zero]
                refine wpAnyH_take (i := 4) (v := ?_) rfl (by kernel_rfl) (by kernel_rfl) (by kernel_rfl) (fun _ _ _ h => h) (Or.inl ⟨by rfl, ?_⟩) (by assumption) ?_; rotate_left; (intro w hSw; (try dsimp only at hSw); go_simp; try (with_reducible rfl)); try simp only [Act.put, List.setIfInBounds_toArray, List.set_cons_zero, List.set_cons_succ, List.getElem_toArray, List.getElem_cons_succ, List.getElem_cons_zero]
                refine wpAnyH_take (i := 5) (v := ?_) rfl (by kernel_rfl) (by kernel_rfl) (by kernel_rfl) (fun _ _ _ h => h) (Or.inl ⟨by rfl, ?_⟩) (by assumption) ?_; rotate_left; (intro w hSw; (try dsimp only at hSw); go_simp; try (with_reducible rfl)); try simp only [Act.put, List.setIfInBounds_toArray, List.set_cons_zero, List.set_cons_succ, List.getElem_toArray, List.getElem_cons_succ, List.getElem_cons_zero]
                refine wpAnyH_take (i := 6) (v := ?_) rfl (by kernel_rfl) (by kernel_rfl) (by kernel_rfl) (fun _ _ _ h => h) (Or.inl ⟨by rfl, ?_⟩) (by assumption) ?_; rotate_left; (intro w hSw; (try dsimp only at hSw); go_simp; try (with_reducible rfl)); try simp only [Act.put, List.setIfInBounds_toArray, List.set_cons_zero, List.set_cons_succ, List.getElem_toArray, List.getElem_cons_succ, List.getElem_cons_zero]
                refine wpAnyH_take (i := 7) (v := ?_) rfl (by kernel_rfl) (by kernel_rfl) (by kernel_rfl) (fun _ _ _ h => h) (Or.inl ⟨by rfl, ?_⟩) (by assumption) ?_; rotate_left; (intro w hSw; (try dsimp only at hSw); go_simp; try (with_reducible rfl)); try simp only [Act.put, List.setIfInBounds_toArray, List.set_cons_zero, List.set_cons_succ, List.getElem_toArray, List.getElem_cons_succ, List.getElem_cons_zero]
                refine wpAnyH_take (i := 8) (v := ?_) rfl (by kernel_rfl) (by kernel_rfl) (by kernel_rfl) (fun _ _ _ h => h) (Or.inl ⟨by rfl, ?_⟩) (by assumption) ?_; rotate_left; (intro w hSw; (try dsimp only at hSw); go_simp; try (with_reducible rfl)); try simp only [Act.put, List.setIfInBounds_toArray, List.set_cons_zero, List.set_cons_succ, List.getElem_toArray, List.getElem_cons_succ, List.getElem_cons_zero]
                refine wpAnyH_take (i := 9) (v := ?_) rfl (by kernel_rfl) (by kernel_rfl) (by kernel_rfl) (fun _ _ _ h => h) (Or.inl ⟨by rfl, ?_⟩) (by assumption) ?_; rotate_left; (intro w hSw; (try dsimp only at hSw); go_simp; try (with_reducible rfl)); try simp only [Act.put, List.setIfInBounds_toArray, List.set_cons_zero, List.set_cons_succ, List.getElem_toArray, List.getElem_cons_succ, List.getElem_cons_zero]
                refine wpAnyH_take (i := 10) (v := ?_) rfl (by kernel_rfl) (by kernel_rfl) (by kernel_rfl) (fun _ _ _ h => h) (Or.inl ⟨by rfl, ?_⟩) (by assumption) ?_; rotate_left; (intro w hSw; (try dsimp only at hSw); go_simp; try (with_reducible rfl)); try simp only [Act.put, List.setIfInBounds_toArray, List.set_cons_zero, List.set_cons_succ, List.getElem_toArray, List.getElem_cons_succ, List.getElem_cons_zero]
                refine wpAnyH_take (i := 11) (v := ?_) rfl (by kernel_rfl) (by kernel_rfl) (by kernel_rfl) (fun _ _ _ h => h) (Or.inl ⟨by rfl, ?_⟩) (by assumption) ?_; rotate_left; (intro w hSw; (try dsimp only at hSw); go_simp; try (with_reducible rfl)); try simp only [Act.put, List.setIfInBounds_toArray, List.set_cons_zero, List.set_cons_succ, List.getElem_toArray, List.getElem_cons_succ, List.getElem_cons_zero]
                refine wpAnyH_take (i := 12) (v := ?_) rfl (by kernel_rfl) (by kernel_rfl) (by kernel_rfl) (fun _ _ _ h => h) (Or.inl ⟨by rfl, ?_⟩) (by assumption) ?_; rotate_left; (intro w hSw; (try dsimp only at hSw); go_simp; try (with_reducible rfl)); try simp only [Act.put, List.setIfInBounds_toArray, List.set_cons_zero, List.set_cons_succ, List.getElem_toArray, List.getElem_cons_succ, List.getElem_cons_zero]
                refine wpAnyH_ready (rs := [13]) (by kernel_rfl) (by simp) ?_; refine AllReadyH.cons rfl (fun K hK => ?_) AllReadyH.nil; go_simp
                refine (CM _).mono ?_; rintro e wq2 ⟨rfl, hbq⟩; have HX3 : Kept (HC wq2 ⟨caps, cA, ck, flows, some ⟨bF, oF, none⟩, fk⟩ rs (some ⟨bA, oA, none⟩) rk bN bR bU gU (fullL ⟨caps, cA, ck, flows, some ⟨bF, oF, none⟩, fk⟩ rs) ∧ Blk wq2 b10 37 #[.slice qA qs.length qk, .bool qb, .int .i64 qd.n, .int .i64 qd.d] ∧ Below w.heap.size w wq2) := ⟨HX2.out.1.new_ hbq, HX2.out.2.1.new_ hbq, join HX2.out.2.2 hbq⟩; clear hbq
                try go_wp2_with fail
                refine hK.out _ _ (by (try dsimp only); (first | exact hc_two HX3.out.1 (HRS.out.new_ HX3.out.2.2) HQK.out HRK.out HX3.out.2.1 | exact hc_two HX2.out.1 (HRS.out.new_ HX2.out.2.2) HQK.out HRK.out HX2.out.2.1 | exact hc_two HX1.out.1 (HRS.out.new_ HX1.out.2.2) HQK.out HRK.out HX1.out.2.1)) (fun hHeld => ?_); clear hK K; try simp only [Act.put, List.setIfInBounds_toArray, List.set_cons_zero, List.set_cons_succ, List.getElem_toArray, List.getElem_cons_succ, List.getElem_cons_zero]
                refine wpAnyH_take (i := 14) (v := ?_) rfl (by kernel_rfl) (by kernel_rfl) (by kernel_rfl) (fun _ _ _ h => h) (Or.inl ⟨by rfl, ?_⟩) (by assumption) ?_; rotate_left; (intro w hSw; (try dsimp only at hSw); go_simp; try (with_reducible rfl)); try simp only [Act.put, List.setIfInBounds_toArray, List.set_cons_zero, List.set_cons_succ, List.getElem_toArray, List.getElem_cons_succ, List.getElem_cons_zero]
                refine wpAnyH_take (i := 15) (v := ?_) rfl (by kernel_rfl) (by kernel_rfl) (by kernel_rfl) (fun _ _ _ h => h) (Or.inl ⟨by rfl, ?_⟩) (by assumption) ?_; rotate_left; (intro w hSw; (try dsimp only at hSw); go_simp; try (with_reducible rfl)); try simp only [Act.put, List.setIfInBounds_toArray, List.set_cons_zero, List.set_cons_succ, List.getElem_toArray, List.getElem_cons_succ, List.getElem_cons_zero]
                refine wpAnyH_done (by kernel_rfl) ?_ _
                go_wp2_with fail
                go_ret
                exact ⟨ret_bool HAF.out.symm, HX3.out.2.2⟩
              · have dz : decide (0 < z) = false := decide_eq_false hz0
                have HNX := Kept.mk (below_next HB.out (show cmpHold ⟨caps, cA, ck, flows, some ⟨bF, oF, none⟩, fk⟩ rs i (l : Int) k = true by rw [hch, dz]; rfl))
                clear hch
                refine wp_region_held_drew (S := fun w' => w'.cell? ⟨bR, 0, none⟩ = some (.slice (some ⟨bA, oA, none⟩) flows.length rk) ∧ w'.cell? ⟨bA, oA + k * 2, none⟩ = some (.int .i64 q.n) ∧ w'.cell? ⟨bA, oA + k * 2 + 1, none⟩ = some (.int .i64 q.d) ∧ w'.cell? ⟨bA, oA + i * 2, none⟩ = some (.int .i64 r.n) ∧ w'.cell? ⟨bA, oA + i * 2 + 1, none⟩ = some (.int .i64 r.d) ∧ w'.cell? ⟨b10, 0, none⟩ = some (.slice qA qs.length qk)) (by kernel_rfl) (by (try dsimp only); (first | exact hc_two HX3.out.1 (HRS.out.new_ HX3.out.2.2) HQK.out HRK.out HX3.out.2.1 | exact hc_two HX2.out.1 (HRS.out.new_ HX2.out.2.2) HQK.out HRK.out HX2.out.2.1 | exact hc_two HX1.out.1 (HRS.out.new_ HX1.out.2.2) HQK.out HRK.out HX1.out.2.1)) (fun hHeld => ?_)
                refine wpAnyH_take (i := 0) (v := ?_) rfl (by kernel_rfl) (by kernel_rfl) (by kernel_rfl) (fun _ _ _ h => h) (Or.inl ⟨by rfl, ?_⟩) (by assumption) ?_; rotate_left; (intro w hSw; (try dsimp only at hSw); go_simp; try (with_reducible rfl)); try simp only [Act.put, List.setIfInBounds_toArray, List.set_cons_zero, List.set_cons_succ, List.getElem_toArray, List.getElem_cons_succ, List.getElem_cons_zero]
                refine wpAnyH_take (i := 1) (v := ?_) rfl (by kernel_rfl) (by kernel_rfl) (by kernel_rfl) (fun _ _ _ h => h) (Or.inl ⟨by rfl, ?_⟩) (by assumption) ?_; rotate_left; (intro w hSw; (try dsimp only at hSw); go_simp; try (with_reducible rfl)); try simp only [Act.put, List.setIfInBounds_toArray, List.set_cons_zero, List.set_cons_succ, List.getElem_toArray, List.getElem_cons_succ, List.getElem_cons_zero]
                refine wpAnyH_take (i := 2) (v := ?_) rfl (by kernel_rfl) (by kernel_rfl) (by kernel_rfl) (fun _ _ _ h => h) (Or.inl ⟨by rfl, ?_⟩) (by assumption) ?_; rotate_left; (intro w hSw; (try dsimp only at hSw); go_simp; try (with_reducible rfl)); try simp only [Act.put, List.setIfInBounds_toArray, List.set_cons_zero, List.set_cons_succ, List.getElem_toArray, List.getElem_cons_succ, List.getElem_cons_zero]
                refine wpAnyH_ready (rs := [3]) (by kernel_rfl) (by simp) ?_; refine AllReadyH.cons rfl (fun K hK => ?_) AllReadyH.nil; go_simp
                refine (CO2 _ (HRQ.out.new_ HX1.out.2.2)).mono ?_; rintro e wq ⟨rfl, hwq⟩; rw [HK.out]; have HX2 : Kept (HC wq ⟨caps, cA, ck, flows, some ⟨bF, oF, none⟩, fk⟩ rs (some ⟨bA, oA, none⟩) rk bN bR bU gU (fullL ⟨caps, cA, ck, flows, some ⟨bF, oF, none⟩, fk⟩ rs) ∧ Blk wq b10 37 #[.slice qA qs.length qk, .bool qb, .int .i64 qd.n, .int .i64 qd.d] ∧ Below w.heap.size w wq) := ⟨hwq ▸ HX1.out.1, hwq ▸ HX1.out.2.1, hwq ▸ HX1.out.2.2⟩; clear hwq
                try go_wp2_with fail
                refine hK.out _ _ (by (try dsimp only); (first | exact hc_two HX3.out.1 (HRS.out.new_ HX3.out.2.2) HQK.out HRK.out HX3.out.2.1 | exact hc_two HX2.out.1 (HRS.out.new_ HX2.out.2.2) HQK.out HRK.out HX2.out.2.1 | exact hc_two HX1.out.1 (HRS.out.new_ HX1.out.2.2) HQK.out HRK.out HX1.out.2.1)) (fun hHeld => ?_); clear hK K; try simp only [Act.put, List.setIfInBounds_toArray, List.set_cons_zero, List.set_cons_succ, List.getElem_toArray, List.getElem_cons_succ, List.getElem_cons_zero]
                refine wpAnyH_take (i := 4) (v := ?_) rfl (by kernel_rfl) (by kernel_rfl) (by kernel_rfl) (fun _ _ _ h => h) (Or.inl ⟨by rfl, ?_⟩) (by assumption) ?_; rotate_left; (intro w hSw; (try dsimp only at hSw); go_simp; try (with_reducible rfl)); try simp only [Act.put, List.setIfInBounds_toArray, List.set_cons_zero, List.set_cons_succ, List.getElem_toArray, List.getElem_cons_succ, List.getElem_cons_zero]
                refine wpAnyH_take (i := 5) (v := ?_) rfl (by kernel_rfl) (by kernel_rfl) (by kernel_rfl) (fun _ _ _ h => h) (Or.inl ⟨by rfl, ?_⟩) (by assumption) ?_; rotate_left; (intro w hSw; (try dsimp only at hSw); go_simp; try (with_reducible rfl)); try simp only [Act.put, List.setIfInBounds_toArray, List.set_cons_zero, List.set_cons_succ, List.getElem_toArray, List.getElem_cons_succ, List.getElem_cons_zero]
                refine wpAnyH_take (i := 6) (v := ?_) rfl (by kernel_rfl) (by kernel_rfl) (by kernel_rfl) (fun _ _ _ h => h) (Or.inl ⟨by rfl, ?_⟩) (by assumption) ?_; rotate_left; (intro w hSw; (try dsimp only at hSw); go_simp; try (with_reducible rfl)); try simp only [Act.put, List.setIfInBounds_toArray, List.set_cons_zero, List.set_cons_succ, List.getElem_toArray, List.getElem_cons_succ, List.getElem_cons_zero]
                refine wpAnyH_take (i := 7) (v := ?_) rfl (by kernel_rfl) (by kernel_rfl) (by kernel_rfl) (fun _ _ _ h => h) (Or.inl ⟨by rfl, ?_⟩) (by assumption) ?_; rotate_left; (intro w hSw; (try dsimp only at hSw); go_simp; try (with_reducible rfl)); try simp only [Act.put, List.setIfInBounds_toArray, List.set_cons_zero, List.set_cons_succ, List.getElem_toArray, List.getElem_cons_succ, List.getElem_cons_zero]
                refine wpAnyH_take (i := 8) (v := ?_) rfl (by kernel_rfl) (by kernel_rfl) (by kernel_rfl) (fun _ _ _ h => h) (Or.inl ⟨by rfl, ?_⟩) (by assumption) ?_; rotate_left; (intro w hSw; (try dsimp only at hSw); go_simp; try (with_reducible rfl)); try simp only [Act.put, List.setIfInBounds_toArray, List.set_cons_zero, List.set_cons_succ, List.getElem_toArray, List.getElem_cons_succ, List.getElem_cons_zero]
                refine wpAnyH_take (i := 9) (v := ?_) rfl (by kernel_rfl) (by kernel_rfl) (by kernel_rfl) (fun _ _ _ h => h) (Or.inl ⟨by rfl, ?_⟩) (by assumption) ?_; rotate_left; (intro w hSw; (try dsimp only at hSw); go_simp; try (with_reducible rfl)); try simp only [Act.put, List.setIfInBounds_toArray, List.set_cons_zero, List.set_cons_succ, List.getElem_toArray, List.getElem_cons_succ, List.getElem_cons_zero]
                refine wpAnyH_take (i := 10) (v := ?_) rfl (by kernel_rfl) (by kernel_rfl) (by kernel_rfl) (fun _ _ _ h => h) (Or.inl ⟨by rfl, ?_⟩) (by assumption) ?_; rotate_left; (intro w hSw; (try dsimp only at hSw); go_simp; try (with_reducible rfl)); try simp only [Act.put, List.setIfInBounds_toArray, List.set_cons_zero, List.set_cons_succ, List.getElem_toArray, List.getElem_cons_succ, List.getElem_cons_zero]
                refine wpAnyH_take (i := 11) (v := ?_) rfl (by kernel_rfl) (by kernel_rfl) (by kernel_rfl) (fun _ _ _ h => h) (Or.inl ⟨by rfl, ?_⟩) (by assumption) ?_; rotate_left; (intro w hSw; (try dsimp only at hSw); go_simp; try (with_reducible rfl)); try simp only [Act.put, List.setIfInBounds_toArray, List.set_cons_zero, List.set_cons_succ, List.getElem_toArray, List.getElem_cons_succ, List.getElem_cons_zero]
                refine wpAnyH_take (i := 12) (v := ?_) rfl (by kernel_rfl) (by kernel_rfl) (by kernel_rfl) (fun _ _ _ h => h) (Or.inl ⟨by rfl, ?_⟩) (by assumption) ?_; rotate_left; (intro w hSw; (try dsimp only at hSw); go_simp; try (with_reducible rfl)); try simp only [Act.put, List.setIfInBounds_toArray, List.set_cons_zero, List.set_cons_succ, List.getElem_toArray, List.getElem_cons_succ, List.getElem_cons_zero]
                refine wpAnyH_ready (rs := [13]) (by kernel_rfl) (by simp) ?_; refine AllReadyH.cons rfl (fun K hK => ?_) AllReadyH.nil; go_simp
                refine (CM _).mono ?_; rintro e wq2 ⟨rfl, hbq⟩; have HX3 : Kept (HC wq2 ⟨caps, cA, ck, flows, some ⟨bF, oF, none⟩, fk⟩ rs (some ⟨bA, oA, none⟩) rk bN bR bU gU (fullL ⟨caps, cA, ck, flows, some ⟨bF, oF, none⟩, fk⟩ rs) ∧ Blk wq2 b10 37 #[.slice qA qs.length qk, .bool qb, .int .i64 qd.n, .int .i64 qd.d] ∧ Below w.heap.size w wq2) := ⟨HX2.out.1.new_ hbq, HX2.out.2.1.new_ hbq, join HX2.out.2.2 hbq⟩; clear hbq
                try go_wp2_with fail
                refine hK.out _ _ (by (try dsimp only); (first | exact hc_two HX3.out.1 (HRS.out.new_ HX3.out.2.2) HQK.out HRK.out HX3.out.2.1 | exact hc_two HX2.out.1 (HRS.out.new_ HX2.out.2.2) HQK.out HRK.out HX2.out.2.1 | exact hc_two HX1.out.1 (HRS.out.new_ HX1.out.2.2) HQK.out HRK.out HX1.out.2.1)) (fun hHeld => ?_); clear hK K; try simp only [Act.put, List.setIfInBounds_toArray, List.set_cons_zero, List.set_cons_succ, List.getElem_toArray, List.getElem_cons_succ, List.getElem_cons_zero]
                refine wpAnyH_take (i := 14) (v := ?_) rfl (by kernel_rfl) (by kernel_rfl) (by kernel_rfl) (fun _ _ _ h => h) (Or.inl ⟨by rfl, ?_⟩) (by assumption) ?_; rotate_left; (intro w hSw; (try dsimp only at hSw); go_simp; try (with_reducible rfl)); try simp only [Act.put, List.setIfInBounds_toArray, List.set_cons_zero, List.set_cons_succ, List.getElem_toArray, List.getElem_cons_succ, List.getElem_cons_zero]
                refine wpAnyH_take (i := 15) (v := ?_) rfl (by kernel_rfl) (by kernel_rfl) (by kernel_rfl) (fun _ _ _ h => h) (Or.inl ⟨by rfl, ?_⟩) (by assumption) ?_; rotate_left; (intro w hSw; (try dsimp only at hSw); go_simp; try (with_reducible rfl)); try simp only [Act.put, List.setIfInBounds_toArray, List.set_cons_zero, List.set_cons_succ, List.getElem_toArray, List.getElem_cons_succ, List.getElem_cons_zero]
                refine wpAnyH_done (by kernel_rfl) ?_ _
                go_wp2_with fail
                go_roundw
                case rel => exact ⟨k + 1, by omega, by go_num, HNX, ⟨HX3.out.1, HX3.out.2.2⟩⟩
                case measure => simp [intOf]; omega
          · obtain rfl : k = flows.length := by omega
            clear hlt
            have HAT : Kept (ANS = true) := ⟨by rw [HAL.out]; exact List.all_eq_true.2 fun j hj => HB.out j (List.mem_range.1 hj)⟩
            go_wp2_with fail
            go_ret
            exact ⟨ret_bool HAT.out.symm, HV.out.2⟩
end Go.Proofs.Ytjalegdfofogcaa
