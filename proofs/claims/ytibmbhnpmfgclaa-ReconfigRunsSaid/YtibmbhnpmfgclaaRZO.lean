/- Reconfig: the reference's Receive: messages over no edge of the tree (printed by gen_rzo.py). -/
import Derived.Test.YtibmbhnpmfgclaaRZN
namespace Go.Proofs.Ytibmbhnpmfgclaa
set_option linter.unusedVariables false
set_option linter.unusedSimpArgs false
open Go.RowKit Go.Maps
section
variable (w : World) (P : List Int) (S : RSt)
set_option maxRecDepth 100000 in
set_option maxHeartbeats 8000000 in
theorem rRecv_edge1 (f t : Nat) (ep : Int) (h : RAt w P S) (hf : f < P.length) (ht : t < P.length) (hx : parI P t ≠ f) : Calls Try.prog 27 #[.agg #[.slice (some ⟨S.gp, 0, none⟩) P.length S.kp, .slice (some ⟨S.g, 0, none⟩) P.length S.kn], mv ⟨1, f, t, ep⟩] w (ZRes w P (rps S, []) 12) := by
  have sm := h.sm
  obtain ⟨W0, hW0, HV0, hs⟩ := RvW.start h ⟨1, f, t, ep⟩
  have HV := Kept.mk HV0
  have k0 := HV0.bx.cell 0 (v := .slice (some ⟨S.gp, 0, none⟩) P.length S.kp) rfl
  have k1 := HV0.bx.cell 1 (v := .slice (some ⟨S.g, 0, none⟩) P.length S.kn) rfl
  have m0 := HV0.mx.cell 0 (v := .int .i64 1) rfl
  have m1 := HV0.mx.cell 1 (v := .int .i64 f) rfl
  have m2 := HV0.mx.cell 2 (v := .int .i64 t) rfl
  have m3 := HV0.mx.cell 3 (v := .int .i64 ep) rfl
  have r0 := HV0.rx.cell 0 (v := .slice none 0 0) rfl
  have r1 := HV0.rx.cell 1 (v := .slice none 0 0) rfl
  have r2 := HV0.rx.free 0
  have r3 := HV0.rx.free 1
  have r4 := HV0.rx.lt
  have zb := HV0.bx.lt
  have zm := HV0.mx.lt
  obtain ⟨x, hpx, hxc⟩ := HV0.at_.par.int ht
  have hxx : parI P t = x := by simp [parI, hpx]
  rw [hxx] at hx
  obtain ⟨x1, x2⟩ := z_no hx
  have zp := HV0.at_.par.lt
  clear h hpx hxx hx
  clear HV0
  unfold mv
  go_enter Try.func27, Try.ntmps27
  go_upto_region 1 with fail
  rw [← hW0]
  clear hW0
  go_wp2_with fail
  go_quiet (fail)
  obtain ⟨W1, hW1⟩ : ∃ W1, W1 = W0.drewN nq := ⟨_, rfl⟩
  have hb1 : Below W0.heap.size W0 W1 := by rw [hW1]; exact dN (Below.refl _ _) _
  replace HV := Kept.mk (HV.out.new_ hb1)
  rw [← hW1]
  clear hb1 hW1 k0 k1 m0 m1 m2 m3 r0 r1 r2 r3 r4 zb zm hxc zp
  have k0 := HV.out.bx.cell 0 (v := .slice (some ⟨S.gp, 0, none⟩) P.length S.kp) rfl
  have k1 := HV.out.bx.cell 1 (v := .slice (some ⟨S.g, 0, none⟩) P.length S.kn) rfl
  have r0 := HV.out.rx.cell 0 (v := .slice none 0 0) rfl
  have r1 := HV.out.rx.cell 1 (v := .slice none 0 0) rfl
  have r2 := HV.out.rx.free 0
  have r3 := HV.out.rx.free 1
  have r4 := HV.out.rx.lt
  go_wp2_with fail
  obtain ⟨W6, hW6⟩ : ∃ W6, W6 = (W1.setCell ⟨w.heap.size + 2, 0, none⟩ (.slice (some ⟨S.gp, 0, none⟩) P.length S.kp)).setCell ⟨w.heap.size + 2, 1, none⟩ (.slice (some ⟨S.g, 0, none⟩) P.length S.kn) := ⟨_, rfl⟩
  obtain ⟨s0, s1, hA6, hM6, hb6⟩ := HV.out.fin (A := none) (kap := 0) (l := []) (World.ownsRow_nil _ _ _ _) hW6
  rw [← hW6]
  clear hW6 r0 r1 r2 r3
  refine bodyPost_ret (v := .tuple #[.agg #[.slice (some ⟨S.gp, 0, none⟩) P.length S.kp, .slice (some ⟨S.g, 0, none⟩) P.length S.kn], .slice none 0 0, .int .i64 12]) (by simp [results, Try.results27, go_sem, s0, s1]) rfl ?_
  exact ⟨S, none, 0, rfl, rfl, hA6, hM6, hb6⟩
set_option maxRecDepth 100000 in
set_option maxHeartbeats 8000000 in
theorem rRecv_edge2 (f t : Nat) (ep : Int) (h : RAt w P S) (hf : f < P.length) (ht : t < P.length) (hx : parI P f ≠ t) : Calls Try.prog 27 #[.agg #[.slice (some ⟨S.gp, 0, none⟩) P.length S.kp, .slice (some ⟨S.g, 0, none⟩) P.length S.kn], mv ⟨2, f, t, ep⟩] w (ZRes w P (rps S, []) 12) := by
  have sm := h.sm
  obtain ⟨W0, hW0, HV0, hs⟩ := RvW.start h ⟨2, f, t, ep⟩
  have HV := Kept.mk HV0
  have k0 := HV0.bx.cell 0 (v := .slice (some ⟨S.gp, 0, none⟩) P.length S.kp) rfl
  have k1 := HV0.bx.cell 1 (v := .slice (some ⟨S.g, 0, none⟩) P.length S.kn) rfl
  have m0 := HV0.mx.cell 0 (v := .int .i64 2) rfl
  have m1 := HV0.mx.cell 1 (v := .int .i64 f) rfl
  have m2 := HV0.mx.cell 2 (v := .int .i64 t) rfl
  have m3 := HV0.mx.cell 3 (v := .int .i64 ep) rfl
  have r0 := HV0.rx.cell 0 (v := .slice none 0 0) rfl
  have r1 := HV0.rx.cell 1 (v := .slice none 0 0) rfl
  have r2 := HV0.rx.free 0
  have r3 := HV0.rx.free 1
  have r4 := HV0.rx.lt
  have zb := HV0.bx.lt
  have zm := HV0.mx.lt
  obtain ⟨x, hpx, hxc⟩ := HV0.at_.par.int hf
  have hxx : parI P f = x := by simp [parI, hpx]
  rw [hxx] at hx
  obtain ⟨x1, x2⟩ := z_no hx
  have zp := HV0.at_.par.lt
  clear h hpx hxx hx
  clear HV0
  unfold mv
  go_enter Try.func27, Try.ntmps27
  go_upto_region 1 with fail
  rw [← hW0]
  clear hW0
  go_wp2_with fail
  go_quiet (fail)
  obtain ⟨W1, hW1⟩ : ∃ W1, W1 = W0.drewN nq := ⟨_, rfl⟩
  have hb1 : Below W0.heap.size W0 W1 := by rw [hW1]; exact dN (Below.refl _ _) _
  replace HV := Kept.mk (HV.out.new_ hb1)
  rw [← hW1]
  clear hb1 hW1 k0 k1 m0 m1 m2 m3 r0 r1 r2 r3 r4 zb zm hxc zp
  have k0 := HV.out.bx.cell 0 (v := .slice (some ⟨S.gp, 0, none⟩) P.length S.kp) rfl
  have k1 := HV.out.bx.cell 1 (v := .slice (some ⟨S.g, 0, none⟩) P.length S.kn) rfl
  have r0 := HV.out.rx.cell 0 (v := .slice none 0 0) rfl
  have r1 := HV.out.rx.cell 1 (v := .slice none 0 0) rfl
  have r2 := HV.out.rx.free 0
  have r3 := HV.out.rx.free 1
  have r4 := HV.out.rx.lt
  go_wp2_with fail
  obtain ⟨W6, hW6⟩ : ∃ W6, W6 = (W1.setCell ⟨w.heap.size + 2, 0, none⟩ (.slice (some ⟨S.gp, 0, none⟩) P.length S.kp)).setCell ⟨w.heap.size + 2, 1, none⟩ (.slice (some ⟨S.g, 0, none⟩) P.length S.kn) := ⟨_, rfl⟩
  obtain ⟨s0, s1, hA6, hM6, hb6⟩ := HV.out.fin (A := none) (kap := 0) (l := []) (World.ownsRow_nil _ _ _ _) hW6
  rw [← hW6]
  clear hW6 r0 r1 r2 r3
  refine bodyPost_ret (v := .tuple #[.agg #[.slice (some ⟨S.gp, 0, none⟩) P.length S.kp, .slice (some ⟨S.g, 0, none⟩) P.length S.kn], .slice none 0 0, .int .i64 12]) (by simp [results, Try.results27, go_sem, s0, s1]) rfl ?_
  exact ⟨S, none, 0, rfl, rfl, hA6, hM6, hb6⟩
set_option maxRecDepth 100000 in
set_option maxHeartbeats 8000000 in
theorem rRecv_edge3 (f t : Nat) (ep : Int) (h : RAt w P S) (hf : f < P.length) (ht : t < P.length) (hx : parI P t ≠ f) : Calls Try.prog 27 #[.agg #[.slice (some ⟨S.gp, 0, none⟩) P.length S.kp, .slice (some ⟨S.g, 0, none⟩) P.length S.kn], mv ⟨3, f, t, ep⟩] w (ZRes w P (rps S, []) 12) := by
  have sm := h.sm
  obtain ⟨W0, hW0, HV0, hs⟩ := RvW.start h ⟨3, f, t, ep⟩
  have HV := Kept.mk HV0
  have k0 := HV0.bx.cell 0 (v := .slice (some ⟨S.gp, 0, none⟩) P.length S.kp) rfl
  have k1 := HV0.bx.cell 1 (v := .slice (some ⟨S.g, 0, none⟩) P.length S.kn) rfl
  have m0 := HV0.mx.cell 0 (v := .int .i64 3) rfl
  have m1 := HV0.mx.cell 1 (v := .int .i64 f) rfl
  have m2 := HV0.mx.cell 2 (v := .int .i64 t) rfl
  have m3 := HV0.mx.cell 3 (v := .int .i64 ep) rfl
  have r0 := HV0.rx.cell 0 (v := .slice none 0 0) rfl
  have r1 := HV0.rx.cell 1 (v := .slice none 0 0) rfl
  have r2 := HV0.rx.free 0
  have r3 := HV0.rx.free 1
  have r4 := HV0.rx.lt
  have zb := HV0.bx.lt
  have zm := HV0.mx.lt
  obtain ⟨x, hpx, hxc⟩ := HV0.at_.par.int ht
  have hxx : parI P t = x := by simp [parI, hpx]
  rw [hxx] at hx
  obtain ⟨x1, x2⟩ := z_no hx
  have zp := HV0.at_.par.lt
  clear h hpx hxx hx
  clear HV0
  unfold mv
  go_enter Try.func27, Try.ntmps27
  go_upto_region 1 with fail
  rw [← hW0]
  clear hW0
  go_wp2_with fail
  go_quiet (fail)
  obtain ⟨W1, hW1⟩ : ∃ W1, W1 = W0.drewN nq := ⟨_, rfl⟩
  have hb1 : Below W0.heap.size W0 W1 := by rw [hW1]; exact dN (Below.refl _ _) _
  replace HV := Kept.mk (HV.out.new_ hb1)
  rw [← hW1]
  clear hb1 hW1 k0 k1 m0 m1 m2 m3 r0 r1 r2 r3 r4 zb zm hxc zp
  have k0 := HV.out.bx.cell 0 (v := .slice (some ⟨S.gp, 0, none⟩) P.length S.kp) rfl
  have k1 := HV.out.bx.cell 1 (v := .slice (some ⟨S.g, 0, none⟩) P.length S.kn) rfl
  have r0 := HV.out.rx.cell 0 (v := .slice none 0 0) rfl
  have r1 := HV.out.rx.cell 1 (v := .slice none 0 0) rfl
  have r2 := HV.out.rx.free 0
  have r3 := HV.out.rx.free 1
  have r4 := HV.out.rx.lt
  go_wp2_with fail
  obtain ⟨W6, hW6⟩ : ∃ W6, W6 = (W1.setCell ⟨w.heap.size + 2, 0, none⟩ (.slice (some ⟨S.gp, 0, none⟩) P.length S.kp)).setCell ⟨w.heap.size + 2, 1, none⟩ (.slice (some ⟨S.g, 0, none⟩) P.length S.kn) := ⟨_, rfl⟩
  obtain ⟨s0, s1, hA6, hM6, hb6⟩ := HV.out.fin (A := none) (kap := 0) (l := []) (World.ownsRow_nil _ _ _ _) hW6
  rw [← hW6]
  clear hW6 r0 r1 r2 r3
  refine bodyPost_ret (v := .tuple #[.agg #[.slice (some ⟨S.gp, 0, none⟩) P.length S.kp, .slice (some ⟨S.g, 0, none⟩) P.length S.kn], .slice none 0 0, .int .i64 12]) (by simp [results, Try.results27, go_sem, s0, s1]) rfl ?_
  exact ⟨S, none, 0, rfl, rfl, hA6, hM6, hb6⟩
set_option maxRecDepth 100000 in
set_option maxHeartbeats 8000000 in
theorem rRecv_edge4 (f t : Nat) (ep : Int) (h : RAt w P S) (hf : f < P.length) (ht : t < P.length) (hx : parI P f ≠ t) : Calls Try.prog 27 #[.agg #[.slice (some ⟨S.gp, 0, none⟩) P.length S.kp, .slice (some ⟨S.g, 0, none⟩) P.length S.kn], mv ⟨4, f, t, ep⟩] w (ZRes w P (rps S, []) 12) := by
  have sm := h.sm
  obtain ⟨W0, hW0, HV0, hs⟩ := RvW.start h ⟨4, f, t, ep⟩
  have HV := Kept.mk HV0
  have k0 := HV0.bx.cell 0 (v := .slice (some ⟨S.gp, 0, none⟩) P.length S.kp) rfl
  have k1 := HV0.bx.cell 1 (v := .slice (some ⟨S.g, 0, none⟩) P.length S.kn) rfl
  have m0 := HV0.mx.cell 0 (v := .int .i64 4) rfl
  have m1 := HV0.mx.cell 1 (v := .int .i64 f) rfl
  have m2 := HV0.mx.cell 2 (v := .int .i64 t) rfl
  have m3 := HV0.mx.cell 3 (v := .int .i64 ep) rfl
  have r0 := HV0.rx.cell 0 (v := .slice none 0 0) rfl
  have r1 := HV0.rx.cell 1 (v := .slice none 0 0) rfl
  have r2 := HV0.rx.free 0
  have r3 := HV0.rx.free 1
  have r4 := HV0.rx.lt
  have zb := HV0.bx.lt
  have zm := HV0.mx.lt
  obtain ⟨x, hpx, hxc⟩ := HV0.at_.par.int hf
  have hxx : parI P f = x := by simp [parI, hpx]
  rw [hxx] at hx
  obtain ⟨x1, x2⟩ := z_no hx
  have zp := HV0.at_.par.lt
  clear h hpx hxx hx
  clear HV0
  unfold mv
  go_enter Try.func27, Try.ntmps27
  go_upto_region 1 with fail
  rw [← hW0]
  clear hW0
  go_wp2_with fail
  go_quiet (fail)
  obtain ⟨W1, hW1⟩ : ∃ W1, W1 = W0.drewN nq := ⟨_, rfl⟩
  have hb1 : Below W0.heap.size W0 W1 := by rw [hW1]; exact dN (Below.refl _ _) _
  replace HV := Kept.mk (HV.out.new_ hb1)
  rw [← hW1]
  clear hb1 hW1 k0 k1 m0 m1 m2 m3 r0 r1 r2 r3 r4 zb zm hxc zp
  have k0 := HV.out.bx.cell 0 (v := .slice (some ⟨S.gp, 0, none⟩) P.length S.kp) rfl
  have k1 := HV.out.bx.cell 1 (v := .slice (some ⟨S.g, 0, none⟩) P.length S.kn) rfl
  have r0 := HV.out.rx.cell 0 (v := .slice none 0 0) rfl
  have r1 := HV.out.rx.cell 1 (v := .slice none 0 0) rfl
  have r2 := HV.out.rx.free 0
  have r3 := HV.out.rx.free 1
  have r4 := HV.out.rx.lt
  go_wp2_with fail
  obtain ⟨W6, hW6⟩ : ∃ W6, W6 = (W1.setCell ⟨w.heap.size + 2, 0, none⟩ (.slice (some ⟨S.gp, 0, none⟩) P.length S.kp)).setCell ⟨w.heap.size + 2, 1, none⟩ (.slice (some ⟨S.g, 0, none⟩) P.length S.kn) := ⟨_, rfl⟩
  obtain ⟨s0, s1, hA6, hM6, hb6⟩ := HV.out.fin (A := none) (kap := 0) (l := []) (World.ownsRow_nil _ _ _ _) hW6
  rw [← hW6]
  clear hW6 r0 r1 r2 r3
  refine bodyPost_ret (v := .tuple #[.agg #[.slice (some ⟨S.gp, 0, none⟩) P.length S.kp, .slice (some ⟨S.g, 0, none⟩) P.length S.kn], .slice none 0 0, .int .i64 12]) (by simp [results, Try.results27, go_sem, s0, s1]) rfl ?_
  exact ⟨S, none, 0, rfl, rfl, hA6, hM6, hb6⟩
end
theorem flat_swap {α : Type} {f : α → List Value} {l : List α} {v : Nat} {n n' : α} (h : l[v]? = some n) (he : f n' = f n) : (l.set v n').flatMap f = l.flatMap f := by
  rw [List.flatMap_def, List.flatMap_def, List.map_set, he]
  congr 1
  have : (l.map f)[v]? = some (f n) := by simp [h]
  obtain ⟨hv, e⟩ := List.getElem?_eq_some_iff.1 this
  rw [← e, List.set_getElem_self]
theorem OwnAt.swap {α : Type} {w : World} {g sz : Nat} {t : TypeId} {f : α → List Value} {l : List α} {v : Nat} {n n' : α} (h : OwnAt w g t sz f l) (hv : l[v]? = some n) (he : f n' = f n) : OwnAt w g t sz f (l.set v n') :=
  ⟨⟨h.rows.sz0, h.rows.hf, by rw [flat_swap hv he, List.length_set]; exact h.rows.rd⟩, h.blk⟩
theorem own_box {w : World} {b B kap n : Nat} {A : Option Addr} {xs : List Value} {cs : Array Value} (h : w.ownsRow B 62 4 (.slice A n kap) n xs) (hb : Blk w b 53 cs) (u u' : Value) : ((w.setCell ⟨b, 0, none⟩ u).setCell ⟨b, 1, none⟩ u').ownsRow B 62 4 (.slice A n kap) n xs :=
  ownsRow_setCell_other (ownsRow_setCell_other h (a := ⟨b, 0, none⟩) (own_blk_ne h hb (by decide)) _) (a := ⟨b, 1, none⟩) (own_blk_ne h hb (by decide)) _
theorem rGo1 (P : List Int) (rs : List Rp) (f t : Nat) (ep : Int) : rGo P rs ⟨1, f, t, ep⟩ = (if ep = (rd rs t).ep + 1 ∧ (rd rs t).ph = 0 then rBegin P rs t else if ep = (rd rs t).ep + 1 ∧ (rd rs t).ph = 2 then (rs, [⟨2, t, f, (rd rs t).ep + 1⟩]) else (rs, [])) := by
  unfold rGo; dsimp only [Int.toNat_natCast]; rw [if_pos rfl]
theorem rGo2 (P : List Int) (rs : List Rp) (f t : Nat) (ep : Int) : rGo P rs ⟨2, f, t, ep⟩ = (if ep = (rd rs t).ep + 1 ∧ (rd rs t).ph = 1 then (if rAll P (rd (rAns rs t f) t) t then rPrepared P (rAns rs t f) t else (rAns rs t f, [])) else if ep = (rd rs t).ep ∧ (rd rs t).ph = 3 then (rs, [⟨3, t, f, (rd rs t).ep⟩]) else (rs, [])) := by
  unfold rGo; dsimp only [Int.toNat_natCast]; rw [if_neg (by decide), if_pos rfl]
theorem rGo3 (P : List Int) (rs : List Rp) (f t : Nat) (ep : Int) : rGo P rs ⟨3, f, t, ep⟩ = (if ep = (rd rs t).ep + 1 ∧ (rd rs t).ph = 2 then rCommit P rs t else if ep = (rd rs t).ep ∧ (rd rs t).ph = 0 then (rs, [⟨4, t, f, (rd rs t).ep⟩]) else (rs, [])) := by
  unfold rGo; dsimp only [Int.toNat_natCast]; rw [if_neg (by decide), if_neg (by decide), if_pos rfl]
theorem rGo4 (P : List Int) (rs : List Rp) (f t : Nat) (ep : Int) : rGo P rs ⟨4, f, t, ep⟩ = (if ep = (rd rs t).ep ∧ (rd rs t).ph = 3 then rRest P (rAns rs t f) t else (rs, [])) := by
  unfold rGo; dsimp only [Int.toNat_natCast]; rw [if_neg (by decide), if_neg (by decide), if_neg (by decide)]
/-- An answer is noted. -/
theorem RAt.putl {w : World} {P : List Int} {S : RSt} {v f gl : Nat} {n : Rn} (h : RAt w P S) (hv : S.N[v]? = some n) (hA : n.A = some ⟨gl, 0, none⟩) (hf : f < n.x.L.length) :
    RAt (w.setCell ⟨gl, f, none⟩ (.bool true)) P { S with N := S.N.set v ⟨{ n.x with L := n.x.L.set f true }, n.A, n.k⟩ } ∧ OnlyP (fun b => b = gl) w (w.setCell ⟨gl, f, none⟩ (.bool true)) := by
  have hvl : v < S.N.length := (List.getElem?_eq_some_iff.1 hv).1
  have hne : n.x.L ≠ [] := fun e => by rw [e] at hf; simp at hf
  obtain ⟨g0, e0, ho⟩ := h.ans n (List.mem_of_getElem? hv) hne
  obtain rfl : g0 = gl := by rw [hA] at e0; injection e0 with e; injection e with e; exact e.symm
  have hO : OnlyP (fun b => b = g0) w (w.setCell ⟨g0, f, none⟩ (.bool true)) := (OnlyP.refl (fun b => b = g0) w).set (p := ⟨g0, f, none⟩) (.inl rfl) _
  have hat : ∀ u a, (S.N.set v ⟨{ n.x with L := n.x.L.set f true }, n.A, n.k⟩)[u]? = some a → (u = v ∧ a = ⟨{ n.x with L := n.x.L.set f true }, n.A, n.k⟩) ∨ (u ≠ v ∧ S.N[u]? = some a) := fun u a hu => by
    rw [List.getElem?_set] at hu
    by_cases e : v = u
    · rw [if_pos e, if_pos hvl] at hu
      injection hu with hu
      exact .inl ⟨e.symm, hu.symm⟩
    · rw [if_neg e] at hu; exact .inr ⟨fun h => e h.symm, hu⟩
  have hnl : n.x.L.set f true ≠ [] := fun e => by have := congrArg List.length e; simp at this; exact hne this
  obtain ⟨y, hy⟩ := get_some hf
  have hmine : OwnAt (w.setCell ⟨g0, f, none⟩ (.bool true)) g0 4 1 ycell (n.x.L.set f true) := by
    have := ho.setj (y := true) hy (j := 0) (by omega) (a := .bool true) rfl
    simpa using this
  refine ⟨⟨h.pos, h.sm, h.par.only hO (fun e => (h.par.ne ho (by decide)) e), (h.nodes.only hO (fun e => (h.nodes.ne ho (by decide)) e)).swap hv (by simp [rcell]), by simp only [List.length_set]; exact h.len, fun a ham => ?_, fun a ham hal => ?_, fun u1 u2 a c hu1 hu2 hal hcl e => ?_⟩, hO⟩
  · obtain ⟨u, hu, rfl⟩ := List.getElem_of_mem ham
    rcases hat u _ (List.getElem?_eq_getElem hu) with ⟨_, e⟩ | ⟨e, hu2⟩
    · rw [e]; simp only [List.length_set]; exact h.lle n (List.mem_of_getElem? hv)
    · exact h.lle _ (List.mem_of_getElem? hu2)
  · obtain ⟨u, hu, rfl⟩ := List.getElem_of_mem ham
    rcases hat u _ (List.getElem?_eq_getElem hu) with ⟨_, e⟩ | ⟨e, hu2⟩
    · rw [e]; exact ⟨g0, hA, hmine⟩
    · obtain ⟨g, e1, ho1⟩ := h.ans _ (List.mem_of_getElem? hu2) hal
      refine ⟨g, e1, ho1.only hO (fun e2 => e (h.dist u v _ n hu2 hv hal hne (by rw [e1, hA, e2])))⟩
  · rcases hat u1 a hu1 with ⟨e1, rfl⟩ | ⟨e1, h1⟩
    · rcases hat u2 c hu2 with ⟨e2, rfl⟩ | ⟨e2, h2⟩
      · rw [e1, e2]
      · rw [e1]; exact h.dist v u2 n c hv h2 hne hcl e
    · rcases hat u2 c hu2 with ⟨e2, rfl⟩ | ⟨e2, h2⟩
      · rw [e2]; exact h.dist u1 v a n h1 hv hal hne e
      · exact h.dist u1 u2 a c h1 h2 hal hcl e
end Go.Proofs.Ytibmbhnpmfgclaa
