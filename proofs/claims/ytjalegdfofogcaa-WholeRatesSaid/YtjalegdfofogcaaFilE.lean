/- A level of the filling. -/
import Derived.Test.YtjalegdfofogcaaFilD
namespace Go.Proofs.Ytjalegdfofogcaa
set_option linter.unusedVariables false
set_option linter.unusedSimpArgs false
open Go.RowKit
section
variable {w W W' : World} {B g gr gz : Nat} {n : PNet} {rs : List Rq} {fz : List Bool} {s : Bool × Rq} {L : List Rq} {U : List Bool}
theorem LB.only {S : Nat → Prop} (h : LB w W B g gr gz n rs fz s L U) (hg : g < w.heap.size ∧ gr < w.heap.size ∧ gz < w.heap.size ∧ B ≤ w.heap.size) (k : OnlyP S W W') (hS : ∀ b, S b → w.heap.size + 5 ≤ b) : LB w W' B g gr gz n rs fz s L U :=
  ⟨h.st.only k (fun b hb => by have := hS b hb; omega), h.r.only k (fun x => by have := hS _ x; omega), h.le.only k (fun x => by have := hS _ x; omega), h.fo.only k (fun x => by have := hS _ x; omega), h.lk.only k (fun x => by have := hS _ x; omega), h.us.only k (fun x => by have := hS _ x; omega), joinP h.blw k (fun b hb => by have := hS b hb; omega) (Nat.le_refl _)⟩
theorem LB.far (h : LB w W B g gr gz n rs fz s L U) (hg : g < w.heap.size ∧ gr < w.heap.size ∧ gz < w.heap.size ∧ B ≤ w.heap.size) {p : Addr} (hp : w.heap.size + 5 ≤ p.block) (v : Value) : LB w (W.setCell p v) B g gr gz n rs fz s L U :=
  h.only hg ((OnlyP.refl (fun b => b = p.block) W).set (.inl rfl) v) (fun b hb => by omega)
theorem lb_keep {x : Nat} {X : Rq} {u : Bool} (h : LB w W B g gr gz n rs fz s L U) (hL : L[x]? = some X) (hU : U[x]? = some u) : W.cell? ⟨w.heap.size + 4, x, none⟩ = some (.bool u) ∧ W.cell? ⟨w.heap.size + 3, x * 2, none⟩ = some (.int .i64 X.n) ∧ W.cell? ⟨w.heap.size + 3, x * 2 + 1, none⟩ = some (.int .i64 X.d) ∧ W.cell? ⟨w.heap.size + 1, 0, none⟩ = some (.int .i64 s.2.n) ∧ W.cell? ⟨w.heap.size + 1, 1, none⟩ = some (.int .i64 s.2.d) :=
  ⟨by have := h.us.cell boolc_len hU (j := 0) rfl; simpa using this, h.lk.cell ccell_len hL (j := 0) rfl, h.lk.cell ccell_len hL (j := 1) rfl, h.le.cell 0 rfl, h.le.cell 1 rfl⟩
theorem LB.fin (h : LB w W B g gr gz n rs fz s L U) (x y z : Value) : ∃ W', W' = ((W.setCell ⟨w.heap.size, 0, none⟩ x).setCell ⟨w.heap.size, 1, none⟩ y).setCell ⟨w.heap.size, 2, none⟩ z ∧ W'.cell? ⟨w.heap.size, 0, none⟩ = some x ∧ W'.cell? ⟨w.heap.size, 1, none⟩ = some y ∧ W'.cell? ⟨w.heap.size, 2, none⟩ = some z ∧ Below w.heap.size w W' ∧ (∀ b, b ≠ w.heap.size → W'.heap[b]? = W.heap[b]?) ∧ W'.heap.size = W.heap.size := by
  have hb : Blk (((W.setCell ⟨w.heap.size, 0, none⟩ x).setCell ⟨w.heap.size, 1, none⟩ y).setCell ⟨w.heap.size, 2, none⟩ z) w.heap.size 68 #[x, y, z] := ((h.r.set_ 0 x).set_ 1 y).to 2 z rfl
  refine ⟨_, rfl, hb.cell 0 rfl, hb.cell 1 rfl, hb.cell 2 rfl, ((h.blw.setCell (Nat.le_refl _) _).setCell (Nat.le_refl _) _).setCell (Nat.le_refl _) _, fun b hne => ?_, by simp⟩
  rw [Below.heap_setCell _ _ _ b hne, Below.heap_setCell _ _ _ b hne, Below.heap_setCell _ _ _ b hne]
/-- .. and the level's box with its row of flows. -/
structure LF (w W : World) (B g gr gz : Nat) (n : PNet) (rs : List Rq) (fz : List Bool) (s : Bool × Rq) (L : List Rq) (U : List Bool) (b : Nat) (R : Rq) (v : Value) (fl : List Int) : Prop where
  lb : LB w W B g gr gz n rs fz s L U
  bx : Blk W b 68 #[.int .i64 R.n, .int .i64 R.d, v]
  own : W.ownsRow (b + 1) 3 1 v fl.length (fl.flatMap icell)
  hb : w.heap.size + 5 ≤ b
theorem LF.new_ {b : Nat} {R : Rq} {v : Value} {fl : List Int} (h : LF w W B g gr gz n rs fz s L U b R v fl) (hb : Below W.heap.size W W') : LF w W' B g gr gz n rs fz s L U b R v fl := ⟨h.lb.new_ hb, h.bx.new_ hb, own_new h.own hb, h.hb⟩
theorem LF.alloc {b : Nat} {R : Rq} {v : Value} {fl : List Int} (h : LF w W B g gr gz n rs fz s L U b R v fl) (ob : Obj) : LF w (W.alloc ob) B g gr gz n rs fz s L U b R v fl := h.new_ ((Below.refl _ _).alloc (Nat.le_refl _) ob)
theorem LF.grow {b : Nat} {R : Rq} {v v' : Value} {fl : List Int} {x : Int} (h : LF w W B g gr gz n rs fz s L U b R v fl) (hg : g < w.heap.size ∧ gr < w.heap.size ∧ gz < w.heap.size ∧ B ≤ w.heap.size) (ho : W'.ownsRow (b + 1) 3 1 v' (fl.length + 1) (fl.flatMap icell ++ [.int .i64 x])) (hw : W.grownBy W' v.ownBlock) :
    LF w (W'.setCell ⟨b, 2, none⟩ v') B g gr gz n rs fz s L U b R v' (fl ++ [x]) := by
  have hrow : ∀ q, v.ownBlock = some q → b + 1 ≤ q := fun q hq => (h.own.lt q hq).1
  have hrow' : ∀ q, v'.ownBlock = some q → b + 1 ≤ q := fun q hq => (ho.lt q hq).1
  have hb := h.hb
  refine ⟨(h.lb.only hg ((OnlyP.refl (fun q => b + 1 ≤ q) W).grown hw (fun q hq => .inl (hrow q hq))) (fun q hq => by omega)).far hg (by simp only; omega) _, ?_, ?_, hb⟩
  · exact (h.bx.grown hw (fun e => by have := hrow b e.symm; omega)).to 2 _ rfl
  · have e : (fl ++ [x]).flatMap icell = fl.flatMap icell ++ [.int .i64 x] := by rw [List.flatMap_append]; rfl
    rw [e, List.length_append]
    exact own_move ho fun q hq => Below.heap_setCell _ _ _ q (by have := hrow' q hq; simp only; omega)
end
theorem frzL_len (n : PNet) (fz : List Bool) (rs : List Rq) (k : Nat) : (frzL n fz rs k).length ≤ k := by
  induction k with
  | zero => exact Nat.le_refl _
  | succ k ih =>
    unfold frzL
    split
    · rw [List.length_append, List.length_singleton]; omega
    · omega
theorem lst2_zero (n : PNet) (fz : List Bool) (rs : List Rq) : lst2 n fz rs 0 = lst1 n fz rs n.caps.length := by rw [lst2]
set_option maxRecDepth 100000 in
set_option maxHeartbeats 16000000 in
theorem level_c (n : PNet) (B g gr gz D C M : Nat) (rs : List Rq) (fz : List Bool) (w : World) (hst : FillAt w B g gr gz n rs fz) (hnl : n.caps.length ≤ 32) (hf5 : n.flows.length ≤ 5)
    (hcok : ∀ c ∈ n.caps, okQ c = true ∧ Gd D C (val c)) (hro : RatesOk D M fz rs) (hD : 1 ≤ D) (hD2 : D ≤ 1048576) (hM : (C + 6 * M) * D ≤ 549755813888)
    (hS : ∀ l, l < n.caps.length → usedB n fz l = true → Sm (candQ n fz rs l)) (hlr : ∀ p ∈ n.flows, ∀ x ∈ p.ls, 0 ≤ x ∧ x < n.caps.length) :
    Calls Try.prog 55 #[.pointer (some ⟨g, 0, none⟩)] w fun e w' => ∃ (A : Option Addr) (kap : Nat), e = .returned (.tuple #[.agg #[.int .i64 (rateQ n fz rs).n, .int .i64 (rateQ n fz rs).d, .slice A (frzL n fz rs n.flows.length).length kap], .int .i64 0]) ∧
      w'.ownsRow w.heap.size 3 1 (.slice A (frzL n fz rs n.flows.length).length kap) (frzL n fz rs n.flows.length).length ((frzL n fz rs n.flows.length).flatMap icell) ∧ Below w.heap.size w w' := by
  have HST := Kept.mk hst
  have CA := fun k hk w h => cand_c n B g gr gz k D C M rs fz w h hk hf5 hcok hro hD hD2 hM
  have HSM := Kept.mk hS
  have HLR := Kept.mk hlr
  have HD64 : Kept (∀ p ∈ n.flows, R64 p.d.n ∧ R64 p.d.d) := ⟨fun p hp => (hst.net.fl p hp).r64⟩
  have HL64 : Kept (∀ k, k ≤ n.caps.length → R64 (lst1 n fz rs k).2.n ∧ R64 (lst1 n fz rs k).2.d) := ⟨fun k hk => lst1_64 hS hk⟩
  have HL65 : Kept (∀ k, R64 (lst2 n fz rs k).2.n ∧ R64 (lst2 n fz rs k).2.d) := ⟨fun k => lst2_64 hS HD64.out k⟩
  have HGS : Kept (g < w.heap.size ∧ gr < w.heap.size ∧ gz < w.heap.size ∧ B ≤ w.heap.size) := ⟨hst.box.lt, hst.rr.lt, hst.rz.lt, by have := hst.bg; have := hst.box.lt; omega⟩
  clear hst hcok hro hM hS hlr
  obtain ⟨caps, cA, ck, flows, fA, fk⟩ := n
  dsimp only at hnl hf5 HSM HLR HD64 HL64 CA ⊢
  obtain ⟨Rt, hRt⟩ : ∃ R, R = rateQ ⟨caps, cA, ck, flows, fA, fk⟩ fz rs := ⟨_, rfl⟩
  obtain ⟨FL, hFL⟩ : ∃ F, F = frzL ⟨caps, cA, ck, flows, fA, fk⟩ fz rs flows.length := ⟨_, rfl⟩
  rw [← hRt, ← hFL]
  have HRT := Kept.mk hRt
  have HFLL := Kept.mk hFL
  clear hRt hFL
  have hmkR := fun w => run_make_flat (P := Try.prog) ccell_len (by omega) (⟨0, 0⟩ : Rq) 22 32 _ 16 Try.underlying22 infoR rfl caps.length (by omega) (by omega) w
  have hmkB := fun w => run_make_flat (P := Try.prog) boolc_len (by omega) false 47 4 _ 1 Try.underlying47 infoO rfl caps.length (by omega) (by omega) w
  have n0 := HST.out.box.cell 0 rfl; have n1 := HST.out.box.cell 1 rfl; have n2 := HST.out.box.cell 2 rfl; have n3 := HST.out.box.cell 3 rfl; dsimp only at n0 n1 n2 n3; have gl1 := HST.out.box.lt; have gl2 := HST.out.rz.lt; have gl3 := HST.out.rr.lt
  go_enter Try.func55, Try.ntmps55
  go_upto_region 4 with fail
  obtain ⟨V0, hV0, HV0⟩ : ∃ V, V = ((w.alloc (.cells #[.int .i64 0, .int .i64 0, .slice none 0 0] 68)).alloc (.cells #[.int .i64 0, .int .i64 0] 32)).alloc (.cells #[.bool false] 4) ∧ Kept (V.heap.size = w.heap.size + 3 ∧ FillAt V B g gr gz ⟨caps, cA, ck, flows, fA, fk⟩ rs fz) := ⟨_, rfl, ⟨by simp, HST.out.new_ (by go_grown)⟩⟩
  rw [← hV0]
  have HVE := Kept.mk hV0
  clear hV0 n0 n1 n2 n3 gl1 gl2 gl3
  have n0 := HV0.out.2.box.cell 0 rfl; have n1 := HV0.out.2.box.cell 1 rfl; have n2 := HV0.out.2.box.cell 2 rfl; have n3 := HV0.out.2.box.cell 3 rfl; dsimp only at n0 n1 n2 n3; have gl1 := HV0.out.2.box.lt; have gl2 := HV0.out.2.rz.lt; have gl3 := HV0.out.2.rr.lt
  have hsz := HV0.out.1
  have gm1 : g < w.heap.size + 3 := by omega
  have gm2 : g ≠ w.heap.size + 3 := by have := HGS.out; omega
  go_upto_region 6 with fail
  obtain ⟨U, hU, HU⟩ : ∃ U, U = (V0.alloc (.cells ((List.replicate caps.length (⟨0, 0⟩ : Rq)).flatMap ccell).toArray 32)).alloc (.cells ((List.replicate caps.length false).flatMap boolc).toArray 4) ∧ Kept (LB w U B g gr gz ⟨caps, cA, ck, flows, fA, fk⟩ rs fz (lst1 ⟨caps, cA, ck, flows, fA, fk⟩ fz rs 0) (lkArr ⟨caps, cA, ck, flows, fA, fk⟩ fz rs 0) (usArr ⟨caps, cA, ck, flows, fA, fk⟩ fz 0)) := ⟨_, rfl, ⟨by rw [lkArr_zero, usArr_zero, HVE.out]; exact LB.start HST.out _⟩⟩
  rw [← hU]
  clear hU HST hmkR hmkB hsz gm1 gm2 HV0 HVE n0 n1 n2 n3 gl1 gl2 gl3
  go_wp2_with fail
  go_loopw [38] (fun v wr => ∃ k : Nat, k ≤ caps.length ∧ v = .int .i64 k ∧ Kept (LB w wr B g gr gz ⟨caps, cA, ck, flows, fA, fk⟩ rs fz (lst1 ⟨caps, cA, ck, flows, fA, fk⟩ fz rs k) (lkArr ⟨caps, cA, ck, flows, fA, fk⟩ fz rs k) (usArr ⟨caps, cA, ck, flows, fA, fk⟩ fz k))) (fun v _ => caps.length - (intOf v).toNat)
  case atStart => exact ⟨0, Nat.zero_le _, rfl, HU⟩
  case round =>
    clear HU
    obtain ⟨k, hk, rfl, HU⟩ := hrel
    have n0 := HU.out.st.box.cell 0 rfl; have n1 := HU.out.st.box.cell 1 rfl; have n2 := HU.out.st.box.cell 2 rfl; have n3 := HU.out.st.box.cell 3 rfl; dsimp only at n0 n1 n2 n3; have gl1 := HU.out.st.box.lt; have gl2 := HU.out.st.rz.lt; have gl3 := HU.out.st.rr.lt
    by_cases hlt : k < caps.length
    · have CK := fun w h => CA k hlt w h
      cases hub : usedB ⟨caps, cA, ck, flows, fA, fk⟩ fz k with
      | false =>
        have HCV : Kept (candR ⟨caps, cA, ck, flows, fA, fk⟩ fz rs k = .tuple #[.agg #[.int .i64 0, .int .i64 0], .bool false, .int .i64 0]) := ⟨by
          unfold candR
          unfold usedB at hub
          rw [if_pos (by have := of_decide_eq_false hub; omega)]
          rfl⟩
        have HN : Kept (lst1 ⟨caps, cA, ck, flows, fA, fk⟩ fz rs (k + 1) = lst1 ⟨caps, cA, ck, flows, fA, fk⟩ fz rs k ∧ lkArr ⟨caps, cA, ck, flows, fA, fk⟩ fz rs (k + 1) = lkArr ⟨caps, cA, ck, flows, fA, fk⟩ fz rs k ∧ usArr ⟨caps, cA, ck, flows, fA, fk⟩ fz (k + 1) = usArr ⟨caps, cA, ck, flows, fA, fk⟩ fz k) := ⟨by rw [lst1, hub]; rfl, lkArr_skip hub, usArr_skip hub⟩
        clear hub
        go_wp2_with (go_at_call 70; refine (CK _ HU.out.st).mono ?_; rintro e w1 ⟨rfl, hb1⟩; rw [HCV.out]; have HU1 := Kept.mk (HU.out.new_ hb1); clear hb1)
        go_roundw
        case rel => exact ⟨k + 1, by omega, by go_num, by rw [HN.out.1, HN.out.2.1, HN.out.2.2]; exact ⟨HU1.out.alloc _⟩⟩
        case measure => simp [intOf]; omega
      | true =>
        obtain ⟨Q, hQ⟩ : ∃ Q, Q = cq (candQ ⟨caps, cA, ck, flows, fA, fk⟩ fz rs k) := ⟨_, rfl⟩
        have hq64 : R64 Q.n ∧ R64 Q.d := by rw [hQ]; exact sm_64 (HSM.out k hlt hub)
        have HCV : Kept (candR ⟨caps, cA, ck, flows, fA, fk⟩ fz rs k = .tuple #[.agg #[.int .i64 Q.n, .int .i64 Q.d], .bool true, .int .i64 0]) := ⟨by
          rw [hQ]
          unfold candR
          unfold usedB at hub
          rw [if_neg (by have := of_decide_eq_true hub; omega)]
          rfl⟩
        obtain ⟨s, hs⟩ : ∃ s, s = lst1 ⟨caps, cA, ck, flows, fA, fk⟩ fz rs k := ⟨_, rfl⟩
        have HS64 : Kept (R64 s.2.n ∧ R64 s.2.d) := ⟨by rw [hs]; exact HL64.out k hk⟩
        have HN : Kept (lst1 ⟨caps, cA, ck, flows, fA, fk⟩ fz rs (k + 1) = cons1 s Q ∧ lkArr ⟨caps, cA, ck, flows, fA, fk⟩ fz rs (k + 1) = (lkArr ⟨caps, cA, ck, flows, fA, fk⟩ fz rs k).set k Q ∧ usArr ⟨caps, cA, ck, flows, fA, fk⟩ fz (k + 1) = (usArr ⟨caps, cA, ck, flows, fA, fk⟩ fz k).set k true) := ⟨by rw [lst1, hub, hs, hQ]; rfl, by rw [hQ]; exact lkArr_next hlt hub, usArr_next hlt hub⟩
        rw [← hs] at HU
        have HLG : Kept ((lkArr ⟨caps, cA, ck, flows, fA, fk⟩ fz rs k)[k]? = some ⟨0, 0⟩ ∧ (usArr ⟨caps, cA, ck, flows, fA, fk⟩ fz k)[k]? = some false) := ⟨by rw [lkArr_get (n := ⟨caps, cA, ck, flows, fA, fk⟩) hlt]; simp, by rw [usArr_get (n := ⟨caps, cA, ck, flows, fA, fk⟩) hlt]; simp⟩
        clear hub hQ hs
        go_upto_region 13 with (go_at_call 70; refine (CK _ HU.out.st).mono ?_; rintro e w1 ⟨rfl, hb1⟩; rw [HCV.out]; have HU1 := Kept.mk (HU.out.new_ hb1); clear hb1)
        obtain ⟨Z, hZ, HZ⟩ : ∃ Z, Z = w1.alloc (.cells #[.int .i64 Q.n, .int .i64 Q.d] 32) ∧ Kept (LB w Z B g gr gz ⟨caps, cA, ck, flows, fA, fk⟩ rs fz s (lkArr ⟨caps, cA, ck, flows, fA, fk⟩ fz rs k) (usArr ⟨caps, cA, ck, flows, fA, fk⟩ fz k) ∧ Blk Z w1.heap.size 32 #[.int .i64 Q.n, .int .i64 Q.d] ∧ w.heap.size + 4 < w1.heap.size) := ⟨_, rfl, ⟨HU1.out.alloc _, Blk.new _ _ _, HU1.out.us.lt⟩⟩
        obtain ⟨b10, hb10⟩ : ∃ b, b = w1.heap.size := ⟨_, rfl⟩
        rw [← hZ, ← hb10]
        rw [← hb10] at HZ
        clear hZ hb10 HU1 HU n0 n1 n2 n3 gl1 gl2 gl3
        have y0 := HZ.out.2.1.cell 0 (v := .int .i64 Q.n) rfl
        have y1 := HZ.out.2.1.cell 1 (v := .int .i64 Q.d) rfl
        have y2 := HZ.out.2.1.lt
        have y3 := HZ.out.2.2
        obtain ⟨x2, x0, x1, -, -⟩ := lb_keep HZ.out.1 HLG.out.1 HLG.out.2
        have xf0 := HZ.out.1.lk.free (k * 2)
        have xf1 := HZ.out.1.lk.free (k * 2 + 1)
        have xf2 := HZ.out.1.us.free k
        have xl := HZ.out.1.us.lt
        go_upto_region 14 with fail
        obtain ⟨V, hV, HV⟩ : ∃ V, V = (((Z.setCell ⟨w.heap.size + 3, k * 2, none⟩ (.int .i64 Q.n)).setCell ⟨w.heap.size + 3, k * 2 + 1, none⟩ (.int .i64 Q.d)).setCell ⟨w.heap.size + 4, k, none⟩ (.bool true)) ∧ Kept (LB w V B g gr gz ⟨caps, cA, ck, flows, fA, fk⟩ rs fz s ((lkArr ⟨caps, cA, ck, flows, fA, fk⟩ fz rs k).set k Q) ((usArr ⟨caps, cA, ck, flows, fA, fk⟩ fz k).set k true) ∧ Blk V b10 32 #[.int .i64 Q.n, .int .i64 Q.d]) := ⟨_, rfl, ⟨HZ.out.1.putL HGS.out (by rw [lkArr_len]; exact hlt) (by rw [usArr_len]; exact hlt) Q, ((HZ.out.2.1.far (by simp only; omega) _).far (by simp only; omega) _).far (by simp only; omega) _⟩⟩
        rw [← hV]
        clear hV HZ y0 y1 y2 y3 x0 x1 x2 xf0 xf1 xf2 xl
        have y0 := HV.out.2.cell 0 (v := .int .i64 Q.n) rfl
        have y1 := HV.out.2.cell 1 (v := .int .i64 Q.d) rfl
        have y2 := HV.out.2.lt
        have HV1 := Kept.mk HV.out.1
        go_wp2_with fail
        refine (consider_c Q s.2 s.1 (w.heap.size + 2) (w.heap.size + 1) _ hq64 HS64.out HV1.out.le HV1.out.fo (by omega)).mono ?_
        rintro e w2 ⟨rfl, h1, h2, h3⟩
        have HW := Kept.mk (HV1.out.step HGS.out h1 h2 h3)
        clear h1 h2 h3

        go_wp2_with fail
        go_roundw
        case rel => exact ⟨k + 1, by omega, by go_num, by rw [HN.out.1, HN.out.2.1, HN.out.2.2]; exact HW⟩
        case measure => simp [intOf]; omega
    · obtain rfl : k = caps.length := by omega
      clear hlt
      rw [← lst2_zero ⟨caps, cA, ck, flows, fA, fk⟩] at HU
      go_wp2_with fail
      clear HL64
      go_loopw [70] (fun v wr => ∃ k : Nat, k ≤ flows.length ∧ v = .int .i64 k ∧ Kept (LB w wr B g gr gz ⟨caps, cA, ck, flows, fA, fk⟩ rs fz (lst2 ⟨caps, cA, ck, flows, fA, fk⟩ fz rs k) (lkArr ⟨caps, cA, ck, flows, fA, fk⟩ fz rs caps.length) (usArr ⟨caps, cA, ck, flows, fA, fk⟩ fz caps.length))) (fun v _ => flows.length - (intOf v).toNat)
      case atStart => exact ⟨0, Nat.zero_le _, rfl, HU⟩
      case round =>
        clear HU n0 n1 n2 n3 gl1 gl2 gl3
        obtain ⟨k, hk, rfl, HU⟩ := hrel
        have n0 := HU.out.st.box.cell 0 rfl; have n1 := HU.out.st.box.cell 1 rfl; have n2 := HU.out.st.box.cell 2 rfl; have n3 := HU.out.st.box.cell 3 rfl; dsimp only at n0 n1 n2 n3; have gl1 := HU.out.st.box.lt; have gl2 := HU.out.st.rz.lt; have gl3 := HU.out.st.rr.lt
        obtain ⟨s, hs⟩ : ∃ s, s = lst2 ⟨caps, cA, ck, flows, fA, fk⟩ fz rs k := ⟨_, rfl⟩
        have HS64 : Kept (R64 s.2.n ∧ R64 s.2.d) := ⟨by rw [hs]; exact HL65.out k⟩
        by_cases hlt : k < flows.length
        · rw [← hs] at HU
          obtain ⟨p, bF, oF, hp, rfl, -, hb, ⟨c0, c1, c2, c3⟩, hfl⟩ := HU.out.st.net.flowAt hlt
          obtain ⟨ls, pA, kap, pb, pd⟩ := p
          dsimp only at c0 c1 c2 c3
          obtain ⟨zb, hzb, z0⟩ := HU.out.st.frozen hlt
          have HP := Kept.mk hp
          have HZB := Kept.mk hzb
          have HFL := Kept.mk hfl
          have HFO := Kept.mk (flo_of (n := ⟨caps, cA, ck, flows, some ⟨bF, oF, none⟩, fk⟩) hp)
          have hd64 := hfl.r64
          clear hp hfl

          have HV0 := Kept.mk (HU.out.alloc (.cells #[.slice pA ls.length kap, .bool pb, .int .i64 pd.n, .int .i64 pd.d] 37))
          cases zb with
          | true =>
            have HN : Kept (lst2 ⟨caps, cA, ck, flows, some ⟨bF, oF, none⟩, fk⟩ fz rs (k + 1) = s) := ⟨by rw [lst2, isF_of HZB.out, hs]; rfl⟩
            clear hs
            go_wp2_with fail
            go_roundw
            case rel => exact ⟨k + 1, by omega, by go_num, by rw [HN.out]; exact HV0⟩
            case measure => simp [intOf]; omega
          | false =>
            cases pb with
            | false =>
              have HN : Kept (lst2 ⟨caps, cA, ck, flows, some ⟨bF, oF, none⟩, fk⟩ fz rs (k + 1) = s) := ⟨by rw [lst2, isF_of HZB.out, HFO.out, hs]; rfl⟩
              clear hs
              go_wp2_with fail
              go_roundw
              case rel => exact ⟨k + 1, by omega, by go_num, by rw [HN.out]; exact HV0⟩
              case measure => simp [intOf]; omega
            | true =>
              have HN : Kept (lst2 ⟨caps, cA, ck, flows, some ⟨bF, oF, none⟩, fk⟩ fz rs (k + 1) = cons1 s pd) := ⟨by rw [lst2, isF_of HZB.out, HFO.out, hs]; rfl⟩
              clear hs
              go_wp2_with fail
              refine (consider_c pd s.2 s.1 (w.heap.size + 2) (w.heap.size + 1) _ hd64 HS64.out HV0.out.le HV0.out.fo (by omega)).mono ?_
              rintro e w2 ⟨rfl, h1, h2, h3⟩
              have HW := Kept.mk (HV0.out.step HGS.out h1 h2 h3)
              clear h1 h2 h3

              go_wp2_with fail
              go_roundw
              case rel => exact ⟨k + 1, by omega, by go_num, by rw [HN.out]; exact HW⟩
              case measure => simp [intOf]; omega
        · obtain rfl : k = flows.length := by omega
          rw [← hs] at HU
          have HLQ : Kept (leastQ ⟨caps, cA, ck, flows, fA, fk⟩ fz rs = s.2) := ⟨by rw [hs]; rfl⟩
          have HRS : Kept (Rt = if s.2.n = 0 then ⟨0, 1⟩ else s.2) := ⟨by rw [HRT.out]; unfold rateQ; rw [HLQ.out]⟩
          clear hlt hs
          have q0 := HU.out.le.cell 0 (v := .int .i64 s.2.n) rfl
          have q1 := HU.out.le.cell 1 (v := .int .i64 s.2.d) rfl
          have q2 := HU.out.le.lt
          go_upto_region 23 with fail
          obtain ⟨V, hV, HV⟩ : ∃ V, V = wr.alloc (.cells #[.int .i64 s.2.n, .int .i64 s.2.d, .slice none 0 0] 68) ∧ Kept (LB w V B g gr gz ⟨caps, cA, ck, flows, fA, fk⟩ rs fz s (lkArr ⟨caps, cA, ck, flows, fA, fk⟩ fz rs caps.length) (usArr ⟨caps, cA, ck, flows, fA, fk⟩ fz caps.length) ∧ Blk V wr.heap.size 68 #[.int .i64 s.2.n, .int .i64 s.2.d, .slice none 0 0] ∧ w.heap.size + 4 < wr.heap.size) := ⟨_, rfl, ⟨HU.out.alloc _, Blk.new _ _ _, HU.out.us.lt⟩⟩
          obtain ⟨b15, hb15⟩ : ∃ b, b = wr.heap.size := ⟨_, rfl⟩
          rw [← hV, ← hb15]
          rw [← hb15] at HV
          clear hV hb15 HU q0 q1 q2 n0 n1 n2 n3 gl1 gl2 gl3
          have q0 := HV.out.1.le.cell 0 (v := .int .i64 s.2.n) rfl
          have q2 := HV.out.1.le.lt
          go_upto_if 96 with fail
          go_cut [] (fun wx => Kept (LF w wx B g gr gz ⟨caps, cA, ck, flows, fA, fk⟩ rs fz s (lkArr ⟨caps, cA, ck, flows, fA, fk⟩ fz rs caps.length) (usArr ⟨caps, cA, ck, flows, fA, fk⟩ fz caps.length) b15 Rt (.slice none 0 0) []))
          case first =>
            by_cases hz : s.2.n = 0
            · have HRR : Kept (Rt = ⟨0, 1⟩) := ⟨by rw [HRS.out, if_pos hz]⟩
              have hz1 : (s.2.n == 0) = true := by rw [hz]; rfl
              have r0 := HV.out.2.1.cell 0 (v := .int .i64 s.2.n) rfl
              have r1 := HV.out.2.1.cell 1 (v := .int .i64 s.2.d) rfl
              have r2 := HV.out.2.1.free 0
              have r3 := HV.out.2.1.free 1
              have r4 := HV.out.2.1.lt
              clear hz
              go_wp2_with fail
              go_meet
              rw [HRR.out]
              exact ⟨⟨(HV.out.1.far HGS.out (p := ⟨b15, 0, none⟩) (by have := HV.out.2.2; simp only; omega) (.int .i64 0)).far HGS.out (p := ⟨b15, 1, none⟩) (by have := HV.out.2.2; simp only; omega) (.int .i64 1), (HV.out.2.1.set_ 0 _).to 1 _ rfl, World.ownsRow_nil _ _ _ _, by have := HV.out.2.2; omega⟩⟩
            · have HRR : Kept (Rt = s.2) := ⟨by rw [HRS.out, if_neg hz]⟩
              have hz1 : (s.2.n == 0) = false := beq_false_of_ne hz
              clear hz
              go_wp2_with fail
              go_meet
              rw [HRR.out]
              exact ⟨⟨HV.out.1, HV.out.2.1, World.ownsRow_nil _ _ _ _, by have := HV.out.2.2; omega⟩⟩
          case rest =>
            have HF := hcut
            clear hcut HV q0 q2
            have n0 := HF.out.lb.st.box.cell 0 rfl; have n1 := HF.out.lb.st.box.cell 1 rfl; have n2 := HF.out.lb.st.box.cell 2 rfl; have n3 := HF.out.lb.st.box.cell 3 rfl; dsimp only at n0 n1 n2 n3; have gl1 := HF.out.lb.st.box.lt; have gl2 := HF.out.lb.st.rz.lt; have gl3 := HF.out.lb.st.rr.lt
            go_wp2_with fail
            go_loopw [105] (fun v wr => ∃ k : Nat, k ≤ flows.length ∧ v = .int .i64 k ∧ ∃ (A : Option Addr) (kp : Nat), Kept (LF w wr B g gr gz ⟨caps, cA, ck, flows, fA, fk⟩ rs fz s (lkArr ⟨caps, cA, ck, flows, fA, fk⟩ fz rs caps.length) (usArr ⟨caps, cA, ck, flows, fA, fk⟩ fz caps.length) b15 Rt (.slice A (frzL ⟨caps, cA, ck, flows, fA, fk⟩ fz rs k).length kp) (frzL ⟨caps, cA, ck, flows, fA, fk⟩ fz rs k))) (fun v _ => flows.length - (intOf v).toNat)
            case atStart => exact ⟨0, Nat.zero_le _, rfl, none, 0, HF⟩
            case round =>
              clear HF n0 n1 n2 n3 gl1 gl2 gl3
              obtain ⟨k, hk, rfl, A, kp, HF⟩ := hrel
              have n0 := HF.out.lb.st.box.cell 0 rfl; have n1 := HF.out.lb.st.box.cell 1 rfl; have n2 := HF.out.lb.st.box.cell 2 rfl; have n3 := HF.out.lb.st.box.cell 3 rfl; dsimp only at n0 n1 n2 n3; have gl1 := HF.out.lb.st.box.lt; have gl2 := HF.out.lb.st.rz.lt; have gl3 := HF.out.lb.st.rr.lt
              obtain ⟨fl, hfl9⟩ : ∃ fl, fl = frzL ⟨caps, cA, ck, flows, fA, fk⟩ fz rs k := ⟨_, rfl⟩
              rw [← hfl9] at HF
              have HFK := Kept.mk hfl9
              clear hfl9
              by_cases hlt : k < flows.length
              · obtain ⟨p, bF, oF, hp, rfl, -, hb, ⟨c0, c1, c2, c3⟩, hfl⟩ := HF.out.lb.st.net.flowAt hlt
                obtain ⟨ls, pA, kap, pb, pd⟩ := p
                dsimp only at c0 c1 c2 c3
                obtain ⟨zb, hzb, z0⟩ := HF.out.lb.st.frozen hlt
                have HP := Kept.mk hp
                have HZB := Kept.mk hzb
                have HFL := Kept.mk hfl
                have HFO := Kept.mk (flo_of (n := ⟨caps, cA, ck, flows, some ⟨bF, oF, none⟩, fk⟩) hp)
                have hd64 := hfl.r64
                clear hp hfl

                have HF0 := Kept.mk (HF.out.alloc (.cells #[.slice pA ls.length kap, .bool pb, .int .i64 pd.n, .int .i64 pd.d] 37))
                have HB17 := Kept.mk (Blk.new wr 37 #[.slice pA ls.length kap, .bool pb, .int .i64 pd.n, .int .i64 pd.d])
                cases zb with
                | true =>
                  have HN : Kept (frzL ⟨caps, cA, ck, flows, some ⟨bF, oF, none⟩, fk⟩ fz rs (k + 1) = fl) := ⟨by rw [frzL, isF_of HZB.out, HFK.out]; rfl⟩
                  go_wp2_with fail
                  go_roundw
                  case rel => exact ⟨k + 1, by omega, by go_num, A, kp, by rw [HN.out]; exact HF0⟩
                  case measure => simp [intOf]; omega
                | false =>
                  go_upto_region 29 with fail
                  obtain ⟨V, hV, HV⟩ : ∃ V, V = wr.alloc (.cells #[.slice pA ls.length kap, .bool pb, .int .i64 pd.n, .int .i64 pd.d] 37) ∧ Kept (LF w V B g gr gz ⟨caps, cA, ck, flows, some ⟨bF, oF, none⟩, fk⟩ rs fz s (lkArr ⟨caps, cA, ck, flows, some ⟨bF, oF, none⟩, fk⟩ fz rs caps.length) (usArr ⟨caps, cA, ck, flows, some ⟨bF, oF, none⟩, fk⟩ fz caps.length) b15 Rt (.slice A fl.length kp) fl ∧ Blk V wr.heap.size 37 #[.slice pA ls.length kap, .bool pb, .int .i64 pd.n, .int .i64 pd.d]) := ⟨_, rfl, ⟨HF0.out, HB17.out⟩⟩
                  obtain ⟨b17, hb17⟩ : ∃ b, b = wr.heap.size := ⟨_, rfl⟩
                  rw [← hV, ← hb17]
                  rw [← hb17] at HV
                  clear hV hb17 HF0 HB17 HF n0 n1 n2 n3 gl1 gl2 gl3 c0 c1 c2 c3 z0
                  have q0 := HV.out.2.cell 0 (v := .slice pA ls.length kap) rfl
                  have q1 := HV.out.2.cell 1 (v := .bool pb) rfl
                  have q2 := HV.out.2.cell 2 (v := .int .i64 pd.n) rfl
                  have q3 := HV.out.2.cell 3 (v := .int .i64 pd.d) rfl
                  have q4 := HV.out.2.lt
                  have e0 := HV.out.1.lb.le.cell 0 (v := .int .i64 s.2.n) rfl
                  have e1 := HV.out.1.lb.le.cell 1 (v := .int .i64 s.2.d) rfl
                  have e2 := HV.out.1.lb.le.lt
                  go_cut [18] (fun v18 wx => ∃ h0 : Bool, v18 = .bool h0 ∧ Kept (h0 = (pb && cmpQ pd s.2 == 0)) ∧ Kept (LF w wx B g gr gz ⟨caps, cA, ck, flows, some ⟨bF, oF, none⟩, fk⟩ rs fz s (lkArr ⟨caps, cA, ck, flows, some ⟨bF, oF, none⟩, fk⟩ fz rs caps.length) (usArr ⟨caps, cA, ck, flows, some ⟨bF, oF, none⟩, fk⟩ fz caps.length) b15 Rt (.slice A fl.length kp) fl ∧ Blk wx b17 37 #[.slice pA ls.length kap, .bool pb, .int .i64 pd.n, .int .i64 pd.d]))
                  case first =>
                    cases pb with
                    | false =>
                      go_wp2_with fail
                      go_meet
                      exact ⟨false, rfl, ⟨rfl⟩, HV⟩
                    | true =>
                      have CM := fun w => cmp_c pd s.2 w hd64.1 hd64.2 HS64.out.1 HS64.out.2
                      unfold rqv at CM
                      obtain ⟨z, hz⟩ : ∃ z, cmpQ pd s.2 = z := ⟨_, rfl⟩
                      rw [hz] at CM
                      have HZ := Kept.mk hz
                      clear hz
                      obtain ⟨h0, hh0⟩ : ∃ h0, (z == 0) = h0 := ⟨_, rfl⟩
                      go_wp2_with (go_at_call 9; refine (CM _).mono ?_; rintro e wq ⟨rfl, hbq⟩; have HVQ : Kept (LF w wq B g gr gz ⟨caps, cA, ck, flows, some ⟨bF, oF, none⟩, fk⟩ rs fz s (lkArr ⟨caps, cA, ck, flows, some ⟨bF, oF, none⟩, fk⟩ fz rs caps.length) (usArr ⟨caps, cA, ck, flows, some ⟨bF, oF, none⟩, fk⟩ fz caps.length) b15 Rt (.slice A fl.length kp) fl ∧ Blk wq b17 37 #[.slice pA ls.length kap, .bool true, .int .i64 pd.n, .int .i64 pd.d]) := ⟨HV.out.1.new_ hbq, HV.out.2.new_ hbq⟩; clear hbq)
                      go_meet
                      exact ⟨h0, by rw [← hh0], ⟨by rw [HZ.out, hh0]; rfl⟩, HVQ⟩
                  case rest =>
                    obtain ⟨h0, rfl, HH0, HX⟩ := hcut
                    clear HV q0 q1 q2 q3 q4 e0 e1 e2
                    have q0 := HX.out.2.cell 0 (v := .slice pA ls.length kap) rfl
                    have q4 := HX.out.2.lt
                    have hlm : ls.length ≤ 9223372036854775807 := by have h1 := HFL.out.le; have h2 := HFL.out.mx; unfold maxLen at h2; dsimp only at h1 h2; omega
                    go_wp2_with fail
                    go_loopw [18, 129] (fun v18 v wr => ∃ j : Nat, j ≤ ls.length ∧ v = .int .i64 j ∧ ∃ h : Bool, v18 = .bool h ∧ Kept (h = (h0 || (ls.take j).any (linkEq ⟨caps, cA, ck, flows, some ⟨bF, oF, none⟩, fk⟩ fz rs))) ∧ Kept (LF w wr B g gr gz ⟨caps, cA, ck, flows, some ⟨bF, oF, none⟩, fk⟩ rs fz s (lkArr ⟨caps, cA, ck, flows, some ⟨bF, oF, none⟩, fk⟩ fz rs caps.length) (usArr ⟨caps, cA, ck, flows, some ⟨bF, oF, none⟩, fk⟩ fz caps.length) b15 Rt (.slice A fl.length kp) fl ∧ Blk wr b17 37 #[.slice pA ls.length kap, .bool pb, .int .i64 pd.n, .int .i64 pd.d])) (fun _ v _ => ls.length - (intOf v).toNat)
                    case atStart => exact ⟨0, Nat.zero_le _, rfl, h0, rfl, ⟨by simp⟩, HX⟩
                    case round =>
                      clear HX q0 q4
                      obtain ⟨j, hj, rfl, h, rfl, HH, HX⟩ := hrel
                      by_cases hjl : j < ls.length
                      · obtain ⟨xi, bL, oL, hx, rfl, -, hbL, c0⟩ := (HX.out.1.lb.st.net.fl _ (List.mem_of_getElem? HP.out)).link hjl
                        dsimp only at hx
                        have hxr := HLR.out _ (List.mem_of_getElem? HP.out) xi (List.mem_of_getElem? hx)
                        obtain ⟨x, rfl⟩ : ∃ x : Nat, xi = x := ⟨xi.toNat, by omega⟩
                        have hxl : x < caps.length := by omega
                        have HTK := Kept.mk (take_next hx)
                        have q0 := HX.out.2.cell 0 (v := .slice (some ⟨bL, oL, none⟩) ls.length kap) rfl
                        clear hx hxr
                        cases h with
                        | true =>
                          have HN : Kept (true = (h0 || (ls.take (j + 1)).any (linkEq ⟨caps, cA, ck, flows, some ⟨bF, oF, none⟩, fk⟩ fz rs))) := ⟨by rw [HTK.out, List.any_append, ← Bool.or_assoc, ← HH.out]; rfl⟩
                          go_upto_region 33 with fail
                          go_quiet (fail)
                          go_wp2_with fail
                          go_roundw
                          case rel => exact ⟨j + 1, by omega, by go_num, true, rfl, HN, ⟨HX.out.1.new_ (dN (Below.refl _ _) nq), HX.out.2.drewN nq⟩⟩
                          case measure => simp [intOf]; omega
                        | false =>
                          obtain ⟨u, hu⟩ : ∃ u, u = usedB ⟨caps, cA, ck, flows, some ⟨bF, oF, none⟩, fk⟩ fz x := ⟨_, rfl⟩
                          have HU9 : Kept ((usArr ⟨caps, cA, ck, flows, some ⟨bF, oF, none⟩, fk⟩ fz caps.length)[x]? = some u) := ⟨by rw [usArr_get (n := ⟨caps, cA, ck, flows, some ⟨bF, oF, none⟩, fk⟩) hxl, decide_eq_true hxl, hu]; rfl⟩
                          obtain ⟨X, hX⟩ : ∃ X, X = if u then cq (candQ ⟨caps, cA, ck, flows, some ⟨bF, oF, none⟩, fk⟩ fz rs x) else ⟨0, 0⟩ := ⟨_, rfl⟩
                          have HL9 : Kept ((lkArr ⟨caps, cA, ck, flows, some ⟨bF, oF, none⟩, fk⟩ fz rs caps.length)[x]? = some X) := ⟨by rw [lkArr_get (n := ⟨caps, cA, ck, flows, some ⟨bF, oF, none⟩, fk⟩) hxl, decide_eq_true hxl, hX, hu]; rfl⟩
                          obtain ⟨x2, x0, x1, e0, e1⟩ := lb_keep HX.out.1.lb HL9.out HU9.out
                          have xl := HX.out.1.lb.us.lt
                          cases u with
                          | false =>
                            have HN : Kept (false = (h0 || (ls.take (j + 1)).any (linkEq ⟨caps, cA, ck, flows, some ⟨bF, oF, none⟩, fk⟩ fz rs))) := ⟨by
                              rw [HTK.out, List.any_append, ← Bool.or_assoc, ← HH.out, List.any_cons, List.any_nil]
                              unfold linkEq
                              rw [Int.toNat_natCast, ← hu]
                              rfl⟩
                            clear hu hX
                            go_upto_region 33 with fail
                            go_quiet (fail)
                            go_wp2_with fail
                            go_roundw
                            case rel => exact ⟨j + 1, by omega, by go_num, false, rfl, HN, ⟨HX.out.1.new_ (dN (Below.refl _ _) nq), HX.out.2.drewN nq⟩⟩
                            case measure => simp [intOf]; omega
                          | true =>
                            have hX64 : R64 X.n ∧ R64 X.d := by rw [hX]; exact sm_64 (HSM.out x hxl hu.symm)
                            have CM := fun w => cmp_c X s.2 w hX64.1 hX64.2 HS64.out.1 HS64.out.2
                            unfold rqv at CM
                            obtain ⟨z, hz⟩ : ∃ z, cmpQ X s.2 = z := ⟨_, rfl⟩
                            rw [hz] at CM
                            obtain ⟨hn, hhn⟩ : ∃ hn, (z == 0) = hn := ⟨_, rfl⟩
                            have HN : Kept (hn = (h0 || (ls.take (j + 1)).any (linkEq ⟨caps, cA, ck, flows, some ⟨bF, oF, none⟩, fk⟩ fz rs))) := ⟨by
                              rw [HTK.out, List.any_append, ← Bool.or_assoc, ← HH.out, List.any_cons, List.any_nil]
                              unfold linkEq
                              rw [Int.toNat_natCast, ← hu, HLQ.out]
                              have hX' : cq (candQ ⟨caps, cA, ck, flows, some ⟨bF, oF, none⟩, fk⟩ fz rs x) = X := by rw [hX]; rfl
                              rw [hX', hz, hhn]
                              simp⟩
                            have HX1 : Kept (LF w (wr.drewN 1) B g gr gz ⟨caps, cA, ck, flows, some ⟨bF, oF, none⟩, fk⟩ rs fz s (lkArr ⟨caps, cA, ck, flows, some ⟨bF, oF, none⟩, fk⟩ fz rs caps.length) (usArr ⟨caps, cA, ck, flows, some ⟨bF, oF, none⟩, fk⟩ fz caps.length) b15 Rt (.slice A fl.length kp) fl ∧ Blk (wr.drewN 1) b17 37 #[.slice (some ⟨bL, oL, none⟩) ls.length kap, .bool pb, .int .i64 pd.n, .int .i64 pd.d]) := ⟨HX.out.1.new_ (dN (Below.refl _ _) 1), HX.out.2.drewN 1⟩
                            clear hu hX hz
                            go_upto_region 33 with fail
                            refine wp_region_held_drew (S := fun w' => w'.cell? ⟨w.heap.size + 4, x, none⟩ = some (.bool true) ∧ w'.cell? ⟨w.heap.size + 3, x * 2, none⟩ = some (.int .i64 X.n) ∧ w'.cell? ⟨w.heap.size + 3, x * 2 + 1, none⟩ = some (.int .i64 X.d) ∧ w'.cell? ⟨w.heap.size + 1, 0, none⟩ = some (.int .i64 s.2.n) ∧ w'.cell? ⟨w.heap.size + 1, 1, none⟩ = some (.int .i64 s.2.d)) (by kernel_rfl) (by (try dsimp only); (first | exact lb_keep HX2.out.1.lb HL9.out HU9.out | exact lb_keep HX1.out.1.lb HL9.out HU9.out)) (fun hHeld => ?_)
                            refine wpAnyH_take (i := 0) (v := ?_) rfl (by kernel_rfl) (by kernel_rfl) (by kernel_rfl) (fun _ _ _ h => h) (Or.inl ⟨by rfl, ?_⟩) (by assumption) ?_; rotate_left; (intro w hSw; (try dsimp only at hSw); go_simp; try (with_reducible rfl)); try simp only [Act.put, List.setIfInBounds_toArray, List.set_cons_zero, List.set_cons_succ, List.getElem_toArray, List.getElem_cons_succ, List.getElem_cons_zero]
                            refine wpAnyH_take (i := 1) (v := ?_) rfl (by kernel_rfl) (by kernel_rfl) (by kernel_rfl) (fun _ _ _ h => h) (Or.inl ⟨by rfl, ?_⟩) (by assumption) ?_; rotate_left; (intro w hSw; (try dsimp only at hSw); go_simp; try (with_reducible rfl)); try simp only [Act.put, List.setIfInBounds_toArray, List.set_cons_zero, List.set_cons_succ, List.getElem_toArray, List.getElem_cons_succ, List.getElem_cons_zero]
                            refine wpAnyH_take (i := 2) (v := ?_) rfl (by kernel_rfl) (by kernel_rfl) (by kernel_rfl) (fun _ _ _ h => h) (Or.inl ⟨by rfl, ?_⟩) (by assumption) ?_; rotate_left; (intro w hSw; (try dsimp only at hSw); go_simp; try (with_reducible rfl)); try simp only [Act.put, List.setIfInBounds_toArray, List.set_cons_zero, List.set_cons_succ, List.getElem_toArray, List.getElem_cons_succ, List.getElem_cons_zero]
                            refine wpAnyH_take (i := 3) (v := ?_) rfl (by kernel_rfl) (by kernel_rfl) (by kernel_rfl) (fun _ _ _ h => h) (Or.inl ⟨by rfl, ?_⟩) (by assumption) ?_; rotate_left; (intro w hSw; (try dsimp only at hSw); go_simp; try (with_reducible rfl)); try simp only [Act.put, List.setIfInBounds_toArray, List.set_cons_zero, List.set_cons_succ, List.getElem_toArray, List.getElem_cons_succ, List.getElem_cons_zero]
                            refine wpAnyH_take (i := 4) (v := ?_) rfl (by kernel_rfl) (by kernel_rfl) (by kernel_rfl) (fun _ _ _ h => h) (Or.inl ⟨by rfl, ?_⟩) (by assumption) ?_; rotate_left; (intro w hSw; (try dsimp only at hSw); go_simp; try (with_reducible rfl)); try simp only [Act.put, List.setIfInBounds_toArray, List.set_cons_zero, List.set_cons_succ, List.getElem_toArray, List.getElem_cons_succ, List.getElem_cons_zero]
                            refine wpAnyH_take (i := 5) (v := ?_) rfl (by kernel_rfl) (by kernel_rfl) (by kernel_rfl) (fun _ _ _ h => h) (Or.inl ⟨by rfl, ?_⟩) (by assumption) ?_; rotate_left; (intro w hSw; (try dsimp only at hSw); go_simp; try (with_reducible rfl)); try simp only [Act.put, List.setIfInBounds_toArray, List.set_cons_zero, List.set_cons_succ, List.getElem_toArray, List.getElem_cons_succ, List.getElem_cons_zero]
                            refine wpAnyH_take (i := 6) (v := ?_) rfl (by kernel_rfl) (by kernel_rfl) (by kernel_rfl) (fun _ _ _ h => h) (Or.inl ⟨by rfl, ?_⟩) (by assumption) ?_; rotate_left; (intro w hSw; (try dsimp only at hSw); go_simp; try (with_reducible rfl)); try simp only [Act.put, List.setIfInBounds_toArray, List.set_cons_zero, List.set_cons_succ, List.getElem_toArray, List.getElem_cons_succ, List.getElem_cons_zero]
                            refine wpAnyH_take (i := 7) (v := ?_) rfl (by kernel_rfl) (by kernel_rfl) (by kernel_rfl) (fun _ _ _ h => h) (Or.inl ⟨by rfl, ?_⟩) (by assumption) ?_; rotate_left; (intro w hSw; (try dsimp only at hSw); go_simp; try (with_reducible rfl)); try simp only [Act.put, List.setIfInBounds_toArray, List.set_cons_zero, List.set_cons_succ, List.getElem_toArray, List.getElem_cons_succ, List.getElem_cons_zero]
                            refine wpAnyH_take (i := 8) (v := ?_) rfl (by kernel_rfl) (by kernel_rfl) (by kernel_rfl) (fun _ _ _ h => h) (Or.inl ⟨by rfl, ?_⟩) (by assumption) ?_; rotate_left; (intro w hSw; (try dsimp only at hSw); go_simp; try (with_reducible rfl)); try simp only [Act.put, List.setIfInBounds_toArray, List.set_cons_zero, List.set_cons_succ, List.getElem_toArray, List.getElem_cons_succ, List.getElem_cons_zero]
                            refine wpAnyH_take (i := 9) (v := ?_) rfl (by kernel_rfl) (by kernel_rfl) (by kernel_rfl) (fun _ _ _ h => h) (Or.inl ⟨by rfl, ?_⟩) (by assumption) ?_; rotate_left; (intro w hSw; (try dsimp only at hSw); go_simp; try (with_reducible rfl)); try simp only [Act.put, List.setIfInBounds_toArray, List.set_cons_zero, List.set_cons_succ, List.getElem_toArray, List.getElem_cons_succ, List.getElem_cons_zero]
                            refine wpAnyH_take (i := 10) (v := ?_) rfl (by kernel_rfl) (by kernel_rfl) (by kernel_rfl) (fun _ _ _ h => h) (Or.inl ⟨by rfl, ?_⟩) (by assumption) ?_; rotate_left; (intro w hSw; (try dsimp only at hSw); go_simp; try (with_reducible rfl)); try simp only [Act.put, List.setIfInBounds_toArray, List.set_cons_zero, List.set_cons_succ, List.getElem_toArray, List.getElem_cons_succ, List.getElem_cons_zero]
                            refine wpAnyH_take (i := 11) (v := ?_) rfl (by kernel_rfl) (by kernel_rfl) (by kernel_rfl) (fun _ _ _ h => h) (Or.inl ⟨by rfl, ?_⟩) (by assumption) ?_; rotate_left; (intro w hSw; (try dsimp only at hSw); go_simp; try (with_reducible rfl)); try simp only [Act.put, List.setIfInBounds_toArray, List.set_cons_zero, List.set_cons_succ, List.getElem_toArray, List.getElem_cons_succ, List.getElem_cons_zero]
                            refine wpAnyH_ready (rs := [12]) (by kernel_rfl) (by simp) ?_; refine AllReadyH.cons rfl (fun K hK => ?_) AllReadyH.nil; go_simp
                            refine (CM _).mono ?_; rintro e wq ⟨rfl, hbq⟩; have HX2 : Kept (LF w wq B g gr gz ⟨caps, cA, ck, flows, some ⟨bF, oF, none⟩, fk⟩ rs fz s (lkArr ⟨caps, cA, ck, flows, some ⟨bF, oF, none⟩, fk⟩ fz rs caps.length) (usArr ⟨caps, cA, ck, flows, some ⟨bF, oF, none⟩, fk⟩ fz caps.length) b15 Rt (.slice A fl.length kp) fl ∧ Blk wq b17 37 #[.slice (some ⟨bL, oL, none⟩) ls.length kap, .bool pb, .int .i64 pd.n, .int .i64 pd.d]) := ⟨HX1.out.1.new_ hbq, HX1.out.2.new_ hbq⟩; clear hbq
                            try go_wp2_with fail
                            refine hK.out _ _ (by (try dsimp only); (first | exact lb_keep HX2.out.1.lb HL9.out HU9.out | exact lb_keep HX1.out.1.lb HL9.out HU9.out)) (fun hHeld => ?_); clear hK K; try simp only [Act.put, List.setIfInBounds_toArray, List.set_cons_zero, List.set_cons_succ, List.getElem_toArray, List.getElem_cons_succ, List.getElem_cons_zero]
                            refine wpAnyH_take (i := 13) (v := ?_) rfl (by kernel_rfl) (by kernel_rfl) (by kernel_rfl) (fun _ _ _ h => h) (Or.inl ⟨by rfl, ?_⟩) (by assumption) ?_; rotate_left; (intro w hSw; (try dsimp only at hSw); go_simp; try (with_reducible rfl)); try simp only [Act.put, List.setIfInBounds_toArray, List.set_cons_zero, List.set_cons_succ, List.getElem_toArray, List.getElem_cons_succ, List.getElem_cons_zero]
                            refine wpAnyH_take (i := 14) (v := ?_) rfl (by kernel_rfl) (by kernel_rfl) (by kernel_rfl) (fun _ _ _ h => h) (Or.inl ⟨by rfl, ?_⟩) (by assumption) ?_; rotate_left; (intro w hSw; (try dsimp only at hSw); go_simp; try (with_reducible rfl)); try simp only [Act.put, List.setIfInBounds_toArray, List.set_cons_zero, List.set_cons_succ, List.getElem_toArray, List.getElem_cons_succ, List.getElem_cons_zero]
                            refine wpAnyH_take (i := 15) (v := ?_) rfl (by kernel_rfl) (by kernel_rfl) (by kernel_rfl) (fun _ _ _ h => h) (Or.inl ⟨by rfl, ?_⟩) (by assumption) ?_; rotate_left; (intro w hSw; (try dsimp only at hSw); go_simp; try (with_reducible rfl)); try simp only [Act.put, List.setIfInBounds_toArray, List.set_cons_zero, List.set_cons_succ, List.getElem_toArray, List.getElem_cons_succ, List.getElem_cons_zero]
                            refine wpAnyH_take (i := 16) (v := ?_) rfl (by kernel_rfl) (by kernel_rfl) (by kernel_rfl) (fun _ _ _ h => h) (Or.inl ⟨by rfl, ?_⟩) (by assumption) ?_; rotate_left; (intro w hSw; (try dsimp only at hSw); go_simp; try (with_reducible rfl)); try simp only [Act.put, List.setIfInBounds_toArray, List.set_cons_zero, List.set_cons_succ, List.getElem_toArray, List.getElem_cons_succ, List.getElem_cons_zero]
                            refine wpAnyH_done (by kernel_rfl) ?_ _
                            go_wp2_with fail
                            go_roundw
                            case rel => exact ⟨j + 1, by omega, by go_num, hn, by first | rfl | rw [hhn], HN, HX2⟩
                            case measure => simp [intOf]; omega
                      · obtain rfl : j = ls.length := by omega
                        have HHB : Kept (hereB ⟨caps, cA, ck, flows, some ⟨bF, oF, none⟩, fk⟩ fz rs ⟨ls, pA, kap, pb, pd⟩ = h) := ⟨by
                          have e := HH.out
                          rw [List.take_length] at e
                          rw [e, HH0.out]
                          unfold hereB
                          rw [HLQ.out]⟩
                        clear hjl
                        cases h with
                        | false =>
                          have HN : Kept (frzL ⟨caps, cA, ck, flows, some ⟨bF, oF, none⟩, fk⟩ fz rs (k + 1) = fl) := ⟨by rw [frzL, isF_of HZB.out, HFO.out, HHB.out, HFK.out]; rfl⟩
                          go_wp2_with fail
                          go_roundw
                          case rel => exact ⟨k + 1, by omega, by go_num, A, kp, by rw [HN.out]; exact ⟨HX.out.1⟩⟩
                          case measure => simp [intOf]; omega
                        | true =>
                          have HN : Kept (frzL ⟨caps, cA, ck, flows, some ⟨bF, oF, none⟩, fk⟩ fz rs (k + 1) = fl ++ [(k : Int)]) := ⟨by rw [frzL, isF_of HZB.out, HFO.out, HHB.out, HFK.out]; rfl⟩
                          have hfl5 : fl.length ≤ 5 := by
                            have := frzL_len ⟨caps, cA, ck, flows, some ⟨bF, oF, none⟩, fk⟩ fz rs k
                            rw [← HFK.out] at this
                            omega
                          obtain ⟨i4, hi4, hz0, hz1, hz2⟩ := info_parts infoI
                          have HOA := Kept.mk (HX.out.1.alloc (.cells #[.int .i64 (k : Int)] 3))
                          have HRL := Kept.mk (reads_made wr #[.int .i64 (k : Int)] 3 1 1 rfl)
                          have t0 := HX.out.1.bx.cell 2 (v := .slice A fl.length kp) rfl
                          have t1 := HX.out.1.bx.lt
                          go_wp2_with (at_builtin; refine wpList_append_any _ rfl _ _ _ rfl (b15 + 1) 3 i4 _ 1 8 Try.underlying35 hi4 hz0 hz1 hz2 rfl (by omega) _ fl.length _ rfl HOA.out.own _ _ 1 1 _ rfl HRL.out (fun u hu => by simp at hu; subst hu; rfl) (by unfold maxLen; omega) (by omega) (by simp only [World.size_alloc]; omega) ?_; intro v' w9 ho hgw hat; obtain ⟨A2, k2, rfl⟩ := own_slice ho; have HO9 := Kept.mk ho; have HG9 := Kept.mk hgw; have HBX9 := Kept.mk (HOA.out.bx.grown hgw (fun e => by have := (HOA.out.own.lt b15 e.symm).1; omega)); clear ho hgw hat t0 t1; have t0 := HBX9.out.cell 2 (v := .slice A fl.length kp) rfl; have t2 := HBX9.out.free 2; have t1 := HBX9.out.lt)
                          go_roundw
                          case rel => exact ⟨k + 1, by omega, by go_num, A2, k2, by rw [HN.out, List.length_append]; exact ⟨HOA.out.grow HGS.out HO9.out HG9.out⟩⟩
                          case measure => simp [intOf]; omega
              · obtain rfl : k = flows.length := by omega
                have HFE : Kept (fl = FL) := ⟨by rw [HFK.out, HFLL.out]⟩
                clear hlt
                obtain rfl := HFE.out
                have t0 := HF.out.bx.cell 0 (v := .int .i64 Rt.n) rfl
                have t1 := HF.out.bx.cell 1 (v := .int .i64 Rt.d) rfl
                have t2 := HF.out.bx.cell 2 (v := .slice A fl.length kp) rfl
                have t3 := HF.out.bx.lt
                have r0 := HF.out.lb.r.cell 0 (v := .int .i64 0) rfl
                have r1 := HF.out.lb.r.cell 1 (v := .int .i64 0) rfl
                have r2 := HF.out.lb.r.cell 2 (v := .slice none 0 0) rfl
                have rf0 := HF.out.lb.r.free 0
                have rf1 := HF.out.lb.r.free 1
                have rf2 := HF.out.lb.r.free 2
                have rl := HF.out.lb.r.lt
                go_wp2_with fail
                obtain ⟨W9, hW9, s0, s1, s2, hb, hh, hsz⟩ := HF.out.lb.fin (.int .i64 Rt.n) (.int .i64 Rt.d) (.slice A fl.length kp)
                rw [← hW9]
                clear hW9
                exact bodyPost_ret (v := .tuple #[.agg #[.int .i64 Rt.n, .int .i64 Rt.d, .slice A fl.length kp], .int .i64 0]) (by simp [results, Try.results55, go_sem, s0, s1, s2]) rfl ⟨A, kp, rfl, own_base (own_move HF.out.own fun q hq => hh q (by have := (HF.out.own.lt q hq).1; have := HF.out.hb; omega)) (by have := HF.out.hb; omega), hb⟩
end Go.Proofs.Ytjalegdfofogcaa
