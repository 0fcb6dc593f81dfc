/- share.Level: the level of a link. -/
import Derived.Test.YtjalegdfofogcaaLvlQ
namespace Go.Proofs.Ytjalegdfofogcaa
set_option linter.unusedVariables false
set_option linter.unusedSimpArgs false
open Go.RowKit
set_option maxHeartbeats 4000000 in
theorem inr_c (c : Rq) (w : World) (hc : capOk c = true) : Calls Try.prog 71 #[rqv c] w fun e w' => e = .returned (.bool true) ∧ Below w.heap.size w w' := by
  unfold capOk at hc
  rw [Bool.and_eq_true, Bool.and_eq_true, decide_eq_true_eq, decide_eq_true_eq] at hc
  have h64 := okQ_R64 hc.1
  have CM := fun w => cmp_c c ⟨1000, 1⟩ w h64.1 h64.2 (by unfold R64; dsimp only; omega) (by unfold R64; dsimp only; omega)
  obtain ⟨z, hz⟩ : ∃ z, z = cmpQ c ⟨1000, 1⟩ := ⟨_, rfl⟩
  rw [← hz] at CM hc
  have h0 : decide (0 ≤ c.n) = true := decide_eq_true hc.2.1
  have h1 : decide (z ≤ 0) = true := decide_eq_true hc.2.2
  unfold rqv at CM ⊢
  dsimp only at CM
  have HB : Kept (Below w.heap.size w (w.alloc (.cells #[.int .i64 c.n, .int .i64 c.d] 32))) := ⟨by go_grown⟩
  clear hc hz h64
  go_enter Try.func71, Try.ntmps71
  go_wp2_with (go_at_call 9; refine (CM _).mono ?_; rintro e w1 ⟨rfl, hb1⟩; have HB1 := Kept.mk (join HB.out hb1); clear hb1)
  go_ret
  exact ⟨rfl, HB1.out⟩
theorem okQ_d0 {r : Rq} (h : okQ r = true) (hd : r.d = 0) : r.n = 0 := by
  unfold okQ at h
  rw [hd] at h
  simp at h
  exact h
set_option maxHeartbeats 4000000 in
theorem plain_c (r : Rq) (w : World) (hr : okQ r = true) : Calls Try.prog 72 #[rqv r] w fun e w' => e = .returned (rqv (normQ r)) ∧ Below w.heap.size w w' := by
  have HX : Kept (Blk ((w.alloc (.cells #[.int .i64 r.n, .int .i64 r.d] 32)).alloc (.cells #[.int .i64 0, .int .i64 0] 32)) w.heap.size 32 #[.int .i64 r.n, .int .i64 r.d]) := ⟨(Blk.new _ _ _).alloc _⟩
  have HZ : Kept (Blk ((w.alloc (.cells #[.int .i64 r.n, .int .i64 r.d] 32)).alloc (.cells #[.int .i64 0, .int .i64 0] 32)) (w.heap.size + 1) 32 #[.int .i64 0, .int .i64 0]) := ⟨by
    have := Blk.new (w.alloc (.cells #[.int .i64 r.n, .int .i64 r.d] 32)) 32 #[.int .i64 0, .int .i64 0]
    rwa [World.size_alloc] at this⟩
  have HB : Kept (Below w.heap.size w ((w.alloc (.cells #[.int .i64 r.n, .int .i64 r.d] 32)).alloc (.cells #[.int .i64 0, .int .i64 0] 32))) := ⟨by go_grown⟩
  by_cases hd : r.d = 0
  · have hn := okQ_d0 hr hd
    have HN : Kept (normQ r = ⟨0, 1⟩) := ⟨by unfold normQ; rw [if_pos hd, hn]⟩
    rw [HN.out]
    obtain ⟨rn, rd⟩ := r
    dsimp only at hd hn
    subst hd hn
    unfold rqv
    dsimp only at HX HZ HB ⊢
    obtain ⟨U, hU⟩ : ∃ U, U = (w.alloc (.cells #[.int .i64 0, .int .i64 0] 32)).alloc (.cells #[.int .i64 0, .int .i64 0] 32) := ⟨_, rfl⟩
    rw [← hU] at HX HZ HB
    go_enter Try.func72, Try.ntmps72
    go_upto_region 1 with fail
    rw [← hU]
    clear hU hr
    have x1 := HX.out.cell 1 (v := .int .i64 0) rfl
    have z0 := HZ.out.cell 0 (v := .int .i64 0) rfl
    have z1 := HZ.out.cell 1 (v := .int .i64 0) rfl
    have f0 := HZ.out.free 0
    have f1 := HZ.out.free 1
    have l1 := HX.out.lt
    have l2 := HZ.out.lt
    go_wp2_with fail
    obtain ⟨W9, hW9, s0, s1, hb⟩ : ∃ W', W' = (U.setCell ⟨w.heap.size + 1, 0, none⟩ (.int .i64 0)).setCell ⟨w.heap.size + 1, 1, none⟩ (.int .i64 1) ∧ W'.cell? ⟨w.heap.size + 1, 0, none⟩ = some (.int .i64 0) ∧ W'.cell? ⟨w.heap.size + 1, 1, none⟩ = some (.int .i64 1) ∧ Below w.heap.size w W' := by
      have hb : Blk ((U.setCell ⟨w.heap.size + 1, 0, none⟩ (.int .i64 0)).setCell ⟨w.heap.size + 1, 1, none⟩ (.int .i64 1)) (w.heap.size + 1) 32 #[.int .i64 0, .int .i64 1] := (HZ.out.set_ 0 (.int .i64 0)).to 1 (.int .i64 1) rfl
      exact ⟨_, rfl, hb.cell 0 rfl, hb.cell 1 rfl, (HB.out.setCell (by simp only; omega) _).setCell (by simp only; omega) _⟩
    rw [← hW9]
    clear hW9
    exact bodyPost_ret (v := .agg #[.int .i64 0, .int .i64 1]) (by simp [results, Try.results72, go_sem, s0, s1]) rfl ⟨rfl, hb⟩
  · have HN : Kept (normQ r = r) := ⟨by unfold normQ; rw [if_neg hd]⟩
    rw [HN.out]
    have hdz : (r.d == 0) = false := beq_false_of_ne hd
    unfold rqv
    obtain ⟨U, hU⟩ : ∃ U, U = (w.alloc (.cells #[.int .i64 r.n, .int .i64 r.d] 32)).alloc (.cells #[.int .i64 0, .int .i64 0] 32) := ⟨_, rfl⟩
    rw [← hU] at HX HZ HB
    go_enter Try.func72, Try.ntmps72
    go_upto_region 1 with fail
    rw [← hU]
    clear hU hr
    have x0 := HX.out.cell 0 (v := .int .i64 r.n) rfl
    have x1 := HX.out.cell 1 (v := .int .i64 r.d) rfl
    have z0 := HZ.out.cell 0 (v := .int .i64 0) rfl
    have z1 := HZ.out.cell 1 (v := .int .i64 0) rfl
    have f0 := HZ.out.free 0
    have f1 := HZ.out.free 1
    have l1 := HX.out.lt
    have l2 := HZ.out.lt
    go_wp2_with fail
    obtain ⟨W9, hW9, s0, s1, hb⟩ : ∃ W', W' = (U.setCell ⟨w.heap.size + 1, 0, none⟩ (.int .i64 r.n)).setCell ⟨w.heap.size + 1, 1, none⟩ (.int .i64 r.d) ∧ W'.cell? ⟨w.heap.size + 1, 0, none⟩ = some (.int .i64 r.n) ∧ W'.cell? ⟨w.heap.size + 1, 1, none⟩ = some (.int .i64 r.d) ∧ Below w.heap.size w W' := by
      have hb : Blk ((U.setCell ⟨w.heap.size + 1, 0, none⟩ (.int .i64 r.n)).setCell ⟨w.heap.size + 1, 1, none⟩ (.int .i64 r.d)) (w.heap.size + 1) 32 #[.int .i64 r.n, .int .i64 r.d] := (HZ.out.set_ 0 (.int .i64 r.n)).to 1 (.int .i64 r.d) rfl
      exact ⟨_, rfl, hb.cell 0 rfl, hb.cell 1 rfl, (HB.out.setCell (by simp only; omega) _).setCell (by simp only; omega) _⟩
    rw [← hW9]
    clear hW9
    exact bodyPost_ret (v := .agg #[.int .i64 r.n, .int .i64 r.d]) (by simp [results, Try.results72, go_sem, s0, s1]) rfl ⟨rfl, hb⟩
/-- Level's boxes and row. -/
structure LvB (w W : World) (c : Rq) (gS : Nat) (S : List Rq) : Prop where
  x : Blk W w.heap.size 32 #[.int .i64 c.n, .int .i64 c.d]
  z : Blk W (w.heap.size + 1) 32 #[.int .i64 0, .int .i64 0]
  row : RowBlk W gS 32 ccell S
  blw : Below w.heap.size w W
  lo : w.heap.size + 1 < gS
/-- .. before the row is made. -/
structure LvX (w W : World) (c : Rq) : Prop where
  x : Blk W w.heap.size 32 #[.int .i64 c.n, .int .i64 c.d]
  z : Blk W (w.heap.size + 1) 32 #[.int .i64 0, .int .i64 0]
  blw : Below w.heap.size w W
theorem LvX.start (w : World) (c : Rq) : LvX w ((w.alloc (.cells #[.int .i64 c.n, .int .i64 c.d] 32)).alloc (.cells #[.int .i64 0, .int .i64 0] 32)) c := by
  have := Blk.new (w.alloc (.cells #[.int .i64 c.n, .int .i64 c.d] 32)) 32 #[.int .i64 0, .int .i64 0]
  rw [World.size_alloc] at this
  exact ⟨(Blk.new _ _ _).alloc _, this, by go_grown⟩
theorem val_eq_div {r : Rq} (h : okQ r = true) : val r * ((normQ r).d.toNat : Rat) = (r.n : Rat) ∧ 0 < (normQ r).d.toNat := by
  have hb := okQ_bd h
  refine ⟨?_, by omega⟩
  rw [← val_norm h]
  have hn : (normQ r).n = r.n := by unfold normQ; split <;> rfl
  rw [← hn]
  unfold val
  rw [Rat.mkRat_eq_div]
  exact Rat.div_mul_cancel (by
    have : (0 : Rat) < ((normQ r).d.toNat : Rat) := Rat.natCast_pos.2 (by omega)
    grind)
theorem val_pos {r : Rq} (h : okQ r = true) (hn : 0 ≤ r.n) : 0 ≤ val r := by
  obtain ⟨h1, h2⟩ := val_eq_div h
  refine Classical.byContradiction fun hc => ?_
  have hc : val r < 0 := by grind
  have h3 := Rat.mul_lt_mul_of_pos_right hc (Rat.natCast_pos.2 h2)
  rw [h1, Rat.zero_mul] at h3
  have h4 : (0 : Rat) ≤ (r.n : Rat) := Rat.intCast_nonneg.2 hn
  grind
theorem val_gt {r : Rq} (h : okQ r = true) (hn : 0 < r.n) : 0 < val r := by
  obtain ⟨h1, h2⟩ := val_eq_div h
  refine Classical.byContradiction fun hc => ?_
  have hc : val r ≤ 0 := by grind
  have h3 := Rat.mul_le_mul_of_nonneg_right hc (Rat.le_of_lt (Rat.natCast_pos.2 h2))
  rw [h1, Rat.zero_mul] at h3
  have h4 : (0 : Rat) < (r.n : Rat) := Rat.intCast_pos.2 hn
  grind
theorem val_le {r : Rq} (h : okQ r = true) (hn : r.n ≤ 0) : val r ≤ 0 := by
  obtain ⟨h1, h2⟩ := val_eq_div h
  refine Classical.byContradiction fun hc => ?_
  have hc : 0 < val r := by grind
  have h3 := Rat.mul_lt_mul_of_pos_right hc (Rat.natCast_pos.2 h2)
  rw [h1, Rat.zero_mul] at h3
  have h4 : (r.n : Rat) ≤ 0 := Rat.intCast_nonpos.2 hn
  grind
theorem okQ_norm {r : Rq} (h : okQ r = true) : okQ (normQ r) = true := by
  unfold normQ
  split
  · rename_i hd
    have hn := okQ_d0 h hd
    rw [hn]
    rfl
  · exact h
theorem fits_cq {x : Rat} (h : okQ (cq x) = true) : fitsR x = true := by
  have hb := okQ_bd h
  have hn : normQ (cq x) = cq x := by
    unfold normQ
    rw [if_neg]
    show ¬ ((x.den : Int) = 0)
    have := x.den_pos
    omega
  rw [hn] at hb
  have h1 : (cq x).n = x.num := rfl
  have h2 : (cq x).d = (x.den : Int) := rfl
  rw [h1, h2] at hb
  exact fitsR_iff.2 ⟨by omega, by omega⟩
/-- .. and the rest. -/
structure LvW (w W : World) (c : Rq) (gS : Nat) (S : List Rq) (b14 : Nat) (r : Rq) : Prop where
  lv : LvB w W c gS S
  rest : Blk W b14 32 #[.int .i64 r.n, .int .i64 r.d]
  lo : gS < b14
section
variable {w W W' : World} {c : Rq} {gS b14 : Nat} {S S' : List Rq} {r r' : Rq}
theorem LvB.new_ (h : LvB w W c gS S) (hb : Below W.heap.size W W') : LvB w W' c gS S := ⟨h.x.new_ hb, h.z.new_ hb, h.row.new_ hb, join h.blw hb, h.lo⟩
theorem LvB.alloc (h : LvB w W c gS S) (o : Obj) : LvB w (W.alloc o) c gS S := h.new_ ((Below.refl _ _).alloc (Nat.le_refl _) o)
theorem LvB.put (h : LvB w W c gS S) {k : Nat} (hk : k < S.length) (q : Rq) : LvB w ((W.setCell ⟨gS, k * 2, none⟩ (.int .i64 q.n)).setCell ⟨gS, k * 2 + 1, none⟩ (.int .i64 q.d)) c gS (S.set k q) := by
  have hl := h.lo
  exact ⟨(h.x.far (by simp only; omega) _).far (by simp only; omega) _, (h.z.far (by simp only; omega) _).far (by simp only; omega) _, h.row.set2 ccell_len hk rfl, (h.blw.setCell (by simp only; omega) _).setCell (by simp only; omega) _, hl⟩
theorem LvB.sort (h : LvB w W c gS S) (k : RS W W' gS S S') : LvB w W' c gS S' := by
  have hl := h.lo
  exact ⟨h.x.only k.only (by omega), h.z.only k.only (by omega), k.row, joinP h.blw k.only (fun q hq => by omega) (Nat.le_refl _), hl⟩
theorem LvB.fin (h : LvB w W c gS S) (x y : Value) : ∃ W', W' = (W.setCell ⟨w.heap.size + 1, 0, none⟩ x).setCell ⟨w.heap.size + 1, 1, none⟩ y ∧ W'.cell? ⟨w.heap.size + 1, 0, none⟩ = some x ∧ W'.cell? ⟨w.heap.size + 1, 1, none⟩ = some y ∧ Below w.heap.size w W' := by
  have hb : Blk ((W.setCell ⟨w.heap.size + 1, 0, none⟩ x).setCell ⟨w.heap.size + 1, 1, none⟩ y) (w.heap.size + 1) 32 #[x, y] := (h.z.set_ 0 x).to 1 y rfl
  exact ⟨_, rfl, hb.cell 0 rfl, hb.cell 1 rfl, (h.blw.setCell (by simp only; omega) _).setCell (by simp only; omega) _⟩
theorem LvB.zc (h : LvB w W c gS S) : W.cell? ⟨w.heap.size + 1, 0, none⟩ = some (.int .i64 0) ∧ W.cell? ⟨w.heap.size + 1, 1, none⟩ = some (.int .i64 0) ∧ W.frozen? ⟨w.heap.size + 1, 0, none⟩ = false ∧ W.frozen? ⟨w.heap.size + 1, 1, none⟩ = false ∧ w.heap.size + 1 < W.heap.size := ⟨h.z.cell 0 rfl, h.z.cell 1 rfl, h.z.free 0, h.z.free 1, h.z.lt⟩
theorem LvW.new_ (h : LvW w W c gS S b14 r) (hb : Below W.heap.size W W') : LvW w W' c gS S b14 r := ⟨h.lv.new_ hb, h.rest.new_ hb, h.lo⟩
theorem LvW.alloc (h : LvW w W c gS S b14 r) (o : Obj) : LvW w (W.alloc o) c gS S b14 r := h.new_ ((Below.refl _ _).alloc (Nat.le_refl _) o)
theorem LvW.put (h : LvW w W c gS S b14 r) (q : Rq) : LvW w ((W.setCell ⟨b14, 0, none⟩ (.int .i64 q.n)).setCell ⟨b14, 1, none⟩ (.int .i64 q.d)) c gS S b14 q := by
  have h1 := h.lo
  have h2 := h.lv.lo
  exact ⟨⟨(h.lv.x.far (by simp only; omega) _).far (by simp only; omega) _, (h.lv.z.far (by simp only; omega) _).far (by simp only; omega) _, (h.lv.row.far (by simp only; omega) _).far (by simp only; omega) _, (h.lv.blw.setCell (by simp only; omega) _).setCell (by simp only; omega) _, h2⟩, (h.rest.set_ 0 _).to 1 _ rfl, h1⟩
end
/-- What Level answers. -/
def LevPost (w : World) (C : Rat) (lims : List Rq) (p : Nat) (e : Ending) (w' : World) : Prop :=
  (e = .returned (.tuple #[.agg #[.int .i64 0, .int .i64 0], .bool false, .int .i64 10]) ∨ (LevelNo C lims p ∧ e = .returned (.tuple #[.agg #[.int .i64 0, .int .i64 0], .bool false, .int .i64 0])) ∨ ∃ v, LevelOk C lims p v ∧ okQ (cq v) = true ∧ e = .returned (.tuple #[.agg #[.int .i64 (cq v).n, .int .i64 (cq v).d], .bool true, .int .i64 0])) ∧ Below w.heap.size w w'
def normK (lims : List Rq) (k : Nat) : List Rq := (lims.take k).map normQ ++ List.replicate (lims.length - k) ⟨0, 0⟩
theorem normK_len {lims : List Rq} {k : Nat} (h : k ≤ lims.length) : (normK lims k).length = lims.length := by unfold normK; rw [List.length_append, List.length_map, List.length_take, List.length_replicate]; omega
theorem normK_next {lims : List Rq} {k : Nat} {x : Rq} (h : lims[k]? = some x) : (normK lims k).set k (normQ x) = normK lims (k + 1) := by
  have hk : k < lims.length := (List.getElem?_eq_some_iff.1 h).1
  unfold normK
  rw [List.set_append_right _ _ (by rw [List.length_map, List.length_take]; omega), List.length_map, List.length_take, Nat.min_eq_left (by omega), Nat.sub_self, show lims.length - k = (lims.length - (k + 1)) + 1 by omega, List.replicate_succ, List.set_cons_zero, take_next h, List.map_append, List.append_assoc]
  rfl
set_option maxRecDepth 100000 in
set_option maxHeartbeats 16000000 in
theorem lvl_c (c : Rq) (lims : List Rq) (lA : Option Addr) (lk p : Nat) (w : World) (hc : capOk c = true) (hl : RowsAt w w.heap.size 2 ccell lA lims) (hlo : AllOk lims) (hln : ∀ x ∈ lims, 0 ≤ x.n) (hm : lims.length ≤ 12) (hp : p ≤ 12) :
    Calls Try.prog 62 #[rqv c, .slice lA lims.length lk, .int .i64 (p : Int)] w (LevPost w (val c) lims p) := by
  have IC := fun w => inr_c c w hc
  have hck : okQ c = true ∧ 0 ≤ c.n := by
    unfold capOk at hc
    rw [Bool.and_eq_true, Bool.and_eq_true, decide_eq_true_eq] at hc
    exact ⟨hc.1, hc.2.1⟩
  have h64 := okQ_R64 hck.1
  have VC := fun w => valid_c c w h64.1.1 h64.1.2 h64.2.1 h64.2.2
  rw [hck.1] at VC
  have PC := fun w => plain_c c w hck.1
  have HCV : Kept (0 ≤ val c) := ⟨val_pos hck.1 hck.2⟩
  rw [norm_val hck.1] at PC
  have HCF : Kept (okQ (cq (val c)) = true) := ⟨by rw [← norm_val hck.1]; exact okQ_norm hck.1⟩
  have HL := Kept.mk hl
  have HLO := Kept.mk hlo
  have HLN := Kept.mk hln
  obtain ⟨R, hR⟩ : ∃ R, R = LevPost w (val c) lims p := ⟨_, rfl⟩
  rw [← hR]
  have HR := Kept.mk hR
  obtain ⟨m, hmm⟩ : ∃ m, m = lims.length := ⟨_, rfl⟩
  have HM := Kept.mk hmm
  rw [← hmm] at hm ⊢
  clear hc hl hlo hln hck h64 hR hmm
  unfold rqv at IC VC PC ⊢
  have hmkR := fun w => run_make_flat (P := Try.prog) ccell_len (by omega) (⟨0, 0⟩ : Rq) 22 32 _ 16 Try.underlying22 infoR rfl m (by omega) (by omega) w
  have hw1 : IntKind.i64.wrap (32 - (m : Int)) = ((32 - m : Nat) : Int) := by rw [IntWalk.i64_in _ (by omega)]; omega
  have dp0 : decide ((p : Int) < 0) = false := decide_eq_false (by omega)
  have dm0 : decide ((32 : Int) < (m : Int)) = false := decide_eq_false (by omega)
  have dm1 : decide (((32 - m : Nat) : Int) < (p : Int)) = false := decide_eq_false (by omega)
  have dm2 : decide (32 < m) = false := decide_eq_false (by omega)
  have dm3 : decide (32 - m < p) = false := decide_eq_false (by omega)
  go_enter Try.func62, Try.ntmps62
  go_upto_region 3 with fail
  obtain ⟨U, hU, HX⟩ : ∃ U, U = (w.alloc (.cells #[.int .i64 c.n, .int .i64 c.d] 32)).alloc (.cells #[.int .i64 0, .int .i64 0] 32) ∧ Kept (LvX w U c) := ⟨_, rfl, ⟨LvX.start w c⟩⟩
  rw [← hU]
  clear hU hw1 dm0 dm1 dm2 dm3
  go_cut [9, 10] (fun s9 s10 wx => s9 = .bool true ∧ s10 = .bool true ∧ Kept (LvX w wx c))
  case first =>
    refine with_act fun aq haq => ?_
    refine wp_region_inv (fun L az w1z => ∃ (x9 x10 x38 x39 x40 x41 : Value), az = ((((((aq.put (some 9) x9).put (some 10) x10).put (some 38) x38).put (some 39) x39).put (some 40) x40).put (some 41) x41) ∧ (Below U.heap.size U w1z) ∧ (L.getD 0 false = true → x38 = .agg #[.int .i64 c.n, .int .i64 c.d]) ∧ (L.getD 1 false = true → x39 = .bool true) ∧ (L.getD 2 false = true → x40 = .agg #[.int .i64 c.n, .int .i64 c.d]) ∧ (L.getD 3 false = true → x41 = .bool true) ∧ (L.getD 4 false = true → x9 = .bool true) ∧ (L.getD 5 false = true → x10 = .bool true)) (by kernel_rfl) (by kernel_rfl) ?start ?oper ?done
    case start =>
      refine ⟨aq.tmps.getD 9 undef, aq.tmps.getD 10 undef, aq.tmps.getD 38 undef, aq.tmps.getD 39 undef, aq.tmps.getD 40 undef, aq.tmps.getD 41 undef, by subst haq; simp only [Act.put, List.setIfInBounds_toArray, List.set_cons_zero, List.set_cons_succ, Array.getD_eq_getD_getElem?, List.getElem?_toArray, List.getElem?_cons_zero, List.getElem?_cons_succ, Option.getD_some], dN (Below.refl U.heap.size U) 1, none_yet, none_yet, none_yet, none_yet, none_yet, none_yet⟩
    case oper =>
      intro L az w1z i hI hr
      obtain ⟨x9, x10, x38, x39, x40, x41, rfl, f0, f1, f2, f3, f4, f5, f6⟩ := hI
      subst haq
      have hi : i < 6 := ready_lt hr
      have hcase : i = 0 ∨ i = 1 ∨ i = 2 ∨ i = 3 ∨ i = 4 ∨ i = 5 := by omega
      clear hi
      rcases hcase with rfl | rfl | rfl | rfl | rfl | rfl
      · have HH := HX.out.x.new_ f0
        have x0 := HH.cell 0 (v := .int .i64 c.n) rfl
        have x1 := HH.cell 1 (v := .int .i64 c.d) rfl
        refine inv_op rfl (fun K hK => ?_)
        try simp only [Act.put, List.setIfInBounds_toArray, List.set_cons_zero, List.set_cons_succ]
        go_simp
        refine hK.out _ _ ⟨x9, x10, .agg #[.int .i64 c.n, .int .i64 c.d], x39, x40, x41, (by simp only [Act.put, List.setIfInBounds_toArray, List.set_cons_zero, List.set_cons_succ]), f0, (fun _ => rfl), (fun h => by first | exact f2 (by rwa [set_other (by decide)] at h) | (rw [set_other (by decide)] at h ⊢; exact f2 h)), (fun h => by first | exact f3 (by rwa [set_other (by decide)] at h) | (rw [set_other (by decide)] at h ⊢; exact f3 h)), (fun h => by first | exact f4 (by rwa [set_other (by decide)] at h) | (rw [set_other (by decide)] at h ⊢; exact f4 h)), (fun h => by first | exact f5 (by rwa [set_other (by decide)] at h) | (rw [set_other (by decide)] at h ⊢; exact f5 h)), (fun h => by first | exact f6 (by rwa [set_other (by decide)] at h) | (rw [set_other (by decide)] at h ⊢; exact f6 h))⟩
      · obtain rfl := f1 (ready_dep hr (d := 0) (by kernel_rfl))
        refine inv_op rfl (fun K hK => ?_)
        try simp only [Act.put, List.setIfInBounds_toArray, List.set_cons_zero, List.set_cons_succ]
        go_simp
        refine (VC _).mono ?_
        rintro e w9 ⟨rfl, hb9⟩
        try simp only []
        refine hK.out _ _ ⟨x9, x10, .agg #[.int .i64 c.n, .int .i64 c.d], .bool true, x40, x41, (by simp only [Act.put, List.setIfInBounds_toArray, List.set_cons_zero, List.set_cons_succ]), join f0 hb9, (fun _ => rfl), (fun _ => rfl), (fun h => by first | exact f3 (by rwa [set_other (by decide)] at h) | (rw [set_other (by decide)] at h ⊢; exact f3 h)), (fun h => by first | exact f4 (by rwa [set_other (by decide)] at h) | (rw [set_other (by decide)] at h ⊢; exact f4 h)), (fun h => by first | exact f5 (by rwa [set_other (by decide)] at h) | (rw [set_other (by decide)] at h ⊢; exact f5 h)), (fun h => by first | exact f6 (by rwa [set_other (by decide)] at h) | (rw [set_other (by decide)] at h ⊢; exact f6 h))⟩
      · have HH := HX.out.x.new_ f0
        have x0 := HH.cell 0 (v := .int .i64 c.n) rfl
        have x1 := HH.cell 1 (v := .int .i64 c.d) rfl
        refine inv_op rfl (fun K hK => ?_)
        try simp only [Act.put, List.setIfInBounds_toArray, List.set_cons_zero, List.set_cons_succ]
        go_simp
        refine hK.out _ _ ⟨x9, x10, x38, x39, .agg #[.int .i64 c.n, .int .i64 c.d], x41, (by simp only [Act.put, List.setIfInBounds_toArray, List.set_cons_zero, List.set_cons_succ]), f0, (fun h => by first | exact f1 (by rwa [set_other (by decide)] at h) | (rw [set_other (by decide)] at h ⊢; exact f1 h)), (fun h => by first | exact f2 (by rwa [set_other (by decide)] at h) | (rw [set_other (by decide)] at h ⊢; exact f2 h)), (fun _ => rfl), (fun h => by first | exact f4 (by rwa [set_other (by decide)] at h) | (rw [set_other (by decide)] at h ⊢; exact f4 h)), (fun h => by first | exact f5 (by rwa [set_other (by decide)] at h) | (rw [set_other (by decide)] at h ⊢; exact f5 h)), (fun h => by first | exact f6 (by rwa [set_other (by decide)] at h) | (rw [set_other (by decide)] at h ⊢; exact f6 h))⟩
      · obtain rfl := f3 (ready_dep hr (d := 2) (by kernel_rfl))
        refine inv_op rfl (fun K hK => ?_)
        try simp only [Act.put, List.setIfInBounds_toArray, List.set_cons_zero, List.set_cons_succ]
        go_simp
        refine (IC _).mono ?_
        rintro e w9 ⟨rfl, hb9⟩
        try simp only []
        refine hK.out _ _ ⟨x9, x10, x38, x39, .agg #[.int .i64 c.n, .int .i64 c.d], .bool true, (by simp only [Act.put, List.setIfInBounds_toArray, List.set_cons_zero, List.set_cons_succ]), join f0 hb9, (fun h => by first | exact f1 (by rwa [set_other (by decide)] at h) | (rw [set_other (by decide)] at h ⊢; exact f1 h)), (fun h => by first | exact f2 (by rwa [set_other (by decide)] at h) | (rw [set_other (by decide)] at h ⊢; exact f2 h)), (fun _ => rfl), (fun _ => rfl), (fun h => by first | exact f5 (by rwa [set_other (by decide)] at h) | (rw [set_other (by decide)] at h ⊢; exact f5 h)), (fun h => by first | exact f6 (by rwa [set_other (by decide)] at h) | (rw [set_other (by decide)] at h ⊢; exact f6 h))⟩
      · obtain rfl := f2 (ready_dep hr (d := 1) (by kernel_rfl))
        refine inv_op rfl (fun K hK => ?_)
        try simp only [Act.put, List.setIfInBounds_toArray, List.set_cons_zero, List.set_cons_succ]
        go_simp
        refine hK.out _ _ ⟨.bool true, x10, x38, .bool true, x40, x41, (by simp only [Act.put, List.setIfInBounds_toArray, List.set_cons_zero, List.set_cons_succ]), f0, (fun h => by first | exact f1 (by rwa [set_other (by decide)] at h) | (rw [set_other (by decide)] at h ⊢; exact f1 h)), (fun _ => rfl), (fun h => by first | exact f3 (by rwa [set_other (by decide)] at h) | (rw [set_other (by decide)] at h ⊢; exact f3 h)), (fun h => by first | exact f4 (by rwa [set_other (by decide)] at h) | (rw [set_other (by decide)] at h ⊢; exact f4 h)), (fun _ => rfl), (fun h => by first | exact f6 (by rwa [set_other (by decide)] at h) | (rw [set_other (by decide)] at h ⊢; exact f6 h))⟩
      · obtain rfl := f4 (ready_dep hr (d := 3) (by kernel_rfl))
        refine inv_op rfl (fun K hK => ?_)
        try simp only [Act.put, List.setIfInBounds_toArray, List.set_cons_zero, List.set_cons_succ]
        go_simp
        refine hK.out _ _ ⟨x9, .bool true, x38, x39, x40, .bool true, (by simp only [Act.put, List.setIfInBounds_toArray, List.set_cons_zero, List.set_cons_succ]), f0, (fun h => by first | exact f1 (by rwa [set_other (by decide)] at h) | (rw [set_other (by decide)] at h ⊢; exact f1 h)), (fun h => by first | exact f2 (by rwa [set_other (by decide)] at h) | (rw [set_other (by decide)] at h ⊢; exact f2 h)), (fun h => by first | exact f3 (by rwa [set_other (by decide)] at h) | (rw [set_other (by decide)] at h ⊢; exact f3 h)), (fun _ => rfl), (fun h => by first | exact f5 (by rwa [set_other (by decide)] at h) | (rw [set_other (by decide)] at h ⊢; exact f5 h)), (fun _ => rfl)⟩
    case done =>
      intro L az w1z hI hall
      obtain ⟨x9, x10, x38, x39, x40, x41, rfl, f0, f1, f2, f3, f4, f5, f6⟩ := hI
      subst haq
      simp only [Act.put, List.setIfInBounds_toArray, List.set_cons_zero, List.set_cons_succ]
      go_wp2_with fail
      go_meet
      exact ⟨(f5 (hall 4 (by decide))), (f6 (hall 5 (by decide))), ⟨HX.out.x.new_ f0, HX.out.z.new_ f0, join HX.out.blw f0⟩⟩
  case rest =>
    obtain ⟨rfl, rfl, HX1⟩ := hcut
    clear HX VC IC
    go_upto_region 5 with fail
    obtain ⟨gS, hgS⟩ : ∃ g, g = wc.heap.size := ⟨_, rfl⟩
    obtain ⟨V, hV, HV⟩ : ∃ V, V = wc.alloc (.cells ((List.replicate m (⟨0, 0⟩ : Rq)).flatMap ccell).toArray 32) ∧ Kept (LvB w V c gS (normK lims 0)) := by
      subst hgS
      have hr : RowBlk (wc.alloc (.cells ((List.replicate m (⟨0, 0⟩ : Rq)).flatMap ccell).toArray 32)) wc.heap.size 32 ccell (List.replicate m ⟨0, 0⟩) := Blk.new _ _ _
      exact ⟨_, rfl, ⟨⟨HX1.out.x.alloc _, HX1.out.z.alloc _, by unfold normK; rw [List.take_zero, List.map_nil, List.nil_append, Nat.sub_zero, ← HM.out]; exact hr, HX1.out.blw.alloc HX1.out.blw.size _, HX1.out.z.lt⟩⟩⟩
    rw [← hV, ← hgS]
    clear hV hgS HX1 hmkR
    go_wp2_with fail
    go_loopw [9, 10, 47] (fun v9 v10 v wr => ∃ k : Nat, k ≤ m ∧ v9 = .bool true ∧ v10 = .bool true ∧ v = .int .i64 k ∧ Kept (LvB w wr c gS (normK lims k))) (fun _ _ v _ => m - (intOf v).toNat)
    case atStart => exact ⟨0, Nat.zero_le _, rfl, rfl, rfl, HV⟩
    case round =>
      clear HV
      obtain ⟨k, hk, rfl, rfl, rfl, HV⟩ := hrel
      by_cases hlt : k < m
      · obtain ⟨x, bL, oL, hx, rfl, -, -, hcl⟩ := (HL.out.new_ HV.out.blw).at_ (show k < lims.length by rw [← HM.out]; exact hlt)
        have c0 := hcl 0 _ rfl
        have c1 := hcl 1 _ rfl
        simp only [Nat.add_zero] at c0
        have hxo := HLO.out x (List.mem_of_getElem? hx)
        have hxn := HLN.out x (List.mem_of_getElem? hx)
        have dx : decide (0 ≤ x.n) = true := decide_eq_true hxn
        have hx64 := okQ_R64 hxo
        have VX := fun w => valid_c x w hx64.1.1 hx64.1.2 hx64.2.1 hx64.2.2
        have PX := fun w => plain_c x w hxo
        rw [hxo] at VX
        have HNX := Kept.mk (normK_next hx)
        obtain ⟨S, hS⟩ : ∃ S, S = normK lims k := ⟨_, rfl⟩
        have hkS : k < S.length := by rw [hS, normK_len (by rw [← HM.out]; exact hk), ← HM.out]; exact hlt
        obtain ⟨q, hq⟩ : ∃ q, q = normQ x := ⟨_, rfl⟩
        rw [← hq] at PX HNX
        rw [← hS] at HV HNX
        unfold rqv at VX PX
        obtain ⟨u, hu⟩ := get_some hkS
        have HUK := Kept.mk hu
        have HKS := Kept.mk hkS
        clear hcl hx hxo hxn hx64 hS hq hu hkS
        go_upto_region 8 with fail
        obtain ⟨b13, hb13⟩ : ∃ b, b = wr.heap.size := ⟨_, rfl⟩
        obtain ⟨V, hV, HY⟩ : ∃ V, V = wr.alloc (.cells #[.int .i64 x.n, .int .i64 x.d] 32) ∧ Kept (LvB w V c gS S ∧ Blk V b13 32 #[.int .i64 x.n, .int .i64 x.d]) := ⟨_, rfl, ⟨HV.out.alloc _, by rw [hb13]; exact Blk.new _ _ _⟩⟩
        rw [← hV, ← hb13]
        clear hV hb13 HV c0 c1
        have y0 := HY.out.2.cell 0 (v := .int .i64 x.n) rfl
        have y1 := HY.out.2.cell 1 (v := .int .i64 x.d) rfl
        have yl := HY.out.2.lt
        go_upto_region 10 with (go_at_call 22; refine (VX _).mono ?_; rintro e w1 ⟨rfl, hb1⟩; have HY1 : Kept (LvB w w1 c gS S ∧ Blk w1 b13 32 #[.int .i64 x.n, .int .i64 x.d]) := ⟨HY.out.1.new_ hb1, HY.out.2.new_ hb1⟩; clear hb1 y0 y1 yl; have y0 := HY1.out.2.cell 0 (v := .int .i64 x.n) rfl; have y1 := HY1.out.2.cell 1 (v := .int .i64 x.d) rfl; have yl := HY1.out.2.lt)
        go_wp2_with (go_at_call 72; refine (PX _).mono ?_; rintro e w2 ⟨rfl, hb2⟩; have HY2 := Kept.mk (HY1.out.1.new_ hb2); clear hb2 y0 y1 yl; have g0 := HY2.out.row.cell ccell_len HUK.out (j := 0) rfl; have g1 := HY2.out.row.cell ccell_len HUK.out (j := 1) rfl; simp only [Nat.add_zero] at g0; have g2 := HY2.out.row.free (k * 2); have g3 := HY2.out.row.free (k * 2 + 1); have g4 := HY2.out.row.lt)
        go_roundw
        case rel => exact ⟨k + 1, by omega, rfl, rfl, by go_num, by rw [← HNX.out]; exact ⟨HY2.out.put HKS.out q⟩⟩
        case measure => simp [intOf]; omega
      · obtain rfl : k = m := by omega
        clear hlt
        have HT : Kept (LvB w wr c gS (lims.map normQ)) := ⟨by have := HV.out; unfold normK at this; rwa [HM.out, Nat.sub_self, List.replicate_zero, List.append_nil, List.take_length] at this⟩
        have HLL : Kept ((lims.map normQ).length = k) := ⟨by rw [List.length_map]; exact HM.out.symm⟩
        have HNO : Kept (AllOk (lims.map normQ)) := ⟨fun y hy => by obtain ⟨x, hx, rfl⟩ := List.mem_map.1 hy; exact okQ_norm (HLO.out x hx)⟩
        obtain ⟨LN, hLN⟩ : ∃ LN, LN = lims.map normQ := ⟨_, rfl⟩
        rw [← hLN] at HT HLL HNO
        have HLNE := Kept.mk hLN
        clear hLN HV
        have SO := sort_c LN gS k wr HT.out.row HNO.out (by rw [HLL.out]; omega)
        rw [HLL.out] at SO
        go_upto_region 17 with (go_at_call 73; refine SO.mono ?_; rintro e w3 ⟨rfl, S, hrs, hsrt⟩; have HRS := Kept.mk hrs; have HSR := Kept.mk hsrt; have HT3 := Kept.mk (HT.out.sort hrs); clear hrs hsrt)
        clear SO HT
        have hSl : S.length = k := by rw [HRS.out.perm.length_eq]; exact HLL.out
        have HSL := Kept.mk hSl
        clear hSl
        have hmp : IntKind.i64.wrap ((k : Int) + (p : Int)) = ((k + p : Nat) : Int) := by rw [IntWalk.i64_in _ (by omega)]; omega
        have x0 := HT3.out.x.cell 0 (v := .int .i64 c.n) rfl
        have x1 := HT3.out.x.cell 1 (v := .int .i64 c.d) rfl
        have xl := HT3.out.x.lt
        go_upto_region 18 with (go_at_call 72; refine (PC _).mono ?_; rintro e w4 ⟨rfl, hb4⟩; have HT4 := Kept.mk (HT3.out.new_ hb4); clear hb4 x0 x1 xl)
        obtain ⟨b14, hb14⟩ : ∃ b, b = w4.heap.size := ⟨_, rfl⟩
        obtain ⟨r0v, hr0v⟩ : ∃ r, r = cq (val c) := ⟨_, rfl⟩
        rw [← hr0v]
        obtain ⟨V, hV, HV⟩ : ∃ V, V = w4.alloc (.cells #[.int .i64 r0v.n, .int .i64 r0v.d] 32) ∧ Kept (LvW w V c gS S b14 (cq (val c - sumTo (fun i => val (S.getD i rq0)) 0))) := ⟨_, rfl, ⟨HT4.out.alloc _, by rw [hb14, show sumTo (fun i => val (S.getD i rq0)) 0 = 0 from rfl, show val c - 0 = val c by grind, ← hr0v]; exact Blk.new _ _ _, by rw [hb14]; exact HT4.out.row.lt⟩⟩
        rw [← hV, ← hb14]
        have HFT : Kept (fitsR (val c - sumTo (fun i => val (S.getD i rq0)) 0) = true) := ⟨by rw [show sumTo (fun i => val (S.getD i rq0)) 0 = 0 from rfl, show val c - 0 = val c by grind]; exact fits_cq HCF.out⟩
        clear hV hb14 hr0v HT3 HT4
        obtain ⟨m, hmk⟩ : ∃ m, m = k := ⟨_, rfl⟩
        subst hmk
        go_wp2_with fail
        go_loopw [15, 85] (fun v15 v wr => ∃ k : Nat, k ≤ m ∧ v = .int .i64 k ∧ v15 = .int .i64 ((m + p - k : Nat) : Int) ∧ Kept (LvW w wr c gS S b14 (cq (val c - sumTo (fun i => val (S.getD i rq0)) k)) ∧ fitsR (val c - sumTo (fun i => val (S.getD i rq0)) k) = true ∧ Taken (val c) (m + p) S k)) (fun _ v _ => m - (intOf v).toNat)
        case atStart => exact ⟨0, Nat.zero_le _, rfl, rfl, ⟨HV.out, HFT.out, fun j hj => by omega⟩⟩
        case round =>
          clear HV HFT
          obtain ⟨k, hk, rfl, rfl, HV⟩ := hrel
          obtain ⟨RK, hRK⟩ : ∃ x, x = val c - sumTo (fun i => val (S.getD i rq0)) k := ⟨_, rfl⟩
          rw [← hRK] at HV
          have HRK := Kept.mk hRK
          obtain ⟨r, hr⟩ : ∃ r, r = cq RK := ⟨_, rfl⟩
          rw [← hr] at HV
          have hrv : val r = RK := by rw [hr, val_cq]
          have hro : okQ r = true := by rw [hr]; exact (opR_ok HV.out.2.1).2
          have HRV := Kept.mk hrv
          have HRO := Kept.mk hro
          have HRE := Kept.mk hr
          obtain ⟨fl, hfl⟩ : ∃ n, n = m + p - k := ⟨_, rfl⟩
          rw [← hfl]
          have HFL := Kept.mk hfl
          have hflb : fl ≤ 24 := by omega
          clear hRK hr hrv hro
          by_cases hlt : k < m
          · have hf1 : 1 ≤ fl := by omega
            have DV := fun w => div_all r fl w HRO.out hf1 (by omega)
            rw [HRV.out] at DV
            obtain ⟨x, hx⟩ := get_some (show k < S.length by rw [HSL.out]; exact hlt)
            have hgx : S.getD k rq0 = x := by rw [List.getD_eq_getElem?_getD, hx]; rfl
            have HGX := Kept.mk hgx
            have hxo : okQ x = true := HRS.out.ok x (List.mem_of_getElem? hx)
            have g0 := HV.out.1.lv.row.cell ccell_len hx (j := 0) rfl
            have g1 := HV.out.1.lv.row.cell ccell_len hx (j := 1) rfl
            simp only [Nat.add_zero] at g0
            have gl := HV.out.1.lv.row.lt
            have hx64 := okQ_R64 hxo
            have HXO := Kept.mk hxo
            have HX64 := Kept.mk hx64
            clear hx hgx hxo hx64 hfl
            go_upto_region 21 with fail
            obtain ⟨b17, hb17⟩ : ∃ b, b = wr.heap.size := ⟨_, rfl⟩
            obtain ⟨V, hV, HY⟩ : ∃ V, V = wr.alloc (.cells #[.int .i64 x.n, .int .i64 x.d] 32) ∧ Kept (LvW w V c gS S b14 r ∧ Blk V b17 32 #[.int .i64 x.n, .int .i64 x.d] ∧ b14 < b17) := ⟨_, rfl, ⟨HV.out.1.alloc _, by rw [hb17]; exact Blk.new _ _ _, by rw [hb17]; exact HV.out.1.rest.lt⟩⟩
            rw [← hV, ← hb17]
            have HFT := Kept.mk HV.out.2
            clear hV hb17 HV g0 g1 gl
            have r0 := HY.out.1.rest.cell 0 (v := .int .i64 r.n) rfl
            have r1 := HY.out.1.rest.cell 1 (v := .int .i64 r.d) rfl
            have rl := HY.out.1.rest.lt
            cases hfit : fitsR (RK / (fl : Rat)) with
            | false =>
              rw [opR_no hfit] at DV
              unfold rqv at DV
              dsimp only at DV
              clear hfit
              go_upto_region 22 with (go_at_call 75; refine (DV _).mono ?_; rintro e wd ⟨rfl, hbd⟩; have HWD := Kept.mk (HY.out.1.new_ hbd); clear hbd)
              obtain ⟨U9, hU9, HU9⟩ : ∃ U, U = wd.alloc (.cells #[.int .i64 0, .int .i64 0] 32) ∧ Kept (LvB w U c gS S) := ⟨_, rfl, ⟨HWD.out.lv.alloc _⟩⟩
              rw [← hU9]
              clear hU9 r0 r1 rl
              obtain ⟨z0, z1, zf0, zf1, zl⟩ := HU9.out.zc
              go_wp2_with fail
              obtain ⟨W9, hW9, s0, s1, hb⟩ := HU9.out.fin (.int .i64 0) (.int .i64 0)
              rw [← hW9]
              clear hW9
              rw [HR.out]
              exact bodyPost_ret (v := .tuple #[.agg #[.int .i64 0, .int .i64 0], .bool false, .int .i64 10]) (by simp [results, Try.results62, go_sem, s0, s1]) rfl ⟨Or.inl rfl, hb⟩
            | true =>
              rw [(opR_ok hfit).1] at DV
              obtain ⟨V0, hV0⟩ : ∃ V, V = cq (RK / (fl : Rat)) := ⟨_, rfl⟩
              obtain ⟨V, hVV⟩ : ∃ V, V = V0 := ⟨_, rfl⟩
              rw [← hV0, ← hVV] at DV
              have hvo : okQ V = true := by rw [hVV, hV0]; exact (opR_ok hfit).2
              have HVV : Kept (val V = RK / (fl : Rat)) := ⟨by rw [hVV, hV0, val_cq]⟩
              have HVE : Kept (V = cq (RK / (fl : Rat))) := ⟨by rw [hVV, hV0]⟩
              have HVO := Kept.mk hvo
              have hv64 := okQ_R64 hvo
              have CM := fun w => cmp_c x V w HX64.out.1 HX64.out.2 hv64.1 hv64.2
              have hcv := cmpQ_val HXO.out hvo
              obtain ⟨z, hz⟩ : ∃ z, z = cmpQ x V := ⟨_, rfl⟩
              rw [← hz] at CM hcv
              have HCVV := Kept.mk hcv
              unfold rqv at DV CM
              dsimp only at DV
              clear hfit hV0 hVV hvo hv64 hcv hz
              go_upto_region 24 with (go_at_call 75; refine (DV _).mono ?_; rintro e wd ⟨rfl, hbd⟩; have HWD : Kept (LvW w wd c gS S b14 r ∧ Blk wd b17 32 #[.int .i64 x.n, .int .i64 x.d]) := ⟨HY.out.1.new_ hbd, HY.out.2.1.new_ hbd⟩; clear hbd)
              obtain ⟨b18, hb18⟩ : ∃ b, b = wd.heap.size := ⟨_, rfl⟩
              obtain ⟨U8, hU8, HU8⟩ : ∃ U, U = wd.alloc (.cells #[.int .i64 V.n, .int .i64 V.d] 32) ∧ Kept (LvW w U c gS S b14 r ∧ Blk U b17 32 #[.int .i64 x.n, .int .i64 x.d] ∧ Blk U b18 32 #[.int .i64 V.n, .int .i64 V.d]) := ⟨_, rfl, ⟨HWD.out.1.alloc _, HWD.out.2.alloc _, by rw [hb18]; exact Blk.new _ _ _⟩⟩
              rw [← hU8, ← hb18]
              clear hU8 hb18 HY HWD r0 r1 rl
              have x0 := HU8.out.2.1.cell 0 (v := .int .i64 x.n) rfl
              have x1 := HU8.out.2.1.cell 1 (v := .int .i64 x.d) rfl
              have xl := HU8.out.2.1.lt
              have p0 := HU8.out.2.2.cell 0 (v := .int .i64 V.n) rfl
              have p1 := HU8.out.2.2.cell 1 (v := .int .i64 V.d) rfl
              have pl := HU8.out.2.2.lt
              have hC9 : True := trivial
              by_cases hz0 : 0 ≤ z
              · have dz : decide (0 ≤ z) = true := decide_eq_true hz0
                have HLE : Kept (val V ≤ val x) := ⟨Rat.not_lt.1 fun hh => by have := HCVV.out.1.2 hh; omega⟩
                have HPF : Kept (LevelOk (val c) lims p (val V)) := ⟨by
                  have hfp : (0 : Rat) < (fl : Rat) := Rat.natCast_pos.2 hf1
                  have hlv : LevelOk (val c) S p (val V) := by
                    refine level_at HCV.out (by rw [HSL.out]; exact HSR.out) (k := k) (by rw [HSL.out]; exact HFT.out.2) (by rw [HSL.out]; exact hk) (by rw [HSL.out]; have := HFL.out; omega) ?_ (fun _ => by rw [HGX.out]; exact HLE.out)
                    rw [HSL.out, ← HFL.out, ← HRK.out, HVV.out]
                    exact Rat.div_mul_cancel (by grind)
                  have := hlv.perm HRS.out.perm
                  rw [HLNE.out] at this
                  exact this.norm HLO.out⟩
                have hfz : ((fl : Int) == 0) = false := beq_false_of_ne (by omega)
                go_upto_region 31 with (go_at_call 9; refine (CM _).mono ?_; rintro e wq ⟨rfl, hbq⟩; have HWQ := Kept.mk (HU8.out.1.new_ hbq); clear hbq x0 x1 xl p0 p1 pl)
                have r0 := HWQ.out.rest.cell 0 (v := .int .i64 r.n) rfl
                have r1 := HWQ.out.rest.cell 1 (v := .int .i64 r.d) rfl
                have rl := HWQ.out.rest.lt
                go_upto_region 36 with (go_at_call 75; refine (DV _).mono ?_; rintro e wd ⟨rfl, hbd⟩; have HWD := Kept.mk (HWQ.out.new_ hbd); clear hbd)
                obtain ⟨b21, hb21⟩ : ∃ b, b = wd.heap.size := ⟨_, rfl⟩
                obtain ⟨U9, hU9, HU9⟩ : ∃ U, U = wd.alloc (.cells #[.int .i64 V.n, .int .i64 V.d] 32) ∧ Kept (LvB w U c gS S ∧ Blk U b21 32 #[.int .i64 V.n, .int .i64 V.d]) := ⟨_, rfl, ⟨HWD.out.lv.alloc _, by rw [hb21]; exact Blk.new _ _ _⟩⟩
                rw [← hU9, ← hb21]
                clear hU9 hb21 r0 r1 rl
                have v0 := HU9.out.2.cell 0 (v := .int .i64 V.n) rfl
                have v1 := HU9.out.2.cell 1 (v := .int .i64 V.d) rfl
                have vl := HU9.out.2.lt
                obtain ⟨z0, z1, zf0, zf1, zl⟩ := HU9.out.1.zc
                go_wp2_with fail
                obtain ⟨W9, hW9, s0, s1, hb⟩ := HU9.out.1.fin (.int .i64 V.n) (.int .i64 V.d)
                rw [← hW9]
                clear hW9
                rw [HR.out]
                exact bodyPost_ret (v := .tuple #[.agg #[.int .i64 V.n, .int .i64 V.d], .bool true, .int .i64 0]) (by simp [results, Try.results62, go_sem, s0, s1]) rfl ⟨Or.inr (Or.inr ⟨val V, HPF.out, by rw [HVV.out, ← HVE.out]; exact HVO.out, by rw [HVV.out, ← HVE.out]⟩), hb⟩
              · have dz : decide (0 ≤ z) = false := decide_eq_false hz0
                have HLT : Kept (val x * (fl : Rat) < RK) := ⟨by
                  have hfp : (0 : Rat) < (fl : Rat) := Rat.natCast_pos.2 hf1
                  have h1 : val x < val V := HCVV.out.1.1 (by omega)
                  rw [HVV.out] at h1
                  have h2 := Rat.mul_lt_mul_of_pos_right h1 hfp
                  rwa [Rat.div_mul_cancel (by grind)] at h2⟩
                have HTN : Kept (Taken (val c) (m + p) S (k + 1)) := ⟨fun j hj => by
                  by_cases e : j = k
                  · subst e
                    rw [HGX.out, ← HFL.out, ← HRK.out]
                    exact HLT.out
                  · exact HFT.out.2 j (by omega)⟩
                have HRN : Kept (RK - val x = val c - sumTo (fun i => val (S.getD i rq0)) (k + 1)) := ⟨by rw [sumTo, HGX.out, HRK.out]; grind⟩
                have SB := fun w => sub_all r x w HRO.out HXO.out
                rw [HRV.out] at SB
                have hfw : IntKind.i64.wrap ((fl : Int) - 1) = ((m + p - (k + 1) : Nat) : Int) := by rw [IntWalk.i64_in _ (by omega)]; have := HFL.out; omega
                go_upto_region 25 with (go_at_call 9; refine (CM _).mono ?_; rintro e wq ⟨rfl, hbq⟩; have HWQ : Kept (LvW w wq c gS S b14 r ∧ Blk wq b17 32 #[.int .i64 x.n, .int .i64 x.d]) := ⟨HU8.out.1.new_ hbq, HU8.out.2.1.new_ hbq⟩; clear hbq x0 x1 xl p0 p1 pl)
                have r0 := HWQ.out.1.rest.cell 0 (v := .int .i64 r.n) rfl
                have r1 := HWQ.out.1.rest.cell 1 (v := .int .i64 r.d) rfl
                have rl := HWQ.out.1.rest.lt
                have x0 := HWQ.out.2.cell 0 (v := .int .i64 x.n) rfl
                have x1 := HWQ.out.2.cell 1 (v := .int .i64 x.d) rfl
                have xl := HWQ.out.2.lt
                cases hfs : fitsR (RK - val x) with
                | false =>
                  rw [opR_no hfs] at SB
                  unfold rqv at SB
                  dsimp only at SB
                  clear hfs
                  go_upto_region 26 with (go_at_call 76; refine (SB _).mono ?_; rintro e ws ⟨rfl, hbs⟩; have HWS := Kept.mk (HWQ.out.1.new_ hbs); clear hbs)
                  obtain ⟨U9, hU9, HU9⟩ : ∃ U, U = ws.alloc (.cells #[.int .i64 0, .int .i64 0] 32) ∧ Kept (LvB w U c gS S) := ⟨_, rfl, ⟨HWS.out.lv.alloc _⟩⟩
                  rw [← hU9]
                  clear hU9 r0 r1 rl x0 x1 xl
                  obtain ⟨z0, z1, zf0, zf1, zl⟩ := HU9.out.zc
                  go_wp2_with fail
                  obtain ⟨W9, hW9, s0, s1, hb⟩ := HU9.out.fin (.int .i64 0) (.int .i64 0)
                  rw [← hW9]
                  clear hW9
                  rw [HR.out]
                  exact bodyPost_ret (v := .tuple #[.agg #[.int .i64 0, .int .i64 0], .bool false, .int .i64 10]) (by simp [results, Try.results62, go_sem, s0, s1]) rfl ⟨Or.inl rfl, hb⟩
                | true =>
                  rw [(opR_ok hfs).1] at SB
                  obtain ⟨Q, hQ⟩ : ∃ Q, Q = cq (RK - val x) := ⟨_, rfl⟩
                  rw [← hQ] at SB
                  have HQE : Kept (Q = cq (val c - sumTo (fun i => val (S.getD i rq0)) (k + 1))) := ⟨by rw [hQ, HRN.out]⟩
                  have HFN : Kept (fitsR (val c - sumTo (fun i => val (S.getD i rq0)) (k + 1)) = true) := ⟨by rw [← HRN.out]; exact hfs⟩
                  unfold rqv at SB
                  dsimp only at SB
                  clear hfs hQ
                  go_upto_region 26 with (go_at_call 76; refine (SB _).mono ?_; rintro e ws ⟨rfl, hbs⟩; have HWS := Kept.mk (HWQ.out.1.new_ hbs); clear hbs)
                  obtain ⟨b20, hb20⟩ : ∃ b, b = ws.heap.size := ⟨_, rfl⟩
                  obtain ⟨U9, hU9, HU9⟩ : ∃ U, U = ws.alloc (.cells #[.int .i64 Q.n, .int .i64 Q.d] 32) ∧ Kept (LvW w U c gS S b14 r ∧ Blk U b20 32 #[.int .i64 Q.n, .int .i64 Q.d] ∧ b14 < b20) := ⟨_, rfl, ⟨HWS.out.alloc _, by rw [hb20]; exact Blk.new _ _ _, by rw [hb20]; exact HWS.out.rest.lt⟩⟩
                  rw [← hU9, ← hb20]
                  clear hU9 hb20 r0 r1 rl x0 x1 xl
                  have q0 := HU9.out.2.1.cell 0 (v := .int .i64 Q.n) rfl
                  have q1 := HU9.out.2.1.cell 1 (v := .int .i64 Q.d) rfl
                  have ql := HU9.out.2.1.lt
                  have r0 := HU9.out.1.rest.cell 0 (v := .int .i64 r.n) rfl
                  have r1 := HU9.out.1.rest.cell 1 (v := .int .i64 r.d) rfl
                  have rf0 := HU9.out.1.rest.free 0
                  have rf1 := HU9.out.1.rest.free 1
                  have rl := HU9.out.1.rest.lt
                  go_wp2_with fail
                  go_roundw
                  case rel => exact ⟨k + 1, by omega, by go_num, rfl, by rw [← HQE.out]; exact ⟨HU9.out.1.put Q, HFN.out, HTN.out⟩⟩
                  case measure => simp [intOf]; omega
          · obtain rfl : k = m := by omega
            clear hlt
            have hfp : fl = p := by omega
            subst hfp
            have r0 := HV.out.1.rest.cell 0 (v := .int .i64 r.n) rfl
            have r1 := HV.out.1.rest.cell 1 (v := .int .i64 r.d) rfl
            have rl := HV.out.1.rest.lt
            clear hfl
            by_cases hp0 : fl = 0
            · subst hp0
              by_cases hrn : 0 < r.n
              · have drn : decide (0 < r.n) = true := decide_eq_true hrn
                have HPF : Kept (LevelNo (val c) lims 0) := ⟨by
                  have h0 : 0 < RK := by rw [← HRV.out]; exact val_gt HRO.out hrn
                  rw [HRK.out, ← HSL.out] at h0
                  have := (level_no h0).perm HRS.out.perm
                  rw [HLNE.out] at this
                  exact this.norm HLO.out⟩
                obtain ⟨z0, z1, zf0, zf1, zl⟩ := HV.out.1.lv.zc
                go_wp2_with fail
                obtain ⟨W9, hW9, s0, s1, hb⟩ := HV.out.1.lv.fin (.int .i64 0) (.int .i64 0)
                rw [← hW9]
                clear hW9
                rw [HR.out]
                exact bodyPost_ret (v := .tuple #[.agg #[.int .i64 0, .int .i64 0], .bool false, .int .i64 0]) (by simp [results, Try.results62, go_sem, s0, s1]) rfl ⟨Or.inr (Or.inl ⟨HPF.out, rfl⟩), hb⟩
              · have drn : decide (0 < r.n) = false := decide_eq_false hrn
                have HPE : Kept (LevelOk (val c) lims 0 0 ∧ r = cq 0) := ⟨by
                  have h0 : RK ≤ 0 := by rw [← HRV.out]; exact val_le HRO.out (by omega)
                  rw [HRK.out, ← HSL.out] at h0
                  have ht := HV.out.2.2
                  rw [Nat.add_zero, ← HSL.out] at ht
                  obtain ⟨e1, e2⟩ := level_nil HCV.out ht h0
                  have hpm := HRS.out.perm
                  rw [e1, HLNE.out, List.nil_perm, List.map_eq_nil_iff] at hpm
                  refine ⟨⟨Rat.le_refl, ?_, Or.inr (Or.inr ⟨hpm, rfl, rfl⟩)⟩, ?_⟩
                  · rw [hpm, e2]; decide +kernel
                  · have hRK0 : RK = 0 := by
                      rw [HRK.out, ← HSL.out, e1, e2]
                      decide +kernel
                    rw [HRE.out, hRK0]⟩
                obtain ⟨z0, z1, zf0, zf1, zl⟩ := HV.out.1.lv.zc
                go_wp2_with fail
                obtain ⟨W9, hW9, s0, s1, hb⟩ := HV.out.1.lv.fin (.int .i64 r.n) (.int .i64 r.d)
                rw [← hW9]
                clear hW9
                rw [HR.out]
                exact bodyPost_ret (v := .tuple #[.agg #[.int .i64 r.n, .int .i64 r.d], .bool true, .int .i64 0]) (by simp [results, Try.results62, go_sem, s0, s1]) rfl ⟨Or.inr (Or.inr ⟨0, HPE.out.1, rfl, by rw [HPE.out.2]⟩), hb⟩
            · have hf1 : 1 ≤ fl := by omega
              have hfz : ((fl : Int) == 0) = false := beq_false_of_ne (by omega)
              have DV := fun w => div_all r fl w HRO.out hf1 (by omega)
              rw [HRV.out] at DV
              cases hfit : fitsR (RK / (fl : Rat)) with
              | false =>
                rw [opR_no hfit] at DV
                unfold rqv at DV
                dsimp only at DV
                clear hfit
                have HVK := Kept.mk HV.out.1
                go_upto_region 36 with (go_at_call 75; refine (DV _).mono ?_; rintro e wd ⟨rfl, hbd⟩; have HWD := Kept.mk (HVK.out.new_ hbd); clear hbd)
                obtain ⟨b21, hb21⟩ : ∃ b, b = wd.heap.size := ⟨_, rfl⟩
                obtain ⟨U9, hU9, HU9⟩ : ∃ U, U = wd.alloc (.cells #[.int .i64 0, .int .i64 0] 32) ∧ Kept (LvB w U c gS S ∧ Blk U b21 32 #[.int .i64 0, .int .i64 0]) := ⟨_, rfl, ⟨HWD.out.lv.alloc _, by rw [hb21]; exact Blk.new _ _ _⟩⟩
                rw [← hU9, ← hb21]
                clear hU9 hb21 r0 r1 rl
                have v0 := HU9.out.2.cell 0 (v := .int .i64 0) rfl
                have v1 := HU9.out.2.cell 1 (v := .int .i64 0) rfl
                have vl := HU9.out.2.lt
                obtain ⟨z0, z1, zf0, zf1, zl⟩ := HU9.out.1.zc
                go_wp2_with fail
                obtain ⟨W9, hW9, s0, s1, hb⟩ := HU9.out.1.fin (.int .i64 0) (.int .i64 0)
                rw [← hW9]
                clear hW9
                rw [HR.out]
                exact bodyPost_ret (v := .tuple #[.agg #[.int .i64 0, .int .i64 0], .bool false, .int .i64 10]) (by simp [results, Try.results62, go_sem, s0, s1]) rfl ⟨Or.inl rfl, hb⟩
              | true =>
                rw [(opR_ok hfit).1] at DV
                obtain ⟨V, hVV⟩ : ∃ V, V = cq (RK / (fl : Rat)) := ⟨_, rfl⟩
                rw [← hVV] at DV
                have HVO : Kept (okQ V = true) := ⟨by rw [hVV]; exact (opR_ok hfit).2⟩
                have HVV : Kept (val V = RK / (fl : Rat)) := ⟨by rw [hVV, val_cq]⟩
                have HVE := Kept.mk hVV
                unfold rqv at DV
                dsimp only at DV
                clear hfit hVV
                have HPF : Kept (LevelOk (val c) lims fl (val V)) := ⟨by
                  have hlv : LevelOk (val c) S fl (val V) := by
                    refine level_at HCV.out (by rw [HSL.out]; exact HSR.out) (k := k) (by rw [HSL.out]; exact HV.out.2.2) (by rw [HSL.out]; exact Nat.le_refl _) (by rw [HSL.out]; omega) ?_ (fun hh => by rw [HSL.out] at hh; omega)
                    rw [HSL.out, show k + fl - k = fl by omega, ← HRK.out, HVV.out]
                    exact Rat.div_mul_cancel (by have : (0 : Rat) < (fl : Rat) := Rat.natCast_pos.2 hf1; grind)
                  have := hlv.perm HRS.out.perm
                  rw [HLNE.out] at this
                  exact this.norm HLO.out⟩
                have HVK := Kept.mk HV.out.1
                go_upto_region 36 with (go_at_call 75; refine (DV _).mono ?_; rintro e wd ⟨rfl, hbd⟩; have HWD := Kept.mk (HVK.out.new_ hbd); clear hbd)
                obtain ⟨b21, hb21⟩ : ∃ b, b = wd.heap.size := ⟨_, rfl⟩
                obtain ⟨U9, hU9, HU9⟩ : ∃ U, U = wd.alloc (.cells #[.int .i64 V.n, .int .i64 V.d] 32) ∧ Kept (LvB w U c gS S ∧ Blk U b21 32 #[.int .i64 V.n, .int .i64 V.d]) := ⟨_, rfl, ⟨HWD.out.lv.alloc _, by rw [hb21]; exact Blk.new _ _ _⟩⟩
                rw [← hU9, ← hb21]
                clear hU9 hb21 r0 r1 rl
                have v0 := HU9.out.2.cell 0 (v := .int .i64 V.n) rfl
                have v1 := HU9.out.2.cell 1 (v := .int .i64 V.d) rfl
                have vl := HU9.out.2.lt
                obtain ⟨z0, z1, zf0, zf1, zl⟩ := HU9.out.1.zc
                go_wp2_with fail
                obtain ⟨W9, hW9, s0, s1, hb⟩ := HU9.out.1.fin (.int .i64 V.n) (.int .i64 V.d)
                rw [← hW9]
                clear hW9
                rw [HR.out]
                exact bodyPost_ret (v := .tuple #[.agg #[.int .i64 V.n, .int .i64 V.d], .bool true, .int .i64 0]) (by simp [results, Try.results62, go_sem, s0, s1]) rfl ⟨Or.inr (Or.inr ⟨val V, HPF.out, by rw [HVV.out, ← HVE.out]; exact HVO.out, by rw [HVV.out, ← HVE.out]⟩), hb⟩
end Go.Proofs.Ytjalegdfofogcaa
