/- The reference's Round. -/
import Derived.Test.YtckigonkcjceeaaERef
import Derived.Test.YtckigonkcjceeaaRegK
namespace Go.Proofs.Ytckigonkcjceeaa
set_option linter.unusedVariables false
set_option linter.unusedSimpArgs false
open Go.RowKit
theorem list_set3 {l : List Vt} {k : Nat} {x : Vt} (hk : k < l.length) : ((((l.flatMap vcell).set (k * 3) (.int .i64 x.root)).set (k * 3 + 1) (.int .i64 x.dist)).set (k * 3 + 2) (.int .i64 x.port)) = (l.set k x).flatMap vcell := by
  apply List.ext_getElem?
  intro i
  rw [flat_set vcell_len (by omega) hk]
  simp only [List.getElem?_set, List.length_set, flat_len vcell_len]
  by_cases e : i / 3 = k
  · have hm : i % 3 < 3 := Nat.mod_lt _ (by omega)
    have hi := Nat.div_add_mod i 3
    rw [if_pos e]
    rcases (by omega : i % 3 = 0 ∨ i % 3 = 1 ∨ i % 3 = 2) with h0 | h0 | h0
    · rw [h0, if_neg (by omega), if_neg (by omega), if_pos (by omega), if_pos (by omega)]; rfl
    · rw [h0, if_neg (by omega), if_pos (by omega), if_pos (by omega)]; rfl
    · rw [h0, if_pos (by omega), if_pos (by omega)]; rfl
  · rw [if_neg e]
    have : i / 3 * 3 ≤ i := Nat.div_mul_le_self i 3
    rw [if_neg (by omega), if_neg (by omega), if_neg (by omega)]
theorem own_set3 {w : World} {base g n cap k : Nat} {e : TypeId} {l : List Vt} {x : Vt} (h : w.ownsRow base e 3 (.slice (some ⟨g, 0, none⟩) n cap) n (l.flatMap vcell)) (hk : k < l.length) :
    (((w.setCell ⟨g, k * 3, none⟩ (.int .i64 x.root)).setCell ⟨g, k * 3 + 1, none⟩ (.int .i64 x.dist)).setCell ⟨g, k * 3 + 2, none⟩ (.int .i64 x.port)).ownsRow base e 3 (.slice (some ⟨g, 0, none⟩) n cap) n ((l.set k x).flatMap vcell) := by
  have h1 := (h.stored (k * 3) (.int .i64 x.root)).1
  have h2 := (h1.stored (k * 3 + 1) (.int .i64 x.dist)).1
  have h3 := (h2.stored (k * 3 + 2) (.int .i64 x.port)).1
  rwa [list_set3 hk] at h3
/-- The votes after the first c cables. -/
def midP (n : Nat) (votes : List Vt) (l : List (Cb × Bool)) : List Vt := (List.range n).map fun (i : Nat) => l.foldl (hearC (n : Int) votes (i : Int)) (selfV (i : Int))
theorem midP_len (n : Nat) (votes : List Vt) (l : List (Cb × Bool)) : (midP n votes l).length = n := by simp [midP]
theorem midP_get {n : Nat} {votes : List Vt} {l : List (Cb × Bool)} {i : Nat} (h : i < n) : (midP n votes l)[i]? = some (l.foldl (hearC (n : Int) votes (i : Int)) (selfV (i : Int))) := by
  unfold midP; rw [List.getElem?_map, List.getElem?_range h]; rfl
theorem midP_nil (n : Nat) (votes : List Vt) : midP n votes [] = startP n := rfl
theorem midP_off {n : Nat} {votes : List Vt} {l : List (Cb × Bool)} {x : Cb} : midP n votes (l ++ [(x, false)]) = midP n votes l := by
  unfold midP
  refine List.map_congr_left fun i _ => ?_
  rw [List.foldl_append]; rfl
theorem hearC_b {n : Int} {votes : List Vt} {node : Int} {best : Vt} {x : Cb} (hb : x.b = node) (ha : x.a ≠ node) : hearC n votes node best (x, true) = heardV n (voteAt votes x.a) x.bp best := by unfold hearC; rw [if_pos rfl, if_pos hb, if_neg ha]
theorem hearC_a {n : Int} {votes : List Vt} {node : Int} {best : Vt} {x : Cb} (hb : x.b ≠ node) (ha : x.a = node) : hearC n votes node best (x, true) = heardV n (voteAt votes x.b) x.ap best := by unfold hearC; rw [if_pos rfl, if_neg hb, if_pos ha]
theorem hearC_0 {n : Int} {votes : List Vt} {node : Int} {best : Vt} {x : Cb} (hb : x.b ≠ node) (ha : x.a ≠ node) : hearC n votes node best (x, true) = best := by unfold hearC; rw [if_pos rfl, if_neg hb, if_neg ha]
theorem midP_on {n : Nat} {votes : List Vt} {l : List (Cb × Bool)} {x : Cb} {a b : Nat} {va vb : Vt} (ha : x.a = (a : Int)) (hb : x.b = (b : Int)) (hab : a ≠ b) (h1 : (midP n votes l)[a]? = some va) (h2 : (midP n votes l)[b]? = some vb) :
    midP n votes (l ++ [(x, true)]) = ((midP n votes l).set a (heardV n (voteAt votes x.b) x.ap va)).set b (heardV n (voteAt votes x.a) x.bp vb) := by
  have hla : a < n := by have := (List.getElem?_eq_some_iff.1 h1).1; rwa [midP_len] at this
  have hlb : b < n := by have := (List.getElem?_eq_some_iff.1 h2).1; rwa [midP_len] at this
  rw [midP_get hla] at h1
  rw [midP_get hlb] at h2
  injection h1 with h1
  injection h2 with h2
  apply List.ext_getElem?
  intro i
  rcases Nat.lt_or_ge i n with hi | hi
  · rw [midP_get hi, List.foldl_append, List.getElem?_set, List.getElem?_set, List.length_set, midP_len, midP_get hi]
    rw [List.foldl_cons, List.foldl_nil]
    by_cases e : b = i
    · subst e
      rw [if_pos rfl, if_pos hlb]
      rw [hearC_b hb (by rw [ha]; omega), h2]
    · rw [if_neg e]
      by_cases e2 : a = i
      · subst e2
        rw [if_pos rfl, if_pos hla, hearC_a (by rw [hb]; omega) ha, h1]
      · rw [if_neg e2, hearC_0 (by rw [hb]; omega) (by rw [ha]; omega)]
  · rw [List.getElem?_eq_none (by rw [midP_len]; exact hi), List.getElem?_eq_none (by rw [List.length_set, List.length_set, midP_len]; exact hi)]
theorem midP_all {C : List Cb} {up : List Bool} {votes : List Vt} : midP votes.length votes (C.zip up) = roundP C up votes := rfl
theorem voteAt_get {votes : List Vt} {k : Nat} {v : Vt} (h : votes[k]? = some v) : voteAt votes (k : Int) = v := by
  unfold voteAt; rw [show ((k : Nat) : Int).toNat = k by omega, List.getD_eq_getElem?_getD, h]; rfl
theorem cellAt3 {w : World} {base g n cap k : Nat} {e : TypeId} {l : List Vt} {x : Vt} (h : w.ownsRow base e 3 (.slice (some ⟨g, 0, none⟩) n cap) n (l.flatMap vcell)) (hx : l[k]? = some x) (hn : l.length = n) :
    w.cell? ⟨g, k * 3, none⟩ = some (.int .i64 x.root) ∧ w.cell? ⟨g, k * 3 + 1, none⟩ = some (.int .i64 x.dist) ∧ w.cell? ⟨g, k * 3 + 2, none⟩ = some (.int .i64 x.port) := by
  have hk : k < n := by rw [← hn]; exact (List.getElem?_eq_some_iff.1 hx).1
  have g0 := flat_get vcell_len hx (j := 0) (u := .int .i64 x.root) rfl
  have g1 := flat_get vcell_len hx (j := 1) (u := .int .i64 x.dist) rfl
  have g2 := flat_get vcell_len hx (j := 2) (u := .int .i64 x.port) rfl
  rw [Nat.add_zero] at g0
  exact ⟨(h.cellAt _ (by omega)).trans g0, (h.cellAt _ (by omega)).trans g1, (h.cellAt _ (by omega)).trans g2⟩
set_option maxRecDepth 100000 in
set_option maxHeartbeats 8000000 in
theorem refRound_ (N : List Nd) (C : List Cb) (An Ac Au Av : Option Addr) (kn kc ku kv : Nat) (up : List Bool) (votes : List Vt) (w : World) (hp : PlanAt w w.heap.size ⟨N, C, An, kn, Ac, kc⟩) (hu : RowsAt w w.heap.size 1 bcell1 Au up) (hv : RowsAt w w.heap.size 3 vcell Av votes)
    (hC : ∀ c ∈ C, CabOk votes.length c) (hn : votes.length ≤ 16) (hc : C.length ≤ 32) (hlu : up.length = C.length) (hd : DistOk votes.length votes) :
    Calls Try.prog 26 #[.agg #[.slice An N.length kn, .slice Ac C.length kc], .slice Au up.length ku, .slice Av votes.length kv] w (RetO w (roundP C up votes)) := by
  have HP := Kept.mk hp
  have HU := Kept.mk hu
  have HV := Kept.mk hv
  have HC := Kept.mk hC
  have HD0 := Kept.mk hd
  have u1 : C.length ≤ up.length := by omega
  have u2 : up.length ≤ C.length := by omega
  clear hp hu hv hC hd hlu
  have HB := Kept.mk (Blk.new w 32 #[.slice An N.length kn, .slice Ac C.length kc])
  have HG : Kept (Below w.heap.size w (w.alloc (.cells #[.slice An N.length kn, .slice Ac C.length kc] 32))) := ⟨(Below.refl _ _).alloc (Nat.le_refl _) _⟩
  go_enter Try.func26, Try.ntmps26
  go_wp2_with (go_at_call 27; refine (refStart_c votes.length _ (by omega)).mono ?_; rintro e w1 ⟨v, rfl, ho, hb1⟩; have HB1 := Kept.mk (HB.out.new_ hb1); have HO1 := Kept.mk ho; have HD1 := Kept.mk (join HG.out hb1); clear ho hb1)
  rw [startP_len] at HO1
  have HO1' : Kept (w1.ownsRow (w.heap.size + 1) 27 3 v votes.length ((midP votes.length votes ((C.zip up).take 0)).flatMap vcell)) := ⟨by have h := HO1.out; rw [World.size_alloc] at h; exact h⟩
  go_loopw [8] (fun v8 wr => ∃ c : Nat, c ≤ up.length ∧ v8 = .int .i64 c ∧ Kept (wr.ownsRow (w.heap.size + 1) 27 3 v votes.length ((midP votes.length votes ((C.zip up).take c)).flatMap vcell)) ∧ Kept (Blk wr w.heap.size 32 #[.slice An N.length kn, .slice Ac C.length kc]) ∧ Kept (Below w.heap.size w wr)) (fun v8 _ => up.length - (intOf v8).toNat)
  case atStart => exact ⟨0, Nat.zero_le _, rfl, HO1', HB1, HD1⟩
  case round =>
    clear HO1 HO1' HB1 HD1
    obtain ⟨c, hc, rfl, HO, HB1, HD⟩ := hrel
    have hz := HD.out.size
    have z1 := HB1.out.lt
    have k0 := HB1.out.cell 0 (v := .slice An N.length kn) rfl
    by_cases hlt : c < up.length
    · obtain ⟨x, b, off, hx, rfl, -, hb, ⟨c0, c1, c2, c3, c4, c5⟩, -⟩ := (HP.out.new_ HD.out).cab (show c < C.length by omega)
      obtain ⟨u, bu, ou, hu, rfl, hbu, -, hcu⟩ := (HU.out.below HD.out).at_ hlt
      have cu := hcu 0 (.bool u) rfl
      simp only [Nat.add_zero, Nat.mul_one] at cu
      have k1 := HB1.out.cell 1 (v := .slice (some ⟨b, off, none⟩) C.length kc) rfl
      have hco := HC.out x (List.mem_of_getElem? hx)
      have hbu2 : bu < wr.heap.size := by omega
      have HTK := Kept.mk (take_next (zip_get hx hu))
      clear hcu hx hu
      cases u with
      | false =>
        have HO2 : Kept (wr.ownsRow (w.heap.size + 1) 27 3 v votes.length ((midP votes.length votes ((C.zip up).take (c + 1))).flatMap vcell)) := ⟨by rw [HTK.out, midP_off]; exact HO.out⟩
        go_wp2_with fail
        go_roundw
        case rel => exact ⟨c + 1, by omega, by go_num, HO2, HB1, HD⟩
        case measure => simp [intOf]; omega
      | true =>
        obtain ⟨a, ha⟩ : ∃ a : Nat, x.a = (a : Int) := ⟨x.a.toNat, by have := hco.a.1; omega⟩
        obtain ⟨bb, hbb⟩ : ∃ bb : Nat, x.b = (bb : Int) := ⟨x.b.toNat, by have := hco.b.1; omega⟩
        have han : a < votes.length := by have := hco.a.2; omega
        have hbn : bb < votes.length := by have := hco.b.2; omega
        have hab : a ≠ bb := fun e => hco.ne (by rw [ha, hbb, e])
        have HAB := Kept.mk hab
        have HXA := Kept.mk ha
        have HXB := Kept.mk hbb
        obtain ⟨v1, hv1⟩ := get_some (l := midP votes.length votes ((C.zip up).take c)) (k := a) (by rw [midP_len]; exact han)
        obtain ⟨v2, hv2⟩ := get_some (l := midP votes.length votes ((C.zip up).take c)) (k := bb) (by rw [midP_len]; exact hbn)
        have HV1 := Kept.mk hv1
        have HV2 := Kept.mk hv2
        have HMID := Kept.mk (midP_on HXA.out HXB.out hab hv1 hv2)
        obtain ⟨L, hL⟩ : ∃ L, midP votes.length votes ((C.zip up).take c) = L := ⟨_, rfl⟩
        have HLL : Kept (L.length = votes.length) := ⟨by rw [← hL, midP_len]⟩
        rw [hL] at HO HV1 HV2 HMID
        obtain ⟨g, cap, rfl, hg1, hg2⟩ := HO.out.form (by omega)
        obtain ⟨q1, bv, ov, hq1, rfl, hbv, -, hcq1⟩ := (HV.out.below HD.out).at_ hbn
        obtain ⟨q2, bv', ov', hq2, hA2, -, -, hcq2⟩ := (HV.out.below HD.out).at_ han
        injection hA2 with hA2
        injection hA2 with e1 e2
        subst e1; subst e2
        have HQ1 := Kept.mk (voteAt_get hq1)
        have HQ2 := Kept.mk (voteAt_get hq2)
        have dq1 := HD0.out q1 (List.mem_of_getElem? hq1)
        have dq2 := HD0.out q2 (List.mem_of_getElem? hq2)
        have m0 := hcq1 0 (.int .i64 q1.root) rfl
        have m1 := hcq1 1 (.int .i64 q1.dist) rfl
        have m2 := hcq1 2 (.int .i64 q1.port) rfl
        have n0 := hcq2 0 (.int .i64 q2.root) rfl
        have n1 := hcq2 1 (.int .i64 q2.dist) rfl
        have n2 := hcq2 2 (.int .i64 q2.port) rfl
        simp only [Nat.add_zero] at m0 n0
        have hbv2 : bv < wr.heap.size := by omega
        have hbvg : bv ≠ g := by omega
        have j1 : (0 : Int) ≤ a := by omega
        have j2 : (a : Int) < votes.length := by omega
        have j3 : (0 : Int) ≤ bb := by omega
        have j4 : (bb : Int) < votes.length := by omega
        have HCB := Kept.mk (Blk.new wr 42 #[.int .i64 x.a, .int .i64 x.ap, .int .i64 x.b, .int .i64 x.bp, .int .i64 x.delay, .int .i64 x.cap])
        have HO2 := Kept.mk (HO.out.alloc (.cells #[.int .i64 x.a, .int .i64 x.ap, .int .i64 x.b, .int .i64 x.bp, .int .i64 x.delay, .int .i64 x.cap] 42))
        have HB2 := Kept.mk (HB1.out.alloc (.cells #[.int .i64 x.a, .int .i64 x.ap, .int .i64 x.b, .int .i64 x.bp, .int .i64 x.delay, .int .i64 x.cap] 42))
        have HD2 := Kept.mk (HD.out.alloc hz (.cells #[.int .i64 x.a, .int .i64 x.ap, .int .i64 x.b, .int .i64 x.bp, .int .i64 x.delay, .int .i64 x.cap] 42))
        have HM : Kept (Below wr.heap.size wr (wr.alloc (.cells #[.int .i64 x.a, .int .i64 x.ap, .int .i64 x.b, .int .i64 x.bp, .int .i64 x.delay, .int .i64 x.cap] 42))) := ⟨(Below.refl _ _).alloc (Nat.le_refl _) _⟩
        have HROW := Kept.mk (HV.out.below HD.out)
        simp only [ha, hbb] at HCB HO2 HB2 HD2 HM
        have hq2g := hq2
        clear hq1 hq2 hcq1 hcq2 hco hL hv1 hv2 hab
        go_wp2_with fail
        have HCB2 := HCB
        have HQG := Kept.mk hq2g
        have mm0 := (HM.out.cell (p := ⟨bv, ov + bb * 3, none⟩) hbv2).trans m0
        have mm1 := (HM.out.cell (p := ⟨bv, ov + bb * 3 + 1, none⟩) hbv2).trans m1
        have mm2 := (HM.out.cell (p := ⟨bv, ov + bb * 3 + 2, none⟩) hbv2).trans m2
        have HR2 := Kept.mk (HROW.out.keep (fun q hq => HM.out.cell (Nat.lt_of_lt_of_le hq hz)))
        have ff0 := HO2.out.frozenAt (a * 3)
        have ff1 := HO2.out.frozenAt (a * 3 + 1)
        have ff2 := HO2.out.frozenAt (a * 3 + 2)
        clear m0 m1 m2 n0 n1 n2 cu c0 c1 c2 c3 c4 c5 k0 k1 ha hbb
        generalize wr.alloc (.cells #[.int .i64 ↑a, .int .i64 x.ap, .int .i64 ↑bb, .int .i64 x.bp, .int .i64 x.delay, .int .i64 x.cap] 42) = W2 at *
        have hcbk : g < wr.heap.size := hg2
        generalize wr.heap.size = cbk at *
        refine wp_region_K (S := (fun w' => w'.cell? ⟨cbk, 0, none⟩ = some (.int .i64 ↑a) ∧ w'.cell? ⟨cbk, 1, none⟩ = some (.int .i64 x.ap) ∧ w'.cell? ⟨cbk, 2, none⟩ = some (.int .i64 ↑bb) ∧ w'.cell? ⟨cbk, 3, none⟩ = some (.int .i64 x.bp) ∧ w'.cell? ⟨cbk, 4, none⟩ = some (.int .i64 x.delay) ∧ w'.cell? ⟨cbk, 5, none⟩ = some (.int .i64 x.cap) ∧ w'.cell? ⟨bv, ov + bb * 3, none⟩ = some (.int .i64 q1.root) ∧ w'.cell? ⟨bv, ov + bb * 3 + 1, none⟩ = some (.int .i64 q1.dist) ∧ w'.cell? ⟨bv, ov + bb * 3 + 2, none⟩ = some (.int .i64 q1.port) ∧ w'.cell? ⟨g, a * 3, none⟩ = some (.int .i64 v1.root) ∧ w'.cell? ⟨g, a * 3 + 1, none⟩ = some (.int .i64 v1.dist) ∧ w'.cell? ⟨g, a * 3 + 2, none⟩ = some (.int .i64 v1.port))) (k := 19) (by kernel_rfl) (by (try dsimp only); (first | exact ⟨HCB2.out.cell 0 rfl, HCB2.out.cell 1 rfl, HCB2.out.cell 2 rfl, HCB2.out.cell 3 rfl, HCB2.out.cell 4 rfl, HCB2.out.cell 5 rfl, mm0, mm1, mm2, (cellAt3 HO2.out HV1.out HLL.out).1, (cellAt3 HO2.out HV1.out HLL.out).2.1, (cellAt3 HO2.out HV1.out HLL.out).2.2⟩ | exact ⟨HCBx.out.cell 0 rfl, HCBx.out.cell 1 rfl, HCBx.out.cell 2 rfl, HCBx.out.cell 3 rfl, HCBx.out.cell 4 rfl, HCBx.out.cell 5 rfl, mm0x, mm1x, mm2x, (cellAt3 HOx.out HV1.out HLL.out).1, (cellAt3 HOx.out HV1.out HLL.out).2.1, (cellAt3 HOx.out HV1.out HLL.out).2.2⟩)) (fun hHeld => ?_)
        refine wpAnyK_take (i := 0) (v := ?_) rfl (by kernel_rfl) (by kernel_rfl) (by kernel_rfl) (by kernel_rfl) (fun _ _ _ h => h) (Or.inl ⟨by rfl, ?_⟩) (by assumption) ?_; rotate_left; (intro w hSw; (try dsimp only at hSw); go_simp; try (with_reducible rfl)); try simp only [Act.put, List.setIfInBounds_toArray, List.set_cons_zero, List.set_cons_succ, List.getElem_toArray, List.getElem_cons_succ, List.getElem_cons_zero]
        refine wpAnyK_take (i := 1) (v := ?_) rfl (by kernel_rfl) (by kernel_rfl) (by kernel_rfl) (by kernel_rfl) (fun _ _ _ h => h) (Or.inl ⟨by rfl, ?_⟩) (by assumption) ?_; rotate_left; (intro w hSw; (try dsimp only at hSw); go_simp; try (with_reducible rfl)); try simp only [Act.put, List.setIfInBounds_toArray, List.set_cons_zero, List.set_cons_succ, List.getElem_toArray, List.getElem_cons_succ, List.getElem_cons_zero]
        refine wpAnyK_take (i := 2) (v := ?_) rfl (by kernel_rfl) (by kernel_rfl) (by kernel_rfl) (by kernel_rfl) (fun _ _ _ h => h) (Or.inl ⟨by rfl, ?_⟩) (by assumption) ?_; rotate_left; (intro w hSw; (try dsimp only at hSw); go_simp; try (with_reducible rfl)); try simp only [Act.put, List.setIfInBounds_toArray, List.set_cons_zero, List.set_cons_succ, List.getElem_toArray, List.getElem_cons_succ, List.getElem_cons_zero]
        refine wpAnyK_take (i := 3) (v := ?_) rfl (by kernel_rfl) (by kernel_rfl) (by kernel_rfl) (by kernel_rfl) (fun _ _ _ h => h) (Or.inl ⟨by rfl, ?_⟩) (by assumption) ?_; rotate_left; (intro w hSw; (try dsimp only at hSw); go_simp; try (with_reducible rfl)); try simp only [Act.put, List.setIfInBounds_toArray, List.set_cons_zero, List.set_cons_succ, List.getElem_toArray, List.getElem_cons_succ, List.getElem_cons_zero]
        refine wpAnyK_take (i := 4) (v := ?_) rfl (by kernel_rfl) (by kernel_rfl) (by kernel_rfl) (by kernel_rfl) (fun _ _ _ h => h) (Or.inl ⟨by rfl, ?_⟩) (by assumption) ?_; rotate_left; (intro w hSw; (try dsimp only at hSw); go_simp; try (with_reducible rfl)); try simp only [Act.put, List.setIfInBounds_toArray, List.set_cons_zero, List.set_cons_succ, List.getElem_toArray, List.getElem_cons_succ, List.getElem_cons_zero]
        refine wpAnyK_take (i := 5) (v := ?_) rfl (by kernel_rfl) (by kernel_rfl) (by kernel_rfl) (by kernel_rfl) (fun _ _ _ h => h) (Or.inl ⟨by rfl, ?_⟩) (by assumption) ?_; rotate_left; (intro w hSw; (try dsimp only at hSw); go_simp; try (with_reducible rfl)); try simp only [Act.put, List.setIfInBounds_toArray, List.set_cons_zero, List.set_cons_succ, List.getElem_toArray, List.getElem_cons_succ, List.getElem_cons_zero]
        refine wpAnyK_take (i := 6) (v := ?_) rfl (by kernel_rfl) (by kernel_rfl) (by kernel_rfl) (by kernel_rfl) (fun _ _ _ h => h) (Or.inl ⟨by rfl, ?_⟩) (by assumption) ?_; rotate_left; (intro w hSw; (try dsimp only at hSw); go_simp; try (with_reducible rfl)); try simp only [Act.put, List.setIfInBounds_toArray, List.set_cons_zero, List.set_cons_succ, List.getElem_toArray, List.getElem_cons_succ, List.getElem_cons_zero]
        refine wpAnyK_take (i := 7) (v := ?_) rfl (by kernel_rfl) (by kernel_rfl) (by kernel_rfl) (by kernel_rfl) (fun _ _ _ h => h) (Or.inl ⟨by rfl, ?_⟩) (by assumption) ?_; rotate_left; (intro w hSw; (try dsimp only at hSw); go_simp; try (with_reducible rfl)); try simp only [Act.put, List.setIfInBounds_toArray, List.set_cons_zero, List.set_cons_succ, List.getElem_toArray, List.getElem_cons_succ, List.getElem_cons_zero]
        refine wpAnyK_take (i := 8) (v := ?_) rfl (by kernel_rfl) (by kernel_rfl) (by kernel_rfl) (by kernel_rfl) (fun _ _ _ h => h) (Or.inl ⟨by rfl, ?_⟩) (by assumption) ?_; rotate_left; (intro w hSw; (try dsimp only at hSw); go_simp; try (with_reducible rfl)); try simp only [Act.put, List.setIfInBounds_toArray, List.set_cons_zero, List.set_cons_succ, List.getElem_toArray, List.getElem_cons_succ, List.getElem_cons_zero]
        refine wpAnyK_take (i := 9) (v := ?_) rfl (by kernel_rfl) (by kernel_rfl) (by kernel_rfl) (by kernel_rfl) (fun _ _ _ h => h) (Or.inl ⟨by rfl, ?_⟩) (by assumption) ?_; rotate_left; (intro w hSw; (try dsimp only at hSw); go_simp; try (with_reducible rfl)); try simp only [Act.put, List.setIfInBounds_toArray, List.set_cons_zero, List.set_cons_succ, List.getElem_toArray, List.getElem_cons_succ, List.getElem_cons_zero]
        refine wpAnyK_take (i := 10) (v := ?_) rfl (by kernel_rfl) (by kernel_rfl) (by kernel_rfl) (by kernel_rfl) (fun _ _ _ h => h) (Or.inl ⟨by rfl, ?_⟩) (by assumption) ?_; rotate_left; (intro w hSw; (try dsimp only at hSw); go_simp; try (with_reducible rfl)); try simp only [Act.put, List.setIfInBounds_toArray, List.set_cons_zero, List.set_cons_succ, List.getElem_toArray, List.getElem_cons_succ, List.getElem_cons_zero]
        refine wpAnyK_take (i := 11) (v := ?_) rfl (by kernel_rfl) (by kernel_rfl) (by kernel_rfl) (by kernel_rfl) (fun _ _ _ h => h) (Or.inl ⟨by rfl, ?_⟩) (by assumption) ?_; rotate_left; (intro w hSw; (try dsimp only at hSw); go_simp; try (with_reducible rfl)); try simp only [Act.put, List.setIfInBounds_toArray, List.set_cons_zero, List.set_cons_succ, List.getElem_toArray, List.getElem_cons_succ, List.getElem_cons_zero]
        refine wpAnyK_take (i := 12) (v := ?_) rfl (by kernel_rfl) (by kernel_rfl) (by kernel_rfl) (by kernel_rfl) (fun _ _ _ h => h) (Or.inl ⟨by rfl, ?_⟩) (by assumption) ?_; rotate_left; (intro w hSw; (try dsimp only at hSw); go_simp; try (with_reducible rfl)); try simp only [Act.put, List.setIfInBounds_toArray, List.set_cons_zero, List.set_cons_succ, List.getElem_toArray, List.getElem_cons_succ, List.getElem_cons_zero]
        refine wpAnyK_take (i := 13) (v := ?_) rfl (by kernel_rfl) (by kernel_rfl) (by kernel_rfl) (by kernel_rfl) (fun _ _ _ h => h) (Or.inl ⟨by rfl, ?_⟩) (by assumption) ?_; rotate_left; (intro w hSw; (try dsimp only at hSw); go_simp; try (with_reducible rfl)); try simp only [Act.put, List.setIfInBounds_toArray, List.set_cons_zero, List.set_cons_succ, List.getElem_toArray, List.getElem_cons_succ, List.getElem_cons_zero]
        refine wpAnyK_take (i := 14) (v := ?_) rfl (by kernel_rfl) (by kernel_rfl) (by kernel_rfl) (by kernel_rfl) (fun _ _ _ h => h) (Or.inl ⟨by rfl, ?_⟩) (by assumption) ?_; rotate_left; (intro w hSw; (try dsimp only at hSw); go_simp; try (with_reducible rfl)); try simp only [Act.put, List.setIfInBounds_toArray, List.set_cons_zero, List.set_cons_succ, List.getElem_toArray, List.getElem_cons_succ, List.getElem_cons_zero]
        refine wpAnyK_take (i := 15) (v := ?_) rfl (by kernel_rfl) (by kernel_rfl) (by kernel_rfl) (by kernel_rfl) (fun _ _ _ h => h) (Or.inl ⟨by rfl, ?_⟩) (by assumption) ?_; rotate_left; (intro w hSw; (try dsimp only at hSw); go_simp; try (with_reducible rfl)); try simp only [Act.put, List.setIfInBounds_toArray, List.set_cons_zero, List.set_cons_succ, List.getElem_toArray, List.getElem_cons_succ, List.getElem_cons_zero]
        refine wpAnyK_take (i := 16) (v := ?_) rfl (by kernel_rfl) (by kernel_rfl) (by kernel_rfl) (by kernel_rfl) (fun _ _ _ h => h) (Or.inl ⟨by rfl, ?_⟩) (by assumption) ?_; rotate_left; (intro w hSw; (try dsimp only at hSw); go_simp; try (with_reducible rfl)); try simp only [Act.put, List.setIfInBounds_toArray, List.set_cons_zero, List.set_cons_succ, List.getElem_toArray, List.getElem_cons_succ, List.getElem_cons_zero]
        refine wpAnyK_one (i := 17) (by kernel_rfl) rfl (fun K hK => ?_); go_simp
        refine (heard_c q1 v1 x.ap votes.length _ (by omega) ⟨dq1.1, by omega⟩).mono ?_; rintro e wx ⟨rfl, hb3⟩; obtain ⟨hh, hhe⟩ : ∃ hh, heardV (votes.length : Int) q1 x.ap v1 = hh := ⟨_, rfl⟩; rw [hhe]; have HHE4 := Kept.mk hhe; have HCBx := Kept.mk (HCB2.out.drew.new_ hb3); have HOx := Kept.mk (own_new HO2.out.drew hb3); have HBx := Kept.mk (HB2.out.drew.new_ hb3); have HDx := Kept.mk (join (bdrew HD2.out) hb3); have HRx := Kept.mk (HR2.out.keep (fun q hq => hb3.cell (Nat.lt_of_lt_of_le hq HD2.out.size))); have mm0x := (hb3.cell (p := ⟨bv, ov + bb * 3, none⟩) (Nat.lt_of_lt_of_le hbv HD2.out.size)).trans mm0; have mm1x := (hb3.cell (p := ⟨bv, ov + bb * 3 + 1, none⟩) (Nat.lt_of_lt_of_le hbv HD2.out.size)).trans mm1; have mm2x := (hb3.cell (p := ⟨bv, ov + bb * 3 + 2, none⟩) (Nat.lt_of_lt_of_le hbv HD2.out.size)).trans mm2; have ex := HOx.out.frozenAt ; have fx0 := ex (a * 3); have fx1 := ex (a * 3 + 1); have fx2 := ex (a * 3 + 2); clear hb3 hhe ex; unfold vv
        try go_wp2_with fail
        refine hK.out _ _ (by (try dsimp only); (first | exact ⟨HCB2.out.cell 0 rfl, HCB2.out.cell 1 rfl, HCB2.out.cell 2 rfl, HCB2.out.cell 3 rfl, HCB2.out.cell 4 rfl, HCB2.out.cell 5 rfl, mm0, mm1, mm2, (cellAt3 HO2.out HV1.out HLL.out).1, (cellAt3 HO2.out HV1.out HLL.out).2.1, (cellAt3 HO2.out HV1.out HLL.out).2.2⟩ | exact ⟨HCBx.out.cell 0 rfl, HCBx.out.cell 1 rfl, HCBx.out.cell 2 rfl, HCBx.out.cell 3 rfl, HCBx.out.cell 4 rfl, HCBx.out.cell 5 rfl, mm0x, mm1x, mm2x, (cellAt3 HOx.out HV1.out HLL.out).1, (cellAt3 HOx.out HV1.out HLL.out).2.1, (cellAt3 HOx.out HV1.out HLL.out).2.2⟩)) (fun hHeld => ?_); clear hK K; try simp only [Act.put, List.setIfInBounds_toArray, List.set_cons_zero, List.set_cons_succ, List.getElem_toArray, List.getElem_cons_succ, List.getElem_cons_zero]
        refine wpAnyK_take (i := 18) (v := ?_) rfl (by kernel_rfl) (by kernel_rfl) (by kernel_rfl) (by kernel_rfl) (fun _ _ _ h => h) (Or.inl ⟨by rfl, ?_⟩) (by assumption) ?_; rotate_left; (intro w hSw; (try dsimp only at hSw); go_simp; try (with_reducible rfl)); try simp only [Act.put, List.setIfInBounds_toArray, List.set_cons_zero, List.set_cons_succ, List.getElem_toArray, List.getElem_cons_succ, List.getElem_cons_zero]
        refine wpAnyK_last (by kernel_rfl) rfl (fun K hK => ?_); go_simp
        refine hK.out _ _ ?_; clear hK K; try simp only [Act.put, List.setIfInBounds_toArray, List.set_cons_zero, List.set_cons_succ, List.getElem_toArray, List.getElem_cons_succ, List.getElem_cons_zero]
        refine wpAnyK_done (by kernel_rfl) ?_ _
        have HO4 := Kept.mk (own_set3 (x := hh) HOx.out (show a < _ by rw [HLL.out]; omega))
        have HCB4 := Kept.mk (((HCBx.out.far (p := ⟨g, a * 3, none⟩) (by simp; omega) (.int .i64 hh.root)).far (p := ⟨g, a * 3 + 1, none⟩) (by simp; omega) (.int .i64 hh.dist)).far (p := ⟨g, a * 3 + 2, none⟩) (by simp; omega) (.int .i64 hh.port))
        have HB4 := Kept.mk (((HBx.out.far (p := ⟨g, a * 3, none⟩) (by simp; omega) (.int .i64 hh.root)).far (p := ⟨g, a * 3 + 1, none⟩) (by simp; omega) (.int .i64 hh.dist)).far (p := ⟨g, a * 3 + 2, none⟩) (by simp; omega) (.int .i64 hh.port))
        have HD4 := Kept.mk (((HDx.out.setCell (p := ⟨g, a * 3, none⟩) (by simp; omega) (.int .i64 hh.root)).setCell (p := ⟨g, a * 3 + 1, none⟩) (by simp; omega) (.int .i64 hh.dist)).setCell (p := ⟨g, a * 3 + 2, none⟩) (by simp; omega) (.int .i64 hh.port))
        have HR4 : Kept (RowsAt _ w.heap.size 3 vcell (some ⟨bv, ov, none⟩) votes) := ⟨((HRx.out.keep (fun q hq => World.cell?_setCell_other _ ⟨g, a * 3, none⟩ q (.int .i64 hh.root) (by rintro rfl; simp at hq; omega))).keep (fun q hq => World.cell?_setCell_other _ ⟨g, a * 3 + 1, none⟩ q (.int .i64 hh.dist) (by rintro rfl; simp at hq; omega))).keep (fun q hq => World.cell?_setCell_other _ ⟨g, a * 3 + 2, none⟩ q (.int .i64 hh.port) (by rintro rfl; simp at hq; omega))⟩
        generalize World.setCell _ _ _ = W4 at *
        have HLL4 : Kept ((L.set a hh).length = votes.length) := ⟨by rw [List.length_set]; exact HLL.out⟩
        have HV24 : Kept ((L.set a hh)[bb]? = some v2) := ⟨by rw [List.getElem?_set_ne HAB.out]; exact HV2.out⟩
        obtain ⟨qq, bv', ov', hqq, hAA, -, -, hcqq⟩ := HR4.out.at_ han
        rw [HQG.out] at hqq
        injection hqq with hqq
        injection hAA with hAA
        injection hAA with e1 e2
        subst e1; subst e2; subst hqq
        have nn0 := hcqq 0 (.int .i64 q2.root) rfl
        have nn1 := hcqq 1 (.int .i64 q2.dist) rfl
        have nn2 := hcqq 2 (.int .i64 q2.port) rfl
        simp only [Nat.add_zero] at nn0
        have gf0 := HO4.out.frozenAt (bb * 3)
        have gf1 := HO4.out.frozenAt (bb * 3 + 1)
        have gf2 := HO4.out.frozenAt (bb * 3 + 2)
        clear hcqq HCBx HOx HBx HDx HRx mm0 mm1 mm2 mm0x mm1x mm2x fx0 fx1 fx2
        go_wp2_with fail
        refine wp_region_K (S := (fun w' => w'.cell? ⟨cbk, 0, none⟩ = some (.int .i64 ↑a) ∧ w'.cell? ⟨cbk, 1, none⟩ = some (.int .i64 x.ap) ∧ w'.cell? ⟨cbk, 2, none⟩ = some (.int .i64 ↑bb) ∧ w'.cell? ⟨cbk, 3, none⟩ = some (.int .i64 x.bp) ∧ w'.cell? ⟨cbk, 4, none⟩ = some (.int .i64 x.delay) ∧ w'.cell? ⟨cbk, 5, none⟩ = some (.int .i64 x.cap) ∧ w'.cell? ⟨bv, ov + a * 3, none⟩ = some (.int .i64 q2.root) ∧ w'.cell? ⟨bv, ov + a * 3 + 1, none⟩ = some (.int .i64 q2.dist) ∧ w'.cell? ⟨bv, ov + a * 3 + 2, none⟩ = some (.int .i64 q2.port) ∧ w'.cell? ⟨g, bb * 3, none⟩ = some (.int .i64 v2.root) ∧ w'.cell? ⟨g, bb * 3 + 1, none⟩ = some (.int .i64 v2.dist) ∧ w'.cell? ⟨g, bb * 3 + 2, none⟩ = some (.int .i64 v2.port))) (k := 19) (by kernel_rfl) (by (try dsimp only); (first | exact ⟨HCB4.out.cell 0 rfl, HCB4.out.cell 1 rfl, HCB4.out.cell 2 rfl, HCB4.out.cell 3 rfl, HCB4.out.cell 4 rfl, HCB4.out.cell 5 rfl, nn0, nn1, nn2, (cellAt3 HO4.out HV24.out HLL4.out).1, (cellAt3 HO4.out HV24.out HLL4.out).2.1, (cellAt3 HO4.out HV24.out HLL4.out).2.2⟩ | exact ⟨HCBx.out.cell 0 rfl, HCBx.out.cell 1 rfl, HCBx.out.cell 2 rfl, HCBx.out.cell 3 rfl, HCBx.out.cell 4 rfl, HCBx.out.cell 5 rfl, nn0x, nn1x, nn2x, (cellAt3 HOx.out HV24.out HLL4.out).1, (cellAt3 HOx.out HV24.out HLL4.out).2.1, (cellAt3 HOx.out HV24.out HLL4.out).2.2⟩)) (fun hHeld => ?_)
        refine wpAnyK_take (i := 0) (v := ?_) rfl (by kernel_rfl) (by kernel_rfl) (by kernel_rfl) (by kernel_rfl) (fun _ _ _ h => h) (Or.inl ⟨by rfl, ?_⟩) (by assumption) ?_; rotate_left; (intro w hSw; (try dsimp only at hSw); go_simp; try (with_reducible rfl)); try simp only [Act.put, List.setIfInBounds_toArray, List.set_cons_zero, List.set_cons_succ, List.getElem_toArray, List.getElem_cons_succ, List.getElem_cons_zero]
        refine wpAnyK_take (i := 1) (v := ?_) rfl (by kernel_rfl) (by kernel_rfl) (by kernel_rfl) (by kernel_rfl) (fun _ _ _ h => h) (Or.inl ⟨by rfl, ?_⟩) (by assumption) ?_; rotate_left; (intro w hSw; (try dsimp only at hSw); go_simp; try (with_reducible rfl)); try simp only [Act.put, List.setIfInBounds_toArray, List.set_cons_zero, List.set_cons_succ, List.getElem_toArray, List.getElem_cons_succ, List.getElem_cons_zero]
        refine wpAnyK_take (i := 2) (v := ?_) rfl (by kernel_rfl) (by kernel_rfl) (by kernel_rfl) (by kernel_rfl) (fun _ _ _ h => h) (Or.inl ⟨by rfl, ?_⟩) (by assumption) ?_; rotate_left; (intro w hSw; (try dsimp only at hSw); go_simp; try (with_reducible rfl)); try simp only [Act.put, List.setIfInBounds_toArray, List.set_cons_zero, List.set_cons_succ, List.getElem_toArray, List.getElem_cons_succ, List.getElem_cons_zero]
        refine wpAnyK_take (i := 3) (v := ?_) rfl (by kernel_rfl) (by kernel_rfl) (by kernel_rfl) (by kernel_rfl) (fun _ _ _ h => h) (Or.inl ⟨by rfl, ?_⟩) (by assumption) ?_; rotate_left; (intro w hSw; (try dsimp only at hSw); go_simp; try (with_reducible rfl)); try simp only [Act.put, List.setIfInBounds_toArray, List.set_cons_zero, List.set_cons_succ, List.getElem_toArray, List.getElem_cons_succ, List.getElem_cons_zero]
        refine wpAnyK_take (i := 4) (v := ?_) rfl (by kernel_rfl) (by kernel_rfl) (by kernel_rfl) (by kernel_rfl) (fun _ _ _ h => h) (Or.inl ⟨by rfl, ?_⟩) (by assumption) ?_; rotate_left; (intro w hSw; (try dsimp only at hSw); go_simp; try (with_reducible rfl)); try simp only [Act.put, List.setIfInBounds_toArray, List.set_cons_zero, List.set_cons_succ, List.getElem_toArray, List.getElem_cons_succ, List.getElem_cons_zero]
        refine wpAnyK_take (i := 5) (v := ?_) rfl (by kernel_rfl) (by kernel_rfl) (by kernel_rfl) (by kernel_rfl) (fun _ _ _ h => h) (Or.inl ⟨by rfl, ?_⟩) (by assumption) ?_; rotate_left; (intro w hSw; (try dsimp only at hSw); go_simp; try (with_reducible rfl)); try simp only [Act.put, List.setIfInBounds_toArray, List.set_cons_zero, List.set_cons_succ, List.getElem_toArray, List.getElem_cons_succ, List.getElem_cons_zero]
        refine wpAnyK_take (i := 6) (v := ?_) rfl (by kernel_rfl) (by kernel_rfl) (by kernel_rfl) (by kernel_rfl) (fun _ _ _ h => h) (Or.inl ⟨by rfl, ?_⟩) (by assumption) ?_; rotate_left; (intro w hSw; (try dsimp only at hSw); go_simp; try (with_reducible rfl)); try simp only [Act.put, List.setIfInBounds_toArray, List.set_cons_zero, List.set_cons_succ, List.getElem_toArray, List.getElem_cons_succ, List.getElem_cons_zero]
        refine wpAnyK_take (i := 7) (v := ?_) rfl (by kernel_rfl) (by kernel_rfl) (by kernel_rfl) (by kernel_rfl) (fun _ _ _ h => h) (Or.inl ⟨by rfl, ?_⟩) (by assumption) ?_; rotate_left; (intro w hSw; (try dsimp only at hSw); go_simp; try (with_reducible rfl)); try simp only [Act.put, List.setIfInBounds_toArray, List.set_cons_zero, List.set_cons_succ, List.getElem_toArray, List.getElem_cons_succ, List.getElem_cons_zero]
        refine wpAnyK_take (i := 8) (v := ?_) rfl (by kernel_rfl) (by kernel_rfl) (by kernel_rfl) (by kernel_rfl) (fun _ _ _ h => h) (Or.inl ⟨by rfl, ?_⟩) (by assumption) ?_; rotate_left; (intro w hSw; (try dsimp only at hSw); go_simp; try (with_reducible rfl)); try simp only [Act.put, List.setIfInBounds_toArray, List.set_cons_zero, List.set_cons_succ, List.getElem_toArray, List.getElem_cons_succ, List.getElem_cons_zero]
        refine wpAnyK_take (i := 9) (v := ?_) rfl (by kernel_rfl) (by kernel_rfl) (by kernel_rfl) (by kernel_rfl) (fun _ _ _ h => h) (Or.inl ⟨by rfl, ?_⟩) (by assumption) ?_; rotate_left; (intro w hSw; (try dsimp only at hSw); go_simp; try (with_reducible rfl)); try simp only [Act.put, List.setIfInBounds_toArray, List.set_cons_zero, List.set_cons_succ, List.getElem_toArray, List.getElem_cons_succ, List.getElem_cons_zero]
        refine wpAnyK_take (i := 10) (v := ?_) rfl (by kernel_rfl) (by kernel_rfl) (by kernel_rfl) (by kernel_rfl) (fun _ _ _ h => h) (Or.inl ⟨by rfl, ?_⟩) (by assumption) ?_; rotate_left; (intro w hSw; (try dsimp only at hSw); go_simp; try (with_reducible rfl)); try simp only [Act.put, List.setIfInBounds_toArray, List.set_cons_zero, List.set_cons_succ, List.getElem_toArray, List.getElem_cons_succ, List.getElem_cons_zero]
        refine wpAnyK_take (i := 11) (v := ?_) rfl (by kernel_rfl) (by kernel_rfl) (by kernel_rfl) (by kernel_rfl) (fun _ _ _ h => h) (Or.inl ⟨by rfl, ?_⟩) (by assumption) ?_; rotate_left; (intro w hSw; (try dsimp only at hSw); go_simp; try (with_reducible rfl)); try simp only [Act.put, List.setIfInBounds_toArray, List.set_cons_zero, List.set_cons_succ, List.getElem_toArray, List.getElem_cons_succ, List.getElem_cons_zero]
        refine wpAnyK_take (i := 12) (v := ?_) rfl (by kernel_rfl) (by kernel_rfl) (by kernel_rfl) (by kernel_rfl) (fun _ _ _ h => h) (Or.inl ⟨by rfl, ?_⟩) (by assumption) ?_; rotate_left; (intro w hSw; (try dsimp only at hSw); go_simp; try (with_reducible rfl)); try simp only [Act.put, List.setIfInBounds_toArray, List.set_cons_zero, List.set_cons_succ, List.getElem_toArray, List.getElem_cons_succ, List.getElem_cons_zero]
        refine wpAnyK_take (i := 13) (v := ?_) rfl (by kernel_rfl) (by kernel_rfl) (by kernel_rfl) (by kernel_rfl) (fun _ _ _ h => h) (Or.inl ⟨by rfl, ?_⟩) (by assumption) ?_; rotate_left; (intro w hSw; (try dsimp only at hSw); go_simp; try (with_reducible rfl)); try simp only [Act.put, List.setIfInBounds_toArray, List.set_cons_zero, List.set_cons_succ, List.getElem_toArray, List.getElem_cons_succ, List.getElem_cons_zero]
        refine wpAnyK_take (i := 14) (v := ?_) rfl (by kernel_rfl) (by kernel_rfl) (by kernel_rfl) (by kernel_rfl) (fun _ _ _ h => h) (Or.inl ⟨by rfl, ?_⟩) (by assumption) ?_; rotate_left; (intro w hSw; (try dsimp only at hSw); go_simp; try (with_reducible rfl)); try simp only [Act.put, List.setIfInBounds_toArray, List.set_cons_zero, List.set_cons_succ, List.getElem_toArray, List.getElem_cons_succ, List.getElem_cons_zero]
        refine wpAnyK_take (i := 15) (v := ?_) rfl (by kernel_rfl) (by kernel_rfl) (by kernel_rfl) (by kernel_rfl) (fun _ _ _ h => h) (Or.inl ⟨by rfl, ?_⟩) (by assumption) ?_; rotate_left; (intro w hSw; (try dsimp only at hSw); go_simp; try (with_reducible rfl)); try simp only [Act.put, List.setIfInBounds_toArray, List.set_cons_zero, List.set_cons_succ, List.getElem_toArray, List.getElem_cons_succ, List.getElem_cons_zero]
        refine wpAnyK_take (i := 16) (v := ?_) rfl (by kernel_rfl) (by kernel_rfl) (by kernel_rfl) (by kernel_rfl) (fun _ _ _ h => h) (Or.inl ⟨by rfl, ?_⟩) (by assumption) ?_; rotate_left; (intro w hSw; (try dsimp only at hSw); go_simp; try (with_reducible rfl)); try simp only [Act.put, List.setIfInBounds_toArray, List.set_cons_zero, List.set_cons_succ, List.getElem_toArray, List.getElem_cons_succ, List.getElem_cons_zero]
        refine wpAnyK_one (i := 17) (by kernel_rfl) rfl (fun K hK => ?_); go_simp
        refine (heard_c q2 v2 x.bp votes.length _ (by omega) ⟨dq2.1, by omega⟩).mono ?_; rintro e wx ⟨rfl, hb3⟩; obtain ⟨h2, hhe⟩ : ∃ hh, heardV (votes.length : Int) q2 x.bp v2 = hh := ⟨_, rfl⟩; rw [hhe]; have HHE5 := Kept.mk hhe; have HCBx := Kept.mk (HCB4.out.drew.new_ hb3); have HOx := Kept.mk (own_new HO4.out.drew hb3); have HBx := Kept.mk (HB4.out.drew.new_ hb3); have HDx := Kept.mk (join (bdrew HD4.out) hb3); have HRx := Kept.mk (HR4.out.keep (fun q hq => hb3.cell (Nat.lt_of_lt_of_le hq HD4.out.size))); have nn0x := (hb3.cell (p := ⟨bv, ov + a * 3, none⟩) (Nat.lt_of_lt_of_le hbv HD4.out.size)).trans nn0; have nn1x := (hb3.cell (p := ⟨bv, ov + a * 3 + 1, none⟩) (Nat.lt_of_lt_of_le hbv HD4.out.size)).trans nn1; have nn2x := (hb3.cell (p := ⟨bv, ov + a * 3 + 2, none⟩) (Nat.lt_of_lt_of_le hbv HD4.out.size)).trans nn2; have ex := HOx.out.frozenAt ; have fx0 := ex (bb * 3); have fx1 := ex (bb * 3 + 1); have fx2 := ex (bb * 3 + 2); clear hb3 hhe ex; unfold vv
        try go_wp2_with fail
        refine hK.out _ _ (by (try dsimp only); (first | exact ⟨HCB4.out.cell 0 rfl, HCB4.out.cell 1 rfl, HCB4.out.cell 2 rfl, HCB4.out.cell 3 rfl, HCB4.out.cell 4 rfl, HCB4.out.cell 5 rfl, nn0, nn1, nn2, (cellAt3 HO4.out HV24.out HLL4.out).1, (cellAt3 HO4.out HV24.out HLL4.out).2.1, (cellAt3 HO4.out HV24.out HLL4.out).2.2⟩ | exact ⟨HCBx.out.cell 0 rfl, HCBx.out.cell 1 rfl, HCBx.out.cell 2 rfl, HCBx.out.cell 3 rfl, HCBx.out.cell 4 rfl, HCBx.out.cell 5 rfl, nn0x, nn1x, nn2x, (cellAt3 HOx.out HV24.out HLL4.out).1, (cellAt3 HOx.out HV24.out HLL4.out).2.1, (cellAt3 HOx.out HV24.out HLL4.out).2.2⟩)) (fun hHeld => ?_); clear hK K; try simp only [Act.put, List.setIfInBounds_toArray, List.set_cons_zero, List.set_cons_succ, List.getElem_toArray, List.getElem_cons_succ, List.getElem_cons_zero]
        refine wpAnyK_take (i := 18) (v := ?_) rfl (by kernel_rfl) (by kernel_rfl) (by kernel_rfl) (by kernel_rfl) (fun _ _ _ h => h) (Or.inl ⟨by rfl, ?_⟩) (by assumption) ?_; rotate_left; (intro w hSw; (try dsimp only at hSw); go_simp; try (with_reducible rfl)); try simp only [Act.put, List.setIfInBounds_toArray, List.set_cons_zero, List.set_cons_succ, List.getElem_toArray, List.getElem_cons_succ, List.getElem_cons_zero]
        refine wpAnyK_last (by kernel_rfl) rfl (fun K hK => ?_); go_simp
        refine hK.out _ _ ?_; clear hK K; try simp only [Act.put, List.setIfInBounds_toArray, List.set_cons_zero, List.set_cons_succ, List.getElem_toArray, List.getElem_cons_succ, List.getElem_cons_zero]
        refine wpAnyK_done (by kernel_rfl) ?_ _
        have HO5 := Kept.mk (own_set3 (x := h2) HOx.out (show bb < _ by rw [HLL4.out]; omega))
        have HCB5 := Kept.mk (((HCBx.out.far (p := ⟨g, bb * 3, none⟩) (by simp; omega) (.int .i64 h2.root)).far (p := ⟨g, bb * 3 + 1, none⟩) (by simp; omega) (.int .i64 h2.dist)).far (p := ⟨g, bb * 3 + 2, none⟩) (by simp; omega) (.int .i64 h2.port))
        have HB5 := Kept.mk (((HBx.out.far (p := ⟨g, bb * 3, none⟩) (by simp; omega) (.int .i64 h2.root)).far (p := ⟨g, bb * 3 + 1, none⟩) (by simp; omega) (.int .i64 h2.dist)).far (p := ⟨g, bb * 3 + 2, none⟩) (by simp; omega) (.int .i64 h2.port))
        have HD5 := Kept.mk (((HDx.out.setCell (p := ⟨g, bb * 3, none⟩) (by simp; omega) (.int .i64 h2.root)).setCell (p := ⟨g, bb * 3 + 1, none⟩) (by simp; omega) (.int .i64 h2.dist)).setCell (p := ⟨g, bb * 3 + 2, none⟩) (by simp; omega) (.int .i64 h2.port))
        have HR5 : Kept (RowsAt _ w.heap.size 3 vcell (some ⟨bv, ov, none⟩) votes) := ⟨((HRx.out.keep (fun q hq => World.cell?_setCell_other _ ⟨g, bb * 3, none⟩ q (.int .i64 h2.root) (by rintro rfl; simp at hq; omega))).keep (fun q hq => World.cell?_setCell_other _ ⟨g, bb * 3 + 1, none⟩ q (.int .i64 h2.dist) (by rintro rfl; simp at hq; omega))).keep (fun q hq => World.cell?_setCell_other _ ⟨g, bb * 3 + 2, none⟩ q (.int .i64 h2.port) (by rintro rfl; simp at hq; omega))⟩
        generalize World.setCell _ _ _ = W5 at *
        have HFIN : Kept (W5.ownsRow (w.heap.size + 1) 27 3 (.slice (some ⟨g, 0, none⟩) votes.length cap) votes.length ((midP votes.length votes ((C.zip up).take (c + 1))).flatMap vcell)) := ⟨by
          rw [HTK.out, HMID.out, HXA.out, HXB.out, HQ1.out, HQ2.out, HHE4.out, HHE5.out]; exact HO5.out⟩
        clear HCBx HOx HBx HDx HRx nn0 nn1 nn2 nn0x nn1x nn2x fx0 fx1 fx2
        go_wp2_with fail
        go_roundw
        case rel => exact ⟨c + 1, by omega, by go_num, HFIN, HB5, HD5⟩
        case measure => simp [intOf]; omega
    · obtain rfl : c = up.length := by omega
      have HO2 : Kept (wr.ownsRow (w.heap.size + 1) 27 3 v votes.length ((roundP C up votes).flatMap vcell)) := ⟨by
        have h := HO.out
        rw [List.take_of_length_le (by rw [List.length_zip]; omega), midP_all] at h
        exact h⟩
      have HO3 := Kept.mk (own_base HO2.out (Nat.le_succ _))
      clear hlt
      go_wp2_with fail
      go_ret
      exact ⟨_, rfl, by rw [roundP_len]; exact HO3.out, HD.out⟩
end Go.Proofs.Ytckigonkcjceeaa
