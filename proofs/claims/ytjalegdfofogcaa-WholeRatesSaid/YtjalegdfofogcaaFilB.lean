/- The candidate of a link. -/
import Derived.Test.YtjalegdfofogcaaFilA
import Derived.BigQuiet
namespace Go.Proofs.Ytjalegdfofogcaa
set_option linter.unusedVariables false
set_option linter.unusedSimpArgs false
open Go.RowKit
/-- The boxes of candidate: the result, the sum. -/
structure CB (w W : World) (B g gr gz : Nat) (n : PNet) (rs : List Rq) (fz : List Bool) (s : Rq) : Prop where
  st : FillAt W B g gr gz n rs fz
  r : Blk W w.heap.size 32 #[.int .i64 0, .int .i64 0]
  s : Blk W (w.heap.size + 1) 32 #[.int .i64 s.n, .int .i64 s.d]
  blw : Below w.heap.size w W
theorem CB.new_ {w W W' : World} {B g gr gz : Nat} {n : PNet} {rs : List Rq} {fz : List Bool} {s : Rq} (h : CB w W B g gr gz n rs fz s) (hb : Below W.heap.size W W') : CB w W' B g gr gz n rs fz s := ⟨h.st.new_ hb, h.r.new_ hb, h.s.new_ hb, join h.blw hb⟩
theorem CB.alloc {w W : World} {B g gr gz : Nat} {n : PNet} {rs : List Rq} {fz : List Bool} {s : Rq} (h : CB w W B g gr gz n rs fz s) (o : Obj) : CB w (W.alloc o) B g gr gz n rs fz s := h.new_ ((Below.refl _ _).alloc (Nat.le_refl _) o)
theorem CB.start {w : World} {B g gr gz : Nat} {n : PNet} {rs : List Rq} {fz : List Bool} (h : FillAt w B g gr gz n rs fz) : CB w ((w.alloc (.cells #[.int .i64 0, .int .i64 0] 32)).alloc (.cells #[.int .i64 0, .int .i64 1] 32)) B g gr gz n rs fz ⟨0, 1⟩ := by
  have h2 : Blk ((w.alloc (.cells #[.int .i64 0, .int .i64 0] 32)).alloc (.cells #[.int .i64 0, .int .i64 1] 32)) ((w.alloc (.cells #[.int .i64 0, .int .i64 0] 32))).heap.size 32 #[.int .i64 0, .int .i64 1] := Blk.new _ _ _
  rw [World.size_alloc] at h2
  have hb : Below w.heap.size w ((w.alloc (.cells #[.int .i64 0, .int .i64 0] 32)).alloc (.cells #[.int .i64 0, .int .i64 1] 32)) := by go_grown
  exact ⟨h.new_ hb, (Blk.new _ _ _).alloc _, h2, hb⟩
theorem FillAt.set_ {w W : World} {B g gr gz : Nat} {n : PNet} {rs : List Rq} {fz : List Bool} {p : Addr} (h : FillAt W B g gr gz n rs fz) (h1 : g ≠ p.block) (h2 : gr ≠ p.block) (h3 : gz ≠ p.block) (h4 : B ≤ p.block) (u : Value) : FillAt (W.setCell p u) B g gr gz n rs fz :=
  ⟨h.box.far h1 u, h.net.keep (B' := B) fun q hq => World.cell?_setCell_other W p q u (fun e => by subst e; omega), h.rr.far h2 u, h.rz.far h3 u, h.lr, h.lz, h.bg, h.r64⟩
/-- The result's box is stored into. -/
theorem CB.fin {w W : World} {B g gr gz : Nat} {n : PNet} {rs : List Rq} {fz : List Bool} {s : Rq} (h : CB w W B g gr gz n rs fz s) (x y : Value) : ∃ W', W' = (W.setCell ⟨w.heap.size, 0, none⟩ x).setCell ⟨w.heap.size, 1, none⟩ y ∧ W'.cell? ⟨w.heap.size, 0, none⟩ = some x ∧ W'.cell? ⟨w.heap.size, 1, none⟩ = some y ∧ Below w.heap.size w W' := by
  have hb : Blk ((W.setCell ⟨w.heap.size, 0, none⟩ x).setCell ⟨w.heap.size, 1, none⟩ y) w.heap.size 32 #[x, y] := (h.r.set_ 0 x).to 1 y rfl
  exact ⟨_, rfl, hb.cell 0 rfl, hb.cell 1 rfl, (h.blw.setCell (Nat.le_refl _) _).setCell (Nat.le_refl _) _⟩
/-- The sum's box is stored into. -/
theorem CB.put {w W : World} {B g gr gz : Nat} {n : PNet} {rs : List Rq} {fz : List Bool} {s : Rq} (h : CB w W B g gr gz n rs fz s) (hg : g < w.heap.size ∧ gr < w.heap.size ∧ gz < w.heap.size ∧ B ≤ w.heap.size) (t : Rq) : CB w ((W.setCell ⟨w.heap.size + 1, 0, none⟩ (.int .i64 t.n)).setCell ⟨w.heap.size + 1, 1, none⟩ (.int .i64 t.d)) B g gr gz n rs fz t :=
  ⟨(h.st.set_ (w := w) (by simp only; omega) (by simp only; omega) (by simp only; omega) (by simp only; omega) _).set_ (w := w) (by simp only; omega) (by simp only; omega) (by simp only; omega) (by simp only; omega) _,
   (h.r.far (by simp only; omega) _).far (by simp only; omega) _, (h.s.set_ 0 _).to 1 _ rfl, (h.blw.setCell (by simp only; omega) _).setCell (by simp only; omega) _⟩
/-- What candidate answers. -/
def candR (n : PNet) (fz : List Bool) (rs : List Rq) (l : Nat) : Value :=
  if ocnt n.flows fz l n.flows.length = 0 then .tuple #[rqv ⟨0, 0⟩, .bool false, .int .i64 0] else .tuple #[rqv (cq (candQ n fz rs l)), .bool true, .int .i64 0]
theorem isF_of {fz : List Bool} {k : Nat} {b : Bool} (h : fz[k]? = some b) : isF fz k = b := by unfold isF; rw [List.getD_eq_getElem?_getD, h]; rfl
theorem uses_of {flows : List PFlow} {k l : Nat} {p : PFlow} (h : flows[k]? = some p) : usesL flows k l = p.ls.contains (l : Int) := by unfold usesL; rw [h]; rfl
set_option maxRecDepth 100000 in
set_option maxHeartbeats 8000000 in
theorem cand_c (n : PNet) (B g gr gz l D C M : Nat) (rs : List Rq) (fz : List Bool) (w : World) (hst : FillAt w B g gr gz n rs fz) (hl : l < n.caps.length) (hf5 : n.flows.length ≤ 5)
    (hcok : ∀ c ∈ n.caps, okQ c = true ∧ Gd D C (val c)) (hro : RatesOk D M fz rs) (hD : 1 ≤ D) (hD2 : D ≤ 1048576) (hM : (C + 6 * M) * D ≤ 549755813888) :
    Calls Try.prog 70 #[.pointer (some ⟨g, 0, none⟩), .int .i64 (l : Int)] w fun e w' => e = .returned (candR n fz rs l) ∧ Below w.heap.size w w' := by
  have HST := Kept.mk hst
  have HCO := Kept.mk hcok
  have HRO := Kept.mk hro
  have HMM := Kept.mk hM
  have hcm : n.caps.length ≤ 9223372036854775807 := by have := hst.net.cle; unfold maxLen at this; omega
  have HGS : Kept (g < w.heap.size ∧ gr < w.heap.size ∧ gz < w.heap.size ∧ B ≤ w.heap.size) := ⟨hst.box.lt, hst.rr.lt, hst.rz.lt, by have := hst.bg; have := hst.box.lt; omega⟩
  clear hst hcok hro hM
  obtain ⟨caps, cA, ck, flows, fA, fk⟩ := n
  dsimp only at hl hf5 hcm HCO
  obtain ⟨R, hR⟩ : ∃ R, R = candR ⟨caps, cA, ck, flows, fA, fk⟩ fz rs l := ⟨_, rfl⟩
  rw [← hR]
  have HR := Kept.mk hR
  clear hR
  obtain ⟨ln, hln⟩ : ∃ z : Nat, z = flows.length := ⟨_, rfl⟩
  have HLN := Kept.mk hln
  clear hln
  go_enter Try.func70, Try.ntmps70
  go_upto_region 3 with fail
  obtain ⟨U, hU, HU⟩ : ∃ U, U = (w.alloc (.cells #[.int .i64 0, .int .i64 0] 32)).alloc (.cells #[.int .i64 0, .int .i64 1] 32) ∧ Kept (CB w U B g gr gz ⟨caps, cA, ck, flows, fA, fk⟩ rs fz ⟨0, 1⟩) := ⟨_, rfl, ⟨CB.start HST.out⟩⟩
  rw [← hU]
  clear hU HST
  have n0 := HU.out.st.box.cell 0 rfl; have n1 := HU.out.st.box.cell 1 rfl; have n2 := HU.out.st.box.cell 2 rfl; have n3 := HU.out.st.box.cell 3 rfl; dsimp only at n0 n1 n2 n3
  go_wp2_with fail
  go_loopw [8, 25] (fun v8 v wr => ∃ k : Nat, k ≤ flows.length ∧ v = .int .i64 k ∧ v8 = .int .i64 (ocnt flows fz l k : Nat) ∧ Kept (CB w wr B g gr gz ⟨caps, cA, ck, flows, fA, fk⟩ rs fz ⟨0, 1⟩)) (fun _ v _ => flows.length - (intOf v).toNat)
  case atStart => exact ⟨0, Nat.zero_le _, rfl, rfl, HU⟩
  case round =>
    clear HU n0 n1 n2 n3
    obtain ⟨k, hk, rfl, rfl, HU⟩ := hrel
    have n0 := HU.out.st.box.cell 0 rfl; have n1 := HU.out.st.box.cell 1 rfl; have n2 := HU.out.st.box.cell 2 rfl; have n3 := HU.out.st.box.cell 3 rfl; dsimp only at n0 n1 n2 n3
    by_cases hlt : k < flows.length
    · obtain ⟨p, bF, oF, hp, rfl, -, hb, ⟨c0, c1, c2, c3⟩, hfl⟩ := HU.out.st.net.flowAt hlt
      obtain ⟨ls, pA, kap, pb, pd⟩ := p
      dsimp only at c0 c1 c2 c3
      obtain ⟨zb, hzb, z0⟩ := HU.out.st.frozen hlt
      have HP := Kept.mk hp
      have HZB := Kept.mk hzb
      have hlm : ls.length ≤ 9223372036854775807 := by have h1 := hfl.le; have h2 := hfl.mx; unfold maxLen at h2; dsimp only at h1 h2; omega
      have HFL := Kept.mk hfl
      have CO := fun w h => contains_c ls pA kap (l : Int) w h hlm
      have HV0 := Kept.mk (HU.out.alloc (.cells #[.slice pA ls.length kap, .bool pb, .int .i64 pd.n, .int .i64 pd.d] 37))
      have HB7 := Kept.mk (Blk.new wr 37 #[.slice pA ls.length kap, .bool pb, .int .i64 pd.n, .int .i64 pd.d])
      have HRD : Kept (RowsAt (wr.alloc (.cells #[.slice pA ls.length kap, .bool pb, .int .i64 pd.n, .int .i64 pd.d] 37)) (wr.alloc (.cells #[.slice pA ls.length kap, .bool pb, .int .i64 pd.n, .int .i64 pd.d] 37)).heap.size 1 icell pA ls) := ⟨((hfl.rd.keep (w' := wr.alloc (.cells #[.slice pA ls.length kap, .bool pb, .int .i64 pd.n, .int .i64 pd.d] 37)) fun q hq => World.cell?_alloc_lt wr _ q (by have := HU.out.st.bg; have := HU.out.st.box.lt; omega)).more (by rw [World.size_alloc]; have := HU.out.st.bg; have := HU.out.st.box.lt; omega))⟩
      have gl1 := HU.out.st.box.lt
      have gl2 := HU.out.st.rz.lt
      have gl3 := HU.out.st.rr.lt
      clear hp hfl

      obtain ⟨q, hq⟩ : ∃ q, ocnt flows fz l k = q := ⟨_, rfl⟩
      have hqk : q ≤ k := by rw [← hq]; exact ocnt_le _ _ _ _
      have HQ := Kept.mk hq
      rw [hq]
      have hwr : IntKind.i64.wrap ((q : Int) + 1) = ((q + 1 : Nat) : Int) := IntWalk.i64_in _ (by omega)
      clear hq
      cases zb with
      | true =>
        have HS : Kept (q = ocnt flows fz l (k + 1)) := ⟨by rw [ocnt, isF_of HZB.out]; simp [HQ.out]⟩
        go_wp2_with fail
        go_roundw
        case rel => exact ⟨k + 1, by omega, by go_num, by rw [HS.out], HV0⟩
        case measure => simp [intOf]; omega
      | false =>
        cases hcc : ls.contains (l : Int) with
        | true =>
          have HK := Kept.mk hcc
          have HS : Kept (q + 1 = ocnt flows fz l (k + 1)) := ⟨by rw [ocnt, isF_of HZB.out, uses_of HP.out, hcc]; simp [HQ.out]⟩
          clear hcc
          go_wp2_with (go_at_call 11; refine (CO _ HRD.out).mono ?_; rintro e wq ⟨rfl, rfl⟩; rw [HK.out])
          go_roundw
          case rel => exact ⟨k + 1, by omega, by go_num, by rw [← HS.out]; rfl, HV0⟩
          case measure => simp [intOf]; omega
        | false =>
          have HK := Kept.mk hcc
          have HS : Kept (q = ocnt flows fz l (k + 1)) := ⟨by rw [ocnt, isF_of HZB.out, uses_of HP.out, hcc]; simp [HQ.out]⟩
          clear hcc
          go_wp2_with (go_at_call 11; refine (CO _ HRD.out).mono ?_; rintro e wq ⟨rfl, rfl⟩; rw [HK.out])
          go_roundw
          case rel => exact ⟨k + 1, by omega, by go_num, by rw [HS.out], HV0⟩
          case measure => simp [intOf]; omega
    · obtain rfl : k = flows.length := by omega
      clear hlt
      obtain ⟨q, hq⟩ : ∃ q, ocnt flows fz l flows.length = q := ⟨_, rfl⟩
      have HQ := Kept.mk hq
      have hqk : q ≤ flows.length := by rw [← hq]; exact ocnt_le _ _ _ _
      rw [hq]
      clear hq
      obtain ⟨wa, rfl⟩ : ∃ wa : World, wa = wr := ⟨_, rfl⟩
      by_cases h0 : q = 0
      · subst h0
        have HRR : Kept (R = .tuple #[.agg #[.int .i64 0, .int .i64 0], .bool false, .int .i64 0]) := ⟨by rw [HR.out]; unfold candR; rw [if_pos HQ.out]; rfl⟩
        have z0 := HU.out.r.cell 0 (v := .int .i64 0) rfl
        have z1 := HU.out.r.cell 1 (v := .int .i64 0) rfl
        have zf0 := HU.out.r.free 0
        have zf1 := HU.out.r.free 1
        have lz := HU.out.r.lt
        go_wp2_with fail
        obtain ⟨W9, hW9, s0, s1, hb⟩ := HU.out.fin (.int .i64 0) (.int .i64 0)
        rw [← hW9]
        clear hW9
        rw [HRR.out]
        exact bodyPost_ret (v := .tuple #[.agg #[.int .i64 0, .int .i64 0], .bool false, .int .i64 0]) (by simp [results, Try.results70, go_sem, s0, s1]) rfl ⟨rfl, hb⟩
      · have hq0 : ((q : Int) == 0) = false := beq_false_of_ne (by omega)
        have hq1 : 1 ≤ q := by omega
        clear h0
        have HSM : Kept (∀ (N : Nat) (x : Rat), Gd D N x → N ≤ C + 6 * M → Sm x) := ⟨fun N x h hN => h.sm hD hD2 (Nat.le_trans (Nat.mul_le_mul_right _ hN) HMM.out)⟩
        have HOS := Kept.mk (fun k => osum_gd (D := D) (M := M) (flows := flows) (l := l) HRO.out (by rw [HU.out.st.lr, HU.out.st.lz]) k)
        go_wp2_with fail
        go_loopw [56] (fun v wr => ∃ k : Nat, k ≤ flows.length ∧ v = .int .i64 k ∧ Kept (CB w wr B g gr gz ⟨caps, cA, ck, flows, fA, fk⟩ rs fz (cq (osum flows fz rs l k)))) (fun v _ => flows.length - (intOf v).toNat)
        case atStart => exact ⟨0, Nat.zero_le _, rfl, HU⟩
        case round =>
          clear HU n0 n1 n2 n3
          obtain ⟨k, hk, rfl, HU⟩ := hrel
          have n0 := HU.out.st.box.cell 0 rfl; have n1 := HU.out.st.box.cell 1 rfl; have n2 := HU.out.st.box.cell 2 rfl; have n3 := HU.out.st.box.cell 3 rfl; dsimp only at n0 n1 n2 n3
          by_cases hlt : k < flows.length
          · obtain ⟨p, bF, oF, hp, rfl, -, hb, ⟨c0, c1, c2, c3⟩, hfl⟩ := HU.out.st.net.flowAt hlt
            obtain ⟨ls, pA, kap, pb, pd⟩ := p
            dsimp only at c0 c1 c2 c3
            obtain ⟨zb, hzb, z0⟩ := HU.out.st.frozen hlt
            have HP := Kept.mk hp
            have HZB := Kept.mk hzb
            have hlm : ls.length ≤ 9223372036854775807 := by have h1 := hfl.le; have h2 := hfl.mx; unfold maxLen at h2; dsimp only at h1 h2; omega
            have HFL := Kept.mk hfl
            have CO := fun w h => contains_c ls pA kap (l : Int) w h hlm
            have HV0 := Kept.mk (HU.out.alloc (.cells #[.slice pA ls.length kap, .bool pb, .int .i64 pd.n, .int .i64 pd.d] 37))
            have HB7 := Kept.mk (Blk.new wr 37 #[.slice pA ls.length kap, .bool pb, .int .i64 pd.n, .int .i64 pd.d])
            have HRD : Kept (RowsAt (wr.alloc (.cells #[.slice pA ls.length kap, .bool pb, .int .i64 pd.n, .int .i64 pd.d] 37)) (wr.alloc (.cells #[.slice pA ls.length kap, .bool pb, .int .i64 pd.n, .int .i64 pd.d] 37)).heap.size 1 icell pA ls) := ⟨((hfl.rd.keep (w' := wr.alloc (.cells #[.slice pA ls.length kap, .bool pb, .int .i64 pd.n, .int .i64 pd.d] 37)) fun q hq => World.cell?_alloc_lt wr _ q (by have := HU.out.st.bg; have := HU.out.st.box.lt; omega)).more (by rw [World.size_alloc]; have := HU.out.st.bg; have := HU.out.st.box.lt; omega))⟩
            have gl1 := HU.out.st.box.lt
            have gl2 := HU.out.st.rz.lt
            have gl3 := HU.out.st.rr.lt
            clear hp hfl

            obtain ⟨s, hs⟩ : ∃ s, s = cq (osum flows fz rs l k) := ⟨_, rfl⟩
            have HS := Kept.mk hs
            rw [← hs] at HU HV0
            clear hs
            cases zb with
            | false =>
              have HN : Kept (s = cq (osum flows fz rs l (k + 1))) := ⟨by rw [osum, isF_of HZB.out, HS.out]; simp [Rat.add_zero]⟩
              go_wp2_with fail
              go_roundw
              case rel => exact ⟨k + 1, by omega, by go_num, by rw [← HN.out]; exact HV0⟩
              case measure => simp [intOf]; omega
            | true =>
              cases hcc : ls.contains (l : Int) with
              | false =>
                have HK := Kept.mk hcc
                have HN : Kept (s = cq (osum flows fz rs l (k + 1))) := ⟨by rw [osum, isF_of HZB.out, uses_of HP.out, hcc, HS.out]; simp [Rat.add_zero]⟩
                clear hcc
                go_wp2_with (go_at_call 11; refine (CO _ HRD.out).mono ?_; rintro e wq ⟨rfl, rfl⟩; rw [HK.out])
                go_roundw
                case rel => exact ⟨k + 1, by omega, by go_num, by rw [← HN.out]; exact HV0⟩
                case measure => simp [intOf]; omega
              | true =>
                have HK := Kept.mk hcc
                obtain ⟨r, hr, r0, r1, r64⟩ := HV0.out.st.rate hlt
                have HRK := HRO.out k r HZB.out hr
                obtain ⟨Q, hQ⟩ : ∃ Q, Q = cq (osum flows fz rs l k + val r) := ⟨_, rfl⟩
                have hkm := Nat.mul_le_mul_right M (show k ≤ 5 by omega)
                have CA := fun w => add_q s r w (by rw [HS.out]; exact (HSM.out _ _ (HOS.out k) (by omega)).ok) HRK.1 (by rw [HS.out, val_cq]; exact HSM.out _ _ (HOS.out k) (by omega)) (HSM.out _ _ HRK.2 (by omega))
                have hsv : val s = osum flows fz rs l k := by rw [HS.out, val_cq]
                rw [hsv, ← hQ] at CA
                unfold rqv at CA
                have HN : Kept (Q = cq (osum flows fz rs l (k + 1))) := ⟨by
                  rw [hQ, osum, isF_of HZB.out, uses_of HP.out, hcc]
                  simp only [Bool.and_self, if_true]
                  rw [List.getD_eq_getElem?_getD, hr]
                  rfl⟩
                have HRG := Kept.mk hr
                clear hcc hQ hr hsv HRK hkm
                go_upto_region 15 with (go_at_call 11; refine (CO _ HRD.out).mono ?_; rintro e wq ⟨rfl, rfl⟩; rw [HK.out])
                obtain ⟨Z, hZ, HZ⟩ : ∃ Z, Z = wr.alloc (.cells #[.slice pA ls.length kap, .bool pb, .int .i64 pd.n, .int .i64 pd.d] 37) ∧ Kept (CB w Z B g gr gz ⟨caps, cA, ck, flows, some ⟨bF, oF, none⟩, fk⟩ rs fz s) := ⟨_, rfl, HV0⟩
                rw [← hZ]
                rw [← hZ] at r0 r1
                clear hZ HV0 HB7 HRD HU n0 n1 n2 n3 c0 c1 c2 c3 z0
                go_cut [13, 14] (fun s13 s14 wx => ∃ b13 : Nat, s13 = .pointer (some ⟨b13, 0, none⟩) ∧ s14 = .int .i64 0 ∧ Kept (Blk wx b13 32 #[.int .i64 Q.n, .int .i64 Q.d] ∧ Below Z.heap.size Z wx))
                case first =>
                  refine with_act fun aq haq => ?_
                  refine wp_region_inv (fun L az w1z => ∃ (x13 x14 x76 x77 x78 x79 x80 x81 x82 x83 x84 x85 x86 x87 : Value), az = ((((((((((((((aq.put (some 13) x13).put (some 14) x14).put (some 76) x76).put (some 77) x77).put (some 78) x78).put (some 79) x79).put (some 80) x80).put (some 81) x81).put (some 82) x82).put (some 83) x83).put (some 84) x84).put (some 85) x85).put (some 86) x86).put (some 87) x87) ∧ (Below Z.heap.size Z w1z) ∧ (L.getD 0 false = true → x77 = .agg #[.int .i64 s.n, .int .i64 s.d]) ∧ (L.getD 1 false = true → x78 = .pointer (some ⟨g, 0, none⟩)) ∧ (L.getD 2 false = true → x79 = .pointer (some ⟨g, 0, none⟩)) ∧ (L.getD 3 false = true → x80 = .pointer (some ⟨g, 2, none⟩)) ∧ (L.getD 4 false = true → x81 = .slice (some ⟨gr, 0, none⟩) flows.length flows.length) ∧ (L.getD 5 false = true → x82 = .int .i64 (k : Int)) ∧ (L.getD 6 false = true → x83 = .pointer (some ⟨gr, k * 2, none⟩)) ∧ (L.getD 7 false = true → x84 = .agg #[.int .i64 r.n, .int .i64 r.d]) ∧ (L.getD 8 false = true → x85 = .tuple #[.agg #[.int .i64 Q.n, .int .i64 Q.d], .int .i64 0]) ∧ (L.getD 9 false = true → x76 = .tuple #[.agg #[.int .i64 Q.n, .int .i64 Q.d], .int .i64 0]) ∧ (L.getD 10 false = true → x86 = .agg #[.int .i64 Q.n, .int .i64 Q.d]) ∧ (L.getD 11 false = true → x87 = .int .i64 0) ∧ (L.getD 14 false = true → x14 = .int .i64 0) ∧ (L.getD 12 false = true → ∃ b : Nat, x13 = .pointer (some ⟨b, 0, none⟩) ∧ Z.heap.size ≤ b ∧ Blk w1z b 32 (if L.getD 13 false = true then #[.int .i64 Q.n, .int .i64 Q.d] else #[.int .i64 0, .int .i64 0])) ∧ (L.getD 13 false = true → L.getD 12 false = true)) (by kernel_rfl) (by kernel_rfl) ?start ?oper ?done
                  case start =>
                    refine ⟨aq.tmps.getD 13 undef, aq.tmps.getD 14 undef, aq.tmps.getD 76 undef, aq.tmps.getD 77 undef, aq.tmps.getD 78 undef, aq.tmps.getD 79 undef, aq.tmps.getD 80 undef, aq.tmps.getD 81 undef, aq.tmps.getD 82 undef, aq.tmps.getD 83 undef, aq.tmps.getD 84 undef, aq.tmps.getD 85 undef, aq.tmps.getD 86 undef, aq.tmps.getD 87 undef, by subst haq; simp only [Act.put, List.setIfInBounds_toArray, List.set_cons_zero, List.set_cons_succ, Array.getD_eq_getD_getElem?, List.getElem?_toArray, List.getElem?_cons_zero, List.getElem?_cons_succ, Option.getD_some], dN (Below.refl Z.heap.size Z) 1, none_yet, none_yet, none_yet, none_yet, none_yet, none_yet, none_yet, none_yet, none_yet, none_yet, none_yet, none_yet, none_yet, none_yet, none_yet⟩
                  case oper =>
                    intro L az w1z i hI hr
                    obtain ⟨x13, x14, x76, x77, x78, x79, x80, x81, x82, x83, x84, x85, x86, x87, rfl, f0, f1, f2, f3, f4, f5, f6, f7, f8, f9, f10, f11, f12, f13, f14, f15⟩ := hI
                    subst haq
                    have hi : i < 15 := ready_lt hr
                    have hcase : i = 0 ∨ i = 1 ∨ i = 2 ∨ i = 3 ∨ i = 4 ∨ i = 5 ∨ i = 6 ∨ i = 7 ∨ i = 8 ∨ i = 9 ∨ i = 10 ∨ i = 11 ∨ i = 12 ∨ i = 13 ∨ i = 14 := by omega
                    clear hi
                    rcases hcase with rfl | rfl | rfl | rfl | rfl | rfl | rfl | rfl | rfl | rfl | rfl | rfl | rfl | rfl | rfl
                    · have HH := HZ.out.new_ f0
                      have n2 := HH.st.box.cell 2 rfl
                      dsimp only at n2
                      have s0 := HH.s.cell 0 (v := .int .i64 s.n) rfl
                      have s1 := HH.s.cell 1 (v := .int .i64 s.d) rfl
                      have r0 := HH.st.rr.cell ccell_len HRG.out (j := 0) rfl
                      have r1 := HH.st.rr.cell ccell_len HRG.out (j := 1) rfl
                      simp only [Nat.add_zero] at r0
                      refine inv_op rfl (fun K hK => ?_)
                      try simp only [Act.put, List.setIfInBounds_toArray, List.set_cons_zero, List.set_cons_succ]
                      go_simp
                      refine hK.out _ _ ⟨x13, x14, x76, .agg #[.int .i64 s.n, .int .i64 s.d], x78, x79, x80, x81, x82, x83, x84, x85, x86, x87, (by simp only [Act.put, List.setIfInBounds_toArray, List.set_cons_zero, List.set_cons_succ]), f0, (fun _ => rfl), (fun h => by first | exact f2 (by rwa [set_other (by decide)] at h) | (rw [set_other (by decide)] at h ⊢; exact f2 h)), (fun h => by first | exact f3 (by rwa [set_other (by decide)] at h) | (rw [set_other (by decide)] at h ⊢; exact f3 h)), (fun h => by first | exact f4 (by rwa [set_other (by decide)] at h) | (rw [set_other (by decide)] at h ⊢; exact f4 h)), (fun h => by first | exact f5 (by rwa [set_other (by decide)] at h) | (rw [set_other (by decide)] at h ⊢; exact f5 h)), (fun h => by first | exact f6 (by rwa [set_other (by decide)] at h) | (rw [set_other (by decide)] at h ⊢; exact f6 h)), (fun h => by first | exact f7 (by rwa [set_other (by decide)] at h) | (rw [set_other (by decide)] at h ⊢; exact f7 h)), (fun h => by first | exact f8 (by rwa [set_other (by decide)] at h) | (rw [set_other (by decide)] at h ⊢; exact f8 h)), (fun h => by first | exact f9 (by rwa [set_other (by decide)] at h) | (rw [set_other (by decide)] at h ⊢; exact f9 h)), (fun h => by first | exact f10 (by rwa [set_other (by decide)] at h) | (rw [set_other (by decide)] at h ⊢; exact f10 h)), (fun h => by first | exact f11 (by rwa [set_other (by decide)] at h) | (rw [set_other (by decide)] at h ⊢; exact f11 h)), (fun h => by first | exact f12 (by rwa [set_other (by decide)] at h) | (rw [set_other (by decide)] at h ⊢; exact f12 h)), (fun h => by first | exact f13 (by rwa [set_other (by decide)] at h) | (rw [set_other (by decide)] at h ⊢; exact f13 h)), (fun h => by first | exact f14 (by rwa [set_other (by decide)] at h) | (rw [set_other (by decide)] at h ⊢; exact f14 h)), (fun h => by first | exact f15 (by rwa [set_other (by decide)] at h) | (rw [set_other (by decide)] at h ⊢; exact f15 h))⟩
                    · refine inv_op rfl (fun K hK => ?_)
                      try simp only [Act.put, List.setIfInBounds_toArray, List.set_cons_zero, List.set_cons_succ]
                      go_simp
                      refine hK.out _ _ ⟨x13, x14, x76, x77, .pointer (some ⟨g, 0, none⟩), x79, x80, x81, x82, x83, x84, x85, x86, x87, (by simp only [Act.put, List.setIfInBounds_toArray, List.set_cons_zero, List.set_cons_succ]), f0, (fun h => by first | exact f1 (by rwa [set_other (by decide)] at h) | (rw [set_other (by decide)] at h ⊢; exact f1 h)), (fun _ => rfl), (fun h => by first | exact f3 (by rwa [set_other (by decide)] at h) | (rw [set_other (by decide)] at h ⊢; exact f3 h)), (fun h => by first | exact f4 (by rwa [set_other (by decide)] at h) | (rw [set_other (by decide)] at h ⊢; exact f4 h)), (fun h => by first | exact f5 (by rwa [set_other (by decide)] at h) | (rw [set_other (by decide)] at h ⊢; exact f5 h)), (fun h => by first | exact f6 (by rwa [set_other (by decide)] at h) | (rw [set_other (by decide)] at h ⊢; exact f6 h)), (fun h => by first | exact f7 (by rwa [set_other (by decide)] at h) | (rw [set_other (by decide)] at h ⊢; exact f7 h)), (fun h => by first | exact f8 (by rwa [set_other (by decide)] at h) | (rw [set_other (by decide)] at h ⊢; exact f8 h)), (fun h => by first | exact f9 (by rwa [set_other (by decide)] at h) | (rw [set_other (by decide)] at h ⊢; exact f9 h)), (fun h => by first | exact f10 (by rwa [set_other (by decide)] at h) | (rw [set_other (by decide)] at h ⊢; exact f10 h)), (fun h => by first | exact f11 (by rwa [set_other (by decide)] at h) | (rw [set_other (by decide)] at h ⊢; exact f11 h)), (fun h => by first | exact f12 (by rwa [set_other (by decide)] at h) | (rw [set_other (by decide)] at h ⊢; exact f12 h)), (fun h => by first | exact f13 (by rwa [set_other (by decide)] at h) | (rw [set_other (by decide)] at h ⊢; exact f13 h)), (fun h => by first | exact f14 (by rwa [set_other (by decide)] at h) | (rw [set_other (by decide)] at h ⊢; exact f14 h)), (fun h => by first | exact f15 (by rwa [set_other (by decide)] at h) | (rw [set_other (by decide)] at h ⊢; exact f15 h))⟩
                    · obtain rfl := f2 (ready_dep hr (d := 1) (by kernel_rfl))
                      refine inv_op rfl (fun K hK => ?_)
                      try simp only [Act.put, List.setIfInBounds_toArray, List.set_cons_zero, List.set_cons_succ]
                      go_simp
                      refine hK.out _ _ ⟨x13, x14, x76, x77, .pointer (some ⟨g, 0, none⟩), .pointer (some ⟨g, 0, none⟩), x80, x81, x82, x83, x84, x85, x86, x87, (by simp only [Act.put, List.setIfInBounds_toArray, List.set_cons_zero, List.set_cons_succ]), f0, (fun h => by first | exact f1 (by rwa [set_other (by decide)] at h) | (rw [set_other (by decide)] at h ⊢; exact f1 h)), (fun _ => rfl), (fun _ => rfl), (fun h => by first | exact f4 (by rwa [set_other (by decide)] at h) | (rw [set_other (by decide)] at h ⊢; exact f4 h)), (fun h => by first | exact f5 (by rwa [set_other (by decide)] at h) | (rw [set_other (by decide)] at h ⊢; exact f5 h)), (fun h => by first | exact f6 (by rwa [set_other (by decide)] at h) | (rw [set_other (by decide)] at h ⊢; exact f6 h)), (fun h => by first | exact f7 (by rwa [set_other (by decide)] at h) | (rw [set_other (by decide)] at h ⊢; exact f7 h)), (fun h => by first | exact f8 (by rwa [set_other (by decide)] at h) | (rw [set_other (by decide)] at h ⊢; exact f8 h)), (fun h => by first | exact f9 (by rwa [set_other (by decide)] at h) | (rw [set_other (by decide)] at h ⊢; exact f9 h)), (fun h => by first | exact f10 (by rwa [set_other (by decide)] at h) | (rw [set_other (by decide)] at h ⊢; exact f10 h)), (fun h => by first | exact f11 (by rwa [set_other (by decide)] at h) | (rw [set_other (by decide)] at h ⊢; exact f11 h)), (fun h => by first | exact f12 (by rwa [set_other (by decide)] at h) | (rw [set_other (by decide)] at h ⊢; exact f12 h)), (fun h => by first | exact f13 (by rwa [set_other (by decide)] at h) | (rw [set_other (by decide)] at h ⊢; exact f13 h)), (fun h => by first | exact f14 (by rwa [set_other (by decide)] at h) | (rw [set_other (by decide)] at h ⊢; exact f14 h)), (fun h => by first | exact f15 (by rwa [set_other (by decide)] at h) | (rw [set_other (by decide)] at h ⊢; exact f15 h))⟩
                    · obtain rfl := f3 (ready_dep hr (d := 2) (by kernel_rfl))
                      refine inv_op rfl (fun K hK => ?_)
                      try simp only [Act.put, List.setIfInBounds_toArray, List.set_cons_zero, List.set_cons_succ]
                      go_simp
                      refine hK.out _ _ ⟨x13, x14, x76, x77, x78, .pointer (some ⟨g, 0, none⟩), .pointer (some ⟨g, 2, none⟩), x81, x82, x83, x84, x85, x86, x87, (by simp only [Act.put, List.setIfInBounds_toArray, List.set_cons_zero, List.set_cons_succ]), f0, (fun h => by first | exact f1 (by rwa [set_other (by decide)] at h) | (rw [set_other (by decide)] at h ⊢; exact f1 h)), (fun h => by first | exact f2 (by rwa [set_other (by decide)] at h) | (rw [set_other (by decide)] at h ⊢; exact f2 h)), (fun _ => rfl), (fun _ => rfl), (fun h => by first | exact f5 (by rwa [set_other (by decide)] at h) | (rw [set_other (by decide)] at h ⊢; exact f5 h)), (fun h => by first | exact f6 (by rwa [set_other (by decide)] at h) | (rw [set_other (by decide)] at h ⊢; exact f6 h)), (fun h => by first | exact f7 (by rwa [set_other (by decide)] at h) | (rw [set_other (by decide)] at h ⊢; exact f7 h)), (fun h => by first | exact f8 (by rwa [set_other (by decide)] at h) | (rw [set_other (by decide)] at h ⊢; exact f8 h)), (fun h => by first | exact f9 (by rwa [set_other (by decide)] at h) | (rw [set_other (by decide)] at h ⊢; exact f9 h)), (fun h => by first | exact f10 (by rwa [set_other (by decide)] at h) | (rw [set_other (by decide)] at h ⊢; exact f10 h)), (fun h => by first | exact f11 (by rwa [set_other (by decide)] at h) | (rw [set_other (by decide)] at h ⊢; exact f11 h)), (fun h => by first | exact f12 (by rwa [set_other (by decide)] at h) | (rw [set_other (by decide)] at h ⊢; exact f12 h)), (fun h => by first | exact f13 (by rwa [set_other (by decide)] at h) | (rw [set_other (by decide)] at h ⊢; exact f13 h)), (fun h => by first | exact f14 (by rwa [set_other (by decide)] at h) | (rw [set_other (by decide)] at h ⊢; exact f14 h)), (fun h => by first | exact f15 (by rwa [set_other (by decide)] at h) | (rw [set_other (by decide)] at h ⊢; exact f15 h))⟩
                    · obtain rfl := f4 (ready_dep hr (d := 3) (by kernel_rfl))
                      have HH := HZ.out.new_ f0
                      have n2 := HH.st.box.cell 2 rfl
                      dsimp only at n2
                      have s0 := HH.s.cell 0 (v := .int .i64 s.n) rfl
                      have s1 := HH.s.cell 1 (v := .int .i64 s.d) rfl
                      have r0 := HH.st.rr.cell ccell_len HRG.out (j := 0) rfl
                      have r1 := HH.st.rr.cell ccell_len HRG.out (j := 1) rfl
                      simp only [Nat.add_zero] at r0
                      refine inv_op rfl (fun K hK => ?_)
                      try simp only [Act.put, List.setIfInBounds_toArray, List.set_cons_zero, List.set_cons_succ]
                      go_simp
                      refine hK.out _ _ ⟨x13, x14, x76, x77, x78, x79, .pointer (some ⟨g, 2, none⟩), .slice (some ⟨gr, 0, none⟩) flows.length flows.length, x82, x83, x84, x85, x86, x87, (by simp only [Act.put, List.setIfInBounds_toArray, List.set_cons_zero, List.set_cons_succ]), f0, (fun h => by first | exact f1 (by rwa [set_other (by decide)] at h) | (rw [set_other (by decide)] at h ⊢; exact f1 h)), (fun h => by first | exact f2 (by rwa [set_other (by decide)] at h) | (rw [set_other (by decide)] at h ⊢; exact f2 h)), (fun h => by first | exact f3 (by rwa [set_other (by decide)] at h) | (rw [set_other (by decide)] at h ⊢; exact f3 h)), (fun _ => rfl), (fun _ => rfl), (fun h => by first | exact f6 (by rwa [set_other (by decide)] at h) | (rw [set_other (by decide)] at h ⊢; exact f6 h)), (fun h => by first | exact f7 (by rwa [set_other (by decide)] at h) | (rw [set_other (by decide)] at h ⊢; exact f7 h)), (fun h => by first | exact f8 (by rwa [set_other (by decide)] at h) | (rw [set_other (by decide)] at h ⊢; exact f8 h)), (fun h => by first | exact f9 (by rwa [set_other (by decide)] at h) | (rw [set_other (by decide)] at h ⊢; exact f9 h)), (fun h => by first | exact f10 (by rwa [set_other (by decide)] at h) | (rw [set_other (by decide)] at h ⊢; exact f10 h)), (fun h => by first | exact f11 (by rwa [set_other (by decide)] at h) | (rw [set_other (by decide)] at h ⊢; exact f11 h)), (fun h => by first | exact f12 (by rwa [set_other (by decide)] at h) | (rw [set_other (by decide)] at h ⊢; exact f12 h)), (fun h => by first | exact f13 (by rwa [set_other (by decide)] at h) | (rw [set_other (by decide)] at h ⊢; exact f13 h)), (fun h => by first | exact f14 (by rwa [set_other (by decide)] at h) | (rw [set_other (by decide)] at h ⊢; exact f14 h)), (fun h => by first | exact f15 (by rwa [set_other (by decide)] at h) | (rw [set_other (by decide)] at h ⊢; exact f15 h))⟩
                    · refine inv_op rfl (fun K hK => ?_)
                      try simp only [Act.put, List.setIfInBounds_toArray, List.set_cons_zero, List.set_cons_succ]
                      go_simp
                      refine hK.out _ _ ⟨x13, x14, x76, x77, x78, x79, x80, x81, .int .i64 (k : Int), x83, x84, x85, x86, x87, (by simp only [Act.put, List.setIfInBounds_toArray, List.set_cons_zero, List.set_cons_succ]), f0, (fun h => by first | exact f1 (by rwa [set_other (by decide)] at h) | (rw [set_other (by decide)] at h ⊢; exact f1 h)), (fun h => by first | exact f2 (by rwa [set_other (by decide)] at h) | (rw [set_other (by decide)] at h ⊢; exact f2 h)), (fun h => by first | exact f3 (by rwa [set_other (by decide)] at h) | (rw [set_other (by decide)] at h ⊢; exact f3 h)), (fun h => by first | exact f4 (by rwa [set_other (by decide)] at h) | (rw [set_other (by decide)] at h ⊢; exact f4 h)), (fun h => by first | exact f5 (by rwa [set_other (by decide)] at h) | (rw [set_other (by decide)] at h ⊢; exact f5 h)), (fun _ => rfl), (fun h => by first | exact f7 (by rwa [set_other (by decide)] at h) | (rw [set_other (by decide)] at h ⊢; exact f7 h)), (fun h => by first | exact f8 (by rwa [set_other (by decide)] at h) | (rw [set_other (by decide)] at h ⊢; exact f8 h)), (fun h => by first | exact f9 (by rwa [set_other (by decide)] at h) | (rw [set_other (by decide)] at h ⊢; exact f9 h)), (fun h => by first | exact f10 (by rwa [set_other (by decide)] at h) | (rw [set_other (by decide)] at h ⊢; exact f10 h)), (fun h => by first | exact f11 (by rwa [set_other (by decide)] at h) | (rw [set_other (by decide)] at h ⊢; exact f11 h)), (fun h => by first | exact f12 (by rwa [set_other (by decide)] at h) | (rw [set_other (by decide)] at h ⊢; exact f12 h)), (fun h => by first | exact f13 (by rwa [set_other (by decide)] at h) | (rw [set_other (by decide)] at h ⊢; exact f13 h)), (fun h => by first | exact f14 (by rwa [set_other (by decide)] at h) | (rw [set_other (by decide)] at h ⊢; exact f14 h)), (fun h => by first | exact f15 (by rwa [set_other (by decide)] at h) | (rw [set_other (by decide)] at h ⊢; exact f15 h))⟩
                    · obtain rfl := f5 (ready_dep hr (d := 4) (by kernel_rfl))
                      obtain rfl := f6 (ready_dep hr (d := 5) (by kernel_rfl))
                      refine inv_op rfl (fun K hK => ?_)
                      try simp only [Act.put, List.setIfInBounds_toArray, List.set_cons_zero, List.set_cons_succ]
                      go_simp
                      refine hK.out _ _ ⟨x13, x14, x76, x77, x78, x79, x80, .slice (some ⟨gr, 0, none⟩) flows.length flows.length, .int .i64 (k : Int), .pointer (some ⟨gr, k * 2, none⟩), x84, x85, x86, x87, (by simp only [Act.put, List.setIfInBounds_toArray, List.set_cons_zero, List.set_cons_succ]), f0, (fun h => by first | exact f1 (by rwa [set_other (by decide)] at h) | (rw [set_other (by decide)] at h ⊢; exact f1 h)), (fun h => by first | exact f2 (by rwa [set_other (by decide)] at h) | (rw [set_other (by decide)] at h ⊢; exact f2 h)), (fun h => by first | exact f3 (by rwa [set_other (by decide)] at h) | (rw [set_other (by decide)] at h ⊢; exact f3 h)), (fun h => by first | exact f4 (by rwa [set_other (by decide)] at h) | (rw [set_other (by decide)] at h ⊢; exact f4 h)), (fun _ => rfl), (fun _ => rfl), (fun _ => rfl), (fun h => by first | exact f8 (by rwa [set_other (by decide)] at h) | (rw [set_other (by decide)] at h ⊢; exact f8 h)), (fun h => by first | exact f9 (by rwa [set_other (by decide)] at h) | (rw [set_other (by decide)] at h ⊢; exact f9 h)), (fun h => by first | exact f10 (by rwa [set_other (by decide)] at h) | (rw [set_other (by decide)] at h ⊢; exact f10 h)), (fun h => by first | exact f11 (by rwa [set_other (by decide)] at h) | (rw [set_other (by decide)] at h ⊢; exact f11 h)), (fun h => by first | exact f12 (by rwa [set_other (by decide)] at h) | (rw [set_other (by decide)] at h ⊢; exact f12 h)), (fun h => by first | exact f13 (by rwa [set_other (by decide)] at h) | (rw [set_other (by decide)] at h ⊢; exact f13 h)), (fun h => by first | exact f14 (by rwa [set_other (by decide)] at h) | (rw [set_other (by decide)] at h ⊢; exact f14 h)), (fun h => by first | exact f15 (by rwa [set_other (by decide)] at h) | (rw [set_other (by decide)] at h ⊢; exact f15 h))⟩
                    · obtain rfl := f7 (ready_dep hr (d := 6) (by kernel_rfl))
                      have HH := HZ.out.new_ f0
                      have n2 := HH.st.box.cell 2 rfl
                      dsimp only at n2
                      have s0 := HH.s.cell 0 (v := .int .i64 s.n) rfl
                      have s1 := HH.s.cell 1 (v := .int .i64 s.d) rfl
                      have r0 := HH.st.rr.cell ccell_len HRG.out (j := 0) rfl
                      have r1 := HH.st.rr.cell ccell_len HRG.out (j := 1) rfl
                      simp only [Nat.add_zero] at r0
                      refine inv_op rfl (fun K hK => ?_)
                      try simp only [Act.put, List.setIfInBounds_toArray, List.set_cons_zero, List.set_cons_succ]
                      go_simp
                      refine hK.out _ _ ⟨x13, x14, x76, x77, x78, x79, x80, x81, x82, .pointer (some ⟨gr, k * 2, none⟩), .agg #[.int .i64 r.n, .int .i64 r.d], x85, x86, x87, (by simp only [Act.put, List.setIfInBounds_toArray, List.set_cons_zero, List.set_cons_succ]), f0, (fun h => by first | exact f1 (by rwa [set_other (by decide)] at h) | (rw [set_other (by decide)] at h ⊢; exact f1 h)), (fun h => by first | exact f2 (by rwa [set_other (by decide)] at h) | (rw [set_other (by decide)] at h ⊢; exact f2 h)), (fun h => by first | exact f3 (by rwa [set_other (by decide)] at h) | (rw [set_other (by decide)] at h ⊢; exact f3 h)), (fun h => by first | exact f4 (by rwa [set_other (by decide)] at h) | (rw [set_other (by decide)] at h ⊢; exact f4 h)), (fun h => by first | exact f5 (by rwa [set_other (by decide)] at h) | (rw [set_other (by decide)] at h ⊢; exact f5 h)), (fun h => by first | exact f6 (by rwa [set_other (by decide)] at h) | (rw [set_other (by decide)] at h ⊢; exact f6 h)), (fun _ => rfl), (fun _ => rfl), (fun h => by first | exact f9 (by rwa [set_other (by decide)] at h) | (rw [set_other (by decide)] at h ⊢; exact f9 h)), (fun h => by first | exact f10 (by rwa [set_other (by decide)] at h) | (rw [set_other (by decide)] at h ⊢; exact f10 h)), (fun h => by first | exact f11 (by rwa [set_other (by decide)] at h) | (rw [set_other (by decide)] at h ⊢; exact f11 h)), (fun h => by first | exact f12 (by rwa [set_other (by decide)] at h) | (rw [set_other (by decide)] at h ⊢; exact f12 h)), (fun h => by first | exact f13 (by rwa [set_other (by decide)] at h) | (rw [set_other (by decide)] at h ⊢; exact f13 h)), (fun h => by first | exact f14 (by rwa [set_other (by decide)] at h) | (rw [set_other (by decide)] at h ⊢; exact f14 h)), (fun h => by first | exact f15 (by rwa [set_other (by decide)] at h) | (rw [set_other (by decide)] at h ⊢; exact f15 h))⟩
                    · obtain rfl := f1 (ready_dep hr (d := 0) (by kernel_rfl))
                      obtain rfl := f8 (ready_dep hr (d := 7) (by kernel_rfl))
                      refine inv_op rfl (fun K hK => ?_)
                      try simp only [Act.put, List.setIfInBounds_toArray, List.set_cons_zero, List.set_cons_succ]
                      go_simp
                      refine (CA _).mono ?_
                      rintro e w9 ⟨rfl, hb9⟩
                      try simp only []
                      refine hK.out _ _ ⟨x13, x14, x76, .agg #[.int .i64 s.n, .int .i64 s.d], x78, x79, x80, x81, x82, x83, .agg #[.int .i64 r.n, .int .i64 r.d], .tuple #[.agg #[.int .i64 Q.n, .int .i64 Q.d], .int .i64 0], x86, x87, (by simp only [Act.put, List.setIfInBounds_toArray, List.set_cons_zero, List.set_cons_succ]), join f0 hb9, (fun _ => rfl), (fun h => by first | exact f2 (by rwa [set_other (by decide)] at h) | (rw [set_other (by decide)] at h ⊢; exact f2 h)), (fun h => by first | exact f3 (by rwa [set_other (by decide)] at h) | (rw [set_other (by decide)] at h ⊢; exact f3 h)), (fun h => by first | exact f4 (by rwa [set_other (by decide)] at h) | (rw [set_other (by decide)] at h ⊢; exact f4 h)), (fun h => by first | exact f5 (by rwa [set_other (by decide)] at h) | (rw [set_other (by decide)] at h ⊢; exact f5 h)), (fun h => by first | exact f6 (by rwa [set_other (by decide)] at h) | (rw [set_other (by decide)] at h ⊢; exact f6 h)), (fun h => by first | exact f7 (by rwa [set_other (by decide)] at h) | (rw [set_other (by decide)] at h ⊢; exact f7 h)), (fun _ => rfl), (fun _ => rfl), (fun h => by first | exact f10 (by rwa [set_other (by decide)] at h) | (rw [set_other (by decide)] at h ⊢; exact f10 h)), (fun h => by first | exact f11 (by rwa [set_other (by decide)] at h) | (rw [set_other (by decide)] at h ⊢; exact f11 h)), (fun h => by first | exact f12 (by rwa [set_other (by decide)] at h) | (rw [set_other (by decide)] at h ⊢; exact f12 h)), (fun h => by first | exact f13 (by rwa [set_other (by decide)] at h) | (rw [set_other (by decide)] at h ⊢; exact f13 h)), (fun h => by rw [set_other (by decide)] at h ⊢; obtain ⟨b, e, hb, hB⟩ := f14 h; exact ⟨b, e, hb, hB.new_ hb9⟩), (fun h => by first | exact f15 (by rwa [set_other (by decide)] at h) | (rw [set_other (by decide)] at h ⊢; exact f15 h))⟩
                    · obtain rfl := f9 (ready_dep hr (d := 8) (by kernel_rfl))
                      refine inv_op rfl (fun K hK => ?_)
                      try simp only [Act.put, List.setIfInBounds_toArray, List.set_cons_zero, List.set_cons_succ]
                      go_simp
                      refine hK.out _ _ ⟨x13, x14, .tuple #[.agg #[.int .i64 Q.n, .int .i64 Q.d], .int .i64 0], x77, x78, x79, x80, x81, x82, x83, x84, .tuple #[.agg #[.int .i64 Q.n, .int .i64 Q.d], .int .i64 0], x86, x87, (by simp only [Act.put, List.setIfInBounds_toArray, List.set_cons_zero, List.set_cons_succ]), f0, (fun h => by first | exact f1 (by rwa [set_other (by decide)] at h) | (rw [set_other (by decide)] at h ⊢; exact f1 h)), (fun h => by first | exact f2 (by rwa [set_other (by decide)] at h) | (rw [set_other (by decide)] at h ⊢; exact f2 h)), (fun h => by first | exact f3 (by rwa [set_other (by decide)] at h) | (rw [set_other (by decide)] at h ⊢; exact f3 h)), (fun h => by first | exact f4 (by rwa [set_other (by decide)] at h) | (rw [set_other (by decide)] at h ⊢; exact f4 h)), (fun h => by first | exact f5 (by rwa [set_other (by decide)] at h) | (rw [set_other (by decide)] at h ⊢; exact f5 h)), (fun h => by first | exact f6 (by rwa [set_other (by decide)] at h) | (rw [set_other (by decide)] at h ⊢; exact f6 h)), (fun h => by first | exact f7 (by rwa [set_other (by decide)] at h) | (rw [set_other (by decide)] at h ⊢; exact f7 h)), (fun h => by first | exact f8 (by rwa [set_other (by decide)] at h) | (rw [set_other (by decide)] at h ⊢; exact f8 h)), (fun _ => rfl), (fun _ => rfl), (fun h => by first | exact f11 (by rwa [set_other (by decide)] at h) | (rw [set_other (by decide)] at h ⊢; exact f11 h)), (fun h => by first | exact f12 (by rwa [set_other (by decide)] at h) | (rw [set_other (by decide)] at h ⊢; exact f12 h)), (fun h => by first | exact f13 (by rwa [set_other (by decide)] at h) | (rw [set_other (by decide)] at h ⊢; exact f13 h)), (fun h => by first | exact f14 (by rwa [set_other (by decide)] at h) | (rw [set_other (by decide)] at h ⊢; exact f14 h)), (fun h => by first | exact f15 (by rwa [set_other (by decide)] at h) | (rw [set_other (by decide)] at h ⊢; exact f15 h))⟩
                    · obtain rfl := f10 (ready_dep hr (d := 9) (by kernel_rfl))
                      refine inv_op rfl (fun K hK => ?_)
                      try simp only [Act.put, List.setIfInBounds_toArray, List.set_cons_zero, List.set_cons_succ]
                      go_simp
                      refine hK.out _ _ ⟨x13, x14, .tuple #[.agg #[.int .i64 Q.n, .int .i64 Q.d], .int .i64 0], x77, x78, x79, x80, x81, x82, x83, x84, x85, .agg #[.int .i64 Q.n, .int .i64 Q.d], x87, (by simp only [Act.put, List.setIfInBounds_toArray, List.set_cons_zero, List.set_cons_succ]), f0, (fun h => by first | exact f1 (by rwa [set_other (by decide)] at h) | (rw [set_other (by decide)] at h ⊢; exact f1 h)), (fun h => by first | exact f2 (by rwa [set_other (by decide)] at h) | (rw [set_other (by decide)] at h ⊢; exact f2 h)), (fun h => by first | exact f3 (by rwa [set_other (by decide)] at h) | (rw [set_other (by decide)] at h ⊢; exact f3 h)), (fun h => by first | exact f4 (by rwa [set_other (by decide)] at h) | (rw [set_other (by decide)] at h ⊢; exact f4 h)), (fun h => by first | exact f5 (by rwa [set_other (by decide)] at h) | (rw [set_other (by decide)] at h ⊢; exact f5 h)), (fun h => by first | exact f6 (by rwa [set_other (by decide)] at h) | (rw [set_other (by decide)] at h ⊢; exact f6 h)), (fun h => by first | exact f7 (by rwa [set_other (by decide)] at h) | (rw [set_other (by decide)] at h ⊢; exact f7 h)), (fun h => by first | exact f8 (by rwa [set_other (by decide)] at h) | (rw [set_other (by decide)] at h ⊢; exact f8 h)), (fun h => by first | exact f9 (by rwa [set_other (by decide)] at h) | (rw [set_other (by decide)] at h ⊢; exact f9 h)), (fun _ => rfl), (fun _ => rfl), (fun h => by first | exact f12 (by rwa [set_other (by decide)] at h) | (rw [set_other (by decide)] at h ⊢; exact f12 h)), (fun h => by first | exact f13 (by rwa [set_other (by decide)] at h) | (rw [set_other (by decide)] at h ⊢; exact f13 h)), (fun h => by first | exact f14 (by rwa [set_other (by decide)] at h) | (rw [set_other (by decide)] at h ⊢; exact f14 h)), (fun h => by first | exact f15 (by rwa [set_other (by decide)] at h) | (rw [set_other (by decide)] at h ⊢; exact f15 h))⟩
                    · obtain rfl := f10 (ready_dep hr (d := 9) (by kernel_rfl))
                      refine inv_op rfl (fun K hK => ?_)
                      try simp only [Act.put, List.setIfInBounds_toArray, List.set_cons_zero, List.set_cons_succ]
                      go_simp
                      refine hK.out _ _ ⟨x13, x14, .tuple #[.agg #[.int .i64 Q.n, .int .i64 Q.d], .int .i64 0], x77, x78, x79, x80, x81, x82, x83, x84, x85, x86, .int .i64 0, (by simp only [Act.put, List.setIfInBounds_toArray, List.set_cons_zero, List.set_cons_succ]), f0, (fun h => by first | exact f1 (by rwa [set_other (by decide)] at h) | (rw [set_other (by decide)] at h ⊢; exact f1 h)), (fun h => by first | exact f2 (by rwa [set_other (by decide)] at h) | (rw [set_other (by decide)] at h ⊢; exact f2 h)), (fun h => by first | exact f3 (by rwa [set_other (by decide)] at h) | (rw [set_other (by decide)] at h ⊢; exact f3 h)), (fun h => by first | exact f4 (by rwa [set_other (by decide)] at h) | (rw [set_other (by decide)] at h ⊢; exact f4 h)), (fun h => by first | exact f5 (by rwa [set_other (by decide)] at h) | (rw [set_other (by decide)] at h ⊢; exact f5 h)), (fun h => by first | exact f6 (by rwa [set_other (by decide)] at h) | (rw [set_other (by decide)] at h ⊢; exact f6 h)), (fun h => by first | exact f7 (by rwa [set_other (by decide)] at h) | (rw [set_other (by decide)] at h ⊢; exact f7 h)), (fun h => by first | exact f8 (by rwa [set_other (by decide)] at h) | (rw [set_other (by decide)] at h ⊢; exact f8 h)), (fun h => by first | exact f9 (by rwa [set_other (by decide)] at h) | (rw [set_other (by decide)] at h ⊢; exact f9 h)), (fun _ => rfl), (fun h => by first | exact f11 (by rwa [set_other (by decide)] at h) | (rw [set_other (by decide)] at h ⊢; exact f11 h)), (fun _ => rfl), (fun h => by first | exact f13 (by rwa [set_other (by decide)] at h) | (rw [set_other (by decide)] at h ⊢; exact f13 h)), (fun h => by first | exact f14 (by rwa [set_other (by decide)] at h) | (rw [set_other (by decide)] at h ⊢; exact f14 h)), (fun h => by first | exact f15 (by rwa [set_other (by decide)] at h) | (rw [set_other (by decide)] at h ⊢; exact f15 h))⟩
                    · have h13 : L.getD 13 false = false := by
                        cases hh : L.getD 13 false with
                        | false => rfl
                        | true => exact absurd (f15 hh) (by rw [ready_not hr]; decide)
                      refine inv_op rfl (fun K hK => ?_)
                      try simp only [Act.put, List.setIfInBounds_toArray, List.set_cons_zero, List.set_cons_succ]
                      go_simp
                      refine hK.out _ _ ⟨.pointer (some ⟨w1z.heap.size, 0, none⟩), x14, x76, x77, x78, x79, x80, x81, x82, x83, x84, x85, x86, x87, (by simp only [Act.put, List.setIfInBounds_toArray, List.set_cons_zero, List.set_cons_succ]), f0.alloc f0.size _, (fun h => by first | exact f1 (by rwa [set_other (by decide)] at h) | (rw [set_other (by decide)] at h ⊢; exact f1 h)), (fun h => by first | exact f2 (by rwa [set_other (by decide)] at h) | (rw [set_other (by decide)] at h ⊢; exact f2 h)), (fun h => by first | exact f3 (by rwa [set_other (by decide)] at h) | (rw [set_other (by decide)] at h ⊢; exact f3 h)), (fun h => by first | exact f4 (by rwa [set_other (by decide)] at h) | (rw [set_other (by decide)] at h ⊢; exact f4 h)), (fun h => by first | exact f5 (by rwa [set_other (by decide)] at h) | (rw [set_other (by decide)] at h ⊢; exact f5 h)), (fun h => by first | exact f6 (by rwa [set_other (by decide)] at h) | (rw [set_other (by decide)] at h ⊢; exact f6 h)), (fun h => by first | exact f7 (by rwa [set_other (by decide)] at h) | (rw [set_other (by decide)] at h ⊢; exact f7 h)), (fun h => by first | exact f8 (by rwa [set_other (by decide)] at h) | (rw [set_other (by decide)] at h ⊢; exact f8 h)), (fun h => by first | exact f9 (by rwa [set_other (by decide)] at h) | (rw [set_other (by decide)] at h ⊢; exact f9 h)), (fun h => by first | exact f10 (by rwa [set_other (by decide)] at h) | (rw [set_other (by decide)] at h ⊢; exact f10 h)), (fun h => by first | exact f11 (by rwa [set_other (by decide)] at h) | (rw [set_other (by decide)] at h ⊢; exact f11 h)), (fun h => by first | exact f12 (by rwa [set_other (by decide)] at h) | (rw [set_other (by decide)] at h ⊢; exact f12 h)), (fun h => by first | exact f13 (by rwa [set_other (by decide)] at h) | (rw [set_other (by decide)] at h ⊢; exact f13 h)), (fun _ => ⟨w1z.heap.size, rfl, f0.size, by rw [set_other (by decide), h13]; exact Blk.new _ _ _⟩), (fun h => set_self hr)⟩
                    · have h13 := ready_not hr
                      have ha := ready_dep hr (d := 12) (by kernel_rfl)
                      obtain ⟨b, eb, hb, hB⟩ := f14 ha
                      rw [h13] at hB
                      have q0 := hB.cell 0 (v := .int .i64 0) rfl
                      have q1 := hB.cell 1 (v := .int .i64 0) rfl
                      have q2 := hB.free 0
                      have q3 := hB.free 1
                      have q4 := hB.lt
                      obtain rfl := f11 (ready_dep hr (d := 10) (by kernel_rfl))
                      subst eb
                      refine inv_op rfl (fun K hK => ?_)
                      try simp only [Act.put, List.setIfInBounds_toArray, List.set_cons_zero, List.set_cons_succ]
                      go_simp
                      refine hK.out _ _ ⟨(.pointer (some ⟨b, 0, none⟩)), x14, x76, x77, x78, x79, x80, x81, x82, x83, x84, x85, .agg #[.int .i64 Q.n, .int .i64 Q.d], x87, (by simp only [Act.put, List.setIfInBounds_toArray, List.set_cons_zero, List.set_cons_succ]), ((f0.setCell hb _).setCell hb _), (fun h => by first | exact f1 (by rwa [set_other (by decide)] at h) | (rw [set_other (by decide)] at h ⊢; exact f1 h)), (fun h => by first | exact f2 (by rwa [set_other (by decide)] at h) | (rw [set_other (by decide)] at h ⊢; exact f2 h)), (fun h => by first | exact f3 (by rwa [set_other (by decide)] at h) | (rw [set_other (by decide)] at h ⊢; exact f3 h)), (fun h => by first | exact f4 (by rwa [set_other (by decide)] at h) | (rw [set_other (by decide)] at h ⊢; exact f4 h)), (fun h => by first | exact f5 (by rwa [set_other (by decide)] at h) | (rw [set_other (by decide)] at h ⊢; exact f5 h)), (fun h => by first | exact f6 (by rwa [set_other (by decide)] at h) | (rw [set_other (by decide)] at h ⊢; exact f6 h)), (fun h => by first | exact f7 (by rwa [set_other (by decide)] at h) | (rw [set_other (by decide)] at h ⊢; exact f7 h)), (fun h => by first | exact f8 (by rwa [set_other (by decide)] at h) | (rw [set_other (by decide)] at h ⊢; exact f8 h)), (fun h => by first | exact f9 (by rwa [set_other (by decide)] at h) | (rw [set_other (by decide)] at h ⊢; exact f9 h)), (fun h => by first | exact f10 (by rwa [set_other (by decide)] at h) | (rw [set_other (by decide)] at h ⊢; exact f10 h)), (fun _ => rfl), (fun h => by first | exact f12 (by rwa [set_other (by decide)] at h) | (rw [set_other (by decide)] at h ⊢; exact f12 h)), (fun h => by first | exact f13 (by rwa [set_other (by decide)] at h) | (rw [set_other (by decide)] at h ⊢; exact f13 h)), (fun _ => ⟨b, rfl, hb, by rw [set_self hr]; exact (hB.set_ 0 _).to 1 _ rfl⟩), (fun _ => by rw [set_other (by decide)]; exact ha)⟩
                    · obtain rfl := f12 (ready_dep hr (d := 11) (by kernel_rfl))
                      refine inv_op rfl (fun K hK => ?_)
                      try simp only [Act.put, List.setIfInBounds_toArray, List.set_cons_zero, List.set_cons_succ]
                      go_simp
                      refine hK.out _ _ ⟨x13, .int .i64 0, x76, x77, x78, x79, x80, x81, x82, x83, x84, x85, x86, .int .i64 0, (by simp only [Act.put, List.setIfInBounds_toArray, List.set_cons_zero, List.set_cons_succ]), f0, (fun h => by first | exact f1 (by rwa [set_other (by decide)] at h) | (rw [set_other (by decide)] at h ⊢; exact f1 h)), (fun h => by first | exact f2 (by rwa [set_other (by decide)] at h) | (rw [set_other (by decide)] at h ⊢; exact f2 h)), (fun h => by first | exact f3 (by rwa [set_other (by decide)] at h) | (rw [set_other (by decide)] at h ⊢; exact f3 h)), (fun h => by first | exact f4 (by rwa [set_other (by decide)] at h) | (rw [set_other (by decide)] at h ⊢; exact f4 h)), (fun h => by first | exact f5 (by rwa [set_other (by decide)] at h) | (rw [set_other (by decide)] at h ⊢; exact f5 h)), (fun h => by first | exact f6 (by rwa [set_other (by decide)] at h) | (rw [set_other (by decide)] at h ⊢; exact f6 h)), (fun h => by first | exact f7 (by rwa [set_other (by decide)] at h) | (rw [set_other (by decide)] at h ⊢; exact f7 h)), (fun h => by first | exact f8 (by rwa [set_other (by decide)] at h) | (rw [set_other (by decide)] at h ⊢; exact f8 h)), (fun h => by first | exact f9 (by rwa [set_other (by decide)] at h) | (rw [set_other (by decide)] at h ⊢; exact f9 h)), (fun h => by first | exact f10 (by rwa [set_other (by decide)] at h) | (rw [set_other (by decide)] at h ⊢; exact f10 h)), (fun h => by first | exact f11 (by rwa [set_other (by decide)] at h) | (rw [set_other (by decide)] at h ⊢; exact f11 h)), (fun _ => rfl), (fun _ => rfl), (fun h => by first | exact f14 (by rwa [set_other (by decide)] at h) | (rw [set_other (by decide)] at h ⊢; exact f14 h)), (fun h => by first | exact f15 (by rwa [set_other (by decide)] at h) | (rw [set_other (by decide)] at h ⊢; exact f15 h))⟩
                  case done =>
                    intro L az w1z hI hall
                    obtain ⟨x13, x14, x76, x77, x78, x79, x80, x81, x82, x83, x84, x85, x86, x87, rfl, f0, f1, f2, f3, f4, f5, f6, f7, f8, f9, f10, f11, f12, f13, f14, f15⟩ := hI
                    subst haq
                    simp only [Act.put, List.setIfInBounds_toArray, List.set_cons_zero, List.set_cons_succ]
                    go_wp2_with fail
                    go_meet
                    obtain ⟨b13, e13, -, hB13⟩ := f14 (hall 12 (by decide))
                    rw [hall 13 (by decide)] at hB13
                    exact ⟨b13, e13, f13 (hall 14 (by decide)), ⟨hB13, f0⟩⟩
                case rest =>
                  obtain ⟨b13, rfl, rfl, HB13⟩ := hcut
                  have HX := Kept.mk (HZ.out.new_ HB13.out.2)
                  clear HZ r0 r1
                  have q0 := HB13.out.1.cell 0 (v := .int .i64 Q.n) rfl
                  have q1 := HB13.out.1.cell 1 (v := .int .i64 Q.d) rfl
                  have q2 := HB13.out.1.lt
                  have s0 := HX.out.s.cell 0 (v := .int .i64 s.n) rfl
                  have s1 := HX.out.s.cell 1 (v := .int .i64 s.d) rfl
                  have sf0 := HX.out.s.free 0
                  have sf1 := HX.out.s.free 1
                  have s2 := HX.out.s.lt
                  go_wp2_with fail
                  go_roundw
                  case rel => exact ⟨k + 1, by omega, by go_num, by rw [← HN.out]; exact ⟨HX.out.put HGS.out Q⟩⟩
                  case measure => simp [intOf]; omega
          · obtain rfl : k = flows.length := by omega
            clear hlt
            obtain ⟨c, bC, oC, hc, rfl, -, hbC, d0, d1, c64⟩ := HU.out.st.net.capAt hl
            dsimp only at n0 d0 d1 hc
            have HCK := HCO.out c (List.mem_of_getElem? hc)
            obtain ⟨s, hs⟩ : ∃ s, s = cq (osum flows fz rs l flows.length) := ⟨_, rfl⟩
            have HS := Kept.mk hs
            rw [← hs] at HU
            have hkm := Nat.mul_le_mul_right M (show flows.length ≤ 5 by omega)
            have hsv : val s = osum flows fz rs l flows.length := by rw [hs, val_cq]
            have hso : okQ s = true := by rw [hs]; exact (HSM.out _ _ (HOS.out flows.length) (by omega)).ok
            have CS := fun w => sub_q c s w HCK.1 hso (HSM.out _ _ HCK.2 (by omega)) (by rw [hsv]; exact HSM.out _ _ (HOS.out flows.length) (by omega))
            obtain ⟨Q, hQ⟩ : ∃ Q, Q = cq (val c - val s) := ⟨_, rfl⟩
            have hgd : Gd D (C + 5 * M) (val c - val s) := by rw [hsv]; exact HCK.2.sub ((HOS.out flows.length).wide (by omega))
            have hqs : Sm (val Q) := by rw [hQ, val_cq]; exact HSM.out _ _ hgd (by omega)
            have hqo : okQ Q = true := by rw [hQ]; exact (HSM.out _ _ hgd (by omega)).ok
            have DV := fun w => div_q Q q w hqo hq1 (by omega) hqs
            rw [← hQ] at CS
            obtain ⟨V, hV⟩ : ∃ V, V = cq (val Q / (q : Rat)) := ⟨_, rfl⟩
            rw [← hV] at DV
            unfold rqv at CS DV
            dsimp only at DV
            have HRR : Kept (R = .tuple #[.agg #[.int .i64 V.n, .int .i64 V.d], .bool true, .int .i64 0]) := ⟨by
              rw [HR.out]
              unfold candR candQ
              dsimp only
              rw [HQ.out, if_neg (by omega), List.getD_eq_getElem?_getD, hc, Option.getD_some, ← hsv, hV, hQ, val_cq]
              rfl⟩
            have HCG := Kept.mk hc
            clear hc HCK hs hkm hsv hso hgd hqs hqo hV hQ
            have s0 := HU.out.s.cell 0 (v := .int .i64 s.n) rfl
            have s1 := HU.out.s.cell 1 (v := .int .i64 s.d) rfl
            go_upto_region 20 with fail
            obtain ⟨Z, hZ, HZ⟩ : ∃ Z, Z = wr ∧ Kept (CB w Z B g gr gz ⟨caps, some ⟨bC, oC, none⟩, ck, flows, fA, fk⟩ rs fz s) := ⟨_, rfl, HU⟩
            rw [← hZ]
            clear hZ HU n0 n1 n2 n3 s0 s1 d0 d1
            go_cut [15, 16] (fun s15 s16 wx => ∃ b15 : Nat, s15 = .pointer (some ⟨b15, 0, none⟩) ∧ s16 = .int .i64 0 ∧ Kept (Blk wx b15 32 #[.int .i64 Q.n, .int .i64 Q.d] ∧ Below Z.heap.size Z wx))
            case first =>
              refine with_act fun aq haq => ?_
              refine wp_region_inv (fun L az w1z => ∃ (x15 x16 x94 x95 x96 x97 x98 x99 x100 x101 x102 x103 x104 x105 x106 : Value), az = (((((((((((((((aq.put (some 15) x15).put (some 16) x16).put (some 94) x94).put (some 95) x95).put (some 96) x96).put (some 97) x97).put (some 98) x98).put (some 99) x99).put (some 100) x100).put (some 101) x101).put (some 102) x102).put (some 103) x103).put (some 104) x104).put (some 105) x105).put (some 106) x106) ∧ (Below Z.heap.size Z w1z) ∧ (L.getD 0 false = true → x95 = .pointer (some ⟨g, 0, none⟩)) ∧ (L.getD 1 false = true → x96 = .pointer (some ⟨g, 0, none⟩)) ∧ (L.getD 2 false = true → x97 = .pointer (some ⟨g, 0, none⟩)) ∧ (L.getD 3 false = true → x98 = .pointer (some ⟨g, 0, none⟩)) ∧ (L.getD 4 false = true → x99 = .slice (some ⟨bC, oC, none⟩) caps.length ck) ∧ (L.getD 5 false = true → x100 = .int .i64 (l : Int)) ∧ (L.getD 6 false = true → x101 = .pointer (some ⟨bC, oC + l * 2, none⟩)) ∧ (L.getD 7 false = true → x102 = .agg #[.int .i64 c.n, .int .i64 c.d]) ∧ (L.getD 8 false = true → x103 = .agg #[.int .i64 s.n, .int .i64 s.d]) ∧ (L.getD 9 false = true → x104 = .tuple #[.agg #[.int .i64 Q.n, .int .i64 Q.d], .int .i64 0]) ∧ (L.getD 10 false = true → x94 = .tuple #[.agg #[.int .i64 Q.n, .int .i64 Q.d], .int .i64 0]) ∧ (L.getD 11 false = true → x105 = .agg #[.int .i64 Q.n, .int .i64 Q.d]) ∧ (L.getD 12 false = true → x106 = .int .i64 0) ∧ (L.getD 15 false = true → x16 = .int .i64 0) ∧ (L.getD 13 false = true → ∃ b : Nat, x15 = .pointer (some ⟨b, 0, none⟩) ∧ Z.heap.size ≤ b ∧ Blk w1z b 32 (if L.getD 14 false = true then #[.int .i64 Q.n, .int .i64 Q.d] else #[.int .i64 0, .int .i64 0])) ∧ (L.getD 14 false = true → L.getD 13 false = true)) (by kernel_rfl) (by kernel_rfl) ?start ?oper ?done
              case start =>
                refine ⟨aq.tmps.getD 15 undef, aq.tmps.getD 16 undef, aq.tmps.getD 94 undef, aq.tmps.getD 95 undef, aq.tmps.getD 96 undef, aq.tmps.getD 97 undef, aq.tmps.getD 98 undef, aq.tmps.getD 99 undef, aq.tmps.getD 100 undef, aq.tmps.getD 101 undef, aq.tmps.getD 102 undef, aq.tmps.getD 103 undef, aq.tmps.getD 104 undef, aq.tmps.getD 105 undef, aq.tmps.getD 106 undef, by subst haq; simp only [Act.put, List.setIfInBounds_toArray, List.set_cons_zero, List.set_cons_succ, Array.getD_eq_getD_getElem?, List.getElem?_toArray, List.getElem?_cons_zero, List.getElem?_cons_succ, Option.getD_some], dN (Below.refl Z.heap.size Z) 1, none_yet, none_yet, none_yet, none_yet, none_yet, none_yet, none_yet, none_yet, none_yet, none_yet, none_yet, none_yet, none_yet, none_yet, none_yet, none_yet⟩
              case oper =>
                intro L az w1z i hI hr
                obtain ⟨x15, x16, x94, x95, x96, x97, x98, x99, x100, x101, x102, x103, x104, x105, x106, rfl, f0, f1, f2, f3, f4, f5, f6, f7, f8, f9, f10, f11, f12, f13, f14, f15, f16⟩ := hI
                subst haq
                have hi : i < 16 := ready_lt hr
                have hcase : i = 0 ∨ i = 1 ∨ i = 2 ∨ i = 3 ∨ i = 4 ∨ i = 5 ∨ i = 6 ∨ i = 7 ∨ i = 8 ∨ i = 9 ∨ i = 10 ∨ i = 11 ∨ i = 12 ∨ i = 13 ∨ i = 14 ∨ i = 15 := by omega
                clear hi
                rcases hcase with rfl | rfl | rfl | rfl | rfl | rfl | rfl | rfl | rfl | rfl | rfl | rfl | rfl | rfl | rfl | rfl
                · refine inv_op rfl (fun K hK => ?_)
                  try simp only [Act.put, List.setIfInBounds_toArray, List.set_cons_zero, List.set_cons_succ]
                  go_simp
                  refine hK.out _ _ ⟨x15, x16, x94, .pointer (some ⟨g, 0, none⟩), x96, x97, x98, x99, x100, x101, x102, x103, x104, x105, x106, (by simp only [Act.put, List.setIfInBounds_toArray, List.set_cons_zero, List.set_cons_succ]), f0, (fun _ => rfl), (fun h => by first | exact f2 (by rwa [set_other (by decide)] at h) | (rw [set_other (by decide)] at h ⊢; exact f2 h)), (fun h => by first | exact f3 (by rwa [set_other (by decide)] at h) | (rw [set_other (by decide)] at h ⊢; exact f3 h)), (fun h => by first | exact f4 (by rwa [set_other (by decide)] at h) | (rw [set_other (by decide)] at h ⊢; exact f4 h)), (fun h => by first | exact f5 (by rwa [set_other (by decide)] at h) | (rw [set_other (by decide)] at h ⊢; exact f5 h)), (fun h => by first | exact f6 (by rwa [set_other (by decide)] at h) | (rw [set_other (by decide)] at h ⊢; exact f6 h)), (fun h => by first | exact f7 (by rwa [set_other (by decide)] at h) | (rw [set_other (by decide)] at h ⊢; exact f7 h)), (fun h => by first | exact f8 (by rwa [set_other (by decide)] at h) | (rw [set_other (by decide)] at h ⊢; exact f8 h)), (fun h => by first | exact f9 (by rwa [set_other (by decide)] at h) | (rw [set_other (by decide)] at h ⊢; exact f9 h)), (fun h => by first | exact f10 (by rwa [set_other (by decide)] at h) | (rw [set_other (by decide)] at h ⊢; exact f10 h)), (fun h => by first | exact f11 (by rwa [set_other (by decide)] at h) | (rw [set_other (by decide)] at h ⊢; exact f11 h)), (fun h => by first | exact f12 (by rwa [set_other (by decide)] at h) | (rw [set_other (by decide)] at h ⊢; exact f12 h)), (fun h => by first | exact f13 (by rwa [set_other (by decide)] at h) | (rw [set_other (by decide)] at h ⊢; exact f13 h)), (fun h => by first | exact f14 (by rwa [set_other (by decide)] at h) | (rw [set_other (by decide)] at h ⊢; exact f14 h)), (fun h => by first | exact f15 (by rwa [set_other (by decide)] at h) | (rw [set_other (by decide)] at h ⊢; exact f15 h)), (fun h => by first | exact f16 (by rwa [set_other (by decide)] at h) | (rw [set_other (by decide)] at h ⊢; exact f16 h))⟩
                · obtain rfl := f1 (ready_dep hr (d := 0) (by kernel_rfl))
                  refine inv_op rfl (fun K hK => ?_)
                  try simp only [Act.put, List.setIfInBounds_toArray, List.set_cons_zero, List.set_cons_succ]
                  go_simp
                  refine hK.out _ _ ⟨x15, x16, x94, .pointer (some ⟨g, 0, none⟩), .pointer (some ⟨g, 0, none⟩), x97, x98, x99, x100, x101, x102, x103, x104, x105, x106, (by simp only [Act.put, List.setIfInBounds_toArray, List.set_cons_zero, List.set_cons_succ]), f0, (fun _ => rfl), (fun _ => rfl), (fun h => by first | exact f3 (by rwa [set_other (by decide)] at h) | (rw [set_other (by decide)] at h ⊢; exact f3 h)), (fun h => by first | exact f4 (by rwa [set_other (by decide)] at h) | (rw [set_other (by decide)] at h ⊢; exact f4 h)), (fun h => by first | exact f5 (by rwa [set_other (by decide)] at h) | (rw [set_other (by decide)] at h ⊢; exact f5 h)), (fun h => by first | exact f6 (by rwa [set_other (by decide)] at h) | (rw [set_other (by decide)] at h ⊢; exact f6 h)), (fun h => by first | exact f7 (by rwa [set_other (by decide)] at h) | (rw [set_other (by decide)] at h ⊢; exact f7 h)), (fun h => by first | exact f8 (by rwa [set_other (by decide)] at h) | (rw [set_other (by decide)] at h ⊢; exact f8 h)), (fun h => by first | exact f9 (by rwa [set_other (by decide)] at h) | (rw [set_other (by decide)] at h ⊢; exact f9 h)), (fun h => by first | exact f10 (by rwa [set_other (by decide)] at h) | (rw [set_other (by decide)] at h ⊢; exact f10 h)), (fun h => by first | exact f11 (by rwa [set_other (by decide)] at h) | (rw [set_other (by decide)] at h ⊢; exact f11 h)), (fun h => by first | exact f12 (by rwa [set_other (by decide)] at h) | (rw [set_other (by decide)] at h ⊢; exact f12 h)), (fun h => by first | exact f13 (by rwa [set_other (by decide)] at h) | (rw [set_other (by decide)] at h ⊢; exact f13 h)), (fun h => by first | exact f14 (by rwa [set_other (by decide)] at h) | (rw [set_other (by decide)] at h ⊢; exact f14 h)), (fun h => by first | exact f15 (by rwa [set_other (by decide)] at h) | (rw [set_other (by decide)] at h ⊢; exact f15 h)), (fun h => by first | exact f16 (by rwa [set_other (by decide)] at h) | (rw [set_other (by decide)] at h ⊢; exact f16 h))⟩
                · obtain rfl := f2 (ready_dep hr (d := 1) (by kernel_rfl))
                  refine inv_op rfl (fun K hK => ?_)
                  try simp only [Act.put, List.setIfInBounds_toArray, List.set_cons_zero, List.set_cons_succ]
                  go_simp
                  refine hK.out _ _ ⟨x15, x16, x94, x95, .pointer (some ⟨g, 0, none⟩), .pointer (some ⟨g, 0, none⟩), x98, x99, x100, x101, x102, x103, x104, x105, x106, (by simp only [Act.put, List.setIfInBounds_toArray, List.set_cons_zero, List.set_cons_succ]), f0, (fun h => by first | exact f1 (by rwa [set_other (by decide)] at h) | (rw [set_other (by decide)] at h ⊢; exact f1 h)), (fun _ => rfl), (fun _ => rfl), (fun h => by first | exact f4 (by rwa [set_other (by decide)] at h) | (rw [set_other (by decide)] at h ⊢; exact f4 h)), (fun h => by first | exact f5 (by rwa [set_other (by decide)] at h) | (rw [set_other (by decide)] at h ⊢; exact f5 h)), (fun h => by first | exact f6 (by rwa [set_other (by decide)] at h) | (rw [set_other (by decide)] at h ⊢; exact f6 h)), (fun h => by first | exact f7 (by rwa [set_other (by decide)] at h) | (rw [set_other (by decide)] at h ⊢; exact f7 h)), (fun h => by first | exact f8 (by rwa [set_other (by decide)] at h) | (rw [set_other (by decide)] at h ⊢; exact f8 h)), (fun h => by first | exact f9 (by rwa [set_other (by decide)] at h) | (rw [set_other (by decide)] at h ⊢; exact f9 h)), (fun h => by first | exact f10 (by rwa [set_other (by decide)] at h) | (rw [set_other (by decide)] at h ⊢; exact f10 h)), (fun h => by first | exact f11 (by rwa [set_other (by decide)] at h) | (rw [set_other (by decide)] at h ⊢; exact f11 h)), (fun h => by first | exact f12 (by rwa [set_other (by decide)] at h) | (rw [set_other (by decide)] at h ⊢; exact f12 h)), (fun h => by first | exact f13 (by rwa [set_other (by decide)] at h) | (rw [set_other (by decide)] at h ⊢; exact f13 h)), (fun h => by first | exact f14 (by rwa [set_other (by decide)] at h) | (rw [set_other (by decide)] at h ⊢; exact f14 h)), (fun h => by first | exact f15 (by rwa [set_other (by decide)] at h) | (rw [set_other (by decide)] at h ⊢; exact f15 h)), (fun h => by first | exact f16 (by rwa [set_other (by decide)] at h) | (rw [set_other (by decide)] at h ⊢; exact f16 h))⟩
                · obtain rfl := f3 (ready_dep hr (d := 2) (by kernel_rfl))
                  refine inv_op rfl (fun K hK => ?_)
                  try simp only [Act.put, List.setIfInBounds_toArray, List.set_cons_zero, List.set_cons_succ]
                  go_simp
                  refine hK.out _ _ ⟨x15, x16, x94, x95, x96, .pointer (some ⟨g, 0, none⟩), .pointer (some ⟨g, 0, none⟩), x99, x100, x101, x102, x103, x104, x105, x106, (by simp only [Act.put, List.setIfInBounds_toArray, List.set_cons_zero, List.set_cons_succ]), f0, (fun h => by first | exact f1 (by rwa [set_other (by decide)] at h) | (rw [set_other (by decide)] at h ⊢; exact f1 h)), (fun h => by first | exact f2 (by rwa [set_other (by decide)] at h) | (rw [set_other (by decide)] at h ⊢; exact f2 h)), (fun _ => rfl), (fun _ => rfl), (fun h => by first | exact f5 (by rwa [set_other (by decide)] at h) | (rw [set_other (by decide)] at h ⊢; exact f5 h)), (fun h => by first | exact f6 (by rwa [set_other (by decide)] at h) | (rw [set_other (by decide)] at h ⊢; exact f6 h)), (fun h => by first | exact f7 (by rwa [set_other (by decide)] at h) | (rw [set_other (by decide)] at h ⊢; exact f7 h)), (fun h => by first | exact f8 (by rwa [set_other (by decide)] at h) | (rw [set_other (by decide)] at h ⊢; exact f8 h)), (fun h => by first | exact f9 (by rwa [set_other (by decide)] at h) | (rw [set_other (by decide)] at h ⊢; exact f9 h)), (fun h => by first | exact f10 (by rwa [set_other (by decide)] at h) | (rw [set_other (by decide)] at h ⊢; exact f10 h)), (fun h => by first | exact f11 (by rwa [set_other (by decide)] at h) | (rw [set_other (by decide)] at h ⊢; exact f11 h)), (fun h => by first | exact f12 (by rwa [set_other (by decide)] at h) | (rw [set_other (by decide)] at h ⊢; exact f12 h)), (fun h => by first | exact f13 (by rwa [set_other (by decide)] at h) | (rw [set_other (by decide)] at h ⊢; exact f13 h)), (fun h => by first | exact f14 (by rwa [set_other (by decide)] at h) | (rw [set_other (by decide)] at h ⊢; exact f14 h)), (fun h => by first | exact f15 (by rwa [set_other (by decide)] at h) | (rw [set_other (by decide)] at h ⊢; exact f15 h)), (fun h => by first | exact f16 (by rwa [set_other (by decide)] at h) | (rw [set_other (by decide)] at h ⊢; exact f16 h))⟩
                · obtain rfl := f4 (ready_dep hr (d := 3) (by kernel_rfl))
                  have HH := HZ.out.new_ f0
                  have n0 := HH.st.box.cell 0 rfl
                  dsimp only at n0
                  have s0 := HH.s.cell 0 (v := .int .i64 s.n) rfl
                  have s1 := HH.s.cell 1 (v := .int .i64 s.d) rfl
                  obtain ⟨c9, b9, o9, hc9, he9, -, hb9c, d0, d1, -⟩ := HH.st.net.capAt hl
                  dsimp only at hc9 he9
                  rw [HCG.out] at hc9
                  injection hc9 with hc9
                  subst hc9
                  injection he9 with he9
                  injection he9 with he1 he2
                  subst he1 he2
                  refine inv_op rfl (fun K hK => ?_)
                  try simp only [Act.put, List.setIfInBounds_toArray, List.set_cons_zero, List.set_cons_succ]
                  go_simp
                  refine hK.out _ _ ⟨x15, x16, x94, x95, x96, x97, .pointer (some ⟨g, 0, none⟩), .slice (some ⟨bC, oC, none⟩) caps.length ck, x100, x101, x102, x103, x104, x105, x106, (by simp only [Act.put, List.setIfInBounds_toArray, List.set_cons_zero, List.set_cons_succ]), f0, (fun h => by first | exact f1 (by rwa [set_other (by decide)] at h) | (rw [set_other (by decide)] at h ⊢; exact f1 h)), (fun h => by first | exact f2 (by rwa [set_other (by decide)] at h) | (rw [set_other (by decide)] at h ⊢; exact f2 h)), (fun h => by first | exact f3 (by rwa [set_other (by decide)] at h) | (rw [set_other (by decide)] at h ⊢; exact f3 h)), (fun _ => rfl), (fun _ => rfl), (fun h => by first | exact f6 (by rwa [set_other (by decide)] at h) | (rw [set_other (by decide)] at h ⊢; exact f6 h)), (fun h => by first | exact f7 (by rwa [set_other (by decide)] at h) | (rw [set_other (by decide)] at h ⊢; exact f7 h)), (fun h => by first | exact f8 (by rwa [set_other (by decide)] at h) | (rw [set_other (by decide)] at h ⊢; exact f8 h)), (fun h => by first | exact f9 (by rwa [set_other (by decide)] at h) | (rw [set_other (by decide)] at h ⊢; exact f9 h)), (fun h => by first | exact f10 (by rwa [set_other (by decide)] at h) | (rw [set_other (by decide)] at h ⊢; exact f10 h)), (fun h => by first | exact f11 (by rwa [set_other (by decide)] at h) | (rw [set_other (by decide)] at h ⊢; exact f11 h)), (fun h => by first | exact f12 (by rwa [set_other (by decide)] at h) | (rw [set_other (by decide)] at h ⊢; exact f12 h)), (fun h => by first | exact f13 (by rwa [set_other (by decide)] at h) | (rw [set_other (by decide)] at h ⊢; exact f13 h)), (fun h => by first | exact f14 (by rwa [set_other (by decide)] at h) | (rw [set_other (by decide)] at h ⊢; exact f14 h)), (fun h => by first | exact f15 (by rwa [set_other (by decide)] at h) | (rw [set_other (by decide)] at h ⊢; exact f15 h)), (fun h => by first | exact f16 (by rwa [set_other (by decide)] at h) | (rw [set_other (by decide)] at h ⊢; exact f16 h))⟩
                · refine inv_op rfl (fun K hK => ?_)
                  try simp only [Act.put, List.setIfInBounds_toArray, List.set_cons_zero, List.set_cons_succ]
                  go_simp
                  refine hK.out _ _ ⟨x15, x16, x94, x95, x96, x97, x98, x99, .int .i64 (l : Int), x101, x102, x103, x104, x105, x106, (by simp only [Act.put, List.setIfInBounds_toArray, List.set_cons_zero, List.set_cons_succ]), f0, (fun h => by first | exact f1 (by rwa [set_other (by decide)] at h) | (rw [set_other (by decide)] at h ⊢; exact f1 h)), (fun h => by first | exact f2 (by rwa [set_other (by decide)] at h) | (rw [set_other (by decide)] at h ⊢; exact f2 h)), (fun h => by first | exact f3 (by rwa [set_other (by decide)] at h) | (rw [set_other (by decide)] at h ⊢; exact f3 h)), (fun h => by first | exact f4 (by rwa [set_other (by decide)] at h) | (rw [set_other (by decide)] at h ⊢; exact f4 h)), (fun h => by first | exact f5 (by rwa [set_other (by decide)] at h) | (rw [set_other (by decide)] at h ⊢; exact f5 h)), (fun _ => rfl), (fun h => by first | exact f7 (by rwa [set_other (by decide)] at h) | (rw [set_other (by decide)] at h ⊢; exact f7 h)), (fun h => by first | exact f8 (by rwa [set_other (by decide)] at h) | (rw [set_other (by decide)] at h ⊢; exact f8 h)), (fun h => by first | exact f9 (by rwa [set_other (by decide)] at h) | (rw [set_other (by decide)] at h ⊢; exact f9 h)), (fun h => by first | exact f10 (by rwa [set_other (by decide)] at h) | (rw [set_other (by decide)] at h ⊢; exact f10 h)), (fun h => by first | exact f11 (by rwa [set_other (by decide)] at h) | (rw [set_other (by decide)] at h ⊢; exact f11 h)), (fun h => by first | exact f12 (by rwa [set_other (by decide)] at h) | (rw [set_other (by decide)] at h ⊢; exact f12 h)), (fun h => by first | exact f13 (by rwa [set_other (by decide)] at h) | (rw [set_other (by decide)] at h ⊢; exact f13 h)), (fun h => by first | exact f14 (by rwa [set_other (by decide)] at h) | (rw [set_other (by decide)] at h ⊢; exact f14 h)), (fun h => by first | exact f15 (by rwa [set_other (by decide)] at h) | (rw [set_other (by decide)] at h ⊢; exact f15 h)), (fun h => by first | exact f16 (by rwa [set_other (by decide)] at h) | (rw [set_other (by decide)] at h ⊢; exact f16 h))⟩
                · obtain rfl := f5 (ready_dep hr (d := 4) (by kernel_rfl))
                  obtain rfl := f6 (ready_dep hr (d := 5) (by kernel_rfl))
                  refine inv_op rfl (fun K hK => ?_)
                  try simp only [Act.put, List.setIfInBounds_toArray, List.set_cons_zero, List.set_cons_succ]
                  go_simp
                  refine hK.out _ _ ⟨x15, x16, x94, x95, x96, x97, x98, .slice (some ⟨bC, oC, none⟩) caps.length ck, .int .i64 (l : Int), .pointer (some ⟨bC, oC + l * 2, none⟩), x102, x103, x104, x105, x106, (by simp only [Act.put, List.setIfInBounds_toArray, List.set_cons_zero, List.set_cons_succ]), f0, (fun h => by first | exact f1 (by rwa [set_other (by decide)] at h) | (rw [set_other (by decide)] at h ⊢; exact f1 h)), (fun h => by first | exact f2 (by rwa [set_other (by decide)] at h) | (rw [set_other (by decide)] at h ⊢; exact f2 h)), (fun h => by first | exact f3 (by rwa [set_other (by decide)] at h) | (rw [set_other (by decide)] at h ⊢; exact f3 h)), (fun h => by first | exact f4 (by rwa [set_other (by decide)] at h) | (rw [set_other (by decide)] at h ⊢; exact f4 h)), (fun _ => rfl), (fun _ => rfl), (fun _ => rfl), (fun h => by first | exact f8 (by rwa [set_other (by decide)] at h) | (rw [set_other (by decide)] at h ⊢; exact f8 h)), (fun h => by first | exact f9 (by rwa [set_other (by decide)] at h) | (rw [set_other (by decide)] at h ⊢; exact f9 h)), (fun h => by first | exact f10 (by rwa [set_other (by decide)] at h) | (rw [set_other (by decide)] at h ⊢; exact f10 h)), (fun h => by first | exact f11 (by rwa [set_other (by decide)] at h) | (rw [set_other (by decide)] at h ⊢; exact f11 h)), (fun h => by first | exact f12 (by rwa [set_other (by decide)] at h) | (rw [set_other (by decide)] at h ⊢; exact f12 h)), (fun h => by first | exact f13 (by rwa [set_other (by decide)] at h) | (rw [set_other (by decide)] at h ⊢; exact f13 h)), (fun h => by first | exact f14 (by rwa [set_other (by decide)] at h) | (rw [set_other (by decide)] at h ⊢; exact f14 h)), (fun h => by first | exact f15 (by rwa [set_other (by decide)] at h) | (rw [set_other (by decide)] at h ⊢; exact f15 h)), (fun h => by first | exact f16 (by rwa [set_other (by decide)] at h) | (rw [set_other (by decide)] at h ⊢; exact f16 h))⟩
                · obtain rfl := f7 (ready_dep hr (d := 6) (by kernel_rfl))
                  have HH := HZ.out.new_ f0
                  have n0 := HH.st.box.cell 0 rfl
                  dsimp only at n0
                  have s0 := HH.s.cell 0 (v := .int .i64 s.n) rfl
                  have s1 := HH.s.cell 1 (v := .int .i64 s.d) rfl
                  obtain ⟨c9, b9, o9, hc9, he9, -, hb9c, d0, d1, -⟩ := HH.st.net.capAt hl
                  dsimp only at hc9 he9
                  rw [HCG.out] at hc9
                  injection hc9 with hc9
                  subst hc9
                  injection he9 with he9
                  injection he9 with he1 he2
                  subst he1 he2
                  refine inv_op rfl (fun K hK => ?_)
                  try simp only [Act.put, List.setIfInBounds_toArray, List.set_cons_zero, List.set_cons_succ]
                  go_simp
                  refine hK.out _ _ ⟨x15, x16, x94, x95, x96, x97, x98, x99, x100, .pointer (some ⟨bC, oC + l * 2, none⟩), .agg #[.int .i64 c.n, .int .i64 c.d], x103, x104, x105, x106, (by simp only [Act.put, List.setIfInBounds_toArray, List.set_cons_zero, List.set_cons_succ]), f0, (fun h => by first | exact f1 (by rwa [set_other (by decide)] at h) | (rw [set_other (by decide)] at h ⊢; exact f1 h)), (fun h => by first | exact f2 (by rwa [set_other (by decide)] at h) | (rw [set_other (by decide)] at h ⊢; exact f2 h)), (fun h => by first | exact f3 (by rwa [set_other (by decide)] at h) | (rw [set_other (by decide)] at h ⊢; exact f3 h)), (fun h => by first | exact f4 (by rwa [set_other (by decide)] at h) | (rw [set_other (by decide)] at h ⊢; exact f4 h)), (fun h => by first | exact f5 (by rwa [set_other (by decide)] at h) | (rw [set_other (by decide)] at h ⊢; exact f5 h)), (fun h => by first | exact f6 (by rwa [set_other (by decide)] at h) | (rw [set_other (by decide)] at h ⊢; exact f6 h)), (fun _ => rfl), (fun _ => rfl), (fun h => by first | exact f9 (by rwa [set_other (by decide)] at h) | (rw [set_other (by decide)] at h ⊢; exact f9 h)), (fun h => by first | exact f10 (by rwa [set_other (by decide)] at h) | (rw [set_other (by decide)] at h ⊢; exact f10 h)), (fun h => by first | exact f11 (by rwa [set_other (by decide)] at h) | (rw [set_other (by decide)] at h ⊢; exact f11 h)), (fun h => by first | exact f12 (by rwa [set_other (by decide)] at h) | (rw [set_other (by decide)] at h ⊢; exact f12 h)), (fun h => by first | exact f13 (by rwa [set_other (by decide)] at h) | (rw [set_other (by decide)] at h ⊢; exact f13 h)), (fun h => by first | exact f14 (by rwa [set_other (by decide)] at h) | (rw [set_other (by decide)] at h ⊢; exact f14 h)), (fun h => by first | exact f15 (by rwa [set_other (by decide)] at h) | (rw [set_other (by decide)] at h ⊢; exact f15 h)), (fun h => by first | exact f16 (by rwa [set_other (by decide)] at h) | (rw [set_other (by decide)] at h ⊢; exact f16 h))⟩
                · have HH := HZ.out.new_ f0
                  have n0 := HH.st.box.cell 0 rfl
                  dsimp only at n0
                  have s0 := HH.s.cell 0 (v := .int .i64 s.n) rfl
                  have s1 := HH.s.cell 1 (v := .int .i64 s.d) rfl
                  obtain ⟨c9, b9, o9, hc9, he9, -, hb9c, d0, d1, -⟩ := HH.st.net.capAt hl
                  dsimp only at hc9 he9
                  rw [HCG.out] at hc9
                  injection hc9 with hc9
                  subst hc9
                  injection he9 with he9
                  injection he9 with he1 he2
                  subst he1 he2
                  refine inv_op rfl (fun K hK => ?_)
                  try simp only [Act.put, List.setIfInBounds_toArray, List.set_cons_zero, List.set_cons_succ]
                  go_simp
                  refine hK.out _ _ ⟨x15, x16, x94, x95, x96, x97, x98, x99, x100, x101, x102, .agg #[.int .i64 s.n, .int .i64 s.d], x104, x105, x106, (by simp only [Act.put, List.setIfInBounds_toArray, List.set_cons_zero, List.set_cons_succ]), f0, (fun h => by first | exact f1 (by rwa [set_other (by decide)] at h) | (rw [set_other (by decide)] at h ⊢; exact f1 h)), (fun h => by first | exact f2 (by rwa [set_other (by decide)] at h) | (rw [set_other (by decide)] at h ⊢; exact f2 h)), (fun h => by first | exact f3 (by rwa [set_other (by decide)] at h) | (rw [set_other (by decide)] at h ⊢; exact f3 h)), (fun h => by first | exact f4 (by rwa [set_other (by decide)] at h) | (rw [set_other (by decide)] at h ⊢; exact f4 h)), (fun h => by first | exact f5 (by rwa [set_other (by decide)] at h) | (rw [set_other (by decide)] at h ⊢; exact f5 h)), (fun h => by first | exact f6 (by rwa [set_other (by decide)] at h) | (rw [set_other (by decide)] at h ⊢; exact f6 h)), (fun h => by first | exact f7 (by rwa [set_other (by decide)] at h) | (rw [set_other (by decide)] at h ⊢; exact f7 h)), (fun h => by first | exact f8 (by rwa [set_other (by decide)] at h) | (rw [set_other (by decide)] at h ⊢; exact f8 h)), (fun _ => rfl), (fun h => by first | exact f10 (by rwa [set_other (by decide)] at h) | (rw [set_other (by decide)] at h ⊢; exact f10 h)), (fun h => by first | exact f11 (by rwa [set_other (by decide)] at h) | (rw [set_other (by decide)] at h ⊢; exact f11 h)), (fun h => by first | exact f12 (by rwa [set_other (by decide)] at h) | (rw [set_other (by decide)] at h ⊢; exact f12 h)), (fun h => by first | exact f13 (by rwa [set_other (by decide)] at h) | (rw [set_other (by decide)] at h ⊢; exact f13 h)), (fun h => by first | exact f14 (by rwa [set_other (by decide)] at h) | (rw [set_other (by decide)] at h ⊢; exact f14 h)), (fun h => by first | exact f15 (by rwa [set_other (by decide)] at h) | (rw [set_other (by decide)] at h ⊢; exact f15 h)), (fun h => by first | exact f16 (by rwa [set_other (by decide)] at h) | (rw [set_other (by decide)] at h ⊢; exact f16 h))⟩
                · obtain rfl := f8 (ready_dep hr (d := 7) (by kernel_rfl))
                  obtain rfl := f9 (ready_dep hr (d := 8) (by kernel_rfl))
                  refine inv_op rfl (fun K hK => ?_)
                  try simp only [Act.put, List.setIfInBounds_toArray, List.set_cons_zero, List.set_cons_succ]
                  go_simp
                  refine (CS _).mono ?_
                  rintro e w9 ⟨rfl, hb9⟩
                  try simp only []
                  refine hK.out _ _ ⟨x15, x16, x94, x95, x96, x97, x98, x99, x100, x101, .agg #[.int .i64 c.n, .int .i64 c.d], .agg #[.int .i64 s.n, .int .i64 s.d], .tuple #[.agg #[.int .i64 Q.n, .int .i64 Q.d], .int .i64 0], x105, x106, (by simp only [Act.put, List.setIfInBounds_toArray, List.set_cons_zero, List.set_cons_succ]), join f0 hb9, (fun h => by first | exact f1 (by rwa [set_other (by decide)] at h) | (rw [set_other (by decide)] at h ⊢; exact f1 h)), (fun h => by first | exact f2 (by rwa [set_other (by decide)] at h) | (rw [set_other (by decide)] at h ⊢; exact f2 h)), (fun h => by first | exact f3 (by rwa [set_other (by decide)] at h) | (rw [set_other (by decide)] at h ⊢; exact f3 h)), (fun h => by first | exact f4 (by rwa [set_other (by decide)] at h) | (rw [set_other (by decide)] at h ⊢; exact f4 h)), (fun h => by first | exact f5 (by rwa [set_other (by decide)] at h) | (rw [set_other (by decide)] at h ⊢; exact f5 h)), (fun h => by first | exact f6 (by rwa [set_other (by decide)] at h) | (rw [set_other (by decide)] at h ⊢; exact f6 h)), (fun h => by first | exact f7 (by rwa [set_other (by decide)] at h) | (rw [set_other (by decide)] at h ⊢; exact f7 h)), (fun _ => rfl), (fun _ => rfl), (fun _ => rfl), (fun h => by first | exact f11 (by rwa [set_other (by decide)] at h) | (rw [set_other (by decide)] at h ⊢; exact f11 h)), (fun h => by first | exact f12 (by rwa [set_other (by decide)] at h) | (rw [set_other (by decide)] at h ⊢; exact f12 h)), (fun h => by first | exact f13 (by rwa [set_other (by decide)] at h) | (rw [set_other (by decide)] at h ⊢; exact f13 h)), (fun h => by first | exact f14 (by rwa [set_other (by decide)] at h) | (rw [set_other (by decide)] at h ⊢; exact f14 h)), (fun h => by rw [set_other (by decide)] at h ⊢; obtain ⟨b, e, hb, hB⟩ := f15 h; exact ⟨b, e, hb, hB.new_ hb9⟩), (fun h => by first | exact f16 (by rwa [set_other (by decide)] at h) | (rw [set_other (by decide)] at h ⊢; exact f16 h))⟩
                · obtain rfl := f10 (ready_dep hr (d := 9) (by kernel_rfl))
                  refine inv_op rfl (fun K hK => ?_)
                  try simp only [Act.put, List.setIfInBounds_toArray, List.set_cons_zero, List.set_cons_succ]
                  go_simp
                  refine hK.out _ _ ⟨x15, x16, .tuple #[.agg #[.int .i64 Q.n, .int .i64 Q.d], .int .i64 0], x95, x96, x97, x98, x99, x100, x101, x102, x103, .tuple #[.agg #[.int .i64 Q.n, .int .i64 Q.d], .int .i64 0], x105, x106, (by simp only [Act.put, List.setIfInBounds_toArray, List.set_cons_zero, List.set_cons_succ]), f0, (fun h => by first | exact f1 (by rwa [set_other (by decide)] at h) | (rw [set_other (by decide)] at h ⊢; exact f1 h)), (fun h => by first | exact f2 (by rwa [set_other (by decide)] at h) | (rw [set_other (by decide)] at h ⊢; exact f2 h)), (fun h => by first | exact f3 (by rwa [set_other (by decide)] at h) | (rw [set_other (by decide)] at h ⊢; exact f3 h)), (fun h => by first | exact f4 (by rwa [set_other (by decide)] at h) | (rw [set_other (by decide)] at h ⊢; exact f4 h)), (fun h => by first | exact f5 (by rwa [set_other (by decide)] at h) | (rw [set_other (by decide)] at h ⊢; exact f5 h)), (fun h => by first | exact f6 (by rwa [set_other (by decide)] at h) | (rw [set_other (by decide)] at h ⊢; exact f6 h)), (fun h => by first | exact f7 (by rwa [set_other (by decide)] at h) | (rw [set_other (by decide)] at h ⊢; exact f7 h)), (fun h => by first | exact f8 (by rwa [set_other (by decide)] at h) | (rw [set_other (by decide)] at h ⊢; exact f8 h)), (fun h => by first | exact f9 (by rwa [set_other (by decide)] at h) | (rw [set_other (by decide)] at h ⊢; exact f9 h)), (fun _ => rfl), (fun _ => rfl), (fun h => by first | exact f12 (by rwa [set_other (by decide)] at h) | (rw [set_other (by decide)] at h ⊢; exact f12 h)), (fun h => by first | exact f13 (by rwa [set_other (by decide)] at h) | (rw [set_other (by decide)] at h ⊢; exact f13 h)), (fun h => by first | exact f14 (by rwa [set_other (by decide)] at h) | (rw [set_other (by decide)] at h ⊢; exact f14 h)), (fun h => by first | exact f15 (by rwa [set_other (by decide)] at h) | (rw [set_other (by decide)] at h ⊢; exact f15 h)), (fun h => by first | exact f16 (by rwa [set_other (by decide)] at h) | (rw [set_other (by decide)] at h ⊢; exact f16 h))⟩
                · obtain rfl := f11 (ready_dep hr (d := 10) (by kernel_rfl))
                  refine inv_op rfl (fun K hK => ?_)
                  try simp only [Act.put, List.setIfInBounds_toArray, List.set_cons_zero, List.set_cons_succ]
                  go_simp
                  refine hK.out _ _ ⟨x15, x16, .tuple #[.agg #[.int .i64 Q.n, .int .i64 Q.d], .int .i64 0], x95, x96, x97, x98, x99, x100, x101, x102, x103, x104, .agg #[.int .i64 Q.n, .int .i64 Q.d], x106, (by simp only [Act.put, List.setIfInBounds_toArray, List.set_cons_zero, List.set_cons_succ]), f0, (fun h => by first | exact f1 (by rwa [set_other (by decide)] at h) | (rw [set_other (by decide)] at h ⊢; exact f1 h)), (fun h => by first | exact f2 (by rwa [set_other (by decide)] at h) | (rw [set_other (by decide)] at h ⊢; exact f2 h)), (fun h => by first | exact f3 (by rwa [set_other (by decide)] at h) | (rw [set_other (by decide)] at h ⊢; exact f3 h)), (fun h => by first | exact f4 (by rwa [set_other (by decide)] at h) | (rw [set_other (by decide)] at h ⊢; exact f4 h)), (fun h => by first | exact f5 (by rwa [set_other (by decide)] at h) | (rw [set_other (by decide)] at h ⊢; exact f5 h)), (fun h => by first | exact f6 (by rwa [set_other (by decide)] at h) | (rw [set_other (by decide)] at h ⊢; exact f6 h)), (fun h => by first | exact f7 (by rwa [set_other (by decide)] at h) | (rw [set_other (by decide)] at h ⊢; exact f7 h)), (fun h => by first | exact f8 (by rwa [set_other (by decide)] at h) | (rw [set_other (by decide)] at h ⊢; exact f8 h)), (fun h => by first | exact f9 (by rwa [set_other (by decide)] at h) | (rw [set_other (by decide)] at h ⊢; exact f9 h)), (fun h => by first | exact f10 (by rwa [set_other (by decide)] at h) | (rw [set_other (by decide)] at h ⊢; exact f10 h)), (fun _ => rfl), (fun _ => rfl), (fun h => by first | exact f13 (by rwa [set_other (by decide)] at h) | (rw [set_other (by decide)] at h ⊢; exact f13 h)), (fun h => by first | exact f14 (by rwa [set_other (by decide)] at h) | (rw [set_other (by decide)] at h ⊢; exact f14 h)), (fun h => by first | exact f15 (by rwa [set_other (by decide)] at h) | (rw [set_other (by decide)] at h ⊢; exact f15 h)), (fun h => by first | exact f16 (by rwa [set_other (by decide)] at h) | (rw [set_other (by decide)] at h ⊢; exact f16 h))⟩
                · obtain rfl := f11 (ready_dep hr (d := 10) (by kernel_rfl))
                  refine inv_op rfl (fun K hK => ?_)
                  try simp only [Act.put, List.setIfInBounds_toArray, List.set_cons_zero, List.set_cons_succ]
                  go_simp
                  refine hK.out _ _ ⟨x15, x16, .tuple #[.agg #[.int .i64 Q.n, .int .i64 Q.d], .int .i64 0], x95, x96, x97, x98, x99, x100, x101, x102, x103, x104, x105, .int .i64 0, (by simp only [Act.put, List.setIfInBounds_toArray, List.set_cons_zero, List.set_cons_succ]), f0, (fun h => by first | exact f1 (by rwa [set_other (by decide)] at h) | (rw [set_other (by decide)] at h ⊢; exact f1 h)), (fun h => by first | exact f2 (by rwa [set_other (by decide)] at h) | (rw [set_other (by decide)] at h ⊢; exact f2 h)), (fun h => by first | exact f3 (by rwa [set_other (by decide)] at h) | (rw [set_other (by decide)] at h ⊢; exact f3 h)), (fun h => by first | exact f4 (by rwa [set_other (by decide)] at h) | (rw [set_other (by decide)] at h ⊢; exact f4 h)), (fun h => by first | exact f5 (by rwa [set_other (by decide)] at h) | (rw [set_other (by decide)] at h ⊢; exact f5 h)), (fun h => by first | exact f6 (by rwa [set_other (by decide)] at h) | (rw [set_other (by decide)] at h ⊢; exact f6 h)), (fun h => by first | exact f7 (by rwa [set_other (by decide)] at h) | (rw [set_other (by decide)] at h ⊢; exact f7 h)), (fun h => by first | exact f8 (by rwa [set_other (by decide)] at h) | (rw [set_other (by decide)] at h ⊢; exact f8 h)), (fun h => by first | exact f9 (by rwa [set_other (by decide)] at h) | (rw [set_other (by decide)] at h ⊢; exact f9 h)), (fun h => by first | exact f10 (by rwa [set_other (by decide)] at h) | (rw [set_other (by decide)] at h ⊢; exact f10 h)), (fun _ => rfl), (fun h => by first | exact f12 (by rwa [set_other (by decide)] at h) | (rw [set_other (by decide)] at h ⊢; exact f12 h)), (fun _ => rfl), (fun h => by first | exact f14 (by rwa [set_other (by decide)] at h) | (rw [set_other (by decide)] at h ⊢; exact f14 h)), (fun h => by first | exact f15 (by rwa [set_other (by decide)] at h) | (rw [set_other (by decide)] at h ⊢; exact f15 h)), (fun h => by first | exact f16 (by rwa [set_other (by decide)] at h) | (rw [set_other (by decide)] at h ⊢; exact f16 h))⟩
                · have h14 : L.getD 14 false = false := by
                    cases hh : L.getD 14 false with
                    | false => rfl
                    | true => exact absurd (f16 hh) (by rw [ready_not hr]; decide)
                  refine inv_op rfl (fun K hK => ?_)
                  try simp only [Act.put, List.setIfInBounds_toArray, List.set_cons_zero, List.set_cons_succ]
                  go_simp
                  refine hK.out _ _ ⟨.pointer (some ⟨w1z.heap.size, 0, none⟩), x16, x94, x95, x96, x97, x98, x99, x100, x101, x102, x103, x104, x105, x106, (by simp only [Act.put, List.setIfInBounds_toArray, List.set_cons_zero, List.set_cons_succ]), f0.alloc f0.size _, (fun h => by first | exact f1 (by rwa [set_other (by decide)] at h) | (rw [set_other (by decide)] at h ⊢; exact f1 h)), (fun h => by first | exact f2 (by rwa [set_other (by decide)] at h) | (rw [set_other (by decide)] at h ⊢; exact f2 h)), (fun h => by first | exact f3 (by rwa [set_other (by decide)] at h) | (rw [set_other (by decide)] at h ⊢; exact f3 h)), (fun h => by first | exact f4 (by rwa [set_other (by decide)] at h) | (rw [set_other (by decide)] at h ⊢; exact f4 h)), (fun h => by first | exact f5 (by rwa [set_other (by decide)] at h) | (rw [set_other (by decide)] at h ⊢; exact f5 h)), (fun h => by first | exact f6 (by rwa [set_other (by decide)] at h) | (rw [set_other (by decide)] at h ⊢; exact f6 h)), (fun h => by first | exact f7 (by rwa [set_other (by decide)] at h) | (rw [set_other (by decide)] at h ⊢; exact f7 h)), (fun h => by first | exact f8 (by rwa [set_other (by decide)] at h) | (rw [set_other (by decide)] at h ⊢; exact f8 h)), (fun h => by first | exact f9 (by rwa [set_other (by decide)] at h) | (rw [set_other (by decide)] at h ⊢; exact f9 h)), (fun h => by first | exact f10 (by rwa [set_other (by decide)] at h) | (rw [set_other (by decide)] at h ⊢; exact f10 h)), (fun h => by first | exact f11 (by rwa [set_other (by decide)] at h) | (rw [set_other (by decide)] at h ⊢; exact f11 h)), (fun h => by first | exact f12 (by rwa [set_other (by decide)] at h) | (rw [set_other (by decide)] at h ⊢; exact f12 h)), (fun h => by first | exact f13 (by rwa [set_other (by decide)] at h) | (rw [set_other (by decide)] at h ⊢; exact f13 h)), (fun h => by first | exact f14 (by rwa [set_other (by decide)] at h) | (rw [set_other (by decide)] at h ⊢; exact f14 h)), (fun _ => ⟨w1z.heap.size, rfl, f0.size, by rw [set_other (by decide), h14]; exact Blk.new _ _ _⟩), (fun h => set_self hr)⟩
                · have h14 := ready_not hr
                  have ha := ready_dep hr (d := 13) (by kernel_rfl)
                  obtain ⟨b, eb, hb, hB⟩ := f15 ha
                  rw [h14] at hB
                  have q0 := hB.cell 0 (v := .int .i64 0) rfl
                  have q1 := hB.cell 1 (v := .int .i64 0) rfl
                  have q2 := hB.free 0
                  have q3 := hB.free 1
                  have q4 := hB.lt
                  obtain rfl := f12 (ready_dep hr (d := 11) (by kernel_rfl))
                  subst eb
                  refine inv_op rfl (fun K hK => ?_)
                  try simp only [Act.put, List.setIfInBounds_toArray, List.set_cons_zero, List.set_cons_succ]
                  go_simp
                  refine hK.out _ _ ⟨(.pointer (some ⟨b, 0, none⟩)), x16, x94, x95, x96, x97, x98, x99, x100, x101, x102, x103, x104, .agg #[.int .i64 Q.n, .int .i64 Q.d], x106, (by simp only [Act.put, List.setIfInBounds_toArray, List.set_cons_zero, List.set_cons_succ]), ((f0.setCell hb _).setCell hb _), (fun h => by first | exact f1 (by rwa [set_other (by decide)] at h) | (rw [set_other (by decide)] at h ⊢; exact f1 h)), (fun h => by first | exact f2 (by rwa [set_other (by decide)] at h) | (rw [set_other (by decide)] at h ⊢; exact f2 h)), (fun h => by first | exact f3 (by rwa [set_other (by decide)] at h) | (rw [set_other (by decide)] at h ⊢; exact f3 h)), (fun h => by first | exact f4 (by rwa [set_other (by decide)] at h) | (rw [set_other (by decide)] at h ⊢; exact f4 h)), (fun h => by first | exact f5 (by rwa [set_other (by decide)] at h) | (rw [set_other (by decide)] at h ⊢; exact f5 h)), (fun h => by first | exact f6 (by rwa [set_other (by decide)] at h) | (rw [set_other (by decide)] at h ⊢; exact f6 h)), (fun h => by first | exact f7 (by rwa [set_other (by decide)] at h) | (rw [set_other (by decide)] at h ⊢; exact f7 h)), (fun h => by first | exact f8 (by rwa [set_other (by decide)] at h) | (rw [set_other (by decide)] at h ⊢; exact f8 h)), (fun h => by first | exact f9 (by rwa [set_other (by decide)] at h) | (rw [set_other (by decide)] at h ⊢; exact f9 h)), (fun h => by first | exact f10 (by rwa [set_other (by decide)] at h) | (rw [set_other (by decide)] at h ⊢; exact f10 h)), (fun h => by first | exact f11 (by rwa [set_other (by decide)] at h) | (rw [set_other (by decide)] at h ⊢; exact f11 h)), (fun _ => rfl), (fun h => by first | exact f13 (by rwa [set_other (by decide)] at h) | (rw [set_other (by decide)] at h ⊢; exact f13 h)), (fun h => by first | exact f14 (by rwa [set_other (by decide)] at h) | (rw [set_other (by decide)] at h ⊢; exact f14 h)), (fun _ => ⟨b, rfl, hb, by rw [set_self hr]; exact (hB.set_ 0 _).to 1 _ rfl⟩), (fun _ => by rw [set_other (by decide)]; exact ha)⟩
                · obtain rfl := f13 (ready_dep hr (d := 12) (by kernel_rfl))
                  refine inv_op rfl (fun K hK => ?_)
                  try simp only [Act.put, List.setIfInBounds_toArray, List.set_cons_zero, List.set_cons_succ]
                  go_simp
                  refine hK.out _ _ ⟨x15, .int .i64 0, x94, x95, x96, x97, x98, x99, x100, x101, x102, x103, x104, x105, .int .i64 0, (by simp only [Act.put, List.setIfInBounds_toArray, List.set_cons_zero, List.set_cons_succ]), f0, (fun h => by first | exact f1 (by rwa [set_other (by decide)] at h) | (rw [set_other (by decide)] at h ⊢; exact f1 h)), (fun h => by first | exact f2 (by rwa [set_other (by decide)] at h) | (rw [set_other (by decide)] at h ⊢; exact f2 h)), (fun h => by first | exact f3 (by rwa [set_other (by decide)] at h) | (rw [set_other (by decide)] at h ⊢; exact f3 h)), (fun h => by first | exact f4 (by rwa [set_other (by decide)] at h) | (rw [set_other (by decide)] at h ⊢; exact f4 h)), (fun h => by first | exact f5 (by rwa [set_other (by decide)] at h) | (rw [set_other (by decide)] at h ⊢; exact f5 h)), (fun h => by first | exact f6 (by rwa [set_other (by decide)] at h) | (rw [set_other (by decide)] at h ⊢; exact f6 h)), (fun h => by first | exact f7 (by rwa [set_other (by decide)] at h) | (rw [set_other (by decide)] at h ⊢; exact f7 h)), (fun h => by first | exact f8 (by rwa [set_other (by decide)] at h) | (rw [set_other (by decide)] at h ⊢; exact f8 h)), (fun h => by first | exact f9 (by rwa [set_other (by decide)] at h) | (rw [set_other (by decide)] at h ⊢; exact f9 h)), (fun h => by first | exact f10 (by rwa [set_other (by decide)] at h) | (rw [set_other (by decide)] at h ⊢; exact f10 h)), (fun h => by first | exact f11 (by rwa [set_other (by decide)] at h) | (rw [set_other (by decide)] at h ⊢; exact f11 h)), (fun h => by first | exact f12 (by rwa [set_other (by decide)] at h) | (rw [set_other (by decide)] at h ⊢; exact f12 h)), (fun _ => rfl), (fun _ => rfl), (fun h => by first | exact f15 (by rwa [set_other (by decide)] at h) | (rw [set_other (by decide)] at h ⊢; exact f15 h)), (fun h => by first | exact f16 (by rwa [set_other (by decide)] at h) | (rw [set_other (by decide)] at h ⊢; exact f16 h))⟩
              case done =>
                intro L az w1z hI hall
                obtain ⟨x15, x16, x94, x95, x96, x97, x98, x99, x100, x101, x102, x103, x104, x105, x106, rfl, f0, f1, f2, f3, f4, f5, f6, f7, f8, f9, f10, f11, f12, f13, f14, f15, f16⟩ := hI
                subst haq
                simp only [Act.put, List.setIfInBounds_toArray, List.set_cons_zero, List.set_cons_succ]
                go_wp2_with fail
                go_meet
                obtain ⟨b15, e15, -, hB15⟩ := f15 (hall 13 (by decide))
                rw [hall 14 (by decide)] at hB15
                exact ⟨b15, e15, f14 (hall 15 (by decide)), ⟨hB15, f0⟩⟩
            case rest =>
              obtain ⟨b15, rfl, rfl, HB15⟩ := hcut
              have HX := Kept.mk (HZ.out.new_ HB15.out.2)
              clear HZ
              have q0 := HB15.out.1.cell 0 (v := .int .i64 Q.n) rfl
              have q1 := HB15.out.1.cell 1 (v := .int .i64 Q.d) rfl
              have q2 := HB15.out.1.lt
              go_upto_region 24 with (go_at_call 75; refine (DV _).mono ?_; rintro e wd ⟨rfl, hbd⟩; have HXD := Kept.mk (HX.out.new_ hbd); clear hbd)
              obtain ⟨U, hU, HU⟩ : ∃ U, U = wd.alloc (.cells #[.int .i64 V.n, .int .i64 V.d] 32) ∧ Kept (CB w U B g gr gz ⟨caps, some ⟨bC, oC, none⟩, ck, flows, fA, fk⟩ rs fz s ∧ Blk U wd.heap.size 32 #[.int .i64 V.n, .int .i64 V.d]) := ⟨_, rfl, ⟨HXD.out.alloc _, Blk.new _ _ _⟩⟩
              rw [← hU]
              clear hU q0 q1 q2
              have v0 := HU.out.2.cell 0 (v := .int .i64 V.n) rfl
              have v1 := HU.out.2.cell 1 (v := .int .i64 V.d) rfl
              have z0 := HU.out.1.r.cell 0 (v := .int .i64 0) rfl
              have z1 := HU.out.1.r.cell 1 (v := .int .i64 0) rfl
              have zf0 := HU.out.1.r.free 0
              have zf1 := HU.out.1.r.free 1
              have lz := HU.out.1.r.lt
              go_wp2_with fail
              obtain ⟨W9, hW9, s0, s1, hb⟩ := HU.out.1.fin (.int .i64 V.n) (.int .i64 V.d)
              rw [← hW9]
              clear hW9
              rw [HRR.out]
              exact bodyPost_ret (v := .tuple #[.agg #[.int .i64 V.n, .int .i64 V.d], .bool true, .int .i64 0]) (by simp [results, Try.results70, go_sem, s0, s1]) rfl ⟨rfl, hb⟩
end Go.Proofs.Ytjalegdfofogcaa
