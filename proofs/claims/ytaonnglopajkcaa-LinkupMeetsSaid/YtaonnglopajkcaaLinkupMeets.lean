/- For all delays, dead counts and losses the statement LinkupMeets returns true: both sides come up and stay up. No condition. -/
import Derived.Test.YtaonnglopajkcaaBase
import Derived.Test.YtaonnglopajkcaaAwake
import Derived.Test.YtaonnglopajkcaaPlainB
import Derived.Test.YtaonnglopajkcaaMeet
namespace Go.Proofs.Ytaonnglopajkcaa
open Go.ChangeShapes Go.WideShapes Go.ChangeAt Go.RowKit Go.Maps
set_option linter.unusedVariables false
/-- One byte. -/
def IsByte (cs : List Value) : Prop := ∃ x : Int, cs = [.int .u8 x] ∧ 0 ≤ x ∧ x ≤ 255
theorem isByte {H : Type} {enc : TypeId × Value → H} {w : World} {base : Nat} {spare : Nat → Bool} {held : Bool} (n : Nat) (cs : List Value) (y : DataW H × List MemPlace) (hl : cs.length = 1)
    (h : DataW.trod enc Try.prog w base spare held n 5 cs = some y) : IsByte cs := by
  obtain ⟨x, e, _, wx⟩ := DataW.trod_int Try.underlying5 h
  exact ⟨x, e, bounds_u8 wx⟩
theorem zero30 (w : World) : (zeroValue 30).run Try.prog w = .ok (.agg #[.int .i64 0, .int .i64 0]) w := by kernel_rfl
set_option maxRecDepth 100000 in
set_option maxHeartbeats 16000000 in
theorem walkLinkupMeets (a0 a1 : Int) (a2 : Option Addr) (len2 cap2 : Nat) (w : World) (w0 : (Lit.int .u8 a0).wf = true) (w1 : (Lit.int .u8 a1).wf = true) (w2 : IsRows w 1 IsByte a2 len2 cap2) :
    Calls Try.prog 5 #[.int .u8 a0, .int .u8 a1, .slice a2 len2 cap2] w fun e w' => e = .returned (.bool true) ∧ Below w.heap.size w w' := by
  obtain ⟨p1, p2⟩ := bounds_u8 w0
  obtain ⟨q1, q2⟩ := bounds_u8 w1
  have hm := w2.2.1
  have hl := w2.1
  unfold maxLen at hm
  have HR := Kept.mk w2
  clear w0 w1 w2
  by_cases hlen : 40 < len2
  · go_enter Try.func5, Try.ntmps5
    go_wp2_with (go_at_call 11; refine (awake_c _).mono ?_; rintro e wa ⟨rfl, hba⟩; have HA := Kept.mk hba; clear hba)
    go_ret
    exact ⟨rfl, HA.out⟩
  · have hlen2 : len2 ≤ 40 := by omega
    obtain ⟨d, hdd⟩ : ∃ d : Int, 1 + a0 % 6 = d := ⟨_, rfl⟩
    obtain ⟨n, hnn⟩ : ∃ n : Int, 2 + a1 % 30 = n := ⟨_, rfl⟩
    have hd1 : 1 ≤ d := by omega
    have hd2 : d ≤ 6 := by omega
    have hn1 : 2 ≤ n := by omega
    have hn2 : n ≤ 31 := by omega
    have hmm := @run_makeMap Try.prog
    go_enter Try.func5, Try.ntmps5
    go_upto_region 6 with (go_at_call 11; refine (awake_c _).mono ?_; rintro e wa ⟨rfl, hba⟩; have HA := Kept.mk hba; clear hba)
    clear hdd hnn hlen p1 p2 q1 q2
    go_wp2_with fail
    have HI0 : Kept (In w wa.heap.size (wa.heap.size + 1) (.pointer none) (.pointer none) ((wa.alloc (.cells #[.int .i64 10, .int .i64 20] 37)).alloc (.cells #[.pointer none, .pointer none] 38))) := ⟨(Blk.new _ _ _).alloc _, (by have := Blk.new (wa.alloc (.cells #[.int .i64 10, .int .i64 20] 37)) 38 #[.pointer none, .pointer none]; rwa [World.size_alloc] at this), (HA.out.alloc HA.out.size _).alloc (by have := HA.out.size; simp; omega) _, HA.out.size, by have := HA.out.size; omega⟩
    have HR1 := Kept.mk (HR.out.below HA.out)
    have hba1 := HA.out.size
    generalize hW : ((wa.alloc (.cells #[.int .i64 10, .int .i64 20] 37)).alloc (.cells #[.pointer none, .pointer none] 38)) = W0 at *
    have hz1 : wa.heap.size + 2 ≤ W0.heap.size := by rw [← hW]; simp
    clear hW
    generalize hbd : wa.heap.size + 1 = bd at *
    generalize hbm : wa.heap.size = bm at *
    have hbe : bm < bd := by omega
    have hbz : bd < W0.heap.size := by omega
    clear hbd hbm
    have k0 := HI0.out.mine.cell 0 (v := .int .i64 10) rfl
    have k1 := HI0.out.mine.cell 1 (v := .int .i64 20) rfl
    have l0 := HI0.out.sds.cell 0 (v := .pointer none) rfl
    have l2 := HI0.out.sds.cell 1 (v := .pointer none) rfl
    have l1 := HI0.out.sds.free 0
    have l3 := HI0.out.sds.free 1
    have hne9 : bm ≠ bd := by omega
    have hbl9 : bm < W0.heap.size := by omega
    have N1 := newB_iff.2 (show (1 ≤ (10 : Int) ∧ (10 : Int) ≤ 1099511627775) ∧ 1 ≤ n ∧ n ≤ 1000 by omega)
    have N2 := newB_iff.2 (show (1 ≤ (20 : Int) ∧ (20 : Int) ≤ 1099511627775) ∧ 1 ≤ n ∧ n ≤ 1000 by omega)
    have HN1 := Kept.mk N1
    have HN2 := Kept.mk N2
    clear N1 N2
    refine wp_loop_rounds 3 ?_
    rw [rounds_succ]
    go_wp2_with (go_at_call 12; refine (new_c 10 n _ HN1.out).mono ?_; rintro e wn ⟨rfl, rfl⟩)
    obtain ⟨hi1, hs1⟩ := HI0.out.put0 (new 10 n)
    have HI1 := Kept.mk hi1
    have HS1 := Kept.mk hs1
    have hz2 : W0.heap.size < ((W0.setCell ⟨bd, 0, none⟩ (.pointer (some ⟨W0.heap.size, 0, none⟩))).alloc (.cells (cells (new 10 n)) 56)).heap.size := hs1.lt
    clear hi1 hs1 k0 l0 l1 k1 l2 l3
    generalize ((W0.setCell ⟨bd, 0, none⟩ (.pointer (some ⟨W0.heap.size, 0, none⟩))).alloc (.cells (cells (new 10 n)) 56)) = W1 at *
    have k0 := HI1.out.mine.cell 1 (v := .int .i64 20) rfl
    have l0 := HI1.out.sds.cell 1 (v := .pointer none) rfl
    have l1 := HI1.out.sds.free 1
    have hbz1 := HI1.out.sds.lt
    rw [rounds_succ]
    go_wp2_with (go_at_call 12; refine (new_c 20 n _ HN2.out).mono ?_; rintro e wn ⟨rfl, rfl⟩)
    obtain ⟨hi1, hs1, hs2⟩ := HI1.out.put1 HS1.out (new 20 n)
    have HI2 := Kept.mk hi1
    have HS2 := Kept.mk hs1
    have HS3 := Kept.mk hs2
    clear hi1 hs1 hs2 k0 l0 l1 HS1 HI1 HI0
    generalize hWg : ((W1.setCell ⟨bd, 1, none⟩ (.pointer (some ⟨W1.heap.size, 0, none⟩))).alloc (.cells (cells (new 20 n)) 56)) = W2 at *
    clear hWg
    have hbz2 := HI2.out.sds.lt
    have hw0 := HI2.out.bm0
    rw [rounds_succ]
    go_wp2_with fail
    have HM0 := Kept.mk (Mt.start (b0 := W0.heap.size) (b1 := W1.heap.size) HI2.out HS3.out HS2.out (by omega) (by omega) (by omega))
    have HP0 := Kept.mk (Pl.start (L := (len2 : Int)) (d := d) (n := n) (by omega) hd1)
    clear HI2 HS2 HS3 hz2 hbz2 hmm
    generalize hWg : (((W2.alloc (.map #[] 0)).alloc (.map #[] 0)).alloc (.cells #[.map (some W2.heap.size), .map (some (W2.heap.size + 1))] 40)) = W3 at *
    clear hWg
    generalize W2.heap.size + 2 = bw at *
    generalize both W2.heap.size (W2.heap.size + 1) = c at *
    have hx10 : (10 : Int) = 10 := rfl
    go_loopw [60] (fun v60 wr => ∃ (t : Nat) (x : Nat → Int) (b : Nat → Nat) (s : Nat → Sd) (z : Nat → Nat) (C : Nat → Chan), (t : Int) ≤ (len2 : Int) + 4 * d + 40 ∧ v60 = .int .i64 t ∧ Kept (Mt w bm bd bw x b s c z C wr) ∧ Kept (Pl len2 d n t 0 x s C) ∧ Kept (∀ r, r < 2 → z r ≤ 2 * t)) (fun v60 _ => ((len2 : Int) + 4 * d + 40).toNat - (intOf v60).toNat)
    case atStart => exact ⟨0, _, _, _, _, _, by omega, rfl, HM0, HP0, ⟨fun r hr => Nat.le_refl _⟩⟩
    case round =>
      clear HM0 HP0
      obtain ⟨t, x, b, s, z, C, ht, rfl, HM, HP, HZ⟩ := hrel
      by_cases hlt : (t : Int) < (len2 : Int) + 4 * d + 40
      · go_upto_region 19 with fail
        go_wp2_with fail
        obtain ⟨wo, rfl⟩ : ∃ wo : World, wo = wr := ⟨_, rfl⟩
        go_loopw [63] (fun v63 wr => ∃ (i : Nat) (x : Nat → Int) (b : Nat → Nat) (s : Nat → Sd) (z : Nat → Nat) (C : Nat → Chan), i ≤ 2 ∧ v63 = .int .i64 i ∧ Kept (Mt w bm bd bw x b s c z C wr) ∧ Kept (Pl len2 d n t i x s C) ∧ Kept (∀ r, r < 2 → z r ≤ 2 * t + i)) (fun v63 _ => 2 - (intOf v63).toNat)
        case atStart => exact ⟨0, x, b, s, z, C, by omega, rfl, HM, HP, HZ⟩
        case round =>
          clear HM HP HZ x b s z C
          obtain ⟨i, x, b, s, z, C, hi, rfl, HM, HP, HZ⟩ := hrel
          by_cases hit : i < 2
          · have MC := HM.out.at_ i hit
            have mlm := MC.lm
            have mld := MC.ld
            have HBR := Kept.mk (HR.out.below HM.out.bel)
            go_upto_region 22 with fail
            go_cut [80] (fun v wx => ∃ re : Bool, v = .bool re ∧ (re = true → (t : Int) < len2) ∧ wx = wr)
            case first =>
              by_cases htl : t < len2
              · obtain ⟨b2, off2, rfl, hblt, hcs⟩ := HBR.out.2.2 (by omega)
                obtain ⟨cs, ⟨y, rfl, y1, y2⟩, hcell⟩ := hcs t htl
                have c0 := hcell 0 _ rfl
                rw [Nat.add_zero, Nat.mul_one] at c0
                clear hcs hcell
                go_wp2_with fail
                go_meet
                exact ⟨_, rfl, fun _ => by omega, rfl⟩
              · have htl2 : (len2 : Int) ≤ t := by omega
                go_wp2_with fail
                go_meet
                exact ⟨false, rfl, (fun h => by cases h), rfl⟩
            case rest =>
              obtain ⟨re, rfl, hre, hwx⟩ := hcut
              have HRE := Kept.mk hre
              have hwy := hwx.symm
              subst hwy
              clear hre
              have HXB := HP.out.xb i hit
              have hx1 : 1 ≤ x i ∧ x i ≤ 300 := by have := one_bd (decide (i < i)); omega
              obtain ⟨hx1, hx2⟩ := hx1
              clear HXB
              go_upto_if 80 with fail
              go_cut [] (fun wx => ∃ b2 : Nat → Nat, Kept (Mt w bm bd bw (xr re x i) b2 (sr re n x s i) c z C wx))
              case first =>
                cases re with
                | false =>
                  go_wp2_with fail
                  go_meet
                  exact ⟨b, HM⟩
                | true =>
                  have HN : Kept (newB (x i + 1) n = true) := ⟨newB_iff.2 ⟨⟨by omega, by omega⟩, by omega, by omega⟩⟩
                  have m0 := MC.m
                  have f0 := MC.fm
                  go_upto_region 24 with fail
                  have HM2 := Kept.mk (HM.out.setM hit (x i + 1))
                  clear MC m0 f0 HM
                  generalize (wr.setCell ⟨bm, i, none⟩ (.int .i64 (x i + 1))) = W5 at *
                  have MC := HM2.out.at_ i hit
                  have m0 := MC.m
                  rw [upd_same] at m0
                  have m1 := MC.d
                  have m2 := MC.fd
                  have m3 := MC.ld
                  go_wp2_with (go_at_call 12; refine (new_c (x i + 1) n _ HN.out).mono ?_; rintro e wn ⟨rfl, rfl⟩)
                  go_meet
                  exact ⟨upd b i W5.heap.size, ⟨HM2.out.setD hit (new (x i + 1) n)⟩⟩
              case rest =>
                obtain ⟨b2, HM2⟩ := hcut
                clear HM MC mlm mld
                have HPX := Kept.mk (fun C' hC => HP.out.step hit (by omega) hd1 hn1 re HRE.out C' hC)
                have HB := Kept.mk (HP.out.re_ hit (by omega) hd1 re HRE.out)
                have hs1 := (HB.out.1 i hit).sil
                have hs2 := (HB.out.1 i hit).chg
                have hs3 := Kept.mk (HB.out.1 i hit).mine
                have hone := one_bd (decide (i < i))
                have MC := HM2.out.at_ i hit
                have m1 := MC.d
                have m3 := MC.ld
                generalize xr re x i = x' at *
                generalize sr re n x s i = s' at *
                clear HB HP
                go_wp2_with (go_at_call 15; refine (tick_c (s' i) _ (b2 i) (HM2.out.sd i hit) (by omega) (by omega) (by omega) (by omega)).mono ?_; rintro e w4 ⟨rfl, hS4, hO4⟩; rw [hs3.out]; have HM4 := Kept.mk (HM2.out.side hit hS4 hO4); clear hS4 hO4)
                generalize hpe : (tick (s' i)).peer = pe at *
                have HPE := Kept.mk hpe
                clear hpe
                have HM5 := Kept.mk (HM4.out.new_ ((Below.refl w4.heap.size w4).alloc (Nat.le_refl _) (.cells #[.int .i64 (x' i), .int .i64 pe] 30)))
                have HG5 := Kept.mk (Blk.new w4 30 #[.int .i64 (x' i), .int .i64 pe])
                clear HM2 HM4 m1 m3 MC hs1 hs2 hs3 hone
                generalize (w4.alloc (.cells #[.int .i64 (x' i), .int .i64 pe] 30)) = W6 at *
                generalize w4.heap.size = bg at *
                go_cut [118] (fun v wx => ∃ cB : Bool, v = .bool cB ∧ (cB = false → (t : Int) < len2) ∧ Kept (Below W6.heap.size W6 wx))
                case first =>
                  have HBR := Kept.mk (HR.out.below HM5.out.bel)
                  by_cases htl : t < len2
                  · obtain ⟨b3, off2, rfl, hblt, hcs⟩ := HBR.out.2.2 (by omega)
                    obtain ⟨cs, ⟨y, rfl, y1, y2⟩, hcell⟩ := hcs t htl
                    have c0 := hcell 0 _ rfl
                    rw [Nat.add_zero, Nat.mul_one] at c0
                    clear hcs hcell
                    have q0 : decide ((len2 : Int) ≤ t) = false := by simpa using htl
                    have q1 : (t : Int) < len2 := by omega
                    have q2 : (0 : Int) ≤ i := by omega
                    go_quiet (fail)
                    go_wp2_with fail
                    go_meet
                    exact ⟨_, rfl, fun _ => by omega, ⟨dN (Below.refl _ _) _⟩⟩
                  · have q0 : decide ((len2 : Int) ≤ t) = true := by simpa using (show (len2 : Int) ≤ t by omega)
                    go_quiet (fail)
                    go_wp2_with fail
                    go_meet
                    exact ⟨true, rfl, (fun h => by cases h), ⟨dN (Below.refl _ _) _⟩⟩
                case rest =>
                  obtain ⟨cB, rfl, hcB, hbel⟩ := hcut
                  have HCB := Kept.mk hcB
                  replace HM5 := Kept.mk (HM5.out.new_ hbel.out)
                  replace HG5 := Kept.mk (HG5.out.new_ hbel.out)
                  clear hcB hbel
                  cases cB with
                  | false =>
                    go_wp2_with fail
                    go_roundw
                    case rel => exact ⟨i + 1, x', b2, _, z, C, by omega, by go_num, HM5, ⟨HPX.out C (.inr ⟨rfl, HCB.out rfl⟩)⟩, ⟨fun r hr => by have := HZ.out r hr; omega⟩⟩
                    case measure => simp [intOf]; omega
                  | true =>
                    obtain ⟨j, hj⟩ : ∃ j : Nat, j + i = 1 := ⟨1 - i, by omega⟩
                    have hj2 : j < 2 := by omega
                    have hji : (1 : Int) - (i : Int) = (j : Int) := by omega
                    have MC := HM5.out.at_ j hj2
                    have m1 := MC.y
                    have m2 := MC.lw
                    have m3 := HG5.out.cell 0 (v := .int .i64 (x' i)) rfl
                    have m4 := HG5.out.cell 1 (v := .int .i64 pe) rfl
                    have m5 := HG5.out.lt
                    have hz := HZ.out j hj2
                    clear MC
                    have hj0 : (0 : Int) ≤ (j : Int) := by omega
                    have hj1 : (j : Int) < 2 := by omega
                    have hw1 : IntKind.i64.wrap (j : Int) = (j : Int) := IntWalk.i64_in _ (by omega)
                    have hw2 : IntKind.i64.wrap ((t : Int) + d) = (t : Int) + d := IntWalk.i64_in _ (by omega)
                    go_upto_region 29 with fail
                    refine still_tail 8 (by kernel_rfl) (by kernel_rfl) ?_
                    simp only [List.take_succ_cons, List.take_zero, List.drop_succ_cons, List.drop_zero]
                    repeat still_step
                    refine wpStill_nil ?_
                    go_wp2_with (at_mapUpdate; refine wpList_setI rfl _ _ _ 39 rfl 3 30 Try.underlying3 Try.underlying39 (c j) (z j) (encC (C j)) rfl (MapAt.drew (HM5.out.mp j hj2)) (by unfold maxLen; omega) ((t : Int) + d) (.agg #[.int .i64 (x' i), .int .i64 pe]) (by first | rfl | go_num) rfl (WalkArith.wf_i64 (by omega)) ?_; intro w7 hm7 hg7; rw [encC_set (C j) ((t : Int) + d) (x' i, pe)] at hm7; have HM7 := Kept.mk ((HM5.out.new_ (Below.refl _ _).drew).map hj2 hm7 hg7); clear hm7 hg7)
                    go_roundw
                    case rel =>
                      refine ⟨i + 1, x', b2, _, _, _, by omega, by go_num, HM7, ⟨HPX.out _ (.inl (by rw [show 1 - i = j by omega]))⟩, ⟨fun r hr => ?_⟩⟩
                      have h9 := HZ.out r hr
                      by_cases e9 : r = j
                      · subst e9; rw [upd_same]; split <;> omega
                      · rw [upd_other _ _ e9]; omega
                    case measure => simp [intOf]; omega
          · have hi2 : Kept (i = 2) := ⟨by omega⟩
            have hi3 : (2 : Int) ≤ i := by omega
            have HH := Kept.mk (hi2.out ▸ HP.out : Pl len2 d n t 2 x s C).turn
            have HZ9 : Kept (∀ r, r < 2 → z r ≤ 2 * (t + 1)) := ⟨fun r hr => by have := HZ.out r hr; omega⟩
            clear hit HZ
            go_wp2_with fail
            obtain ⟨wo, rfl⟩ : ∃ wo : World, wo = wr := ⟨_, rfl⟩
            go_loopw [128] (fun v128 wr => ∃ (i : Nat) (s : Nat → Sd), i ≤ 2 ∧ v128 = .int .i64 i ∧ Kept (Mt w bm bd bw x b s c z C wr) ∧ Kept (Ph len2 d n t i x s C)) (fun v128 _ => 2 - (intOf v128).toNat)
            case atStart => exact ⟨0, s, by omega, rfl, HM, HH⟩
            case round =>
              clear HM HP HH s
              obtain ⟨i, s, hi, rfl, HM, HH⟩ := hrel
              by_cases hit : i < 2
              · have MC := HM.out.at_ i hit
                have m1 := MC.y
                have m2 := MC.lw
                have m3 := MC.d
                have m4 := MC.ld
                have HMP := Kept.mk (HM.out.mp i hit)
                obtain ⟨hcb1, hcb2⟩ := HH.out.bounds (by omega) i hit
                clear MC
                cases hc : C i t with
                | none =>
                  have HE : Kept (encC (C i) (t : Int) = none) := ⟨by unfold encC; rw [hc]; rfl⟩
                  have HDF := Kept.mk (HH.out.deaf hit (by omega) hd1 hc)
                  clear hc
                  go_wp2_with (at_lookup; refine wpList_lookOkI rfl _ _ 39 rfl 3 30 Try.underlying3 Try.underlying39 (zero30 _) (c i) (z i) (encC (C i)) rfl HMP.out (t : Int) rfl (WalkArith.wf_i64 (by omega)) ?_; rw [HE.out]; simp only [Option.getD_none, Option.isSome_none])
                  go_roundw
                  case rel => exact ⟨i + 1, s, by omega, by go_num, ⟨HM.out.new_ ((Below.refl _ _).alloc (Nat.le_refl _) _)⟩, HDF⟩
                  case measure => simp [intOf]; omega
                | some p =>
                  obtain ⟨pa, pb⟩ := p
                  have HE : Kept (encC (C i) (t : Int) = some (.agg #[.int .i64 pa, .int .i64 pb])) := ⟨by unfold encC; rw [hc]; rfl⟩
                  have HDF := Kept.mk (HH.out.hear hit (by omega) hd1 (by omega) hc)
                  clear hc
                  go_upto_region 36 with (at_lookup; refine wpList_lookOkI rfl _ _ 39 rfl 3 30 Try.underlying3 Try.underlying39 (zero30 _) (c i) (z i) (encC (C i)) rfl HMP.out (t : Int) rfl (WalkArith.wf_i64 (by omega)) ?_; rw [HE.out]; simp only [Option.getD_some, Option.isSome_some])
                  have hi0 : (0 : Int) ≤ (i : Int) := by omega
                  have hi1 : (i : Int) < 2 := by omega
                  refine still_tail 4 (by kernel_rfl) (by kernel_rfl) ?_
                  simp only [List.take_succ_cons, List.take_zero, List.drop_succ_cons, List.drop_zero]
                  repeat still_step
                  refine wpStill_nil ?_
                  have HM8 := Kept.mk (HM.out.new_ (((Below.refl wr.heap.size wr).alloc (Nat.le_refl _) (.cells #[.int .i64 pa, .int .i64 pb] 30))))
                  have HM9 : Kept (Mt w bm bd bw x b s c z C (wr.alloc (.cells #[.int .i64 pa, .int .i64 pb] 30)).drew) := ⟨HM8.out.new_ (Below.refl _ _).drew⟩
                  go_wp2_with (go_at_call 13; refine (recv_c (s i) pa pb _ (b i) (HM9.out.sd i hit) hcb1 (by omega)).mono ?_; rintro e w7 ⟨rfl, hS7, hO7⟩; have HM7 := Kept.mk (HM9.out.side hit hS7 hO7); clear hS7 hO7)
                  go_roundw
                  case rel => exact ⟨i + 1, _, by omega, by go_num, HM7, HDF⟩
                  case measure => simp [intOf]; omega
              · have hi4 : Kept (i = 2) := ⟨by omega⟩
                have hi5 : (2 : Int) ≤ i := by omega
                have HT1 : Kept (Pl len2 d n ((t + 1 : Nat) : Int) 0 x s C) := ⟨by have h9 := (hi4.out ▸ HH.out : Ph len2 d n t 2 x s C).turn; exact_mod_cast h9⟩
                have hw4 : IntKind.i64.wrap (2 * d) = 2 * d := IntWalk.i64_in _ (by omega)
                have hw5 : IntKind.i64.wrap ((len2 : Int) + 2 * d) = (len2 : Int) + 2 * d := IntWalk.i64_in _ (by omega)
                have hw6 : IntKind.i64.wrap ((len2 : Int) + 2 * d + 2) = (len2 : Int) + 2 * d + 2 := IntWalk.i64_in _ (by omega)
                clear hit
                have e0 := (HM.out.at_ 0 (by omega)).d
                have e1 := (HM.out.at_ 1 (by omega)).d
                have e2 := (HM.out.at_ 0 (by omega)).m
                have e3 := (HM.out.at_ 1 (by omega)).m
                have e4 := (HM.out.at_ 1 (by omega)).lm
                have e5 := (HM.out.at_ 1 (by omega)).ld
                by_cases hfin : (len2 : Int) + 2 * d + 2 ≤ t
                · obtain ⟨f1, f2, f3, f4⟩ := (hi4.out ▸ HH.out : Ph len2 d n t 2 x s C).done hfin hd1
                  have F1 := Kept.mk f1
                  have F2 := Kept.mk f2
                  have F3 := Kept.mk f3
                  have F4 := Kept.mk f4
                  have HS9 := Kept.mk (And.intro e0 (And.intro e1 (And.intro e2 e3)))
                  have q0 : decide ((len2 : Int) + 2 * d + 2 ≤ t) = true := decide_eq_true hfin
                  clear f1 f2 f3 f4 hfin
                  go_upto_region 38 with fail
                  refine wp_region_held_drew (S := fun w' => w'.cell? ⟨bd, 0, none⟩ = some (.pointer (some ⟨b 0, 0, none⟩)) ∧ w'.cell? ⟨bd, 1, none⟩ = some (.pointer (some ⟨b 1, 0, none⟩)) ∧ w'.cell? ⟨bm, 0, none⟩ = some (.int .i64 (x 0)) ∧ w'.cell? ⟨bm, 1, none⟩ = some (.int .i64 (x 1))) (by kernel_rfl) (by (try dsimp only); (exact HS9.out)) (fun hHeld => ?_)
                  refine wpAnyH_take (i := 0) (v := ?_) rfl (by kernel_rfl) (by kernel_rfl) (by kernel_rfl) (fun _ _ _ h => h) (Or.inl ⟨by rfl, ?_⟩) (by assumption) ?_; rotate_left; (intro w hSw; (try dsimp only at hSw); go_simp; try (with_reducible rfl)); try simp only [Act.put, List.setIfInBounds_toArray, List.set_cons_zero, List.set_cons_succ, List.getElem_toArray, List.getElem_cons_succ, List.getElem_cons_zero]
                  refine wpAnyH_take (i := 1) (v := ?_) rfl (by kernel_rfl) (by kernel_rfl) (by kernel_rfl) (fun _ _ _ h => h) (Or.inl ⟨by rfl, ?_⟩) (by assumption) ?_; rotate_left; (intro w hSw; (try dsimp only at hSw); go_simp; try (with_reducible rfl)); try simp only [Act.put, List.setIfInBounds_toArray, List.set_cons_zero, List.set_cons_succ, List.getElem_toArray, List.getElem_cons_succ, List.getElem_cons_zero]
                  refine wpAnyH_take (i := 2) (v := ?_) rfl (by kernel_rfl) (by kernel_rfl) (by kernel_rfl) (fun _ _ _ h => h) (Or.inl ⟨by rfl, ?_⟩) (by assumption) ?_; rotate_left; (intro w hSw; (try dsimp only at hSw); go_simp; try (with_reducible rfl)); try simp only [Act.put, List.setIfInBounds_toArray, List.set_cons_zero, List.set_cons_succ, List.getElem_toArray, List.getElem_cons_succ, List.getElem_cons_zero]
                  refine wpAnyH_take (i := 3) (v := ?_) rfl (by kernel_rfl) (by kernel_rfl) (by kernel_rfl) (fun _ _ _ h => h) (Or.inl ⟨by rfl, ?_⟩) (by assumption) ?_; rotate_left; (intro w hSw; (try dsimp only at hSw); go_simp; try (with_reducible rfl)); try simp only [Act.put, List.setIfInBounds_toArray, List.set_cons_zero, List.set_cons_succ, List.getElem_toArray, List.getElem_cons_succ, List.getElem_cons_zero]
                  refine wpAnyH_take (i := 4) (v := ?_) rfl (by kernel_rfl) (by kernel_rfl) (by kernel_rfl) (fun _ _ _ h => h) (Or.inl ⟨by rfl, ?_⟩) (by assumption) ?_; rotate_left; (intro w hSw; (try dsimp only at hSw); go_simp; try (with_reducible rfl)); try simp only [Act.put, List.setIfInBounds_toArray, List.set_cons_zero, List.set_cons_succ, List.getElem_toArray, List.getElem_cons_succ, List.getElem_cons_zero]
                  refine wpAnyH_take (i := 5) (v := ?_) rfl (by kernel_rfl) (by kernel_rfl) (by kernel_rfl) (fun _ _ _ h => h) (Or.inl ⟨by rfl, ?_⟩) (by assumption) ?_; rotate_left; (intro w hSw; (try dsimp only at hSw); go_simp; try (with_reducible rfl)); try simp only [Act.put, List.setIfInBounds_toArray, List.set_cons_zero, List.set_cons_succ, List.getElem_toArray, List.getElem_cons_succ, List.getElem_cons_zero]
                  refine wpAnyH_take (i := 6) (v := ?_) rfl (by kernel_rfl) (by kernel_rfl) (by kernel_rfl) (fun _ _ _ h => h) (Or.inl ⟨by rfl, ?_⟩) (by assumption) ?_; rotate_left; (intro w hSw; (try dsimp only at hSw); go_simp; try (with_reducible rfl)); try simp only [Act.put, List.setIfInBounds_toArray, List.set_cons_zero, List.set_cons_succ, List.getElem_toArray, List.getElem_cons_succ, List.getElem_cons_zero]
                  refine wpAnyH_take (i := 7) (v := ?_) rfl (by kernel_rfl) (by kernel_rfl) (by kernel_rfl) (fun _ _ _ h => h) (Or.inl ⟨by rfl, ?_⟩) (by assumption) ?_; rotate_left; (intro w hSw; (try dsimp only at hSw); go_simp; try (with_reducible rfl)); try simp only [Act.put, List.setIfInBounds_toArray, List.set_cons_zero, List.set_cons_succ, List.getElem_toArray, List.getElem_cons_succ, List.getElem_cons_zero]
                  refine wpAnyH_take (i := 8) (v := ?_) rfl (by kernel_rfl) (by kernel_rfl) (by kernel_rfl) (fun _ _ _ h => h) (Or.inl ⟨by rfl, ?_⟩) (by assumption) ?_; rotate_left; (intro w hSw; (try dsimp only at hSw); go_simp; try (with_reducible rfl)); try simp only [Act.put, List.setIfInBounds_toArray, List.set_cons_zero, List.set_cons_succ, List.getElem_toArray, List.getElem_cons_succ, List.getElem_cons_zero]
                  refine wpAnyH_take (i := 9) (v := ?_) rfl (by kernel_rfl) (by kernel_rfl) (by kernel_rfl) (fun _ _ _ h => h) (Or.inl ⟨by rfl, ?_⟩) (by assumption) ?_; rotate_left; (intro w hSw; (try dsimp only at hSw); go_simp; try (with_reducible rfl)); try simp only [Act.put, List.setIfInBounds_toArray, List.set_cons_zero, List.set_cons_succ, List.getElem_toArray, List.getElem_cons_succ, List.getElem_cons_zero]
                  refine wpAnyH_take (i := 10) (v := ?_) rfl (by kernel_rfl) (by kernel_rfl) (by kernel_rfl) (fun _ _ _ h => h) (Or.inl ⟨by rfl, ?_⟩) (by assumption) ?_; rotate_left; (intro w hSw; (try dsimp only at hSw); go_simp; try (with_reducible rfl)); try simp only [Act.put, List.setIfInBounds_toArray, List.set_cons_zero, List.set_cons_succ, List.getElem_toArray, List.getElem_cons_succ, List.getElem_cons_zero]
                  refine wpAnyH_ready (rs := [11]) (by kernel_rfl) (by simp) ?_; refine AllReadyH.cons rfl (fun K hK => ?_) AllReadyH.nil; go_simp
                  refine (state_c (s 0) _ (b 0) ((HM.out.sd 0 (by omega)).drew)).mono ?_; rintro e w8 ⟨rfl, rfl⟩; rw [F1.out]
                  try go_wp2_with fail
                  refine hK.out _ _ (by (try dsimp only); (exact HS9.out)) (fun hHeld => ?_); clear hK K; try simp only [Act.put, List.setIfInBounds_toArray, List.set_cons_zero, List.set_cons_succ, List.getElem_toArray, List.getElem_cons_succ, List.getElem_cons_zero]
                  refine wpAnyH_take (i := 12) (v := ?_) rfl (by kernel_rfl) (by kernel_rfl) (by kernel_rfl) (fun _ _ _ h => h) (Or.inl ⟨by rfl, ?_⟩) (by assumption) ?_; rotate_left; (intro w hSw; (try dsimp only at hSw); go_simp; try (with_reducible rfl)); try simp only [Act.put, List.setIfInBounds_toArray, List.set_cons_zero, List.set_cons_succ, List.getElem_toArray, List.getElem_cons_succ, List.getElem_cons_zero]
                  refine wpAnyH_take (i := 13) (v := ?_) rfl (by kernel_rfl) (by kernel_rfl) (by kernel_rfl) (fun _ _ _ h => h) (Or.inl ⟨by rfl, ?_⟩) (by assumption) ?_; rotate_left; (intro w hSw; (try dsimp only at hSw); go_simp; try (with_reducible rfl)); try simp only [Act.put, List.setIfInBounds_toArray, List.set_cons_zero, List.set_cons_succ, List.getElem_toArray, List.getElem_cons_succ, List.getElem_cons_zero]
                  refine wpAnyH_take (i := 14) (v := ?_) rfl (by kernel_rfl) (by kernel_rfl) (by kernel_rfl) (fun _ _ _ h => h) (Or.inl ⟨by rfl, ?_⟩) (by assumption) ?_; rotate_left; (intro w hSw; (try dsimp only at hSw); go_simp; try (with_reducible rfl)); try simp only [Act.put, List.setIfInBounds_toArray, List.set_cons_zero, List.set_cons_succ, List.getElem_toArray, List.getElem_cons_succ, List.getElem_cons_zero]
                  refine wpAnyH_take (i := 15) (v := ?_) rfl (by kernel_rfl) (by kernel_rfl) (by kernel_rfl) (fun _ _ _ h => h) (Or.inl ⟨by rfl, ?_⟩) (by assumption) ?_; rotate_left; (intro w hSw; (try dsimp only at hSw); go_simp; try (with_reducible rfl)); try simp only [Act.put, List.setIfInBounds_toArray, List.set_cons_zero, List.set_cons_succ, List.getElem_toArray, List.getElem_cons_succ, List.getElem_cons_zero]
                  refine wpAnyH_ready (rs := [16]) (by kernel_rfl) (by simp) ?_; refine AllReadyH.cons rfl (fun K hK => ?_) AllReadyH.nil; go_simp
                  refine (state_c (s 1) _ (b 1) ((HM.out.sd 1 (by omega)).drew)).mono ?_; rintro e w8 ⟨rfl, rfl⟩; rw [F2.out]
                  try go_wp2_with fail
                  refine hK.out _ _ (by (try dsimp only); (exact HS9.out)) (fun hHeld => ?_); clear hK K; try simp only [Act.put, List.setIfInBounds_toArray, List.set_cons_zero, List.set_cons_succ, List.getElem_toArray, List.getElem_cons_succ, List.getElem_cons_zero]
                  refine wpAnyH_take (i := 17) (v := ?_) rfl (by kernel_rfl) (by kernel_rfl) (by kernel_rfl) (fun _ _ _ h => h) (Or.inl ⟨by rfl, ?_⟩) (by assumption) ?_; rotate_left; (intro w hSw; (try dsimp only at hSw); go_simp; try (with_reducible rfl)); try simp only [Act.put, List.setIfInBounds_toArray, List.set_cons_zero, List.set_cons_succ, List.getElem_toArray, List.getElem_cons_succ, List.getElem_cons_zero]
                  refine wpAnyH_take (i := 18) (v := ?_) rfl (by kernel_rfl) (by kernel_rfl) (by kernel_rfl) (fun _ _ _ h => h) (Or.inl ⟨by rfl, ?_⟩) (by assumption) ?_; rotate_left; (intro w hSw; (try dsimp only at hSw); go_simp; try (with_reducible rfl)); try simp only [Act.put, List.setIfInBounds_toArray, List.set_cons_zero, List.set_cons_succ, List.getElem_toArray, List.getElem_cons_succ, List.getElem_cons_zero]
                  refine wpAnyH_take (i := 19) (v := ?_) rfl (by kernel_rfl) (by kernel_rfl) (by kernel_rfl) (fun _ _ _ h => h) (Or.inl ⟨by rfl, ?_⟩) (by assumption) ?_; rotate_left; (intro w hSw; (try dsimp only at hSw); go_simp; try (with_reducible rfl)); try simp only [Act.put, List.setIfInBounds_toArray, List.set_cons_zero, List.set_cons_succ, List.getElem_toArray, List.getElem_cons_succ, List.getElem_cons_zero]
                  refine wpAnyH_take (i := 20) (v := ?_) rfl (by kernel_rfl) (by kernel_rfl) (by kernel_rfl) (fun _ _ _ h => h) (Or.inl ⟨by rfl, ?_⟩) (by assumption) ?_; rotate_left; (intro w hSw; (try dsimp only at hSw); go_simp; try (with_reducible rfl)); try simp only [Act.put, List.setIfInBounds_toArray, List.set_cons_zero, List.set_cons_succ, List.getElem_toArray, List.getElem_cons_succ, List.getElem_cons_zero]
                  refine wpAnyH_take (i := 21) (v := ?_) rfl (by kernel_rfl) (by kernel_rfl) (by kernel_rfl) (fun _ _ _ h => h) (Or.inl ⟨by rfl, ?_⟩) (by assumption) ?_; rotate_left; (intro w hSw; (try dsimp only at hSw); go_simp; try (with_reducible rfl)); try simp only [Act.put, List.setIfInBounds_toArray, List.set_cons_zero, List.set_cons_succ, List.getElem_toArray, List.getElem_cons_succ, List.getElem_cons_zero]
                  refine wpAnyH_take (i := 23) (v := ?_) rfl (by kernel_rfl) (by kernel_rfl) (by kernel_rfl) (fun _ _ _ h => h) (Or.inl ⟨by rfl, ?_⟩) (by assumption) ?_; rotate_left; (intro w hSw; (try dsimp only at hSw); go_simp; try (with_reducible rfl)); try simp only [Act.put, List.setIfInBounds_toArray, List.set_cons_zero, List.set_cons_succ, List.getElem_toArray, List.getElem_cons_succ, List.getElem_cons_zero]
                  refine wpAnyH_take (i := 24) (v := ?_) rfl (by kernel_rfl) (by kernel_rfl) (by kernel_rfl) (fun _ _ _ h => h) (Or.inl ⟨by rfl, ?_⟩) (by assumption) ?_; rotate_left; (intro w hSw; (try dsimp only at hSw); go_simp; try (with_reducible rfl)); try simp only [Act.put, List.setIfInBounds_toArray, List.set_cons_zero, List.set_cons_succ, List.getElem_toArray, List.getElem_cons_succ, List.getElem_cons_zero]
                  refine wpAnyH_ready (rs := [22]) (by kernel_rfl) (by simp) ?_; refine AllReadyH.cons rfl (fun K hK => ?_) AllReadyH.nil; go_simp
                  refine (peer_c (s 0) _ (b 0) ((HM.out.sd 0 (by omega)).drew)).mono ?_; rintro e w8 ⟨rfl, rfl⟩; rw [F3.out]
                  try go_wp2_with fail
                  refine hK.out _ _ (by (try dsimp only); (exact HS9.out)) (fun hHeld => ?_); clear hK K; try simp only [Act.put, List.setIfInBounds_toArray, List.set_cons_zero, List.set_cons_succ, List.getElem_toArray, List.getElem_cons_succ, List.getElem_cons_zero]
                  refine wpAnyH_take (i := 25) (v := ?_) rfl (by kernel_rfl) (by kernel_rfl) (by kernel_rfl) (fun _ _ _ h => h) (Or.inl ⟨by rfl, ?_⟩) (by assumption) ?_; rotate_left; (intro w hSw; (try dsimp only at hSw); go_simp; try (with_reducible rfl)); try simp only [Act.put, List.setIfInBounds_toArray, List.set_cons_zero, List.set_cons_succ, List.getElem_toArray, List.getElem_cons_succ, List.getElem_cons_zero]
                  refine wpAnyH_take (i := 26) (v := ?_) rfl (by kernel_rfl) (by kernel_rfl) (by kernel_rfl) (fun _ _ _ h => h) (Or.inl ⟨by rfl, ?_⟩) (by assumption) ?_; rotate_left; (intro w hSw; (try dsimp only at hSw); go_simp; try (with_reducible rfl)); try simp only [Act.put, List.setIfInBounds_toArray, List.set_cons_zero, List.set_cons_succ, List.getElem_toArray, List.getElem_cons_succ, List.getElem_cons_zero]
                  refine wpAnyH_take (i := 27) (v := ?_) rfl (by kernel_rfl) (by kernel_rfl) (by kernel_rfl) (fun _ _ _ h => h) (Or.inl ⟨by rfl, ?_⟩) (by assumption) ?_; rotate_left; (intro w hSw; (try dsimp only at hSw); go_simp; try (with_reducible rfl)); try simp only [Act.put, List.setIfInBounds_toArray, List.set_cons_zero, List.set_cons_succ, List.getElem_toArray, List.getElem_cons_succ, List.getElem_cons_zero]
                  refine wpAnyH_take (i := 28) (v := ?_) rfl (by kernel_rfl) (by kernel_rfl) (by kernel_rfl) (fun _ _ _ h => h) (Or.inl ⟨by rfl, ?_⟩) (by assumption) ?_; rotate_left; (intro w hSw; (try dsimp only at hSw); go_simp; try (with_reducible rfl)); try simp only [Act.put, List.setIfInBounds_toArray, List.set_cons_zero, List.set_cons_succ, List.getElem_toArray, List.getElem_cons_succ, List.getElem_cons_zero]
                  refine wpAnyH_take (i := 29) (v := ?_) rfl (by kernel_rfl) (by kernel_rfl) (by kernel_rfl) (fun _ _ _ h => h) (Or.inl ⟨by rfl, ?_⟩) (by assumption) ?_; rotate_left; (intro w hSw; (try dsimp only at hSw); go_simp; try (with_reducible rfl)); try simp only [Act.put, List.setIfInBounds_toArray, List.set_cons_zero, List.set_cons_succ, List.getElem_toArray, List.getElem_cons_succ, List.getElem_cons_zero]
                  refine wpAnyH_take (i := 31) (v := ?_) rfl (by kernel_rfl) (by kernel_rfl) (by kernel_rfl) (fun _ _ _ h => h) (Or.inl ⟨by rfl, ?_⟩) (by assumption) ?_; rotate_left; (intro w hSw; (try dsimp only at hSw); go_simp; try (with_reducible rfl)); try simp only [Act.put, List.setIfInBounds_toArray, List.set_cons_zero, List.set_cons_succ, List.getElem_toArray, List.getElem_cons_succ, List.getElem_cons_zero]
                  refine wpAnyH_take (i := 32) (v := ?_) rfl (by kernel_rfl) (by kernel_rfl) (by kernel_rfl) (fun _ _ _ h => h) (Or.inl ⟨by rfl, ?_⟩) (by assumption) ?_; rotate_left; (intro w hSw; (try dsimp only at hSw); go_simp; try (with_reducible rfl)); try simp only [Act.put, List.setIfInBounds_toArray, List.set_cons_zero, List.set_cons_succ, List.getElem_toArray, List.getElem_cons_succ, List.getElem_cons_zero]
                  refine wpAnyH_ready (rs := [30]) (by kernel_rfl) (by simp) ?_; refine AllReadyH.cons rfl (fun K hK => ?_) AllReadyH.nil; go_simp
                  refine (peer_c (s 1) _ (b 1) ((HM.out.sd 1 (by omega)).drew)).mono ?_; rintro e w8 ⟨rfl, rfl⟩; rw [F4.out]
                  try go_wp2_with fail
                  refine hK.out _ _ (by (try dsimp only); (exact HS9.out)) (fun hHeld => ?_); clear hK K; try simp only [Act.put, List.setIfInBounds_toArray, List.set_cons_zero, List.set_cons_succ, List.getElem_toArray, List.getElem_cons_succ, List.getElem_cons_zero]
                  refine wpAnyH_take (i := 33) (v := ?_) rfl (by kernel_rfl) (by kernel_rfl) (by kernel_rfl) (fun _ _ _ h => h) (Or.inl ⟨by rfl, ?_⟩) (by assumption) ?_; rotate_left; (intro w hSw; (try dsimp only at hSw); go_simp; try (with_reducible rfl)); try simp only [Act.put, List.setIfInBounds_toArray, List.set_cons_zero, List.set_cons_succ, List.getElem_toArray, List.getElem_cons_succ, List.getElem_cons_zero]
                  refine wpAnyH_take (i := 34) (v := ?_) rfl (by kernel_rfl) (by kernel_rfl) (by kernel_rfl) (fun _ _ _ h => h) (Or.inl ⟨by rfl, ?_⟩) (by assumption) ?_; rotate_left; (intro w hSw; (try dsimp only at hSw); go_simp; try (with_reducible rfl)); try simp only [Act.put, List.setIfInBounds_toArray, List.set_cons_zero, List.set_cons_succ, List.getElem_toArray, List.getElem_cons_succ, List.getElem_cons_zero]
                  refine wpAnyH_take (i := 35) (v := ?_) rfl (by kernel_rfl) (by kernel_rfl) (by kernel_rfl) (fun _ _ _ h => h) (Or.inl ⟨by rfl, ?_⟩) (by assumption) ?_; rotate_left; (intro w hSw; (try dsimp only at hSw); go_simp; try (with_reducible rfl)); try simp only [Act.put, List.setIfInBounds_toArray, List.set_cons_zero, List.set_cons_succ, List.getElem_toArray, List.getElem_cons_succ, List.getElem_cons_zero]
                  refine wpAnyH_done (by kernel_rfl) ?_ _
                  go_wp2_with fail
                  go_roundw
                  case rel => exact ⟨t + 1, x, b, s, z, C, by omega, by go_num, ⟨HM.out.new_ (Below.refl _ _).drew⟩, HT1, HZ9⟩
                  case measure => simp [intOf]; omega
                · have q0 : decide ((len2 : Int) + 2 * d + 2 ≤ t) = false := decide_eq_false hfin
                  go_upto_region 38 with fail
                  go_quiet (fail)
                  go_wp2_with fail
                  go_roundw
                  case rel => exact ⟨t + 1, x, b, s, z, C, by omega, by go_num, ⟨HM.out.new_ (dN (Below.refl _ _) _)⟩, HT1, HZ9⟩
                  case measure => simp [intOf]; omega
      · have hle9 : (len2 : Int) + 4 * d + 40 ≤ t := by omega
        go_wp2_with fail
        go_ret
        exact ⟨rfl, HM.out.bel⟩

set_option maxRecDepth 100000 in
theorem liftedLinkupMeets (os : Os) (started : os.Started) (H : Type) (enc : TypeId × Value → H) :
    ReturnsInHanded {} Try.checked os 5 .any (Rows.linkupMeetsSpec.pre6 enc Try.prog Try.f5 Rows.linkupMeetsRow.domain false) (Rows.linkupMeetsSpec.post enc Try.prog Try.f5 false true false false) := by
  refine returnsInHanded_of_change (C := Try.checked) own started (by kernel_rfl) Try.func5
    (ChangeSpec.witness6 (enc := enc) (C := Try.checked) false ⟨#[], #[.int .u8 0, .int .u8 0, .slice none 0 0], []⟩ 8 (by kernel_rfl) (by kernel_rfl) (by kernel_rfl) (by kernel_rfl)) ?_
  intro W base args ds gs before hval0 hW hcnd _
  have hval : ∀ (j : Nat) t v, Try.f5.params[j]? = some t → args[j]? = some v → Value.okWide Try.prog W .any base t v := hval0
  have hW' := hW
  obtain ⟨p, q, hA0, hV, rfl, hfz, hnd⟩ := hW
  have hA : DataW.TrodAll enc Try.prog W 0 (fun _ => true) true Try.f5.params.toList args.toList ds p := hA0
  rw [Try.params5] at hA hval
  obtain ⟨v0, vs0, d0, ds0, p0, q0, hargs, rfl, rfl, h0, r0⟩ := trodAll_cons hA
  obtain ⟨v1, vs1, d1, ds1, p1, q1, rfl, rfl, rfl, h1, r1⟩ := trodAll_cons r0
  obtain ⟨v2, vs2, d2, ds2, p2, q2, rfl, rfl, rfl, h2, r2⟩ := trodAll_cons r1
  obtain ⟨rfl, rfl, rfl⟩ := trodAll_nil r2
  obtain rfl : args = #[v0, v1, v2] := by cases args; simp_all
  obtain ⟨rfl, rfl⟩ := trodVars_none hV
  have k0 := h0
  have lt0 : ∀ x ∈ p0, x.block < W.heap.size := by obtain ⟨m, hm⟩ := k0; exact DataW.trod_lt m _ _ _ hm
  have k1 := h1
  have lt1 : ∀ x ∈ p1, x.block < W.heap.size := by obtain ⟨m, hm⟩ := k1; exact DataW.trod_lt m _ _ _ hm
  have k2 := h2
  have lt2 : ∀ x ∈ p2, x.block < W.heap.size := by obtain ⟨m, hm⟩ := k2; exact DataW.trod_lt m _ _ _ hm
  obtain ⟨a0, rfl, -, -, w0⟩ := open_int Try.underlying5 (hval 0 5 v0 rfl rfl) h0
  obtain ⟨a1, rfl, -, -, w1⟩ := open_int Try.underlying5 (hval 1 5 v1 rfl rfl) h1
  obtain ⟨a2, len2, cap2, rfl⟩ := okWide_slice Try.underlying36 (hval 2 36 v2 rfl rfl)
  have w2 : IsRows W 1 IsByte a2 len2 cap2 := open_rows Try.underlying36 (show Try.prog.cellsOf 5 = 1 by kernel_rfl) (by decide) isByte h2
  clear hA0 hval0
  refine (walkLinkupMeets a0 a1 a2 len2 cap2 W w0 w1 w2).mono fun e W' ⟨he, bel⟩ => ?_
  subst he
  exact ⟨_, rfl, _, _, _, [], _, [], hW', trodAll_mk1 (shut_bool Try.underlying4 _), (trodAll_cons_mk (Below.trod laidOut (by kernel_rfl) (of_decide_eq_true (by kernel_rfl)) k0 bel lt0) (trodAll_cons_mk (Below.trod laidOut (by kernel_rfl) (of_decide_eq_true (by kernel_rfl)) k1 bel lt1) (trodAll_cons_mk (Below.trod laidOut (by kernel_rfl) (of_decide_eq_true (by kernel_rfl)) k2 bel lt2) trodAll_mk0))), rfl, bel.frame _, fun h => by cases h⟩
/-- The given statement. -/
theorem linkupMeets_holds : Rows.LinkupMeetsSaid :=
  OpenClaim.holds_of_wide 5 Try.f5 rfl rfl rfl rfl rfl rfl rfl ⟨rfl, rfl, rfl, rfl, rfl⟩ rfl rfl rfl rfl rfl (by kernel_rfl) Try.func5 (by kernel_rfl)
    (of_decide_eq_true (by kernel_rfl)) (by unfold Func.isWrapper; first | (rw [if_pos (by decide +kernel)]; kernel_rfl) | (rw [if_neg (by decide +kernel)]; exact ⟨rfl, rfl⟩))
    (fun os started H enc _ => liftedLinkupMeets os started H enc)
#print axioms linkupMeets_holds
end Go.Proofs.Ytaonnglopajkcaa
