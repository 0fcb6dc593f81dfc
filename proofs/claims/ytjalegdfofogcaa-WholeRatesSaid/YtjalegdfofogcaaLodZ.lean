/- Load: the closure that adds a rate to a link's load. Load: the loads of all links. -/
import Derived.Test.YtjalegdfofogcaaRatV
import Derived.Test.YtjalegdfofogcaaLawQ
import Derived.Test.YtjalegdfofogcaaFilD
import Derived.Test.YtjalegdfofogcaaNetB
namespace Go.Proofs.Ytjalegdfofogcaa
set_option linter.unusedVariables false
set_option linter.unusedSimpArgs false
open Go.RowKit
set_option maxRecDepth 100000 in
set_option maxHeartbeats 4000000 in
theorem addl_c (bL gr nl l : Nat) (L : List Rq) (r : Rq) (w : World) (hb : Blk w bL 22 #[.slice (some ⟨gr, 0, none⟩) nl nl]) (hr : RowBlk w gr 32 ccell L) (hlen : L.length = nl) (hl : l < nl) (hnl : nl ≤ 32) (hq : okQ (L.getD l rq0) = true) (hro : okQ r = true) (hne : bL ≠ gr) :
    Calls Try.prog 58 #[.int .i64 (l : Int), .agg #[.int .i64 r.n, .int .i64 r.d], .pointer (some ⟨bL, 0, none⟩)] w fun e w' => e = .returned (.int .i64 (ad (L.getD l rq0) r).2) ∧ Blk w' bL 22 #[.slice (some ⟨gr, 0, none⟩) nl nl] ∧ RowBlk w' gr 32 ccell (L.set l (ad (L.getD l rq0) r).1) ∧ OnlyP (fun b => b = gr) w w' := by
  obtain ⟨q, hqe⟩ := get_some (show l < L.length by omega)
  have hqd : L.getD l rq0 = q := by rw [List.getD_eq_getElem?_getD, hqe]; rfl
  rw [hqd] at hq ⊢
  obtain ⟨Q, hQ⟩ : ∃ Q, Q = (ad q r).1 := ⟨_, rfl⟩
  obtain ⟨E, hE⟩ : ∃ E, E = (ad q r).2 := ⟨_, rfl⟩
  have CA := fun w => add_all q r w hq hro
  unfold ad at hQ hE ⊢
  rw [← hQ, ← hE] at CA ⊢
  unfold rqv at CA
  have HQL := Kept.mk hqe
  have HLL : Kept (l < L.length) := ⟨by omega⟩
  have HB := Kept.mk (hb.alloc (.cells #[.int .i64 r.n, .int .i64 r.d] 32))
  have HR := Kept.mk (hr.alloc (.cells #[.int .i64 r.n, .int .i64 r.d] 32))
  have HX := Kept.mk (Blk.new w 32 #[.int .i64 r.n, .int .i64 r.d])
  have HO := Kept.mk ((OnlyP.refl (fun b => b = gr) w).alloc (.cells #[.int .i64 r.n, .int .i64 r.d] 32))
  clear hQ hE hqe hqd hlen hb hr hq hro
  go_enter Try.func58, Try.ntmps58
  go_upto_region 1 with fail
  obtain ⟨U, hU⟩ : ∃ U, U = w.alloc (.cells #[.int .i64 r.n, .int .i64 r.d] 32) := ⟨_, rfl⟩
  rw [← hU] at HB HR HX HO ⊢
  clear hU
  go_cut [6, 7] (fun s6 s7 wx => ∃ b6 : Nat, s6 = .pointer (some ⟨b6, 0, none⟩) ∧ s7 = .int .i64 E ∧ Kept (Blk wx b6 32 #[.int .i64 Q.n, .int .i64 Q.d] ∧ Below U.heap.size U wx))
  case first =>
    refine with_act fun aq haq => ?_
    refine wp_region_inv (fun L az w1z => ∃ (x6 x7 x8 x9 x10 x11 x12 x13 x14 x15 x16 : Value), az = (((((((((((aq.put (some 6) x6).put (some 7) x7).put (some 8) x8).put (some 9) x9).put (some 10) x10).put (some 11) x11).put (some 12) x12).put (some 13) x13).put (some 14) x14).put (some 15) x15).put (some 16) x16) ∧ (Below U.heap.size U w1z) ∧ (L.getD 0 false = true → x9 = .slice (some ⟨gr, 0, none⟩) nl nl) ∧ (L.getD 1 false = true → x10 = .int .i64 (l : Int)) ∧ (L.getD 2 false = true → x11 = .pointer (some ⟨gr, l * 2, none⟩)) ∧ (L.getD 3 false = true → x12 = .agg #[.int .i64 q.n, .int .i64 q.d]) ∧ (L.getD 4 false = true → x13 = .agg #[.int .i64 r.n, .int .i64 r.d]) ∧ (L.getD 5 false = true → x14 = .tuple #[.agg #[.int .i64 Q.n, .int .i64 Q.d], .int .i64 E]) ∧ (L.getD 6 false = true → x8 = .tuple #[.agg #[.int .i64 Q.n, .int .i64 Q.d], .int .i64 E]) ∧ (L.getD 7 false = true → x15 = .agg #[.int .i64 Q.n, .int .i64 Q.d]) ∧ (L.getD 8 false = true → x16 = .int .i64 E) ∧ (L.getD 11 false = true → x7 = .int .i64 E) ∧ (L.getD 9 false = true → ∃ b : Nat, x6 = .pointer (some ⟨b, 0, none⟩) ∧ U.heap.size ≤ b ∧ Blk w1z b 32 (if L.getD 10 false = true then #[.int .i64 Q.n, .int .i64 Q.d] else #[.int .i64 0, .int .i64 0])) ∧ (L.getD 10 false = true → L.getD 9 false = true)) (by kernel_rfl) (by kernel_rfl) ?start ?oper ?done
    case start =>
      refine ⟨aq.tmps.getD 6 undef, aq.tmps.getD 7 undef, aq.tmps.getD 8 undef, aq.tmps.getD 9 undef, aq.tmps.getD 10 undef, aq.tmps.getD 11 undef, aq.tmps.getD 12 undef, aq.tmps.getD 13 undef, aq.tmps.getD 14 undef, aq.tmps.getD 15 undef, aq.tmps.getD 16 undef, by subst haq; simp only [Act.put, List.setIfInBounds_toArray, List.set_cons_zero, List.set_cons_succ, Array.getD_eq_getD_getElem?, List.getElem?_toArray, List.getElem?_cons_zero, List.getElem?_cons_succ, Option.getD_some], dN (Below.refl U.heap.size U) 1, none_yet, none_yet, none_yet, none_yet, none_yet, none_yet, none_yet, none_yet, none_yet, none_yet, none_yet, none_yet⟩
    case oper =>
      intro L az w1z i hI hr
      obtain ⟨x6, x7, x8, x9, x10, x11, x12, x13, x14, x15, x16, rfl, f0, f1, f2, f3, f4, f5, f6, f7, f8, f9, f10, f11, f12⟩ := hI
      subst haq
      have hi : i < 12 := ready_lt hr
      have hcase : i = 0 ∨ i = 1 ∨ i = 2 ∨ i = 3 ∨ i = 4 ∨ i = 5 ∨ i = 6 ∨ i = 7 ∨ i = 8 ∨ i = 9 ∨ i = 10 ∨ i = 11 := by omega
      clear hi
      rcases hcase with rfl | rfl | rfl | rfl | rfl | rfl | rfl | rfl | rfl | rfl | rfl | rfl
      · have b0 := (HB.out.new_ f0).cell 0 (v := .slice (some ⟨gr, 0, none⟩) nl nl) rfl
        have x0 := (HX.out.new_ f0).cell 0 (v := .int .i64 r.n) rfl
        have x1 := (HX.out.new_ f0).cell 1 (v := .int .i64 r.d) rfl
        have r0 := (HR.out.new_ f0).cell ccell_len HQL.out (j := 0) rfl
        have r1 := (HR.out.new_ f0).cell ccell_len HQL.out (j := 1) rfl
        simp only [Nat.add_zero] at r0
        refine inv_op rfl (fun K hK => ?_)
        try simp only [Act.put, List.setIfInBounds_toArray, List.set_cons_zero, List.set_cons_succ]
        go_simp
        refine hK.out _ _ ⟨x6, x7, x8, .slice (some ⟨gr, 0, none⟩) nl nl, x10, x11, x12, x13, x14, x15, x16, (by simp only [Act.put, List.setIfInBounds_toArray, List.set_cons_zero, List.set_cons_succ]), f0, (fun _ => rfl), (fun h => by first | exact f2 (by rwa [set_other (by decide)] at h) | (rw [set_other (by decide)] at h ⊢; exact f2 h)), (fun h => by first | exact f3 (by rwa [set_other (by decide)] at h) | (rw [set_other (by decide)] at h ⊢; exact f3 h)), (fun h => by first | exact f4 (by rwa [set_other (by decide)] at h) | (rw [set_other (by decide)] at h ⊢; exact f4 h)), (fun h => by first | exact f5 (by rwa [set_other (by decide)] at h) | (rw [set_other (by decide)] at h ⊢; exact f5 h)), (fun h => by first | exact f6 (by rwa [set_other (by decide)] at h) | (rw [set_other (by decide)] at h ⊢; exact f6 h)), (fun h => by first | exact f7 (by rwa [set_other (by decide)] at h) | (rw [set_other (by decide)] at h ⊢; exact f7 h)), (fun h => by first | exact f8 (by rwa [set_other (by decide)] at h) | (rw [set_other (by decide)] at h ⊢; exact f8 h)), (fun h => by first | exact f9 (by rwa [set_other (by decide)] at h) | (rw [set_other (by decide)] at h ⊢; exact f9 h)), (fun h => by first | exact f10 (by rwa [set_other (by decide)] at h) | (rw [set_other (by decide)] at h ⊢; exact f10 h)), (fun h => by first | exact f11 (by rwa [set_other (by decide)] at h) | (rw [set_other (by decide)] at h ⊢; exact f11 h)), (fun h => by first | exact f12 (by rwa [set_other (by decide)] at h) | (rw [set_other (by decide)] at h ⊢; exact f12 h))⟩
      · refine inv_op rfl (fun K hK => ?_)
        try simp only [Act.put, List.setIfInBounds_toArray, List.set_cons_zero, List.set_cons_succ]
        go_simp
        refine hK.out _ _ ⟨x6, x7, x8, x9, .int .i64 (l : Int), x11, x12, x13, x14, x15, x16, (by simp only [Act.put, List.setIfInBounds_toArray, List.set_cons_zero, List.set_cons_succ]), f0, (fun h => by first | exact f1 (by rwa [set_other (by decide)] at h) | (rw [set_other (by decide)] at h ⊢; exact f1 h)), (fun _ => rfl), (fun h => by first | exact f3 (by rwa [set_other (by decide)] at h) | (rw [set_other (by decide)] at h ⊢; exact f3 h)), (fun h => by first | exact f4 (by rwa [set_other (by decide)] at h) | (rw [set_other (by decide)] at h ⊢; exact f4 h)), (fun h => by first | exact f5 (by rwa [set_other (by decide)] at h) | (rw [set_other (by decide)] at h ⊢; exact f5 h)), (fun h => by first | exact f6 (by rwa [set_other (by decide)] at h) | (rw [set_other (by decide)] at h ⊢; exact f6 h)), (fun h => by first | exact f7 (by rwa [set_other (by decide)] at h) | (rw [set_other (by decide)] at h ⊢; exact f7 h)), (fun h => by first | exact f8 (by rwa [set_other (by decide)] at h) | (rw [set_other (by decide)] at h ⊢; exact f8 h)), (fun h => by first | exact f9 (by rwa [set_other (by decide)] at h) | (rw [set_other (by decide)] at h ⊢; exact f9 h)), (fun h => by first | exact f10 (by rwa [set_other (by decide)] at h) | (rw [set_other (by decide)] at h ⊢; exact f10 h)), (fun h => by first | exact f11 (by rwa [set_other (by decide)] at h) | (rw [set_other (by decide)] at h ⊢; exact f11 h)), (fun h => by first | exact f12 (by rwa [set_other (by decide)] at h) | (rw [set_other (by decide)] at h ⊢; exact f12 h))⟩
      · obtain rfl := f1 (ready_dep hr (d := 0) (by kernel_rfl))
        obtain rfl := f2 (ready_dep hr (d := 1) (by kernel_rfl))
        refine inv_op rfl (fun K hK => ?_)
        try simp only [Act.put, List.setIfInBounds_toArray, List.set_cons_zero, List.set_cons_succ]
        go_simp
        refine hK.out _ _ ⟨x6, x7, x8, .slice (some ⟨gr, 0, none⟩) nl nl, .int .i64 (l : Int), .pointer (some ⟨gr, l * 2, none⟩), x12, x13, x14, x15, x16, (by simp only [Act.put, List.setIfInBounds_toArray, List.set_cons_zero, List.set_cons_succ]), f0, (fun _ => rfl), (fun _ => rfl), (fun _ => rfl), (fun h => by first | exact f4 (by rwa [set_other (by decide)] at h) | (rw [set_other (by decide)] at h ⊢; exact f4 h)), (fun h => by first | exact f5 (by rwa [set_other (by decide)] at h) | (rw [set_other (by decide)] at h ⊢; exact f5 h)), (fun h => by first | exact f6 (by rwa [set_other (by decide)] at h) | (rw [set_other (by decide)] at h ⊢; exact f6 h)), (fun h => by first | exact f7 (by rwa [set_other (by decide)] at h) | (rw [set_other (by decide)] at h ⊢; exact f7 h)), (fun h => by first | exact f8 (by rwa [set_other (by decide)] at h) | (rw [set_other (by decide)] at h ⊢; exact f8 h)), (fun h => by first | exact f9 (by rwa [set_other (by decide)] at h) | (rw [set_other (by decide)] at h ⊢; exact f9 h)), (fun h => by first | exact f10 (by rwa [set_other (by decide)] at h) | (rw [set_other (by decide)] at h ⊢; exact f10 h)), (fun h => by first | exact f11 (by rwa [set_other (by decide)] at h) | (rw [set_other (by decide)] at h ⊢; exact f11 h)), (fun h => by first | exact f12 (by rwa [set_other (by decide)] at h) | (rw [set_other (by decide)] at h ⊢; exact f12 h))⟩
      · obtain rfl := f3 (ready_dep hr (d := 2) (by kernel_rfl))
        have b0 := (HB.out.new_ f0).cell 0 (v := .slice (some ⟨gr, 0, none⟩) nl nl) rfl
        have x0 := (HX.out.new_ f0).cell 0 (v := .int .i64 r.n) rfl
        have x1 := (HX.out.new_ f0).cell 1 (v := .int .i64 r.d) rfl
        have r0 := (HR.out.new_ f0).cell ccell_len HQL.out (j := 0) rfl
        have r1 := (HR.out.new_ f0).cell ccell_len HQL.out (j := 1) rfl
        simp only [Nat.add_zero] at r0
        refine inv_op rfl (fun K hK => ?_)
        try simp only [Act.put, List.setIfInBounds_toArray, List.set_cons_zero, List.set_cons_succ]
        go_simp
        refine hK.out _ _ ⟨x6, x7, x8, x9, x10, .pointer (some ⟨gr, l * 2, none⟩), .agg #[.int .i64 q.n, .int .i64 q.d], x13, x14, x15, x16, (by simp only [Act.put, List.setIfInBounds_toArray, List.set_cons_zero, List.set_cons_succ]), f0, (fun h => by first | exact f1 (by rwa [set_other (by decide)] at h) | (rw [set_other (by decide)] at h ⊢; exact f1 h)), (fun h => by first | exact f2 (by rwa [set_other (by decide)] at h) | (rw [set_other (by decide)] at h ⊢; exact f2 h)), (fun _ => rfl), (fun _ => rfl), (fun h => by first | exact f5 (by rwa [set_other (by decide)] at h) | (rw [set_other (by decide)] at h ⊢; exact f5 h)), (fun h => by first | exact f6 (by rwa [set_other (by decide)] at h) | (rw [set_other (by decide)] at h ⊢; exact f6 h)), (fun h => by first | exact f7 (by rwa [set_other (by decide)] at h) | (rw [set_other (by decide)] at h ⊢; exact f7 h)), (fun h => by first | exact f8 (by rwa [set_other (by decide)] at h) | (rw [set_other (by decide)] at h ⊢; exact f8 h)), (fun h => by first | exact f9 (by rwa [set_other (by decide)] at h) | (rw [set_other (by decide)] at h ⊢; exact f9 h)), (fun h => by first | exact f10 (by rwa [set_other (by decide)] at h) | (rw [set_other (by decide)] at h ⊢; exact f10 h)), (fun h => by first | exact f11 (by rwa [set_other (by decide)] at h) | (rw [set_other (by decide)] at h ⊢; exact f11 h)), (fun h => by first | exact f12 (by rwa [set_other (by decide)] at h) | (rw [set_other (by decide)] at h ⊢; exact f12 h))⟩
      · have b0 := (HB.out.new_ f0).cell 0 (v := .slice (some ⟨gr, 0, none⟩) nl nl) rfl
        have x0 := (HX.out.new_ f0).cell 0 (v := .int .i64 r.n) rfl
        have x1 := (HX.out.new_ f0).cell 1 (v := .int .i64 r.d) rfl
        have r0 := (HR.out.new_ f0).cell ccell_len HQL.out (j := 0) rfl
        have r1 := (HR.out.new_ f0).cell ccell_len HQL.out (j := 1) rfl
        simp only [Nat.add_zero] at r0
        refine inv_op rfl (fun K hK => ?_)
        try simp only [Act.put, List.setIfInBounds_toArray, List.set_cons_zero, List.set_cons_succ]
        go_simp
        refine hK.out _ _ ⟨x6, x7, x8, x9, x10, x11, x12, .agg #[.int .i64 r.n, .int .i64 r.d], x14, x15, x16, (by simp only [Act.put, List.setIfInBounds_toArray, List.set_cons_zero, List.set_cons_succ]), f0, (fun h => by first | exact f1 (by rwa [set_other (by decide)] at h) | (rw [set_other (by decide)] at h ⊢; exact f1 h)), (fun h => by first | exact f2 (by rwa [set_other (by decide)] at h) | (rw [set_other (by decide)] at h ⊢; exact f2 h)), (fun h => by first | exact f3 (by rwa [set_other (by decide)] at h) | (rw [set_other (by decide)] at h ⊢; exact f3 h)), (fun h => by first | exact f4 (by rwa [set_other (by decide)] at h) | (rw [set_other (by decide)] at h ⊢; exact f4 h)), (fun _ => rfl), (fun h => by first | exact f6 (by rwa [set_other (by decide)] at h) | (rw [set_other (by decide)] at h ⊢; exact f6 h)), (fun h => by first | exact f7 (by rwa [set_other (by decide)] at h) | (rw [set_other (by decide)] at h ⊢; exact f7 h)), (fun h => by first | exact f8 (by rwa [set_other (by decide)] at h) | (rw [set_other (by decide)] at h ⊢; exact f8 h)), (fun h => by first | exact f9 (by rwa [set_other (by decide)] at h) | (rw [set_other (by decide)] at h ⊢; exact f9 h)), (fun h => by first | exact f10 (by rwa [set_other (by decide)] at h) | (rw [set_other (by decide)] at h ⊢; exact f10 h)), (fun h => by first | exact f11 (by rwa [set_other (by decide)] at h) | (rw [set_other (by decide)] at h ⊢; exact f11 h)), (fun h => by first | exact f12 (by rwa [set_other (by decide)] at h) | (rw [set_other (by decide)] at h ⊢; exact f12 h))⟩
      · obtain rfl := f4 (ready_dep hr (d := 3) (by kernel_rfl))
        obtain rfl := f5 (ready_dep hr (d := 4) (by kernel_rfl))
        refine inv_op rfl (fun K hK => ?_)
        try simp only [Act.put, List.setIfInBounds_toArray, List.set_cons_zero, List.set_cons_succ]
        go_simp
        refine (CA _).mono ?_
        rintro e w9 ⟨rfl, hb9⟩
        try simp only []
        refine hK.out _ _ ⟨x6, x7, x8, x9, x10, x11, .agg #[.int .i64 q.n, .int .i64 q.d], .agg #[.int .i64 r.n, .int .i64 r.d], .tuple #[.agg #[.int .i64 Q.n, .int .i64 Q.d], .int .i64 E], x15, x16, (by simp only [Act.put, List.setIfInBounds_toArray, List.set_cons_zero, List.set_cons_succ]), join f0 hb9, (fun h => by first | exact f1 (by rwa [set_other (by decide)] at h) | (rw [set_other (by decide)] at h ⊢; exact f1 h)), (fun h => by first | exact f2 (by rwa [set_other (by decide)] at h) | (rw [set_other (by decide)] at h ⊢; exact f2 h)), (fun h => by first | exact f3 (by rwa [set_other (by decide)] at h) | (rw [set_other (by decide)] at h ⊢; exact f3 h)), (fun _ => rfl), (fun _ => rfl), (fun _ => rfl), (fun h => by first | exact f7 (by rwa [set_other (by decide)] at h) | (rw [set_other (by decide)] at h ⊢; exact f7 h)), (fun h => by first | exact f8 (by rwa [set_other (by decide)] at h) | (rw [set_other (by decide)] at h ⊢; exact f8 h)), (fun h => by first | exact f9 (by rwa [set_other (by decide)] at h) | (rw [set_other (by decide)] at h ⊢; exact f9 h)), (fun h => by first | exact f10 (by rwa [set_other (by decide)] at h) | (rw [set_other (by decide)] at h ⊢; exact f10 h)), (fun h => by rw [set_other (by decide)] at h ⊢; obtain ⟨b, e, hb, hB⟩ := f11 h; exact ⟨b, e, hb, hB.new_ hb9⟩), (fun h => by first | exact f12 (by rwa [set_other (by decide)] at h) | (rw [set_other (by decide)] at h ⊢; exact f12 h))⟩
      · obtain rfl := f6 (ready_dep hr (d := 5) (by kernel_rfl))
        refine inv_op rfl (fun K hK => ?_)
        try simp only [Act.put, List.setIfInBounds_toArray, List.set_cons_zero, List.set_cons_succ]
        go_simp
        refine hK.out _ _ ⟨x6, x7, .tuple #[.agg #[.int .i64 Q.n, .int .i64 Q.d], .int .i64 E], x9, x10, x11, x12, x13, .tuple #[.agg #[.int .i64 Q.n, .int .i64 Q.d], .int .i64 E], x15, x16, (by simp only [Act.put, List.setIfInBounds_toArray, List.set_cons_zero, List.set_cons_succ]), f0, (fun h => by first | exact f1 (by rwa [set_other (by decide)] at h) | (rw [set_other (by decide)] at h ⊢; exact f1 h)), (fun h => by first | exact f2 (by rwa [set_other (by decide)] at h) | (rw [set_other (by decide)] at h ⊢; exact f2 h)), (fun h => by first | exact f3 (by rwa [set_other (by decide)] at h) | (rw [set_other (by decide)] at h ⊢; exact f3 h)), (fun h => by first | exact f4 (by rwa [set_other (by decide)] at h) | (rw [set_other (by decide)] at h ⊢; exact f4 h)), (fun h => by first | exact f5 (by rwa [set_other (by decide)] at h) | (rw [set_other (by decide)] at h ⊢; exact f5 h)), (fun _ => rfl), (fun _ => rfl), (fun h => by first | exact f8 (by rwa [set_other (by decide)] at h) | (rw [set_other (by decide)] at h ⊢; exact f8 h)), (fun h => by first | exact f9 (by rwa [set_other (by decide)] at h) | (rw [set_other (by decide)] at h ⊢; exact f9 h)), (fun h => by first | exact f10 (by rwa [set_other (by decide)] at h) | (rw [set_other (by decide)] at h ⊢; exact f10 h)), (fun h => by first | exact f11 (by rwa [set_other (by decide)] at h) | (rw [set_other (by decide)] at h ⊢; exact f11 h)), (fun h => by first | exact f12 (by rwa [set_other (by decide)] at h) | (rw [set_other (by decide)] at h ⊢; exact f12 h))⟩
      · obtain rfl := f7 (ready_dep hr (d := 6) (by kernel_rfl))
        refine inv_op rfl (fun K hK => ?_)
        try simp only [Act.put, List.setIfInBounds_toArray, List.set_cons_zero, List.set_cons_succ]
        go_simp
        refine hK.out _ _ ⟨x6, x7, .tuple #[.agg #[.int .i64 Q.n, .int .i64 Q.d], .int .i64 E], x9, x10, x11, x12, x13, x14, .agg #[.int .i64 Q.n, .int .i64 Q.d], x16, (by simp only [Act.put, List.setIfInBounds_toArray, List.set_cons_zero, List.set_cons_succ]), f0, (fun h => by first | exact f1 (by rwa [set_other (by decide)] at h) | (rw [set_other (by decide)] at h ⊢; exact f1 h)), (fun h => by first | exact f2 (by rwa [set_other (by decide)] at h) | (rw [set_other (by decide)] at h ⊢; exact f2 h)), (fun h => by first | exact f3 (by rwa [set_other (by decide)] at h) | (rw [set_other (by decide)] at h ⊢; exact f3 h)), (fun h => by first | exact f4 (by rwa [set_other (by decide)] at h) | (rw [set_other (by decide)] at h ⊢; exact f4 h)), (fun h => by first | exact f5 (by rwa [set_other (by decide)] at h) | (rw [set_other (by decide)] at h ⊢; exact f5 h)), (fun h => by first | exact f6 (by rwa [set_other (by decide)] at h) | (rw [set_other (by decide)] at h ⊢; exact f6 h)), (fun _ => rfl), (fun _ => rfl), (fun h => by first | exact f9 (by rwa [set_other (by decide)] at h) | (rw [set_other (by decide)] at h ⊢; exact f9 h)), (fun h => by first | exact f10 (by rwa [set_other (by decide)] at h) | (rw [set_other (by decide)] at h ⊢; exact f10 h)), (fun h => by first | exact f11 (by rwa [set_other (by decide)] at h) | (rw [set_other (by decide)] at h ⊢; exact f11 h)), (fun h => by first | exact f12 (by rwa [set_other (by decide)] at h) | (rw [set_other (by decide)] at h ⊢; exact f12 h))⟩
      · obtain rfl := f7 (ready_dep hr (d := 6) (by kernel_rfl))
        refine inv_op rfl (fun K hK => ?_)
        try simp only [Act.put, List.setIfInBounds_toArray, List.set_cons_zero, List.set_cons_succ]
        go_simp
        refine hK.out _ _ ⟨x6, x7, .tuple #[.agg #[.int .i64 Q.n, .int .i64 Q.d], .int .i64 E], x9, x10, x11, x12, x13, x14, x15, .int .i64 E, (by simp only [Act.put, List.setIfInBounds_toArray, List.set_cons_zero, List.set_cons_succ]), f0, (fun h => by first | exact f1 (by rwa [set_other (by decide)] at h) | (rw [set_other (by decide)] at h ⊢; exact f1 h)), (fun h => by first | exact f2 (by rwa [set_other (by decide)] at h) | (rw [set_other (by decide)] at h ⊢; exact f2 h)), (fun h => by first | exact f3 (by rwa [set_other (by decide)] at h) | (rw [set_other (by decide)] at h ⊢; exact f3 h)), (fun h => by first | exact f4 (by rwa [set_other (by decide)] at h) | (rw [set_other (by decide)] at h ⊢; exact f4 h)), (fun h => by first | exact f5 (by rwa [set_other (by decide)] at h) | (rw [set_other (by decide)] at h ⊢; exact f5 h)), (fun h => by first | exact f6 (by rwa [set_other (by decide)] at h) | (rw [set_other (by decide)] at h ⊢; exact f6 h)), (fun _ => rfl), (fun h => by first | exact f8 (by rwa [set_other (by decide)] at h) | (rw [set_other (by decide)] at h ⊢; exact f8 h)), (fun _ => rfl), (fun h => by first | exact f10 (by rwa [set_other (by decide)] at h) | (rw [set_other (by decide)] at h ⊢; exact f10 h)), (fun h => by first | exact f11 (by rwa [set_other (by decide)] at h) | (rw [set_other (by decide)] at h ⊢; exact f11 h)), (fun h => by first | exact f12 (by rwa [set_other (by decide)] at h) | (rw [set_other (by decide)] at h ⊢; exact f12 h))⟩
      · have h10 : L.getD 10 false = false := by
          cases hh : L.getD 10 false with
          | false => rfl
          | true => exact absurd (f12 hh) (by rw [ready_not hr]; decide)
        refine inv_op rfl (fun K hK => ?_)
        try simp only [Act.put, List.setIfInBounds_toArray, List.set_cons_zero, List.set_cons_succ]
        go_simp
        refine hK.out _ _ ⟨.pointer (some ⟨w1z.heap.size, 0, none⟩), x7, x8, x9, x10, x11, x12, x13, x14, x15, x16, (by simp only [Act.put, List.setIfInBounds_toArray, List.set_cons_zero, List.set_cons_succ]), f0.alloc f0.size _, (fun h => by first | exact f1 (by rwa [set_other (by decide)] at h) | (rw [set_other (by decide)] at h ⊢; exact f1 h)), (fun h => by first | exact f2 (by rwa [set_other (by decide)] at h) | (rw [set_other (by decide)] at h ⊢; exact f2 h)), (fun h => by first | exact f3 (by rwa [set_other (by decide)] at h) | (rw [set_other (by decide)] at h ⊢; exact f3 h)), (fun h => by first | exact f4 (by rwa [set_other (by decide)] at h) | (rw [set_other (by decide)] at h ⊢; exact f4 h)), (fun h => by first | exact f5 (by rwa [set_other (by decide)] at h) | (rw [set_other (by decide)] at h ⊢; exact f5 h)), (fun h => by first | exact f6 (by rwa [set_other (by decide)] at h) | (rw [set_other (by decide)] at h ⊢; exact f6 h)), (fun h => by first | exact f7 (by rwa [set_other (by decide)] at h) | (rw [set_other (by decide)] at h ⊢; exact f7 h)), (fun h => by first | exact f8 (by rwa [set_other (by decide)] at h) | (rw [set_other (by decide)] at h ⊢; exact f8 h)), (fun h => by first | exact f9 (by rwa [set_other (by decide)] at h) | (rw [set_other (by decide)] at h ⊢; exact f9 h)), (fun h => by first | exact f10 (by rwa [set_other (by decide)] at h) | (rw [set_other (by decide)] at h ⊢; exact f10 h)), (fun _ => ⟨w1z.heap.size, rfl, f0.size, by rw [set_other (by decide), h10]; exact Blk.new _ _ _⟩), (fun h => set_self hr)⟩
      · have h10 := ready_not hr
        have ha := ready_dep hr (d := 9) (by kernel_rfl)
        obtain ⟨b, eb, hb, hB⟩ := f11 ha
        rw [h10] at hB
        have q0 := hB.cell 0 (v := .int .i64 0) rfl
        have q1 := hB.cell 1 (v := .int .i64 0) rfl
        have q2 := hB.free 0
        have q3 := hB.free 1
        have q4 := hB.lt
        obtain rfl := f8 (ready_dep hr (d := 7) (by kernel_rfl))
        subst eb
        refine inv_op rfl (fun K hK => ?_)
        try simp only [Act.put, List.setIfInBounds_toArray, List.set_cons_zero, List.set_cons_succ]
        go_simp
        refine hK.out _ _ ⟨(.pointer (some ⟨b, 0, none⟩)), x7, x8, x9, x10, x11, x12, x13, x14, .agg #[.int .i64 Q.n, .int .i64 Q.d], x16, (by simp only [Act.put, List.setIfInBounds_toArray, List.set_cons_zero, List.set_cons_succ]), ((f0.setCell hb _).setCell hb _), (fun h => by first | exact f1 (by rwa [set_other (by decide)] at h) | (rw [set_other (by decide)] at h ⊢; exact f1 h)), (fun h => by first | exact f2 (by rwa [set_other (by decide)] at h) | (rw [set_other (by decide)] at h ⊢; exact f2 h)), (fun h => by first | exact f3 (by rwa [set_other (by decide)] at h) | (rw [set_other (by decide)] at h ⊢; exact f3 h)), (fun h => by first | exact f4 (by rwa [set_other (by decide)] at h) | (rw [set_other (by decide)] at h ⊢; exact f4 h)), (fun h => by first | exact f5 (by rwa [set_other (by decide)] at h) | (rw [set_other (by decide)] at h ⊢; exact f5 h)), (fun h => by first | exact f6 (by rwa [set_other (by decide)] at h) | (rw [set_other (by decide)] at h ⊢; exact f6 h)), (fun h => by first | exact f7 (by rwa [set_other (by decide)] at h) | (rw [set_other (by decide)] at h ⊢; exact f7 h)), (fun _ => rfl), (fun h => by first | exact f9 (by rwa [set_other (by decide)] at h) | (rw [set_other (by decide)] at h ⊢; exact f9 h)), (fun h => by first | exact f10 (by rwa [set_other (by decide)] at h) | (rw [set_other (by decide)] at h ⊢; exact f10 h)), (fun _ => ⟨b, rfl, hb, by rw [set_self hr]; exact (hB.set_ 0 _).to 1 _ rfl⟩), (fun _ => by rw [set_other (by decide)]; exact ha)⟩
      · obtain rfl := f9 (ready_dep hr (d := 8) (by kernel_rfl))
        refine inv_op rfl (fun K hK => ?_)
        try simp only [Act.put, List.setIfInBounds_toArray, List.set_cons_zero, List.set_cons_succ]
        go_simp
        refine hK.out _ _ ⟨x6, .int .i64 E, x8, x9, x10, x11, x12, x13, x14, x15, .int .i64 E, (by simp only [Act.put, List.setIfInBounds_toArray, List.set_cons_zero, List.set_cons_succ]), f0, (fun h => by first | exact f1 (by rwa [set_other (by decide)] at h) | (rw [set_other (by decide)] at h ⊢; exact f1 h)), (fun h => by first | exact f2 (by rwa [set_other (by decide)] at h) | (rw [set_other (by decide)] at h ⊢; exact f2 h)), (fun h => by first | exact f3 (by rwa [set_other (by decide)] at h) | (rw [set_other (by decide)] at h ⊢; exact f3 h)), (fun h => by first | exact f4 (by rwa [set_other (by decide)] at h) | (rw [set_other (by decide)] at h ⊢; exact f4 h)), (fun h => by first | exact f5 (by rwa [set_other (by decide)] at h) | (rw [set_other (by decide)] at h ⊢; exact f5 h)), (fun h => by first | exact f6 (by rwa [set_other (by decide)] at h) | (rw [set_other (by decide)] at h ⊢; exact f6 h)), (fun h => by first | exact f7 (by rwa [set_other (by decide)] at h) | (rw [set_other (by decide)] at h ⊢; exact f7 h)), (fun h => by first | exact f8 (by rwa [set_other (by decide)] at h) | (rw [set_other (by decide)] at h ⊢; exact f8 h)), (fun _ => rfl), (fun _ => rfl), (fun h => by first | exact f11 (by rwa [set_other (by decide)] at h) | (rw [set_other (by decide)] at h ⊢; exact f11 h)), (fun h => by first | exact f12 (by rwa [set_other (by decide)] at h) | (rw [set_other (by decide)] at h ⊢; exact f12 h))⟩
    case done =>
      intro L az w1z hI hall
      obtain ⟨x6, x7, x8, x9, x10, x11, x12, x13, x14, x15, x16, rfl, f0, f1, f2, f3, f4, f5, f6, f7, f8, f9, f10, f11, f12⟩ := hI
      subst haq
      simp only [Act.put, List.setIfInBounds_toArray, List.set_cons_zero, List.set_cons_succ]
      go_wp2_with fail
      go_meet
      obtain ⟨b6, e6, -, hB6⟩ := f11 (hall 9 (by decide))
      rw [hall 10 (by decide)] at hB6
      exact ⟨b6, e6, f10 (hall 11 (by decide)), ⟨hB6, f0⟩⟩
  case rest =>
    obtain ⟨b6, rfl, rfl, HB6⟩ := hcut
    have HB1 := Kept.mk (HB.out.new_ HB6.out.2)
    have HR1 := Kept.mk (HR.out.new_ HB6.out.2)
    have HO1 := Kept.mk (HO.out.new HB6.out.2)
    have q0 := HB6.out.1.cell 0 (v := .int .i64 Q.n) rfl
    have q1 := HB6.out.1.cell 1 (v := .int .i64 Q.d) rfl
    have b0 := HB1.out.cell 0 (v := .slice (some ⟨gr, 0, none⟩) nl nl) rfl
    have r0 := HR1.out.cell ccell_len HQL.out (j := 0) rfl
    have r1 := HR1.out.cell ccell_len HQL.out (j := 1) rfl
    simp only [Nat.add_zero] at r0
    have f0 := HR1.out.free (l * 2)
    have f1 := HR1.out.free (l * 2 + 1)
    have lr := HR1.out.lt
    clear CA HB HR HX HO
    go_wp2_with fail
    go_ret
    exact ⟨rfl, (HB1.out.far (p := ⟨gr, l * 2, none⟩) hne _).far (p := ⟨gr, l * 2 + 1, none⟩) hne _, HR1.out.set2 ccell_len HLL.out rfl, (HO1.out.set (p := ⟨gr, l * 2, none⟩) (.inl rfl) _).set (p := ⟨gr, l * 2 + 1, none⟩) (.inl rfl) _⟩
end Go.Proofs.Ytjalegdfofogcaa
namespace Go.Proofs.Ytjalegdfofogcaa
set_option linter.unusedVariables false
set_option linter.unusedSimpArgs false
open Go.RowKit
/-- Load's boxes: the net, the variable loads, its row. -/
structure LD (w W : World) (n : PNet) (bL gr : Nat) (L : List Rq) : Prop where
  x : Blk W w.heap.size 25 #[.slice n.cA n.caps.length n.ck, .slice n.fA n.flows.length n.fk]
  lb : Blk W bL 22 #[.slice (some ⟨gr, 0, none⟩) n.caps.length n.caps.length]
  rr : RowBlk W gr 32 ccell L
  blw : Below w.heap.size w W
  lo : w.heap.size < gr ∧ w.heap.size < bL ∧ bL ≠ gr
section
variable {w W W' : World} {n : PNet} {bL gr : Nat} {L L' : List Rq}
theorem LD.new_ (h : LD w W n bL gr L) (hb : Below W.heap.size W W') : LD w W' n bL gr L := ⟨h.x.new_ hb, h.lb.new_ hb, h.rr.new_ hb, join h.blw hb, h.lo⟩
theorem LD.alloc (h : LD w W n bL gr L) (o : Obj) : LD w (W.alloc o) n bL gr L := h.new_ ((Below.refl _ _).alloc (Nat.le_refl _) o)
theorem LD.put (h : LD w W n bL gr L) {k : Nat} (hk : k < L.length) (q : Rq) : LD w ((W.setCell ⟨gr, k * 2, none⟩ (.int .i64 q.n)).setCell ⟨gr, k * 2 + 1, none⟩ (.int .i64 q.d)) n bL gr (L.set k q) := by
  have hl := h.lo
  exact ⟨(h.x.far (by simp only; omega) _).far (by simp only; omega) _, (h.lb.far (by simp only; omega) _).far (by simp only; omega) _, h.rr.set2 ccell_len hk rfl, (h.blw.setCell (by simp only; omega) _).setCell (by simp only; omega) _, hl⟩
theorem LD.step (h : LD w W n bL gr L) (h1 : Blk W' bL 22 #[.slice (some ⟨gr, 0, none⟩) n.caps.length n.caps.length]) (h2 : RowBlk W' gr 32 ccell L') (ho : OnlyP (fun b => b = gr) W W') : LD w W' n bL gr L' := by
  have hl := h.lo
  exact ⟨h.x.only ho (by omega), h1, h2, joinP h.blw ho (fun k hk => by omega) (Nat.le_refl _), hl⟩
end
theorem fill_next {a b : Rq} {k m : Nat} (h : k < m) : (List.replicate k a ++ List.replicate (m - k) b).set k a = List.replicate (k + 1) a ++ List.replicate (m - (k + 1)) b := by
  rw [List.set_append_right _ _ (by simp), List.length_replicate, Nat.sub_self, show m - k = (m - (k + 1)) + 1 by omega, List.replicate_succ, List.set_cons_zero, List.replicate_succ', List.append_assoc]
  rfl
theorem RowsAt.rat {w : World} {B b o k : Nat} {rs : List Rq} {r : Rq} (h : RowsAt w B 2 ccell (some ⟨b, o, none⟩) rs) (hk : rs[k]? = some r) : w.cell? ⟨b, o + k * 2, none⟩ = some (.int .i64 r.n) ∧ w.cell? ⟨b, o + k * 2 + 1, none⟩ = some (.int .i64 r.d) ∧ b < B := by
  obtain ⟨x, b', o', hx, e, hb, -, hc⟩ := h.at_ (List.getElem?_eq_some_iff.1 hk).1
  injection e with e
  injection e with e1 e2
  subst e1 e2
  rw [hk] at hx
  injection hx with hx
  subst hx
  exact ⟨hc 0 _ rfl, hc 1 _ rfl, hb⟩
/-- What Load answers. -/
def LoadR (w : World) (n : PNet) (rs : List Rq) (e : Ending) (w' : World) : Prop :=
  ((loadP n rs).2 = 0 ∧ ∃ gr, e = .returned (.tuple #[.slice (some ⟨gr, 0, none⟩) n.caps.length n.caps.length, .int .i64 0]) ∧ RowBlk w' gr 32 ccell (loadP n rs).1 ∧ w.heap.size < gr ∧ Below w.heap.size w w') ∨
  ((loadP n rs).2 = 10 ∧ e = .returned (.tuple #[.slice none 0 0, .int .i64 10]) ∧ Below w.heap.size w w')
set_option maxRecDepth 100000 in
set_option maxHeartbeats 16000000 in
theorem load_c (n : PNet) (rs : List Rq) (rA : Option Addr) (rk : Nat) (w : World) (hn : NetAt w w.heap.size n) (hv : netOk n = true) (hr : RowsAt w w.heap.size 2 ccell rA rs) (hrl : rs.length = n.flows.length) (hro : AllOk rs) : Calls Try.prog 42 #[nval n, .slice rA n.flows.length rk] w (LoadR w n rs) := by
  have HN := Kept.mk hn
  have HRS := Kept.mk hr
  have HRO := Kept.mk hro
  have HRL := Kept.mk hrl
  have HLK := Kept.mk (netOk_links hv)
  have VN := fun w h => valid_net_c n w h
  rw [hv] at VN
  have hsz : n.caps.length ≤ 32 ∧ n.flows.length ≤ 32 := by
    unfold netOk at hv
    rw [Bool.and_eq_true, Bool.and_eq_true, decide_eq_true_eq, decide_eq_true_eq] at hv
    exact ⟨hv.1, hv.2.1⟩
  obtain ⟨hc32, hf32⟩ := hsz
  clear hn hv hr hro hrl
  obtain ⟨caps, cA, ck, flows, fA, fk⟩ := n
  dsimp only at hc32 hf32 HRL
  unfold nval at VN ⊢
  dsimp only at VN ⊢
  have hmkR := fun w => run_make_flat (P := Try.prog) ccell_len (by omega) (⟨0, 0⟩ : Rq) 22 32 _ 16 Try.underlying22 infoR rfl caps.length (by omega) (by omega) w
  have HX0 := Kept.mk (Blk.new w 25 #[.slice cA caps.length ck, .slice fA flows.length fk])
  have HD0 : Kept (Below w.heap.size w (w.alloc (.cells #[.slice cA caps.length ck, .slice fA flows.length fk] 25))) := ⟨by go_grown⟩
  have HN0 := HN.out.new_ HD0.out
  have n0 := HX0.out.cell 0 (v := .slice cA caps.length ck) rfl
  have n1 := HX0.out.cell 1 (v := .slice fA flows.length fk) rfl
  obtain ⟨R, hR⟩ : ∃ R, R = LoadR w ⟨caps, cA, ck, flows, fA, fk⟩ rs := ⟨_, rfl⟩
  rw [← hR]
  have HR := Kept.mk hR
  clear hR
  go_enter Try.func42, Try.ntmps42
  go_upto_region 3 with (go_at_call 27; refine (VN _ HN0).mono ?_; rintro e w1 ⟨rfl, hb1⟩; have HX1 := Kept.mk (HX0.out.new_ hb1); have HD1 := Kept.mk (join HD0.out hb1); clear n0 n1; have n0 := HX1.out.cell 0 (v := .slice cA caps.length ck) rfl; have n1 := HX1.out.cell 1 (v := .slice fA flows.length fk) rfl; have nl1 := HX1.out.lt)
  clear HX0 HD0 HN0 n0 n1 nl1
  go_wp2_with fail
  go_loopw [29] (fun v wr => ∃ k : Nat, k ≤ flows.length ∧ v = .int .i64 k ∧ Kept (Blk wr w.heap.size 25 #[.slice cA caps.length ck, .slice fA flows.length fk] ∧ Below w.heap.size w wr)) (fun v _ => flows.length - (intOf v).toNat)
  case atStart => exact ⟨0, Nat.zero_le _, rfl, ⟨HX1.out, HD1.out⟩⟩
  case round =>
    clear HX1 HD1
    obtain ⟨k, hk, rfl, HB⟩ := hrel
    by_cases hlt : k < flows.length
    · obtain ⟨r, bR, oR, hr, rfl, -, hbR, hcl⟩ := (HRS.out.new_ HB.out.2).at_ (show k < rs.length by rw [HRL.out]; exact hlt)
      have c0 := hcl 0 _ rfl
      have c1 := hcl 1 _ rfl
      simp only [Nat.add_zero] at c0
      have hok := HRO.out r (List.mem_of_getElem? hr)
      have h64 := okQ_R64 hok
      have V1 := fun w => valid_c r w h64.1.1 h64.1.2 h64.2.1 h64.2.2
      rw [hok] at V1
      unfold rqv at V1
      have HB1 : Kept (Blk (wr.alloc (.cells #[.int .i64 r.n, .int .i64 r.d] 32)) w.heap.size 25 #[.slice cA caps.length ck, .slice fA flows.length fk] ∧ Below w.heap.size w (wr.alloc (.cells #[.int .i64 r.n, .int .i64 r.d] 32))) := ⟨HB.out.1.alloc _, HB.out.2.alloc HB.out.2.size _⟩
      clear hcl hr hok h64
      go_wp2_with (go_at_call 22; refine (V1 _).mono ?_; rintro e w2 ⟨rfl, hb2⟩; have HB2 : Kept (Blk w2 w.heap.size 25 #[.slice cA caps.length ck, .slice fA flows.length fk] ∧ Below w.heap.size w w2) := ⟨HB1.out.1.new_ hb2, join HB1.out.2 hb2⟩; clear hb2)
      go_roundw
      case rel => exact ⟨k + 1, by omega, by go_num, HB2⟩
      case measure => simp [intOf]; omega
    · obtain rfl : k = flows.length := by omega
      clear hlt
      have n0 := HB.out.1.cell 0 (v := .slice cA caps.length ck) rfl
      have n1 := HB.out.1.cell 1 (v := .slice fA flows.length fk) rfl
      have nl1 := HB.out.1.lt
      go_upto_region 10 with fail
      obtain ⟨gr, hgr⟩ : ∃ g, g = wr.heap.size := ⟨_, rfl⟩
      rw [← hgr]
      obtain ⟨V, hV, HL⟩ : ∃ V, V = (wr.alloc (.cells ((List.replicate caps.length (⟨0, 0⟩ : Rq)).flatMap ccell).toArray 32)).alloc (.cells #[.slice (some ⟨gr, 0, none⟩) caps.length caps.length] 22) ∧ Kept (LD w V ⟨caps, cA, ck, flows, fA, fk⟩ (gr + 1) gr (List.replicate 0 ⟨0, 1⟩ ++ List.replicate (caps.length - 0) ⟨0, 0⟩)) := by
        subst hgr
        have h2 : Blk ((wr.alloc (.cells ((List.replicate caps.length (⟨0, 0⟩ : Rq)).flatMap ccell).toArray 32)).alloc (.cells #[.slice (some ⟨wr.heap.size, 0, none⟩) caps.length caps.length] 22)) (wr.heap.size + 1) 22 #[.slice (some ⟨wr.heap.size, 0, none⟩) caps.length caps.length] := by
          have := Blk.new (wr.alloc (.cells ((List.replicate caps.length (⟨0, 0⟩ : Rq)).flatMap ccell).toArray 32)) 22 #[.slice (some ⟨wr.heap.size, 0, none⟩) caps.length caps.length]
          rwa [World.size_alloc] at this
        have hlt := HB.out.1.lt
        exact ⟨_, rfl, ⟨(HB.out.1.alloc _).alloc _, h2, RowBlk.alloc (Blk.new _ _ _) _, (HB.out.2.alloc HB.out.2.size _).alloc (by rw [World.size_alloc]; omega) _, by omega⟩⟩
      obtain ⟨bL, hbL⟩ : ∃ g, g = gr + 1 := ⟨_, rfl⟩
      rw [← hV, ← hbL]
      rw [← hbL] at HL
      clear hV hgr hbL HB n0 n1 nl1 hmkR VN
      have b0 := HL.out.lb.cell 0 (v := .slice (some ⟨gr, 0, none⟩) caps.length caps.length) rfl
      have b1 := HL.out.lb.lt
      go_wp2_with fail
      go_loopw [43] (fun v wr => ∃ k : Nat, k ≤ caps.length ∧ v = .int .i64 k ∧ Kept (LD w wr ⟨caps, cA, ck, flows, fA, fk⟩ bL gr (List.replicate k ⟨0, 1⟩ ++ List.replicate (caps.length - k) ⟨0, 0⟩))) (fun v _ => caps.length - (intOf v).toNat)
      case atStart => exact ⟨0, Nat.zero_le _, rfl, HL⟩
      case round =>
        clear HL b0 b1
        obtain ⟨k, hk, rfl, HL⟩ := hrel
        have b0 := HL.out.lb.cell 0 (v := .slice (some ⟨gr, 0, none⟩) caps.length caps.length) rfl
        have b1 := HL.out.lb.lt
        by_cases hlt : k < caps.length
        · obtain ⟨L, hL⟩ : ∃ L, L = List.replicate k (⟨0, 1⟩ : Rq) ++ List.replicate (caps.length - k) ⟨0, 0⟩ := ⟨_, rfl⟩
          have hkL : k < L.length := by rw [hL]; simp; omega
          have HNX : Kept (L.set k ⟨0, 1⟩ = List.replicate (k + 1) (⟨0, 1⟩ : Rq) ++ List.replicate (caps.length - (k + 1)) ⟨0, 0⟩) := ⟨by rw [hL]; exact fill_next hlt⟩
          rw [← hL] at HL
          obtain ⟨r, hr⟩ := get_some hkL
          have r0 := HL.out.rr.cell ccell_len hr (j := 0) rfl
          have r1 := HL.out.rr.cell ccell_len hr (j := 1) rfl
          simp only [Nat.add_zero] at r0
          have rf0 := HL.out.rr.free (k * 2)
          have rf1 := HL.out.rr.free (k * 2 + 1)
          have rl := HL.out.rr.lt
          have HKL := Kept.mk hkL
          clear hL hkL hr
          go_wp2_with fail
          go_roundw
          case rel => exact ⟨k + 1, by omega, by go_num, by rw [← HNX.out]; exact ⟨HL.out.put HKL.out ⟨0, 1⟩⟩⟩
          case measure => simp [intOf]; omega
        · obtain rfl : k = caps.length := by omega
          clear hlt
          have HL0 : Kept (LD w wr ⟨caps, cA, ck, flows, fA, fk⟩ bL gr (ldK ⟨caps, cA, ck, flows, fA, fk⟩ rs 0).1) := ⟨by have := HL.out; rwa [Nat.sub_self, List.replicate_zero, List.append_nil] at this⟩
          clear HL
          have n0 := HL0.out.x.cell 0 (v := .slice cA caps.length ck) rfl
          have n1 := HL0.out.x.cell 1 (v := .slice fA flows.length fk) rfl
          try dsimp only at n0 n1
          have nl1 := HL0.out.x.lt
          obtain ⟨wa, rfl⟩ : ∃ wa : World, wa = wr := ⟨_, rfl⟩
          go_wp2_with fail
          go_loopw [55] (fun v wr => ∃ k : Nat, k ≤ flows.length ∧ v = .int .i64 k ∧ Kept ((ldK ⟨caps, cA, ck, flows, fA, fk⟩ rs k).2 = 0 ∧ LD w wr ⟨caps, cA, ck, flows, fA, fk⟩ bL gr (ldK ⟨caps, cA, ck, flows, fA, fk⟩ rs k).1)) (fun v _ => flows.length - (intOf v).toNat)
          case atStart => exact ⟨0, Nat.zero_le _, rfl, ⟨rfl, HL0.out⟩⟩
          case round =>
            clear HL0 b0 b1 n0 n1 nl1
            obtain ⟨k, hk, rfl, HL⟩ := hrel
            by_cases hlt : k < flows.length
            · obtain ⟨p, bF, oF, hp, rfl, -, hbF, ⟨c0, c1, c2, c3⟩, hfl⟩ := (HN.out.new_ HL.out.2.blw).flowAt hlt
              obtain ⟨ls, pA, kap, pb, pd⟩ := p
              dsimp only at c0 c1 c2 c3 hp
              have HFO := Kept.mk (flo_of (n := ⟨caps, cA, ck, flows, some ⟨bF, oF, none⟩, fk⟩) hp)
              obtain ⟨r, bR, oR, hr, rfl, -, -, -⟩ := (HRS.out.new_ HL.out.2.blw).at_ (show k < rs.length by rw [HRL.out]; exact hlt)
              have HRK := Kept.mk hr
              have hrd : rs.getD k rq0 = r := by rw [List.getD_eq_getElem?_getD, hr]; rfl
              have HROK := Kept.mk (HRO.out r (List.mem_of_getElem? hr))
              have HPM := Kept.mk (List.mem_of_getElem? hp)
              obtain ⟨s0, hs0⟩ : ∃ s, s = ldK ⟨caps, cA, ck, flows, some ⟨bF, oF, none⟩, fk⟩ rs k := ⟨_, rfl⟩
              have HNX : Kept (ldK ⟨caps, cA, ck, flows, some ⟨bF, oF, none⟩, fk⟩ rs (k + 1) = ldF r ls s0) := ⟨by rw [ldK, HFO.out, hrd, ← hs0]⟩
              have HOK : Kept (AllOk s0.1) := ⟨by rw [hs0]; exact ldK_ok _ _ _⟩
              have HLN : Kept (s0.1.length = caps.length) := ⟨by rw [hs0]; exact ldK_len _ _ _⟩
              have HRG : Kept (∀ x ∈ ls, 0 ≤ x ∧ x < caps.length) := ⟨HLK.out.rg _ (List.mem_of_getElem? hp)⟩
              have hlm : ls.length ≤ 9223372036854775807 := by have h1 := hfl.le; have h2 := hfl.mx; unfold maxLen at h2; dsimp only at h1 h2; omega
              rw [← hs0] at HL
              clear hp hr hrd hs0 hfl hbF
              go_upto_region 19 with fail
              obtain ⟨b12, hb12⟩ : ∃ b, b = wr.heap.size := ⟨_, rfl⟩
              obtain ⟨V, hV, HV⟩ : ∃ V, V = wr.alloc (.cells #[.slice pA ls.length kap, .bool pb, .int .i64 pd.n, .int .i64 pd.d] 37) ∧ Kept ((ldF r (ls.take 0) s0).2 = 0 ∧ LD w V ⟨caps, cA, ck, flows, some ⟨bF, oF, none⟩, fk⟩ bL gr (ldF r (ls.take 0) s0).1 ∧ Blk V b12 37 #[.slice pA ls.length kap, .bool pb, .int .i64 pd.n, .int .i64 pd.d] ∧ gr < b12 ∧ bL < b12) := ⟨_, rfl, ⟨HL.out.1, HL.out.2.alloc _, by rw [hb12]; exact Blk.new _ _ _, by rw [hb12]; exact ⟨HL.out.2.rr.lt, HL.out.2.lb.lt⟩⟩⟩
              rw [← hV, ← hb12]
              clear hV hb12 HL c0 c1 c2 c3
              have q0 := HV.out.2.2.1.cell 0 (v := .slice pA ls.length kap) rfl
              have q3 := HV.out.2.2.1.lt
              go_wp2_with fail
              go_loopw [63] (fun v wr => ∃ j : Nat, j ≤ ls.length ∧ v = .int .i64 j ∧ Kept ((ldF r (ls.take j) s0).2 = 0 ∧ LD w wr ⟨caps, cA, ck, flows, some ⟨bF, oF, none⟩, fk⟩ bL gr (ldF r (ls.take j) s0).1 ∧ Blk wr b12 37 #[.slice pA ls.length kap, .bool pb, .int .i64 pd.n, .int .i64 pd.d] ∧ gr < b12 ∧ bL < b12)) (fun v _ => ls.length - (intOf v).toNat)
              case atStart => exact ⟨0, Nat.zero_le _, rfl, HV⟩
              case round =>
                clear HV q0 q3
                obtain ⟨j, hj, rfl, HV⟩ := hrel
                by_cases hlj : j < ls.length
                · obtain ⟨xi, bI, oI, hx, rfl, -, hbI, c0⟩ := ((HN.out.fl _ HPM.out).new_ HV.out.2.1.blw).link hlj
                  dsimp only at hx c0
                  obtain ⟨h0, h1⟩ := HRG.out xi (List.mem_of_getElem? hx)
                  obtain ⟨l, rfl⟩ : ∃ l : Nat, xi = l := ⟨xi.toNat, by omega⟩
                  have hlc : l < caps.length := by omega
                  obtain ⟨r0, r1, -⟩ := (HRS.out.new_ HV.out.2.1.blw).rat HRK.out
                  obtain ⟨L, hL⟩ : ∃ L, L = (ldF r (ls.take j) s0).1 := ⟨_, rfl⟩
                  have hLl : L.length = caps.length := by rw [hL, ldF_len, HLN.out]
                  have hLo : AllOk L := by rw [hL]; exact ldF_ok _ HOK.out
                  have AD := fun w h1 h2 => addl_c bL gr caps.length l L r w h1 h2 hLl hlc hc32 (hLo.getD l) HROK.out HV.out.2.1.lo.2.2
                  have hnx : ldF r (ls.take (j + 1)) s0 = (L.set l (ad (L.getD l rq0) r).1, (ad (L.getD l rq0) r).2) := by
                    rw [take_next hx, ldF_snoc, ldS, if_pos HV.out.1, ← hL, Int.toNat_natCast]
                  obtain ⟨Q, hQ⟩ : ∃ Q, Q = (ad (L.getD l rq0) r).1 := ⟨_, rfl⟩
                  obtain ⟨E, hE⟩ : ∃ E, E = (ad (L.getD l rq0) r).2 := ⟨_, rfl⟩
                  have hE2 : E = 0 ∨ E = 10 := by rw [hE]; exact opR_err _
                  rw [← hQ, ← hE] at AD hnx
                  have HNJ := Kept.mk hnx
                  rw [← hL] at HV
                  clear hx hL hLl hLo hnx hQ hE h0 h1
                  rcases hE2 with rfl | rfl
                  · go_wp2_with (go_at_call 58; refine (AD _ HV.out.2.1.lb HV.out.2.1.rr).mono ?_; rintro e w5 ⟨rfl, ha, hb, hc⟩; have HV5 : Kept (LD w w5 ⟨caps, cA, ck, flows, some ⟨bF, oF, none⟩, fk⟩ bL gr (L.set l Q) ∧ Blk w5 b12 37 #[.slice (some ⟨bI, oI, none⟩) ls.length kap, .bool pb, .int .i64 pd.n, .int .i64 pd.d] ∧ gr < b12 ∧ bL < b12) := ⟨HV.out.2.1.step ha hb hc, HV.out.2.2.1.only hc (by have := HV.out.2.2.2; omega), HV.out.2.2.2⟩; clear ha hb hc)
                    go_roundw
                    case rel => exact ⟨j + 1, by omega, by go_num, by rw [HNJ.out]; exact ⟨rfl, HV5.out⟩⟩
                    case measure => simp [intOf]; omega
                  · have HST : Kept ((loadP ⟨caps, cA, ck, flows, some ⟨bF, oF, none⟩, fk⟩ rs).2 = 10) := ⟨by
                      have h2 : ldK ⟨caps, cA, ck, flows, some ⟨bF, oF, none⟩, fk⟩ rs (k + 1) = (L.set l Q, 10) := by rw [HNX.out]; exact ldF_stop HNJ.out (by show (10 : Int) ≠ 0; decide)
                      have h3 := ldK_stop h2 (by show (10 : Int) ≠ 0; decide) (flows.length - (k + 1))
                      rw [show k + 1 + (flows.length - (k + 1)) = flows.length by omega] at h3
                      rw [loadP, h3]⟩
                    go_wp2_with (go_at_call 58; refine (AD _ HV.out.2.1.lb HV.out.2.1.rr).mono ?_; rintro e w5 ⟨rfl, ha, hb, hc⟩; have HV5 := Kept.mk (HV.out.2.1.step ha hb hc); clear ha hb hc)
                    rw [HR.out]
                    exact Or.inr ⟨HST.out, rfl, HV5.out.blw⟩
                · obtain rfl : j = ls.length := by omega
                  have HE : Kept ((ldK ⟨caps, cA, ck, flows, some ⟨bF, oF, none⟩, fk⟩ rs (k + 1)).2 = 0 ∧ LD w wr ⟨caps, cA, ck, flows, some ⟨bF, oF, none⟩, fk⟩ bL gr (ldK ⟨caps, cA, ck, flows, some ⟨bF, oF, none⟩, fk⟩ rs (k + 1)).1) := ⟨by have h := HV.out; rw [List.take_length] at h; rw [HNX.out]; exact ⟨h.1, h.2.1⟩⟩
                  clear HV
                  go_wp2_with fail
                  go_roundw
                  case rel => exact ⟨k + 1, by omega, by go_num, HE⟩
                  case measure => simp [intOf]; omega
            · obtain rfl : k = flows.length := by omega
              clear hlt
              have b0 := HL.out.2.lb.cell 0 (v := .slice (some ⟨gr, 0, none⟩) caps.length caps.length) rfl
              have b1 := HL.out.2.lb.lt
              go_wp2_with fail
              rw [HR.out]
              exact Or.inl ⟨HL.out.1, gr, rfl, HL.out.2.rr, HL.out.2.lo.1, HL.out.2.blw⟩
end Go.Proofs.Ytjalegdfofogcaa
